/- Printed by gen.py: the conditions of the translated functions, each a plain formula over heaps; the kernel checks that it is the one that the translation gives. Conditions: none. -/
import Derived.Test.YtgdgebmlcgohhaaGreatDoorV8
import Derived.Test.YtgdgebmlcgohhaaGreatDoorProg
namespace Go.Proofs.YtgdgebmlcgohhaaGreatDoor.F
open Go Go.VC Go.Proofs
set_option linter.unusedVariables false
set_option maxRecDepth 100000

theorem mixed : Tryz.prog.follows .mixedOrders = true := by kernel_rfl
/-! ### 4 refrain/refrainlaw30.ProtoFresh -/
noncomputable def c4 : Code := match Tryz.f4.body with | some c => c | none => .skip
noncomputable def an4 : Ann := { loops := fun i => match i with | 13 => [(4, .bool), (9, .int .i64)] | 25 => [(4, .bool), (16, .int .i64)] | _ => [], draws := fun i => #[], joins := fun i => none }
def G4a (a9 : Option Addr) (la9 ca9 : Nat) (b19 : Nat) (y_25 : Bool) (h23 : Heap) (R : KV) : Prop :=
 VNew h23 (.cells #[.slice none 0 0, .slice none 0 0, .slice none 0 0, .slice none 0 0, .slice none 0 0, .slice none 0 0, .int .i64 0] 52) fun b99 h100 =>
 ∃ I101 : Nat → Heap → Bool → Int → Prop, (∃ n102, I101 n102 h100 y_25 0) ∧
 ∀ (n102 : Nat) (h103 : Heap) (g104 : Env) (y_105 : Bool) (i_106 : Int), I101 n102 h103 y_105 i_106 →
 cond (decide (i_106 < (la9 : Int)))
 (VIdx a9 la9 i_106 1 fun a108 =>
 ∃ (a109 : Option Addr) (la109 ca109 : Nat), cellH h103 a108 = some (.slice a109 la109 ca109) ∧
 CallsH Tryz.prog 11 #[.slice a109 la109 ca109] h103 fun v110 h111 =>
 ∃ (a112 : Option Addr) (la112 ca112 : Nat), v110 = .slice a112 la112 ca112 ∧
 VIdx a9 la9 i_106 1 fun a113 =>
 ∃ (a114 : Option Addr) (la114 ca114 : Nat), cellH h111 a113 = some (.slice a114 la114 ca114) ∧
 VSlice 1 a112 ca112 0 (la114 : Int) (la112 : Int) fun a115 la115 ca115 =>
 CallsH Tryz.prog 18 #[.slice a115 la115 ca115] h111 fun v116 h117 =>
 ∃ x118 : Int, ∃ x119 : Int, ∃ s120 : ByteArray, ∃ s121 : ByteArray, ∃ (a122 : Option Addr) (la122 ca122 : Nat), ∃ (a123 : Option Addr) (la123 ca123 : Nat), ∃ x124 : Int, v116 = .tuple #[.agg #[.int .u32 x118, .int .i64 x119, .string s120, .string s121, .slice a122 la122 ca122, .slice a123 la123 ca123], .int .i64 x124] ∧
 VNew h117 (.cells #[.int .u32 0, .int .i64 0, .string (ByteArray.mk #[]), .string (ByteArray.mk #[]), .slice none 0 0, .slice none 0 0] 57) fun b125 h126 =>
 storeL ⟨b125, 0, none⟩ 0 [.int .u32 x118, .int .i64 x119, .string s120, .string s121, .slice a122 la122 ca122, .slice a123 la123 ca123] h126 fun h127 =>
 VIdx a9 la9 i_106 1 fun a128 =>
 ∃ (a129 : Option Addr) (la129 ca129 : Nat), cellH h127 a128 = some (.slice a129 la129 ca129) ∧
 VSlice 1 a112 ca112 0 (la129 : Int) (la112 : Int) fun a130 la130 ca130 =>
 CallsH Tryz.prog 19 #[.slice a130 la130 ca130] h127 fun v131 h132 =>
 ∃ x133 : Int, ∃ b134 : Bool, ∃ x135 : Int, ∃ x136 : Int, ∃ (a137 : Option Addr) (la137 ca137 : Nat), ∃ (a138 : Option Addr) (la138 ca138 : Nat), ∃ (a139 : Option Addr) (la139 ca139 : Nat), ∃ (a140 : Option Addr) (la140 ca140 : Nat), ∃ x141 : Int, ∃ x142 : Int, ∃ x143 : Int, ∃ b144 : Bool, ∃ x145 : Int, v131 = .tuple #[.agg #[.int .u32 x133, .bool b134, .int .i64 x135, .int .i64 x136, .slice a137 la137 ca137, .slice a138 la138 ca138, .slice a139 la139 ca139, .slice a140 la140 ca140, .int .i64 x141, .int .i64 x142, .int .i64 x143, .bool b144], .int .i64 x145] ∧
 VNew h132 (.cells #[.int .u32 0, .bool false, .int .i64 0, .int .i64 0, .slice none 0 0, .slice none 0 0, .slice none 0 0, .slice none 0 0, .int .i64 0, .int .i64 0, .int .i64 0, .bool false] 65) fun b146 h147 =>
 storeL ⟨b146, 0, none⟩ 0 [.int .u32 x133, .bool b134, .int .i64 x135, .int .i64 x136, .slice a137 la137 ca137, .slice a138 la138 ca138, .slice a139 la139 ca139, .slice a140 la140 ca140, .int .i64 x141, .int .i64 x142, .int .i64 x143, .bool b144] h147 fun h148 =>
 VIdx a9 la9 i_106 1 fun a149 =>
 ∃ (a150 : Option Addr) (la150 ca150 : Nat), cellH h148 a149 = some (.slice a150 la150 ca150) ∧
 CallsH Tryz.prog 18 #[.slice a150 la150 ca150] h148 fun v151 h152 =>
 ∃ x153 : Int, ∃ x154 : Int, ∃ s155 : ByteArray, ∃ s156 : ByteArray, ∃ (a157 : Option Addr) (la157 ca157 : Nat), ∃ (a158 : Option Addr) (la158 ca158 : Nat), ∃ x159 : Int, v151 = .tuple #[.agg #[.int .u32 x153, .int .i64 x154, .string s155, .string s156, .slice a157 la157 ca157, .slice a158 la158 ca158], .int .i64 x159] ∧
 VNew h152 (.cells #[.int .u32 0, .int .i64 0, .string (ByteArray.mk #[]), .string (ByteArray.mk #[]), .slice none 0 0, .slice none 0 0] 57) fun b160 h161 =>
 storeL ⟨b160, 0, none⟩ 0 [.int .u32 x153, .int .i64 x154, .string s155, .string s156, .slice a157 la157 ca157, .slice a158 la158 ca158] h161 fun h162 =>
 VIdx a9 la9 i_106 1 fun a163 =>
 ∃ (a164 : Option Addr) (la164 ca164 : Nat), cellH h162 a163 = some (.slice a164 la164 ca164) ∧
 CallsH Tryz.prog 19 #[.slice a164 la164 ca164] h162 fun v165 h166 =>
 ∃ x167 : Int, ∃ b168 : Bool, ∃ x169 : Int, ∃ x170 : Int, ∃ (a171 : Option Addr) (la171 ca171 : Nat), ∃ (a172 : Option Addr) (la172 ca172 : Nat), ∃ (a173 : Option Addr) (la173 ca173 : Nat), ∃ (a174 : Option Addr) (la174 ca174 : Nat), ∃ x175 : Int, ∃ x176 : Int, ∃ x177 : Int, ∃ b178 : Bool, ∃ x179 : Int, v165 = .tuple #[.agg #[.int .u32 x167, .bool b168, .int .i64 x169, .int .i64 x170, .slice a171 la171 ca171, .slice a172 la172 ca172, .slice a173 la173 ca173, .slice a174 la174 ca174, .int .i64 x175, .int .i64 x176, .int .i64 x177, .bool b178], .int .i64 x179] ∧
 VNew h166 (.cells #[.int .u32 0, .bool false, .int .i64 0, .int .i64 0, .slice none 0 0, .slice none 0 0, .slice none 0 0, .slice none 0 0, .int .i64 0, .int .i64 0, .int .i64 0, .bool false] 65) fun b180 h181 =>
 storeL ⟨b180, 0, none⟩ 0 [.int .u32 x167, .bool b168, .int .i64 x169, .int .i64 x170, .slice a171 la171 ca171, .slice a172 la172 ca172, .slice a173 la173 ca173, .slice a174 la174 ca174, .int .i64 x175, .int .i64 x176, .int .i64 x177, .bool b178] h181 fun h182 =>
 cond (x124 != x159) (R (.bool false) h182) (cond (x145 != x179) (R (.bool false) h182) (∃ x183 : Int, cellH h182 ⟨b125, 0, none⟩ = some (.int .u32 x183) ∧
 ∃ x184 : Int, cellH h182 ⟨b125, 1, none⟩ = some (.int .i64 x184) ∧
 ∃ s185 : ByteArray, cellH h182 ⟨b125, 2, none⟩ = some (.string s185) ∧
 ∃ s186 : ByteArray, cellH h182 ⟨b125, 3, none⟩ = some (.string s186) ∧
 ∃ (a187 : Option Addr) (la187 ca187 : Nat), cellH h182 ⟨b125, 4, none⟩ = some (.slice a187 la187 ca187) ∧
 ∃ (a188 : Option Addr) (la188 ca188 : Nat), cellH h182 ⟨b125, 5, none⟩ = some (.slice a188 la188 ca188) ∧
 ∃ x189 : Int, cellH h182 ⟨b160, 0, none⟩ = some (.int .u32 x189) ∧
 ∃ x190 : Int, cellH h182 ⟨b160, 1, none⟩ = some (.int .i64 x190) ∧
 ∃ s191 : ByteArray, cellH h182 ⟨b160, 2, none⟩ = some (.string s191) ∧
 ∃ s192 : ByteArray, cellH h182 ⟨b160, 3, none⟩ = some (.string s192) ∧
 ∃ (a193 : Option Addr) (la193 ca193 : Nat), cellH h182 ⟨b160, 4, none⟩ = some (.slice a193 la193 ca193) ∧
 ∃ (a194 : Option Addr) (la194 ca194 : Nat), cellH h182 ⟨b160, 5, none⟩ = some (.slice a194 la194 ca194) ∧
 CallsH Tryz.prog 20 #[.agg #[.int .u32 x183, .int .i64 x184, .string s185, .string s186, .slice a187 la187 ca187, .slice a188 la188 ca188], .agg #[.int .u32 x189, .int .i64 x190, .string s191, .string s192, .slice a193 la193 ca193, .slice a194 la194 ca194]] h182 fun v195 h196 =>
 ∃ b197 : Bool, v195 = .bool b197 ∧
 cond (!b197) (R (.bool false) h196) (∃ x198 : Int, cellH h196 ⟨b146, 0, none⟩ = some (.int .u32 x198) ∧
 ∃ b199 : Bool, cellH h196 ⟨b146, 1, none⟩ = some (.bool b199) ∧
 ∃ x200 : Int, cellH h196 ⟨b146, 2, none⟩ = some (.int .i64 x200) ∧
 ∃ x201 : Int, cellH h196 ⟨b146, 3, none⟩ = some (.int .i64 x201) ∧
 ∃ (a202 : Option Addr) (la202 ca202 : Nat), cellH h196 ⟨b146, 4, none⟩ = some (.slice a202 la202 ca202) ∧
 ∃ (a203 : Option Addr) (la203 ca203 : Nat), cellH h196 ⟨b146, 5, none⟩ = some (.slice a203 la203 ca203) ∧
 ∃ (a204 : Option Addr) (la204 ca204 : Nat), cellH h196 ⟨b146, 6, none⟩ = some (.slice a204 la204 ca204) ∧
 ∃ (a205 : Option Addr) (la205 ca205 : Nat), cellH h196 ⟨b146, 7, none⟩ = some (.slice a205 la205 ca205) ∧
 ∃ x206 : Int, cellH h196 ⟨b146, 8, none⟩ = some (.int .i64 x206) ∧
 ∃ x207 : Int, cellH h196 ⟨b146, 9, none⟩ = some (.int .i64 x207) ∧
 ∃ x208 : Int, cellH h196 ⟨b146, 10, none⟩ = some (.int .i64 x208) ∧
 ∃ b209 : Bool, cellH h196 ⟨b146, 11, none⟩ = some (.bool b209) ∧
 ∃ x210 : Int, cellH h196 ⟨b180, 0, none⟩ = some (.int .u32 x210) ∧
 ∃ b211 : Bool, cellH h196 ⟨b180, 1, none⟩ = some (.bool b211) ∧
 ∃ x212 : Int, cellH h196 ⟨b180, 2, none⟩ = some (.int .i64 x212) ∧
 ∃ x213 : Int, cellH h196 ⟨b180, 3, none⟩ = some (.int .i64 x213) ∧
 ∃ (a214 : Option Addr) (la214 ca214 : Nat), cellH h196 ⟨b180, 4, none⟩ = some (.slice a214 la214 ca214) ∧
 ∃ (a215 : Option Addr) (la215 ca215 : Nat), cellH h196 ⟨b180, 5, none⟩ = some (.slice a215 la215 ca215) ∧
 ∃ (a216 : Option Addr) (la216 ca216 : Nat), cellH h196 ⟨b180, 6, none⟩ = some (.slice a216 la216 ca216) ∧
 ∃ (a217 : Option Addr) (la217 ca217 : Nat), cellH h196 ⟨b180, 7, none⟩ = some (.slice a217 la217 ca217) ∧
 ∃ x218 : Int, cellH h196 ⟨b180, 8, none⟩ = some (.int .i64 x218) ∧
 ∃ x219 : Int, cellH h196 ⟨b180, 9, none⟩ = some (.int .i64 x219) ∧
 ∃ x220 : Int, cellH h196 ⟨b180, 10, none⟩ = some (.int .i64 x220) ∧
 ∃ b221 : Bool, cellH h196 ⟨b180, 11, none⟩ = some (.bool b221) ∧
 CallsH Tryz.prog 21 #[.agg #[.int .u32 x198, .bool b199, .int .i64 x200, .int .i64 x201, .slice a202 la202 ca202, .slice a203 la203 ca203, .slice a204 la204 ca204, .slice a205 la205 ca205, .int .i64 x206, .int .i64 x207, .int .i64 x208, .bool b209], .agg #[.int .u32 x210, .bool b211, .int .i64 x212, .int .i64 x213, .slice a214 la214 ca214, .slice a215 la215 ca215, .slice a216 la216 ca216, .slice a217 la217 ca217, .int .i64 x218, .int .i64 x219, .int .i64 x220, .bool b221]] h196 fun v222 h223 =>
 ∃ b224 : Bool, v222 = .bool b224 ∧
 cond (!b224)
 (R (.bool false) h223)
 (∃ x225 : Int, cellH h223 ⟨b125, 0, none⟩ = some (.int .u32 x225) ∧
 ∃ x226 : Int, cellH h223 ⟨b125, 1, none⟩ = some (.int .i64 x226) ∧
 ∃ s227 : ByteArray, cellH h223 ⟨b125, 2, none⟩ = some (.string s227) ∧
 ∃ s228 : ByteArray, cellH h223 ⟨b125, 3, none⟩ = some (.string s228) ∧
 ∃ (a229 : Option Addr) (la229 ca229 : Nat), cellH h223 ⟨b125, 4, none⟩ = some (.slice a229 la229 ca229) ∧
 ∃ (a230 : Option Addr) (la230 ca230 : Nat), cellH h223 ⟨b125, 5, none⟩ = some (.slice a230 la230 ca230) ∧
 ∃ x231 : Int, cellH h223 ⟨b146, 0, none⟩ = some (.int .u32 x231) ∧
 ∃ b232 : Bool, cellH h223 ⟨b146, 1, none⟩ = some (.bool b232) ∧
 ∃ x233 : Int, cellH h223 ⟨b146, 2, none⟩ = some (.int .i64 x233) ∧
 ∃ x234 : Int, cellH h223 ⟨b146, 3, none⟩ = some (.int .i64 x234) ∧
 ∃ (a235 : Option Addr) (la235 ca235 : Nat), cellH h223 ⟨b146, 4, none⟩ = some (.slice a235 la235 ca235) ∧
 ∃ (a236 : Option Addr) (la236 ca236 : Nat), cellH h223 ⟨b146, 5, none⟩ = some (.slice a236 la236 ca236) ∧
 ∃ (a237 : Option Addr) (la237 ca237 : Nat), cellH h223 ⟨b146, 6, none⟩ = some (.slice a237 la237 ca237) ∧
 ∃ (a238 : Option Addr) (la238 ca238 : Nat), cellH h223 ⟨b146, 7, none⟩ = some (.slice a238 la238 ca238) ∧
 ∃ x239 : Int, cellH h223 ⟨b146, 8, none⟩ = some (.int .i64 x239) ∧
 ∃ x240 : Int, cellH h223 ⟨b146, 9, none⟩ = some (.int .i64 x240) ∧
 ∃ x241 : Int, cellH h223 ⟨b146, 10, none⟩ = some (.int .i64 x241) ∧
 ∃ b242 : Bool, cellH h223 ⟨b146, 11, none⟩ = some (.bool b242) ∧
 CallsH Tryz.prog 22 #[.pointer (some ⟨b99, 0, none⟩), .agg #[.int .u32 x225, .int .i64 x226, .string s227, .string s228, .slice a229 la229 ca229, .slice a230 la230 ca230], .agg #[.int .u32 x231, .bool b232, .int .i64 x233, .int .i64 x234, .slice a235 la235 ca235, .slice a236 la236 ca236, .slice a237 la237 ca237, .slice a238 la238 ca238, .int .i64 x239, .int .i64 x240, .int .i64 x241, .bool b242]] h223 fun v243 h244 =>
 v243 = .tuple #[] ∧
 VIdx a9 la9 i_106 1 fun a245 =>
 ∃ (a246 : Option Addr) (la246 ca246 : Nat), cellH h244 a245 = some (.slice a246 la246 ca246) ∧
 CallsH Tryz.prog 18 #[.slice a246 la246 ca246] h244 fun v247 h248 =>
 ∃ x249 : Int, ∃ x250 : Int, ∃ s251 : ByteArray, ∃ s252 : ByteArray, ∃ (a253 : Option Addr) (la253 ca253 : Nat), ∃ (a254 : Option Addr) (la254 ca254 : Nat), ∃ x255 : Int, v247 = .tuple #[.agg #[.int .u32 x249, .int .i64 x250, .string s251, .string s252, .slice a253 la253 ca253, .slice a254 la254 ca254], .int .i64 x255] ∧
 VNew h248 (.cells #[.int .u32 0, .int .i64 0, .string (ByteArray.mk #[]), .string (ByteArray.mk #[]), .slice none 0 0, .slice none 0 0] 57) fun b256 h257 =>
 storeL ⟨b256, 0, none⟩ 0 [.int .u32 x249, .int .i64 x250, .string s251, .string s252, .slice a253 la253 ca253, .slice a254 la254 ca254] h257 fun h258 =>
 VIdx a9 la9 i_106 1 fun a259 =>
 ∃ (a260 : Option Addr) (la260 ca260 : Nat), cellH h258 a259 = some (.slice a260 la260 ca260) ∧
 CallsH Tryz.prog 19 #[.slice a260 la260 ca260] h258 fun v261 h262 =>
 ∃ x263 : Int, ∃ b264 : Bool, ∃ x265 : Int, ∃ x266 : Int, ∃ (a267 : Option Addr) (la267 ca267 : Nat), ∃ (a268 : Option Addr) (la268 ca268 : Nat), ∃ (a269 : Option Addr) (la269 ca269 : Nat), ∃ (a270 : Option Addr) (la270 ca270 : Nat), ∃ x271 : Int, ∃ x272 : Int, ∃ x273 : Int, ∃ b274 : Bool, ∃ x275 : Int, v261 = .tuple #[.agg #[.int .u32 x263, .bool b264, .int .i64 x265, .int .i64 x266, .slice a267 la267 ca267, .slice a268 la268 ca268, .slice a269 la269 ca269, .slice a270 la270 ca270, .int .i64 x271, .int .i64 x272, .int .i64 x273, .bool b274], .int .i64 x275] ∧
 VNew h262 (.cells #[.int .u32 0, .bool false, .int .i64 0, .int .i64 0, .slice none 0 0, .slice none 0 0, .slice none 0 0, .slice none 0 0, .int .i64 0, .int .i64 0, .int .i64 0, .bool false] 65) fun b276 h277 =>
 storeL ⟨b276, 0, none⟩ 0 [.int .u32 x263, .bool b264, .int .i64 x265, .int .i64 x266, .slice a267 la267 ca267, .slice a268 la268 ca268, .slice a269 la269 ca269, .slice a270 la270 ca270, .int .i64 x271, .int .i64 x272, .int .i64 x273, .bool b274] h277 fun h278 =>
 cond (decide (i_106 < (60 : Int))) (CallsH Tryz.prog 23 #[.pointer (some ⟨b99, 0, none⟩)] h278 fun v279 h280 =>
 ∃ b281 : Bool, v279 = .bool b281 ∧
 cond (!b281) (R (.bool false) h280) (cond (x255 != x159) (R (.bool false) h280) (cond (x275 != x179) (R (.bool false) h280) (∃ x282 : Int, cellH h280 ⟨b256, 0, none⟩ = some (.int .u32 x282) ∧
 ∃ x283 : Int, cellH h280 ⟨b256, 1, none⟩ = some (.int .i64 x283) ∧
 ∃ s284 : ByteArray, cellH h280 ⟨b256, 2, none⟩ = some (.string s284) ∧
 ∃ s285 : ByteArray, cellH h280 ⟨b256, 3, none⟩ = some (.string s285) ∧
 ∃ (a286 : Option Addr) (la286 ca286 : Nat), cellH h280 ⟨b256, 4, none⟩ = some (.slice a286 la286 ca286) ∧
 ∃ (a287 : Option Addr) (la287 ca287 : Nat), cellH h280 ⟨b256, 5, none⟩ = some (.slice a287 la287 ca287) ∧
 ∃ x288 : Int, cellH h280 ⟨b160, 0, none⟩ = some (.int .u32 x288) ∧
 ∃ x289 : Int, cellH h280 ⟨b160, 1, none⟩ = some (.int .i64 x289) ∧
 ∃ s290 : ByteArray, cellH h280 ⟨b160, 2, none⟩ = some (.string s290) ∧
 ∃ s291 : ByteArray, cellH h280 ⟨b160, 3, none⟩ = some (.string s291) ∧
 ∃ (a292 : Option Addr) (la292 ca292 : Nat), cellH h280 ⟨b160, 4, none⟩ = some (.slice a292 la292 ca292) ∧
 ∃ (a293 : Option Addr) (la293 ca293 : Nat), cellH h280 ⟨b160, 5, none⟩ = some (.slice a293 la293 ca293) ∧
 CallsH Tryz.prog 20 #[.agg #[.int .u32 x282, .int .i64 x283, .string s284, .string s285, .slice a286 la286 ca286, .slice a287 la287 ca287], .agg #[.int .u32 x288, .int .i64 x289, .string s290, .string s291, .slice a292 la292 ca292, .slice a293 la293 ca293]] h280 fun v294 h295 =>
 ∃ b296 : Bool, v294 = .bool b296 ∧
 cond (!b296) (R (.bool false) h295) (∃ x297 : Int, cellH h295 ⟨b276, 0, none⟩ = some (.int .u32 x297) ∧
 ∃ b298 : Bool, cellH h295 ⟨b276, 1, none⟩ = some (.bool b298) ∧
 ∃ x299 : Int, cellH h295 ⟨b276, 2, none⟩ = some (.int .i64 x299) ∧
 ∃ x300 : Int, cellH h295 ⟨b276, 3, none⟩ = some (.int .i64 x300) ∧
 ∃ (a301 : Option Addr) (la301 ca301 : Nat), cellH h295 ⟨b276, 4, none⟩ = some (.slice a301 la301 ca301) ∧
 ∃ (a302 : Option Addr) (la302 ca302 : Nat), cellH h295 ⟨b276, 5, none⟩ = some (.slice a302 la302 ca302) ∧
 ∃ (a303 : Option Addr) (la303 ca303 : Nat), cellH h295 ⟨b276, 6, none⟩ = some (.slice a303 la303 ca303) ∧
 ∃ (a304 : Option Addr) (la304 ca304 : Nat), cellH h295 ⟨b276, 7, none⟩ = some (.slice a304 la304 ca304) ∧
 ∃ x305 : Int, cellH h295 ⟨b276, 8, none⟩ = some (.int .i64 x305) ∧
 ∃ x306 : Int, cellH h295 ⟨b276, 9, none⟩ = some (.int .i64 x306) ∧
 ∃ x307 : Int, cellH h295 ⟨b276, 10, none⟩ = some (.int .i64 x307) ∧
 ∃ b308 : Bool, cellH h295 ⟨b276, 11, none⟩ = some (.bool b308) ∧
 ∃ x309 : Int, cellH h295 ⟨b180, 0, none⟩ = some (.int .u32 x309) ∧
 ∃ b310 : Bool, cellH h295 ⟨b180, 1, none⟩ = some (.bool b310) ∧
 ∃ x311 : Int, cellH h295 ⟨b180, 2, none⟩ = some (.int .i64 x311) ∧
 ∃ x312 : Int, cellH h295 ⟨b180, 3, none⟩ = some (.int .i64 x312) ∧
 ∃ (a313 : Option Addr) (la313 ca313 : Nat), cellH h295 ⟨b180, 4, none⟩ = some (.slice a313 la313 ca313) ∧
 ∃ (a314 : Option Addr) (la314 ca314 : Nat), cellH h295 ⟨b180, 5, none⟩ = some (.slice a314 la314 ca314) ∧
 ∃ (a315 : Option Addr) (la315 ca315 : Nat), cellH h295 ⟨b180, 6, none⟩ = some (.slice a315 la315 ca315) ∧
 ∃ (a316 : Option Addr) (la316 ca316 : Nat), cellH h295 ⟨b180, 7, none⟩ = some (.slice a316 la316 ca316) ∧
 ∃ x317 : Int, cellH h295 ⟨b180, 8, none⟩ = some (.int .i64 x317) ∧
 ∃ x318 : Int, cellH h295 ⟨b180, 9, none⟩ = some (.int .i64 x318) ∧
 ∃ x319 : Int, cellH h295 ⟨b180, 10, none⟩ = some (.int .i64 x319) ∧
 ∃ b320 : Bool, cellH h295 ⟨b180, 11, none⟩ = some (.bool b320) ∧
 CallsH Tryz.prog 21 #[.agg #[.int .u32 x297, .bool b298, .int .i64 x299, .int .i64 x300, .slice a301 la301 ca301, .slice a302 la302 ca302, .slice a303 la303 ca303, .slice a304 la304 ca304, .int .i64 x305, .int .i64 x306, .int .i64 x307, .bool b308], .agg #[.int .u32 x309, .bool b310, .int .i64 x311, .int .i64 x312, .slice a313 la313 ca313, .slice a314 la314 ca314, .slice a315 la315 ca315, .slice a316 la316 ca316, .int .i64 x317, .int .i64 x318, .int .i64 x319, .bool b320]] h295 fun v321 h322 =>
 ∃ b323 : Bool, v321 = .bool b323 ∧
 cond (!b323) (R (.bool false) h322) (VIdx a9 la9 i_106 1 fun a324 =>
 ∃ (a325 : Option Addr) (la325 ca325 : Nat), cellH h322 a324 = some (.slice a325 la325 ca325) ∧
 CallsH Tryz.prog 11 #[.slice a325 la325 ca325] h322 fun v326 h327 =>
 ∃ (a328 : Option Addr) (la328 ca328 : Nat), v326 = .slice a328 la328 ca328 ∧
 CallsH Tryz.prog 17 #[.slice a112 la112 ca112, .slice a328 la328 ca328] h327 fun v329 h330 =>
 ∃ b331 : Bool, v329 = .bool b331 ∧
 cond (!b331)
 (R (.bool false) h330)
 (∃ m107, m107 < n102 ∧ I101 m107 h330 y_105 (IntKind.i64.wrap (i_106 + 1))))))))) ((64 : Int) ≠ (0 : Int) ∧
 cond ((Int.tmod i_106 64) == (0 : Int)) (CallsH Tryz.prog 23 #[.pointer (some ⟨b99, 0, none⟩)] h278 fun v332 h333 =>
 ∃ b334 : Bool, v332 = .bool b334 ∧
 cond (!b334) (R (.bool false) h333) (cond (x255 != x159) (R (.bool false) h333) (cond (x275 != x179) (R (.bool false) h333) (∃ x335 : Int, cellH h333 ⟨b256, 0, none⟩ = some (.int .u32 x335) ∧
 ∃ x336 : Int, cellH h333 ⟨b256, 1, none⟩ = some (.int .i64 x336) ∧
 ∃ s337 : ByteArray, cellH h333 ⟨b256, 2, none⟩ = some (.string s337) ∧
 ∃ s338 : ByteArray, cellH h333 ⟨b256, 3, none⟩ = some (.string s338) ∧
 ∃ (a339 : Option Addr) (la339 ca339 : Nat), cellH h333 ⟨b256, 4, none⟩ = some (.slice a339 la339 ca339) ∧
 ∃ (a340 : Option Addr) (la340 ca340 : Nat), cellH h333 ⟨b256, 5, none⟩ = some (.slice a340 la340 ca340) ∧
 ∃ x341 : Int, cellH h333 ⟨b160, 0, none⟩ = some (.int .u32 x341) ∧
 ∃ x342 : Int, cellH h333 ⟨b160, 1, none⟩ = some (.int .i64 x342) ∧
 ∃ s343 : ByteArray, cellH h333 ⟨b160, 2, none⟩ = some (.string s343) ∧
 ∃ s344 : ByteArray, cellH h333 ⟨b160, 3, none⟩ = some (.string s344) ∧
 ∃ (a345 : Option Addr) (la345 ca345 : Nat), cellH h333 ⟨b160, 4, none⟩ = some (.slice a345 la345 ca345) ∧
 ∃ (a346 : Option Addr) (la346 ca346 : Nat), cellH h333 ⟨b160, 5, none⟩ = some (.slice a346 la346 ca346) ∧
 CallsH Tryz.prog 20 #[.agg #[.int .u32 x335, .int .i64 x336, .string s337, .string s338, .slice a339 la339 ca339, .slice a340 la340 ca340], .agg #[.int .u32 x341, .int .i64 x342, .string s343, .string s344, .slice a345 la345 ca345, .slice a346 la346 ca346]] h333 fun v347 h348 =>
 ∃ b349 : Bool, v347 = .bool b349 ∧
 cond (!b349) (R (.bool false) h348) (∃ x350 : Int, cellH h348 ⟨b276, 0, none⟩ = some (.int .u32 x350) ∧
 ∃ b351 : Bool, cellH h348 ⟨b276, 1, none⟩ = some (.bool b351) ∧
 ∃ x352 : Int, cellH h348 ⟨b276, 2, none⟩ = some (.int .i64 x352) ∧
 ∃ x353 : Int, cellH h348 ⟨b276, 3, none⟩ = some (.int .i64 x353) ∧
 ∃ (a354 : Option Addr) (la354 ca354 : Nat), cellH h348 ⟨b276, 4, none⟩ = some (.slice a354 la354 ca354) ∧
 ∃ (a355 : Option Addr) (la355 ca355 : Nat), cellH h348 ⟨b276, 5, none⟩ = some (.slice a355 la355 ca355) ∧
 ∃ (a356 : Option Addr) (la356 ca356 : Nat), cellH h348 ⟨b276, 6, none⟩ = some (.slice a356 la356 ca356) ∧
 ∃ (a357 : Option Addr) (la357 ca357 : Nat), cellH h348 ⟨b276, 7, none⟩ = some (.slice a357 la357 ca357) ∧
 ∃ x358 : Int, cellH h348 ⟨b276, 8, none⟩ = some (.int .i64 x358) ∧
 ∃ x359 : Int, cellH h348 ⟨b276, 9, none⟩ = some (.int .i64 x359) ∧
 ∃ x360 : Int, cellH h348 ⟨b276, 10, none⟩ = some (.int .i64 x360) ∧
 ∃ b361 : Bool, cellH h348 ⟨b276, 11, none⟩ = some (.bool b361) ∧
 ∃ x362 : Int, cellH h348 ⟨b180, 0, none⟩ = some (.int .u32 x362) ∧
 ∃ b363 : Bool, cellH h348 ⟨b180, 1, none⟩ = some (.bool b363) ∧
 ∃ x364 : Int, cellH h348 ⟨b180, 2, none⟩ = some (.int .i64 x364) ∧
 ∃ x365 : Int, cellH h348 ⟨b180, 3, none⟩ = some (.int .i64 x365) ∧
 ∃ (a366 : Option Addr) (la366 ca366 : Nat), cellH h348 ⟨b180, 4, none⟩ = some (.slice a366 la366 ca366) ∧
 ∃ (a367 : Option Addr) (la367 ca367 : Nat), cellH h348 ⟨b180, 5, none⟩ = some (.slice a367 la367 ca367) ∧
 ∃ (a368 : Option Addr) (la368 ca368 : Nat), cellH h348 ⟨b180, 6, none⟩ = some (.slice a368 la368 ca368) ∧
 ∃ (a369 : Option Addr) (la369 ca369 : Nat), cellH h348 ⟨b180, 7, none⟩ = some (.slice a369 la369 ca369) ∧
 ∃ x370 : Int, cellH h348 ⟨b180, 8, none⟩ = some (.int .i64 x370) ∧
 ∃ x371 : Int, cellH h348 ⟨b180, 9, none⟩ = some (.int .i64 x371) ∧
 ∃ x372 : Int, cellH h348 ⟨b180, 10, none⟩ = some (.int .i64 x372) ∧
 ∃ b373 : Bool, cellH h348 ⟨b180, 11, none⟩ = some (.bool b373) ∧
 CallsH Tryz.prog 21 #[.agg #[.int .u32 x350, .bool b351, .int .i64 x352, .int .i64 x353, .slice a354 la354 ca354, .slice a355 la355 ca355, .slice a356 la356 ca356, .slice a357 la357 ca357, .int .i64 x358, .int .i64 x359, .int .i64 x360, .bool b361], .agg #[.int .u32 x362, .bool b363, .int .i64 x364, .int .i64 x365, .slice a366 la366 ca366, .slice a367 la367 ca367, .slice a368 la368 ca368, .slice a369 la369 ca369, .int .i64 x370, .int .i64 x371, .int .i64 x372, .bool b373]] h348 fun v374 h375 =>
 ∃ b376 : Bool, v374 = .bool b376 ∧
 cond (!b376) (R (.bool false) h375) (VIdx a9 la9 i_106 1 fun a377 =>
 ∃ (a378 : Option Addr) (la378 ca378 : Nat), cellH h375 a377 = some (.slice a378 la378 ca378) ∧
 CallsH Tryz.prog 11 #[.slice a378 la378 ca378] h375 fun v379 h380 =>
 ∃ (a381 : Option Addr) (la381 ca381 : Nat), v379 = .slice a381 la381 ca381 ∧
 CallsH Tryz.prog 17 #[.slice a112 la112 ca112, .slice a381 la381 ca381] h380 fun v382 h383 =>
 ∃ b384 : Bool, v382 = .bool b384 ∧
 cond (!b384)
 (R (.bool false) h383)
 (∃ m107, m107 < n102 ∧ I101 m107 h383 y_105 (IntKind.i64.wrap (i_106 + 1))))))))) (cond (x255 != x159) (R (.bool false) h278) (cond (x275 != x179) (R (.bool false) h278) (∃ x385 : Int, cellH h278 ⟨b256, 0, none⟩ = some (.int .u32 x385) ∧
 ∃ x386 : Int, cellH h278 ⟨b256, 1, none⟩ = some (.int .i64 x386) ∧
 ∃ s387 : ByteArray, cellH h278 ⟨b256, 2, none⟩ = some (.string s387) ∧
 ∃ s388 : ByteArray, cellH h278 ⟨b256, 3, none⟩ = some (.string s388) ∧
 ∃ (a389 : Option Addr) (la389 ca389 : Nat), cellH h278 ⟨b256, 4, none⟩ = some (.slice a389 la389 ca389) ∧
 ∃ (a390 : Option Addr) (la390 ca390 : Nat), cellH h278 ⟨b256, 5, none⟩ = some (.slice a390 la390 ca390) ∧
 ∃ x391 : Int, cellH h278 ⟨b160, 0, none⟩ = some (.int .u32 x391) ∧
 ∃ x392 : Int, cellH h278 ⟨b160, 1, none⟩ = some (.int .i64 x392) ∧
 ∃ s393 : ByteArray, cellH h278 ⟨b160, 2, none⟩ = some (.string s393) ∧
 ∃ s394 : ByteArray, cellH h278 ⟨b160, 3, none⟩ = some (.string s394) ∧
 ∃ (a395 : Option Addr) (la395 ca395 : Nat), cellH h278 ⟨b160, 4, none⟩ = some (.slice a395 la395 ca395) ∧
 ∃ (a396 : Option Addr) (la396 ca396 : Nat), cellH h278 ⟨b160, 5, none⟩ = some (.slice a396 la396 ca396) ∧
 CallsH Tryz.prog 20 #[.agg #[.int .u32 x385, .int .i64 x386, .string s387, .string s388, .slice a389 la389 ca389, .slice a390 la390 ca390], .agg #[.int .u32 x391, .int .i64 x392, .string s393, .string s394, .slice a395 la395 ca395, .slice a396 la396 ca396]] h278 fun v397 h398 =>
 ∃ b399 : Bool, v397 = .bool b399 ∧
 cond (!b399) (R (.bool false) h398) (∃ x400 : Int, cellH h398 ⟨b276, 0, none⟩ = some (.int .u32 x400) ∧
 ∃ b401 : Bool, cellH h398 ⟨b276, 1, none⟩ = some (.bool b401) ∧
 ∃ x402 : Int, cellH h398 ⟨b276, 2, none⟩ = some (.int .i64 x402) ∧
 ∃ x403 : Int, cellH h398 ⟨b276, 3, none⟩ = some (.int .i64 x403) ∧
 ∃ (a404 : Option Addr) (la404 ca404 : Nat), cellH h398 ⟨b276, 4, none⟩ = some (.slice a404 la404 ca404) ∧
 ∃ (a405 : Option Addr) (la405 ca405 : Nat), cellH h398 ⟨b276, 5, none⟩ = some (.slice a405 la405 ca405) ∧
 ∃ (a406 : Option Addr) (la406 ca406 : Nat), cellH h398 ⟨b276, 6, none⟩ = some (.slice a406 la406 ca406) ∧
 ∃ (a407 : Option Addr) (la407 ca407 : Nat), cellH h398 ⟨b276, 7, none⟩ = some (.slice a407 la407 ca407) ∧
 ∃ x408 : Int, cellH h398 ⟨b276, 8, none⟩ = some (.int .i64 x408) ∧
 ∃ x409 : Int, cellH h398 ⟨b276, 9, none⟩ = some (.int .i64 x409) ∧
 ∃ x410 : Int, cellH h398 ⟨b276, 10, none⟩ = some (.int .i64 x410) ∧
 ∃ b411 : Bool, cellH h398 ⟨b276, 11, none⟩ = some (.bool b411) ∧
 ∃ x412 : Int, cellH h398 ⟨b180, 0, none⟩ = some (.int .u32 x412) ∧
 ∃ b413 : Bool, cellH h398 ⟨b180, 1, none⟩ = some (.bool b413) ∧
 ∃ x414 : Int, cellH h398 ⟨b180, 2, none⟩ = some (.int .i64 x414) ∧
 ∃ x415 : Int, cellH h398 ⟨b180, 3, none⟩ = some (.int .i64 x415) ∧
 ∃ (a416 : Option Addr) (la416 ca416 : Nat), cellH h398 ⟨b180, 4, none⟩ = some (.slice a416 la416 ca416) ∧
 ∃ (a417 : Option Addr) (la417 ca417 : Nat), cellH h398 ⟨b180, 5, none⟩ = some (.slice a417 la417 ca417) ∧
 ∃ (a418 : Option Addr) (la418 ca418 : Nat), cellH h398 ⟨b180, 6, none⟩ = some (.slice a418 la418 ca418) ∧
 ∃ (a419 : Option Addr) (la419 ca419 : Nat), cellH h398 ⟨b180, 7, none⟩ = some (.slice a419 la419 ca419) ∧
 ∃ x420 : Int, cellH h398 ⟨b180, 8, none⟩ = some (.int .i64 x420) ∧
 ∃ x421 : Int, cellH h398 ⟨b180, 9, none⟩ = some (.int .i64 x421) ∧
 ∃ x422 : Int, cellH h398 ⟨b180, 10, none⟩ = some (.int .i64 x422) ∧
 ∃ b423 : Bool, cellH h398 ⟨b180, 11, none⟩ = some (.bool b423) ∧
 CallsH Tryz.prog 21 #[.agg #[.int .u32 x400, .bool b401, .int .i64 x402, .int .i64 x403, .slice a404 la404 ca404, .slice a405 la405 ca405, .slice a406 la406 ca406, .slice a407 la407 ca407, .int .i64 x408, .int .i64 x409, .int .i64 x410, .bool b411], .agg #[.int .u32 x412, .bool b413, .int .i64 x414, .int .i64 x415, .slice a416 la416 ca416, .slice a417 la417 ca417, .slice a418 la418 ca418, .slice a419 la419 ca419, .int .i64 x420, .int .i64 x421, .int .i64 x422, .bool b423]] h398 fun v424 h425 =>
 ∃ b426 : Bool, v424 = .bool b426 ∧
 cond (!b426) (R (.bool false) h425) (VIdx a9 la9 i_106 1 fun a427 =>
 ∃ (a428 : Option Addr) (la428 ca428 : Nat), cellH h425 a427 = some (.slice a428 la428 ca428) ∧
 CallsH Tryz.prog 11 #[.slice a428 la428 ca428] h425 fun v429 h430 =>
 ∃ (a431 : Option Addr) (la431 ca431 : Nat), v429 = .slice a431 la431 ca431 ∧
 CallsH Tryz.prog 17 #[.slice a112 la112 ca112, .slice a431 la431 ca431] h430 fun v432 h433 =>
 ∃ b434 : Bool, v432 = .bool b434 ∧
 cond (!b434)
 (R (.bool false) h433)
 (∃ m107, m107 < n102 ∧ I101 m107 h433 y_105 (IntKind.i64.wrap (i_106 + 1))))))))))))))
 (CallsH Tryz.prog 15 #[.pointer (some ⟨b19, 0, none⟩)] h103 fun v435 h436 =>
 ∃ b437 : Bool, v435 = .bool b437 ∧
 cond b437 (CallsH Tryz.prog 23 #[.pointer (some ⟨b99, 0, none⟩)] h436 fun v438 h439 =>
 ∃ b440 : Bool, v438 = .bool b440 ∧
 R (.bool b440) h439) (R (.bool false) h436))
def F4 (a0pieces : Option Addr) (la0pieces ca0pieces : Nat) (a1raws : Option Addr) (la1raws ca1raws : Nat) (h : Heap) (R : KV) : Prop :=
 CallsH Tryz.prog 5 #[] h fun v1 h2 =>
 ∃ b3 : Bool, v1 = .bool b3 ∧
 cond (!b3)
 (R (.bool false) h2)
 (CallsH Tryz.prog 8 #[.slice a0pieces la0pieces ca0pieces] h2 fun v4 h5 =>
 ∃ (a6 : Option Addr) (la6 ca6 : Nat), v4 = .slice a6 la6 ca6 ∧
 CallsH Tryz.prog 8 #[.slice a1raws la1raws ca1raws] h5 fun v7 h8 =>
 ∃ (a9 : Option Addr) (la9 ca9 : Nat), v7 = .slice a9 la9 ca9 ∧
 CallsH Tryz.prog 9 #[.slice a6 la6 ca6, .slice a9 la9 ca9] h8 fun v10 h11 =>
 ∃ b12 : Bool, v10 = .bool b12 ∧
 cond (!b12)
 (R (.bool false) h11)
 (CallsH Tryz.prog 10 #[] h11 fun v13 h14 =>
 ∃ p15 : Option Addr, v13 = .pointer p15 ∧
 CallsH Tryz.prog 10 #[] h14 fun v16 h17 =>
 ∃ p18 : Option Addr, v16 = .pointer p18 ∧
 VNew h17 (.cells #[.slice none 0 0, .int .i64 0] 35) fun b19 h20 =>
 ∃ I21 : Nat → Heap → Bool → Int → Prop, (∃ n22, I21 n22 h20 false 0) ∧
 ∀ (n22 : Nat) (h23 : Heap) (g24 : Env) (y_25 : Bool) (i_26 : Int), I21 n22 h23 y_25 i_26 →
 cond (decide (i_26 < (la6 : Int)))
 (VIdx a6 la6 i_26 1 fun a28 =>
 ∃ (a29 : Option Addr) (la29 ca29 : Nat), cellH h23 a28 = some (.slice a29 la29 ca29) ∧
 CallsH Tryz.prog 11 #[.slice a29 la29 ca29] h23 fun v30 h31 =>
 ∃ (a32 : Option Addr) (la32 ca32 : Nat), v30 = .slice a32 la32 ca32 ∧
 VIdx a6 la6 i_26 1 fun a33 =>
 ∃ (a34 : Option Addr) (la34 ca34 : Nat), cellH h31 a33 = some (.slice a34 la34 ca34) ∧
 VSlice 1 a32 ca32 0 (la34 : Int) (la32 : Int) fun a35 la35 ca35 =>
 CallsH Tryz.prog 12 #[.pointer p15, .slice a35 la35 ca35] h31 fun v36 h37 =>
 ∃ (a38 : Option Addr) (la38 ca38 : Nat), ∃ x39 : Int, v36 = .tuple #[.slice a38 la38 ca38, .int .i64 x39] ∧
 VIdx a6 la6 i_26 1 fun a40 =>
 ∃ (a41 : Option Addr) (la41 ca41 : Nat), cellH h37 a40 = some (.slice a41 la41 ca41) ∧
 CallsH Tryz.prog 12 #[.pointer p18, .slice a41 la41 ca41] h37 fun v42 h43 =>
 ∃ (a44 : Option Addr) (la44 ca44 : Nat), ∃ x45 : Int, v42 = .tuple #[.slice a44 la44 ca44, .int .i64 x45] ∧
 cond (x39 != x45) (R (.bool false) h43) (CallsH Tryz.prog 13 #[.slice a38 la38 ca38, .slice a44 la44 ca44] h43 fun v46 h47 =>
 ∃ b48 : Bool, v46 = .bool b48 ∧
 cond (!b48)
 (R (.bool false) h47)
 (CallsH Tryz.prog 14 #[.pointer (some ⟨b19, 0, none⟩), .slice a38 la38 ca38] h47 fun v49 h50 =>
 v49 = .tuple #[] ∧
 cond (decide (i_26 < (60 : Int))) (CallsH Tryz.prog 15 #[.pointer (some ⟨b19, 0, none⟩)] h50 fun v51 h52 =>
 ∃ b53 : Bool, v51 = .bool b53 ∧
 cond (!b53) (R (.bool false) h52) (CallsH Tryz.prog 16 #[.pointer p15] h52 fun v54 h55 =>
 ∃ x56 : Int, v54 = .int .i64 x56 ∧
 CallsH Tryz.prog 16 #[.pointer p18] h55 fun v57 h58 =>
 ∃ x59 : Int, v57 = .int .i64 x59 ∧
 cond (x56 != x59) (R (.bool false) h58) (VIdx a6 la6 i_26 1 fun a60 =>
 ∃ (a61 : Option Addr) (la61 ca61 : Nat), cellH h58 a60 = some (.slice a61 la61 ca61) ∧
 CallsH Tryz.prog 11 #[.slice a61 la61 ca61] h58 fun v62 h63 =>
 ∃ (a64 : Option Addr) (la64 ca64 : Nat), v62 = .slice a64 la64 ca64 ∧
 CallsH Tryz.prog 17 #[.slice a32 la32 ca32, .slice a64 la64 ca64] h63 fun v65 h66 =>
 ∃ b67 : Bool, v65 = .bool b67 ∧
 cond (!b67)
 (R (.bool false) h66)
 (∃ m27, m27 < n22 ∧ I21 m27 h66 y_25 (IntKind.i64.wrap (i_26 + 1)))))) ((64 : Int) ≠ (0 : Int) ∧
 cond ((Int.tmod i_26 64) == (0 : Int)) (CallsH Tryz.prog 15 #[.pointer (some ⟨b19, 0, none⟩)] h50 fun v68 h69 =>
 ∃ b70 : Bool, v68 = .bool b70 ∧
 cond (!b70) (R (.bool false) h69) (CallsH Tryz.prog 16 #[.pointer p15] h69 fun v71 h72 =>
 ∃ x73 : Int, v71 = .int .i64 x73 ∧
 CallsH Tryz.prog 16 #[.pointer p18] h72 fun v74 h75 =>
 ∃ x76 : Int, v74 = .int .i64 x76 ∧
 cond (x73 != x76) (R (.bool false) h75) (VIdx a6 la6 i_26 1 fun a77 =>
 ∃ (a78 : Option Addr) (la78 ca78 : Nat), cellH h75 a77 = some (.slice a78 la78 ca78) ∧
 CallsH Tryz.prog 11 #[.slice a78 la78 ca78] h75 fun v79 h80 =>
 ∃ (a81 : Option Addr) (la81 ca81 : Nat), v79 = .slice a81 la81 ca81 ∧
 CallsH Tryz.prog 17 #[.slice a32 la32 ca32, .slice a81 la81 ca81] h80 fun v82 h83 =>
 ∃ b84 : Bool, v82 = .bool b84 ∧
 cond (!b84)
 (R (.bool false) h83)
 (∃ m27, m27 < n22 ∧ I21 m27 h83 y_25 (IntKind.i64.wrap (i_26 + 1)))))) (CallsH Tryz.prog 16 #[.pointer p15] h50 fun v85 h86 =>
 ∃ x87 : Int, v85 = .int .i64 x87 ∧
 CallsH Tryz.prog 16 #[.pointer p18] h86 fun v88 h89 =>
 ∃ x90 : Int, v88 = .int .i64 x90 ∧
 cond (x87 != x90) (R (.bool false) h89) (VIdx a6 la6 i_26 1 fun a91 =>
 ∃ (a92 : Option Addr) (la92 ca92 : Nat), cellH h89 a91 = some (.slice a92 la92 ca92) ∧
 CallsH Tryz.prog 11 #[.slice a92 la92 ca92] h89 fun v93 h94 =>
 ∃ (a95 : Option Addr) (la95 ca95 : Nat), v93 = .slice a95 la95 ca95 ∧
 CallsH Tryz.prog 17 #[.slice a32 la32 ca32, .slice a95 la95 ca95] h94 fun v96 h97 =>
 ∃ b98 : Bool, v96 = .bool b98 ∧
 cond (!b98)
 (R (.bool false) h97)
 (∃ m27, m27 < n22 ∧ I21 m27 h97 y_25 (IntKind.i64.wrap (i_26 + 1)))))))))
 (G4a a9 la9 ca9 b19 y_25 h23 R)))
theorem vf4 (a0pieces : Option Addr) (la0pieces ca0pieces : Nat) (a1raws : Option Addr) (la1raws ca1raws : Nat) (h : Heap) (R : KV) (hF : F4 a0pieces la0pieces ca0pieces a1raws la1raws ca1raws h R) : CallsH Tryz.prog 4 #[.slice a0pieces la0pieces ca0pieces, .slice a1raws la1raws ca1raws] h R :=
 calls_of_form (A := an4) (fn := Tryz.f4) (c := c4) (args := [.slice a0pieces la0pieces ca0pieces, .slice a1raws la1raws ca1raws]) Tryz.func4 (by kernel_rfl) mixed (by kernel_rfl) (by kernel_rfl : F4 a0pieces la0pieces ca0pieces a1raws la1raws ca1raws h R = vcF Tryz.prog an4 Tryz.f4 c4 [.slice a0pieces la0pieces ca0pieces, .slice a1raws la1raws ca1raws] h R) hF
/-! ### 8 refrain/refrainlaw30.some -/
noncomputable def c8 : Code := match Tryz.f8.body with | some c => c | none => .skip
noncomputable def an8 : Ann := { loops := fun i => match i with | 3 => [(2, .slc), (3, .int .i64), (4, .int .i64)] | _ => [], draws := fun i => #[], joins := fun i => none }
def F8 (a0l : Option Addr) (la0l ca0l : Nat) (h : Heap) (R : KV) : Prop :=
 ∃ I1 : Nat → Heap → Option Addr → Nat → Nat → Int → Int → Prop, (∃ n2, I1 n2 h none 0 0 0 0) ∧
 ∀ (n2 : Nat) (h3 : Heap) (g4 : Env) (y_5 : Option Addr) (ly_5 cy_5 : Nat) (n_6 : Int) (i_7 : Int), I1 n2 h3 y_5 ly_5 cy_5 n_6 i_7 →
 cond (decide (i_7 < (la0l : Int)))
 (VIdx a0l la0l i_7 1 fun a9 =>
 ∃ (a10 : Option Addr) (la10 ca10 : Nat), cellH h3 a9 = some (.slice a10 la10 ca10) ∧
 cond (decide ((IntKind.i64.wrap ((IntKind.i64.wrap (n_6 + 16)) + (la10 : Int))) > (4194304 : Int)))
 (VSlice 1 a0l ca0l 0 i_7 (ca0l : Int) fun a11 la11 ca11 =>
 R (.slice a11 la11 ca11) h3)
 (∃ m8, m8 < n2 ∧ I1 m8 h3 y_5 ly_5 cy_5 (IntKind.i64.wrap ((IntKind.i64.wrap (n_6 + 16)) + (la10 : Int))) (IntKind.i64.wrap (i_7 + 1))))
 (R (.slice a0l la0l ca0l) h3)
theorem vf8 (a0l : Option Addr) (la0l ca0l : Nat) (h : Heap) (R : KV) (hF : F8 a0l la0l ca0l h R) : CallsH Tryz.prog 8 #[.slice a0l la0l ca0l] h R :=
 calls_of_form (A := an8) (fn := Tryz.f8) (c := c8) (args := [.slice a0l la0l ca0l]) Tryz.func8 (by kernel_rfl) mixed (by kernel_rfl) (by kernel_rfl : F8 a0l la0l ca0l h R = vcF Tryz.prog an8 Tryz.f8 c8 [.slice a0l la0l ca0l] h R) hF
/-! ### 9 refrain/refrainlaw30.unwritten -/
noncomputable def c9 : Code := match Tryz.f9.body with | some c => c | none => .skip
noncomputable def an9 : Ann := { loops := fun i => match i with | 8 => [(7, .slc), (8, .slc), (9, .int .i64), (10, .int .i64)] | 14 => [(9, .int .i64), (15, .int .i64)] | 22 => [(7, .slc), (8, .slc), (9, .int .i64), (16, .slc), (17, .slc), (18, .slc), (19, .slc), (20, .int .i64)] | 25 => [(7, .slc), (8, .slc), (9, .int .i64), (16, .slc), (17, .slc), (18, .slc), (19, .slc), (21, .int .i64)] | 48 => [(4, .bool), (33, .int .i64)] | 55 => [(4, .bool), (35, .int .i64)] | _ => [], draws := fun i => match i with | 50 => #[0, 0, 3, 7, 0, 0, 48, 112, 255, 511] | 57 => #[0, 0, 3, 7, 0, 0, 48, 112, 255, 511, 1023, 2047, 2047, 8191, 16383, 2047, 2047, 100351, 231423, 524287, 1048575, 2097151] | 59 => #[0, 0, 0, 6, 14, 0, 0, 96, 224, 511] | _ => #[], joins := fun i => match i with | 26 => some [(7, .slc), (8, .slc), (9, .int .i64), (16, .slc), (17, .slc), (18, .slc), (19, .slc), (22, .ptr), (23, .int .i64), (24, .ptr), (25, .int .i64), (30, .slc), (31, .int .i64)] | 38 => some [(7, .slc), (8, .slc)] | 42 => some [(7, .slc), (8, .slc)] | _ => none }
def G9b (kept_59 : Option Addr) (lkept_59 ckept_59 : Nat) (were_60 : Option Addr) (lwere_60 cwere_60 : Nat) (asked_62 : Option Addr) (lasked_62 casked_62 : Nat) (askedWere_63 : Option Addr) (laskedWere_63 caskedWere_63 : Nat) (told_64 : Option Addr) (ltold_64 ctold_64 : Nat) (toldWere_65 : Option Addr) (ltoldWere_65 ctoldWere_65 : Nat) (h57 : Heap) (R : KV) : Prop :=
 VNew h57 (.cells #[.slice none 0 0, .int .i64 0] 35) fun b316 h317 =>
 ∃ I318 : Nat → Heap → Bool → Int → Prop, (∃ n319, I318 n319 h317 false 0) ∧
 ∀ (n319 : Nat) (h320 : Heap) (g321 : Env) (y_322 : Bool) (i_323 : Int), I318 n319 h320 y_322 i_323 →
 cond (decide (i_323 < (lkept_59 : Int)))
 (VIdx kept_59 lkept_59 i_323 1 fun a325 =>
 ∃ (a326 : Option Addr) (la326 ca326 : Nat), cellH h320 a325 = some (.slice a326 la326 ca326) ∧
 VIdx were_60 lwere_60 i_323 1 fun a327 =>
 ∃ (a328 : Option Addr) (la328 ca328 : Nat), cellH h320 a327 = some (.slice a328 la328 ca328) ∧
 CallsH Tryz.prog 13 #[.slice a326 la326 ca326, .slice a328 la328 ca328] h320 fun v329 h330 =>
 ∃ b331 : Bool, v329 = .bool b331 ∧
 cond (!b331)
 (R (.bool false) h330)
 (VIdx kept_59 lkept_59 i_323 1 fun a332 =>
 ∃ (a333 : Option Addr) (la333 ca333 : Nat), cellH h330 a332 = some (.slice a333 la333 ca333) ∧
 CallsH Tryz.prog 14 #[.pointer (some ⟨b316, 0, none⟩), .slice a333 la333 ca333] h330 fun v334 h335 =>
 v334 = .tuple #[] ∧
 ∃ m324, m324 < n319 ∧ I318 m324 h335 y_322 (IntKind.i64.wrap (i_323 + 1))))
 (VNew h320 (.cells #[.slice none 0 0, .slice none 0 0, .slice none 0 0, .slice none 0 0, .slice none 0 0, .slice none 0 0, .int .i64 0] 52) fun b336 h337 =>
 ∃ I338 : Nat → Heap → Bool → Int → Prop, (∃ n339, I338 n339 h337 y_322 0) ∧
 ∀ (n339 : Nat) (h340 : Heap) (g341 : Env) (y_342 : Bool) (i_343 : Int), I338 n339 h340 y_342 i_343 →
 cond (decide (i_343 < (lasked_62 : Int)))
 (VIdx asked_62 lasked_62 i_343 6 fun a345 =>
 ∃ x346 : Int, cellH h340 a345 = some (.int .u32 x346) ∧
 ∃ x347 : Int, cellH h340 ⟨a345.block, a345.off + 1, none⟩ = some (.int .i64 x347) ∧
 ∃ s348 : ByteArray, cellH h340 ⟨a345.block, a345.off + 2, none⟩ = some (.string s348) ∧
 ∃ s349 : ByteArray, cellH h340 ⟨a345.block, a345.off + 3, none⟩ = some (.string s349) ∧
 ∃ (a350 : Option Addr) (la350 ca350 : Nat), cellH h340 ⟨a345.block, a345.off + 4, none⟩ = some (.slice a350 la350 ca350) ∧
 ∃ (a351 : Option Addr) (la351 ca351 : Nat), cellH h340 ⟨a345.block, a345.off + 5, none⟩ = some (.slice a351 la351 ca351) ∧
 VIdx askedWere_63 laskedWere_63 i_343 6 fun a352 =>
 ∃ x353 : Int, cellH h340 a352 = some (.int .u32 x353) ∧
 ∃ x354 : Int, cellH h340 ⟨a352.block, a352.off + 1, none⟩ = some (.int .i64 x354) ∧
 ∃ s355 : ByteArray, cellH h340 ⟨a352.block, a352.off + 2, none⟩ = some (.string s355) ∧
 ∃ s356 : ByteArray, cellH h340 ⟨a352.block, a352.off + 3, none⟩ = some (.string s356) ∧
 ∃ (a357 : Option Addr) (la357 ca357 : Nat), cellH h340 ⟨a352.block, a352.off + 4, none⟩ = some (.slice a357 la357 ca357) ∧
 ∃ (a358 : Option Addr) (la358 ca358 : Nat), cellH h340 ⟨a352.block, a352.off + 5, none⟩ = some (.slice a358 la358 ca358) ∧
 CallsH Tryz.prog 20 #[.agg #[.int .u32 x346, .int .i64 x347, .string s348, .string s349, .slice a350 la350 ca350, .slice a351 la351 ca351], .agg #[.int .u32 x353, .int .i64 x354, .string s355, .string s356, .slice a357 la357 ca357, .slice a358 la358 ca358]] h340 fun v359 h360 =>
 ∃ b361 : Bool, v359 = .bool b361 ∧
 cond (!b361) (R (.bool false) h360) (VIdx told_64 ltold_64 i_343 12 fun a362 =>
 ∃ x363 : Int, cellH h360 a362 = some (.int .u32 x363) ∧
 ∃ b364 : Bool, cellH h360 ⟨a362.block, a362.off + 1, none⟩ = some (.bool b364) ∧
 ∃ x365 : Int, cellH h360 ⟨a362.block, a362.off + 2, none⟩ = some (.int .i64 x365) ∧
 ∃ x366 : Int, cellH h360 ⟨a362.block, a362.off + 3, none⟩ = some (.int .i64 x366) ∧
 ∃ (a367 : Option Addr) (la367 ca367 : Nat), cellH h360 ⟨a362.block, a362.off + 4, none⟩ = some (.slice a367 la367 ca367) ∧
 ∃ (a368 : Option Addr) (la368 ca368 : Nat), cellH h360 ⟨a362.block, a362.off + 5, none⟩ = some (.slice a368 la368 ca368) ∧
 ∃ (a369 : Option Addr) (la369 ca369 : Nat), cellH h360 ⟨a362.block, a362.off + 6, none⟩ = some (.slice a369 la369 ca369) ∧
 ∃ (a370 : Option Addr) (la370 ca370 : Nat), cellH h360 ⟨a362.block, a362.off + 7, none⟩ = some (.slice a370 la370 ca370) ∧
 ∃ x371 : Int, cellH h360 ⟨a362.block, a362.off + 8, none⟩ = some (.int .i64 x371) ∧
 ∃ x372 : Int, cellH h360 ⟨a362.block, a362.off + 9, none⟩ = some (.int .i64 x372) ∧
 ∃ x373 : Int, cellH h360 ⟨a362.block, a362.off + 10, none⟩ = some (.int .i64 x373) ∧
 ∃ b374 : Bool, cellH h360 ⟨a362.block, a362.off + 11, none⟩ = some (.bool b374) ∧
 VIdx toldWere_65 ltoldWere_65 i_343 12 fun a375 =>
 ∃ x376 : Int, cellH h360 a375 = some (.int .u32 x376) ∧
 ∃ b377 : Bool, cellH h360 ⟨a375.block, a375.off + 1, none⟩ = some (.bool b377) ∧
 ∃ x378 : Int, cellH h360 ⟨a375.block, a375.off + 2, none⟩ = some (.int .i64 x378) ∧
 ∃ x379 : Int, cellH h360 ⟨a375.block, a375.off + 3, none⟩ = some (.int .i64 x379) ∧
 ∃ (a380 : Option Addr) (la380 ca380 : Nat), cellH h360 ⟨a375.block, a375.off + 4, none⟩ = some (.slice a380 la380 ca380) ∧
 ∃ (a381 : Option Addr) (la381 ca381 : Nat), cellH h360 ⟨a375.block, a375.off + 5, none⟩ = some (.slice a381 la381 ca381) ∧
 ∃ (a382 : Option Addr) (la382 ca382 : Nat), cellH h360 ⟨a375.block, a375.off + 6, none⟩ = some (.slice a382 la382 ca382) ∧
 ∃ (a383 : Option Addr) (la383 ca383 : Nat), cellH h360 ⟨a375.block, a375.off + 7, none⟩ = some (.slice a383 la383 ca383) ∧
 ∃ x384 : Int, cellH h360 ⟨a375.block, a375.off + 8, none⟩ = some (.int .i64 x384) ∧
 ∃ x385 : Int, cellH h360 ⟨a375.block, a375.off + 9, none⟩ = some (.int .i64 x385) ∧
 ∃ x386 : Int, cellH h360 ⟨a375.block, a375.off + 10, none⟩ = some (.int .i64 x386) ∧
 ∃ b387 : Bool, cellH h360 ⟨a375.block, a375.off + 11, none⟩ = some (.bool b387) ∧
 CallsH Tryz.prog 21 #[.agg #[.int .u32 x363, .bool b364, .int .i64 x365, .int .i64 x366, .slice a367 la367 ca367, .slice a368 la368 ca368, .slice a369 la369 ca369, .slice a370 la370 ca370, .int .i64 x371, .int .i64 x372, .int .i64 x373, .bool b374], .agg #[.int .u32 x376, .bool b377, .int .i64 x378, .int .i64 x379, .slice a380 la380 ca380, .slice a381 la381 ca381, .slice a382 la382 ca382, .slice a383 la383 ca383, .int .i64 x384, .int .i64 x385, .int .i64 x386, .bool b387]] h360 fun v388 h389 =>
 ∃ b390 : Bool, v388 = .bool b390 ∧
 cond (!b390)
 (R (.bool false) h389)
 (VIdx asked_62 lasked_62 i_343 6 fun a391 =>
 ∃ x392 : Int, cellH h389 a391 = some (.int .u32 x392) ∧
 ∃ x393 : Int, cellH h389 ⟨a391.block, a391.off + 1, none⟩ = some (.int .i64 x393) ∧
 ∃ s394 : ByteArray, cellH h389 ⟨a391.block, a391.off + 2, none⟩ = some (.string s394) ∧
 ∃ s395 : ByteArray, cellH h389 ⟨a391.block, a391.off + 3, none⟩ = some (.string s395) ∧
 ∃ (a396 : Option Addr) (la396 ca396 : Nat), cellH h389 ⟨a391.block, a391.off + 4, none⟩ = some (.slice a396 la396 ca396) ∧
 ∃ (a397 : Option Addr) (la397 ca397 : Nat), cellH h389 ⟨a391.block, a391.off + 5, none⟩ = some (.slice a397 la397 ca397) ∧
 VIdx told_64 ltold_64 i_343 12 fun a398 =>
 ∃ x399 : Int, cellH h389 a398 = some (.int .u32 x399) ∧
 ∃ b400 : Bool, cellH h389 ⟨a398.block, a398.off + 1, none⟩ = some (.bool b400) ∧
 ∃ x401 : Int, cellH h389 ⟨a398.block, a398.off + 2, none⟩ = some (.int .i64 x401) ∧
 ∃ x402 : Int, cellH h389 ⟨a398.block, a398.off + 3, none⟩ = some (.int .i64 x402) ∧
 ∃ (a403 : Option Addr) (la403 ca403 : Nat), cellH h389 ⟨a398.block, a398.off + 4, none⟩ = some (.slice a403 la403 ca403) ∧
 ∃ (a404 : Option Addr) (la404 ca404 : Nat), cellH h389 ⟨a398.block, a398.off + 5, none⟩ = some (.slice a404 la404 ca404) ∧
 ∃ (a405 : Option Addr) (la405 ca405 : Nat), cellH h389 ⟨a398.block, a398.off + 6, none⟩ = some (.slice a405 la405 ca405) ∧
 ∃ (a406 : Option Addr) (la406 ca406 : Nat), cellH h389 ⟨a398.block, a398.off + 7, none⟩ = some (.slice a406 la406 ca406) ∧
 ∃ x407 : Int, cellH h389 ⟨a398.block, a398.off + 8, none⟩ = some (.int .i64 x407) ∧
 ∃ x408 : Int, cellH h389 ⟨a398.block, a398.off + 9, none⟩ = some (.int .i64 x408) ∧
 ∃ x409 : Int, cellH h389 ⟨a398.block, a398.off + 10, none⟩ = some (.int .i64 x409) ∧
 ∃ b410 : Bool, cellH h389 ⟨a398.block, a398.off + 11, none⟩ = some (.bool b410) ∧
 CallsH Tryz.prog 22 #[.pointer (some ⟨b336, 0, none⟩), .agg #[.int .u32 x392, .int .i64 x393, .string s394, .string s395, .slice a396 la396 ca396, .slice a397 la397 ca397], .agg #[.int .u32 x399, .bool b400, .int .i64 x401, .int .i64 x402, .slice a403 la403 ca403, .slice a404 la404 ca404, .slice a405 la405 ca405, .slice a406 la406 ca406, .int .i64 x407, .int .i64 x408, .int .i64 x409, .bool b410]] h389 fun v411 h412 =>
 v411 = .tuple #[] ∧
 ∃ m344, m344 < n339 ∧ I338 m344 h412 y_342 (IntKind.i64.wrap (i_343 + 1)))))
 (CallsH Tryz.prog 15 #[.pointer (some ⟨b316, 0, none⟩)] h340 fun v413 h414 =>
 ∃ b415 : Bool, v413 = .bool b415 ∧
 cond b415 (CallsH Tryz.prog 23 #[.pointer (some ⟨b336, 0, none⟩)] h414 fun v416 h417 =>
 ∃ b418 : Bool, v416 = .bool b418 ∧
 R (.bool b418) h417) (R (.bool false) h414)))
def G9a (a1raws : Option Addr) (la1raws ca1raws : Nat) (kept_11 : Option Addr) (lkept_11 ckept_11 : Nat) (were_12 : Option Addr) (lwere_12 cwere_12 : Nat) (total_13 : Int) (h9 : Heap) (R : KV) : Prop :=
 ∃ I55 : Nat → Heap → Option Addr → Nat → Nat → Option Addr → Nat → Nat → Int → Option Addr → Nat → Nat → Option Addr → Nat → Nat → Option Addr → Nat → Nat → Option Addr → Nat → Nat → Int → Prop, (∃ n56, I55 n56 h9 kept_11 lkept_11 ckept_11 were_12 lwere_12 cwere_12 total_13 none 0 0 none 0 0 none 0 0 none 0 0 0) ∧
 ∀ (n56 : Nat) (h57 : Heap) (g58 : Env) (kept_59 : Option Addr) (lkept_59 ckept_59 : Nat) (were_60 : Option Addr) (lwere_60 cwere_60 : Nat) (total_61 : Int) (asked_62 : Option Addr) (lasked_62 casked_62 : Nat) (askedWere_63 : Option Addr) (laskedWere_63 caskedWere_63 : Nat) (told_64 : Option Addr) (ltold_64 ctold_64 : Nat) (toldWere_65 : Option Addr) (ltoldWere_65 ctoldWere_65 : Nat) (i_66 : Int), I55 n56 h57 kept_59 lkept_59 ckept_59 were_60 lwere_60 cwere_60 total_61 asked_62 lasked_62 casked_62 askedWere_63 laskedWere_63 caskedWere_63 told_64 ltold_64 ctold_64 toldWere_65 ltoldWere_65 ctoldWere_65 i_66 →
 cond (decide (i_66 < (la1raws : Int))) (cond (decide (total_61 ≤ (33554432 : Int)))
 (∃ I68 : Nat → Heap → Option Addr → Nat → Nat → Option Addr → Nat → Nat → Int → Option Addr → Nat → Nat → Option Addr → Nat → Nat → Option Addr → Nat → Nat → Option Addr → Nat → Nat → Int → Prop, (∃ n69, I68 n69 h57 kept_59 lkept_59 ckept_59 were_60 lwere_60 cwere_60 total_61 asked_62 lasked_62 casked_62 askedWere_63 laskedWere_63 caskedWere_63 told_64 ltold_64 ctold_64 toldWere_65 ltoldWere_65 ctoldWere_65 0) ∧
 ∀ (n69 : Nat) (h70 : Heap) (g71 : Env) (kept_72 : Option Addr) (lkept_72 ckept_72 : Nat) (were_73 : Option Addr) (lwere_73 cwere_73 : Nat) (total_74 : Int) (asked_75 : Option Addr) (lasked_75 casked_75 : Nat) (askedWere_76 : Option Addr) (laskedWere_76 caskedWere_76 : Nat) (told_77 : Option Addr) (ltold_77 ctold_77 : Nat) (toldWere_78 : Option Addr) (ltoldWere_78 ctoldWere_78 : Nat) (k_79 : Int), I68 n69 h70 kept_72 lkept_72 ckept_72 were_73 lwere_73 cwere_73 total_74 asked_75 lasked_75 casked_75 askedWere_76 laskedWere_76 caskedWere_76 told_77 ltold_77 ctold_77 toldWere_78 ltoldWere_78 ctoldWere_78 k_79 →
 cond (decide (k_79 < (2 : Int)))
 (∃ J81 : Heap → Option Addr → Nat → Nat → Option Addr → Nat → Nat → Int → Option Addr → Nat → Nat → Option Addr → Nat → Nat → Option Addr → Nat → Nat → Option Addr → Nat → Nat → Option Addr → Int → Option Addr → Int → Option Addr → Nat → Nat → Int → Prop, (VIdx a1raws la1raws i_66 1 fun a82 =>
 ∃ (a83 : Option Addr) (la83 ca83 : Nat), cellH h70 a82 = some (.slice a83 la83 ca83) ∧
 VIdx a1raws la1raws i_66 1 fun a84 =>
 ∃ (a85 : Option Addr) (la85 ca85 : Nat), cellH h70 a84 = some (.slice a85 la85 ca85) ∧
 CallsH Tryz.prog 18 #[.slice a85 la85 ca85] h70 fun v86 h87 =>
 ∃ x88 : Int, ∃ x89 : Int, ∃ s90 : ByteArray, ∃ s91 : ByteArray, ∃ (a92 : Option Addr) (la92 ca92 : Nat), ∃ (a93 : Option Addr) (la93 ca93 : Nat), ∃ x94 : Int, v86 = .tuple #[.agg #[.int .u32 x88, .int .i64 x89, .string s90, .string s91, .slice a92 la92 ca92, .slice a93 la93 ca93], .int .i64 x94] ∧
 VNew h87 (.cells #[.int .u32 0, .int .i64 0, .string (ByteArray.mk #[]), .string (ByteArray.mk #[]), .slice none 0 0, .slice none 0 0] 57) fun b95 h96 =>
 storeL ⟨b95, 0, none⟩ 0 [.int .u32 x88, .int .i64 x89, .string s90, .string s91, .slice a92 la92 ca92, .slice a93 la93 ca93] h96 fun h97 =>
 VIdx a1raws la1raws i_66 1 fun a98 =>
 ∃ (a99 : Option Addr) (la99 ca99 : Nat), cellH h97 a98 = some (.slice a99 la99 ca99) ∧
 CallsH Tryz.prog 19 #[.slice a99 la99 ca99] h97 fun v100 h101 =>
 ∃ x102 : Int, ∃ b103 : Bool, ∃ x104 : Int, ∃ x105 : Int, ∃ (a106 : Option Addr) (la106 ca106 : Nat), ∃ (a107 : Option Addr) (la107 ca107 : Nat), ∃ (a108 : Option Addr) (la108 ca108 : Nat), ∃ (a109 : Option Addr) (la109 ca109 : Nat), ∃ x110 : Int, ∃ x111 : Int, ∃ x112 : Int, ∃ b113 : Bool, ∃ x114 : Int, v100 = .tuple #[.agg #[.int .u32 x102, .bool b103, .int .i64 x104, .int .i64 x105, .slice a106 la106 ca106, .slice a107 la107 ca107, .slice a108 la108 ca108, .slice a109 la109 ca109, .int .i64 x110, .int .i64 x111, .int .i64 x112, .bool b113], .int .i64 x114] ∧
 VNew h101 (.cells #[.int .u32 0, .bool false, .int .i64 0, .int .i64 0, .slice none 0 0, .slice none 0 0, .slice none 0 0, .slice none 0 0, .int .i64 0, .int .i64 0, .int .i64 0, .bool false] 65) fun b115 h116 =>
 storeL ⟨b115, 0, none⟩ 0 [.int .u32 x102, .bool b103, .int .i64 x104, .int .i64 x105, .slice a106 la106 ca106, .slice a107 la107 ca107, .slice a108 la108 ca108, .slice a109 la109 ca109, .int .i64 x110, .int .i64 x111, .int .i64 x112, .bool b113] h116 fun h117 =>
 ∃ x118 : Int, cellH h117 ⟨b95, 0, none⟩ = some (.int .u32 x118) ∧
 ∃ x119 : Int, cellH h117 ⟨b95, 1, none⟩ = some (.int .i64 x119) ∧
 ∃ s120 : ByteArray, cellH h117 ⟨b95, 2, none⟩ = some (.string s120) ∧
 ∃ s121 : ByteArray, cellH h117 ⟨b95, 3, none⟩ = some (.string s121) ∧
 ∃ (a122 : Option Addr) (la122 ca122 : Nat), cellH h117 ⟨b95, 4, none⟩ = some (.slice a122 la122 ca122) ∧
 ∃ (a123 : Option Addr) (la123 ca123 : Nat), cellH h117 ⟨b95, 5, none⟩ = some (.slice a123 la123 ca123) ∧
 VNew h117 (.cells #[.int .u32 x118, .int .i64 x119, .string s120, .string s121, .slice a122 la122 ca122, .slice a123 la123 ca123] 57) fun b124 h125 =>
 RunsTo Tryz.prog (Builtin.append_ #[22, 22] 22 #[.slice asked_75 lasked_75 casked_75, .slice (some ⟨b124, 0, none⟩) 1 1]) h125 fun v126 h127 =>
 ∃ (a128 : Option Addr) (la128 ca128 : Nat), v126 = .slice a128 la128 ca128 ∧
 ∃ x129 : Int, cellH h127 ⟨b115, 0, none⟩ = some (.int .u32 x129) ∧
 ∃ b130 : Bool, cellH h127 ⟨b115, 1, none⟩ = some (.bool b130) ∧
 ∃ x131 : Int, cellH h127 ⟨b115, 2, none⟩ = some (.int .i64 x131) ∧
 ∃ x132 : Int, cellH h127 ⟨b115, 3, none⟩ = some (.int .i64 x132) ∧
 ∃ (a133 : Option Addr) (la133 ca133 : Nat), cellH h127 ⟨b115, 4, none⟩ = some (.slice a133 la133 ca133) ∧
 ∃ (a134 : Option Addr) (la134 ca134 : Nat), cellH h127 ⟨b115, 5, none⟩ = some (.slice a134 la134 ca134) ∧
 ∃ (a135 : Option Addr) (la135 ca135 : Nat), cellH h127 ⟨b115, 6, none⟩ = some (.slice a135 la135 ca135) ∧
 ∃ (a136 : Option Addr) (la136 ca136 : Nat), cellH h127 ⟨b115, 7, none⟩ = some (.slice a136 la136 ca136) ∧
 ∃ x137 : Int, cellH h127 ⟨b115, 8, none⟩ = some (.int .i64 x137) ∧
 ∃ x138 : Int, cellH h127 ⟨b115, 9, none⟩ = some (.int .i64 x138) ∧
 ∃ x139 : Int, cellH h127 ⟨b115, 10, none⟩ = some (.int .i64 x139) ∧
 ∃ b140 : Bool, cellH h127 ⟨b115, 11, none⟩ = some (.bool b140) ∧
 VNew h127 (.cells #[.int .u32 x129, .bool b130, .int .i64 x131, .int .i64 x132, .slice a133 la133 ca133, .slice a134 la134 ca134, .slice a135 la135 ca135, .slice a136 la136 ca136, .int .i64 x137, .int .i64 x138, .int .i64 x139, .bool b140] 65) fun b141 h142 =>
 RunsTo Tryz.prog (Builtin.append_ #[23, 23] 23 #[.slice told_77 ltold_77 ctold_77, .slice (some ⟨b141, 0, none⟩) 1 1]) h142 fun v143 h144 =>
 ∃ (a145 : Option Addr) (la145 ca145 : Nat), v143 = .slice a145 la145 ca145 ∧
 ∃ x146 : Int, cellH h144 ⟨b95, 0, none⟩ = some (.int .u32 x146) ∧
 ∃ x147 : Int, cellH h144 ⟨b95, 1, none⟩ = some (.int .i64 x147) ∧
 ∃ s148 : ByteArray, cellH h144 ⟨b95, 2, none⟩ = some (.string s148) ∧
 ∃ s149 : ByteArray, cellH h144 ⟨b95, 3, none⟩ = some (.string s149) ∧
 ∃ (a150 : Option Addr) (la150 ca150 : Nat), cellH h144 ⟨b95, 4, none⟩ = some (.slice a150 la150 ca150) ∧
 ∃ (a151 : Option Addr) (la151 ca151 : Nat), cellH h144 ⟨b95, 5, none⟩ = some (.slice a151 la151 ca151) ∧
 CallsH Tryz.prog 28 #[.agg #[.int .u32 x146, .int .i64 x147, .string s148, .string s149, .slice a150 la150 ca150, .slice a151 la151 ca151]] h144 fun v152 h153 =>
 ∃ x154 : Int, ∃ x155 : Int, ∃ s156 : ByteArray, ∃ s157 : ByteArray, ∃ (a158 : Option Addr) (la158 ca158 : Nat), ∃ (a159 : Option Addr) (la159 ca159 : Nat), ∃ (a160 : Option Addr) (la160 ca160 : Nat), ∃ (a161 : Option Addr) (la161 ca161 : Nat), ∃ (a162 : Option Addr) (la162 ca162 : Nat), v152 = .agg #[.int .u32 x154, .int .i64 x155, .string s156, .string s157, .slice a158 la158 ca158, .slice a159 la159 ca159, .slice a160 la160 ca160, .slice a161 la161 ca161, .slice a162 la162 ca162] ∧
 PureTo Tryz.prog (Instr.field 77 (.agg #[.int .u32 x154, .int .i64 x155, .string s156, .string s157, .slice a158 la158 ca158, .slice a159 la159 ca159, .slice a160 la160 ca160, .slice a161 la161 ca161, .slice a162 la162 ca162]) 0) fun v163 =>
 ∃ x164 : Int, ∃ x165 : Int, ∃ s166 : ByteArray, ∃ s167 : ByteArray, ∃ (a168 : Option Addr) (la168 ca168 : Nat), ∃ (a169 : Option Addr) (la169 ca169 : Nat), v163 = .agg #[.int .u32 x164, .int .i64 x165, .string s166, .string s167, .slice a168 la168 ca168, .slice a169 la169 ca169] ∧
 VNew h153 (.cells #[.int .u32 x164, .int .i64 x165, .string s166, .string s167, .slice a168 la168 ca168, .slice a169 la169 ca169] 57) fun b170 h171 =>
 RunsTo Tryz.prog (Builtin.append_ #[22, 22] 22 #[.slice askedWere_76 laskedWere_76 caskedWere_76, .slice (some ⟨b170, 0, none⟩) 1 1]) h171 fun v172 h173 =>
 ∃ (a174 : Option Addr) (la174 ca174 : Nat), v172 = .slice a174 la174 ca174 ∧
 ∃ x175 : Int, cellH h173 ⟨b115, 0, none⟩ = some (.int .u32 x175) ∧
 ∃ b176 : Bool, cellH h173 ⟨b115, 1, none⟩ = some (.bool b176) ∧
 ∃ x177 : Int, cellH h173 ⟨b115, 2, none⟩ = some (.int .i64 x177) ∧
 ∃ x178 : Int, cellH h173 ⟨b115, 3, none⟩ = some (.int .i64 x178) ∧
 ∃ (a179 : Option Addr) (la179 ca179 : Nat), cellH h173 ⟨b115, 4, none⟩ = some (.slice a179 la179 ca179) ∧
 ∃ (a180 : Option Addr) (la180 ca180 : Nat), cellH h173 ⟨b115, 5, none⟩ = some (.slice a180 la180 ca180) ∧
 ∃ (a181 : Option Addr) (la181 ca181 : Nat), cellH h173 ⟨b115, 6, none⟩ = some (.slice a181 la181 ca181) ∧
 ∃ (a182 : Option Addr) (la182 ca182 : Nat), cellH h173 ⟨b115, 7, none⟩ = some (.slice a182 la182 ca182) ∧
 ∃ x183 : Int, cellH h173 ⟨b115, 8, none⟩ = some (.int .i64 x183) ∧
 ∃ x184 : Int, cellH h173 ⟨b115, 9, none⟩ = some (.int .i64 x184) ∧
 ∃ x185 : Int, cellH h173 ⟨b115, 10, none⟩ = some (.int .i64 x185) ∧
 ∃ b186 : Bool, cellH h173 ⟨b115, 11, none⟩ = some (.bool b186) ∧
 CallsH Tryz.prog 33 #[.agg #[.int .u32 x175, .bool b176, .int .i64 x177, .int .i64 x178, .slice a179 la179 ca179, .slice a180 la180 ca180, .slice a181 la181 ca181, .slice a182 la182 ca182, .int .i64 x183, .int .i64 x184, .int .i64 x185, .bool b186]] h173 fun v187 h188 =>
 ∃ p189 : Option Addr, v187 = .pointer p189 ∧
 VSome p189 fun a190 =>
 ∃ x191 : Int, cellH h188 a190 = some (.int .u32 x191) ∧
 ∃ b192 : Bool, cellH h188 ⟨a190.block, a190.off + 1, none⟩ = some (.bool b192) ∧
 ∃ x193 : Int, cellH h188 ⟨a190.block, a190.off + 2, none⟩ = some (.int .i64 x193) ∧
 ∃ x194 : Int, cellH h188 ⟨a190.block, a190.off + 3, none⟩ = some (.int .i64 x194) ∧
 ∃ (a195 : Option Addr) (la195 ca195 : Nat), cellH h188 ⟨a190.block, a190.off + 4, none⟩ = some (.slice a195 la195 ca195) ∧
 ∃ (a196 : Option Addr) (la196 ca196 : Nat), cellH h188 ⟨a190.block, a190.off + 5, none⟩ = some (.slice a196 la196 ca196) ∧
 ∃ (a197 : Option Addr) (la197 ca197 : Nat), cellH h188 ⟨a190.block, a190.off + 6, none⟩ = some (.slice a197 la197 ca197) ∧
 ∃ (a198 : Option Addr) (la198 ca198 : Nat), cellH h188 ⟨a190.block, a190.off + 7, none⟩ = some (.slice a198 la198 ca198) ∧
 ∃ x199 : Int, cellH h188 ⟨a190.block, a190.off + 8, none⟩ = some (.int .i64 x199) ∧
 ∃ x200 : Int, cellH h188 ⟨a190.block, a190.off + 9, none⟩ = some (.int .i64 x200) ∧
 ∃ x201 : Int, cellH h188 ⟨a190.block, a190.off + 10, none⟩ = some (.int .i64 x201) ∧
 ∃ b202 : Bool, cellH h188 ⟨a190.block, a190.off + 11, none⟩ = some (.bool b202) ∧
 VNew h188 (.cells #[.int .u32 x191, .bool b192, .int .i64 x193, .int .i64 x194, .slice a195 la195 ca195, .slice a196 la196 ca196, .slice a197 la197 ca197, .slice a198 la198 ca198, .int .i64 x199, .int .i64 x200, .int .i64 x201, .bool b202] 65) fun b203 h204 =>
 RunsTo Tryz.prog (Builtin.append_ #[23, 23] 23 #[.slice toldWere_78 ltoldWere_78 ctoldWere_78, .slice (some ⟨b203, 0, none⟩) 1 1]) h204 fun v205 h206 =>
 ∃ (a207 : Option Addr) (la207 ca207 : Nat), v205 = .slice a207 la207 ca207 ∧
 ∃ J208 : Heap → Option Addr → Nat → Nat → Option Addr → Nat → Nat → Prop, (cond (x94 == (0 : Int))
 (∃ x209 : Int, cellH h206 ⟨b95, 0, none⟩ = some (.int .u32 x209) ∧
 ∃ x210 : Int, cellH h206 ⟨b95, 1, none⟩ = some (.int .i64 x210) ∧
 ∃ s211 : ByteArray, cellH h206 ⟨b95, 2, none⟩ = some (.string s211) ∧
 ∃ s212 : ByteArray, cellH h206 ⟨b95, 3, none⟩ = some (.string s212) ∧
 ∃ (a213 : Option Addr) (la213 ca213 : Nat), cellH h206 ⟨b95, 4, none⟩ = some (.slice a213 la213 ca213) ∧
 ∃ (a214 : Option Addr) (la214 ca214 : Nat), cellH h206 ⟨b95, 5, none⟩ = some (.slice a214 la214 ca214) ∧
 CallsH Tryz.prog 25 #[.agg #[.int .u32 x209, .int .i64 x210, .string s211, .string s212, .slice a213 la213 ca213, .slice a214 la214 ca214]] h206 fun v215 h216 =>
 ∃ (a217 : Option Addr) (la217 ca217 : Nat), ∃ x218 : Int, v215 = .tuple #[.slice a217 la217 ca217, .int .i64 x218] ∧
 VNew h216 (.cells #[.slice a217 la217 ca217] 36) fun b219 h220 =>
 VNew h220 (.cells #[.slice (some ⟨b219, 0, none⟩) 1 1] 24) fun b221 h222 =>
 RunsTo Tryz.prog (Builtin.append_ #[84, 84] 84 #[.slice kept_72 lkept_72 ckept_72, .slice (some ⟨b221, 0, none⟩) 1 1]) h222 fun v223 h224 =>
 ∃ (a225 : Option Addr) (la225 ca225 : Nat), v223 = .slice a225 la225 ca225 ∧
 VNew h224 (.cells #[.slice a217 la217 ca217] 36) fun b226 h227 =>
 CallsH Tryz.prog 37 #[.slice (some ⟨b226, 0, none⟩) 1 1] h227 fun v228 h229 =>
 ∃ (a230 : Option Addr) (la230 ca230 : Nat), v228 = .slice a230 la230 ca230 ∧
 VNew h229 (.cells #[.slice a230 la230 ca230] 24) fun b231 h232 =>
 RunsTo Tryz.prog (Builtin.append_ #[84, 84] 84 #[.slice were_73 lwere_73 cwere_73, .slice (some ⟨b231, 0, none⟩) 1 1]) h232 fun v233 h234 =>
 ∃ (a235 : Option Addr) (la235 ca235 : Nat), v233 = .slice a235 la235 ca235 ∧
 J208 h234 a225 la225 ca225 a235 la235 ca235)
 (J208 h206 kept_72 lkept_72 ckept_72 were_73 lwere_73 cwere_73)) ∧
 ∀ (h236 : Heap) (g237 : Env) (kept_238 : Option Addr) (lkept_238 ckept_238 : Nat) (were_239 : Option Addr) (lwere_239 cwere_239 : Nat), J208 h236 kept_238 lkept_238 ckept_238 were_239 lwere_239 cwere_239 →
 ∃ J240 : Heap → Option Addr → Nat → Nat → Option Addr → Nat → Nat → Prop, (cond (x114 == (0 : Int))
 (∃ x241 : Int, cellH h236 ⟨b115, 0, none⟩ = some (.int .u32 x241) ∧
 ∃ b242 : Bool, cellH h236 ⟨b115, 1, none⟩ = some (.bool b242) ∧
 ∃ x243 : Int, cellH h236 ⟨b115, 2, none⟩ = some (.int .i64 x243) ∧
 ∃ x244 : Int, cellH h236 ⟨b115, 3, none⟩ = some (.int .i64 x244) ∧
 ∃ (a245 : Option Addr) (la245 ca245 : Nat), cellH h236 ⟨b115, 4, none⟩ = some (.slice a245 la245 ca245) ∧
 ∃ (a246 : Option Addr) (la246 ca246 : Nat), cellH h236 ⟨b115, 5, none⟩ = some (.slice a246 la246 ca246) ∧
 ∃ (a247 : Option Addr) (la247 ca247 : Nat), cellH h236 ⟨b115, 6, none⟩ = some (.slice a247 la247 ca247) ∧
 ∃ (a248 : Option Addr) (la248 ca248 : Nat), cellH h236 ⟨b115, 7, none⟩ = some (.slice a248 la248 ca248) ∧
 ∃ x249 : Int, cellH h236 ⟨b115, 8, none⟩ = some (.int .i64 x249) ∧
 ∃ x250 : Int, cellH h236 ⟨b115, 9, none⟩ = some (.int .i64 x250) ∧
 ∃ x251 : Int, cellH h236 ⟨b115, 10, none⟩ = some (.int .i64 x251) ∧
 ∃ b252 : Bool, cellH h236 ⟨b115, 11, none⟩ = some (.bool b252) ∧
 CallsH Tryz.prog 26 #[.agg #[.int .u32 x241, .bool b242, .int .i64 x243, .int .i64 x244, .slice a245 la245 ca245, .slice a246 la246 ca246, .slice a247 la247 ca247, .slice a248 la248 ca248, .int .i64 x249, .int .i64 x250, .int .i64 x251, .bool b252]] h236 fun v253 h254 =>
 ∃ (a255 : Option Addr) (la255 ca255 : Nat), ∃ x256 : Int, v253 = .tuple #[.slice a255 la255 ca255, .int .i64 x256] ∧
 VNew h254 (.cells #[.slice a255 la255 ca255] 36) fun b257 h258 =>
 VNew h258 (.cells #[.slice (some ⟨b257, 0, none⟩) 1 1] 24) fun b259 h260 =>
 RunsTo Tryz.prog (Builtin.append_ #[84, 84] 84 #[.slice kept_238 lkept_238 ckept_238, .slice (some ⟨b259, 0, none⟩) 1 1]) h260 fun v261 h262 =>
 ∃ (a263 : Option Addr) (la263 ca263 : Nat), v261 = .slice a263 la263 ca263 ∧
 VNew h262 (.cells #[.slice a255 la255 ca255] 36) fun b264 h265 =>
 CallsH Tryz.prog 37 #[.slice (some ⟨b264, 0, none⟩) 1 1] h265 fun v266 h267 =>
 ∃ (a268 : Option Addr) (la268 ca268 : Nat), v266 = .slice a268 la268 ca268 ∧
 VNew h267 (.cells #[.slice a268 la268 ca268] 24) fun b269 h270 =>
 RunsTo Tryz.prog (Builtin.append_ #[84, 84] 84 #[.slice were_239 lwere_239 cwere_239, .slice (some ⟨b269, 0, none⟩) 1 1]) h270 fun v271 h272 =>
 ∃ (a273 : Option Addr) (la273 ca273 : Nat), v271 = .slice a273 la273 ca273 ∧
 J240 h272 a263 la263 ca263 a273 la273 ca273)
 (J240 h236 kept_238 lkept_238 ckept_238 were_239 lwere_239 cwere_239)) ∧
 ∀ (h274 : Heap) (g275 : Env) (kept_276 : Option Addr) (lkept_276 ckept_276 : Nat) (were_277 : Option Addr) (lwere_277 cwere_277 : Nat), J240 h274 kept_276 lkept_276 ckept_276 were_277 lwere_277 cwere_277 →
 VIdx a1raws la1raws i_66 1 fun a278 =>
 ∃ (a279 : Option Addr) (la279 ca279 : Nat), cellH h274 a278 = some (.slice a279 la279 ca279) ∧
 CallsH Tryz.prog 24 #[.slice a279 la279 ca279] h274 fun v280 h281 =>
 ∃ (a282 : Option Addr) (la282 ca282 : Nat), ∃ x283 : Int, v280 = .tuple #[.slice a282 la282 ca282, .int .i64 x283] ∧
 cond (x283 == (0 : Int))
 (VNew h281 (.cells #[.slice a282 la282 ca282] 36) fun b284 h285 =>
 VNew h285 (.cells #[.slice (some ⟨b284, 0, none⟩) 1 1] 24) fun b286 h287 =>
 RunsTo Tryz.prog (Builtin.append_ #[84, 84] 84 #[.slice kept_276 lkept_276 ckept_276, .slice (some ⟨b286, 0, none⟩) 1 1]) h287 fun v288 h289 =>
 ∃ (a290 : Option Addr) (la290 ca290 : Nat), v288 = .slice a290 la290 ca290 ∧
 VNew h289 (.cells #[.slice a282 la282 ca282] 36) fun b291 h292 =>
 CallsH Tryz.prog 37 #[.slice (some ⟨b291, 0, none⟩) 1 1] h292 fun v293 h294 =>
 ∃ (a295 : Option Addr) (la295 ca295 : Nat), v293 = .slice a295 la295 ca295 ∧
 VNew h294 (.cells #[.slice a295 la295 ca295] 24) fun b296 h297 =>
 RunsTo Tryz.prog (Builtin.append_ #[84, 84] 84 #[.slice were_277 lwere_277 cwere_277, .slice (some ⟨b296, 0, none⟩) 1 1]) h297 fun v298 h299 =>
 ∃ (a300 : Option Addr) (la300 ca300 : Nat), v298 = .slice a300 la300 ca300 ∧
 J81 h299 a290 la290 ca290 a300 la300 ca300 (IntKind.i64.wrap ((IntKind.i64.wrap (total_74 + 8000)) + (IntKind.i64.wrap (300 * (minI (la83 : Int) 131072))))) a128 la128 ca128 a174 la174 ca174 a145 la145 ca145 a207 la207 ca207 (some ⟨b95, 0, none⟩) x94 (some ⟨b115, 0, none⟩) x114 a282 la282 ca282 x283)
 (J81 h281 kept_276 lkept_276 ckept_276 were_277 lwere_277 cwere_277 (IntKind.i64.wrap ((IntKind.i64.wrap (total_74 + 8000)) + (IntKind.i64.wrap (300 * (minI (la83 : Int) 131072))))) a128 la128 ca128 a174 la174 ca174 a145 la145 ca145 a207 la207 ca207 (some ⟨b95, 0, none⟩) x94 (some ⟨b115, 0, none⟩) x114 a282 la282 ca282 x283)) ∧
 ∀ (h301 : Heap) (g302 : Env) (kept_303 : Option Addr) (lkept_303 ckept_303 : Nat) (were_304 : Option Addr) (lwere_304 cwere_304 : Nat) (total_305 : Int) (asked_306 : Option Addr) (lasked_306 casked_306 : Nat) (askedWere_307 : Option Addr) (laskedWere_307 caskedWere_307 : Nat) (told_308 : Option Addr) (ltold_308 ctold_308 : Nat) (toldWere_309 : Option Addr) (ltoldWere_309 ctoldWere_309 : Nat) (q_310 : Option Addr) (e_311 : Int) (r_312 : Option Addr) (f_313 : Int) (x_314 : Option Addr) (lx_314 cx_314 : Nat) (g_315 : Int), J81 h301 kept_303 lkept_303 ckept_303 were_304 lwere_304 cwere_304 total_305 asked_306 lasked_306 casked_306 askedWere_307 laskedWere_307 caskedWere_307 told_308 ltold_308 ctold_308 toldWere_309 ltoldWere_309 ctoldWere_309 q_310 e_311 r_312 f_313 x_314 lx_314 cx_314 g_315 →
 ∃ m80, m80 < n69 ∧ I68 m80 h301 kept_303 lkept_303 ckept_303 were_304 lwere_304 cwere_304 total_305 asked_306 lasked_306 casked_306 askedWere_307 laskedWere_307 caskedWere_307 told_308 ltold_308 ctold_308 toldWere_309 ltoldWere_309 ctoldWere_309 (IntKind.i64.wrap (k_79 + 1)))
 (∃ m67, m67 < n56 ∧ I55 m67 h70 kept_72 lkept_72 ckept_72 were_73 lwere_73 cwere_73 total_74 asked_75 lasked_75 casked_75 askedWere_76 laskedWere_76 caskedWere_76 told_77 ltold_77 ctold_77 toldWere_78 ltoldWere_78 ctoldWere_78 (IntKind.i64.wrap (i_66 + 1))))
 (G9b kept_59 lkept_59 ckept_59 were_60 lwere_60 cwere_60 asked_62 lasked_62 casked_62 askedWere_63 laskedWere_63 caskedWere_63 told_64 ltold_64 ctold_64 toldWere_65 ltoldWere_65 ctoldWere_65 h57 R)) (G9b kept_59 lkept_59 ckept_59 were_60 lwere_60 cwere_60 asked_62 lasked_62 casked_62 askedWere_63 laskedWere_63 caskedWere_63 told_64 ltold_64 ctold_64 toldWere_65 ltoldWere_65 ctoldWere_65 h57 R)
def F9 (a0pieces : Option Addr) (la0pieces ca0pieces : Nat) (a1raws : Option Addr) (la1raws ca1raws : Nat) (h : Heap) (R : KV) : Prop :=
 CallsH Tryz.prog 10 #[] h fun v1 h2 =>
 ∃ p3 : Option Addr, v1 = .pointer p3 ∧
 CallsH Tryz.prog 10 #[] h2 fun v4 h5 =>
 ∃ p6 : Option Addr, v4 = .pointer p6 ∧
 cond p3.isNone (R (.bool false) h5) (cond p6.isNone
 (R (.bool false) h5)
 (∃ I7 : Nat → Heap → Option Addr → Nat → Nat → Option Addr → Nat → Nat → Int → Int → Prop, (∃ n8, I7 n8 h5 none 0 0 none 0 0 0 0) ∧
 ∀ (n8 : Nat) (h9 : Heap) (g10 : Env) (kept_11 : Option Addr) (lkept_11 ckept_11 : Nat) (were_12 : Option Addr) (lwere_12 cwere_12 : Nat) (total_13 : Int) (i_14 : Int), I7 n8 h9 kept_11 lkept_11 ckept_11 were_12 lwere_12 cwere_12 total_13 i_14 →
 cond (decide (i_14 < (la0pieces : Int))) (cond (decide (total_13 ≤ (33554432 : Int)))
 (VIdx a0pieces la0pieces i_14 1 fun a16 =>
 ∃ (a17 : Option Addr) (la17 ca17 : Nat), cellH h9 a16 = some (.slice a17 la17 ca17) ∧
 CallsH Tryz.prog 12 #[.pointer p3, .slice a17 la17 ca17] h9 fun v18 h19 =>
 ∃ (a20 : Option Addr) (la20 ca20 : Nat), ∃ x21 : Int, v18 = .tuple #[.slice a20 la20 ca20, .int .i64 x21] ∧
 VIdx a0pieces la0pieces i_14 1 fun a22 =>
 ∃ (a23 : Option Addr) (la23 ca23 : Nat), cellH h19 a22 = some (.slice a23 la23 ca23) ∧
 CallsH Tryz.prog 12 #[.pointer p6, .slice a23 la23 ca23] h19 fun v24 h25 =>
 ∃ (a26 : Option Addr) (la26 ca26 : Nat), ∃ x27 : Int, v24 = .tuple #[.slice a26 la26 ca26, .int .i64 x27] ∧
 VIdx a0pieces la0pieces i_14 1 fun a28 =>
 ∃ (a29 : Option Addr) (la29 ca29 : Nat), cellH h25 a28 = some (.slice a29 la29 ca29) ∧
 ∃ I30 : Nat → Heap → Int → Int → Prop, (∃ n31, I30 n31 h25 (IntKind.i64.wrap ((IntKind.i64.wrap (total_13 + 3200)) + (IntKind.i64.wrap (4 * (la29 : Int))))) 0) ∧
 ∀ (n31 : Nat) (h32 : Heap) (g33 : Env) (total_34 : Int) (k_35 : Int), I30 n31 h32 total_34 k_35 →
 cond (decide (k_35 < (la20 : Int)))
 (VIdx a20 la20 k_35 1 fun a37 =>
 ∃ (a38 : Option Addr) (la38 ca38 : Nat), cellH h32 a37 = some (.slice a38 la38 ca38) ∧
 ∃ m36, m36 < n31 ∧ I30 m36 h32 (IntKind.i64.wrap ((IntKind.i64.wrap (total_34 + 3200)) + (IntKind.i64.wrap (4 * (la38 : Int))))) (IntKind.i64.wrap (k_35 + 1)))
 (VNew h32 (.cells #[.slice a20 la20 ca20, .slice a26 la26 ca26] 24) fun b39 h40 =>
 RunsTo Tryz.prog (Builtin.append_ #[84, 84] 84 #[.slice kept_11 lkept_11 ckept_11, .slice (some ⟨b39, 0, none⟩) 2 2]) h40 fun v41 h42 =>
 ∃ (a43 : Option Addr) (la43 ca43 : Nat), v41 = .slice a43 la43 ca43 ∧
 CallsH Tryz.prog 37 #[.slice a20 la20 ca20] h42 fun v44 h45 =>
 ∃ (a46 : Option Addr) (la46 ca46 : Nat), v44 = .slice a46 la46 ca46 ∧
 CallsH Tryz.prog 37 #[.slice a26 la26 ca26] h45 fun v47 h48 =>
 ∃ (a49 : Option Addr) (la49 ca49 : Nat), v47 = .slice a49 la49 ca49 ∧
 VNew h48 (.cells #[.slice a46 la46 ca46, .slice a49 la49 ca49] 24) fun b50 h51 =>
 RunsTo Tryz.prog (Builtin.append_ #[84, 84] 84 #[.slice were_12 lwere_12 cwere_12, .slice (some ⟨b50, 0, none⟩) 2 2]) h51 fun v52 h53 =>
 ∃ (a54 : Option Addr) (la54 ca54 : Nat), v52 = .slice a54 la54 ca54 ∧
 ∃ m15, m15 < n8 ∧ I7 m15 h53 a43 la43 ca43 a54 la54 ca54 total_34 (IntKind.i64.wrap (i_14 + 1))))
 (G9a a1raws la1raws ca1raws kept_11 lkept_11 ckept_11 were_12 lwere_12 cwere_12 total_13 h9 R)) (G9a a1raws la1raws ca1raws kept_11 lkept_11 ckept_11 were_12 lwere_12 cwere_12 total_13 h9 R)))
theorem vf9 (a0pieces : Option Addr) (la0pieces ca0pieces : Nat) (a1raws : Option Addr) (la1raws ca1raws : Nat) (h : Heap) (R : KV) (hF : F9 a0pieces la0pieces ca0pieces a1raws la1raws ca1raws h R) : CallsH Tryz.prog 9 #[.slice a0pieces la0pieces ca0pieces, .slice a1raws la1raws ca1raws] h R :=
 calls_of_form (A := an9) (fn := Tryz.f9) (c := c9) (args := [.slice a0pieces la0pieces ca0pieces, .slice a1raws la1raws ca1raws]) Tryz.func9 (by kernel_rfl) mixed (by kernel_rfl) (by kernel_rfl : F9 a0pieces la0pieces ca0pieces a1raws la1raws ca1raws h R = vcF Tryz.prog an9 Tryz.f9 c9 [.slice a0pieces la0pieces ca0pieces, .slice a1raws la1raws ca1raws] h R) hF
/-! ### 14 (refrain/refrainlaw30.Book).take -/
noncomputable def c14 : Code := match Tryz.f14.body with | some c => c | none => .skip
noncomputable def an14 : Ann := { loops := fun i => match i with | 3 => [(5, .int .i64)] | 7 => [(6, .int .i64)] | 12 => [(7, .int .i64)] | _ => [], draws := fun i => match i with | 5 => #[0, 0, 2, 6, 14, 30, 0, 0, 192, 448, 960, 1984, 4094, 8191, 16383, 32767] | 9 => #[0, 0, 3, 7, 0, 0, 32, 96, 224, 480, 0, 2016, 4095, 8191] | 10 => #[0, 0, 2, 6, 14, 0, 0, 96, 224, 480, 1022, 2047, 4095, 8191] | 14 => #[0, 1, 3, 7, 0, 16, 0, 64, 192, 448, 0, 1984, 4032, 0, 16320, 32767, 65535] | 15 => #[0, 1, 3, 7, 0, 16, 0, 64, 192, 448, 0, 1984, 4032, 0, 0, 16384, 49152, 114688, 0, 507904, 1032192, 2080768, 0, 4194304, 12582912, 29360128, 0, 130023424, 264241152, 532676608, 1073725440, 2147467264, 4294967232, 8589934591, 17179869183] | _ => #[], joins := fun i => none }
def F14 (a0b : Option Addr) (a1l : Option Addr) (la1l ca1l : Nat) (h : Heap) (R : KV) : Prop :=
 VSome a0b fun a1 =>
 ∃ x2 : Int, cellH h ⟨a1.block, a1.off + 1, none⟩ = some (.int .i64 x2) ∧
 cond (decide (x2 > (33554432 : Int)))
 (R (.tuple #[]) h)
 (VSome a0b fun a3 =>
 ∃ (a4 : Option Addr) (la4 ca4 : Nat), cellH h a3 = some (.slice a4 la4 ca4) ∧
 ∃ I5 : Nat → Heap → Int → Prop, (∃ n6, I5 n6 h 0) ∧
 ∀ (n6 : Nat) (h7 : Heap) (g8 : Env) (i_9 : Int), I5 n6 h7 i_9 →
 cond (decide (i_9 < (la1l : Int)))
 (VSome a0b fun a11 =>
 ∃ x12 : Int, cellH h7 ⟨a11.block, a11.off + 1, none⟩ = some (.int .i64 x12) ∧
 VIdx a1l la1l i_9 1 fun a13 =>
 ∃ (a14 : Option Addr) (la14 ca14 : Nat), cellH h7 a13 = some (.slice a14 la14 ca14) ∧
 VSome a0b fun a15 =>
 VStore h7 ⟨a15.block, a15.off + 1, none⟩ (.int .i64 (IntKind.i64.wrap ((IntKind.i64.wrap (x12 + 1600)) + (IntKind.i64.wrap (4 * (la14 : Int)))))) fun h16 =>
 ∃ I17 : Nat → Heap → Int → Prop, (∃ n18, I17 n18 h16 0) ∧
 ∀ (n18 : Nat) (h19 : Heap) (g20 : Env) (k_21 : Int), I17 n18 h19 k_21 →
 VIdx a1l la1l i_9 1 fun a23 =>
 ∃ (a24 : Option Addr) (la24 ca24 : Nat), cellH h19 a23 = some (.slice a24 la24 ca24) ∧
 cond (decide (k_21 < (la24 : Int)))
 (VIdx a1l la1l i_9 1 fun a25 =>
 ∃ (a26 : Option Addr) (la26 ca26 : Nat), cellH h19 a25 = some (.slice a26 la26 ca26) ∧
 VSome a0b fun a27 =>
 ∃ (a28 : Option Addr) (la28 ca28 : Nat), cellH h19 a27 = some (.slice a28 la28 ca28) ∧
 CallsH Tryz.prog 40 #[.int .i64 (la28 : Int), .int .i64 k_21] h19 fun v29 h30 =>
 ∃ x31 : Int, v29 = .int .u8 x31 ∧
 (cellH h30 a25 = some (.slice a26 la26 ca26)) ∧
 VIdx a26 la26 k_21 1 fun a32 =>
 VStore h30 a32 (.int .u8 x31) fun h33 =>
 ∃ m22, m22 < n18 ∧ I17 m22 h33 (IntKind.i64.wrap (k_21 + 1)))
 (VSome a0b fun a34 =>
 ∃ (a35 : Option Addr) (la35 ca35 : Nat), cellH h19 a34 = some (.slice a35 la35 ca35) ∧
 VIdx a1l la1l i_9 1 fun a36 =>
 ∃ (a37 : Option Addr) (la37 ca37 : Nat), cellH h19 a36 = some (.slice a37 la37 ca37) ∧
 VNew h19 (.cells #[.slice a37 la37 ca37, .slice none 0 0, .slice none 0 0] 36) fun b38 h39 =>
 (cellH h39 a34 = some (.slice a35 la35 ca35)) ∧
 RunsTo Tryz.prog (Builtin.append_ #[24, 24] 24 #[.slice a35 la35 ca35, .slice (some ⟨b38, 0, none⟩) 3 3]) h39 fun v40 h41 =>
 ∃ (a42 : Option Addr) (la42 ca42 : Nat), v40 = .slice a42 la42 ca42 ∧
 VSome a0b fun a43 =>
 VStore h41 a43 (.slice a42 la42 ca42) fun h44 =>
 ∃ m10, m10 < n6 ∧ I5 m10 h44 (IntKind.i64.wrap (i_9 + 1))))
 (∃ I45 : Nat → Heap → Int → Prop, (∃ n46, I45 n46 h7 (la4 : Int)) ∧
 ∀ (n46 : Nat) (h47 : Heap) (g48 : Env) (i_49 : Int), I45 n46 h47 i_49 →
 VSome a0b fun a51 =>
 ∃ (a52 : Option Addr) (la52 ca52 : Nat), cellH h47 a51 = some (.slice a52 la52 ca52) ∧
 cond (decide (i_49 < (la52 : Int)))
 (VSome a0b fun a53 =>
 ∃ (a54 : Option Addr) (la54 ca54 : Nat), cellH h47 a53 = some (.slice a54 la54 ca54) ∧
 VSome a0b fun a55 =>
 ∃ (a56 : Option Addr) (la56 ca56 : Nat), cellH h47 a55 = some (.slice a56 la56 ca56) ∧
 VIdx a56 la56 i_49 1 fun a57 =>
 ∃ (a58 : Option Addr) (la58 ca58 : Nat), cellH h47 a57 = some (.slice a58 la58 ca58) ∧
 CallsH Tryz.prog 41 #[.slice a58 la58 ca58, .int .i64 i_49, .int .i64 1] h47 fun v59 h60 =>
 ∃ (a61 : Option Addr) (la61 ca61 : Nat), v59 = .slice a61 la61 ca61 ∧
 (cellH h60 a53 = some (.slice a54 la54 ca54)) ∧
 VIdx a54 la54 (IntKind.i64.wrap (i_49 + 1)) 1 fun a62 =>
 VStore h60 a62 (.slice a61 la61 ca61) fun h63 =>
 VSome a0b fun a64 =>
 ∃ (a65 : Option Addr) (la65 ca65 : Nat), cellH h63 a64 = some (.slice a65 la65 ca65) ∧
 VSome a0b fun a66 =>
 ∃ (a67 : Option Addr) (la67 ca67 : Nat), cellH h63 a66 = some (.slice a67 la67 ca67) ∧
 VIdx a67 la67 i_49 1 fun a68 =>
 ∃ (a69 : Option Addr) (la69 ca69 : Nat), cellH h63 a68 = some (.slice a69 la69 ca69) ∧
 VSome a0b fun a70 =>
 ∃ (a71 : Option Addr) (la71 ca71 : Nat), cellH h63 a70 = some (.slice a71 la71 ca71) ∧
 VIdx a71 la71 i_49 1 fun a72 =>
 ∃ (a73 : Option Addr) (la73 ca73 : Nat), cellH h63 a72 = some (.slice a73 la73 ca73) ∧
 VSome a0b fun a74 =>
 ∃ (a75 : Option Addr) (la75 ca75 : Nat), cellH h63 a74 = some (.slice a75 la75 ca75) ∧
 VIdx a75 la75 i_49 1 fun a76 =>
 ∃ (a77 : Option Addr) (la77 ca77 : Nat), cellH h63 a76 = some (.slice a77 la77 ca77) ∧
 CallsH Tryz.prog 42 #[.int .i64 (IntKind.i64.wrap ((ca73 : Int) - (la77 : Int)))] h63 fun v78 h79 =>
 ∃ x80 : Int, v78 = .int .i64 x80 ∧
 (cellH h79 a68 = some (.slice a69 la69 ca69)) ∧
 (cellH h79 a66 = some (.slice a67 la67 ca67)) ∧
 (cellH h79 a64 = some (.slice a65 la65 ca65)) ∧
 CallsH Tryz.prog 41 #[.slice a69 la69 ca69, .int .i64 i_49, .int .i64 x80] h79 fun v81 h82 =>
 ∃ (a83 : Option Addr) (la83 ca83 : Nat), v81 = .slice a83 la83 ca83 ∧
 (cellH h82 a64 = some (.slice a65 la65 ca65)) ∧
 VIdx a65 la65 (IntKind.i64.wrap (i_49 + 2)) 1 fun a84 =>
 VStore h82 a84 (.slice a83 la83 ca83) fun h85 =>
 ∃ m50, m50 < n46 ∧ I45 m50 h85 (IntKind.i64.wrap (i_49 + 3)))
 (R (.tuple #[]) h47)))
theorem vf14 (a0b : Option Addr) (a1l : Option Addr) (la1l ca1l : Nat) (h : Heap) (R : KV) (hF : F14 a0b a1l la1l ca1l h R) : CallsH Tryz.prog 14 #[.pointer a0b, .slice a1l la1l ca1l] h R :=
 calls_of_form (A := an14) (fn := Tryz.f14) (c := c14) (args := [.pointer a0b, .slice a1l la1l ca1l]) Tryz.func14 (by kernel_rfl) mixed (by kernel_rfl) (by kernel_rfl : F14 a0b a1l la1l ca1l h R = vcF Tryz.prog an14 Tryz.f14 c14 [.pointer a0b, .slice a1l la1l ca1l] h R) hF
/-! ### 15 (refrain/refrainlaw30.Book).whole -/
noncomputable def c15 : Code := match Tryz.f15.body with | some c => c | none => .skip
noncomputable def an15 : Ann := { loops := fun i => match i with | 2 => [(2, .bool), (3, .int .i64)] | 5 => [(2, .bool), (4, .int .i64)] | _ => [], draws := fun i => match i with | 7 => #[0, 1, 3, 7, 0, 31, 63, 0, 255, 511, 0, 0, 3072, 8191] | _ => #[], joins := fun i => none }
def F15 (a0b : Option Addr) (h : Heap) (R : KV) : Prop :=
 ∃ I1 : Nat → Heap → Bool → Int → Prop, (∃ n2, I1 n2 h false 0) ∧
 ∀ (n2 : Nat) (h3 : Heap) (g4 : Env) (y_5 : Bool) (i_6 : Int), I1 n2 h3 y_5 i_6 →
 VSome a0b fun a8 =>
 ∃ (a9 : Option Addr) (la9 ca9 : Nat), cellH h3 a8 = some (.slice a9 la9 ca9) ∧
 cond (decide (i_6 < (la9 : Int)))
 (∃ I10 : Nat → Heap → Bool → Int → Prop, (∃ n11, I10 n11 h3 y_5 0) ∧
 ∀ (n11 : Nat) (h12 : Heap) (g13 : Env) (y_14 : Bool) (k_15 : Int), I10 n11 h12 y_14 k_15 →
 VSome a0b fun a17 =>
 ∃ (a18 : Option Addr) (la18 ca18 : Nat), cellH h12 a17 = some (.slice a18 la18 ca18) ∧
 VIdx a18 la18 i_6 1 fun a19 =>
 ∃ (a20 : Option Addr) (la20 ca20 : Nat), cellH h12 a19 = some (.slice a20 la20 ca20) ∧
 cond (decide (k_15 < (la20 : Int)))
 (VSome a0b fun a21 =>
 ∃ (a22 : Option Addr) (la22 ca22 : Nat), cellH h12 a21 = some (.slice a22 la22 ca22) ∧
 VIdx a22 la22 i_6 1 fun a23 =>
 ∃ (a24 : Option Addr) (la24 ca24 : Nat), cellH h12 a23 = some (.slice a24 la24 ca24) ∧
 VIdx a24 la24 k_15 1 fun a25 =>
 ∃ x26 : Int, cellH h12 a25 = some (.int .u8 x26) ∧
 CallsH Tryz.prog 40 #[.int .i64 i_6, .int .i64 k_15] h12 fun v27 h28 =>
 ∃ x29 : Int, v27 = .int .u8 x29 ∧
 (cellH h28 a25 = some (.int .u8 x26)) ∧
 (cellH h28 a23 = some (.slice a24 la24 ca24)) ∧
 (cellH h28 a21 = some (.slice a22 la22 ca22)) ∧
 cond (x26 != x29)
 (R (.bool false) h28)
 (∃ m16, m16 < n11 ∧ I10 m16 h28 y_14 (IntKind.i64.wrap (k_15 + 1))))
 (∃ m7, m7 < n2 ∧ I1 m7 h12 y_14 (IntKind.i64.wrap (i_6 + 1))))
 (R (.bool true) h3)
theorem vf15 (a0b : Option Addr) (h : Heap) (R : KV) (hF : F15 a0b h R) : CallsH Tryz.prog 15 #[.pointer a0b] h R :=
 calls_of_form (A := an15) (fn := Tryz.f15) (c := c15) (args := [.pointer a0b]) Tryz.func15 (by kernel_rfl) mixed (by kernel_rfl) (by kernel_rfl : F15 a0b h R = vcF Tryz.prog an15 Tryz.f15 c15 [.pointer a0b] h R) hF
/-! ### 22 (refrain/refrainlaw30.Lists).take -/
noncomputable def c22 : Code := match Tryz.f22.body with | some c => c | none => .skip
noncomputable def an22 : Ann := { loops := fun i => match i with | 6 => [(7, .slc), (8, .int .i64)] | 10 => [(7, .slc), (9, .int .i64)] | 15 => [(10, .int .i64)] | 19 => [(11, .int .i64)] | 25 => [(13, .int .i64)] | 28 => [(14, .int .i64)] | 33 => [(15, .int .i64)] | 37 => [(16, .int .i64)] | 41 => [(17, .int .i64)] | 45 => [(18, .int .i64)] | _ => [], draws := fun i => match i with | 2 => #[0, 0, 2, 6, 14, 30, 0, 64, 192, 0, 512, 1536, 4032, 0, 8192, 24576, 65472, 0, 131072, 393216, 1048512, 0, 2097152, 6291456, 16777152, 0, 33554432, 100663296, 268435392, 536870848, 1073741822, 2147483647, 4294967295, 8589934591] | 3 => #[0, 1, 3, 7, 15, 0, 32, 96, 224, 480, 0, 1024, 3072, 7168, 15360, 32767, 0, 131071] | 17 => #[0, 0, 2, 6, 14, 30, 0, 0, 192, 448, 960, 1984, 4094, 8191, 16383, 32767] | 21 => #[0, 0, 3, 7, 0, 0, 32, 96, 224, 480, 992, 2016, 4095, 8191] | 22 => #[0, 0, 2, 6, 14, 0, 0, 96, 224, 480, 1022, 2047, 4095, 8191] | 30 => #[0, 1, 3, 0, 0, 16, 48, 112, 240, 496, 1023, 2047] | 31 => #[0, 0, 2, 6, 14, 0, 32, 96, 224, 510, 1023, 2047, 4095] | 35 => #[0, 1, 0, 0, 8, 24, 56, 120, 248, 511, 1023] | 39 => #[0, 1, 0, 0, 8, 24, 56, 120, 248, 504, 1023, 2047] | 43 => #[0, 1, 0, 0, 8, 24, 56, 120, 248, 504, 1023, 2047] | 47 => #[0, 1, 0, 0, 8, 24, 56, 120, 248, 504, 1016, 2047, 4095] | 48 => #[0, 0, 2, 6, 14, 0, 32, 96, 254, 511, 1023, 2047] | 49 => #[0, 0, 2, 6, 14, 0, 32, 96, 254, 511, 1023, 2047] | 50 => #[0, 0, 2, 6, 14, 0, 32, 96, 254, 511, 1023, 2047] | 51 => #[0, 0, 2, 6, 14, 0, 32, 96, 254, 511, 1023, 2047] | _ => #[], joins := fun i => none }
def F22 (a0k : Option Addr) (a1q_0 : Int) (a1q_1 : Int) (a1q_2 : ByteArray) (a1q_3 : ByteArray) (a1q_4 : Option Addr) (la1q_4 ca1q_4 : Nat) (a1q_5 : Option Addr) (la1q_5 ca1q_5 : Nat) (a2r_0 : Int) (a2r_1 : Bool) (a2r_2 : Int) (a2r_3 : Int) (a2r_4 : Option Addr) (la2r_4 ca2r_4 : Nat) (a2r_5 : Option Addr) (la2r_5 ca2r_5 : Nat) (a2r_6 : Option Addr) (la2r_6 ca2r_6 : Nat) (a2r_7 : Option Addr) (la2r_7 ca2r_7 : Nat) (a2r_8 : Int) (a2r_9 : Int) (a2r_10 : Int) (a2r_11 : Bool) (h : Heap) (R : KV) : Prop :=
 VNew h (.cells #[.int .u32 a1q_0, .int .i64 a1q_1, .string a1q_2, .string a1q_3, .slice a1q_4 la1q_4 ca1q_4, .slice a1q_5 la1q_5 ca1q_5] 57) fun b1 h2 =>
 VNew h2 (.cells #[.int .u32 a2r_0, .bool a2r_1, .int .i64 a2r_2, .int .i64 a2r_3, .slice a2r_4 la2r_4 ca2r_4, .slice a2r_5 la2r_5 ca2r_5, .slice a2r_6 la2r_6 ca2r_6, .slice a2r_7 la2r_7 ca2r_7, .int .i64 a2r_8, .int .i64 a2r_9, .int .i64 a2r_10, .bool a2r_11] 65) fun b3 h4 =>
 VSome a0k fun a5 =>
 ∃ x6 : Int, cellH h4 ⟨a5.block, a5.off + 6, none⟩ = some (.int .i64 x6) ∧
 cond (decide (x6 > (33554432 : Int)))
 (R (.tuple #[]) h4)
 (VSome a0k fun a7 =>
 ∃ x8 : Int, cellH h4 ⟨a7.block, a7.off + 6, none⟩ = some (.int .i64 x8) ∧
 ∃ (a9 : Option Addr) (la9 ca9 : Nat), cellH h4 ⟨b1, 4, none⟩ = some (.slice a9 la9 ca9) ∧
 ∃ (a10 : Option Addr) (la10 ca10 : Nat), cellH h4 ⟨b3, 6, none⟩ = some (.slice a10 la10 ca10) ∧
 ∃ (a11 : Option Addr) (la11 ca11 : Nat), cellH h4 ⟨b3, 4, none⟩ = some (.slice a11 la11 ca11) ∧
 ∃ (a12 : Option Addr) (la12 ca12 : Nat), cellH h4 ⟨b1, 5, none⟩ = some (.slice a12 la12 ca12) ∧
 ∃ (a13 : Option Addr) (la13 ca13 : Nat), cellH h4 ⟨b3, 5, none⟩ = some (.slice a13 la13 ca13) ∧
 ∃ (a14 : Option Addr) (la14 ca14 : Nat), cellH h4 ⟨b3, 7, none⟩ = some (.slice a14 la14 ca14) ∧
 VSome a0k fun a15 =>
 VStore h4 ⟨a15.block, a15.off + 6, none⟩ (.int .i64 (IntKind.i64.wrap ((IntKind.i64.wrap (x8 + 30000)) + (IntKind.i64.wrap (200 * (IntKind.i64.wrap ((IntKind.i64.wrap ((IntKind.i64.wrap ((IntKind.i64.wrap ((IntKind.i64.wrap ((la9 : Int) + (la10 : Int))) + (la11 : Int))) + (la12 : Int))) + (la13 : Int))) + (la14 : Int)))))))) fun h16 =>
 VSome a0k fun a17 =>
 ∃ (a18 : Option Addr) (la18 ca18 : Nat), cellH h16 a17 = some (.slice a18 la18 ca18) ∧
 VSome a0k fun a19 =>
 ∃ (a20 : Option Addr) (la20 ca20 : Nat), cellH h16 ⟨a19.block, a19.off + 1, none⟩ = some (.slice a20 la20 ca20) ∧
 VSome a0k fun a21 =>
 ∃ (a22 : Option Addr) (la22 ca22 : Nat), cellH h16 ⟨a21.block, a21.off + 2, none⟩ = some (.slice a22 la22 ca22) ∧
 VNew h16 (.cells #[.int .i64 0, .int .i64 0, .int .i64 0] 123) fun b23 h24 =>
 (cellH h24 ⟨a21.block, a21.off + 2, none⟩ = some (.slice a22 la22 ca22)) ∧
 (cellH h24 ⟨a19.block, a19.off + 1, none⟩ = some (.slice a20 la20 ca20)) ∧
 (cellH h24 a17 = some (.slice a18 la18 ca18)) ∧
 storeL ⟨b23, 0, none⟩ 0 [.int .i64 (la18 : Int), .int .i64 (la20 : Int), .int .i64 (la22 : Int)] h24 fun h25 =>
 ∃ I26 : Nat → Heap → Option Addr → Nat → Nat → Int → Prop, (∃ n27, I26 n27 h25 none 0 0 0) ∧
 ∀ (n27 : Nat) (h28 : Heap) (g29 : Env) (inner_30 : Option Addr) (linner_30 cinner_30 : Nat) (i_31 : Int), I26 n27 h28 inner_30 linner_30 cinner_30 i_31 →
 ∃ (a33 : Option Addr) (la33 ca33 : Nat), cellH h28 ⟨b1, 5, none⟩ = some (.slice a33 la33 ca33) ∧
 cond (decide (i_31 < (la33 : Int)))
 (∃ (a34 : Option Addr) (la34 ca34 : Nat), cellH h28 ⟨b1, 5, none⟩ = some (.slice a34 la34 ca34) ∧
 VIdx a34 la34 i_31 3 fun a35 =>
 ∃ (a36 : Option Addr) (la36 ca36 : Nat), cellH h28 ⟨a35.block, a35.off + 2, none⟩ = some (.slice a36 la36 ca36) ∧
 VNew h28 (.cells #[.slice a36 la36 ca36] 112) fun b37 h38 =>
 RunsTo Tryz.prog (Builtin.append_ #[45, 45] 45 #[.slice inner_30 linner_30 cinner_30, .slice (some ⟨b37, 0, none⟩) 1 1]) h38 fun v39 h40 =>
 ∃ (a41 : Option Addr) (la41 ca41 : Nat), v39 = .slice a41 la41 ca41 ∧
 ∃ m32, m32 < n27 ∧ I26 m32 h40 a41 la41 ca41 (IntKind.i64.wrap (i_31 + 1)))
 (∃ I42 : Nat → Heap → Option Addr → Nat → Nat → Int → Prop, (∃ n43, I42 n43 h28 inner_30 linner_30 cinner_30 0) ∧
 ∀ (n43 : Nat) (h44 : Heap) (g45 : Env) (inner_46 : Option Addr) (linner_46 cinner_46 : Nat) (i_47 : Int), I42 n43 h44 inner_46 linner_46 cinner_46 i_47 →
 ∃ (a49 : Option Addr) (la49 ca49 : Nat), cellH h44 ⟨b3, 5, none⟩ = some (.slice a49 la49 ca49) ∧
 cond (decide (i_47 < (la49 : Int)))
 (∃ (a50 : Option Addr) (la50 ca50 : Nat), cellH h44 ⟨b3, 5, none⟩ = some (.slice a50 la50 ca50) ∧
 VIdx a50 la50 i_47 2 fun a51 =>
 ∃ (a52 : Option Addr) (la52 ca52 : Nat), cellH h44 ⟨a51.block, a51.off + 1, none⟩ = some (.slice a52 la52 ca52) ∧
 VNew h44 (.cells #[.slice a52 la52 ca52] 112) fun b53 h54 =>
 RunsTo Tryz.prog (Builtin.append_ #[45, 45] 45 #[.slice inner_46 linner_46 cinner_46, .slice (some ⟨b53, 0, none⟩) 1 1]) h54 fun v55 h56 =>
 ∃ (a57 : Option Addr) (la57 ca57 : Nat), v55 = .slice a57 la57 ca57 ∧
 ∃ m48, m48 < n43 ∧ I42 m48 h56 a57 la57 ca57 (IntKind.i64.wrap (i_47 + 1)))
 (∃ (a58 : Option Addr) (la58 ca58 : Nat), cellH h44 ⟨b3, 7, none⟩ = some (.slice a58 la58 ca58) ∧
 RunsTo Tryz.prog (Builtin.append_ #[45, 45] 45 #[.slice inner_46 linner_46 cinner_46, .slice a58 la58 ca58]) h44 fun v59 h60 =>
 ∃ (a61 : Option Addr) (la61 ca61 : Nat), v59 = .slice a61 la61 ca61 ∧
 ∃ I62 : Nat → Heap → Int → Prop, (∃ n63, I62 n63 h60 0) ∧
 ∀ (n63 : Nat) (h64 : Heap) (g65 : Env) (i_66 : Int), I62 n63 h64 i_66 →
 cond (decide (i_66 < (la61 : Int)))
 (VSome a0k fun a68 =>
 ∃ x69 : Int, cellH h64 ⟨a68.block, a68.off + 6, none⟩ = some (.int .i64 x69) ∧
 VIdx a61 la61 i_66 1 fun a70 =>
 ∃ (a71 : Option Addr) (la71 ca71 : Nat), cellH h64 a70 = some (.slice a71 la71 ca71) ∧
 VSome a0k fun a72 =>
 VStore h64 ⟨a72.block, a72.off + 6, none⟩ (.int .i64 (IntKind.i64.wrap ((IntKind.i64.wrap (x69 + 4000)) + (IntKind.i64.wrap (100 * (la71 : Int)))))) fun h73 =>
 ∃ I74 : Nat → Heap → Int → Prop, (∃ n75, I74 n75 h73 0) ∧
 ∀ (n75 : Nat) (h76 : Heap) (g77 : Env) (j_78 : Int), I74 n75 h76 j_78 →
 VIdx a61 la61 i_66 1 fun a80 =>
 ∃ (a81 : Option Addr) (la81 ca81 : Nat), cellH h76 a80 = some (.slice a81 la81 ca81) ∧
 cond (decide (j_78 < (la81 : Int)))
 (VIdx a61 la61 i_66 1 fun a82 =>
 ∃ (a83 : Option Addr) (la83 ca83 : Nat), cellH h76 a82 = some (.slice a83 la83 ca83) ∧
 VSome a0k fun a84 =>
 ∃ (a85 : Option Addr) (la85 ca85 : Nat), cellH h76 a84 = some (.slice a85 la85 ca85) ∧
 CallsH Tryz.prog 60 #[.int .i64 (la85 : Int)] h76 fun v86 h87 =>
 ∃ x88 : Int, v86 = .int .i64 x88 ∧
 (cellH h87 a82 = some (.slice a83 la83 ca83)) ∧
 VIdx a83 la83 j_78 4 fun a89 =>
 storeL a89 0 [.int .i64 x88, .int .i64 0, .string (ByteArray.mk #[]), .bool false] h87 fun h90 =>
 ∃ m79, m79 < n75 ∧ I74 m79 h90 (IntKind.i64.wrap (j_78 + 1)))
 (VSome a0k fun a91 =>
 ∃ (a92 : Option Addr) (la92 ca92 : Nat), cellH h76 a91 = some (.slice a92 la92 ca92) ∧
 VIdx a61 la61 i_66 1 fun a93 =>
 ∃ (a94 : Option Addr) (la94 ca94 : Nat), cellH h76 a93 = some (.slice a94 la94 ca94) ∧
 VNew h76 (.cells #[.slice a94 la94 ca94, .slice none 0 0] 112) fun b95 h96 =>
 (cellH h96 a91 = some (.slice a92 la92 ca92)) ∧
 RunsTo Tryz.prog (Builtin.append_ #[45, 45] 45 #[.slice a92 la92 ca92, .slice (some ⟨b95, 0, none⟩) 2 2]) h96 fun v97 h98 =>
 ∃ (a99 : Option Addr) (la99 ca99 : Nat), v97 = .slice a99 la99 ca99 ∧
 VSome a0k fun a100 =>
 VStore h98 a100 (.slice a99 la99 ca99) fun h101 =>
 ∃ m67, m67 < n63 ∧ I62 m67 h101 (IntKind.i64.wrap (i_66 + 1))))
 (∃ (a102 : Option Addr) (la102 ca102 : Nat), cellH h64 ⟨b1, 4, none⟩ = some (.slice a102 la102 ca102) ∧
 ∃ (a103 : Option Addr) (la103 ca103 : Nat), cellH h64 ⟨b3, 6, none⟩ = some (.slice a103 la103 ca103) ∧
 VNew h64 (.cells #[.slice none 0 0, .slice none 0 0] 128) fun b104 h105 =>
 storeL ⟨b104, 0, none⟩ 0 [.slice a102 la102 ca102, .slice a103 la103 ca103] h105 fun h106 =>
 ∃ I107 : Nat → Heap → Int → Prop, (∃ n108, I107 n108 h106 0) ∧
 ∀ (n108 : Nat) (h109 : Heap) (g110 : Env) (i_111 : Int), I107 n108 h109 i_111 →
 cond (decide (i_111 < (2 : Int)))
 (∃ I113 : Nat → Heap → Int → Prop, (∃ n114, I113 n114 h109 0) ∧
 ∀ (n114 : Nat) (h115 : Heap) (g116 : Env) (j_117 : Int), I113 n114 h115 j_117 →
 VIdx (some ⟨b104, 0, none⟩) 2 i_111 1 fun a119 =>
 ∃ (a120 : Option Addr) (la120 ca120 : Nat), cellH h115 a119 = some (.slice a120 la120 ca120) ∧
 cond (decide (j_117 < (la120 : Int)))
 (VIdx (some ⟨b104, 0, none⟩) 2 i_111 1 fun a121 =>
 ∃ (a122 : Option Addr) (la122 ca122 : Nat), cellH h115 a121 = some (.slice a122 la122 ca122) ∧
 VSome a0k fun a123 =>
 ∃ (a124 : Option Addr) (la124 ca124 : Nat), cellH h115 ⟨a123.block, a123.off + 1, none⟩ = some (.slice a124 la124 ca124) ∧
 CallsH Tryz.prog 61 #[.int .i64 (la124 : Int)] h115 fun v125 h126 =>
 ∃ s127 : ByteArray, v125 = .string s127 ∧
 (cellH h126 a121 = some (.slice a122 la122 ca122)) ∧
 VIdx a122 la122 j_117 1 fun a128 =>
 VStore h126 a128 (.string s127) fun h129 =>
 ∃ m118, m118 < n114 ∧ I113 m118 h129 (IntKind.i64.wrap (j_117 + 1)))
 (VSome a0k fun a130 =>
 ∃ (a131 : Option Addr) (la131 ca131 : Nat), cellH h115 ⟨a130.block, a130.off + 1, none⟩ = some (.slice a131 la131 ca131) ∧
 VIdx (some ⟨b104, 0, none⟩) 2 i_111 1 fun a132 =>
 ∃ (a133 : Option Addr) (la133 ca133 : Nat), cellH h115 a132 = some (.slice a133 la133 ca133) ∧
 VNew h115 (.cells #[.slice a133 la133 ca133, .slice none 0 0] 54) fun b134 h135 =>
 (cellH h135 ⟨a130.block, a130.off + 1, none⟩ = some (.slice a131 la131 ca131)) ∧
 RunsTo Tryz.prog (Builtin.append_ #[46, 46] 46 #[.slice a131 la131 ca131, .slice (some ⟨b134, 0, none⟩) 2 2]) h135 fun v136 h137 =>
 ∃ (a138 : Option Addr) (la138 ca138 : Nat), v136 = .slice a138 la138 ca138 ∧
 VSome a0k fun a139 =>
 VStore h137 ⟨a139.block, a139.off + 1, none⟩ (.slice a138 la138 ca138) fun h140 =>
 ∃ m112, m112 < n108 ∧ I107 m112 h140 (IntKind.i64.wrap (i_111 + 1))))
 (∃ I141 : Nat → Heap → Int → Prop, (∃ n142, I141 n142 h109 0) ∧
 ∀ (n142 : Nat) (h143 : Heap) (g144 : Env) (j_145 : Int), I141 n142 h143 j_145 →
 ∃ (a147 : Option Addr) (la147 ca147 : Nat), cellH h143 ⟨b3, 4, none⟩ = some (.slice a147 la147 ca147) ∧
 cond (decide (j_145 < (la147 : Int)))
 (∃ (a148 : Option Addr) (la148 ca148 : Nat), cellH h143 ⟨b3, 4, none⟩ = some (.slice a148 la148 ca148) ∧
 VSome a0k fun a149 =>
 ∃ (a150 : Option Addr) (la150 ca150 : Nat), cellH h143 ⟨a149.block, a149.off + 2, none⟩ = some (.slice a150 la150 ca150) ∧
 CallsH Tryz.prog 60 #[.int .i64 (la150 : Int)] h143 fun v151 h152 =>
 ∃ x153 : Int, v151 = .int .i64 x153 ∧
 (cellH h152 ⟨b3, 4, none⟩ = some (.slice a148 la148 ca148)) ∧
 VIdx a148 la148 j_145 1 fun a154 =>
 VStore h152 a154 (.int .i64 x153) fun h155 =>
 ∃ m146, m146 < n142 ∧ I141 m146 h155 (IntKind.i64.wrap (j_145 + 1)))
 (∃ I156 : Nat → Heap → Int → Prop, (∃ n157, I156 n157 h143 0) ∧
 ∀ (n157 : Nat) (h158 : Heap) (g159 : Env) (j_160 : Int), I156 n157 h158 j_160 →
 ∃ (a162 : Option Addr) (la162 ca162 : Nat), cellH h158 ⟨b1, 5, none⟩ = some (.slice a162 la162 ca162) ∧
 cond (decide (j_160 < (la162 : Int)))
 (∃ (a163 : Option Addr) (la163 ca163 : Nat), cellH h158 ⟨b1, 5, none⟩ = some (.slice a163 la163 ca163) ∧
 VSome a0k fun a164 =>
 ∃ (a165 : Option Addr) (la165 ca165 : Nat), cellH h158 ⟨a164.block, a164.off + 3, none⟩ = some (.slice a165 la165 ca165) ∧
 CallsH Tryz.prog 61 #[.int .i64 (la165 : Int)] h158 fun v166 h167 =>
 ∃ s168 : ByteArray, v166 = .string s168 ∧
 (cellH h167 ⟨b1, 5, none⟩ = some (.slice a163 la163 ca163)) ∧
 VIdx a163 la163 j_160 3 fun a169 =>
 storeL a169 0 [.string s168, .int .i64 0, .slice none 0 0] h167 fun h170 =>
 ∃ m161, m161 < n157 ∧ I156 m161 h170 (IntKind.i64.wrap (j_160 + 1)))
 (∃ I171 : Nat → Heap → Int → Prop, (∃ n172, I171 n172 h158 0) ∧
 ∀ (n172 : Nat) (h173 : Heap) (g174 : Env) (j_175 : Int), I171 n172 h173 j_175 →
 ∃ (a177 : Option Addr) (la177 ca177 : Nat), cellH h173 ⟨b3, 5, none⟩ = some (.slice a177 la177 ca177) ∧
 cond (decide (j_175 < (la177 : Int)))
 (∃ (a178 : Option Addr) (la178 ca178 : Nat), cellH h173 ⟨b3, 5, none⟩ = some (.slice a178 la178 ca178) ∧
 VSome a0k fun a179 =>
 ∃ (a180 : Option Addr) (la180 ca180 : Nat), cellH h173 ⟨a179.block, a179.off + 4, none⟩ = some (.slice a180 la180 ca180) ∧
 CallsH Tryz.prog 61 #[.int .i64 (la180 : Int)] h173 fun v181 h182 =>
 ∃ s183 : ByteArray, v181 = .string s183 ∧
 (cellH h182 ⟨b3, 5, none⟩ = some (.slice a178 la178 ca178)) ∧
 VIdx a178 la178 j_175 2 fun a184 =>
 storeL a184 0 [.string s183, .slice none 0 0] h182 fun h185 =>
 ∃ m176, m176 < n172 ∧ I171 m176 h185 (IntKind.i64.wrap (j_175 + 1)))
 (∃ I186 : Nat → Heap → Int → Prop, (∃ n187, I186 n187 h173 0) ∧
 ∀ (n187 : Nat) (h188 : Heap) (g189 : Env) (j_190 : Int), I186 n187 h188 j_190 →
 ∃ (a192 : Option Addr) (la192 ca192 : Nat), cellH h188 ⟨b3, 7, none⟩ = some (.slice a192 la192 ca192) ∧
 cond (decide (j_190 < (la192 : Int)))
 (∃ (a193 : Option Addr) (la193 ca193 : Nat), cellH h188 ⟨b3, 7, none⟩ = some (.slice a193 la193 ca193) ∧
 VSome a0k fun a194 =>
 ∃ (a195 : Option Addr) (la195 ca195 : Nat), cellH h188 ⟨a194.block, a194.off + 5, none⟩ = some (.slice a195 la195 ca195) ∧
 CallsH Tryz.prog 60 #[.int .i64 (la195 : Int)] h188 fun v196 h197 =>
 ∃ x198 : Int, v196 = .int .i64 x198 ∧
 (cellH h197 ⟨b3, 7, none⟩ = some (.slice a193 la193 ca193)) ∧
 VNew h197 (.cells #[.int .i64 x198, .int .i64 0, .string (ByteArray.mk #[]), .bool false] 127) fun b199 h200 =>
 (cellH h200 ⟨b3, 7, none⟩ = some (.slice a193 la193 ca193)) ∧
 VIdx a193 la193 j_190 1 fun a201 =>
 VStore h200 a201 (.slice (some ⟨b199, 0, none⟩) 1 1) fun h202 =>
 ∃ m191, m191 < n187 ∧ I186 m191 h202 (IntKind.i64.wrap (j_190 + 1)))
 (VSome a0k fun a203 =>
 ∃ (a204 : Option Addr) (la204 ca204 : Nat), cellH h188 ⟨a203.block, a203.off + 2, none⟩ = some (.slice a204 la204 ca204) ∧
 ∃ (a205 : Option Addr) (la205 ca205 : Nat), cellH h188 ⟨b3, 4, none⟩ = some (.slice a205 la205 ca205) ∧
 VNew h188 (.cells #[.slice a205 la205 ca205, .slice none 0 0] 60) fun b206 h207 =>
 (cellH h207 ⟨a203.block, a203.off + 2, none⟩ = some (.slice a204 la204 ca204)) ∧
 RunsTo Tryz.prog (Builtin.append_ #[47, 47] 47 #[.slice a204 la204 ca204, .slice (some ⟨b206, 0, none⟩) 2 2]) h207 fun v208 h209 =>
 ∃ (a210 : Option Addr) (la210 ca210 : Nat), v208 = .slice a210 la210 ca210 ∧
 VSome a0k fun a211 =>
 VStore h209 ⟨a211.block, a211.off + 2, none⟩ (.slice a210 la210 ca210) fun h212 =>
 VSome a0k fun a213 =>
 ∃ (a214 : Option Addr) (la214 ca214 : Nat), cellH h212 ⟨a213.block, a213.off + 3, none⟩ = some (.slice a214 la214 ca214) ∧
 ∃ (a215 : Option Addr) (la215 ca215 : Nat), cellH h212 ⟨b1, 5, none⟩ = some (.slice a215 la215 ca215) ∧
 VNew h212 (.cells #[.slice a215 la215 ca215, .slice none 0 0] 55) fun b216 h217 =>
 (cellH h217 ⟨a213.block, a213.off + 3, none⟩ = some (.slice a214 la214 ca214)) ∧
 RunsTo Tryz.prog (Builtin.append_ #[48, 48] 48 #[.slice a214 la214 ca214, .slice (some ⟨b216, 0, none⟩) 2 2]) h217 fun v218 h219 =>
 ∃ (a220 : Option Addr) (la220 ca220 : Nat), v218 = .slice a220 la220 ca220 ∧
 VSome a0k fun a221 =>
 VStore h219 ⟨a221.block, a221.off + 3, none⟩ (.slice a220 la220 ca220) fun h222 =>
 VSome a0k fun a223 =>
 ∃ (a224 : Option Addr) (la224 ca224 : Nat), cellH h222 ⟨a223.block, a223.off + 4, none⟩ = some (.slice a224 la224 ca224) ∧
 ∃ (a225 : Option Addr) (la225 ca225 : Nat), cellH h222 ⟨b3, 5, none⟩ = some (.slice a225 la225 ca225) ∧
 VNew h222 (.cells #[.slice a225 la225 ca225, .slice none 0 0] 61) fun b226 h227 =>
 (cellH h227 ⟨a223.block, a223.off + 4, none⟩ = some (.slice a224 la224 ca224)) ∧
 RunsTo Tryz.prog (Builtin.append_ #[49, 49] 49 #[.slice a224 la224 ca224, .slice (some ⟨b226, 0, none⟩) 2 2]) h227 fun v228 h229 =>
 ∃ (a230 : Option Addr) (la230 ca230 : Nat), v228 = .slice a230 la230 ca230 ∧
 VSome a0k fun a231 =>
 VStore h229 ⟨a231.block, a231.off + 4, none⟩ (.slice a230 la230 ca230) fun h232 =>
 VSome a0k fun a233 =>
 ∃ (a234 : Option Addr) (la234 ca234 : Nat), cellH h232 ⟨a233.block, a233.off + 5, none⟩ = some (.slice a234 la234 ca234) ∧
 ∃ (a235 : Option Addr) (la235 ca235 : Nat), cellH h232 ⟨b3, 7, none⟩ = some (.slice a235 la235 ca235) ∧
 VNew h232 (.cells #[.slice a235 la235 ca235, .slice none 0 0] 45) fun b236 h237 =>
 (cellH h237 ⟨a233.block, a233.off + 5, none⟩ = some (.slice a234 la234 ca234)) ∧
 RunsTo Tryz.prog (Builtin.append_ #[50, 50] 50 #[.slice a234 la234 ca234, .slice (some ⟨b236, 0, none⟩) 2 2]) h237 fun v238 h239 =>
 ∃ (a240 : Option Addr) (la240 ca240 : Nat), v238 = .slice a240 la240 ca240 ∧
 VSome a0k fun a241 =>
 VStore h239 ⟨a241.block, a241.off + 5, none⟩ (.slice a240 la240 ca240) fun h242 =>
 ∃ x243 : Int, cellH h242 ⟨b23, 0, none⟩ = some (.int .i64 x243) ∧
 ∃ x244 : Int, cellH h242 ⟨b23, 1, none⟩ = some (.int .i64 x244) ∧
 ∃ x245 : Int, cellH h242 ⟨b23, 2, none⟩ = some (.int .i64 x245) ∧
 CallsH Tryz.prog 62 #[.pointer a0k, .agg #[.int .i64 x243, .int .i64 x244, .int .i64 x245]] h242 fun v246 h247 =>
 v246 = .tuple #[] ∧
 R (.tuple #[]) h247)))))))))
theorem vf22 (a0k : Option Addr) (a1q_0 : Int) (a1q_1 : Int) (a1q_2 : ByteArray) (a1q_3 : ByteArray) (a1q_4 : Option Addr) (la1q_4 ca1q_4 : Nat) (a1q_5 : Option Addr) (la1q_5 ca1q_5 : Nat) (a2r_0 : Int) (a2r_1 : Bool) (a2r_2 : Int) (a2r_3 : Int) (a2r_4 : Option Addr) (la2r_4 ca2r_4 : Nat) (a2r_5 : Option Addr) (la2r_5 ca2r_5 : Nat) (a2r_6 : Option Addr) (la2r_6 ca2r_6 : Nat) (a2r_7 : Option Addr) (la2r_7 ca2r_7 : Nat) (a2r_8 : Int) (a2r_9 : Int) (a2r_10 : Int) (a2r_11 : Bool) (h : Heap) (R : KV) (hF : F22 a0k a1q_0 a1q_1 a1q_2 a1q_3 a1q_4 la1q_4 ca1q_4 a1q_5 la1q_5 ca1q_5 a2r_0 a2r_1 a2r_2 a2r_3 a2r_4 la2r_4 ca2r_4 a2r_5 la2r_5 ca2r_5 a2r_6 la2r_6 ca2r_6 a2r_7 la2r_7 ca2r_7 a2r_8 a2r_9 a2r_10 a2r_11 h R) : CallsH Tryz.prog 22 #[.pointer a0k, .agg #[.int .u32 a1q_0, .int .i64 a1q_1, .string a1q_2, .string a1q_3, .slice a1q_4 la1q_4 ca1q_4, .slice a1q_5 la1q_5 ca1q_5], .agg #[.int .u32 a2r_0, .bool a2r_1, .int .i64 a2r_2, .int .i64 a2r_3, .slice a2r_4 la2r_4 ca2r_4, .slice a2r_5 la2r_5 ca2r_5, .slice a2r_6 la2r_6 ca2r_6, .slice a2r_7 la2r_7 ca2r_7, .int .i64 a2r_8, .int .i64 a2r_9, .int .i64 a2r_10, .bool a2r_11]] h R :=
 calls_of_form (A := an22) (fn := Tryz.f22) (c := c22) (args := [.pointer a0k, .agg #[.int .u32 a1q_0, .int .i64 a1q_1, .string a1q_2, .string a1q_3, .slice a1q_4 la1q_4 ca1q_4, .slice a1q_5 la1q_5 ca1q_5], .agg #[.int .u32 a2r_0, .bool a2r_1, .int .i64 a2r_2, .int .i64 a2r_3, .slice a2r_4 la2r_4 ca2r_4, .slice a2r_5 la2r_5 ca2r_5, .slice a2r_6 la2r_6 ca2r_6, .slice a2r_7 la2r_7 ca2r_7, .int .i64 a2r_8, .int .i64 a2r_9, .int .i64 a2r_10, .bool a2r_11]]) Tryz.func22 (by kernel_rfl) mixed (by kernel_rfl) (by kernel_rfl : F22 a0k a1q_0 a1q_1 a1q_2 a1q_3 a1q_4 la1q_4 ca1q_4 a1q_5 la1q_5 ca1q_5 a2r_0 a2r_1 a2r_2 a2r_3 a2r_4 la2r_4 ca2r_4 a2r_5 la2r_5 ca2r_5 a2r_6 la2r_6 ca2r_6 a2r_7 la2r_7 ca2r_7 a2r_8 a2r_9 a2r_10 a2r_11 h R = vcF Tryz.prog an22 Tryz.f22 c22 [.pointer a0k, .agg #[.int .u32 a1q_0, .int .i64 a1q_1, .string a1q_2, .string a1q_3, .slice a1q_4 la1q_4 ca1q_4, .slice a1q_5 la1q_5 ca1q_5], .agg #[.int .u32 a2r_0, .bool a2r_1, .int .i64 a2r_2, .int .i64 a2r_3, .slice a2r_4 la2r_4 ca2r_4, .slice a2r_5 la2r_5 ca2r_5, .slice a2r_6 la2r_6 ca2r_6, .slice a2r_7 la2r_7 ca2r_7, .int .i64 a2r_8, .int .i64 a2r_9, .int .i64 a2r_10, .bool a2r_11]] h R) hF
/-! ### 23 (refrain/refrainlaw30.Lists).whole -/
noncomputable def c23 : Code := match Tryz.f23.body with | some c => c | none => .skip
noncomputable def an23 : Ann := { loops := fun i => match i with | 2 => [(2, .bool), (3, .int .i64)] | 5 => [(2, .bool), (4, .int .i64)] | 10 => [(2, .bool), (5, .int .i64)] | 13 => [(2, .bool), (6, .int .i64)] | 18 => [(2, .bool), (7, .int .i64)] | 21 => [(2, .bool), (8, .int .i64)] | 26 => [(2, .bool), (9, .int .i64)] | 31 => [(2, .bool), (10, .int .i64)] | 36 => [(2, .bool), (11, .int .i64)] | _ => [], draws := fun i => match i with | 7 => #[0, 1, 3, 7, 0, 31, 63, 0, 255, 511, 0, 1024, 3072, 8191] | 15 => #[0, 1, 3, 7, 0, 31, 63, 0, 255, 511, 0, 1024, 4095] | 23 => #[0, 1, 3, 7, 0, 31, 63, 0, 255, 511, 0, 1024, 4095] | 28 => #[0, 1, 3, 7, 0, 31, 63, 0, 255, 511, 1023, 0, 2048, 8191, 16383, 32767, 65535, 131071, 262143, 32767, 1048575, 2097151, 32767, 8388607, 16777215, 33554431, 67108863, 134217727, 268435455] | 33 => #[0, 1, 3, 7, 0, 31, 63, 0, 255, 511, 1023, 0, 2048, 8191, 16383, 32767, 65535, 131071, 262143, 32767, 1048575, 2097151, 32767, 8388607, 16777215, 33554431, 67108863, 134217727, 268435455] | 38 => #[0, 1, 3, 7, 0, 31, 63, 0, 255, 511, 1023, 2047, 4095, 8191, 16383, 32767, 65535, 8191, 262143, 524287, 8191, 2097151, 4194303, 8388607, 16777215, 8191, 33562623, 100671487, 268435455, 536870911] | _ => #[], joins := fun i => none }
def F23 (a0k : Option Addr) (h : Heap) (R : KV) : Prop :=
 ∃ I1 : Nat → Heap → Bool → Int → Prop, (∃ n2, I1 n2 h false 0) ∧
 ∀ (n2 : Nat) (h3 : Heap) (g4 : Env) (y_5 : Bool) (i_6 : Int), I1 n2 h3 y_5 i_6 →
 VSome a0k fun a8 =>
 ∃ (a9 : Option Addr) (la9 ca9 : Nat), cellH h3 a8 = some (.slice a9 la9 ca9) ∧
 cond (decide (i_6 < (la9 : Int)))
 (∃ I10 : Nat → Heap → Bool → Int → Prop, (∃ n11, I10 n11 h3 y_5 0) ∧
 ∀ (n11 : Nat) (h12 : Heap) (g13 : Env) (y_14 : Bool) (j_15 : Int), I10 n11 h12 y_14 j_15 →
 VSome a0k fun a17 =>
 ∃ (a18 : Option Addr) (la18 ca18 : Nat), cellH h12 a17 = some (.slice a18 la18 ca18) ∧
 VIdx a18 la18 i_6 1 fun a19 =>
 ∃ (a20 : Option Addr) (la20 ca20 : Nat), cellH h12 a19 = some (.slice a20 la20 ca20) ∧
 cond (decide (j_15 < (la20 : Int)))
 (VSome a0k fun a21 =>
 ∃ (a22 : Option Addr) (la22 ca22 : Nat), cellH h12 a21 = some (.slice a22 la22 ca22) ∧
 VIdx a22 la22 i_6 1 fun a23 =>
 ∃ (a24 : Option Addr) (la24 ca24 : Nat), cellH h12 a23 = some (.slice a24 la24 ca24) ∧
 VIdx a24 la24 j_15 4 fun a25 =>
 ∃ x26 : Int, cellH h12 a25 = some (.int .i64 x26) ∧
 ∃ x27 : Int, cellH h12 ⟨a25.block, a25.off + 1, none⟩ = some (.int .i64 x27) ∧
 ∃ s28 : ByteArray, cellH h12 ⟨a25.block, a25.off + 2, none⟩ = some (.string s28) ∧
 ∃ b29 : Bool, cellH h12 ⟨a25.block, a25.off + 3, none⟩ = some (.bool b29) ∧
 CallsH Tryz.prog 60 #[.int .i64 i_6] h12 fun v30 h31 =>
 ∃ x32 : Int, v30 = .int .i64 x32 ∧
 (cellH h31 a25 = some (.int .i64 x26) ∧ cellH h31 ⟨a25.block, a25.off + 1, none⟩ = some (.int .i64 x27) ∧ cellH h31 ⟨a25.block, a25.off + 2, none⟩ = some (.string s28) ∧ cellH h31 ⟨a25.block, a25.off + 3, none⟩ = some (.bool b29)) ∧
 (cellH h31 a23 = some (.slice a24 la24 ca24)) ∧
 (cellH h31 a21 = some (.slice a22 la22 ca22)) ∧
 PureTo Tryz.prog (do eqGuard .neq 127 (.tmp 42) (.tmp 45) (.agg #[.int .i64 x26, .int .i64 x27, .string s28, .bool b29]) (.agg #[.int .i64 x32, .int .i64 0, .string (ByteArray.mk #[]), .bool false]); binOp .neq 127 (.agg #[.int .i64 x26, .int .i64 x27, .string s28, .bool b29]) (.agg #[.int .i64 x32, .int .i64 0, .string (ByteArray.mk #[]), .bool false])) fun v33 =>
 ∃ b34 : Bool, v33 = .bool b34 ∧
 cond b34
 (R (.bool false) h31)
 (∃ m16, m16 < n11 ∧ I10 m16 h31 y_14 (IntKind.i64.wrap (j_15 + 1))))
 (∃ m7, m7 < n2 ∧ I1 m7 h12 y_14 (IntKind.i64.wrap (i_6 + 1))))
 (∃ I35 : Nat → Heap → Bool → Int → Prop, (∃ n36, I35 n36 h3 y_5 0) ∧
 ∀ (n36 : Nat) (h37 : Heap) (g38 : Env) (y_39 : Bool) (i_40 : Int), I35 n36 h37 y_39 i_40 →
 VSome a0k fun a42 =>
 ∃ (a43 : Option Addr) (la43 ca43 : Nat), cellH h37 ⟨a42.block, a42.off + 1, none⟩ = some (.slice a43 la43 ca43) ∧
 cond (decide (i_40 < (la43 : Int)))
 (∃ I44 : Nat → Heap → Bool → Int → Prop, (∃ n45, I44 n45 h37 y_39 0) ∧
 ∀ (n45 : Nat) (h46 : Heap) (g47 : Env) (y_48 : Bool) (j_49 : Int), I44 n45 h46 y_48 j_49 →
 VSome a0k fun a51 =>
 ∃ (a52 : Option Addr) (la52 ca52 : Nat), cellH h46 ⟨a51.block, a51.off + 1, none⟩ = some (.slice a52 la52 ca52) ∧
 VIdx a52 la52 i_40 1 fun a53 =>
 ∃ (a54 : Option Addr) (la54 ca54 : Nat), cellH h46 a53 = some (.slice a54 la54 ca54) ∧
 cond (decide (j_49 < (la54 : Int)))
 (VSome a0k fun a55 =>
 ∃ (a56 : Option Addr) (la56 ca56 : Nat), cellH h46 ⟨a55.block, a55.off + 1, none⟩ = some (.slice a56 la56 ca56) ∧
 VIdx a56 la56 i_40 1 fun a57 =>
 ∃ (a58 : Option Addr) (la58 ca58 : Nat), cellH h46 a57 = some (.slice a58 la58 ca58) ∧
 VIdx a58 la58 j_49 1 fun a59 =>
 ∃ s60 : ByteArray, cellH h46 a59 = some (.string s60) ∧
 CallsH Tryz.prog 61 #[.int .i64 i_40] h46 fun v61 h62 =>
 ∃ s63 : ByteArray, v61 = .string s63 ∧
 (cellH h62 a59 = some (.string s60)) ∧
 (cellH h62 a57 = some (.slice a58 la58 ca58)) ∧
 (cellH h62 ⟨a55.block, a55.off + 1, none⟩ = some (.slice a56 la56 ca56)) ∧
 cond (!strEq s60 s63)
 (R (.bool false) h62)
 (∃ m50, m50 < n45 ∧ I44 m50 h62 y_48 (IntKind.i64.wrap (j_49 + 1))))
 (∃ m41, m41 < n36 ∧ I35 m41 h46 y_48 (IntKind.i64.wrap (i_40 + 1))))
 (∃ I64 : Nat → Heap → Bool → Int → Prop, (∃ n65, I64 n65 h37 y_39 0) ∧
 ∀ (n65 : Nat) (h66 : Heap) (g67 : Env) (y_68 : Bool) (i_69 : Int), I64 n65 h66 y_68 i_69 →
 VSome a0k fun a71 =>
 ∃ (a72 : Option Addr) (la72 ca72 : Nat), cellH h66 ⟨a71.block, a71.off + 2, none⟩ = some (.slice a72 la72 ca72) ∧
 cond (decide (i_69 < (la72 : Int)))
 (∃ I73 : Nat → Heap → Bool → Int → Prop, (∃ n74, I73 n74 h66 y_68 0) ∧
 ∀ (n74 : Nat) (h75 : Heap) (g76 : Env) (y_77 : Bool) (j_78 : Int), I73 n74 h75 y_77 j_78 →
 VSome a0k fun a80 =>
 ∃ (a81 : Option Addr) (la81 ca81 : Nat), cellH h75 ⟨a80.block, a80.off + 2, none⟩ = some (.slice a81 la81 ca81) ∧
 VIdx a81 la81 i_69 1 fun a82 =>
 ∃ (a83 : Option Addr) (la83 ca83 : Nat), cellH h75 a82 = some (.slice a83 la83 ca83) ∧
 cond (decide (j_78 < (la83 : Int)))
 (VSome a0k fun a84 =>
 ∃ (a85 : Option Addr) (la85 ca85 : Nat), cellH h75 ⟨a84.block, a84.off + 2, none⟩ = some (.slice a85 la85 ca85) ∧
 VIdx a85 la85 i_69 1 fun a86 =>
 ∃ (a87 : Option Addr) (la87 ca87 : Nat), cellH h75 a86 = some (.slice a87 la87 ca87) ∧
 VIdx a87 la87 j_78 1 fun a88 =>
 ∃ x89 : Int, cellH h75 a88 = some (.int .i64 x89) ∧
 CallsH Tryz.prog 60 #[.int .i64 i_69] h75 fun v90 h91 =>
 ∃ x92 : Int, v90 = .int .i64 x92 ∧
 (cellH h91 a88 = some (.int .i64 x89)) ∧
 (cellH h91 a86 = some (.slice a87 la87 ca87)) ∧
 (cellH h91 ⟨a84.block, a84.off + 2, none⟩ = some (.slice a85 la85 ca85)) ∧
 cond (x89 != x92)
 (R (.bool false) h91)
 (∃ m79, m79 < n74 ∧ I73 m79 h91 y_77 (IntKind.i64.wrap (j_78 + 1))))
 (∃ I93 : Nat → Heap → Bool → Int → Prop, (∃ n94, I93 n94 h75 y_77 0) ∧
 ∀ (n94 : Nat) (h95 : Heap) (g96 : Env) (y_97 : Bool) (j_98 : Int), I93 n94 h95 y_97 j_98 →
 VSome a0k fun a100 =>
 ∃ (a101 : Option Addr) (la101 ca101 : Nat), cellH h95 ⟨a100.block, a100.off + 3, none⟩ = some (.slice a101 la101 ca101) ∧
 VIdx a101 la101 i_69 1 fun a102 =>
 ∃ (a103 : Option Addr) (la103 ca103 : Nat), cellH h95 a102 = some (.slice a103 la103 ca103) ∧
 cond (decide (j_98 < (la103 : Int)))
 (VSome a0k fun a104 =>
 ∃ (a105 : Option Addr) (la105 ca105 : Nat), cellH h95 ⟨a104.block, a104.off + 3, none⟩ = some (.slice a105 la105 ca105) ∧
 VIdx a105 la105 i_69 1 fun a106 =>
 ∃ (a107 : Option Addr) (la107 ca107 : Nat), cellH h95 a106 = some (.slice a107 la107 ca107) ∧
 VIdx a107 la107 j_98 3 fun a108 =>
 ∃ s109 : ByteArray, cellH h95 a108 = some (.string s109) ∧
 CallsH Tryz.prog 61 #[.int .i64 i_69] h95 fun v110 h111 =>
 ∃ s112 : ByteArray, v110 = .string s112 ∧
 (cellH h111 a108 = some (.string s109)) ∧
 (cellH h111 a106 = some (.slice a107 la107 ca107)) ∧
 (cellH h111 ⟨a104.block, a104.off + 3, none⟩ = some (.slice a105 la105 ca105)) ∧
 cond (!strEq s109 s112) (R (.bool false) h111) (VSome a0k fun a113 =>
 ∃ (a114 : Option Addr) (la114 ca114 : Nat), cellH h111 ⟨a113.block, a113.off + 3, none⟩ = some (.slice a114 la114 ca114) ∧
 VIdx a114 la114 i_69 1 fun a115 =>
 ∃ (a116 : Option Addr) (la116 ca116 : Nat), cellH h111 a115 = some (.slice a116 la116 ca116) ∧
 VIdx a116 la116 j_98 3 fun a117 =>
 ∃ (a118 : Option Addr) (la118 ca118 : Nat), cellH h111 ⟨a117.block, a117.off + 2, none⟩ = some (.slice a118 la118 ca118) ∧
 cond (decide ((la118 : Int) > (0 : Int)))
 (R (.bool false) h111)
 (∃ m99, m99 < n94 ∧ I93 m99 h111 y_97 (IntKind.i64.wrap (j_98 + 1)))))
 (∃ I119 : Nat → Heap → Bool → Int → Prop, (∃ n120, I119 n120 h95 y_97 0) ∧
 ∀ (n120 : Nat) (h121 : Heap) (g122 : Env) (y_123 : Bool) (j_124 : Int), I119 n120 h121 y_123 j_124 →
 VSome a0k fun a126 =>
 ∃ (a127 : Option Addr) (la127 ca127 : Nat), cellH h121 ⟨a126.block, a126.off + 4, none⟩ = some (.slice a127 la127 ca127) ∧
 VIdx a127 la127 i_69 1 fun a128 =>
 ∃ (a129 : Option Addr) (la129 ca129 : Nat), cellH h121 a128 = some (.slice a129 la129 ca129) ∧
 cond (decide (j_124 < (la129 : Int)))
 (VSome a0k fun a130 =>
 ∃ (a131 : Option Addr) (la131 ca131 : Nat), cellH h121 ⟨a130.block, a130.off + 4, none⟩ = some (.slice a131 la131 ca131) ∧
 VIdx a131 la131 i_69 1 fun a132 =>
 ∃ (a133 : Option Addr) (la133 ca133 : Nat), cellH h121 a132 = some (.slice a133 la133 ca133) ∧
 VIdx a133 la133 j_124 2 fun a134 =>
 ∃ s135 : ByteArray, cellH h121 a134 = some (.string s135) ∧
 CallsH Tryz.prog 61 #[.int .i64 i_69] h121 fun v136 h137 =>
 ∃ s138 : ByteArray, v136 = .string s138 ∧
 (cellH h137 a134 = some (.string s135)) ∧
 (cellH h137 a132 = some (.slice a133 la133 ca133)) ∧
 (cellH h137 ⟨a130.block, a130.off + 4, none⟩ = some (.slice a131 la131 ca131)) ∧
 cond (!strEq s135 s138) (R (.bool false) h137) (VSome a0k fun a139 =>
 ∃ (a140 : Option Addr) (la140 ca140 : Nat), cellH h137 ⟨a139.block, a139.off + 4, none⟩ = some (.slice a140 la140 ca140) ∧
 VIdx a140 la140 i_69 1 fun a141 =>
 ∃ (a142 : Option Addr) (la142 ca142 : Nat), cellH h137 a141 = some (.slice a142 la142 ca142) ∧
 VIdx a142 la142 j_124 2 fun a143 =>
 ∃ (a144 : Option Addr) (la144 ca144 : Nat), cellH h137 ⟨a143.block, a143.off + 1, none⟩ = some (.slice a144 la144 ca144) ∧
 cond (decide ((la144 : Int) > (0 : Int)))
 (R (.bool false) h137)
 (∃ m125, m125 < n120 ∧ I119 m125 h137 y_123 (IntKind.i64.wrap (j_124 + 1)))))
 (∃ I145 : Nat → Heap → Bool → Int → Prop, (∃ n146, I145 n146 h121 y_123 0) ∧
 ∀ (n146 : Nat) (h147 : Heap) (g148 : Env) (y_149 : Bool) (j_150 : Int), I145 n146 h147 y_149 j_150 →
 VSome a0k fun a152 =>
 ∃ (a153 : Option Addr) (la153 ca153 : Nat), cellH h147 ⟨a152.block, a152.off + 5, none⟩ = some (.slice a153 la153 ca153) ∧
 VIdx a153 la153 i_69 1 fun a154 =>
 ∃ (a155 : Option Addr) (la155 ca155 : Nat), cellH h147 a154 = some (.slice a155 la155 ca155) ∧
 cond (decide (j_150 < (la155 : Int)))
 (VSome a0k fun a156 =>
 ∃ (a157 : Option Addr) (la157 ca157 : Nat), cellH h147 ⟨a156.block, a156.off + 5, none⟩ = some (.slice a157 la157 ca157) ∧
 VIdx a157 la157 i_69 1 fun a158 =>
 ∃ (a159 : Option Addr) (la159 ca159 : Nat), cellH h147 a158 = some (.slice a159 la159 ca159) ∧
 VIdx a159 la159 j_150 1 fun a160 =>
 ∃ (a161 : Option Addr) (la161 ca161 : Nat), cellH h147 a160 = some (.slice a161 la161 ca161) ∧
 cond ((la161 : Int) != (1 : Int)) (R (.bool false) h147) (VSome a0k fun a162 =>
 ∃ (a163 : Option Addr) (la163 ca163 : Nat), cellH h147 ⟨a162.block, a162.off + 5, none⟩ = some (.slice a163 la163 ca163) ∧
 VIdx a163 la163 i_69 1 fun a164 =>
 ∃ (a165 : Option Addr) (la165 ca165 : Nat), cellH h147 a164 = some (.slice a165 la165 ca165) ∧
 VIdx a165 la165 j_150 1 fun a166 =>
 ∃ (a167 : Option Addr) (la167 ca167 : Nat), cellH h147 a166 = some (.slice a167 la167 ca167) ∧
 VIdx a167 la167 0 4 fun a168 =>
 ∃ x169 : Int, cellH h147 a168 = some (.int .i64 x169) ∧
 ∃ x170 : Int, cellH h147 ⟨a168.block, a168.off + 1, none⟩ = some (.int .i64 x170) ∧
 ∃ s171 : ByteArray, cellH h147 ⟨a168.block, a168.off + 2, none⟩ = some (.string s171) ∧
 ∃ b172 : Bool, cellH h147 ⟨a168.block, a168.off + 3, none⟩ = some (.bool b172) ∧
 CallsH Tryz.prog 60 #[.int .i64 i_69] h147 fun v173 h174 =>
 ∃ x175 : Int, v173 = .int .i64 x175 ∧
 (cellH h174 a168 = some (.int .i64 x169) ∧ cellH h174 ⟨a168.block, a168.off + 1, none⟩ = some (.int .i64 x170) ∧ cellH h174 ⟨a168.block, a168.off + 2, none⟩ = some (.string s171) ∧ cellH h174 ⟨a168.block, a168.off + 3, none⟩ = some (.bool b172)) ∧
 (cellH h174 a166 = some (.slice a167 la167 ca167)) ∧
 (cellH h174 a164 = some (.slice a165 la165 ca165)) ∧
 (cellH h174 ⟨a162.block, a162.off + 5, none⟩ = some (.slice a163 la163 ca163)) ∧
 PureTo Tryz.prog (do eqGuard .neq 127 (.tmp 233) (.tmp 236) (.agg #[.int .i64 x169, .int .i64 x170, .string s171, .bool b172]) (.agg #[.int .i64 x175, .int .i64 0, .string (ByteArray.mk #[]), .bool false]); binOp .neq 127 (.agg #[.int .i64 x169, .int .i64 x170, .string s171, .bool b172]) (.agg #[.int .i64 x175, .int .i64 0, .string (ByteArray.mk #[]), .bool false])) fun v176 =>
 ∃ b177 : Bool, v176 = .bool b177 ∧
 cond b177
 (R (.bool false) h174)
 (∃ m151, m151 < n146 ∧ I145 m151 h174 y_149 (IntKind.i64.wrap (j_150 + 1)))))
 (∃ m70, m70 < n65 ∧ I64 m70 h147 y_149 (IntKind.i64.wrap (i_69 + 1)))))))
 (R (.bool true) h66)))
theorem vf23 (a0k : Option Addr) (h : Heap) (R : KV) (hF : F23 a0k h R) : CallsH Tryz.prog 23 #[.pointer a0k] h R :=
 calls_of_form (A := an23) (fn := Tryz.f23) (c := c23) (args := [.pointer a0k]) Tryz.func23 (by kernel_rfl) mixed (by kernel_rfl) (by kernel_rfl : F23 a0k h R = vcF Tryz.prog an23 Tryz.f23 c23 [.pointer a0k] h R) hF
/-! ### 37 refrain/refrainlaw30.over -/
noncomputable def c37 : Code := match Tryz.f37.body with | some c => c | none => .skip
noncomputable def an37 : Ann := { loops := fun i => match i with | 3 => [(3, .slc), (4, .int .i64)] | _ => [], draws := fun i => #[], joins := fun i => none }
def F37 (a0l : Option Addr) (la0l ca0l : Nat) (h : Heap) (R : KV) : Prop :=
 ∃ I1 : Nat → Heap → Option Addr → Nat → Nat → Int → Prop, (∃ n2, I1 n2 h none 0 0 0) ∧
 ∀ (n2 : Nat) (h3 : Heap) (g4 : Env) (m_5 : Option Addr) (lm_5 cm_5 : Nat) (i_6 : Int), I1 n2 h3 m_5 lm_5 cm_5 i_6 →
 cond (decide (i_6 < (la0l : Int)))
 (VIdx a0l la0l i_6 1 fun a8 =>
 ∃ (a9 : Option Addr) (la9 ca9 : Nat), cellH h3 a8 = some (.slice a9 la9 ca9) ∧
 RunsTo Tryz.prog (Builtin.append_ #[36, 36] 36 #[.slice none 0 0, .slice a9 la9 ca9]) h3 fun v10 h11 =>
 ∃ (a12 : Option Addr) (la12 ca12 : Nat), v10 = .slice a12 la12 ca12 ∧
 VNew h11 (.cells #[.slice a12 la12 ca12] 36) fun b13 h14 =>
 RunsTo Tryz.prog (Builtin.append_ #[24, 24] 24 #[.slice m_5 lm_5 cm_5, .slice (some ⟨b13, 0, none⟩) 1 1]) h14 fun v15 h16 =>
 ∃ (a17 : Option Addr) (la17 ca17 : Nat), v15 = .slice a17 la17 ca17 ∧
 ∃ m7, m7 < n2 ∧ I1 m7 h16 a17 la17 ca17 (IntKind.i64.wrap (i_6 + 1)))
 (R (.slice m_5 lm_5 cm_5) h3)
theorem vf37 (a0l : Option Addr) (la0l ca0l : Nat) (h : Heap) (R : KV) (hF : F37 a0l la0l ca0l h R) : CallsH Tryz.prog 37 #[.slice a0l la0l ca0l] h R :=
 calls_of_form (A := an37) (fn := Tryz.f37) (c := c37) (args := [.slice a0l la0l ca0l]) Tryz.func37 (by kernel_rfl) mixed (by kernel_rfl) (by kernel_rfl : F37 a0l la0l ca0l h R = vcF Tryz.prog an37 Tryz.f37 c37 [.slice a0l la0l ca0l] h R) hF
/-! ### 40 refrain/refrainlaw30.mark -/
noncomputable def c40 : Code := match Tryz.f40.body with | some c => c | none => .skip
noncomputable def an40 : Ann := { loops := fun i => [], draws := fun i => #[], joins := fun i => none }
def F40 (a0i : Int) (a1k : Int) (h : Heap) (R : KV) : Prop :=
 (3 : Int) ≠ (0 : Int) ∧
 (3 : Int) ≠ (0 : Int) ∧
 (0 : Int) ≤ (IntKind.i64.wrap (8 * (Int.tmod a1k 3))) ∧
 R (.int .u8 (IntKind.u8.wrap (Int.fdiv (IntKind.i64.wrap (1 + (IntKind.i64.wrap (Int.tdiv a0i 3)))) (2 ^ (min (Int.toNat (IntKind.i64.wrap (8 * (Int.tmod a1k 3)))) (IntKind.bits .i64)))))) h
theorem vf40 (a0i : Int) (a1k : Int) (h : Heap) (R : KV) (hF : F40 a0i a1k h R) : CallsH Tryz.prog 40 #[.int .i64 a0i, .int .i64 a1k] h R :=
 calls_of_form (A := an40) (fn := Tryz.f40) (c := c40) (args := [.int .i64 a0i, .int .i64 a1k]) Tryz.func40 (by kernel_rfl) mixed (by kernel_rfl) (by kernel_rfl : F40 a0i a1k h R = vcF Tryz.prog an40 Tryz.f40 c40 [.int .i64 a0i, .int .i64 a1k] h R) hF
/-! ### 41 refrain/refrainlaw30.longer -/
noncomputable def c41 : Code := match Tryz.f41.body with | some c => c | none => .skip
noncomputable def an41 : Ann := { loops := fun i => match i with | 2 => [(0, .slc), (7, .int .i64)] | _ => [], draws := fun i => #[], joins := fun i => none }
def F41 (a0l : Option Addr) (la0l ca0l : Nat) (a1i : Int) (a2n : Int) (h : Heap) (R : KV) : Prop :=
 ∃ I1 : Nat → Heap → Option Addr → Nat → Nat → Int → Prop, (∃ n2, I1 n2 h a0l la0l ca0l 0) ∧
 ∀ (n2 : Nat) (h3 : Heap) (g4 : Env) (l_5 : Option Addr) (ll_5 cl_5 : Nat) (k_6 : Int), I1 n2 h3 l_5 ll_5 cl_5 k_6 →
 cond (decide (k_6 < a2n))
 (CallsH Tryz.prog 40 #[.int .i64 a1i, .int .i64 (ll_5 : Int)] h3 fun v8 h9 =>
 ∃ x10 : Int, v8 = .int .u8 x10 ∧
 VNew h9 (.cells #[.int .u8 x10] 5) fun b11 h12 =>
 RunsTo Tryz.prog (Builtin.append_ #[36, 36] 36 #[.slice l_5 ll_5 cl_5, .slice (some ⟨b11, 0, none⟩) 1 1]) h12 fun v13 h14 =>
 ∃ (a15 : Option Addr) (la15 ca15 : Nat), v13 = .slice a15 la15 ca15 ∧
 ∃ m7, m7 < n2 ∧ I1 m7 h14 a15 la15 ca15 (IntKind.i64.wrap (k_6 + 1)))
 (R (.slice l_5 ll_5 cl_5) h3)
theorem vf41 (a0l : Option Addr) (la0l ca0l : Nat) (a1i : Int) (a2n : Int) (h : Heap) (R : KV) (hF : F41 a0l la0l ca0l a1i a2n h R) : CallsH Tryz.prog 41 #[.slice a0l la0l ca0l, .int .i64 a1i, .int .i64 a2n] h R :=
 calls_of_form (A := an41) (fn := Tryz.f41) (c := c41) (args := [.slice a0l la0l ca0l, .int .i64 a1i, .int .i64 a2n]) Tryz.func41 (by kernel_rfl) mixed (by kernel_rfl) (by kernel_rfl : F41 a0l la0l ca0l a1i a2n h R = vcF Tryz.prog an41 Tryz.f41 c41 [.slice a0l la0l ca0l, .int .i64 a1i, .int .i64 a2n] h R) hF
/-! ### 42 refrain/refrainlaw30.room -/
noncomputable def c42 : Code := match Tryz.f42.body with | some c => c | none => .skip
noncomputable def an42 : Ann := { loops := fun i => [], draws := fun i => #[], joins := fun i => none }
def F42 (a0n : Int) (h : Heap) (R : KV) : Prop :=
 R (.int .i64 (minI a0n 70000)) h
theorem vf42 (a0n : Int) (h : Heap) (R : KV) (hF : F42 a0n h R) : CallsH Tryz.prog 42 #[.int .i64 a0n] h R :=
 calls_of_form (A := an42) (fn := Tryz.f42) (c := c42) (args := [.int .i64 a0n]) Tryz.func42 (by kernel_rfl) mixed (by kernel_rfl) (by kernel_rfl : F42 a0n h R = vcF Tryz.prog an42 Tryz.f42 c42 [.int .i64 a0n] h R) hF
/-! ### 60 refrain/refrainlaw30.num -/
noncomputable def c60 : Code := match Tryz.f60.body with | some c => c | none => .skip
noncomputable def an60 : Ann := { loops := fun i => [], draws := fun i => #[], joins := fun i => none }
def F60 (a0i : Int) (h : Heap) (R : KV) : Prop :=
 (2 : Int) ≠ (0 : Int) ∧
 R (.int .i64 (IntKind.i64.wrap (1000 + (IntKind.i64.wrap (Int.tdiv a0i 2))))) h
theorem vf60 (a0i : Int) (h : Heap) (R : KV) (hF : F60 a0i h R) : CallsH Tryz.prog 60 #[.int .i64 a0i] h R :=
 calls_of_form (A := an60) (fn := Tryz.f60) (c := c60) (args := [.int .i64 a0i]) Tryz.func60 (by kernel_rfl) mixed (by kernel_rfl) (by kernel_rfl : F60 a0i h R = vcF Tryz.prog an60 Tryz.f60 c60 [.int .i64 a0i] h R) hF
/-! ### 61 refrain/refrainlaw30.name -/
noncomputable def c61 : Code := match Tryz.f61.body with | some c => c | none => .skip
noncomputable def an61 : Ann := { loops := fun i => match i with | 3 => [(3, .str), (4, .int .i64)] | _ => [], draws := fun i => #[], joins := fun i => none }
def F61 (a0i : Int) (h : Heap) (R : KV) : Prop :=
 (2 : Int) ≠ (0 : Int) ∧
 ∃ I1 : Nat → Heap → ByteArray → Int → Prop, (∃ n2, I1 n2 h (ByteArray.mk #[109]) (IntKind.i64.wrap (1 + (IntKind.i64.wrap (Int.tdiv a0i 2))))) ∧
 ∀ (n2 : Nat) (h3 : Heap) (g4 : Env) (s_5 : ByteArray) (n_6 : Int), I1 n2 h3 s_5 n_6 →
 cond (decide (n_6 > (0 : Int)))
 ((10 : Int) ≠ (0 : Int) ∧
 VNew h3 (.cells #[.int .u8 (IntKind.u8.wrap (IntKind.i64.wrap (48 + (Int.tmod n_6 10))))] 5) fun b8 h9 =>
 RunsTo Tryz.prog (convert 36 9 (.slice (some ⟨b8, 0, none⟩) 1 1)) h9 fun v10 h11 =>
 ∃ s12 : ByteArray, v10 = .string s12 ∧
 ((s_5.size + s12.size : Nat) : Int) ≤ 9223372036854775807 ∧
 (10 : Int) ≠ (0 : Int) ∧
 ∃ m7, m7 < n2 ∧ I1 m7 h11 (s_5 ++ s12) (IntKind.i64.wrap (Int.tdiv n_6 10)))
 (R (.string s_5) h3)
theorem vf61 (a0i : Int) (h : Heap) (R : KV) (hF : F61 a0i h R) : CallsH Tryz.prog 61 #[.int .i64 a0i] h R :=
 calls_of_form (A := an61) (fn := Tryz.f61) (c := c61) (args := [.int .i64 a0i]) Tryz.func61 (by kernel_rfl) mixed (by kernel_rfl) (by kernel_rfl : F61 a0i h R = vcF Tryz.prog an61 Tryz.f61 c61 [.int .i64 a0i] h R) hF
/-! ### 62 (refrain/refrainlaw30.Lists).grow -/
noncomputable def c62 : Code := match Tryz.f62.body with | some c => c | none => .skip
noncomputable def an62 : Ann := { loops := fun i => match i with | 2 => [(4, .int .i64)] | 6 => [(5, .slc), (6, .int .i64)] | 11 => [(7, .int .i64)] | 15 => [(8, .slc), (9, .int .i64)] | 20 => [(10, .int .i64)] | 27 => [(11, .slc), (15, .int .i64)] | 31 => [(12, .slc), (16, .int .i64)] | 35 => [(13, .slc), (17, .int .i64)] | 39 => [(14, .slc), (18, .int .i64)] | _ => [], draws := fun i => match i with | 6 => #[0, 0, 2, 6, 14, 0, 62, 126, 254, 0, 512, 1536, 3584, 0, 15872, 32256, 65024, 131070, 262142, 524287] | 15 => #[0, 0, 2, 6, 14, 0, 62, 126, 254, 0, 512, 1536, 3584, 0, 15872, 32256, 65024, 131070, 262142, 524287] | 27 => #[0, 0, 2, 6, 14, 0, 62, 126, 254, 0, 512, 1536, 3584, 0, 15872, 32256, 65024, 131070, 262142, 524287] | 31 => #[0, 0, 2, 6, 14, 0, 62, 126, 254, 0, 512, 1536, 3584, 0, 15872, 32256, 65024, 131070, 262142, 524287] | 35 => #[0, 0, 2, 6, 14, 0, 62, 126, 254, 0, 512, 1536, 3584, 0, 15872, 32256, 65024, 131070, 262142, 524287] | 39 => #[0, 0, 2, 6, 14, 0, 62, 126, 254, 0, 512, 1536, 3584, 0, 15872, 32256, 65024, 131070, 262142, 524287] | _ => #[], joins := fun i => none }
def F62 (a0k : Option Addr) (a1from_0 : Int) (a1from_1 : Int) (a1from_2 : Int) (h : Heap) (R : KV) : Prop :=
 VNew h (.cells #[.int .i64 a1from_0, .int .i64 a1from_1, .int .i64 a1from_2] 123) fun b1 h2 =>
 VIdx (some ⟨b1, 0, none⟩) 3 0 1 fun a3 =>
 ∃ x4 : Int, cellH h2 a3 = some (.int .i64 x4) ∧
 ∃ I5 : Nat → Heap → Int → Prop, (∃ n6, I5 n6 h2 x4) ∧
 ∀ (n6 : Nat) (h7 : Heap) (g8 : Env) (i_9 : Int), I5 n6 h7 i_9 →
 VSome a0k fun a11 =>
 ∃ (a12 : Option Addr) (la12 ca12 : Nat), cellH h7 a11 = some (.slice a12 la12 ca12) ∧
 cond (decide (i_9 < (la12 : Int)))
 (VSome a0k fun a13 =>
 ∃ (a14 : Option Addr) (la14 ca14 : Nat), cellH h7 a13 = some (.slice a14 la14 ca14) ∧
 VIdx a14 la14 i_9 1 fun a15 =>
 ∃ (a16 : Option Addr) (la16 ca16 : Nat), cellH h7 a15 = some (.slice a16 la16 ca16) ∧
 ∃ I17 : Nat → Heap → Option Addr → Nat → Nat → Int → Prop, (∃ n18, I17 n18 h7 a16 la16 ca16 0) ∧
 ∀ (n18 : Nat) (h19 : Heap) (g20 : Env) (l_21 : Option Addr) (ll_21 cl_21 : Nat) (n_22 : Int), I17 n18 h19 l_21 ll_21 cl_21 n_22 →
 VSome a0k fun a24 =>
 ∃ (a25 : Option Addr) (la25 ca25 : Nat), cellH h19 a24 = some (.slice a25 la25 ca25) ∧
 VIdx a25 la25 i_9 1 fun a26 =>
 ∃ (a27 : Option Addr) (la27 ca27 : Nat), cellH h19 a26 = some (.slice a27 la27 ca27) ∧
 VSome a0k fun a28 =>
 ∃ (a29 : Option Addr) (la29 ca29 : Nat), cellH h19 a28 = some (.slice a29 la29 ca29) ∧
 VIdx a29 la29 i_9 1 fun a30 =>
 ∃ (a31 : Option Addr) (la31 ca31 : Nat), cellH h19 a30 = some (.slice a31 la31 ca31) ∧
 CallsH Tryz.prog 42 #[.int .i64 (IntKind.i64.wrap ((ca27 : Int) - (la31 : Int)))] h19 fun v32 h33 =>
 ∃ x34 : Int, v32 = .int .i64 x34 ∧
 cond (decide (n_22 < x34))
 (CallsH Tryz.prog 60 #[.int .i64 i_9] h33 fun v35 h36 =>
 ∃ x37 : Int, v35 = .int .i64 x37 ∧
 VNew h36 (.cells #[.int .i64 x37, .int .i64 0, .string (ByteArray.mk #[]), .bool false] 127) fun b38 h39 =>
 RunsTo Tryz.prog (Builtin.append_ #[112, 112] 112 #[.slice l_21 ll_21 cl_21, .slice (some ⟨b38, 0, none⟩) 1 1]) h39 fun v40 h41 =>
 ∃ (a42 : Option Addr) (la42 ca42 : Nat), v40 = .slice a42 la42 ca42 ∧
 ∃ m23, m23 < n18 ∧ I17 m23 h41 a42 la42 ca42 (IntKind.i64.wrap (n_22 + 1)))
 (VSome a0k fun a43 =>
 ∃ (a44 : Option Addr) (la44 ca44 : Nat), cellH h33 a43 = some (.slice a44 la44 ca44) ∧
 VIdx a44 la44 (IntKind.i64.wrap (i_9 + 1)) 1 fun a45 =>
 VStore h33 a45 (.slice l_21 ll_21 cl_21) fun h46 =>
 ∃ m10, m10 < n6 ∧ I5 m10 h46 (IntKind.i64.wrap (i_9 + 2))))
 (VIdx (some ⟨b1, 0, none⟩) 3 1 1 fun a47 =>
 ∃ x48 : Int, cellH h7 a47 = some (.int .i64 x48) ∧
 ∃ I49 : Nat → Heap → Int → Prop, (∃ n50, I49 n50 h7 x48) ∧
 ∀ (n50 : Nat) (h51 : Heap) (g52 : Env) (i_53 : Int), I49 n50 h51 i_53 →
 VSome a0k fun a55 =>
 ∃ (a56 : Option Addr) (la56 ca56 : Nat), cellH h51 ⟨a55.block, a55.off + 1, none⟩ = some (.slice a56 la56 ca56) ∧
 cond (decide (i_53 < (la56 : Int)))
 (VSome a0k fun a57 =>
 ∃ (a58 : Option Addr) (la58 ca58 : Nat), cellH h51 ⟨a57.block, a57.off + 1, none⟩ = some (.slice a58 la58 ca58) ∧
 VIdx a58 la58 i_53 1 fun a59 =>
 ∃ (a60 : Option Addr) (la60 ca60 : Nat), cellH h51 a59 = some (.slice a60 la60 ca60) ∧
 ∃ I61 : Nat → Heap → Option Addr → Nat → Nat → Int → Prop, (∃ n62, I61 n62 h51 a60 la60 ca60 0) ∧
 ∀ (n62 : Nat) (h63 : Heap) (g64 : Env) (l_65 : Option Addr) (ll_65 cl_65 : Nat) (n_66 : Int), I61 n62 h63 l_65 ll_65 cl_65 n_66 →
 VSome a0k fun a68 =>
 ∃ (a69 : Option Addr) (la69 ca69 : Nat), cellH h63 ⟨a68.block, a68.off + 1, none⟩ = some (.slice a69 la69 ca69) ∧
 VIdx a69 la69 i_53 1 fun a70 =>
 ∃ (a71 : Option Addr) (la71 ca71 : Nat), cellH h63 a70 = some (.slice a71 la71 ca71) ∧
 VSome a0k fun a72 =>
 ∃ (a73 : Option Addr) (la73 ca73 : Nat), cellH h63 ⟨a72.block, a72.off + 1, none⟩ = some (.slice a73 la73 ca73) ∧
 VIdx a73 la73 i_53 1 fun a74 =>
 ∃ (a75 : Option Addr) (la75 ca75 : Nat), cellH h63 a74 = some (.slice a75 la75 ca75) ∧
 CallsH Tryz.prog 42 #[.int .i64 (IntKind.i64.wrap ((ca71 : Int) - (la75 : Int)))] h63 fun v76 h77 =>
 ∃ x78 : Int, v76 = .int .i64 x78 ∧
 cond (decide (n_66 < x78))
 (CallsH Tryz.prog 61 #[.int .i64 i_53] h77 fun v79 h80 =>
 ∃ s81 : ByteArray, v79 = .string s81 ∧
 VNew h80 (.cells #[.string s81] 9) fun b82 h83 =>
 RunsTo Tryz.prog (Builtin.append_ #[54, 54] 54 #[.slice l_65 ll_65 cl_65, .slice (some ⟨b82, 0, none⟩) 1 1]) h83 fun v84 h85 =>
 ∃ (a86 : Option Addr) (la86 ca86 : Nat), v84 = .slice a86 la86 ca86 ∧
 ∃ m67, m67 < n62 ∧ I61 m67 h85 a86 la86 ca86 (IntKind.i64.wrap (n_66 + 1)))
 (VSome a0k fun a87 =>
 ∃ (a88 : Option Addr) (la88 ca88 : Nat), cellH h77 ⟨a87.block, a87.off + 1, none⟩ = some (.slice a88 la88 ca88) ∧
 VIdx a88 la88 (IntKind.i64.wrap (i_53 + 1)) 1 fun a89 =>
 VStore h77 a89 (.slice l_65 ll_65 cl_65) fun h90 =>
 ∃ m54, m54 < n50 ∧ I49 m54 h90 (IntKind.i64.wrap (i_53 + 2))))
 (VIdx (some ⟨b1, 0, none⟩) 3 2 1 fun a91 =>
 ∃ x92 : Int, cellH h51 a91 = some (.int .i64 x92) ∧
 ∃ I93 : Nat → Heap → Int → Prop, (∃ n94, I93 n94 h51 x92) ∧
 ∀ (n94 : Nat) (h95 : Heap) (g96 : Env) (i_97 : Int), I93 n94 h95 i_97 →
 VSome a0k fun a99 =>
 ∃ (a100 : Option Addr) (la100 ca100 : Nat), cellH h95 ⟨a99.block, a99.off + 2, none⟩ = some (.slice a100 la100 ca100) ∧
 cond (decide (i_97 < (la100 : Int)))
 (VSome a0k fun a101 =>
 ∃ (a102 : Option Addr) (la102 ca102 : Nat), cellH h95 ⟨a101.block, a101.off + 2, none⟩ = some (.slice a102 la102 ca102) ∧
 VIdx a102 la102 i_97 1 fun a103 =>
 ∃ (a104 : Option Addr) (la104 ca104 : Nat), cellH h95 a103 = some (.slice a104 la104 ca104) ∧
 VSome a0k fun a105 =>
 ∃ (a106 : Option Addr) (la106 ca106 : Nat), cellH h95 ⟨a105.block, a105.off + 3, none⟩ = some (.slice a106 la106 ca106) ∧
 VIdx a106 la106 i_97 1 fun a107 =>
 ∃ (a108 : Option Addr) (la108 ca108 : Nat), cellH h95 a107 = some (.slice a108 la108 ca108) ∧
 VSome a0k fun a109 =>
 ∃ (a110 : Option Addr) (la110 ca110 : Nat), cellH h95 ⟨a109.block, a109.off + 4, none⟩ = some (.slice a110 la110 ca110) ∧
 VIdx a110 la110 i_97 1 fun a111 =>
 ∃ (a112 : Option Addr) (la112 ca112 : Nat), cellH h95 a111 = some (.slice a112 la112 ca112) ∧
 VSome a0k fun a113 =>
 ∃ (a114 : Option Addr) (la114 ca114 : Nat), cellH h95 ⟨a113.block, a113.off + 5, none⟩ = some (.slice a114 la114 ca114) ∧
 VIdx a114 la114 i_97 1 fun a115 =>
 ∃ (a116 : Option Addr) (la116 ca116 : Nat), cellH h95 a115 = some (.slice a116 la116 ca116) ∧
 ∃ I117 : Nat → Heap → Option Addr → Nat → Nat → Int → Prop, (∃ n118, I117 n118 h95 a104 la104 ca104 0) ∧
 ∀ (n118 : Nat) (h119 : Heap) (g120 : Env) (a_121 : Option Addr) (la_121 ca_121 : Nat) (n_122 : Int), I117 n118 h119 a_121 la_121 ca_121 n_122 →
 VSome a0k fun a124 =>
 ∃ (a125 : Option Addr) (la125 ca125 : Nat), cellH h119 ⟨a124.block, a124.off + 2, none⟩ = some (.slice a125 la125 ca125) ∧
 VIdx a125 la125 i_97 1 fun a126 =>
 ∃ (a127 : Option Addr) (la127 ca127 : Nat), cellH h119 a126 = some (.slice a127 la127 ca127) ∧
 VSome a0k fun a128 =>
 ∃ (a129 : Option Addr) (la129 ca129 : Nat), cellH h119 ⟨a128.block, a128.off + 2, none⟩ = some (.slice a129 la129 ca129) ∧
 VIdx a129 la129 i_97 1 fun a130 =>
 ∃ (a131 : Option Addr) (la131 ca131 : Nat), cellH h119 a130 = some (.slice a131 la131 ca131) ∧
 CallsH Tryz.prog 42 #[.int .i64 (IntKind.i64.wrap ((ca127 : Int) - (la131 : Int)))] h119 fun v132 h133 =>
 ∃ x134 : Int, v132 = .int .i64 x134 ∧
 cond (decide (n_122 < x134))
 (CallsH Tryz.prog 60 #[.int .i64 i_97] h133 fun v135 h136 =>
 ∃ x137 : Int, v135 = .int .i64 x137 ∧
 VNew h136 (.cells #[.int .i64 x137] 38) fun b138 h139 =>
 RunsTo Tryz.prog (Builtin.append_ #[60, 60] 60 #[.slice a_121 la_121 ca_121, .slice (some ⟨b138, 0, none⟩) 1 1]) h139 fun v140 h141 =>
 ∃ (a142 : Option Addr) (la142 ca142 : Nat), v140 = .slice a142 la142 ca142 ∧
 ∃ m123, m123 < n118 ∧ I117 m123 h141 a142 la142 ca142 (IntKind.i64.wrap (n_122 + 1)))
 (∃ I143 : Nat → Heap → Option Addr → Nat → Nat → Int → Prop, (∃ n144, I143 n144 h133 a108 la108 ca108 0) ∧
 ∀ (n144 : Nat) (h145 : Heap) (g146 : Env) (b_147 : Option Addr) (lb_147 cb_147 : Nat) (n_148 : Int), I143 n144 h145 b_147 lb_147 cb_147 n_148 →
 VSome a0k fun a150 =>
 ∃ (a151 : Option Addr) (la151 ca151 : Nat), cellH h145 ⟨a150.block, a150.off + 3, none⟩ = some (.slice a151 la151 ca151) ∧
 VIdx a151 la151 i_97 1 fun a152 =>
 ∃ (a153 : Option Addr) (la153 ca153 : Nat), cellH h145 a152 = some (.slice a153 la153 ca153) ∧
 VSome a0k fun a154 =>
 ∃ (a155 : Option Addr) (la155 ca155 : Nat), cellH h145 ⟨a154.block, a154.off + 3, none⟩ = some (.slice a155 la155 ca155) ∧
 VIdx a155 la155 i_97 1 fun a156 =>
 ∃ (a157 : Option Addr) (la157 ca157 : Nat), cellH h145 a156 = some (.slice a157 la157 ca157) ∧
 CallsH Tryz.prog 42 #[.int .i64 (IntKind.i64.wrap ((ca153 : Int) - (la157 : Int)))] h145 fun v158 h159 =>
 ∃ x160 : Int, v158 = .int .i64 x160 ∧
 cond (decide (n_148 < x160))
 (CallsH Tryz.prog 61 #[.int .i64 i_97] h159 fun v161 h162 =>
 ∃ s163 : ByteArray, v161 = .string s163 ∧
 VNew h162 (.cells #[.string s163, .int .i64 0, .slice none 0 0] 125) fun b164 h165 =>
 RunsTo Tryz.prog (Builtin.append_ #[55, 55] 55 #[.slice b_147 lb_147 cb_147, .slice (some ⟨b164, 0, none⟩) 1 1]) h165 fun v166 h167 =>
 ∃ (a168 : Option Addr) (la168 ca168 : Nat), v166 = .slice a168 la168 ca168 ∧
 ∃ m149, m149 < n144 ∧ I143 m149 h167 a168 la168 ca168 (IntKind.i64.wrap (n_148 + 1)))
 (∃ I169 : Nat → Heap → Option Addr → Nat → Nat → Int → Prop, (∃ n170, I169 n170 h159 a112 la112 ca112 0) ∧
 ∀ (n170 : Nat) (h171 : Heap) (g172 : Env) (c_173 : Option Addr) (lc_173 cc_173 : Nat) (n_174 : Int), I169 n170 h171 c_173 lc_173 cc_173 n_174 →
 VSome a0k fun a176 =>
 ∃ (a177 : Option Addr) (la177 ca177 : Nat), cellH h171 ⟨a176.block, a176.off + 4, none⟩ = some (.slice a177 la177 ca177) ∧
 VIdx a177 la177 i_97 1 fun a178 =>
 ∃ (a179 : Option Addr) (la179 ca179 : Nat), cellH h171 a178 = some (.slice a179 la179 ca179) ∧
 VSome a0k fun a180 =>
 ∃ (a181 : Option Addr) (la181 ca181 : Nat), cellH h171 ⟨a180.block, a180.off + 4, none⟩ = some (.slice a181 la181 ca181) ∧
 VIdx a181 la181 i_97 1 fun a182 =>
 ∃ (a183 : Option Addr) (la183 ca183 : Nat), cellH h171 a182 = some (.slice a183 la183 ca183) ∧
 CallsH Tryz.prog 42 #[.int .i64 (IntKind.i64.wrap ((ca179 : Int) - (la183 : Int)))] h171 fun v184 h185 =>
 ∃ x186 : Int, v184 = .int .i64 x186 ∧
 cond (decide (n_174 < x186))
 (CallsH Tryz.prog 61 #[.int .i64 i_97] h185 fun v187 h188 =>
 ∃ s189 : ByteArray, v187 = .string s189 ∧
 VNew h188 (.cells #[.string s189, .slice none 0 0] 114) fun b190 h191 =>
 RunsTo Tryz.prog (Builtin.append_ #[61, 61] 61 #[.slice c_173 lc_173 cc_173, .slice (some ⟨b190, 0, none⟩) 1 1]) h191 fun v192 h193 =>
 ∃ (a194 : Option Addr) (la194 ca194 : Nat), v192 = .slice a194 la194 ca194 ∧
 ∃ m175, m175 < n170 ∧ I169 m175 h193 a194 la194 ca194 (IntKind.i64.wrap (n_174 + 1)))
 (∃ I195 : Nat → Heap → Option Addr → Nat → Nat → Int → Prop, (∃ n196, I195 n196 h185 a116 la116 ca116 0) ∧
 ∀ (n196 : Nat) (h197 : Heap) (g198 : Env) (d_199 : Option Addr) (ld_199 cd_199 : Nat) (n_200 : Int), I195 n196 h197 d_199 ld_199 cd_199 n_200 →
 VSome a0k fun a202 =>
 ∃ (a203 : Option Addr) (la203 ca203 : Nat), cellH h197 ⟨a202.block, a202.off + 5, none⟩ = some (.slice a203 la203 ca203) ∧
 VIdx a203 la203 i_97 1 fun a204 =>
 ∃ (a205 : Option Addr) (la205 ca205 : Nat), cellH h197 a204 = some (.slice a205 la205 ca205) ∧
 VSome a0k fun a206 =>
 ∃ (a207 : Option Addr) (la207 ca207 : Nat), cellH h197 ⟨a206.block, a206.off + 5, none⟩ = some (.slice a207 la207 ca207) ∧
 VIdx a207 la207 i_97 1 fun a208 =>
 ∃ (a209 : Option Addr) (la209 ca209 : Nat), cellH h197 a208 = some (.slice a209 la209 ca209) ∧
 CallsH Tryz.prog 42 #[.int .i64 (IntKind.i64.wrap ((ca205 : Int) - (la209 : Int)))] h197 fun v210 h211 =>
 ∃ x212 : Int, v210 = .int .i64 x212 ∧
 cond (decide (n_200 < x212))
 (CallsH Tryz.prog 60 #[.int .i64 i_97] h211 fun v213 h214 =>
 ∃ x215 : Int, v213 = .int .i64 x215 ∧
 VNew h214 (.cells #[.int .i64 x215, .int .i64 0, .string (ByteArray.mk #[]), .bool false] 127) fun b216 h217 =>
 VNew h217 (.cells #[.slice (some ⟨b216, 0, none⟩) 1 1] 112) fun b218 h219 =>
 RunsTo Tryz.prog (Builtin.append_ #[45, 45] 45 #[.slice d_199 ld_199 cd_199, .slice (some ⟨b218, 0, none⟩) 1 1]) h219 fun v220 h221 =>
 ∃ (a222 : Option Addr) (la222 ca222 : Nat), v220 = .slice a222 la222 ca222 ∧
 ∃ m201, m201 < n196 ∧ I195 m201 h221 a222 la222 ca222 (IntKind.i64.wrap (n_200 + 1)))
 (VSome a0k fun a223 =>
 ∃ (a224 : Option Addr) (la224 ca224 : Nat), cellH h211 ⟨a223.block, a223.off + 2, none⟩ = some (.slice a224 la224 ca224) ∧
 VIdx a224 la224 (IntKind.i64.wrap (i_97 + 1)) 1 fun a225 =>
 VStore h211 a225 (.slice a_121 la_121 ca_121) fun h226 =>
 VSome a0k fun a227 =>
 ∃ (a228 : Option Addr) (la228 ca228 : Nat), cellH h226 ⟨a227.block, a227.off + 3, none⟩ = some (.slice a228 la228 ca228) ∧
 VIdx a228 la228 (IntKind.i64.wrap (i_97 + 1)) 1 fun a229 =>
 VStore h226 a229 (.slice b_147 lb_147 cb_147) fun h230 =>
 VSome a0k fun a231 =>
 ∃ (a232 : Option Addr) (la232 ca232 : Nat), cellH h230 ⟨a231.block, a231.off + 4, none⟩ = some (.slice a232 la232 ca232) ∧
 VIdx a232 la232 (IntKind.i64.wrap (i_97 + 1)) 1 fun a233 =>
 VStore h230 a233 (.slice c_173 lc_173 cc_173) fun h234 =>
 VSome a0k fun a235 =>
 ∃ (a236 : Option Addr) (la236 ca236 : Nat), cellH h234 ⟨a235.block, a235.off + 5, none⟩ = some (.slice a236 la236 ca236) ∧
 VIdx a236 la236 (IntKind.i64.wrap (i_97 + 1)) 1 fun a237 =>
 VStore h234 a237 (.slice d_199 ld_199 cd_199) fun h238 =>
 ∃ m98, m98 < n94 ∧ I93 m98 h238 (IntKind.i64.wrap (i_97 + 2)))))))
 (R (.tuple #[]) h95)))
theorem vf62 (a0k : Option Addr) (a1from_0 : Int) (a1from_1 : Int) (a1from_2 : Int) (h : Heap) (R : KV) (hF : F62 a0k a1from_0 a1from_1 a1from_2 h R) : CallsH Tryz.prog 62 #[.pointer a0k, .agg #[.int .i64 a1from_0, .int .i64 a1from_1, .int .i64 a1from_2]] h R :=
 calls_of_form (A := an62) (fn := Tryz.f62) (c := c62) (args := [.pointer a0k, .agg #[.int .i64 a1from_0, .int .i64 a1from_1, .int .i64 a1from_2]]) Tryz.func62 (by kernel_rfl) mixed (by kernel_rfl) (by kernel_rfl : F62 a0k a1from_0 a1from_1 a1from_2 h R = vcF Tryz.prog an62 Tryz.f62 c62 [.pointer a0k, .agg #[.int .i64 a1from_0, .int .i64 a1from_1, .int .i64 a1from_2]] h R) hF
end Go.Proofs.YtgdgebmlcgohhaaGreatDoor.F
