/- Printed by gen.py: the conditions of the translated functions, each a plain formula over heaps; the kernel checks that it is the one that the translation gives. Conditions: none. -/
import Derived.Test.YtgdgebmlcgohhaaGreatDoorV8
import Derived.Test.YtgdgebmlcgohhaaGreatDoorProg
namespace Go.Proofs.YtgdgebmlcgohhaaGreatDoor.F
open Go Go.VC Go.Proofs
set_option linter.unusedVariables false
set_option maxRecDepth 100000

theorem mixed : Tryz.prog.follows .mixedOrders = true := by kernel_rfl
/-! ### 3 refrain/refrainlaw30.ProtoForms -/
noncomputable def c3 : Code := match Tryz.f3.body with | some c => c | none => .skip
noncomputable def an3 : Ann := { loops := fun i => [], draws := fun i => #[], joins := fun i => none }
def F3 (a0qs : Option Addr) (la0qs ca0qs : Nat) (a1rs : Option Addr) (la1rs ca1rs : Nat) (a2raws : Option Addr) (la2raws ca2raws : Nat) (h : Heap) (R : KV) : Prop :=
 CallsH Tryz.prog 5 #[] h fun v1 h2 =>
 ∃ b3 : Bool, v1 = .bool b3 ∧
 cond (!b3)
 (R (.bool false) h2)
 (CallsH Tryz.prog 6 #[.slice a0qs la0qs ca0qs, .slice a2raws la2raws ca2raws] h2 fun v4 h5 =>
 ∃ b6 : Bool, v4 = .bool b6 ∧
 CallsH Tryz.prog 7 #[.slice a1rs la1rs ca1rs, .slice a2raws la2raws ca2raws] h5 fun v7 h8 =>
 ∃ b9 : Bool, v7 = .bool b9 ∧
 cond b6 (R (.bool b9) h8) (R (.bool false) h8))
theorem vf3 (a0qs : Option Addr) (la0qs ca0qs : Nat) (a1rs : Option Addr) (la1rs ca1rs : Nat) (a2raws : Option Addr) (la2raws ca2raws : Nat) (h : Heap) (R : KV) (hF : F3 a0qs la0qs ca0qs a1rs la1rs ca1rs a2raws la2raws ca2raws h R) : CallsH Tryz.prog 3 #[.slice a0qs la0qs ca0qs, .slice a1rs la1rs ca1rs, .slice a2raws la2raws ca2raws] h R :=
 calls_of_form (A := an3) (fn := Tryz.f3) (c := c3) (args := [.slice a0qs la0qs ca0qs, .slice a1rs la1rs ca1rs, .slice a2raws la2raws ca2raws]) Tryz.func3 (by kernel_rfl) mixed (by kernel_rfl) (by kernel_rfl : F3 a0qs la0qs ca0qs a1rs la1rs ca1rs a2raws la2raws ca2raws h R = vcF Tryz.prog an3 Tryz.f3 c3 [.slice a0qs la0qs ca0qs, .slice a1rs la1rs ca1rs, .slice a2raws la2raws ca2raws] h R) hF
/-! ### 6 refrain/refrainlaw30.asks -/
noncomputable def c6 : Code := match Tryz.f6.body with | some c => c | none => .skip
noncomputable def an6 : Ann := { loops := fun i => match i with | 2 => [(4, .bool), (5, .int .i64)] | 11 => [(4, .bool), (11, .int .i64)] | _ => [], draws := fun i => match i with | 8 => #[0, 0, 3, 7, 15, 15, 63, 127, 255, 511, 1023, 1023, 1023, 7167, 15359, 32767, 65535, 131071] | _ => #[], joins := fun i => match i with | 3 => some [(4, .bool)] | _ => none }
def F6 (a0rs : Option Addr) (la0rs ca0rs : Nat) (a1raws : Option Addr) (la1raws ca1raws : Nat) (h : Heap) (R : KV) : Prop :=
 ∃ I1 : Nat → Heap → Bool → Int → Prop, (∃ n2, I1 n2 h false 0) ∧
 ∀ (n2 : Nat) (h3 : Heap) (g4 : Env) (y_5 : Bool) (i_6 : Int), I1 n2 h3 y_5 i_6 →
 cond (decide (i_6 < (la0rs : Int)))
 (∃ J8 : Heap → Bool → Prop, (VIdx a0rs la0rs i_6 6 fun a9 =>
 ∃ x10 : Int, cellH h3 a9 = some (.int .u32 x10) ∧
 ∃ x11 : Int, cellH h3 ⟨a9.block, a9.off + 1, none⟩ = some (.int .i64 x11) ∧
 ∃ s12 : ByteArray, cellH h3 ⟨a9.block, a9.off + 2, none⟩ = some (.string s12) ∧
 ∃ s13 : ByteArray, cellH h3 ⟨a9.block, a9.off + 3, none⟩ = some (.string s13) ∧
 ∃ (a14 : Option Addr) (la14 ca14 : Nat), cellH h3 ⟨a9.block, a9.off + 4, none⟩ = some (.slice a14 la14 ca14) ∧
 ∃ (a15 : Option Addr) (la15 ca15 : Nat), cellH h3 ⟨a9.block, a9.off + 5, none⟩ = some (.slice a15 la15 ca15) ∧
 CallsH Tryz.prog 27 #[.agg #[.int .u32 x10, .int .i64 x11, .string s12, .string s13, .slice a14 la14 ca14, .slice a15 la15 ca15]] h3 fun v16 h17 =>
 ∃ b18 : Bool, v16 = .bool b18 ∧
 cond b18
 (J8 h17 y_5)
 (VIdx a0rs la0rs i_6 6 fun a19 =>
 ∃ x20 : Int, cellH h17 a19 = some (.int .u32 x20) ∧
 ∃ x21 : Int, cellH h17 ⟨a19.block, a19.off + 1, none⟩ = some (.int .i64 x21) ∧
 ∃ s22 : ByteArray, cellH h17 ⟨a19.block, a19.off + 2, none⟩ = some (.string s22) ∧
 ∃ s23 : ByteArray, cellH h17 ⟨a19.block, a19.off + 3, none⟩ = some (.string s23) ∧
 ∃ (a24 : Option Addr) (la24 ca24 : Nat), cellH h17 ⟨a19.block, a19.off + 4, none⟩ = some (.slice a24 la24 ca24) ∧
 ∃ (a25 : Option Addr) (la25 ca25 : Nat), cellH h17 ⟨a19.block, a19.off + 5, none⟩ = some (.slice a25 la25 ca25) ∧
 CallsH Tryz.prog 28 #[.agg #[.int .u32 x20, .int .i64 x21, .string s22, .string s23, .slice a24 la24 ca24, .slice a25 la25 ca25]] h17 fun v26 h27 =>
 ∃ x28 : Int, ∃ x29 : Int, ∃ s30 : ByteArray, ∃ s31 : ByteArray, ∃ (a32 : Option Addr) (la32 ca32 : Nat), ∃ (a33 : Option Addr) (la33 ca33 : Nat), ∃ (a34 : Option Addr) (la34 ca34 : Nat), ∃ (a35 : Option Addr) (la35 ca35 : Nat), ∃ (a36 : Option Addr) (la36 ca36 : Nat), v26 = .agg #[.int .u32 x28, .int .i64 x29, .string s30, .string s31, .slice a32 la32 ca32, .slice a33 la33 ca33, .slice a34 la34 ca34, .slice a35 la35 ca35, .slice a36 la36 ca36] ∧
 VNew h27 (.cells #[.int .u32 0, .int .i64 0, .string (ByteArray.mk #[]), .string (ByteArray.mk #[]), .slice none 0 0, .slice none 0 0, .slice none 0 0, .slice none 0 0, .slice none 0 0] 77) fun b37 h38 =>
 storeL ⟨b37, 0, none⟩ 0 [.int .u32 x28, .int .i64 x29, .string s30, .string s31, .slice a32 la32 ca32, .slice a33 la33 ca33, .slice a34 la34 ca34, .slice a35 la35 ca35, .slice a36 la36 ca36] h38 fun h39 =>
 ∃ x40 : Int, cellH h39 ⟨b37, 0, none⟩ = some (.int .u32 x40) ∧
 ∃ x41 : Int, cellH h39 ⟨b37, 1, none⟩ = some (.int .i64 x41) ∧
 ∃ s42 : ByteArray, cellH h39 ⟨b37, 2, none⟩ = some (.string s42) ∧
 ∃ s43 : ByteArray, cellH h39 ⟨b37, 3, none⟩ = some (.string s43) ∧
 ∃ (a44 : Option Addr) (la44 ca44 : Nat), cellH h39 ⟨b37, 4, none⟩ = some (.slice a44 la44 ca44) ∧
 ∃ (a45 : Option Addr) (la45 ca45 : Nat), cellH h39 ⟨b37, 5, none⟩ = some (.slice a45 la45 ca45) ∧
 CallsH Tryz.prog 25 #[.agg #[.int .u32 x40, .int .i64 x41, .string s42, .string s43, .slice a44 la44 ca44, .slice a45 la45 ca45]] h39 fun v46 h47 =>
 ∃ (a48 : Option Addr) (la48 ca48 : Nat), ∃ x49 : Int, v46 = .tuple #[.slice a48 la48 ca48, .int .i64 x49] ∧
 VIdx a0rs la0rs i_6 6 fun a50 =>
 ∃ x51 : Int, cellH h47 a50 = some (.int .u32 x51) ∧
 ∃ x52 : Int, cellH h47 ⟨a50.block, a50.off + 1, none⟩ = some (.int .i64 x52) ∧
 ∃ s53 : ByteArray, cellH h47 ⟨a50.block, a50.off + 2, none⟩ = some (.string s53) ∧
 ∃ s54 : ByteArray, cellH h47 ⟨a50.block, a50.off + 3, none⟩ = some (.string s54) ∧
 ∃ (a55 : Option Addr) (la55 ca55 : Nat), cellH h47 ⟨a50.block, a50.off + 4, none⟩ = some (.slice a55 la55 ca55) ∧
 ∃ (a56 : Option Addr) (la56 ca56 : Nat), cellH h47 ⟨a50.block, a50.off + 5, none⟩ = some (.slice a56 la56 ca56) ∧
 CallsH Tryz.prog 29 #[.agg #[.int .u32 x51, .int .i64 x52, .string s53, .string s54, .slice a55 la55 ca55, .slice a56 la56 ca56]] h47 fun v57 h58 =>
 ∃ (a59 : Option Addr) (la59 ca59 : Nat), ∃ x60 : Int, v57 = .tuple #[.slice a59 la59 ca59, .int .i64 x60] ∧
 cond (x49 != x60) (R (.bool false) h58) (CallsH Tryz.prog 17 #[.slice a48 la48 ca48, .slice a59 la59 ca59] h58 fun v61 h62 =>
 ∃ b63 : Bool, v61 = .bool b63 ∧
 cond (!b63) (R (.bool false) h62) (∃ x64 : Int, cellH h62 ⟨b37, 0, none⟩ = some (.int .u32 x64) ∧
 ∃ x65 : Int, cellH h62 ⟨b37, 1, none⟩ = some (.int .i64 x65) ∧
 ∃ s66 : ByteArray, cellH h62 ⟨b37, 2, none⟩ = some (.string s66) ∧
 ∃ s67 : ByteArray, cellH h62 ⟨b37, 3, none⟩ = some (.string s67) ∧
 ∃ (a68 : Option Addr) (la68 ca68 : Nat), cellH h62 ⟨b37, 4, none⟩ = some (.slice a68 la68 ca68) ∧
 ∃ (a69 : Option Addr) (la69 ca69 : Nat), cellH h62 ⟨b37, 5, none⟩ = some (.slice a69 la69 ca69) ∧
 ∃ (a70 : Option Addr) (la70 ca70 : Nat), cellH h62 ⟨b37, 6, none⟩ = some (.slice a70 la70 ca70) ∧
 ∃ (a71 : Option Addr) (la71 ca71 : Nat), cellH h62 ⟨b37, 7, none⟩ = some (.slice a71 la71 ca71) ∧
 ∃ (a72 : Option Addr) (la72 ca72 : Nat), cellH h62 ⟨b37, 8, none⟩ = some (.slice a72 la72 ca72) ∧
 VIdx a0rs la0rs i_6 6 fun a73 =>
 ∃ x74 : Int, cellH h62 a73 = some (.int .u32 x74) ∧
 ∃ x75 : Int, cellH h62 ⟨a73.block, a73.off + 1, none⟩ = some (.int .i64 x75) ∧
 ∃ s76 : ByteArray, cellH h62 ⟨a73.block, a73.off + 2, none⟩ = some (.string s76) ∧
 ∃ s77 : ByteArray, cellH h62 ⟨a73.block, a73.off + 3, none⟩ = some (.string s77) ∧
 ∃ (a78 : Option Addr) (la78 ca78 : Nat), cellH h62 ⟨a73.block, a73.off + 4, none⟩ = some (.slice a78 la78 ca78) ∧
 ∃ (a79 : Option Addr) (la79 ca79 : Nat), cellH h62 ⟨a73.block, a73.off + 5, none⟩ = some (.slice a79 la79 ca79) ∧
 CallsH Tryz.prog 30 #[.agg #[.int .u32 x64, .int .i64 x65, .string s66, .string s67, .slice a68 la68 ca68, .slice a69 la69 ca69, .slice a70 la70 ca70, .slice a71 la71 ca71, .slice a72 la72 ca72], .agg #[.int .u32 x74, .int .i64 x75, .string s76, .string s77, .slice a78 la78 ca78, .slice a79 la79 ca79]] h62 fun v80 h81 =>
 ∃ b82 : Bool, v80 = .bool b82 ∧
 cond (!b82)
 (R (.bool false) h81)
 (J8 h81 y_5))))) ∧
 ∀ (h83 : Heap) (g84 : Env) (y_85 : Bool), J8 h83 y_85 →
 ∃ m7, m7 < n2 ∧ I1 m7 h83 y_85 (IntKind.i64.wrap (i_6 + 1)))
 (∃ I86 : Nat → Heap → Bool → Int → Prop, (∃ n87, I86 n87 h3 y_5 0) ∧
 ∀ (n87 : Nat) (h88 : Heap) (g89 : Env) (y_90 : Bool) (i_91 : Int), I86 n87 h88 y_90 i_91 →
 cond (decide (i_91 < (la1raws : Int)))
 (VIdx a1raws la1raws i_91 1 fun a93 =>
 ∃ (a94 : Option Addr) (la94 ca94 : Nat), cellH h88 a93 = some (.slice a94 la94 ca94) ∧
 CallsH Tryz.prog 11 #[.slice a94 la94 ca94] h88 fun v95 h96 =>
 ∃ (a97 : Option Addr) (la97 ca97 : Nat), v95 = .slice a97 la97 ca97 ∧
 VIdx a1raws la1raws i_91 1 fun a98 =>
 ∃ (a99 : Option Addr) (la99 ca99 : Nat), cellH h96 a98 = some (.slice a99 la99 ca99) ∧
 VSlice 1 a97 ca97 0 (la99 : Int) (la97 : Int) fun a100 la100 ca100 =>
 CallsH Tryz.prog 18 #[.slice a100 la100 ca100] h96 fun v101 h102 =>
 ∃ x103 : Int, ∃ x104 : Int, ∃ s105 : ByteArray, ∃ s106 : ByteArray, ∃ (a107 : Option Addr) (la107 ca107 : Nat), ∃ (a108 : Option Addr) (la108 ca108 : Nat), ∃ x109 : Int, v101 = .tuple #[.agg #[.int .u32 x103, .int .i64 x104, .string s105, .string s106, .slice a107 la107 ca107, .slice a108 la108 ca108], .int .i64 x109] ∧
 VNew h102 (.cells #[.int .u32 0, .int .i64 0, .string (ByteArray.mk #[]), .string (ByteArray.mk #[]), .slice none 0 0, .slice none 0 0] 57) fun b110 h111 =>
 storeL ⟨b110, 0, none⟩ 0 [.int .u32 x103, .int .i64 x104, .string s105, .string s106, .slice a107 la107 ca107, .slice a108 la108 ca108] h111 fun h112 =>
 VIdx a1raws la1raws i_91 1 fun a113 =>
 ∃ (a114 : Option Addr) (la114 ca114 : Nat), cellH h112 a113 = some (.slice a114 la114 ca114) ∧
 CallsH Tryz.prog 31 #[.slice a114 la114 ca114] h112 fun v115 h116 =>
 ∃ x117 : Int, ∃ x118 : Int, ∃ s119 : ByteArray, ∃ s120 : ByteArray, ∃ (a121 : Option Addr) (la121 ca121 : Nat), ∃ (a122 : Option Addr) (la122 ca122 : Nat), ∃ x123 : Int, v115 = .tuple #[.agg #[.int .u32 x117, .int .i64 x118, .string s119, .string s120, .slice a121 la121 ca121, .slice a122 la122 ca122], .int .i64 x123] ∧
 VNew h116 (.cells #[.int .u32 0, .int .i64 0, .string (ByteArray.mk #[]), .string (ByteArray.mk #[]), .slice none 0 0, .slice none 0 0] 57) fun b124 h125 =>
 storeL ⟨b124, 0, none⟩ 0 [.int .u32 x117, .int .i64 x118, .string s119, .string s120, .slice a121 la121 ca121, .slice a122 la122 ca122] h125 fun h126 =>
 cond (x109 != x123) (R (.bool false) h126) (∃ x127 : Int, cellH h126 ⟨b110, 0, none⟩ = some (.int .u32 x127) ∧
 ∃ x128 : Int, cellH h126 ⟨b110, 1, none⟩ = some (.int .i64 x128) ∧
 ∃ s129 : ByteArray, cellH h126 ⟨b110, 2, none⟩ = some (.string s129) ∧
 ∃ s130 : ByteArray, cellH h126 ⟨b110, 3, none⟩ = some (.string s130) ∧
 ∃ (a131 : Option Addr) (la131 ca131 : Nat), cellH h126 ⟨b110, 4, none⟩ = some (.slice a131 la131 ca131) ∧
 ∃ (a132 : Option Addr) (la132 ca132 : Nat), cellH h126 ⟨b110, 5, none⟩ = some (.slice a132 la132 ca132) ∧
 ∃ x133 : Int, cellH h126 ⟨b124, 0, none⟩ = some (.int .u32 x133) ∧
 ∃ x134 : Int, cellH h126 ⟨b124, 1, none⟩ = some (.int .i64 x134) ∧
 ∃ s135 : ByteArray, cellH h126 ⟨b124, 2, none⟩ = some (.string s135) ∧
 ∃ s136 : ByteArray, cellH h126 ⟨b124, 3, none⟩ = some (.string s136) ∧
 ∃ (a137 : Option Addr) (la137 ca137 : Nat), cellH h126 ⟨b124, 4, none⟩ = some (.slice a137 la137 ca137) ∧
 ∃ (a138 : Option Addr) (la138 ca138 : Nat), cellH h126 ⟨b124, 5, none⟩ = some (.slice a138 la138 ca138) ∧
 CallsH Tryz.prog 20 #[.agg #[.int .u32 x127, .int .i64 x128, .string s129, .string s130, .slice a131 la131 ca131, .slice a132 la132 ca132], .agg #[.int .u32 x133, .int .i64 x134, .string s135, .string s136, .slice a137 la137 ca137, .slice a138 la138 ca138]] h126 fun v139 h140 =>
 ∃ b141 : Bool, v139 = .bool b141 ∧
 cond (!b141) (R (.bool false) h140) (VIdx a1raws la1raws i_91 1 fun a142 =>
 ∃ (a143 : Option Addr) (la143 ca143 : Nat), cellH h140 a142 = some (.slice a143 la143 ca143) ∧
 CallsH Tryz.prog 11 #[.slice a143 la143 ca143] h140 fun v144 h145 =>
 ∃ (a146 : Option Addr) (la146 ca146 : Nat), v144 = .slice a146 la146 ca146 ∧
 CallsH Tryz.prog 17 #[.slice a97 la97 ca97, .slice a146 la146 ca146] h145 fun v147 h148 =>
 ∃ b149 : Bool, v147 = .bool b149 ∧
 cond (!b149)
 (R (.bool false) h148)
 (∃ m92, m92 < n87 ∧ I86 m92 h148 y_90 (IntKind.i64.wrap (i_91 + 1))))))
 (R (.bool true) h88))
theorem vf6 (a0rs : Option Addr) (la0rs ca0rs : Nat) (a1raws : Option Addr) (la1raws ca1raws : Nat) (h : Heap) (R : KV) (hF : F6 a0rs la0rs ca0rs a1raws la1raws ca1raws h R) : CallsH Tryz.prog 6 #[.slice a0rs la0rs ca0rs, .slice a1raws la1raws ca1raws] h R :=
 calls_of_form (A := an6) (fn := Tryz.f6) (c := c6) (args := [.slice a0rs la0rs ca0rs, .slice a1raws la1raws ca1raws]) Tryz.func6 (by kernel_rfl) mixed (by kernel_rfl) (by kernel_rfl : F6 a0rs la0rs ca0rs a1raws la1raws ca1raws h R = vcF Tryz.prog an6 Tryz.f6 c6 [.slice a0rs la0rs ca0rs, .slice a1raws la1raws ca1raws] h R) hF
/-! ### 7 refrain/refrainlaw30.tells -/
noncomputable def c7 : Code := match Tryz.f7.body with | some c => c | none => .skip
noncomputable def an7 : Ann := { loops := fun i => match i with | 2 => [(4, .bool), (5, .int .i64)] | 11 => [(4, .bool), (11, .int .i64)] | _ => [], draws := fun i => #[], joins := fun i => match i with | 3 => some [(4, .bool)] | _ => none }
def F7 (a0rs : Option Addr) (la0rs ca0rs : Nat) (a1raws : Option Addr) (la1raws ca1raws : Nat) (h : Heap) (R : KV) : Prop :=
 ∃ I1 : Nat → Heap → Bool → Int → Prop, (∃ n2, I1 n2 h false 0) ∧
 ∀ (n2 : Nat) (h3 : Heap) (g4 : Env) (y_5 : Bool) (i_6 : Int), I1 n2 h3 y_5 i_6 →
 cond (decide (i_6 < (la0rs : Int)))
 (∃ J8 : Heap → Bool → Prop, (VIdx a0rs la0rs i_6 12 fun a9 =>
 ∃ x10 : Int, cellH h3 a9 = some (.int .u32 x10) ∧
 ∃ b11 : Bool, cellH h3 ⟨a9.block, a9.off + 1, none⟩ = some (.bool b11) ∧
 ∃ x12 : Int, cellH h3 ⟨a9.block, a9.off + 2, none⟩ = some (.int .i64 x12) ∧
 ∃ x13 : Int, cellH h3 ⟨a9.block, a9.off + 3, none⟩ = some (.int .i64 x13) ∧
 ∃ (a14 : Option Addr) (la14 ca14 : Nat), cellH h3 ⟨a9.block, a9.off + 4, none⟩ = some (.slice a14 la14 ca14) ∧
 ∃ (a15 : Option Addr) (la15 ca15 : Nat), cellH h3 ⟨a9.block, a9.off + 5, none⟩ = some (.slice a15 la15 ca15) ∧
 ∃ (a16 : Option Addr) (la16 ca16 : Nat), cellH h3 ⟨a9.block, a9.off + 6, none⟩ = some (.slice a16 la16 ca16) ∧
 ∃ (a17 : Option Addr) (la17 ca17 : Nat), cellH h3 ⟨a9.block, a9.off + 7, none⟩ = some (.slice a17 la17 ca17) ∧
 ∃ x18 : Int, cellH h3 ⟨a9.block, a9.off + 8, none⟩ = some (.int .i64 x18) ∧
 ∃ x19 : Int, cellH h3 ⟨a9.block, a9.off + 9, none⟩ = some (.int .i64 x19) ∧
 ∃ x20 : Int, cellH h3 ⟨a9.block, a9.off + 10, none⟩ = some (.int .i64 x20) ∧
 ∃ b21 : Bool, cellH h3 ⟨a9.block, a9.off + 11, none⟩ = some (.bool b21) ∧
 CallsH Tryz.prog 32 #[.agg #[.int .u32 x10, .bool b11, .int .i64 x12, .int .i64 x13, .slice a14 la14 ca14, .slice a15 la15 ca15, .slice a16 la16 ca16, .slice a17 la17 ca17, .int .i64 x18, .int .i64 x19, .int .i64 x20, .bool b21]] h3 fun v22 h23 =>
 ∃ b24 : Bool, v22 = .bool b24 ∧
 cond b24
 (J8 h23 y_5)
 (VIdx a0rs la0rs i_6 12 fun a25 =>
 ∃ x26 : Int, cellH h23 a25 = some (.int .u32 x26) ∧
 ∃ b27 : Bool, cellH h23 ⟨a25.block, a25.off + 1, none⟩ = some (.bool b27) ∧
 ∃ x28 : Int, cellH h23 ⟨a25.block, a25.off + 2, none⟩ = some (.int .i64 x28) ∧
 ∃ x29 : Int, cellH h23 ⟨a25.block, a25.off + 3, none⟩ = some (.int .i64 x29) ∧
 ∃ (a30 : Option Addr) (la30 ca30 : Nat), cellH h23 ⟨a25.block, a25.off + 4, none⟩ = some (.slice a30 la30 ca30) ∧
 ∃ (a31 : Option Addr) (la31 ca31 : Nat), cellH h23 ⟨a25.block, a25.off + 5, none⟩ = some (.slice a31 la31 ca31) ∧
 ∃ (a32 : Option Addr) (la32 ca32 : Nat), cellH h23 ⟨a25.block, a25.off + 6, none⟩ = some (.slice a32 la32 ca32) ∧
 ∃ (a33 : Option Addr) (la33 ca33 : Nat), cellH h23 ⟨a25.block, a25.off + 7, none⟩ = some (.slice a33 la33 ca33) ∧
 ∃ x34 : Int, cellH h23 ⟨a25.block, a25.off + 8, none⟩ = some (.int .i64 x34) ∧
 ∃ x35 : Int, cellH h23 ⟨a25.block, a25.off + 9, none⟩ = some (.int .i64 x35) ∧
 ∃ x36 : Int, cellH h23 ⟨a25.block, a25.off + 10, none⟩ = some (.int .i64 x36) ∧
 ∃ b37 : Bool, cellH h23 ⟨a25.block, a25.off + 11, none⟩ = some (.bool b37) ∧
 CallsH Tryz.prog 33 #[.agg #[.int .u32 x26, .bool b27, .int .i64 x28, .int .i64 x29, .slice a30 la30 ca30, .slice a31 la31 ca31, .slice a32 la32 ca32, .slice a33 la33 ca33, .int .i64 x34, .int .i64 x35, .int .i64 x36, .bool b37]] h23 fun v38 h39 =>
 ∃ p40 : Option Addr, v38 = .pointer p40 ∧
 VSome p40 fun a41 =>
 ∃ x42 : Int, cellH h39 a41 = some (.int .u32 x42) ∧
 ∃ b43 : Bool, cellH h39 ⟨a41.block, a41.off + 1, none⟩ = some (.bool b43) ∧
 ∃ x44 : Int, cellH h39 ⟨a41.block, a41.off + 2, none⟩ = some (.int .i64 x44) ∧
 ∃ x45 : Int, cellH h39 ⟨a41.block, a41.off + 3, none⟩ = some (.int .i64 x45) ∧
 ∃ (a46 : Option Addr) (la46 ca46 : Nat), cellH h39 ⟨a41.block, a41.off + 4, none⟩ = some (.slice a46 la46 ca46) ∧
 ∃ (a47 : Option Addr) (la47 ca47 : Nat), cellH h39 ⟨a41.block, a41.off + 5, none⟩ = some (.slice a47 la47 ca47) ∧
 ∃ (a48 : Option Addr) (la48 ca48 : Nat), cellH h39 ⟨a41.block, a41.off + 6, none⟩ = some (.slice a48 la48 ca48) ∧
 ∃ (a49 : Option Addr) (la49 ca49 : Nat), cellH h39 ⟨a41.block, a41.off + 7, none⟩ = some (.slice a49 la49 ca49) ∧
 ∃ x50 : Int, cellH h39 ⟨a41.block, a41.off + 8, none⟩ = some (.int .i64 x50) ∧
 ∃ x51 : Int, cellH h39 ⟨a41.block, a41.off + 9, none⟩ = some (.int .i64 x51) ∧
 ∃ x52 : Int, cellH h39 ⟨a41.block, a41.off + 10, none⟩ = some (.int .i64 x52) ∧
 ∃ b53 : Bool, cellH h39 ⟨a41.block, a41.off + 11, none⟩ = some (.bool b53) ∧
 CallsH Tryz.prog 26 #[.agg #[.int .u32 x42, .bool b43, .int .i64 x44, .int .i64 x45, .slice a46 la46 ca46, .slice a47 la47 ca47, .slice a48 la48 ca48, .slice a49 la49 ca49, .int .i64 x50, .int .i64 x51, .int .i64 x52, .bool b53]] h39 fun v54 h55 =>
 ∃ (a56 : Option Addr) (la56 ca56 : Nat), ∃ x57 : Int, v54 = .tuple #[.slice a56 la56 ca56, .int .i64 x57] ∧
 VIdx a0rs la0rs i_6 12 fun a58 =>
 ∃ x59 : Int, cellH h55 a58 = some (.int .u32 x59) ∧
 ∃ b60 : Bool, cellH h55 ⟨a58.block, a58.off + 1, none⟩ = some (.bool b60) ∧
 ∃ x61 : Int, cellH h55 ⟨a58.block, a58.off + 2, none⟩ = some (.int .i64 x61) ∧
 ∃ x62 : Int, cellH h55 ⟨a58.block, a58.off + 3, none⟩ = some (.int .i64 x62) ∧
 ∃ (a63 : Option Addr) (la63 ca63 : Nat), cellH h55 ⟨a58.block, a58.off + 4, none⟩ = some (.slice a63 la63 ca63) ∧
 ∃ (a64 : Option Addr) (la64 ca64 : Nat), cellH h55 ⟨a58.block, a58.off + 5, none⟩ = some (.slice a64 la64 ca64) ∧
 ∃ (a65 : Option Addr) (la65 ca65 : Nat), cellH h55 ⟨a58.block, a58.off + 6, none⟩ = some (.slice a65 la65 ca65) ∧
 ∃ (a66 : Option Addr) (la66 ca66 : Nat), cellH h55 ⟨a58.block, a58.off + 7, none⟩ = some (.slice a66 la66 ca66) ∧
 ∃ x67 : Int, cellH h55 ⟨a58.block, a58.off + 8, none⟩ = some (.int .i64 x67) ∧
 ∃ x68 : Int, cellH h55 ⟨a58.block, a58.off + 9, none⟩ = some (.int .i64 x68) ∧
 ∃ x69 : Int, cellH h55 ⟨a58.block, a58.off + 10, none⟩ = some (.int .i64 x69) ∧
 ∃ b70 : Bool, cellH h55 ⟨a58.block, a58.off + 11, none⟩ = some (.bool b70) ∧
 CallsH Tryz.prog 34 #[.agg #[.int .u32 x59, .bool b60, .int .i64 x61, .int .i64 x62, .slice a63 la63 ca63, .slice a64 la64 ca64, .slice a65 la65 ca65, .slice a66 la66 ca66, .int .i64 x67, .int .i64 x68, .int .i64 x69, .bool b70]] h55 fun v71 h72 =>
 ∃ (a73 : Option Addr) (la73 ca73 : Nat), ∃ x74 : Int, v71 = .tuple #[.slice a73 la73 ca73, .int .i64 x74] ∧
 cond (x57 != x74) (R (.bool false) h72) (CallsH Tryz.prog 17 #[.slice a56 la56 ca56, .slice a73 la73 ca73] h72 fun v75 h76 =>
 ∃ b77 : Bool, v75 = .bool b77 ∧
 cond (!b77) (R (.bool false) h76) (VIdx a0rs la0rs i_6 12 fun a78 =>
 ∃ x79 : Int, cellH h76 a78 = some (.int .u32 x79) ∧
 ∃ b80 : Bool, cellH h76 ⟨a78.block, a78.off + 1, none⟩ = some (.bool b80) ∧
 ∃ x81 : Int, cellH h76 ⟨a78.block, a78.off + 2, none⟩ = some (.int .i64 x81) ∧
 ∃ x82 : Int, cellH h76 ⟨a78.block, a78.off + 3, none⟩ = some (.int .i64 x82) ∧
 ∃ (a83 : Option Addr) (la83 ca83 : Nat), cellH h76 ⟨a78.block, a78.off + 4, none⟩ = some (.slice a83 la83 ca83) ∧
 ∃ (a84 : Option Addr) (la84 ca84 : Nat), cellH h76 ⟨a78.block, a78.off + 5, none⟩ = some (.slice a84 la84 ca84) ∧
 ∃ (a85 : Option Addr) (la85 ca85 : Nat), cellH h76 ⟨a78.block, a78.off + 6, none⟩ = some (.slice a85 la85 ca85) ∧
 ∃ (a86 : Option Addr) (la86 ca86 : Nat), cellH h76 ⟨a78.block, a78.off + 7, none⟩ = some (.slice a86 la86 ca86) ∧
 ∃ x87 : Int, cellH h76 ⟨a78.block, a78.off + 8, none⟩ = some (.int .i64 x87) ∧
 ∃ x88 : Int, cellH h76 ⟨a78.block, a78.off + 9, none⟩ = some (.int .i64 x88) ∧
 ∃ x89 : Int, cellH h76 ⟨a78.block, a78.off + 10, none⟩ = some (.int .i64 x89) ∧
 ∃ b90 : Bool, cellH h76 ⟨a78.block, a78.off + 11, none⟩ = some (.bool b90) ∧
 CallsH Tryz.prog 35 #[.pointer p40, .agg #[.int .u32 x79, .bool b80, .int .i64 x81, .int .i64 x82, .slice a83 la83 ca83, .slice a84 la84 ca84, .slice a85 la85 ca85, .slice a86 la86 ca86, .int .i64 x87, .int .i64 x88, .int .i64 x89, .bool b90]] h76 fun v91 h92 =>
 ∃ b93 : Bool, v91 = .bool b93 ∧
 cond (!b93)
 (R (.bool false) h92)
 (J8 h92 y_5))))) ∧
 ∀ (h94 : Heap) (g95 : Env) (y_96 : Bool), J8 h94 y_96 →
 ∃ m7, m7 < n2 ∧ I1 m7 h94 y_96 (IntKind.i64.wrap (i_6 + 1)))
 (∃ I97 : Nat → Heap → Bool → Int → Prop, (∃ n98, I97 n98 h3 y_5 0) ∧
 ∀ (n98 : Nat) (h99 : Heap) (g100 : Env) (y_101 : Bool) (i_102 : Int), I97 n98 h99 y_101 i_102 →
 cond (decide (i_102 < (la1raws : Int)))
 (VIdx a1raws la1raws i_102 1 fun a104 =>
 ∃ (a105 : Option Addr) (la105 ca105 : Nat), cellH h99 a104 = some (.slice a105 la105 ca105) ∧
 CallsH Tryz.prog 11 #[.slice a105 la105 ca105] h99 fun v106 h107 =>
 ∃ (a108 : Option Addr) (la108 ca108 : Nat), v106 = .slice a108 la108 ca108 ∧
 VIdx a1raws la1raws i_102 1 fun a109 =>
 ∃ (a110 : Option Addr) (la110 ca110 : Nat), cellH h107 a109 = some (.slice a110 la110 ca110) ∧
 VSlice 1 a108 ca108 0 (la110 : Int) (la108 : Int) fun a111 la111 ca111 =>
 CallsH Tryz.prog 19 #[.slice a111 la111 ca111] h107 fun v112 h113 =>
 ∃ x114 : Int, ∃ b115 : Bool, ∃ x116 : Int, ∃ x117 : Int, ∃ (a118 : Option Addr) (la118 ca118 : Nat), ∃ (a119 : Option Addr) (la119 ca119 : Nat), ∃ (a120 : Option Addr) (la120 ca120 : Nat), ∃ (a121 : Option Addr) (la121 ca121 : Nat), ∃ x122 : Int, ∃ x123 : Int, ∃ x124 : Int, ∃ b125 : Bool, ∃ x126 : Int, v112 = .tuple #[.agg #[.int .u32 x114, .bool b115, .int .i64 x116, .int .i64 x117, .slice a118 la118 ca118, .slice a119 la119 ca119, .slice a120 la120 ca120, .slice a121 la121 ca121, .int .i64 x122, .int .i64 x123, .int .i64 x124, .bool b125], .int .i64 x126] ∧
 VNew h113 (.cells #[.int .u32 0, .bool false, .int .i64 0, .int .i64 0, .slice none 0 0, .slice none 0 0, .slice none 0 0, .slice none 0 0, .int .i64 0, .int .i64 0, .int .i64 0, .bool false] 65) fun b127 h128 =>
 storeL ⟨b127, 0, none⟩ 0 [.int .u32 x114, .bool b115, .int .i64 x116, .int .i64 x117, .slice a118 la118 ca118, .slice a119 la119 ca119, .slice a120 la120 ca120, .slice a121 la121 ca121, .int .i64 x122, .int .i64 x123, .int .i64 x124, .bool b125] h128 fun h129 =>
 VIdx a1raws la1raws i_102 1 fun a130 =>
 ∃ (a131 : Option Addr) (la131 ca131 : Nat), cellH h129 a130 = some (.slice a131 la131 ca131) ∧
 CallsH Tryz.prog 36 #[.slice a131 la131 ca131] h129 fun v132 h133 =>
 ∃ x134 : Int, ∃ b135 : Bool, ∃ x136 : Int, ∃ x137 : Int, ∃ (a138 : Option Addr) (la138 ca138 : Nat), ∃ (a139 : Option Addr) (la139 ca139 : Nat), ∃ (a140 : Option Addr) (la140 ca140 : Nat), ∃ (a141 : Option Addr) (la141 ca141 : Nat), ∃ x142 : Int, ∃ x143 : Int, ∃ x144 : Int, ∃ b145 : Bool, ∃ x146 : Int, v132 = .tuple #[.agg #[.int .u32 x134, .bool b135, .int .i64 x136, .int .i64 x137, .slice a138 la138 ca138, .slice a139 la139 ca139, .slice a140 la140 ca140, .slice a141 la141 ca141, .int .i64 x142, .int .i64 x143, .int .i64 x144, .bool b145], .int .i64 x146] ∧
 VNew h133 (.cells #[.int .u32 0, .bool false, .int .i64 0, .int .i64 0, .slice none 0 0, .slice none 0 0, .slice none 0 0, .slice none 0 0, .int .i64 0, .int .i64 0, .int .i64 0, .bool false] 65) fun b147 h148 =>
 storeL ⟨b147, 0, none⟩ 0 [.int .u32 x134, .bool b135, .int .i64 x136, .int .i64 x137, .slice a138 la138 ca138, .slice a139 la139 ca139, .slice a140 la140 ca140, .slice a141 la141 ca141, .int .i64 x142, .int .i64 x143, .int .i64 x144, .bool b145] h148 fun h149 =>
 cond (x126 != x146) (R (.bool false) h149) (∃ x150 : Int, cellH h149 ⟨b127, 0, none⟩ = some (.int .u32 x150) ∧
 ∃ b151 : Bool, cellH h149 ⟨b127, 1, none⟩ = some (.bool b151) ∧
 ∃ x152 : Int, cellH h149 ⟨b127, 2, none⟩ = some (.int .i64 x152) ∧
 ∃ x153 : Int, cellH h149 ⟨b127, 3, none⟩ = some (.int .i64 x153) ∧
 ∃ (a154 : Option Addr) (la154 ca154 : Nat), cellH h149 ⟨b127, 4, none⟩ = some (.slice a154 la154 ca154) ∧
 ∃ (a155 : Option Addr) (la155 ca155 : Nat), cellH h149 ⟨b127, 5, none⟩ = some (.slice a155 la155 ca155) ∧
 ∃ (a156 : Option Addr) (la156 ca156 : Nat), cellH h149 ⟨b127, 6, none⟩ = some (.slice a156 la156 ca156) ∧
 ∃ (a157 : Option Addr) (la157 ca157 : Nat), cellH h149 ⟨b127, 7, none⟩ = some (.slice a157 la157 ca157) ∧
 ∃ x158 : Int, cellH h149 ⟨b127, 8, none⟩ = some (.int .i64 x158) ∧
 ∃ x159 : Int, cellH h149 ⟨b127, 9, none⟩ = some (.int .i64 x159) ∧
 ∃ x160 : Int, cellH h149 ⟨b127, 10, none⟩ = some (.int .i64 x160) ∧
 ∃ b161 : Bool, cellH h149 ⟨b127, 11, none⟩ = some (.bool b161) ∧
 ∃ x162 : Int, cellH h149 ⟨b147, 0, none⟩ = some (.int .u32 x162) ∧
 ∃ b163 : Bool, cellH h149 ⟨b147, 1, none⟩ = some (.bool b163) ∧
 ∃ x164 : Int, cellH h149 ⟨b147, 2, none⟩ = some (.int .i64 x164) ∧
 ∃ x165 : Int, cellH h149 ⟨b147, 3, none⟩ = some (.int .i64 x165) ∧
 ∃ (a166 : Option Addr) (la166 ca166 : Nat), cellH h149 ⟨b147, 4, none⟩ = some (.slice a166 la166 ca166) ∧
 ∃ (a167 : Option Addr) (la167 ca167 : Nat), cellH h149 ⟨b147, 5, none⟩ = some (.slice a167 la167 ca167) ∧
 ∃ (a168 : Option Addr) (la168 ca168 : Nat), cellH h149 ⟨b147, 6, none⟩ = some (.slice a168 la168 ca168) ∧
 ∃ (a169 : Option Addr) (la169 ca169 : Nat), cellH h149 ⟨b147, 7, none⟩ = some (.slice a169 la169 ca169) ∧
 ∃ x170 : Int, cellH h149 ⟨b147, 8, none⟩ = some (.int .i64 x170) ∧
 ∃ x171 : Int, cellH h149 ⟨b147, 9, none⟩ = some (.int .i64 x171) ∧
 ∃ x172 : Int, cellH h149 ⟨b147, 10, none⟩ = some (.int .i64 x172) ∧
 ∃ b173 : Bool, cellH h149 ⟨b147, 11, none⟩ = some (.bool b173) ∧
 CallsH Tryz.prog 21 #[.agg #[.int .u32 x150, .bool b151, .int .i64 x152, .int .i64 x153, .slice a154 la154 ca154, .slice a155 la155 ca155, .slice a156 la156 ca156, .slice a157 la157 ca157, .int .i64 x158, .int .i64 x159, .int .i64 x160, .bool b161], .agg #[.int .u32 x162, .bool b163, .int .i64 x164, .int .i64 x165, .slice a166 la166 ca166, .slice a167 la167 ca167, .slice a168 la168 ca168, .slice a169 la169 ca169, .int .i64 x170, .int .i64 x171, .int .i64 x172, .bool b173]] h149 fun v174 h175 =>
 ∃ b176 : Bool, v174 = .bool b176 ∧
 cond (!b176) (R (.bool false) h175) (VIdx a1raws la1raws i_102 1 fun a177 =>
 ∃ (a178 : Option Addr) (la178 ca178 : Nat), cellH h175 a177 = some (.slice a178 la178 ca178) ∧
 CallsH Tryz.prog 11 #[.slice a178 la178 ca178] h175 fun v179 h180 =>
 ∃ (a181 : Option Addr) (la181 ca181 : Nat), v179 = .slice a181 la181 ca181 ∧
 CallsH Tryz.prog 17 #[.slice a108 la108 ca108, .slice a181 la181 ca181] h180 fun v182 h183 =>
 ∃ b184 : Bool, v182 = .bool b184 ∧
 cond (!b184)
 (R (.bool false) h183)
 (∃ m103, m103 < n98 ∧ I97 m103 h183 y_101 (IntKind.i64.wrap (i_102 + 1))))))
 (R (.bool true) h99))
theorem vf7 (a0rs : Option Addr) (la0rs ca0rs : Nat) (a1raws : Option Addr) (la1raws ca1raws : Nat) (h : Heap) (R : KV) (hF : F7 a0rs la0rs ca0rs a1raws la1raws ca1raws h R) : CallsH Tryz.prog 7 #[.slice a0rs la0rs ca0rs, .slice a1raws la1raws ca1raws] h R :=
 calls_of_form (A := an7) (fn := Tryz.f7) (c := c7) (args := [.slice a0rs la0rs ca0rs, .slice a1raws la1raws ca1raws]) Tryz.func7 (by kernel_rfl) mixed (by kernel_rfl) (by kernel_rfl : F7 a0rs la0rs ca0rs a1raws la1raws ca1raws h R = vcF Tryz.prog an7 Tryz.f7 c7 [.slice a0rs la0rs ca0rs, .slice a1raws la1raws ca1raws] h R) hF
/-! ### 27 refrain/refrainlaw30.great -/
noncomputable def c27 : Code := match Tryz.f27.body with | some c => c | none => .skip
noncomputable def an27 : Ann := { loops := fun i => match i with | 3 => [(3, .int .i64), (4, .int .i64)] | _ => [], draws := fun i => #[], joins := fun i => none }
def F27 (a0r_0 : Int) (a0r_1 : Int) (a0r_2 : ByteArray) (a0r_3 : ByteArray) (a0r_4 : Option Addr) (la0r_4 ca0r_4 : Nat) (a0r_5 : Option Addr) (la0r_5 ca0r_5 : Nat) (h : Heap) (R : KV) : Prop :=
 VNew h (.cells #[.int .u32 a0r_0, .int .i64 a0r_1, .string a0r_2, .string a0r_3, .slice a0r_4 la0r_4 ca0r_4, .slice a0r_5 la0r_5 ca0r_5] 57) fun b1 h2 =>
 ∃ (a3 : Option Addr) (la3 ca3 : Nat), cellH h2 ⟨b1, 4, none⟩ = some (.slice a3 la3 ca3) ∧
 ∃ (a4 : Option Addr) (la4 ca4 : Nat), cellH h2 ⟨b1, 5, none⟩ = some (.slice a4 la4 ca4) ∧
 ∃ I5 : Nat → Heap → Int → Int → Prop, (∃ n6, I5 n6 h2 (IntKind.i64.wrap ((la3 : Int) + (la4 : Int))) 0) ∧
 ∀ (n6 : Nat) (h7 : Heap) (g8 : Env) (n_9 : Int) (i_10 : Int), I5 n6 h7 n_9 i_10 →
 ∃ (a12 : Option Addr) (la12 ca12 : Nat), cellH h7 ⟨b1, 5, none⟩ = some (.slice a12 la12 ca12) ∧
 cond (decide (i_10 < (la12 : Int))) (cond (decide (n_9 < (262144 : Int)))
 (∃ (a13 : Option Addr) (la13 ca13 : Nat), cellH h7 ⟨b1, 5, none⟩ = some (.slice a13 la13 ca13) ∧
 VIdx a13 la13 i_10 3 fun a14 =>
 ∃ (a15 : Option Addr) (la15 ca15 : Nat), cellH h7 ⟨a14.block, a14.off + 2, none⟩ = some (.slice a15 la15 ca15) ∧
 ∃ m11, m11 < n6 ∧ I5 m11 h7 (IntKind.i64.wrap (n_9 + (la15 : Int))) (IntKind.i64.wrap (i_10 + 1)))
 (R (.bool (decide (n_9 ≥ (262144 : Int)))) h7)) (R (.bool (decide (n_9 ≥ (262144 : Int)))) h7)
theorem vf27 (a0r_0 : Int) (a0r_1 : Int) (a0r_2 : ByteArray) (a0r_3 : ByteArray) (a0r_4 : Option Addr) (la0r_4 ca0r_4 : Nat) (a0r_5 : Option Addr) (la0r_5 ca0r_5 : Nat) (h : Heap) (R : KV) (hF : F27 a0r_0 a0r_1 a0r_2 a0r_3 a0r_4 la0r_4 ca0r_4 a0r_5 la0r_5 ca0r_5 h R) : CallsH Tryz.prog 27 #[.agg #[.int .u32 a0r_0, .int .i64 a0r_1, .string a0r_2, .string a0r_3, .slice a0r_4 la0r_4 ca0r_4, .slice a0r_5 la0r_5 ca0r_5]] h R :=
 calls_of_form (A := an27) (fn := Tryz.f27) (c := c27) (args := [.agg #[.int .u32 a0r_0, .int .i64 a0r_1, .string a0r_2, .string a0r_3, .slice a0r_4 la0r_4 ca0r_4, .slice a0r_5 la0r_5 ca0r_5]]) Tryz.func27 (by kernel_rfl) mixed (by kernel_rfl) (by kernel_rfl : F27 a0r_0 a0r_1 a0r_2 a0r_3 a0r_4 la0r_4 ca0r_4 a0r_5 la0r_5 ca0r_5 h R = vcF Tryz.prog an27 Tryz.f27 c27 [.agg #[.int .u32 a0r_0, .int .i64 a0r_1, .string a0r_2, .string a0r_3, .slice a0r_4 la0r_4 ca0r_4, .slice a0r_5 la0r_5 ca0r_5]] h R) hF
/-! ### 28 refrain/refrainlaw30.twinOf -/
noncomputable def c28 : Code := match Tryz.f28.body with | some c => c | none => .skip
noncomputable def an28 : Ann := { loops := fun i => match i with | 4 => [(4, .int .i64)] | 8 => [(5, .slc), (6, .int .i64)] | 16 => [(8, .int .i64)] | _ => [], draws := fun i => #[], joins := fun i => none }
def F28 (a0r_0 : Int) (a0r_1 : Int) (a0r_2 : ByteArray) (a0r_3 : ByteArray) (a0r_4 : Option Addr) (la0r_4 ca0r_4 : Nat) (a0r_5 : Option Addr) (la0r_5 ca0r_5 : Nat) (h : Heap) (R : KV) : Prop :=
 VNew h (.cells #[.int .u32 a0r_0, .int .i64 a0r_1, .string a0r_2, .string a0r_3, .slice a0r_4 la0r_4 ca0r_4, .slice a0r_5 la0r_5 ca0r_5] 57) fun b1 h2 =>
 VNew h2 (.cells #[.int .u32 0, .int .i64 0, .string (ByteArray.mk #[]), .string (ByteArray.mk #[]), .slice none 0 0, .slice none 0 0, .slice none 0 0, .slice none 0 0, .slice none 0 0] 77) fun b3 h4 =>
 ∃ x5 : Int, cellH h4 ⟨b1, 0, none⟩ = some (.int .u32 x5) ∧
 ∃ x6 : Int, cellH h4 ⟨b1, 1, none⟩ = some (.int .i64 x6) ∧
 ∃ s7 : ByteArray, cellH h4 ⟨b1, 2, none⟩ = some (.string s7) ∧
 ∃ s8 : ByteArray, cellH h4 ⟨b1, 3, none⟩ = some (.string s8) ∧
 ∃ (a9 : Option Addr) (la9 ca9 : Nat), cellH h4 ⟨b1, 4, none⟩ = some (.slice a9 la9 ca9) ∧
 ∃ (a10 : Option Addr) (la10 ca10 : Nat), cellH h4 ⟨b1, 5, none⟩ = some (.slice a10 la10 ca10) ∧
 VNew h4 (.cells #[.int .u32 0, .int .i64 0, .string (ByteArray.mk #[]), .string (ByteArray.mk #[]), .slice none 0 0, .slice none 0 0, .slice none 0 0, .slice none 0 0, .slice none 0 0] 77) fun b11 h12 =>
 storeL ⟨b11, 0, none⟩ 0 [.int .u32 x5, .int .i64 x6, .string s7, .string s8, .slice a9 la9 ca9, .slice a10 la10 ca10, .slice none 0 0, .slice none 0 0, .slice none 0 0] h12 fun h13 =>
 ∃ (a14 : Option Addr) (la14 ca14 : Nat), cellH h13 ⟨b1, 4, none⟩ = some (.slice a14 la14 ca14) ∧
 RunsTo Tryz.prog (Builtin.append_ #[54, 54] 54 #[.slice none 0 0, .slice a14 la14 ca14]) h13 fun v15 h16 =>
 ∃ (a17 : Option Addr) (la17 ca17 : Nat), v15 = .slice a17 la17 ca17 ∧
 VStore h16 ⟨b11, 6, none⟩ (.slice a17 la17 ca17) fun h18 =>
 ∃ I19 : Nat → Heap → Int → Prop, (∃ n20, I19 n20 h18 0) ∧
 ∀ (n20 : Nat) (h21 : Heap) (g22 : Env) (i_23 : Int), I19 n20 h21 i_23 →
 ∃ (a25 : Option Addr) (la25 ca25 : Nat), cellH h21 ⟨b1, 5, none⟩ = some (.slice a25 la25 ca25) ∧
 cond (decide (i_23 < (la25 : Int)))
 (∃ (a26 : Option Addr) (la26 ca26 : Nat), cellH h21 ⟨b1, 5, none⟩ = some (.slice a26 la26 ca26) ∧
 VIdx a26 la26 i_23 3 fun a27 =>
 ∃ (a28 : Option Addr) (la28 ca28 : Nat), cellH h21 ⟨a27.block, a27.off + 2, none⟩ = some (.slice a28 la28 ca28) ∧
 RunsTo Tryz.prog (Builtin.append_ #[112, 112] 112 #[.slice none 0 0, .slice a28 la28 ca28]) h21 fun v29 h30 =>
 ∃ (a31 : Option Addr) (la31 ca31 : Nat), v29 = .slice a31 la31 ca31 ∧
 ∃ I32 : Nat → Heap → Option Addr → Nat → Nat → Int → Prop, (∃ n33, I32 n33 h30 a31 la31 ca31 0) ∧
 ∀ (n33 : Nat) (h34 : Heap) (g35 : Env) (v_36 : Option Addr) (lv_36 cv_36 : Nat) (k_37 : Int), I32 n33 h34 v_36 lv_36 cv_36 k_37 →
 cond (decide (k_37 < (12 : Int)))
 (VNew h34 (.cells #[.int .i64 77, .int .i64 0, .string (ByteArray.mk #[]), .bool false] 127) fun b39 h40 =>
 RunsTo Tryz.prog (Builtin.append_ #[112, 112] 112 #[.slice v_36 lv_36 cv_36, .slice (some ⟨b39, 0, none⟩) 1 1]) h40 fun v41 h42 =>
 ∃ (a43 : Option Addr) (la43 ca43 : Nat), v41 = .slice a43 la43 ca43 ∧
 ∃ m38, m38 < n33 ∧ I32 m38 h42 a43 la43 ca43 (IntKind.i64.wrap (k_37 + 1)))
 (∃ (a44 : Option Addr) (la44 ca44 : Nat), cellH h34 ⟨b1, 5, none⟩ = some (.slice a44 la44 ca44) ∧
 VIdx a44 la44 i_23 3 fun a45 =>
 ∃ s46 : ByteArray, cellH h34 a45 = some (.string s46) ∧
 ∃ x47 : Int, cellH h34 ⟨a45.block, a45.off + 1, none⟩ = some (.int .i64 x47) ∧
 ∃ (a48 : Option Addr) (la48 ca48 : Nat), cellH h34 ⟨a45.block, a45.off + 2, none⟩ = some (.slice a48 la48 ca48) ∧
 VNew h34 (.cells #[.string (ByteArray.mk #[]), .int .i64 0, .slice none 0 0] 125) fun b49 h50 =>
 storeL ⟨b49, 0, none⟩ 0 [.string s46, .int .i64 x47, .slice a48 la48 ca48] h50 fun h51 =>
 ∃ (a52 : Option Addr) (la52 ca52 : Nat), cellH h51 ⟨b1, 5, none⟩ = some (.slice a52 la52 ca52) ∧
 VIdx a52 la52 i_23 3 fun a53 =>
 ∃ (a54 : Option Addr) (la54 ca54 : Nat), cellH h51 ⟨a53.block, a53.off + 2, none⟩ = some (.slice a54 la54 ca54) ∧
 VSlice 4 v_36 cv_36 0 (la54 : Int) (lv_36 : Int) fun a55 la55 ca55 =>
 VStore h51 ⟨b49, 2, none⟩ (.slice a55 la55 ca55) fun h56 =>
 ∃ (a57 : Option Addr) (la57 ca57 : Nat), cellH h56 ⟨b11, 8, none⟩ = some (.slice a57 la57 ca57) ∧
 VNew h56 (.cells #[.slice v_36 lv_36 cv_36] 112) fun b58 h59 =>
 RunsTo Tryz.prog (Builtin.append_ #[45, 45] 45 #[.slice a57 la57 ca57, .slice (some ⟨b58, 0, none⟩) 1 1]) h59 fun v60 h61 =>
 ∃ (a62 : Option Addr) (la62 ca62 : Nat), v60 = .slice a62 la62 ca62 ∧
 VStore h61 ⟨b11, 8, none⟩ (.slice a62 la62 ca62) fun h63 =>
 ∃ (a64 : Option Addr) (la64 ca64 : Nat), cellH h63 ⟨b11, 7, none⟩ = some (.slice a64 la64 ca64) ∧
 ∃ s65 : ByteArray, cellH h63 ⟨b49, 0, none⟩ = some (.string s65) ∧
 ∃ x66 : Int, cellH h63 ⟨b49, 1, none⟩ = some (.int .i64 x66) ∧
 ∃ (a67 : Option Addr) (la67 ca67 : Nat), cellH h63 ⟨b49, 2, none⟩ = some (.slice a67 la67 ca67) ∧
 VNew h63 (.cells #[.string s65, .int .i64 x66, .slice a67 la67 ca67] 125) fun b68 h69 =>
 RunsTo Tryz.prog (Builtin.append_ #[55, 55] 55 #[.slice a64 la64 ca64, .slice (some ⟨b68, 0, none⟩) 1 1]) h69 fun v70 h71 =>
 ∃ (a72 : Option Addr) (la72 ca72 : Nat), v70 = .slice a72 la72 ca72 ∧
 VStore h71 ⟨b11, 7, none⟩ (.slice a72 la72 ca72) fun h73 =>
 ∃ m24, m24 < n20 ∧ I19 m24 h73 (IntKind.i64.wrap (i_23 + 1))))
 (∃ I74 : Nat → Heap → Int → Prop, (∃ n75, I74 n75 h21 0) ∧
 ∀ (n75 : Nat) (h76 : Heap) (g77 : Env) (k_78 : Int), I74 n75 h76 k_78 →
 cond (decide (k_78 < (12 : Int)))
 (∃ (a80 : Option Addr) (la80 ca80 : Nat), cellH h76 ⟨b11, 6, none⟩ = some (.slice a80 la80 ca80) ∧
 VNew h76 (.cells #[.string (ByteArray.mk #[109, 97, 114, 107])] 9) fun b81 h82 =>
 RunsTo Tryz.prog (Builtin.append_ #[54, 54] 54 #[.slice a80 la80 ca80, .slice (some ⟨b81, 0, none⟩) 1 1]) h82 fun v83 h84 =>
 ∃ (a85 : Option Addr) (la85 ca85 : Nat), v83 = .slice a85 la85 ca85 ∧
 VStore h84 ⟨b11, 6, none⟩ (.slice a85 la85 ca85) fun h86 =>
 ∃ (a87 : Option Addr) (la87 ca87 : Nat), cellH h86 ⟨b11, 7, none⟩ = some (.slice a87 la87 ca87) ∧
 VNew h86 (.cells #[.string (ByteArray.mk #[109, 97, 114, 107]), .int .i64 0, .slice none 0 0] 125) fun b88 h89 =>
 RunsTo Tryz.prog (Builtin.append_ #[55, 55] 55 #[.slice a87 la87 ca87, .slice (some ⟨b88, 0, none⟩) 1 1]) h89 fun v90 h91 =>
 ∃ (a92 : Option Addr) (la92 ca92 : Nat), v90 = .slice a92 la92 ca92 ∧
 VStore h91 ⟨b11, 7, none⟩ (.slice a92 la92 ca92) fun h93 =>
 ∃ m79, m79 < n75 ∧ I74 m79 h93 (IntKind.i64.wrap (k_78 + 1)))
 (∃ (a94 : Option Addr) (la94 ca94 : Nat), cellH h76 ⟨b11, 6, none⟩ = some (.slice a94 la94 ca94) ∧
 ∃ (a95 : Option Addr) (la95 ca95 : Nat), cellH h76 ⟨b1, 4, none⟩ = some (.slice a95 la95 ca95) ∧
 ∃ (a96 : Option Addr) (la96 ca96 : Nat), cellH h76 ⟨b11, 6, none⟩ = some (.slice a96 la96 ca96) ∧
 VSlice 1 a94 ca94 0 (la95 : Int) (la96 : Int) fun a97 la97 ca97 =>
 VStore h76 ⟨b11, 4, none⟩ (.slice a97 la97 ca97) fun h98 =>
 ∃ (a99 : Option Addr) (la99 ca99 : Nat), cellH h98 ⟨b11, 7, none⟩ = some (.slice a99 la99 ca99) ∧
 ∃ (a100 : Option Addr) (la100 ca100 : Nat), cellH h98 ⟨b1, 5, none⟩ = some (.slice a100 la100 ca100) ∧
 ∃ (a101 : Option Addr) (la101 ca101 : Nat), cellH h98 ⟨b11, 7, none⟩ = some (.slice a101 la101 ca101) ∧
 VSlice 3 a99 ca99 0 (la100 : Int) (la101 : Int) fun a102 la102 ca102 =>
 VStore h98 ⟨b11, 5, none⟩ (.slice a102 la102 ca102) fun h103 =>
 ∃ x104 : Int, cellH h103 ⟨b11, 0, none⟩ = some (.int .u32 x104) ∧
 ∃ x105 : Int, cellH h103 ⟨b11, 1, none⟩ = some (.int .i64 x105) ∧
 ∃ s106 : ByteArray, cellH h103 ⟨b11, 2, none⟩ = some (.string s106) ∧
 ∃ s107 : ByteArray, cellH h103 ⟨b11, 3, none⟩ = some (.string s107) ∧
 ∃ (a108 : Option Addr) (la108 ca108 : Nat), cellH h103 ⟨b11, 4, none⟩ = some (.slice a108 la108 ca108) ∧
 ∃ (a109 : Option Addr) (la109 ca109 : Nat), cellH h103 ⟨b11, 5, none⟩ = some (.slice a109 la109 ca109) ∧
 ∃ (a110 : Option Addr) (la110 ca110 : Nat), cellH h103 ⟨b11, 6, none⟩ = some (.slice a110 la110 ca110) ∧
 ∃ (a111 : Option Addr) (la111 ca111 : Nat), cellH h103 ⟨b11, 7, none⟩ = some (.slice a111 la111 ca111) ∧
 ∃ (a112 : Option Addr) (la112 ca112 : Nat), cellH h103 ⟨b11, 8, none⟩ = some (.slice a112 la112 ca112) ∧
 storeL ⟨b3, 0, none⟩ 0 [.int .u32 x104, .int .i64 x105, .string s106, .string s107, .slice a108 la108 ca108, .slice a109 la109 ca109, .slice a110 la110 ca110, .slice a111 la111 ca111, .slice a112 la112 ca112] h103 fun h113 =>
 ∃ x114 : Int, cellH h113 ⟨b3, 0, none⟩ = some (.int .u32 x114) ∧
 ∃ x115 : Int, cellH h113 ⟨b3, 1, none⟩ = some (.int .i64 x115) ∧
 ∃ s116 : ByteArray, cellH h113 ⟨b3, 2, none⟩ = some (.string s116) ∧
 ∃ s117 : ByteArray, cellH h113 ⟨b3, 3, none⟩ = some (.string s117) ∧
 ∃ (a118 : Option Addr) (la118 ca118 : Nat), cellH h113 ⟨b3, 4, none⟩ = some (.slice a118 la118 ca118) ∧
 ∃ (a119 : Option Addr) (la119 ca119 : Nat), cellH h113 ⟨b3, 5, none⟩ = some (.slice a119 la119 ca119) ∧
 ∃ (a120 : Option Addr) (la120 ca120 : Nat), cellH h113 ⟨b3, 6, none⟩ = some (.slice a120 la120 ca120) ∧
 ∃ (a121 : Option Addr) (la121 ca121 : Nat), cellH h113 ⟨b3, 7, none⟩ = some (.slice a121 la121 ca121) ∧
 ∃ (a122 : Option Addr) (la122 ca122 : Nat), cellH h113 ⟨b3, 8, none⟩ = some (.slice a122 la122 ca122) ∧
 R (.agg #[.int .u32 x114, .int .i64 x115, .string s116, .string s117, .slice a118 la118 ca118, .slice a119 la119 ca119, .slice a120 la120 ca120, .slice a121 la121 ca121, .slice a122 la122 ca122]) h113))
theorem vf28 (a0r_0 : Int) (a0r_1 : Int) (a0r_2 : ByteArray) (a0r_3 : ByteArray) (a0r_4 : Option Addr) (la0r_4 ca0r_4 : Nat) (a0r_5 : Option Addr) (la0r_5 ca0r_5 : Nat) (h : Heap) (R : KV) (hF : F28 a0r_0 a0r_1 a0r_2 a0r_3 a0r_4 la0r_4 ca0r_4 a0r_5 la0r_5 ca0r_5 h R) : CallsH Tryz.prog 28 #[.agg #[.int .u32 a0r_0, .int .i64 a0r_1, .string a0r_2, .string a0r_3, .slice a0r_4 la0r_4 ca0r_4, .slice a0r_5 la0r_5 ca0r_5]] h R :=
 calls_of_form (A := an28) (fn := Tryz.f28) (c := c28) (args := [.agg #[.int .u32 a0r_0, .int .i64 a0r_1, .string a0r_2, .string a0r_3, .slice a0r_4 la0r_4 ca0r_4, .slice a0r_5 la0r_5 ca0r_5]]) Tryz.func28 (by kernel_rfl) mixed (by kernel_rfl) (by kernel_rfl : F28 a0r_0 a0r_1 a0r_2 a0r_3 a0r_4 la0r_4 ca0r_4 a0r_5 la0r_5 ca0r_5 h R = vcF Tryz.prog an28 Tryz.f28 c28 [.agg #[.int .u32 a0r_0, .int .i64 a0r_1, .string a0r_2, .string a0r_3, .slice a0r_4 la0r_4 ca0r_4, .slice a0r_5 la0r_5 ca0r_5]] h R) hF
/-! ### 29 refrain/refrainref30.Ask -/
noncomputable def c29 : Code := match Tryz.f29.body with | some c => c | none => .skip
noncomputable def an29 : Ann := { loops := fun i => match i with | 15 => [(2, .slc), (3, .int .i64), (8, .slc), (9, .int .i64)] | _ => [], draws := fun i => #[], joins := fun i => match i with | 8 => some [(8, .slc)] | 10 => some [(8, .slc)] | 12 => some [(8, .slc)] | 21 => some [(2, .slc), (3, .int .i64), (8, .slc)] | _ => none }
def G29 (b1 : Nat) (b6 b7 b8 b9 : Bool) (h5 : Heap) (R : KV) : Prop :=
 ∃ x16 : Int, cellH h5 ⟨b1, 1, none⟩ = some (.int .i64 x16) ∧
 VNew h5 (.cells #[.int .u8 (IntKind.u8.wrap x16)] 5) fun b17 h18 =>
 ∃ x19 : Int, cellH h18 ⟨b1, 0, none⟩ = some (.int .u32 x19) ∧
 CallsH Tryz.prog 78 #[.int .i64 (IntKind.i64.wrap x19)] h18 fun v20 h21 =>
 ∃ (a22 : Option Addr) (la22 ca22 : Nat), v20 = .slice a22 la22 ca22 ∧
 RunsTo Tryz.prog (Builtin.append_ #[36, 36] 36 #[.slice (some ⟨b17, 0, none⟩) 1 1, .slice a22 la22 ca22]) h21 fun v23 h24 =>
 ∃ (a25 : Option Addr) (la25 ca25 : Nat), v23 = .slice a25 la25 ca25 ∧
 ∃ J26 : Heap → Option Addr → Nat → Nat → Prop, (cond b6
 (∃ s27 : ByteArray, cellH h24 ⟨b1, 2, none⟩ = some (.string s27) ∧
 CallsH Tryz.prog 79 #[.slice a25 la25 ca25, .string s27] h24 fun v28 h29 =>
 ∃ (a30 : Option Addr) (la30 ca30 : Nat), v28 = .slice a30 la30 ca30 ∧
 J26 h29 a30 la30 ca30)
 (J26 h24 a25 la25 ca25)) ∧
 ∀ (h31 : Heap) (g32 : Env) (b_33 : Option Addr) (lb_33 cb_33 : Nat), J26 h31 b_33 lb_33 cb_33 →
 ∃ J34 : Heap → Option Addr → Nat → Nat → Prop, (cond b7
 (∃ s35 : ByteArray, cellH h31 ⟨b1, 3, none⟩ = some (.string s35) ∧
 CallsH Tryz.prog 79 #[.slice b_33 lb_33 cb_33, .string s35] h31 fun v36 h37 =>
 ∃ (a38 : Option Addr) (la38 ca38 : Nat), v36 = .slice a38 la38 ca38 ∧
 J34 h37 a38 la38 ca38)
 (J34 h31 b_33 lb_33 cb_33)) ∧
 ∀ (h39 : Heap) (g40 : Env) (b_41 : Option Addr) (lb_41 cb_41 : Nat), J34 h39 b_41 lb_41 cb_41 →
 ∃ J42 : Heap → Option Addr → Nat → Nat → Prop, (cond b8
 (∃ (a43 : Option Addr) (la43 ca43 : Nat), cellH h39 ⟨b1, 4, none⟩ = some (.slice a43 la43 ca43) ∧
 CallsH Tryz.prog 80 #[.slice b_41 lb_41 cb_41, .slice a43 la43 ca43] h39 fun v44 h45 =>
 ∃ (a46 : Option Addr) (la46 ca46 : Nat), v44 = .slice a46 la46 ca46 ∧
 J42 h45 a46 la46 ca46)
 (J42 h39 b_41 lb_41 cb_41)) ∧
 ∀ (h47 : Heap) (g48 : Env) (b_49 : Option Addr) (lb_49 cb_49 : Nat), J42 h47 b_49 lb_49 cb_49 →
 ∃ J50 : Heap → Option Addr → Nat → Nat → Int → Option Addr → Nat → Nat → Prop, (cond b9
 (∃ (a51 : Option Addr) (la51 ca51 : Nat), cellH h47 ⟨b1, 5, none⟩ = some (.slice a51 la51 ca51) ∧
 CallsH Tryz.prog 82 #[.int .i64 (la51 : Int)] h47 fun v52 h53 =>
 ∃ (a54 : Option Addr) (la54 ca54 : Nat), v52 = .slice a54 la54 ca54 ∧
 CallsH Tryz.prog 81 #[.slice b_49 lb_49 cb_49, .slice a54 la54 ca54] h53 fun v55 h56 =>
 ∃ (a57 : Option Addr) (la57 ca57 : Nat), v55 = .slice a57 la57 ca57 ∧
 ∃ I58 : Nat → Heap → Option Addr → Nat → Nat → Int → Option Addr → Nat → Nat → Int → Prop, (∃ n59, I58 n59 h56 none 0 0 0 a57 la57 ca57 0) ∧
 ∀ (n59 : Nat) (h60 : Heap) (g61 : Env) (y_62 : Option Addr) (ly_62 cy_62 : Nat) (y_63 : Int) (b_64 : Option Addr) (lb_64 cb_64 : Nat) (i_65 : Int), I58 n59 h60 y_62 ly_62 cy_62 y_63 b_64 lb_64 cb_64 i_65 →
 ∃ (a67 : Option Addr) (la67 ca67 : Nat), cellH h60 ⟨b1, 5, none⟩ = some (.slice a67 la67 ca67) ∧
 cond (decide (i_65 < (la67 : Int)))
 (∃ (a68 : Option Addr) (la68 ca68 : Nat), cellH h60 ⟨b1, 5, none⟩ = some (.slice a68 la68 ca68) ∧
 VIdx a68 la68 i_65 3 fun a69 =>
 ∃ s70 : ByteArray, cellH h60 a69 = some (.string s70) ∧
 ∃ x71 : Int, cellH h60 ⟨a69.block, a69.off + 1, none⟩ = some (.int .i64 x71) ∧
 ∃ (a72 : Option Addr) (la72 ca72 : Nat), cellH h60 ⟨a69.block, a69.off + 2, none⟩ = some (.slice a72 la72 ca72) ∧
 CallsH Tryz.prog 83 #[.agg #[.string s70, .int .i64 x71, .slice a72 la72 ca72]] h60 fun v73 h74 =>
 ∃ (a75 : Option Addr) (la75 ca75 : Nat), ∃ x76 : Int, v73 = .tuple #[.slice a75 la75 ca75, .int .i64 x76] ∧
 cond (x76 != (0 : Int))
 (R (.tuple #[.slice none 0 0, .int .i64 x76]) h74)
 (CallsH Tryz.prog 81 #[.slice b_64 lb_64 cb_64, .slice a75 la75 ca75] h74 fun v77 h78 =>
 ∃ (a79 : Option Addr) (la79 ca79 : Nat), v77 = .slice a79 la79 ca79 ∧
 ∃ m66, m66 < n59 ∧ I58 m66 h78 y_62 ly_62 cy_62 y_63 a79 la79 ca79 (IntKind.i64.wrap (i_65 + 1))))
 (J50 h60 y_62 ly_62 cy_62 y_63 b_64 lb_64 cb_64))
 (J50 h47 none 0 0 0 b_49 lb_49 cb_49)) ∧
 ∀ (h80 : Heap) (g81 : Env) (y_82 : Option Addr) (ly_82 cy_82 : Nat) (y_83 : Int) (b_84 : Option Addr) (lb_84 cb_84 : Nat), J50 h80 y_82 ly_82 cy_82 y_83 b_84 lb_84 cb_84 →
 cond (decide ((lb_84 : Int) > (65528 : Int)))
 (R (.tuple #[.slice none 0 0, .int .i64 2]) h80)
 (R (.tuple #[.slice b_84 lb_84 cb_84, .int .i64 0]) h80)
def F29 (a0r_0 : Int) (a0r_1 : Int) (a0r_2 : ByteArray) (a0r_3 : ByteArray) (a0r_4 : Option Addr) (la0r_4 ca0r_4 : Nat) (a0r_5 : Option Addr) (la0r_5 ca0r_5 : Nat) (h : Heap) (R : KV) : Prop :=
 VNew h (.cells #[.int .u32 a0r_0, .int .i64 a0r_1, .string a0r_2, .string a0r_3, .slice a0r_4 la0r_4 ca0r_4, .slice a0r_5 la0r_5 ca0r_5] 57) fun b1 h2 =>
 ∃ x3 : Int, cellH h2 ⟨b1, 1, none⟩ = some (.int .i64 x3) ∧
 CallsH Tryz.prog 77 #[.int .i64 x3] h2 fun v4 h5 =>
 ∃ b6 : Bool, ∃ b7 : Bool, ∃ b8 : Bool, ∃ b9 : Bool, v4 = .tuple #[.bool b6, .bool b7, .bool b8, .bool b9] ∧
 ∃ x10 : Int, cellH h5 ⟨b1, 1, none⟩ = some (.int .i64 x10) ∧
 cond (decide (x10 < (1 : Int))) (R (.tuple #[.slice none 0 0, .int .i64 301]) h5) (∃ x11 : Int, cellH h5 ⟨b1, 1, none⟩ = some (.int .i64 x11) ∧
 cond (decide (x11 > (12 : Int))) (R (.tuple #[.slice none 0 0, .int .i64 301]) h5) (cond (!b6) (∃ s12 : ByteArray, cellH h5 ⟨b1, 2, none⟩ = some (.string s12) ∧
 cond (!strEq s12 (ByteArray.mk #[])) (R (.tuple #[.slice none 0 0, .int .i64 301]) h5) (cond (!b7) (∃ s13 : ByteArray, cellH h5 ⟨b1, 3, none⟩ = some (.string s13) ∧
 cond (!strEq s13 (ByteArray.mk #[])) (R (.tuple #[.slice none 0 0, .int .i64 301]) h5) (cond (!b8) (∃ (a14 : Option Addr) (la14 ca14 : Nat), cellH h5 ⟨b1, 4, none⟩ = some (.slice a14 la14 ca14) ∧
 cond (decide ((la14 : Int) > (0 : Int))) (R (.tuple #[.slice none 0 0, .int .i64 301]) h5) (cond (!b9) (∃ (a15 : Option Addr) (la15 ca15 : Nat), cellH h5 ⟨b1, 5, none⟩ = some (.slice a15 la15 ca15) ∧
 cond (decide ((la15 : Int) > (0 : Int)))
 (R (.tuple #[.slice none 0 0, .int .i64 301]) h5)
 (G29 b1 b6 b7 b8 b9 h5 R)) (G29 b1 b6 b7 b8 b9 h5 R))) (cond (!b9) (∃ (a154 : Option Addr) (la154 ca154 : Nat), cellH h5 ⟨b1, 5, none⟩ = some (.slice a154 la154 ca154) ∧
 cond (decide ((la154 : Int) > (0 : Int)))
 (R (.tuple #[.slice none 0 0, .int .i64 301]) h5)
 (G29 b1 b6 b7 b8 b9 h5 R)) (G29 b1 b6 b7 b8 b9 h5 R)))) (cond (!b8) (∃ (a293 : Option Addr) (la293 ca293 : Nat), cellH h5 ⟨b1, 4, none⟩ = some (.slice a293 la293 ca293) ∧
 cond (decide ((la293 : Int) > (0 : Int))) (R (.tuple #[.slice none 0 0, .int .i64 301]) h5) (cond (!b9) (∃ (a294 : Option Addr) (la294 ca294 : Nat), cellH h5 ⟨b1, 5, none⟩ = some (.slice a294 la294 ca294) ∧
 cond (decide ((la294 : Int) > (0 : Int)))
 (R (.tuple #[.slice none 0 0, .int .i64 301]) h5)
 (G29 b1 b6 b7 b8 b9 h5 R)) (G29 b1 b6 b7 b8 b9 h5 R))) (cond (!b9) (∃ (a433 : Option Addr) (la433 ca433 : Nat), cellH h5 ⟨b1, 5, none⟩ = some (.slice a433 la433 ca433) ∧
 cond (decide ((la433 : Int) > (0 : Int)))
 (R (.tuple #[.slice none 0 0, .int .i64 301]) h5)
 (G29 b1 b6 b7 b8 b9 h5 R)) (G29 b1 b6 b7 b8 b9 h5 R))))) (cond (!b7) (∃ s572 : ByteArray, cellH h5 ⟨b1, 3, none⟩ = some (.string s572) ∧
 cond (!strEq s572 (ByteArray.mk #[])) (R (.tuple #[.slice none 0 0, .int .i64 301]) h5) (cond (!b8) (∃ (a573 : Option Addr) (la573 ca573 : Nat), cellH h5 ⟨b1, 4, none⟩ = some (.slice a573 la573 ca573) ∧
 cond (decide ((la573 : Int) > (0 : Int))) (R (.tuple #[.slice none 0 0, .int .i64 301]) h5) (cond (!b9) (∃ (a574 : Option Addr) (la574 ca574 : Nat), cellH h5 ⟨b1, 5, none⟩ = some (.slice a574 la574 ca574) ∧
 cond (decide ((la574 : Int) > (0 : Int)))
 (R (.tuple #[.slice none 0 0, .int .i64 301]) h5)
 (G29 b1 b6 b7 b8 b9 h5 R)) (G29 b1 b6 b7 b8 b9 h5 R))) (cond (!b9) (∃ (a713 : Option Addr) (la713 ca713 : Nat), cellH h5 ⟨b1, 5, none⟩ = some (.slice a713 la713 ca713) ∧
 cond (decide ((la713 : Int) > (0 : Int)))
 (R (.tuple #[.slice none 0 0, .int .i64 301]) h5)
 (G29 b1 b6 b7 b8 b9 h5 R)) (G29 b1 b6 b7 b8 b9 h5 R)))) (cond (!b8) (∃ (a852 : Option Addr) (la852 ca852 : Nat), cellH h5 ⟨b1, 4, none⟩ = some (.slice a852 la852 ca852) ∧
 cond (decide ((la852 : Int) > (0 : Int))) (R (.tuple #[.slice none 0 0, .int .i64 301]) h5) (cond (!b9) (∃ (a853 : Option Addr) (la853 ca853 : Nat), cellH h5 ⟨b1, 5, none⟩ = some (.slice a853 la853 ca853) ∧
 cond (decide ((la853 : Int) > (0 : Int)))
 (R (.tuple #[.slice none 0 0, .int .i64 301]) h5)
 (G29 b1 b6 b7 b8 b9 h5 R)) (G29 b1 b6 b7 b8 b9 h5 R))) (cond (!b9) (∃ (a992 : Option Addr) (la992 ca992 : Nat), cellH h5 ⟨b1, 5, none⟩ = some (.slice a992 la992 ca992) ∧
 cond (decide ((la992 : Int) > (0 : Int)))
 (R (.tuple #[.slice none 0 0, .int .i64 301]) h5)
 (G29 b1 b6 b7 b8 b9 h5 R)) (G29 b1 b6 b7 b8 b9 h5 R))))))
theorem vf29 (a0r_0 : Int) (a0r_1 : Int) (a0r_2 : ByteArray) (a0r_3 : ByteArray) (a0r_4 : Option Addr) (la0r_4 ca0r_4 : Nat) (a0r_5 : Option Addr) (la0r_5 ca0r_5 : Nat) (h : Heap) (R : KV) (hF : F29 a0r_0 a0r_1 a0r_2 a0r_3 a0r_4 la0r_4 ca0r_4 a0r_5 la0r_5 ca0r_5 h R) : CallsH Tryz.prog 29 #[.agg #[.int .u32 a0r_0, .int .i64 a0r_1, .string a0r_2, .string a0r_3, .slice a0r_4 la0r_4 ca0r_4, .slice a0r_5 la0r_5 ca0r_5]] h R :=
 calls_of_form (A := an29) (fn := Tryz.f29) (c := c29) (args := [.agg #[.int .u32 a0r_0, .int .i64 a0r_1, .string a0r_2, .string a0r_3, .slice a0r_4 la0r_4 ca0r_4, .slice a0r_5 la0r_5 ca0r_5]]) Tryz.func29 (by kernel_rfl) mixed (by kernel_rfl) (by kernel_rfl : F29 a0r_0 a0r_1 a0r_2 a0r_3 a0r_4 la0r_4 ca0r_4 a0r_5 la0r_5 ca0r_5 h R = vcF Tryz.prog an29 Tryz.f29 c29 [.agg #[.int .u32 a0r_0, .int .i64 a0r_1, .string a0r_2, .string a0r_3, .slice a0r_4 la0r_4 ca0r_4, .slice a0r_5 la0r_5 ca0r_5]] h R) hF
/-! ### 30 (refrain/refrainlaw30.twin).kept -/
noncomputable def c30 : Code := match Tryz.f30.body with | some c => c | none => .skip
noncomputable def an30 : Ann := { loops := fun i => match i with | 5 => [(4, .bool), (6, .int .i64)] | 10 => [(4, .bool), (7, .int .i64)] | 16 => [(4, .bool), (9, .int .i64)] | _ => [], draws := fun i => match i with | 2 => #[0, 1, 0, 4, 12, 31, 0, 64, 255, 511, 1023, 2047, 4095, 2047, 16383, 2047, 34815, 131071, 262143, 524287] | 13 => #[0, 1, 0, 7, 15, 0, 63, 0, 128, 0, 896, 1920, 3968, 8191, 16383] | _ => #[], joins := fun i => none }
def F30 (a0t_0 : Int) (a0t_1 : Int) (a0t_2 : ByteArray) (a0t_3 : ByteArray) (a0t_4 : Option Addr) (la0t_4 ca0t_4 : Nat) (a0t_5 : Option Addr) (la0t_5 ca0t_5 : Nat) (a0t_6 : Option Addr) (la0t_6 ca0t_6 : Nat) (a0t_7 : Option Addr) (la0t_7 ca0t_7 : Nat) (a0t_8 : Option Addr) (la0t_8 ca0t_8 : Nat) (a1r_0 : Int) (a1r_1 : Int) (a1r_2 : ByteArray) (a1r_3 : ByteArray) (a1r_4 : Option Addr) (la1r_4 ca1r_4 : Nat) (a1r_5 : Option Addr) (la1r_5 ca1r_5 : Nat) (h : Heap) (R : KV) : Prop :=
 VNew h (.cells #[.int .u32 a0t_0, .int .i64 a0t_1, .string a0t_2, .string a0t_3, .slice a0t_4 la0t_4 ca0t_4, .slice a0t_5 la0t_5 ca0t_5, .slice a0t_6 la0t_6 ca0t_6, .slice a0t_7 la0t_7 ca0t_7, .slice a0t_8 la0t_8 ca0t_8] 77) fun b1 h2 =>
 VNew h2 (.cells #[.int .u32 a1r_0, .int .i64 a1r_1, .string a1r_2, .string a1r_3, .slice a1r_4 la1r_4 ca1r_4, .slice a1r_5 la1r_5 ca1r_5] 57) fun b3 h4 =>
 ∃ (a5 : Option Addr) (la5 ca5 : Nat), cellH h4 ⟨b3, 5, none⟩ = some (.slice a5 la5 ca5) ∧
 ∃ (a6 : Option Addr) (la6 ca6 : Nat), cellH h4 ⟨b1, 6, none⟩ = some (.slice a6 la6 ca6) ∧
 ∃ (a7 : Option Addr) (la7 ca7 : Nat), cellH h4 ⟨b3, 4, none⟩ = some (.slice a7 la7 ca7) ∧
 VSlice 1 a6 ca6 0 (la7 : Int) (ca6 : Int) fun a8 la8 ca8 =>
 ∃ (a9 : Option Addr) (la9 ca9 : Nat), cellH h4 ⟨b3, 4, none⟩ = some (.slice a9 la9 ca9) ∧
 CallsH Tryz.prog 57 #[.slice a8 la8 ca8, .slice a9 la9 ca9] h4 fun v10 h11 =>
 ∃ b12 : Bool, v10 = .bool b12 ∧
 cond (!b12) (R (.bool false) h11) (∃ (a13 : Option Addr) (la13 ca13 : Nat), cellH h11 ⟨b1, 7, none⟩ = some (.slice a13 la13 ca13) ∧
 VSlice 3 a13 ca13 0 (la5 : Int) (ca13 : Int) fun a14 la14 ca14 =>
 ∃ (a15 : Option Addr) (la15 ca15 : Nat), cellH h11 ⟨b3, 5, none⟩ = some (.slice a15 la15 ca15) ∧
 CallsH Tryz.prog 58 #[.slice a14 la14 ca14, .slice a15 la15 ca15] h11 fun v16 h17 =>
 ∃ b18 : Bool, v16 = .bool b18 ∧
 cond (!b18)
 (R (.bool false) h17)
 (∃ I19 : Nat → Heap → Bool → Int → Prop, (∃ n20, I19 n20 h17 false 0) ∧
 ∀ (n20 : Nat) (h21 : Heap) (g22 : Env) (y_23 : Bool) (i_24 : Int), I19 n20 h21 y_23 i_24 →
 cond (decide (i_24 < (12 : Int)))
 (∃ (a26 : Option Addr) (la26 ca26 : Nat), cellH h21 ⟨b1, 6, none⟩ = some (.slice a26 la26 ca26) ∧
 ∃ (a27 : Option Addr) (la27 ca27 : Nat), cellH h21 ⟨b3, 4, none⟩ = some (.slice a27 la27 ca27) ∧
 VIdx a26 la26 (IntKind.i64.wrap ((la27 : Int) + i_24)) 1 fun a28 =>
 ∃ s29 : ByteArray, cellH h21 a28 = some (.string s29) ∧
 cond (!strEq s29 (ByteArray.mk #[109, 97, 114, 107])) (R (.bool false) h21) (∃ (a30 : Option Addr) (la30 ca30 : Nat), cellH h21 ⟨b1, 7, none⟩ = some (.slice a30 la30 ca30) ∧
 VIdx a30 la30 (IntKind.i64.wrap ((la5 : Int) + i_24)) 3 fun a31 =>
 ∃ s32 : ByteArray, cellH h21 a31 = some (.string s32) ∧
 cond (!strEq s32 (ByteArray.mk #[109, 97, 114, 107]))
 (R (.bool false) h21)
 (∃ m25, m25 < n20 ∧ I19 m25 h21 y_23 (IntKind.i64.wrap (i_24 + 1)))))
 (∃ I33 : Nat → Heap → Bool → Int → Prop, (∃ n34, I33 n34 h21 y_23 0) ∧
 ∀ (n34 : Nat) (h35 : Heap) (g36 : Env) (y_37 : Bool) (i_38 : Int), I33 n34 h35 y_37 i_38 →
 cond (decide (i_38 < (la5 : Int)))
 (∃ (a40 : Option Addr) (la40 ca40 : Nat), cellH h35 ⟨b3, 5, none⟩ = some (.slice a40 la40 ca40) ∧
 VIdx a40 la40 i_38 3 fun a41 =>
 ∃ (a42 : Option Addr) (la42 ca42 : Nat), cellH h35 ⟨a41.block, a41.off + 2, none⟩ = some (.slice a42 la42 ca42) ∧
 ∃ (a43 : Option Addr) (la43 ca43 : Nat), cellH h35 ⟨b1, 8, none⟩ = some (.slice a43 la43 ca43) ∧
 VIdx a43 la43 i_38 1 fun a44 =>
 ∃ (a45 : Option Addr) (la45 ca45 : Nat), cellH h35 a44 = some (.slice a45 la45 ca45) ∧
 VSlice 4 a45 ca45 0 (la42 : Int) (ca45 : Int) fun a46 la46 ca46 =>
 ∃ (a47 : Option Addr) (la47 ca47 : Nat), cellH h35 ⟨b3, 5, none⟩ = some (.slice a47 la47 ca47) ∧
 VIdx a47 la47 i_38 3 fun a48 =>
 ∃ (a49 : Option Addr) (la49 ca49 : Nat), cellH h35 ⟨a48.block, a48.off + 2, none⟩ = some (.slice a49 la49 ca49) ∧
 CallsH Tryz.prog 59 #[.slice a46 la46 ca46, .slice a49 la49 ca49] h35 fun v50 h51 =>
 ∃ b52 : Bool, v50 = .bool b52 ∧
 cond (!b52)
 (R (.bool false) h51)
 (∃ I53 : Nat → Heap → Bool → Int → Prop, (∃ n54, I53 n54 h51 y_37 0) ∧
 ∀ (n54 : Nat) (h55 : Heap) (g56 : Env) (y_57 : Bool) (j_58 : Int), I53 n54 h55 y_57 j_58 →
 cond (decide (j_58 < (12 : Int)))
 (∃ (a60 : Option Addr) (la60 ca60 : Nat), cellH h55 ⟨b1, 8, none⟩ = some (.slice a60 la60 ca60) ∧
 VIdx a60 la60 i_38 1 fun a61 =>
 ∃ (a62 : Option Addr) (la62 ca62 : Nat), cellH h55 a61 = some (.slice a62 la62 ca62) ∧
 VIdx a62 la62 (IntKind.i64.wrap ((la42 : Int) + j_58)) 4 fun a63 =>
 ∃ x64 : Int, cellH h55 a63 = some (.int .i64 x64) ∧
 cond (x64 != (77 : Int))
 (R (.bool false) h55)
 (∃ m59, m59 < n54 ∧ I53 m59 h55 y_57 (IntKind.i64.wrap (j_58 + 1))))
 (∃ m39, m39 < n34 ∧ I33 m39 h55 y_57 (IntKind.i64.wrap (i_38 + 1)))))
 (R (.bool true) h35))))
theorem vf30 (a0t_0 : Int) (a0t_1 : Int) (a0t_2 : ByteArray) (a0t_3 : ByteArray) (a0t_4 : Option Addr) (la0t_4 ca0t_4 : Nat) (a0t_5 : Option Addr) (la0t_5 ca0t_5 : Nat) (a0t_6 : Option Addr) (la0t_6 ca0t_6 : Nat) (a0t_7 : Option Addr) (la0t_7 ca0t_7 : Nat) (a0t_8 : Option Addr) (la0t_8 ca0t_8 : Nat) (a1r_0 : Int) (a1r_1 : Int) (a1r_2 : ByteArray) (a1r_3 : ByteArray) (a1r_4 : Option Addr) (la1r_4 ca1r_4 : Nat) (a1r_5 : Option Addr) (la1r_5 ca1r_5 : Nat) (h : Heap) (R : KV) (hF : F30 a0t_0 a0t_1 a0t_2 a0t_3 a0t_4 la0t_4 ca0t_4 a0t_5 la0t_5 ca0t_5 a0t_6 la0t_6 ca0t_6 a0t_7 la0t_7 ca0t_7 a0t_8 la0t_8 ca0t_8 a1r_0 a1r_1 a1r_2 a1r_3 a1r_4 la1r_4 ca1r_4 a1r_5 la1r_5 ca1r_5 h R) : CallsH Tryz.prog 30 #[.agg #[.int .u32 a0t_0, .int .i64 a0t_1, .string a0t_2, .string a0t_3, .slice a0t_4 la0t_4 ca0t_4, .slice a0t_5 la0t_5 ca0t_5, .slice a0t_6 la0t_6 ca0t_6, .slice a0t_7 la0t_7 ca0t_7, .slice a0t_8 la0t_8 ca0t_8], .agg #[.int .u32 a1r_0, .int .i64 a1r_1, .string a1r_2, .string a1r_3, .slice a1r_4 la1r_4 ca1r_4, .slice a1r_5 la1r_5 ca1r_5]] h R :=
 calls_of_form (A := an30) (fn := Tryz.f30) (c := c30) (args := [.agg #[.int .u32 a0t_0, .int .i64 a0t_1, .string a0t_2, .string a0t_3, .slice a0t_4 la0t_4 ca0t_4, .slice a0t_5 la0t_5 ca0t_5, .slice a0t_6 la0t_6 ca0t_6, .slice a0t_7 la0t_7 ca0t_7, .slice a0t_8 la0t_8 ca0t_8], .agg #[.int .u32 a1r_0, .int .i64 a1r_1, .string a1r_2, .string a1r_3, .slice a1r_4 la1r_4 ca1r_4, .slice a1r_5 la1r_5 ca1r_5]]) Tryz.func30 (by kernel_rfl) mixed (by kernel_rfl) (by kernel_rfl : F30 a0t_0 a0t_1 a0t_2 a0t_3 a0t_4 la0t_4 ca0t_4 a0t_5 la0t_5 ca0t_5 a0t_6 la0t_6 ca0t_6 a0t_7 la0t_7 ca0t_7 a0t_8 la0t_8 ca0t_8 a1r_0 a1r_1 a1r_2 a1r_3 a1r_4 la1r_4 ca1r_4 a1r_5 la1r_5 ca1r_5 h R = vcF Tryz.prog an30 Tryz.f30 c30 [.agg #[.int .u32 a0t_0, .int .i64 a0t_1, .string a0t_2, .string a0t_3, .slice a0t_4 la0t_4 ca0t_4, .slice a0t_5 la0t_5 ca0t_5, .slice a0t_6 la0t_6 ca0t_6, .slice a0t_7 la0t_7 ca0t_7, .slice a0t_8 la0t_8 ca0t_8], .agg #[.int .u32 a1r_0, .int .i64 a1r_1, .string a1r_2, .string a1r_3, .slice a1r_4 la1r_4 ca1r_4, .slice a1r_5 la1r_5 ca1r_5]] h R) hF
/-! ### 31 refrain/refrainref30.Asked -/
noncomputable def c31 : Code := match Tryz.f31.body with | some c => c | none => .skip
noncomputable def an31 : Ann := { loops := fun i => [], draws := fun i => #[], joins := fun i => match i with | 12 => some [] | 14 => some [] | 16 => some [] | 18 => some [] | _ => none }
def F31 (a0payload : Option Addr) (la0payload ca0payload : Nat) (h : Heap) (R : KV) : Prop :=
 VNew h (.cells #[.int .u32 0, .int .i64 0, .string (ByteArray.mk #[]), .string (ByteArray.mk #[]), .slice none 0 0, .slice none 0 0] 57) fun b1 h2 =>
 cond (decide ((la0payload : Int) > (65528 : Int)))
 (storeL ⟨b1, 0, none⟩ 0 [.int .u32 0, .int .i64 0, .string (ByteArray.mk #[]), .string (ByteArray.mk #[]), .slice none 0 0, .slice none 0 0] h2 fun h3 =>
 ∃ x4 : Int, cellH h3 ⟨b1, 0, none⟩ = some (.int .u32 x4) ∧
 ∃ x5 : Int, cellH h3 ⟨b1, 1, none⟩ = some (.int .i64 x5) ∧
 ∃ s6 : ByteArray, cellH h3 ⟨b1, 2, none⟩ = some (.string s6) ∧
 ∃ s7 : ByteArray, cellH h3 ⟨b1, 3, none⟩ = some (.string s7) ∧
 ∃ (a8 : Option Addr) (la8 ca8 : Nat), cellH h3 ⟨b1, 4, none⟩ = some (.slice a8 la8 ca8) ∧
 ∃ (a9 : Option Addr) (la9 ca9 : Nat), cellH h3 ⟨b1, 5, none⟩ = some (.slice a9 la9 ca9) ∧
 R (.tuple #[.agg #[.int .u32 x4, .int .i64 x5, .string s6, .string s7, .slice a8 la8 ca8, .slice a9 la9 ca9], .int .i64 2]) h3)
 (VNew h2 (.cells #[.slice a0payload la0payload ca0payload, .bool false] 158) fun b10 h11 =>
 CallsH Tryz.prog 84 #[.pointer (some ⟨b10, 0, none⟩), .int .i64 1] h11 fun v12 h13 =>
 ∃ (a14 : Option Addr) (la14 ca14 : Nat), v12 = .slice a14 la14 ca14 ∧
 ∃ b15 : Bool, cellH h13 ⟨b10, 1, none⟩ = some (.bool b15) ∧
 cond b15
 (storeL ⟨b1, 0, none⟩ 0 [.int .u32 0, .int .i64 0, .string (ByteArray.mk #[]), .string (ByteArray.mk #[]), .slice none 0 0, .slice none 0 0] h13 fun h16 =>
 ∃ x17 : Int, cellH h16 ⟨b1, 0, none⟩ = some (.int .u32 x17) ∧
 ∃ x18 : Int, cellH h16 ⟨b1, 1, none⟩ = some (.int .i64 x18) ∧
 ∃ s19 : ByteArray, cellH h16 ⟨b1, 2, none⟩ = some (.string s19) ∧
 ∃ s20 : ByteArray, cellH h16 ⟨b1, 3, none⟩ = some (.string s20) ∧
 ∃ (a21 : Option Addr) (la21 ca21 : Nat), cellH h16 ⟨b1, 4, none⟩ = some (.slice a21 la21 ca21) ∧
 ∃ (a22 : Option Addr) (la22 ca22 : Nat), cellH h16 ⟨b1, 5, none⟩ = some (.slice a22 la22 ca22) ∧
 R (.tuple #[.agg #[.int .u32 x17, .int .i64 x18, .string s19, .string s20, .slice a21 la21 ca21, .slice a22 la22 ca22], .int .i64 301]) h16)
 (VIdx a14 la14 0 1 fun a23 =>
 ∃ x24 : Int, cellH h13 a23 = some (.int .u8 x24) ∧
 VNew h13 (.cells #[.int .u32 0, .int .i64 0, .string (ByteArray.mk #[]), .string (ByteArray.mk #[]), .slice none 0 0, .slice none 0 0] 57) fun b25 h26 =>
 storeL ⟨b25, 0, none⟩ 0 [.int .u32 0, .int .i64 (IntKind.i64.wrap x24), .string (ByteArray.mk #[]), .string (ByteArray.mk #[]), .slice none 0 0, .slice none 0 0] h26 fun h27 =>
 ∃ x28 : Int, cellH h27 ⟨b25, 1, none⟩ = some (.int .i64 x28) ∧
 CallsH Tryz.prog 77 #[.int .i64 x28] h27 fun v29 h30 =>
 ∃ b31 : Bool, ∃ b32 : Bool, ∃ b33 : Bool, ∃ b34 : Bool, v29 = .tuple #[.bool b31, .bool b32, .bool b33, .bool b34] ∧
 CallsH Tryz.prog 85 #[.pointer (some ⟨b10, 0, none⟩)] h30 fun v35 h36 =>
 ∃ x37 : Int, v35 = .int .u32 x37 ∧
 VStore h36 ⟨b25, 0, none⟩ (.int .u32 x37) fun h38 =>
 ∃ J39 : Heap → Prop, (cond b31
 (CallsH Tryz.prog 86 #[.pointer (some ⟨b10, 0, none⟩)] h38 fun v40 h41 =>
 ∃ s42 : ByteArray, v40 = .string s42 ∧
 VStore h41 ⟨b25, 2, none⟩ (.string s42) fun h43 =>
 J39 h43)
 (J39 h38)) ∧
 ∀ (h44 : Heap) (g45 : Env), J39 h44 →
 ∃ J46 : Heap → Prop, (cond b32
 (CallsH Tryz.prog 86 #[.pointer (some ⟨b10, 0, none⟩)] h44 fun v47 h48 =>
 ∃ s49 : ByteArray, v47 = .string s49 ∧
 VStore h48 ⟨b25, 3, none⟩ (.string s49) fun h50 =>
 J46 h50)
 (J46 h44)) ∧
 ∀ (h51 : Heap) (g52 : Env), J46 h51 →
 ∃ J53 : Heap → Prop, (cond b33
 (CallsH Tryz.prog 87 #[.pointer (some ⟨b10, 0, none⟩)] h51 fun v54 h55 =>
 ∃ (a56 : Option Addr) (la56 ca56 : Nat), v54 = .slice a56 la56 ca56 ∧
 VStore h55 ⟨b25, 4, none⟩ (.slice a56 la56 ca56) fun h57 =>
 J53 h57)
 (J53 h51)) ∧
 ∀ (h58 : Heap) (g59 : Env), J53 h58 →
 ∃ J60 : Heap → Prop, (cond b34
 (CallsH Tryz.prog 88 #[.pointer (some ⟨b10, 0, none⟩)] h58 fun v61 h62 =>
 ∃ (a63 : Option Addr) (la63 ca63 : Nat), v61 = .slice a63 la63 ca63 ∧
 VStore h62 ⟨b25, 5, none⟩ (.slice a63 la63 ca63) fun h64 =>
 J60 h64)
 (J60 h58)) ∧
 ∀ (h65 : Heap) (g66 : Env), J60 h65 →
 ∃ b67 : Bool, cellH h65 ⟨b10, 1, none⟩ = some (.bool b67) ∧
 cond b67 (storeL ⟨b1, 0, none⟩ 0 [.int .u32 0, .int .i64 0, .string (ByteArray.mk #[]), .string (ByteArray.mk #[]), .slice none 0 0, .slice none 0 0] h65 fun h68 =>
 ∃ x69 : Int, cellH h68 ⟨b1, 0, none⟩ = some (.int .u32 x69) ∧
 ∃ x70 : Int, cellH h68 ⟨b1, 1, none⟩ = some (.int .i64 x70) ∧
 ∃ s71 : ByteArray, cellH h68 ⟨b1, 2, none⟩ = some (.string s71) ∧
 ∃ s72 : ByteArray, cellH h68 ⟨b1, 3, none⟩ = some (.string s72) ∧
 ∃ (a73 : Option Addr) (la73 ca73 : Nat), cellH h68 ⟨b1, 4, none⟩ = some (.slice a73 la73 ca73) ∧
 ∃ (a74 : Option Addr) (la74 ca74 : Nat), cellH h68 ⟨b1, 5, none⟩ = some (.slice a74 la74 ca74) ∧
 R (.tuple #[.agg #[.int .u32 x69, .int .i64 x70, .string s71, .string s72, .slice a73 la73 ca73, .slice a74 la74 ca74], .int .i64 301]) h68) (∃ (a75 : Option Addr) (la75 ca75 : Nat), cellH h65 ⟨b10, 0, none⟩ = some (.slice a75 la75 ca75) ∧
 cond (decide ((la75 : Int) > (0 : Int))) (storeL ⟨b1, 0, none⟩ 0 [.int .u32 0, .int .i64 0, .string (ByteArray.mk #[]), .string (ByteArray.mk #[]), .slice none 0 0, .slice none 0 0] h65 fun h76 =>
 ∃ x77 : Int, cellH h76 ⟨b1, 0, none⟩ = some (.int .u32 x77) ∧
 ∃ x78 : Int, cellH h76 ⟨b1, 1, none⟩ = some (.int .i64 x78) ∧
 ∃ s79 : ByteArray, cellH h76 ⟨b1, 2, none⟩ = some (.string s79) ∧
 ∃ s80 : ByteArray, cellH h76 ⟨b1, 3, none⟩ = some (.string s80) ∧
 ∃ (a81 : Option Addr) (la81 ca81 : Nat), cellH h76 ⟨b1, 4, none⟩ = some (.slice a81 la81 ca81) ∧
 ∃ (a82 : Option Addr) (la82 ca82 : Nat), cellH h76 ⟨b1, 5, none⟩ = some (.slice a82 la82 ca82) ∧
 R (.tuple #[.agg #[.int .u32 x77, .int .i64 x78, .string s79, .string s80, .slice a81 la81 ca81, .slice a82 la82 ca82], .int .i64 301]) h76) (∃ x83 : Int, cellH h65 ⟨b25, 1, none⟩ = some (.int .i64 x83) ∧
 cond (decide (x83 < (1 : Int))) (storeL ⟨b1, 0, none⟩ 0 [.int .u32 0, .int .i64 0, .string (ByteArray.mk #[]), .string (ByteArray.mk #[]), .slice none 0 0, .slice none 0 0] h65 fun h84 =>
 ∃ x85 : Int, cellH h84 ⟨b1, 0, none⟩ = some (.int .u32 x85) ∧
 ∃ x86 : Int, cellH h84 ⟨b1, 1, none⟩ = some (.int .i64 x86) ∧
 ∃ s87 : ByteArray, cellH h84 ⟨b1, 2, none⟩ = some (.string s87) ∧
 ∃ s88 : ByteArray, cellH h84 ⟨b1, 3, none⟩ = some (.string s88) ∧
 ∃ (a89 : Option Addr) (la89 ca89 : Nat), cellH h84 ⟨b1, 4, none⟩ = some (.slice a89 la89 ca89) ∧
 ∃ (a90 : Option Addr) (la90 ca90 : Nat), cellH h84 ⟨b1, 5, none⟩ = some (.slice a90 la90 ca90) ∧
 R (.tuple #[.agg #[.int .u32 x85, .int .i64 x86, .string s87, .string s88, .slice a89 la89 ca89, .slice a90 la90 ca90], .int .i64 301]) h84) (∃ x91 : Int, cellH h65 ⟨b25, 1, none⟩ = some (.int .i64 x91) ∧
 cond (decide (x91 > (12 : Int)))
 (storeL ⟨b1, 0, none⟩ 0 [.int .u32 0, .int .i64 0, .string (ByteArray.mk #[]), .string (ByteArray.mk #[]), .slice none 0 0, .slice none 0 0] h65 fun h92 =>
 ∃ x93 : Int, cellH h92 ⟨b1, 0, none⟩ = some (.int .u32 x93) ∧
 ∃ x94 : Int, cellH h92 ⟨b1, 1, none⟩ = some (.int .i64 x94) ∧
 ∃ s95 : ByteArray, cellH h92 ⟨b1, 2, none⟩ = some (.string s95) ∧
 ∃ s96 : ByteArray, cellH h92 ⟨b1, 3, none⟩ = some (.string s96) ∧
 ∃ (a97 : Option Addr) (la97 ca97 : Nat), cellH h92 ⟨b1, 4, none⟩ = some (.slice a97 la97 ca97) ∧
 ∃ (a98 : Option Addr) (la98 ca98 : Nat), cellH h92 ⟨b1, 5, none⟩ = some (.slice a98 la98 ca98) ∧
 R (.tuple #[.agg #[.int .u32 x93, .int .i64 x94, .string s95, .string s96, .slice a97 la97 ca97, .slice a98 la98 ca98], .int .i64 301]) h92)
 (∃ x99 : Int, cellH h65 ⟨b25, 0, none⟩ = some (.int .u32 x99) ∧
 ∃ x100 : Int, cellH h65 ⟨b25, 1, none⟩ = some (.int .i64 x100) ∧
 ∃ s101 : ByteArray, cellH h65 ⟨b25, 2, none⟩ = some (.string s101) ∧
 ∃ s102 : ByteArray, cellH h65 ⟨b25, 3, none⟩ = some (.string s102) ∧
 ∃ (a103 : Option Addr) (la103 ca103 : Nat), cellH h65 ⟨b25, 4, none⟩ = some (.slice a103 la103 ca103) ∧
 ∃ (a104 : Option Addr) (la104 ca104 : Nat), cellH h65 ⟨b25, 5, none⟩ = some (.slice a104 la104 ca104) ∧
 storeL ⟨b1, 0, none⟩ 0 [.int .u32 x99, .int .i64 x100, .string s101, .string s102, .slice a103 la103 ca103, .slice a104 la104 ca104] h65 fun h105 =>
 ∃ x106 : Int, cellH h105 ⟨b1, 0, none⟩ = some (.int .u32 x106) ∧
 ∃ x107 : Int, cellH h105 ⟨b1, 1, none⟩ = some (.int .i64 x107) ∧
 ∃ s108 : ByteArray, cellH h105 ⟨b1, 2, none⟩ = some (.string s108) ∧
 ∃ s109 : ByteArray, cellH h105 ⟨b1, 3, none⟩ = some (.string s109) ∧
 ∃ (a110 : Option Addr) (la110 ca110 : Nat), cellH h105 ⟨b1, 4, none⟩ = some (.slice a110 la110 ca110) ∧
 ∃ (a111 : Option Addr) (la111 ca111 : Nat), cellH h105 ⟨b1, 5, none⟩ = some (.slice a111 la111 ca111) ∧
 R (.tuple #[.agg #[.int .u32 x106, .int .i64 x107, .string s108, .string s109, .slice a110 la110 ca110, .slice a111 la111 ca111], .int .i64 0]) h105))))))
theorem vf31 (a0payload : Option Addr) (la0payload ca0payload : Nat) (h : Heap) (R : KV) (hF : F31 a0payload la0payload ca0payload h R) : CallsH Tryz.prog 31 #[.slice a0payload la0payload ca0payload] h R :=
 calls_of_form (A := an31) (fn := Tryz.f31) (c := c31) (args := [.slice a0payload la0payload ca0payload]) Tryz.func31 (by kernel_rfl) mixed (by kernel_rfl) (by kernel_rfl : F31 a0payload la0payload ca0payload h R = vcF Tryz.prog an31 Tryz.f31 c31 [.slice a0payload la0payload ca0payload] h R) hF
/-! ### 32 refrain/refrainlaw30.greatReply -/
noncomputable def c32 : Code := match Tryz.f32.body with | some c => c | none => .skip
noncomputable def an32 : Ann := { loops := fun i => match i with | 3 => [(3, .int .i64), (4, .int .i64)] | 7 => [(3, .int .i64), (5, .int .i64)] | _ => [], draws := fun i => #[], joins := fun i => none }
def F32 (a0r_0 : Int) (a0r_1 : Bool) (a0r_2 : Int) (a0r_3 : Int) (a0r_4 : Option Addr) (la0r_4 ca0r_4 : Nat) (a0r_5 : Option Addr) (la0r_5 ca0r_5 : Nat) (a0r_6 : Option Addr) (la0r_6 ca0r_6 : Nat) (a0r_7 : Option Addr) (la0r_7 ca0r_7 : Nat) (a0r_8 : Int) (a0r_9 : Int) (a0r_10 : Int) (a0r_11 : Bool) (h : Heap) (R : KV) : Prop :=
 VNew h (.cells #[.int .u32 a0r_0, .bool a0r_1, .int .i64 a0r_2, .int .i64 a0r_3, .slice a0r_4 la0r_4 ca0r_4, .slice a0r_5 la0r_5 ca0r_5, .slice a0r_6 la0r_6 ca0r_6, .slice a0r_7 la0r_7 ca0r_7, .int .i64 a0r_8, .int .i64 a0r_9, .int .i64 a0r_10, .bool a0r_11] 65) fun b1 h2 =>
 ∃ (a3 : Option Addr) (la3 ca3 : Nat), cellH h2 ⟨b1, 4, none⟩ = some (.slice a3 la3 ca3) ∧
 ∃ (a4 : Option Addr) (la4 ca4 : Nat), cellH h2 ⟨b1, 6, none⟩ = some (.slice a4 la4 ca4) ∧
 ∃ (a5 : Option Addr) (la5 ca5 : Nat), cellH h2 ⟨b1, 5, none⟩ = some (.slice a5 la5 ca5) ∧
 ∃ (a6 : Option Addr) (la6 ca6 : Nat), cellH h2 ⟨b1, 7, none⟩ = some (.slice a6 la6 ca6) ∧
 ∃ I7 : Nat → Heap → Int → Int → Prop, (∃ n8, I7 n8 h2 (IntKind.i64.wrap ((IntKind.i64.wrap ((IntKind.i64.wrap ((la3 : Int) + (la4 : Int))) + (la5 : Int))) + (la6 : Int))) 0) ∧
 ∀ (n8 : Nat) (h9 : Heap) (g10 : Env) (n_11 : Int) (i_12 : Int), I7 n8 h9 n_11 i_12 →
 ∃ (a14 : Option Addr) (la14 ca14 : Nat), cellH h9 ⟨b1, 5, none⟩ = some (.slice a14 la14 ca14) ∧
 cond (decide (i_12 < (la14 : Int))) (cond (decide (n_11 < (262144 : Int)))
 (∃ (a15 : Option Addr) (la15 ca15 : Nat), cellH h9 ⟨b1, 5, none⟩ = some (.slice a15 la15 ca15) ∧
 VIdx a15 la15 i_12 2 fun a16 =>
 ∃ (a17 : Option Addr) (la17 ca17 : Nat), cellH h9 ⟨a16.block, a16.off + 1, none⟩ = some (.slice a17 la17 ca17) ∧
 ∃ m13, m13 < n8 ∧ I7 m13 h9 (IntKind.i64.wrap (n_11 + (la17 : Int))) (IntKind.i64.wrap (i_12 + 1)))
 (∃ I18 : Nat → Heap → Int → Int → Prop, (∃ n19, I18 n19 h9 n_11 0) ∧
 ∀ (n19 : Nat) (h20 : Heap) (g21 : Env) (n_22 : Int) (i_23 : Int), I18 n19 h20 n_22 i_23 →
 ∃ (a25 : Option Addr) (la25 ca25 : Nat), cellH h20 ⟨b1, 7, none⟩ = some (.slice a25 la25 ca25) ∧
 cond (decide (i_23 < (la25 : Int))) (cond (decide (n_22 < (262144 : Int)))
 (∃ (a26 : Option Addr) (la26 ca26 : Nat), cellH h20 ⟨b1, 7, none⟩ = some (.slice a26 la26 ca26) ∧
 VIdx a26 la26 i_23 1 fun a27 =>
 ∃ (a28 : Option Addr) (la28 ca28 : Nat), cellH h20 a27 = some (.slice a28 la28 ca28) ∧
 ∃ m24, m24 < n19 ∧ I18 m24 h20 (IntKind.i64.wrap (n_22 + (la28 : Int))) (IntKind.i64.wrap (i_23 + 1)))
 (R (.bool (decide (n_22 ≥ (262144 : Int)))) h20)) (R (.bool (decide (n_22 ≥ (262144 : Int)))) h20))) (∃ I29 : Nat → Heap → Int → Int → Prop, (∃ n30, I29 n30 h9 n_11 0) ∧
 ∀ (n30 : Nat) (h31 : Heap) (g32 : Env) (n_33 : Int) (i_34 : Int), I29 n30 h31 n_33 i_34 →
 ∃ (a36 : Option Addr) (la36 ca36 : Nat), cellH h31 ⟨b1, 7, none⟩ = some (.slice a36 la36 ca36) ∧
 cond (decide (i_34 < (la36 : Int))) (cond (decide (n_33 < (262144 : Int)))
 (∃ (a37 : Option Addr) (la37 ca37 : Nat), cellH h31 ⟨b1, 7, none⟩ = some (.slice a37 la37 ca37) ∧
 VIdx a37 la37 i_34 1 fun a38 =>
 ∃ (a39 : Option Addr) (la39 ca39 : Nat), cellH h31 a38 = some (.slice a39 la39 ca39) ∧
 ∃ m35, m35 < n30 ∧ I29 m35 h31 (IntKind.i64.wrap (n_33 + (la39 : Int))) (IntKind.i64.wrap (i_34 + 1)))
 (R (.bool (decide (n_33 ≥ (262144 : Int)))) h31)) (R (.bool (decide (n_33 ≥ (262144 : Int)))) h31))
theorem vf32 (a0r_0 : Int) (a0r_1 : Bool) (a0r_2 : Int) (a0r_3 : Int) (a0r_4 : Option Addr) (la0r_4 ca0r_4 : Nat) (a0r_5 : Option Addr) (la0r_5 ca0r_5 : Nat) (a0r_6 : Option Addr) (la0r_6 ca0r_6 : Nat) (a0r_7 : Option Addr) (la0r_7 ca0r_7 : Nat) (a0r_8 : Int) (a0r_9 : Int) (a0r_10 : Int) (a0r_11 : Bool) (h : Heap) (R : KV) (hF : F32 a0r_0 a0r_1 a0r_2 a0r_3 a0r_4 la0r_4 ca0r_4 a0r_5 la0r_5 ca0r_5 a0r_6 la0r_6 ca0r_6 a0r_7 la0r_7 ca0r_7 a0r_8 a0r_9 a0r_10 a0r_11 h R) : CallsH Tryz.prog 32 #[.agg #[.int .u32 a0r_0, .bool a0r_1, .int .i64 a0r_2, .int .i64 a0r_3, .slice a0r_4 la0r_4 ca0r_4, .slice a0r_5 la0r_5 ca0r_5, .slice a0r_6 la0r_6 ca0r_6, .slice a0r_7 la0r_7 ca0r_7, .int .i64 a0r_8, .int .i64 a0r_9, .int .i64 a0r_10, .bool a0r_11]] h R :=
 calls_of_form (A := an32) (fn := Tryz.f32) (c := c32) (args := [.agg #[.int .u32 a0r_0, .bool a0r_1, .int .i64 a0r_2, .int .i64 a0r_3, .slice a0r_4 la0r_4 ca0r_4, .slice a0r_5 la0r_5 ca0r_5, .slice a0r_6 la0r_6 ca0r_6, .slice a0r_7 la0r_7 ca0r_7, .int .i64 a0r_8, .int .i64 a0r_9, .int .i64 a0r_10, .bool a0r_11]]) Tryz.func32 (by kernel_rfl) mixed (by kernel_rfl) (by kernel_rfl : F32 a0r_0 a0r_1 a0r_2 a0r_3 a0r_4 la0r_4 ca0r_4 a0r_5 la0r_5 ca0r_5 a0r_6 la0r_6 ca0r_6 a0r_7 la0r_7 ca0r_7 a0r_8 a0r_9 a0r_10 a0r_11 h R = vcF Tryz.prog an32 Tryz.f32 c32 [.agg #[.int .u32 a0r_0, .bool a0r_1, .int .i64 a0r_2, .int .i64 a0r_3, .slice a0r_4 la0r_4 ca0r_4, .slice a0r_5 la0r_5 ca0r_5, .slice a0r_6 la0r_6 ca0r_6, .slice a0r_7 la0r_7 ca0r_7, .int .i64 a0r_8, .int .i64 a0r_9, .int .i64 a0r_10, .bool a0r_11]] h R) hF
/-! ### 33 refrain/refrainlaw30.taleOf -/
noncomputable def c33 : Code := match Tryz.f33.body with | some c => c | none => .skip
noncomputable def an33 : Ann := { loops := fun i => match i with | 5 => [(4, .int .i64)] | 10 => [(6, .int .i64)] | 15 => [(8, .int .i64)] | _ => [], draws := fun i => match i with | 8 => #[0, 0, 2, 6, 14, 0, 32, 0, 224, 480, 992, 0, 4064, 8160, 16382, 32767, 65535, 131071] | 21 => #[0, 0, 2, 6, 14, 0, 32, 96, 0, 256, 768, 1792, 3840, 8190, 16383, 32767, 65535, 131071] | 22 => #[0, 0, 2, 6, 14, 0, 32, 96, 0, 256, 768, 1792, 3840, 8190, 16383, 32767, 65535, 131071] | 23 => #[0, 0, 2, 6, 14, 0, 32, 96, 0, 256, 768, 1792, 3840, 8190, 16383, 32767, 65535, 131071] | 24 => #[0, 0, 2, 6, 14, 0, 32, 96, 0, 256, 768, 1792, 3840, 8190, 16383, 32767, 65535, 131071] | _ => #[], joins := fun i => none }
def F33 (a0r_0 : Int) (a0r_1 : Bool) (a0r_2 : Int) (a0r_3 : Int) (a0r_4 : Option Addr) (la0r_4 ca0r_4 : Nat) (a0r_5 : Option Addr) (la0r_5 ca0r_5 : Nat) (a0r_6 : Option Addr) (la0r_6 ca0r_6 : Nat) (a0r_7 : Option Addr) (la0r_7 ca0r_7 : Nat) (a0r_8 : Int) (a0r_9 : Int) (a0r_10 : Int) (a0r_11 : Bool) (h : Heap) (R : KV) : Prop :=
 VNew h (.cells #[.int .u32 a0r_0, .bool a0r_1, .int .i64 a0r_2, .int .i64 a0r_3, .slice a0r_4 la0r_4 ca0r_4, .slice a0r_5 la0r_5 ca0r_5, .slice a0r_6 la0r_6 ca0r_6, .slice a0r_7 la0r_7 ca0r_7, .int .i64 a0r_8, .int .i64 a0r_9, .int .i64 a0r_10, .bool a0r_11] 65) fun b1 h2 =>
 ∃ x3 : Int, cellH h2 ⟨b1, 0, none⟩ = some (.int .u32 x3) ∧
 ∃ b4 : Bool, cellH h2 ⟨b1, 1, none⟩ = some (.bool b4) ∧
 ∃ x5 : Int, cellH h2 ⟨b1, 2, none⟩ = some (.int .i64 x5) ∧
 ∃ x6 : Int, cellH h2 ⟨b1, 3, none⟩ = some (.int .i64 x6) ∧
 ∃ (a7 : Option Addr) (la7 ca7 : Nat), cellH h2 ⟨b1, 4, none⟩ = some (.slice a7 la7 ca7) ∧
 ∃ (a8 : Option Addr) (la8 ca8 : Nat), cellH h2 ⟨b1, 5, none⟩ = some (.slice a8 la8 ca8) ∧
 ∃ (a9 : Option Addr) (la9 ca9 : Nat), cellH h2 ⟨b1, 6, none⟩ = some (.slice a9 la9 ca9) ∧
 ∃ (a10 : Option Addr) (la10 ca10 : Nat), cellH h2 ⟨b1, 7, none⟩ = some (.slice a10 la10 ca10) ∧
 ∃ x11 : Int, cellH h2 ⟨b1, 8, none⟩ = some (.int .i64 x11) ∧
 ∃ x12 : Int, cellH h2 ⟨b1, 9, none⟩ = some (.int .i64 x12) ∧
 ∃ x13 : Int, cellH h2 ⟨b1, 10, none⟩ = some (.int .i64 x13) ∧
 ∃ b14 : Bool, cellH h2 ⟨b1, 11, none⟩ = some (.bool b14) ∧
 VNew h2 (.cells #[.int .u32 x3, .bool b4, .int .i64 x5, .int .i64 x6, .slice a7 la7 ca7, .slice a8 la8 ca8, .slice a9 la9 ca9, .slice a10 la10 ca10, .int .i64 x11, .int .i64 x12, .int .i64 x13, .bool b14, .slice none 0 0, .slice none 0 0, .slice none 0 0, .slice none 0 0, .slice none 0 0] 83) fun b15 h16 =>
 ∃ (a17 : Option Addr) (la17 ca17 : Nat), cellH h16 ⟨b1, 4, none⟩ = some (.slice a17 la17 ca17) ∧
 RunsTo Tryz.prog (Builtin.append_ #[60, 60] 60 #[.slice none 0 0, .slice a17 la17 ca17]) h16 fun v18 h19 =>
 ∃ (a20 : Option Addr) (la20 ca20 : Nat), v18 = .slice a20 la20 ca20 ∧
 VStore h19 ⟨b15, 12, none⟩ (.slice a20 la20 ca20) fun h21 =>
 ∃ (a22 : Option Addr) (la22 ca22 : Nat), cellH h21 ⟨b1, 6, none⟩ = some (.slice a22 la22 ca22) ∧
 RunsTo Tryz.prog (Builtin.append_ #[54, 54] 54 #[.slice none 0 0, .slice a22 la22 ca22]) h21 fun v23 h24 =>
 ∃ (a25 : Option Addr) (la25 ca25 : Nat), v23 = .slice a25 la25 ca25 ∧
 VStore h24 ⟨b15, 13, none⟩ (.slice a25 la25 ca25) fun h26 =>
 ∃ I27 : Nat → Heap → Int → Prop, (∃ n28, I27 n28 h26 0) ∧
 ∀ (n28 : Nat) (h29 : Heap) (g30 : Env) (i_31 : Int), I27 n28 h29 i_31 →
 ∃ (a33 : Option Addr) (la33 ca33 : Nat), cellH h29 ⟨b1, 5, none⟩ = some (.slice a33 la33 ca33) ∧
 cond (decide (i_31 < (la33 : Int)))
 (∃ (a34 : Option Addr) (la34 ca34 : Nat), cellH h29 ⟨b1, 5, none⟩ = some (.slice a34 la34 ca34) ∧
 VIdx a34 la34 i_31 2 fun a35 =>
 ∃ (a36 : Option Addr) (la36 ca36 : Nat), cellH h29 ⟨a35.block, a35.off + 1, none⟩ = some (.slice a36 la36 ca36) ∧
 CallsH Tryz.prog 89 #[.pointer (some ⟨b15, 0, none⟩), .slice a36 la36 ca36] h29 fun v37 h38 =>
 ∃ (a39 : Option Addr) (la39 ca39 : Nat), v37 = .slice a39 la39 ca39 ∧
 ∃ (a40 : Option Addr) (la40 ca40 : Nat), cellH h38 ⟨b15, 14, none⟩ = some (.slice a40 la40 ca40) ∧
 ∃ (a41 : Option Addr) (la41 ca41 : Nat), cellH h38 ⟨b1, 5, none⟩ = some (.slice a41 la41 ca41) ∧
 VIdx a41 la41 i_31 2 fun a42 =>
 ∃ s43 : ByteArray, cellH h38 a42 = some (.string s43) ∧
 VNew h38 (.cells #[.string s43, .slice a39 la39 ca39] 114) fun b44 h45 =>
 (cellH h45 ⟨b15, 14, none⟩ = some (.slice a40 la40 ca40)) ∧
 RunsTo Tryz.prog (Builtin.append_ #[61, 61] 61 #[.slice a40 la40 ca40, .slice (some ⟨b44, 0, none⟩) 1 1]) h45 fun v46 h47 =>
 ∃ (a48 : Option Addr) (la48 ca48 : Nat), v46 = .slice a48 la48 ca48 ∧
 VStore h47 ⟨b15, 14, none⟩ (.slice a48 la48 ca48) fun h49 =>
 ∃ m32, m32 < n28 ∧ I27 m32 h49 (IntKind.i64.wrap (i_31 + 1)))
 (∃ I50 : Nat → Heap → Int → Prop, (∃ n51, I50 n51 h29 0) ∧
 ∀ (n51 : Nat) (h52 : Heap) (g53 : Env) (i_54 : Int), I50 n51 h52 i_54 →
 ∃ (a56 : Option Addr) (la56 ca56 : Nat), cellH h52 ⟨b1, 7, none⟩ = some (.slice a56 la56 ca56) ∧
 cond (decide (i_54 < (la56 : Int)))
 (∃ (a57 : Option Addr) (la57 ca57 : Nat), cellH h52 ⟨b1, 7, none⟩ = some (.slice a57 la57 ca57) ∧
 VIdx a57 la57 i_54 1 fun a58 =>
 ∃ (a59 : Option Addr) (la59 ca59 : Nat), cellH h52 a58 = some (.slice a59 la59 ca59) ∧
 CallsH Tryz.prog 89 #[.pointer (some ⟨b15, 0, none⟩), .slice a59 la59 ca59] h52 fun v60 h61 =>
 ∃ (a62 : Option Addr) (la62 ca62 : Nat), v60 = .slice a62 la62 ca62 ∧
 ∃ (a63 : Option Addr) (la63 ca63 : Nat), cellH h61 ⟨b15, 15, none⟩ = some (.slice a63 la63 ca63) ∧
 VNew h61 (.cells #[.slice a62 la62 ca62] 112) fun b64 h65 =>
 RunsTo Tryz.prog (Builtin.append_ #[45, 45] 45 #[.slice a63 la63 ca63, .slice (some ⟨b64, 0, none⟩) 1 1]) h65 fun v66 h67 =>
 ∃ (a68 : Option Addr) (la68 ca68 : Nat), v66 = .slice a68 la68 ca68 ∧
 VStore h67 ⟨b15, 15, none⟩ (.slice a68 la68 ca68) fun h69 =>
 ∃ m55, m55 < n51 ∧ I50 m55 h69 (IntKind.i64.wrap (i_54 + 1)))
 (∃ I70 : Nat → Heap → Int → Prop, (∃ n71, I70 n71 h52 0) ∧
 ∀ (n71 : Nat) (h72 : Heap) (g73 : Env) (k_74 : Int), I70 n71 h72 k_74 →
 cond (decide (k_74 < (12 : Int)))
 (∃ (a76 : Option Addr) (la76 ca76 : Nat), cellH h72 ⟨b15, 12, none⟩ = some (.slice a76 la76 ca76) ∧
 VNew h72 (.cells #[.int .i64 777] 38) fun b77 h78 =>
 RunsTo Tryz.prog (Builtin.append_ #[60, 60] 60 #[.slice a76 la76 ca76, .slice (some ⟨b77, 0, none⟩) 1 1]) h78 fun v79 h80 =>
 ∃ (a81 : Option Addr) (la81 ca81 : Nat), v79 = .slice a81 la81 ca81 ∧
 VStore h80 ⟨b15, 12, none⟩ (.slice a81 la81 ca81) fun h82 =>
 ∃ (a83 : Option Addr) (la83 ca83 : Nat), cellH h82 ⟨b15, 13, none⟩ = some (.slice a83 la83 ca83) ∧
 VNew h82 (.cells #[.string (ByteArray.mk #[109, 97, 114, 107])] 9) fun b84 h85 =>
 RunsTo Tryz.prog (Builtin.append_ #[54, 54] 54 #[.slice a83 la83 ca83, .slice (some ⟨b84, 0, none⟩) 1 1]) h85 fun v86 h87 =>
 ∃ (a88 : Option Addr) (la88 ca88 : Nat), v86 = .slice a88 la88 ca88 ∧
 VStore h87 ⟨b15, 13, none⟩ (.slice a88 la88 ca88) fun h89 =>
 ∃ (a90 : Option Addr) (la90 ca90 : Nat), cellH h89 ⟨b15, 14, none⟩ = some (.slice a90 la90 ca90) ∧
 VNew h89 (.cells #[.string (ByteArray.mk #[109, 97, 114, 107]), .slice none 0 0] 114) fun b91 h92 =>
 RunsTo Tryz.prog (Builtin.append_ #[61, 61] 61 #[.slice a90 la90 ca90, .slice (some ⟨b91, 0, none⟩) 1 1]) h92 fun v93 h94 =>
 ∃ (a95 : Option Addr) (la95 ca95 : Nat), v93 = .slice a95 la95 ca95 ∧
 VStore h94 ⟨b15, 14, none⟩ (.slice a95 la95 ca95) fun h96 =>
 ∃ (a97 : Option Addr) (la97 ca97 : Nat), cellH h96 ⟨b15, 15, none⟩ = some (.slice a97 la97 ca97) ∧
 VNew h96 (.cells #[.int .i64 77, .int .i64 0, .string (ByteArray.mk #[]), .bool false] 127) fun b98 h99 =>
 VNew h99 (.cells #[.slice (some ⟨b98, 0, none⟩) 1 1] 112) fun b100 h101 =>
 RunsTo Tryz.prog (Builtin.append_ #[45, 45] 45 #[.slice a97 la97 ca97, .slice (some ⟨b100, 0, none⟩) 1 1]) h101 fun v102 h103 =>
 ∃ (a104 : Option Addr) (la104 ca104 : Nat), v102 = .slice a104 la104 ca104 ∧
 VStore h103 ⟨b15, 15, none⟩ (.slice a104 la104 ca104) fun h105 =>
 ∃ m75, m75 < n71 ∧ I70 m75 h105 (IntKind.i64.wrap (k_74 + 1)))
 (∃ (a106 : Option Addr) (la106 ca106 : Nat), cellH h72 ⟨b15, 12, none⟩ = some (.slice a106 la106 ca106) ∧
 ∃ (a107 : Option Addr) (la107 ca107 : Nat), cellH h72 ⟨b1, 4, none⟩ = some (.slice a107 la107 ca107) ∧
 ∃ (a108 : Option Addr) (la108 ca108 : Nat), cellH h72 ⟨b15, 12, none⟩ = some (.slice a108 la108 ca108) ∧
 VSlice 1 a106 ca106 0 (la107 : Int) (la108 : Int) fun a109 la109 ca109 =>
 VStore h72 ⟨b15, 4, none⟩ (.slice a109 la109 ca109) fun h110 =>
 ∃ (a111 : Option Addr) (la111 ca111 : Nat), cellH h110 ⟨b15, 13, none⟩ = some (.slice a111 la111 ca111) ∧
 ∃ (a112 : Option Addr) (la112 ca112 : Nat), cellH h110 ⟨b1, 6, none⟩ = some (.slice a112 la112 ca112) ∧
 ∃ (a113 : Option Addr) (la113 ca113 : Nat), cellH h110 ⟨b15, 13, none⟩ = some (.slice a113 la113 ca113) ∧
 VSlice 1 a111 ca111 0 (la112 : Int) (la113 : Int) fun a114 la114 ca114 =>
 VStore h110 ⟨b15, 6, none⟩ (.slice a114 la114 ca114) fun h115 =>
 ∃ (a116 : Option Addr) (la116 ca116 : Nat), cellH h115 ⟨b15, 14, none⟩ = some (.slice a116 la116 ca116) ∧
 ∃ (a117 : Option Addr) (la117 ca117 : Nat), cellH h115 ⟨b1, 5, none⟩ = some (.slice a117 la117 ca117) ∧
 ∃ (a118 : Option Addr) (la118 ca118 : Nat), cellH h115 ⟨b15, 14, none⟩ = some (.slice a118 la118 ca118) ∧
 VSlice 2 a116 ca116 0 (la117 : Int) (la118 : Int) fun a119 la119 ca119 =>
 VStore h115 ⟨b15, 5, none⟩ (.slice a119 la119 ca119) fun h120 =>
 ∃ (a121 : Option Addr) (la121 ca121 : Nat), cellH h120 ⟨b15, 15, none⟩ = some (.slice a121 la121 ca121) ∧
 ∃ (a122 : Option Addr) (la122 ca122 : Nat), cellH h120 ⟨b1, 7, none⟩ = some (.slice a122 la122 ca122) ∧
 ∃ (a123 : Option Addr) (la123 ca123 : Nat), cellH h120 ⟨b15, 15, none⟩ = some (.slice a123 la123 ca123) ∧
 VSlice 1 a121 ca121 0 (la122 : Int) (la123 : Int) fun a124 la124 ca124 =>
 VStore h120 ⟨b15, 7, none⟩ (.slice a124 la124 ca124) fun h125 =>
 R (.pointer (some ⟨b15, 0, none⟩)) h125)))
theorem vf33 (a0r_0 : Int) (a0r_1 : Bool) (a0r_2 : Int) (a0r_3 : Int) (a0r_4 : Option Addr) (la0r_4 ca0r_4 : Nat) (a0r_5 : Option Addr) (la0r_5 ca0r_5 : Nat) (a0r_6 : Option Addr) (la0r_6 ca0r_6 : Nat) (a0r_7 : Option Addr) (la0r_7 ca0r_7 : Nat) (a0r_8 : Int) (a0r_9 : Int) (a0r_10 : Int) (a0r_11 : Bool) (h : Heap) (R : KV) (hF : F33 a0r_0 a0r_1 a0r_2 a0r_3 a0r_4 la0r_4 ca0r_4 a0r_5 la0r_5 ca0r_5 a0r_6 la0r_6 ca0r_6 a0r_7 la0r_7 ca0r_7 a0r_8 a0r_9 a0r_10 a0r_11 h R) : CallsH Tryz.prog 33 #[.agg #[.int .u32 a0r_0, .bool a0r_1, .int .i64 a0r_2, .int .i64 a0r_3, .slice a0r_4 la0r_4 ca0r_4, .slice a0r_5 la0r_5 ca0r_5, .slice a0r_6 la0r_6 ca0r_6, .slice a0r_7 la0r_7 ca0r_7, .int .i64 a0r_8, .int .i64 a0r_9, .int .i64 a0r_10, .bool a0r_11]] h R :=
 calls_of_form (A := an33) (fn := Tryz.f33) (c := c33) (args := [.agg #[.int .u32 a0r_0, .bool a0r_1, .int .i64 a0r_2, .int .i64 a0r_3, .slice a0r_4 la0r_4 ca0r_4, .slice a0r_5 la0r_5 ca0r_5, .slice a0r_6 la0r_6 ca0r_6, .slice a0r_7 la0r_7 ca0r_7, .int .i64 a0r_8, .int .i64 a0r_9, .int .i64 a0r_10, .bool a0r_11]]) Tryz.func33 (by kernel_rfl) mixed (by kernel_rfl) (by kernel_rfl : F33 a0r_0 a0r_1 a0r_2 a0r_3 a0r_4 la0r_4 ca0r_4 a0r_5 la0r_5 ca0r_5 a0r_6 la0r_6 ca0r_6 a0r_7 la0r_7 ca0r_7 a0r_8 a0r_9 a0r_10 a0r_11 h R = vcF Tryz.prog an33 Tryz.f33 c33 [.agg #[.int .u32 a0r_0, .bool a0r_1, .int .i64 a0r_2, .int .i64 a0r_3, .slice a0r_4 la0r_4 ca0r_4, .slice a0r_5 la0r_5 ca0r_5, .slice a0r_6 la0r_6 ca0r_6, .slice a0r_7 la0r_7 ca0r_7, .int .i64 a0r_8, .int .i64 a0r_9, .int .i64 a0r_10, .bool a0r_11]] h R) hF
/-! ### 34 refrain/refrainref30.Tell -/
noncomputable def c34 : Code := match Tryz.f34.body with | some c => c | none => .skip
noncomputable def an34 : Ann := { loops := fun i => match i with | 7 => [(4, .slc), (5, .int .i64)] | 12 => [(2, .slc), (3, .int .i64), (4, .slc), (6, .int .i64)] | 22 => [(2, .slc), (3, .int .i64), (4, .slc), (8, .int .i64)] | _ => [], draws := fun i => #[], joins := fun i => none }
def G34 (b1 : Nat) (b_39 : Option Addr) (lb_39 cb_39 : Nat) (h37 : Heap) (R : KV) : Prop :=
 ∃ (a52 : Option Addr) (la52 ca52 : Nat), cellH h37 ⟨b1, 5, none⟩ = some (.slice a52 la52 ca52) ∧
 CallsH Tryz.prog 82 #[.int .i64 (la52 : Int)] h37 fun v53 h54 =>
 ∃ (a55 : Option Addr) (la55 ca55 : Nat), v53 = .slice a55 la55 ca55 ∧
 CallsH Tryz.prog 81 #[.slice b_39 lb_39 cb_39, .slice a55 la55 ca55] h54 fun v56 h57 =>
 ∃ (a58 : Option Addr) (la58 ca58 : Nat), v56 = .slice a58 la58 ca58 ∧
 ∃ I59 : Nat → Heap → Option Addr → Nat → Nat → Int → Option Addr → Nat → Nat → Int → Prop, (∃ n60, I59 n60 h57 none 0 0 0 a58 la58 ca58 0) ∧
 ∀ (n60 : Nat) (h61 : Heap) (g62 : Env) (y_63 : Option Addr) (ly_63 cy_63 : Nat) (y_64 : Int) (b_65 : Option Addr) (lb_65 cb_65 : Nat) (i_66 : Int), I59 n60 h61 y_63 ly_63 cy_63 y_64 b_65 lb_65 cb_65 i_66 →
 ∃ (a68 : Option Addr) (la68 ca68 : Nat), cellH h61 ⟨b1, 5, none⟩ = some (.slice a68 la68 ca68) ∧
 cond (decide (i_66 < (la68 : Int)))
 (∃ (a69 : Option Addr) (la69 ca69 : Nat), cellH h61 ⟨b1, 5, none⟩ = some (.slice a69 la69 ca69) ∧
 VIdx a69 la69 i_66 2 fun a70 =>
 ∃ (a71 : Option Addr) (la71 ca71 : Nat), cellH h61 ⟨a70.block, a70.off + 1, none⟩ = some (.slice a71 la71 ca71) ∧
 CallsH Tryz.prog 91 #[.slice a71 la71 ca71] h61 fun v72 h73 =>
 ∃ b74 : Bool, v72 = .bool b74 ∧
 cond (!b74)
 (R (.tuple #[.slice none 0 0, .int .i64 12]) h73)
 (∃ (a75 : Option Addr) (la75 ca75 : Nat), cellH h73 ⟨b1, 5, none⟩ = some (.slice a75 la75 ca75) ∧
 VIdx a75 la75 i_66 2 fun a76 =>
 ∃ s77 : ByteArray, cellH h73 a76 = some (.string s77) ∧
 CallsH Tryz.prog 79 #[.slice b_65 lb_65 cb_65, .string s77] h73 fun v78 h79 =>
 ∃ (a80 : Option Addr) (la80 ca80 : Nat), v78 = .slice a80 la80 ca80 ∧
 ∃ (a81 : Option Addr) (la81 ca81 : Nat), cellH h79 ⟨b1, 5, none⟩ = some (.slice a81 la81 ca81) ∧
 VIdx a81 la81 i_66 2 fun a82 =>
 ∃ (a83 : Option Addr) (la83 ca83 : Nat), cellH h79 ⟨a82.block, a82.off + 1, none⟩ = some (.slice a83 la83 ca83) ∧
 CallsH Tryz.prog 92 #[.slice a80 la80 ca80, .slice a83 la83 ca83] h79 fun v84 h85 =>
 ∃ (a86 : Option Addr) (la86 ca86 : Nat), v84 = .slice a86 la86 ca86 ∧
 ∃ m67, m67 < n60 ∧ I59 m67 h85 y_63 ly_63 cy_63 y_64 a86 la86 ca86 (IntKind.i64.wrap (i_66 + 1))))
 (∃ (a87 : Option Addr) (la87 ca87 : Nat), cellH h61 ⟨b1, 6, none⟩ = some (.slice a87 la87 ca87) ∧
 CallsH Tryz.prog 80 #[.slice b_65 lb_65 cb_65, .slice a87 la87 ca87] h61 fun v88 h89 =>
 ∃ (a90 : Option Addr) (la90 ca90 : Nat), v88 = .slice a90 la90 ca90 ∧
 ∃ (a91 : Option Addr) (la91 ca91 : Nat), cellH h89 ⟨b1, 7, none⟩ = some (.slice a91 la91 ca91) ∧
 CallsH Tryz.prog 82 #[.int .i64 (la91 : Int)] h89 fun v92 h93 =>
 ∃ (a94 : Option Addr) (la94 ca94 : Nat), v92 = .slice a94 la94 ca94 ∧
 CallsH Tryz.prog 81 #[.slice a90 la90 ca90, .slice a94 la94 ca94] h93 fun v95 h96 =>
 ∃ (a97 : Option Addr) (la97 ca97 : Nat), v95 = .slice a97 la97 ca97 ∧
 ∃ I98 : Nat → Heap → Option Addr → Nat → Nat → Int → Option Addr → Nat → Nat → Int → Prop, (∃ n99, I98 n99 h96 y_63 ly_63 cy_63 y_64 a97 la97 ca97 0) ∧
 ∀ (n99 : Nat) (h100 : Heap) (g101 : Env) (y_102 : Option Addr) (ly_102 cy_102 : Nat) (y_103 : Int) (b_104 : Option Addr) (lb_104 cb_104 : Nat) (i_105 : Int), I98 n99 h100 y_102 ly_102 cy_102 y_103 b_104 lb_104 cb_104 i_105 →
 ∃ (a107 : Option Addr) (la107 ca107 : Nat), cellH h100 ⟨b1, 7, none⟩ = some (.slice a107 la107 ca107) ∧
 cond (decide (i_105 < (la107 : Int)))
 (∃ (a108 : Option Addr) (la108 ca108 : Nat), cellH h100 ⟨b1, 7, none⟩ = some (.slice a108 la108 ca108) ∧
 VIdx a108 la108 i_105 1 fun a109 =>
 ∃ (a110 : Option Addr) (la110 ca110 : Nat), cellH h100 a109 = some (.slice a110 la110 ca110) ∧
 CallsH Tryz.prog 91 #[.slice a110 la110 ca110] h100 fun v111 h112 =>
 ∃ b113 : Bool, v111 = .bool b113 ∧
 cond (!b113)
 (R (.tuple #[.slice none 0 0, .int .i64 12]) h112)
 (∃ (a114 : Option Addr) (la114 ca114 : Nat), cellH h112 ⟨b1, 7, none⟩ = some (.slice a114 la114 ca114) ∧
 VIdx a114 la114 i_105 1 fun a115 =>
 ∃ (a116 : Option Addr) (la116 ca116 : Nat), cellH h112 a115 = some (.slice a116 la116 ca116) ∧
 CallsH Tryz.prog 92 #[.slice b_104 lb_104 cb_104, .slice a116 la116 ca116] h112 fun v117 h118 =>
 ∃ (a119 : Option Addr) (la119 ca119 : Nat), v117 = .slice a119 la119 ca119 ∧
 ∃ m106, m106 < n99 ∧ I98 m106 h118 y_102 ly_102 cy_102 y_103 a119 la119 ca119 (IntKind.i64.wrap (i_105 + 1))))
 (∃ x120 : Int, cellH h100 ⟨b1, 8, none⟩ = some (.int .i64 x120) ∧
 CallsH Tryz.prog 82 #[.int .i64 x120] h100 fun v121 h122 =>
 ∃ (a123 : Option Addr) (la123 ca123 : Nat), v121 = .slice a123 la123 ca123 ∧
 CallsH Tryz.prog 81 #[.slice b_104 lb_104 cb_104, .slice a123 la123 ca123] h122 fun v124 h125 =>
 ∃ (a126 : Option Addr) (la126 ca126 : Nat), v124 = .slice a126 la126 ca126 ∧
 ∃ x127 : Int, cellH h125 ⟨b1, 9, none⟩ = some (.int .i64 x127) ∧
 CallsH Tryz.prog 82 #[.int .i64 x127] h125 fun v128 h129 =>
 ∃ (a130 : Option Addr) (la130 ca130 : Nat), v128 = .slice a130 la130 ca130 ∧
 CallsH Tryz.prog 81 #[.slice a126 la126 ca126, .slice a130 la130 ca130] h129 fun v131 h132 =>
 ∃ (a133 : Option Addr) (la133 ca133 : Nat), v131 = .slice a133 la133 ca133 ∧
 ∃ x134 : Int, cellH h132 ⟨b1, 10, none⟩ = some (.int .i64 x134) ∧
 CallsH Tryz.prog 82 #[.int .i64 x134] h132 fun v135 h136 =>
 ∃ (a137 : Option Addr) (la137 ca137 : Nat), v135 = .slice a137 la137 ca137 ∧
 CallsH Tryz.prog 81 #[.slice a133 la133 ca133, .slice a137 la137 ca137] h136 fun v138 h139 =>
 ∃ (a140 : Option Addr) (la140 ca140 : Nat), v138 = .slice a140 la140 ca140 ∧
 ∃ b141 : Bool, cellH h139 ⟨b1, 11, none⟩ = some (.bool b141) ∧
 CallsH Tryz.prog 90 #[.bool b141] h139 fun v142 h143 =>
 ∃ (a144 : Option Addr) (la144 ca144 : Nat), v142 = .slice a144 la144 ca144 ∧
 CallsH Tryz.prog 81 #[.slice a140 la140 ca140, .slice a144 la144 ca144] h143 fun v145 h146 =>
 ∃ (a147 : Option Addr) (la147 ca147 : Nat), v145 = .slice a147 la147 ca147 ∧
 cond (decide ((la147 : Int) > (65528 : Int)))
 (R (.tuple #[.slice none 0 0, .int .i64 2]) h146)
 (R (.tuple #[.slice a147 la147 ca147, .int .i64 0]) h146)))
def F34 (a0r_0 : Int) (a0r_1 : Bool) (a0r_2 : Int) (a0r_3 : Int) (a0r_4 : Option Addr) (la0r_4 ca0r_4 : Nat) (a0r_5 : Option Addr) (la0r_5 ca0r_5 : Nat) (a0r_6 : Option Addr) (la0r_6 ca0r_6 : Nat) (a0r_7 : Option Addr) (la0r_7 ca0r_7 : Nat) (a0r_8 : Int) (a0r_9 : Int) (a0r_10 : Int) (a0r_11 : Bool) (h : Heap) (R : KV) : Prop :=
 VNew h (.cells #[.int .u32 a0r_0, .bool a0r_1, .int .i64 a0r_2, .int .i64 a0r_3, .slice a0r_4 la0r_4 ca0r_4, .slice a0r_5 la0r_5 ca0r_5, .slice a0r_6 la0r_6 ca0r_6, .slice a0r_7 la0r_7 ca0r_7, .int .i64 a0r_8, .int .i64 a0r_9, .int .i64 a0r_10, .bool a0r_11] 65) fun b1 h2 =>
 ∃ b3 : Bool, cellH h2 ⟨b1, 1, none⟩ = some (.bool b3) ∧
 CallsH Tryz.prog 90 #[.bool b3] h2 fun v4 h5 =>
 ∃ (a6 : Option Addr) (la6 ca6 : Nat), v4 = .slice a6 la6 ca6 ∧
 ∃ x7 : Int, cellH h5 ⟨b1, 0, none⟩ = some (.int .u32 x7) ∧
 CallsH Tryz.prog 78 #[.int .i64 (IntKind.i64.wrap x7)] h5 fun v8 h9 =>
 ∃ (a10 : Option Addr) (la10 ca10 : Nat), v8 = .slice a10 la10 ca10 ∧
 RunsTo Tryz.prog (Builtin.append_ #[36, 36] 36 #[.slice a6 la6 ca6, .slice a10 la10 ca10]) h9 fun v11 h12 =>
 ∃ (a13 : Option Addr) (la13 ca13 : Nat), v11 = .slice a13 la13 ca13 ∧
 ∃ x14 : Int, cellH h12 ⟨b1, 2, none⟩ = some (.int .i64 x14) ∧
 CallsH Tryz.prog 82 #[.int .i64 x14] h12 fun v15 h16 =>
 ∃ (a17 : Option Addr) (la17 ca17 : Nat), v15 = .slice a17 la17 ca17 ∧
 RunsTo Tryz.prog (Builtin.append_ #[36, 36] 36 #[.slice a13 la13 ca13, .slice a17 la17 ca17]) h16 fun v18 h19 =>
 ∃ (a20 : Option Addr) (la20 ca20 : Nat), v18 = .slice a20 la20 ca20 ∧
 ∃ x21 : Int, cellH h19 ⟨b1, 3, none⟩ = some (.int .i64 x21) ∧
 CallsH Tryz.prog 82 #[.int .i64 x21] h19 fun v22 h23 =>
 ∃ (a24 : Option Addr) (la24 ca24 : Nat), v22 = .slice a24 la24 ca24 ∧
 RunsTo Tryz.prog (Builtin.append_ #[36, 36] 36 #[.slice a20 la20 ca20, .slice a24 la24 ca24]) h23 fun v25 h26 =>
 ∃ (a27 : Option Addr) (la27 ca27 : Nat), v25 = .slice a27 la27 ca27 ∧
 ∃ (a28 : Option Addr) (la28 ca28 : Nat), cellH h26 ⟨b1, 4, none⟩ = some (.slice a28 la28 ca28) ∧
 CallsH Tryz.prog 82 #[.int .i64 (la28 : Int)] h26 fun v29 h30 =>
 ∃ (a31 : Option Addr) (la31 ca31 : Nat), v29 = .slice a31 la31 ca31 ∧
 RunsTo Tryz.prog (Builtin.append_ #[36, 36] 36 #[.slice a27 la27 ca27, .slice a31 la31 ca31]) h30 fun v32 h33 =>
 ∃ (a34 : Option Addr) (la34 ca34 : Nat), v32 = .slice a34 la34 ca34 ∧
 ∃ I35 : Nat → Heap → Option Addr → Nat → Nat → Int → Prop, (∃ n36, I35 n36 h33 a34 la34 ca34 0) ∧
 ∀ (n36 : Nat) (h37 : Heap) (g38 : Env) (b_39 : Option Addr) (lb_39 cb_39 : Nat) (i_40 : Int), I35 n36 h37 b_39 lb_39 cb_39 i_40 →
 ∃ (a42 : Option Addr) (la42 ca42 : Nat), cellH h37 ⟨b1, 4, none⟩ = some (.slice a42 la42 ca42) ∧
 cond (decide (i_40 < (la42 : Int))) (cond (decide ((lb_39 : Int) ≤ (65528 : Int)))
 (∃ (a43 : Option Addr) (la43 ca43 : Nat), cellH h37 ⟨b1, 4, none⟩ = some (.slice a43 la43 ca43) ∧
 VIdx a43 la43 i_40 1 fun a44 =>
 ∃ x45 : Int, cellH h37 a44 = some (.int .i64 x45) ∧
 CallsH Tryz.prog 82 #[.int .i64 x45] h37 fun v46 h47 =>
 ∃ (a48 : Option Addr) (la48 ca48 : Nat), v46 = .slice a48 la48 ca48 ∧
 RunsTo Tryz.prog (Builtin.append_ #[36, 36] 36 #[.slice b_39 lb_39 cb_39, .slice a48 la48 ca48]) h47 fun v49 h50 =>
 ∃ (a51 : Option Addr) (la51 ca51 : Nat), v49 = .slice a51 la51 ca51 ∧
 ∃ m41, m41 < n36 ∧ I35 m41 h50 a51 la51 ca51 (IntKind.i64.wrap (i_40 + 1)))
 (G34 b1 b_39 lb_39 cb_39 h37 R)) (G34 b1 b_39 lb_39 cb_39 h37 R)
theorem vf34 (a0r_0 : Int) (a0r_1 : Bool) (a0r_2 : Int) (a0r_3 : Int) (a0r_4 : Option Addr) (la0r_4 ca0r_4 : Nat) (a0r_5 : Option Addr) (la0r_5 ca0r_5 : Nat) (a0r_6 : Option Addr) (la0r_6 ca0r_6 : Nat) (a0r_7 : Option Addr) (la0r_7 ca0r_7 : Nat) (a0r_8 : Int) (a0r_9 : Int) (a0r_10 : Int) (a0r_11 : Bool) (h : Heap) (R : KV) (hF : F34 a0r_0 a0r_1 a0r_2 a0r_3 a0r_4 la0r_4 ca0r_4 a0r_5 la0r_5 ca0r_5 a0r_6 la0r_6 ca0r_6 a0r_7 la0r_7 ca0r_7 a0r_8 a0r_9 a0r_10 a0r_11 h R) : CallsH Tryz.prog 34 #[.agg #[.int .u32 a0r_0, .bool a0r_1, .int .i64 a0r_2, .int .i64 a0r_3, .slice a0r_4 la0r_4 ca0r_4, .slice a0r_5 la0r_5 ca0r_5, .slice a0r_6 la0r_6 ca0r_6, .slice a0r_7 la0r_7 ca0r_7, .int .i64 a0r_8, .int .i64 a0r_9, .int .i64 a0r_10, .bool a0r_11]] h R :=
 calls_of_form (A := an34) (fn := Tryz.f34) (c := c34) (args := [.agg #[.int .u32 a0r_0, .bool a0r_1, .int .i64 a0r_2, .int .i64 a0r_3, .slice a0r_4 la0r_4 ca0r_4, .slice a0r_5 la0r_5 ca0r_5, .slice a0r_6 la0r_6 ca0r_6, .slice a0r_7 la0r_7 ca0r_7, .int .i64 a0r_8, .int .i64 a0r_9, .int .i64 a0r_10, .bool a0r_11]]) Tryz.func34 (by kernel_rfl) mixed (by kernel_rfl) (by kernel_rfl : F34 a0r_0 a0r_1 a0r_2 a0r_3 a0r_4 la0r_4 ca0r_4 a0r_5 la0r_5 ca0r_5 a0r_6 la0r_6 ca0r_6 a0r_7 la0r_7 ca0r_7 a0r_8 a0r_9 a0r_10 a0r_11 h R = vcF Tryz.prog an34 Tryz.f34 c34 [.agg #[.int .u32 a0r_0, .bool a0r_1, .int .i64 a0r_2, .int .i64 a0r_3, .slice a0r_4 la0r_4 ca0r_4, .slice a0r_5 la0r_5 ca0r_5, .slice a0r_6 la0r_6 ca0r_6, .slice a0r_7 la0r_7 ca0r_7, .int .i64 a0r_8, .int .i64 a0r_9, .int .i64 a0r_10, .bool a0r_11]] h R) hF
/-! ### 35 (refrain/refrainlaw30.tale).kept -/
noncomputable def c35 : Code := match Tryz.f35.body with | some c => c | none => .skip
noncomputable def an35 : Ann := { loops := fun i => match i with | 2 => [(4, .bool), (5, .int .i64)] | 8 => [(4, .bool), (7, .int .i64)] | 12 => [(4, .bool), (9, .int .i64)] | _ => [], draws := fun i => match i with | 4 => #[0, 1, 3, 7, 0, 16, 48, 0, 240, 511, 1023, 2047] | 5 => #[0, 1, 3, 7, 0, 16, 48, 0, 240, 511, 1023, 2047, 4095, 8191, 16383, 32767, 65535, 8191, 139263, 401407, 8191, 1974271, 4194303, 8388607, 16777215, 33554431, 67108863, 134217727, 268435455, 536870911, 1073741823, 134217727, 2281701375, 6576668671, 134217727, 32346472447, 68719476735, 137438953471, 274877906943, 549755813887, 1099511627775, 2199023255551, 4398046511103, 8796093022207, 17592186044415, 35184372088831, 70368744177663, 140737488355327, 281474976710655, 562949953421311, 1125899906842623, 2251799813685247, 4503599627370495] | 17 => #[0, 1, 3, 7, 0, 16, 48, 127, 255, 511] | 18 => #[0, 1, 3, 7, 0, 16, 48, 127, 255, 511] | 19 => #[0, 1, 3, 7, 0, 16, 48, 127, 255, 511] | 20 => #[0, 1, 3, 7, 0, 16, 48, 127, 255, 511] | _ => #[], joins := fun i => none }
def F35 (a0t : Option Addr) (a1r_0 : Int) (a1r_1 : Bool) (a1r_2 : Int) (a1r_3 : Int) (a1r_4 : Option Addr) (la1r_4 ca1r_4 : Nat) (a1r_5 : Option Addr) (la1r_5 ca1r_5 : Nat) (a1r_6 : Option Addr) (la1r_6 ca1r_6 : Nat) (a1r_7 : Option Addr) (la1r_7 ca1r_7 : Nat) (a1r_8 : Int) (a1r_9 : Int) (a1r_10 : Int) (a1r_11 : Bool) (h : Heap) (R : KV) : Prop :=
 VNew h (.cells #[.int .u32 a1r_0, .bool a1r_1, .int .i64 a1r_2, .int .i64 a1r_3, .slice a1r_4 la1r_4 ca1r_4, .slice a1r_5 la1r_5 ca1r_5, .slice a1r_6 la1r_6 ca1r_6, .slice a1r_7 la1r_7 ca1r_7, .int .i64 a1r_8, .int .i64 a1r_9, .int .i64 a1r_10, .bool a1r_11] 65) fun b1 h2 =>
 ∃ I3 : Nat → Heap → Bool → Int → Prop, (∃ n4, I3 n4 h2 false 0) ∧
 ∀ (n4 : Nat) (h5 : Heap) (g6 : Env) (y_7 : Bool) (k_8 : Int), I3 n4 h5 y_7 k_8 →
 cond (decide (k_8 < (12 : Int)))
 (VSome a0t fun a10 =>
 ∃ (a11 : Option Addr) (la11 ca11 : Nat), cellH h5 ⟨a10.block, a10.off + 15, none⟩ = some (.slice a11 la11 ca11) ∧
 ∃ (a12 : Option Addr) (la12 ca12 : Nat), cellH h5 ⟨b1, 7, none⟩ = some (.slice a12 la12 ca12) ∧
 VIdx a11 la11 (IntKind.i64.wrap ((la12 : Int) + k_8)) 1 fun a13 =>
 ∃ (a14 : Option Addr) (la14 ca14 : Nat), cellH h5 a13 = some (.slice a14 la14 ca14) ∧
 VSome a0t fun a15 =>
 ∃ (a16 : Option Addr) (la16 ca16 : Nat), cellH h5 ⟨a15.block, a15.off + 12, none⟩ = some (.slice a16 la16 ca16) ∧
 ∃ (a17 : Option Addr) (la17 ca17 : Nat), cellH h5 ⟨b1, 4, none⟩ = some (.slice a17 la17 ca17) ∧
 VIdx a16 la16 (IntKind.i64.wrap ((la17 : Int) + k_8)) 1 fun a18 =>
 ∃ x19 : Int, cellH h5 a18 = some (.int .i64 x19) ∧
 cond (x19 != (777 : Int)) (R (.bool false) h5) (VSome a0t fun a20 =>
 ∃ (a21 : Option Addr) (la21 ca21 : Nat), cellH h5 ⟨a20.block, a20.off + 13, none⟩ = some (.slice a21 la21 ca21) ∧
 ∃ (a22 : Option Addr) (la22 ca22 : Nat), cellH h5 ⟨b1, 6, none⟩ = some (.slice a22 la22 ca22) ∧
 VIdx a21 la21 (IntKind.i64.wrap ((la22 : Int) + k_8)) 1 fun a23 =>
 ∃ s24 : ByteArray, cellH h5 a23 = some (.string s24) ∧
 cond (!strEq s24 (ByteArray.mk #[109, 97, 114, 107])) (R (.bool false) h5) (VSome a0t fun a25 =>
 ∃ (a26 : Option Addr) (la26 ca26 : Nat), cellH h5 ⟨a25.block, a25.off + 14, none⟩ = some (.slice a26 la26 ca26) ∧
 ∃ (a27 : Option Addr) (la27 ca27 : Nat), cellH h5 ⟨b1, 5, none⟩ = some (.slice a27 la27 ca27) ∧
 VIdx a26 la26 (IntKind.i64.wrap ((la27 : Int) + k_8)) 2 fun a28 =>
 ∃ s29 : ByteArray, cellH h5 a28 = some (.string s29) ∧
 cond (!strEq s29 (ByteArray.mk #[109, 97, 114, 107])) (R (.bool false) h5) (cond ((la14 : Int) != (1 : Int)) (R (.bool false) h5) (VIdx a14 la14 0 4 fun a30 =>
 ∃ x31 : Int, cellH h5 a30 = some (.int .i64 x31) ∧
 cond (x31 != (77 : Int))
 (R (.bool false) h5)
 (∃ m9, m9 < n4 ∧ I3 m9 h5 y_7 (IntKind.i64.wrap (k_8 + 1))))))))
 (∃ I32 : Nat → Heap → Bool → Int → Prop, (∃ n33, I32 n33 h5 y_7 0) ∧
 ∀ (n33 : Nat) (h34 : Heap) (g35 : Env) (y_36 : Bool) (i_37 : Int), I32 n33 h34 y_36 i_37 →
 VSome a0t fun a39 =>
 ∃ (a40 : Option Addr) (la40 ca40 : Nat), cellH h34 ⟨a39.block, a39.off + 16, none⟩ = some (.slice a40 la40 ca40) ∧
 cond (decide (i_37 < (la40 : Int)))
 (VSome a0t fun a41 =>
 ∃ (a42 : Option Addr) (la42 ca42 : Nat), cellH h34 ⟨a41.block, a41.off + 16, none⟩ = some (.slice a42 la42 ca42) ∧
 VIdx a42 la42 i_37 1 fun a43 =>
 ∃ (a44 : Option Addr) (la44 ca44 : Nat), cellH h34 a43 = some (.slice a44 la44 ca44) ∧
 ∃ I45 : Nat → Heap → Bool → Int → Prop, (∃ n46, I45 n46 h34 y_36 (IntKind.i64.wrap ((la44 : Int) - 12))) ∧
 ∀ (n46 : Nat) (h47 : Heap) (g48 : Env) (y_49 : Bool) (k_50 : Int), I45 n46 h47 y_49 k_50 →
 cond (decide (k_50 < (la44 : Int)))
 (VIdx a44 la44 k_50 4 fun a52 =>
 ∃ x53 : Int, cellH h47 a52 = some (.int .i64 x53) ∧
 cond (x53 != (77 : Int))
 (R (.bool false) h47)
 (∃ m51, m51 < n46 ∧ I45 m51 h47 y_49 (IntKind.i64.wrap (k_50 + 1))))
 (∃ m38, m38 < n33 ∧ I32 m38 h47 y_49 (IntKind.i64.wrap (i_37 + 1))))
 (∃ x54 : Int, cellH h34 ⟨b1, 0, none⟩ = some (.int .u32 x54) ∧
 ∃ b55 : Bool, cellH h34 ⟨b1, 1, none⟩ = some (.bool b55) ∧
 ∃ x56 : Int, cellH h34 ⟨b1, 2, none⟩ = some (.int .i64 x56) ∧
 ∃ x57 : Int, cellH h34 ⟨b1, 3, none⟩ = some (.int .i64 x57) ∧
 ∃ (a58 : Option Addr) (la58 ca58 : Nat), cellH h34 ⟨b1, 4, none⟩ = some (.slice a58 la58 ca58) ∧
 ∃ (a59 : Option Addr) (la59 ca59 : Nat), cellH h34 ⟨b1, 5, none⟩ = some (.slice a59 la59 ca59) ∧
 ∃ (a60 : Option Addr) (la60 ca60 : Nat), cellH h34 ⟨b1, 6, none⟩ = some (.slice a60 la60 ca60) ∧
 ∃ (a61 : Option Addr) (la61 ca61 : Nat), cellH h34 ⟨b1, 7, none⟩ = some (.slice a61 la61 ca61) ∧
 ∃ x62 : Int, cellH h34 ⟨b1, 8, none⟩ = some (.int .i64 x62) ∧
 ∃ x63 : Int, cellH h34 ⟨b1, 9, none⟩ = some (.int .i64 x63) ∧
 ∃ x64 : Int, cellH h34 ⟨b1, 10, none⟩ = some (.int .i64 x64) ∧
 ∃ b65 : Bool, cellH h34 ⟨b1, 11, none⟩ = some (.bool b65) ∧
 VNew h34 (.cells #[.int .u32 0, .bool false, .int .i64 0, .int .i64 0, .slice none 0 0, .slice none 0 0, .slice none 0 0, .slice none 0 0, .int .i64 0, .int .i64 0, .int .i64 0, .bool false] 65) fun b66 h67 =>
 storeL ⟨b66, 0, none⟩ 0 [.int .u32 x54, .bool b55, .int .i64 x56, .int .i64 x57, .slice a58 la58 ca58, .slice a59 la59 ca59, .slice a60 la60 ca60, .slice a61 la61 ca61, .int .i64 x62, .int .i64 x63, .int .i64 x64, .bool b65] h67 fun h68 =>
 VSome a0t fun a69 =>
 ∃ (a70 : Option Addr) (la70 ca70 : Nat), cellH h68 ⟨a69.block, a69.off + 12, none⟩ = some (.slice a70 la70 ca70) ∧
 ∃ (a71 : Option Addr) (la71 ca71 : Nat), cellH h68 ⟨b1, 4, none⟩ = some (.slice a71 la71 ca71) ∧
 VSlice 1 a70 ca70 0 (la71 : Int) (ca70 : Int) fun a72 la72 ca72 =>
 VStore h68 ⟨b66, 4, none⟩ (.slice a72 la72 ca72) fun h73 =>
 VSome a0t fun a74 =>
 ∃ (a75 : Option Addr) (la75 ca75 : Nat), cellH h73 ⟨a74.block, a74.off + 13, none⟩ = some (.slice a75 la75 ca75) ∧
 ∃ (a76 : Option Addr) (la76 ca76 : Nat), cellH h73 ⟨b1, 6, none⟩ = some (.slice a76 la76 ca76) ∧
 VSlice 1 a75 ca75 0 (la76 : Int) (ca75 : Int) fun a77 la77 ca77 =>
 VStore h73 ⟨b66, 6, none⟩ (.slice a77 la77 ca77) fun h78 =>
 VSome a0t fun a79 =>
 ∃ (a80 : Option Addr) (la80 ca80 : Nat), cellH h78 ⟨a79.block, a79.off + 14, none⟩ = some (.slice a80 la80 ca80) ∧
 ∃ (a81 : Option Addr) (la81 ca81 : Nat), cellH h78 ⟨b1, 5, none⟩ = some (.slice a81 la81 ca81) ∧
 VSlice 2 a80 ca80 0 (la81 : Int) (ca80 : Int) fun a82 la82 ca82 =>
 VStore h78 ⟨b66, 5, none⟩ (.slice a82 la82 ca82) fun h83 =>
 VSome a0t fun a84 =>
 ∃ (a85 : Option Addr) (la85 ca85 : Nat), cellH h83 ⟨a84.block, a84.off + 15, none⟩ = some (.slice a85 la85 ca85) ∧
 ∃ (a86 : Option Addr) (la86 ca86 : Nat), cellH h83 ⟨b1, 7, none⟩ = some (.slice a86 la86 ca86) ∧
 VSlice 1 a85 ca85 0 (la86 : Int) (ca85 : Int) fun a87 la87 ca87 =>
 VStore h83 ⟨b66, 7, none⟩ (.slice a87 la87 ca87) fun h88 =>
 ∃ x89 : Int, cellH h88 ⟨b66, 0, none⟩ = some (.int .u32 x89) ∧
 ∃ b90 : Bool, cellH h88 ⟨b66, 1, none⟩ = some (.bool b90) ∧
 ∃ x91 : Int, cellH h88 ⟨b66, 2, none⟩ = some (.int .i64 x91) ∧
 ∃ x92 : Int, cellH h88 ⟨b66, 3, none⟩ = some (.int .i64 x92) ∧
 ∃ (a93 : Option Addr) (la93 ca93 : Nat), cellH h88 ⟨b66, 4, none⟩ = some (.slice a93 la93 ca93) ∧
 ∃ (a94 : Option Addr) (la94 ca94 : Nat), cellH h88 ⟨b66, 5, none⟩ = some (.slice a94 la94 ca94) ∧
 ∃ (a95 : Option Addr) (la95 ca95 : Nat), cellH h88 ⟨b66, 6, none⟩ = some (.slice a95 la95 ca95) ∧
 ∃ (a96 : Option Addr) (la96 ca96 : Nat), cellH h88 ⟨b66, 7, none⟩ = some (.slice a96 la96 ca96) ∧
 ∃ x97 : Int, cellH h88 ⟨b66, 8, none⟩ = some (.int .i64 x97) ∧
 ∃ x98 : Int, cellH h88 ⟨b66, 9, none⟩ = some (.int .i64 x98) ∧
 ∃ x99 : Int, cellH h88 ⟨b66, 10, none⟩ = some (.int .i64 x99) ∧
 ∃ b100 : Bool, cellH h88 ⟨b66, 11, none⟩ = some (.bool b100) ∧
 ∃ x101 : Int, cellH h88 ⟨b1, 0, none⟩ = some (.int .u32 x101) ∧
 ∃ b102 : Bool, cellH h88 ⟨b1, 1, none⟩ = some (.bool b102) ∧
 ∃ x103 : Int, cellH h88 ⟨b1, 2, none⟩ = some (.int .i64 x103) ∧
 ∃ x104 : Int, cellH h88 ⟨b1, 3, none⟩ = some (.int .i64 x104) ∧
 ∃ (a105 : Option Addr) (la105 ca105 : Nat), cellH h88 ⟨b1, 4, none⟩ = some (.slice a105 la105 ca105) ∧
 ∃ (a106 : Option Addr) (la106 ca106 : Nat), cellH h88 ⟨b1, 5, none⟩ = some (.slice a106 la106 ca106) ∧
 ∃ (a107 : Option Addr) (la107 ca107 : Nat), cellH h88 ⟨b1, 6, none⟩ = some (.slice a107 la107 ca107) ∧
 ∃ (a108 : Option Addr) (la108 ca108 : Nat), cellH h88 ⟨b1, 7, none⟩ = some (.slice a108 la108 ca108) ∧
 ∃ x109 : Int, cellH h88 ⟨b1, 8, none⟩ = some (.int .i64 x109) ∧
 ∃ x110 : Int, cellH h88 ⟨b1, 9, none⟩ = some (.int .i64 x110) ∧
 ∃ x111 : Int, cellH h88 ⟨b1, 10, none⟩ = some (.int .i64 x111) ∧
 ∃ b112 : Bool, cellH h88 ⟨b1, 11, none⟩ = some (.bool b112) ∧
 CallsH Tryz.prog 21 #[.agg #[.int .u32 x89, .bool b90, .int .i64 x91, .int .i64 x92, .slice a93 la93 ca93, .slice a94 la94 ca94, .slice a95 la95 ca95, .slice a96 la96 ca96, .int .i64 x97, .int .i64 x98, .int .i64 x99, .bool b100], .agg #[.int .u32 x101, .bool b102, .int .i64 x103, .int .i64 x104, .slice a105 la105 ca105, .slice a106 la106 ca106, .slice a107 la107 ca107, .slice a108 la108 ca108, .int .i64 x109, .int .i64 x110, .int .i64 x111, .bool b112]] h88 fun v113 h114 =>
 ∃ b115 : Bool, v113 = .bool b115 ∧
 R (.bool b115) h114))
theorem vf35 (a0t : Option Addr) (a1r_0 : Int) (a1r_1 : Bool) (a1r_2 : Int) (a1r_3 : Int) (a1r_4 : Option Addr) (la1r_4 ca1r_4 : Nat) (a1r_5 : Option Addr) (la1r_5 ca1r_5 : Nat) (a1r_6 : Option Addr) (la1r_6 ca1r_6 : Nat) (a1r_7 : Option Addr) (la1r_7 ca1r_7 : Nat) (a1r_8 : Int) (a1r_9 : Int) (a1r_10 : Int) (a1r_11 : Bool) (h : Heap) (R : KV) (hF : F35 a0t a1r_0 a1r_1 a1r_2 a1r_3 a1r_4 la1r_4 ca1r_4 a1r_5 la1r_5 ca1r_5 a1r_6 la1r_6 ca1r_6 a1r_7 la1r_7 ca1r_7 a1r_8 a1r_9 a1r_10 a1r_11 h R) : CallsH Tryz.prog 35 #[.pointer a0t, .agg #[.int .u32 a1r_0, .bool a1r_1, .int .i64 a1r_2, .int .i64 a1r_3, .slice a1r_4 la1r_4 ca1r_4, .slice a1r_5 la1r_5 ca1r_5, .slice a1r_6 la1r_6 ca1r_6, .slice a1r_7 la1r_7 ca1r_7, .int .i64 a1r_8, .int .i64 a1r_9, .int .i64 a1r_10, .bool a1r_11]] h R :=
 calls_of_form (A := an35) (fn := Tryz.f35) (c := c35) (args := [.pointer a0t, .agg #[.int .u32 a1r_0, .bool a1r_1, .int .i64 a1r_2, .int .i64 a1r_3, .slice a1r_4 la1r_4 ca1r_4, .slice a1r_5 la1r_5 ca1r_5, .slice a1r_6 la1r_6 ca1r_6, .slice a1r_7 la1r_7 ca1r_7, .int .i64 a1r_8, .int .i64 a1r_9, .int .i64 a1r_10, .bool a1r_11]]) Tryz.func35 (by kernel_rfl) mixed (by kernel_rfl) (by kernel_rfl : F35 a0t a1r_0 a1r_1 a1r_2 a1r_3 a1r_4 la1r_4 ca1r_4 a1r_5 la1r_5 ca1r_5 a1r_6 la1r_6 ca1r_6 a1r_7 la1r_7 ca1r_7 a1r_8 a1r_9 a1r_10 a1r_11 h R = vcF Tryz.prog an35 Tryz.f35 c35 [.pointer a0t, .agg #[.int .u32 a1r_0, .bool a1r_1, .int .i64 a1r_2, .int .i64 a1r_3, .slice a1r_4 la1r_4 ca1r_4, .slice a1r_5 la1r_5 ca1r_5, .slice a1r_6 la1r_6 ca1r_6, .slice a1r_7 la1r_7 ca1r_7, .int .i64 a1r_8, .int .i64 a1r_9, .int .i64 a1r_10, .bool a1r_11]] h R) hF
/-! ### 36 refrain/refrainref30.Told -/
noncomputable def c36 : Code := match Tryz.f36.body with | some c => c | none => .skip
noncomputable def an36 : Ann := { loops := fun i => match i with | 11 => [(7, .int .i64)] | 17 => [(9, .int .i64)] | 25 => [(12, .int .i64)] | _ => [], draws := fun i => #[], joins := fun i => none }
def G36c (b1 b16 b18 : Nat) (h88 : Heap) (R : KV) : Prop :=
 CallsH Tryz.prog 94 #[.pointer (some ⟨b16, 0, none⟩)] h88 fun v103 h104 =>
 ∃ x105 : Int, v103 = .int .i64 x105 ∧
 VStore h104 ⟨b18, 8, none⟩ (.int .i64 x105) fun h106 =>
 CallsH Tryz.prog 94 #[.pointer (some ⟨b16, 0, none⟩)] h106 fun v107 h108 =>
 ∃ x109 : Int, v107 = .int .i64 x109 ∧
 VStore h108 ⟨b18, 9, none⟩ (.int .i64 x109) fun h110 =>
 CallsH Tryz.prog 94 #[.pointer (some ⟨b16, 0, none⟩)] h110 fun v111 h112 =>
 ∃ x113 : Int, v111 = .int .i64 x113 ∧
 VStore h112 ⟨b18, 10, none⟩ (.int .i64 x113) fun h114 =>
 CallsH Tryz.prog 93 #[.pointer (some ⟨b16, 0, none⟩)] h114 fun v115 h116 =>
 ∃ b117 : Bool, v115 = .bool b117 ∧
 VStore h116 ⟨b18, 11, none⟩ (.bool b117) fun h118 =>
 ∃ b119 : Bool, cellH h118 ⟨b16, 1, none⟩ = some (.bool b119) ∧
 cond b119 (storeL ⟨b1, 0, none⟩ 0 [.int .u32 0, .bool false, .int .i64 0, .int .i64 0, .slice none 0 0, .slice none 0 0, .slice none 0 0, .slice none 0 0, .int .i64 0, .int .i64 0, .int .i64 0, .bool false] h118 fun h120 =>
 ∃ x121 : Int, cellH h120 ⟨b1, 0, none⟩ = some (.int .u32 x121) ∧
 ∃ b122 : Bool, cellH h120 ⟨b1, 1, none⟩ = some (.bool b122) ∧
 ∃ x123 : Int, cellH h120 ⟨b1, 2, none⟩ = some (.int .i64 x123) ∧
 ∃ x124 : Int, cellH h120 ⟨b1, 3, none⟩ = some (.int .i64 x124) ∧
 ∃ (a125 : Option Addr) (la125 ca125 : Nat), cellH h120 ⟨b1, 4, none⟩ = some (.slice a125 la125 ca125) ∧
 ∃ (a126 : Option Addr) (la126 ca126 : Nat), cellH h120 ⟨b1, 5, none⟩ = some (.slice a126 la126 ca126) ∧
 ∃ (a127 : Option Addr) (la127 ca127 : Nat), cellH h120 ⟨b1, 6, none⟩ = some (.slice a127 la127 ca127) ∧
 ∃ (a128 : Option Addr) (la128 ca128 : Nat), cellH h120 ⟨b1, 7, none⟩ = some (.slice a128 la128 ca128) ∧
 ∃ x129 : Int, cellH h120 ⟨b1, 8, none⟩ = some (.int .i64 x129) ∧
 ∃ x130 : Int, cellH h120 ⟨b1, 9, none⟩ = some (.int .i64 x130) ∧
 ∃ x131 : Int, cellH h120 ⟨b1, 10, none⟩ = some (.int .i64 x131) ∧
 ∃ b132 : Bool, cellH h120 ⟨b1, 11, none⟩ = some (.bool b132) ∧
 R (.tuple #[.agg #[.int .u32 x121, .bool b122, .int .i64 x123, .int .i64 x124, .slice a125 la125 ca125, .slice a126 la126 ca126, .slice a127 la127 ca127, .slice a128 la128 ca128, .int .i64 x129, .int .i64 x130, .int .i64 x131, .bool b132], .int .i64 301]) h120) (∃ (a133 : Option Addr) (la133 ca133 : Nat), cellH h118 ⟨b16, 0, none⟩ = some (.slice a133 la133 ca133) ∧
 cond (decide ((la133 : Int) > (0 : Int)))
 (storeL ⟨b1, 0, none⟩ 0 [.int .u32 0, .bool false, .int .i64 0, .int .i64 0, .slice none 0 0, .slice none 0 0, .slice none 0 0, .slice none 0 0, .int .i64 0, .int .i64 0, .int .i64 0, .bool false] h118 fun h134 =>
 ∃ x135 : Int, cellH h134 ⟨b1, 0, none⟩ = some (.int .u32 x135) ∧
 ∃ b136 : Bool, cellH h134 ⟨b1, 1, none⟩ = some (.bool b136) ∧
 ∃ x137 : Int, cellH h134 ⟨b1, 2, none⟩ = some (.int .i64 x137) ∧
 ∃ x138 : Int, cellH h134 ⟨b1, 3, none⟩ = some (.int .i64 x138) ∧
 ∃ (a139 : Option Addr) (la139 ca139 : Nat), cellH h134 ⟨b1, 4, none⟩ = some (.slice a139 la139 ca139) ∧
 ∃ (a140 : Option Addr) (la140 ca140 : Nat), cellH h134 ⟨b1, 5, none⟩ = some (.slice a140 la140 ca140) ∧
 ∃ (a141 : Option Addr) (la141 ca141 : Nat), cellH h134 ⟨b1, 6, none⟩ = some (.slice a141 la141 ca141) ∧
 ∃ (a142 : Option Addr) (la142 ca142 : Nat), cellH h134 ⟨b1, 7, none⟩ = some (.slice a142 la142 ca142) ∧
 ∃ x143 : Int, cellH h134 ⟨b1, 8, none⟩ = some (.int .i64 x143) ∧
 ∃ x144 : Int, cellH h134 ⟨b1, 9, none⟩ = some (.int .i64 x144) ∧
 ∃ x145 : Int, cellH h134 ⟨b1, 10, none⟩ = some (.int .i64 x145) ∧
 ∃ b146 : Bool, cellH h134 ⟨b1, 11, none⟩ = some (.bool b146) ∧
 R (.tuple #[.agg #[.int .u32 x135, .bool b136, .int .i64 x137, .int .i64 x138, .slice a139 la139 ca139, .slice a140 la140 ca140, .slice a141 la141 ca141, .slice a142 la142 ca142, .int .i64 x143, .int .i64 x144, .int .i64 x145, .bool b146], .int .i64 301]) h134)
 (∃ x147 : Int, cellH h118 ⟨b18, 0, none⟩ = some (.int .u32 x147) ∧
 ∃ b148 : Bool, cellH h118 ⟨b18, 1, none⟩ = some (.bool b148) ∧
 ∃ x149 : Int, cellH h118 ⟨b18, 2, none⟩ = some (.int .i64 x149) ∧
 ∃ x150 : Int, cellH h118 ⟨b18, 3, none⟩ = some (.int .i64 x150) ∧
 ∃ (a151 : Option Addr) (la151 ca151 : Nat), cellH h118 ⟨b18, 4, none⟩ = some (.slice a151 la151 ca151) ∧
 ∃ (a152 : Option Addr) (la152 ca152 : Nat), cellH h118 ⟨b18, 5, none⟩ = some (.slice a152 la152 ca152) ∧
 ∃ (a153 : Option Addr) (la153 ca153 : Nat), cellH h118 ⟨b18, 6, none⟩ = some (.slice a153 la153 ca153) ∧
 ∃ (a154 : Option Addr) (la154 ca154 : Nat), cellH h118 ⟨b18, 7, none⟩ = some (.slice a154 la154 ca154) ∧
 ∃ x155 : Int, cellH h118 ⟨b18, 8, none⟩ = some (.int .i64 x155) ∧
 ∃ x156 : Int, cellH h118 ⟨b18, 9, none⟩ = some (.int .i64 x156) ∧
 ∃ x157 : Int, cellH h118 ⟨b18, 10, none⟩ = some (.int .i64 x157) ∧
 ∃ b158 : Bool, cellH h118 ⟨b18, 11, none⟩ = some (.bool b158) ∧
 storeL ⟨b1, 0, none⟩ 0 [.int .u32 x147, .bool b148, .int .i64 x149, .int .i64 x150, .slice a151 la151 ca151, .slice a152 la152 ca152, .slice a153 la153 ca153, .slice a154 la154 ca154, .int .i64 x155, .int .i64 x156, .int .i64 x157, .bool b158] h118 fun h159 =>
 ∃ x160 : Int, cellH h159 ⟨b1, 0, none⟩ = some (.int .u32 x160) ∧
 ∃ b161 : Bool, cellH h159 ⟨b1, 1, none⟩ = some (.bool b161) ∧
 ∃ x162 : Int, cellH h159 ⟨b1, 2, none⟩ = some (.int .i64 x162) ∧
 ∃ x163 : Int, cellH h159 ⟨b1, 3, none⟩ = some (.int .i64 x163) ∧
 ∃ (a164 : Option Addr) (la164 ca164 : Nat), cellH h159 ⟨b1, 4, none⟩ = some (.slice a164 la164 ca164) ∧
 ∃ (a165 : Option Addr) (la165 ca165 : Nat), cellH h159 ⟨b1, 5, none⟩ = some (.slice a165 la165 ca165) ∧
 ∃ (a166 : Option Addr) (la166 ca166 : Nat), cellH h159 ⟨b1, 6, none⟩ = some (.slice a166 la166 ca166) ∧
 ∃ (a167 : Option Addr) (la167 ca167 : Nat), cellH h159 ⟨b1, 7, none⟩ = some (.slice a167 la167 ca167) ∧
 ∃ x168 : Int, cellH h159 ⟨b1, 8, none⟩ = some (.int .i64 x168) ∧
 ∃ x169 : Int, cellH h159 ⟨b1, 9, none⟩ = some (.int .i64 x169) ∧
 ∃ x170 : Int, cellH h159 ⟨b1, 10, none⟩ = some (.int .i64 x170) ∧
 ∃ b171 : Bool, cellH h159 ⟨b1, 11, none⟩ = some (.bool b171) ∧
 R (.tuple #[.agg #[.int .u32 x160, .bool b161, .int .i64 x162, .int .i64 x163, .slice a164 la164 ca164, .slice a165 la165 ca165, .slice a166 la166 ca166, .slice a167 la167 ca167, .int .i64 x168, .int .i64 x169, .int .i64 x170, .bool b171], .int .i64 0]) h159))
def G36b (b1 b16 b18 : Nat) (h61 : Heap) (R : KV) : Prop :=
 CallsH Tryz.prog 87 #[.pointer (some ⟨b16, 0, none⟩)] h61 fun v79 h80 =>
 ∃ (a81 : Option Addr) (la81 ca81 : Nat), v79 = .slice a81 la81 ca81 ∧
 VStore h80 ⟨b18, 6, none⟩ (.slice a81 la81 ca81) fun h82 =>
 CallsH Tryz.prog 95 #[.pointer (some ⟨b16, 0, none⟩)] h82 fun v83 h84 =>
 ∃ x85 : Int, v83 = .int .i64 x85 ∧
 ∃ I86 : Nat → Heap → Int → Prop, (∃ n87, I86 n87 h84 0) ∧
 ∀ (n87 : Nat) (h88 : Heap) (g89 : Env) (i_90 : Int), I86 n87 h88 i_90 →
 cond (decide (i_90 < x85)) (∃ b92 : Bool, cellH h88 ⟨b16, 1, none⟩ = some (.bool b92) ∧
 cond (!b92)
 (CallsH Tryz.prog 96 #[.pointer (some ⟨b16, 0, none⟩)] h88 fun v93 h94 =>
 ∃ (a95 : Option Addr) (la95 ca95 : Nat), v93 = .slice a95 la95 ca95 ∧
 ∃ (a96 : Option Addr) (la96 ca96 : Nat), cellH h94 ⟨b18, 7, none⟩ = some (.slice a96 la96 ca96) ∧
 VNew h94 (.cells #[.slice a95 la95 ca95] 112) fun b97 h98 =>
 RunsTo Tryz.prog (Builtin.append_ #[45, 45] 45 #[.slice a96 la96 ca96, .slice (some ⟨b97, 0, none⟩) 1 1]) h98 fun v99 h100 =>
 ∃ (a101 : Option Addr) (la101 ca101 : Nat), v99 = .slice a101 la101 ca101 ∧
 VStore h100 ⟨b18, 7, none⟩ (.slice a101 la101 ca101) fun h102 =>
 ∃ m91, m91 < n87 ∧ I86 m91 h102 (IntKind.i64.wrap (i_90 + 1)))
 (G36c b1 b16 b18 h88 R)) (G36c b1 b16 b18 h88 R)
def G36a (b1 b16 b18 : Nat) (h41 : Heap) (R : KV) : Prop :=
 CallsH Tryz.prog 95 #[.pointer (some ⟨b16, 0, none⟩)] h41 fun v56 h57 =>
 ∃ x58 : Int, v56 = .int .i64 x58 ∧
 ∃ I59 : Nat → Heap → Int → Prop, (∃ n60, I59 n60 h57 0) ∧
 ∀ (n60 : Nat) (h61 : Heap) (g62 : Env) (i_63 : Int), I59 n60 h61 i_63 →
 cond (decide (i_63 < x58)) (∃ b65 : Bool, cellH h61 ⟨b16, 1, none⟩ = some (.bool b65) ∧
 cond (!b65)
 (CallsH Tryz.prog 86 #[.pointer (some ⟨b16, 0, none⟩)] h61 fun v66 h67 =>
 ∃ s68 : ByteArray, v66 = .string s68 ∧
 CallsH Tryz.prog 96 #[.pointer (some ⟨b16, 0, none⟩)] h67 fun v69 h70 =>
 ∃ (a71 : Option Addr) (la71 ca71 : Nat), v69 = .slice a71 la71 ca71 ∧
 ∃ (a72 : Option Addr) (la72 ca72 : Nat), cellH h70 ⟨b18, 5, none⟩ = some (.slice a72 la72 ca72) ∧
 VNew h70 (.cells #[.string s68, .slice a71 la71 ca71] 114) fun b73 h74 =>
 RunsTo Tryz.prog (Builtin.append_ #[61, 61] 61 #[.slice a72 la72 ca72, .slice (some ⟨b73, 0, none⟩) 1 1]) h74 fun v75 h76 =>
 ∃ (a77 : Option Addr) (la77 ca77 : Nat), v75 = .slice a77 la77 ca77 ∧
 VStore h76 ⟨b18, 5, none⟩ (.slice a77 la77 ca77) fun h78 =>
 ∃ m64, m64 < n60 ∧ I59 m64 h78 (IntKind.i64.wrap (i_63 + 1)))
 (G36b b1 b16 b18 h61 R)) (G36b b1 b16 b18 h61 R)
def F36 (a0payload : Option Addr) (la0payload ca0payload : Nat) (h : Heap) (R : KV) : Prop :=
 VNew h (.cells #[.int .u32 0, .bool false, .int .i64 0, .int .i64 0, .slice none 0 0, .slice none 0 0, .slice none 0 0, .slice none 0 0, .int .i64 0, .int .i64 0, .int .i64 0, .bool false] 65) fun b1 h2 =>
 cond (decide ((la0payload : Int) > (65528 : Int)))
 (storeL ⟨b1, 0, none⟩ 0 [.int .u32 0, .bool false, .int .i64 0, .int .i64 0, .slice none 0 0, .slice none 0 0, .slice none 0 0, .slice none 0 0, .int .i64 0, .int .i64 0, .int .i64 0, .bool false] h2 fun h3 =>
 ∃ x4 : Int, cellH h3 ⟨b1, 0, none⟩ = some (.int .u32 x4) ∧
 ∃ b5 : Bool, cellH h3 ⟨b1, 1, none⟩ = some (.bool b5) ∧
 ∃ x6 : Int, cellH h3 ⟨b1, 2, none⟩ = some (.int .i64 x6) ∧
 ∃ x7 : Int, cellH h3 ⟨b1, 3, none⟩ = some (.int .i64 x7) ∧
 ∃ (a8 : Option Addr) (la8 ca8 : Nat), cellH h3 ⟨b1, 4, none⟩ = some (.slice a8 la8 ca8) ∧
 ∃ (a9 : Option Addr) (la9 ca9 : Nat), cellH h3 ⟨b1, 5, none⟩ = some (.slice a9 la9 ca9) ∧
 ∃ (a10 : Option Addr) (la10 ca10 : Nat), cellH h3 ⟨b1, 6, none⟩ = some (.slice a10 la10 ca10) ∧
 ∃ (a11 : Option Addr) (la11 ca11 : Nat), cellH h3 ⟨b1, 7, none⟩ = some (.slice a11 la11 ca11) ∧
 ∃ x12 : Int, cellH h3 ⟨b1, 8, none⟩ = some (.int .i64 x12) ∧
 ∃ x13 : Int, cellH h3 ⟨b1, 9, none⟩ = some (.int .i64 x13) ∧
 ∃ x14 : Int, cellH h3 ⟨b1, 10, none⟩ = some (.int .i64 x14) ∧
 ∃ b15 : Bool, cellH h3 ⟨b1, 11, none⟩ = some (.bool b15) ∧
 R (.tuple #[.agg #[.int .u32 x4, .bool b5, .int .i64 x6, .int .i64 x7, .slice a8 la8 ca8, .slice a9 la9 ca9, .slice a10 la10 ca10, .slice a11 la11 ca11, .int .i64 x12, .int .i64 x13, .int .i64 x14, .bool b15], .int .i64 2]) h3)
 (VNew h2 (.cells #[.slice a0payload la0payload ca0payload, .bool false] 158) fun b16 h17 =>
 VNew h17 (.cells #[.int .u32 0, .bool false, .int .i64 0, .int .i64 0, .slice none 0 0, .slice none 0 0, .slice none 0 0, .slice none 0 0, .int .i64 0, .int .i64 0, .int .i64 0, .bool false] 65) fun b18 h19 =>
 CallsH Tryz.prog 93 #[.pointer (some ⟨b16, 0, none⟩)] h19 fun v20 h21 =>
 ∃ b22 : Bool, v20 = .bool b22 ∧
 VStore h21 ⟨b18, 1, none⟩ (.bool b22) fun h23 =>
 CallsH Tryz.prog 85 #[.pointer (some ⟨b16, 0, none⟩)] h23 fun v24 h25 =>
 ∃ x26 : Int, v24 = .int .u32 x26 ∧
 VStore h25 ⟨b18, 0, none⟩ (.int .u32 x26) fun h27 =>
 CallsH Tryz.prog 94 #[.pointer (some ⟨b16, 0, none⟩)] h27 fun v28 h29 =>
 ∃ x30 : Int, v28 = .int .i64 x30 ∧
 VStore h29 ⟨b18, 2, none⟩ (.int .i64 x30) fun h31 =>
 CallsH Tryz.prog 94 #[.pointer (some ⟨b16, 0, none⟩)] h31 fun v32 h33 =>
 ∃ x34 : Int, v32 = .int .i64 x34 ∧
 VStore h33 ⟨b18, 3, none⟩ (.int .i64 x34) fun h35 =>
 CallsH Tryz.prog 95 #[.pointer (some ⟨b16, 0, none⟩)] h35 fun v36 h37 =>
 ∃ x38 : Int, v36 = .int .i64 x38 ∧
 ∃ I39 : Nat → Heap → Int → Prop, (∃ n40, I39 n40 h37 0) ∧
 ∀ (n40 : Nat) (h41 : Heap) (g42 : Env) (i_43 : Int), I39 n40 h41 i_43 →
 cond (decide (i_43 < x38)) (∃ b45 : Bool, cellH h41 ⟨b16, 1, none⟩ = some (.bool b45) ∧
 cond (!b45)
 (CallsH Tryz.prog 94 #[.pointer (some ⟨b16, 0, none⟩)] h41 fun v46 h47 =>
 ∃ x48 : Int, v46 = .int .i64 x48 ∧
 ∃ (a49 : Option Addr) (la49 ca49 : Nat), cellH h47 ⟨b18, 4, none⟩ = some (.slice a49 la49 ca49) ∧
 VNew h47 (.cells #[.int .i64 x48] 38) fun b50 h51 =>
 RunsTo Tryz.prog (Builtin.append_ #[60, 60] 60 #[.slice a49 la49 ca49, .slice (some ⟨b50, 0, none⟩) 1 1]) h51 fun v52 h53 =>
 ∃ (a54 : Option Addr) (la54 ca54 : Nat), v52 = .slice a54 la54 ca54 ∧
 VStore h53 ⟨b18, 4, none⟩ (.slice a54 la54 ca54) fun h55 =>
 ∃ m44, m44 < n40 ∧ I39 m44 h55 (IntKind.i64.wrap (i_43 + 1)))
 (G36a b1 b16 b18 h41 R)) (G36a b1 b16 b18 h41 R))
theorem vf36 (a0payload : Option Addr) (la0payload ca0payload : Nat) (h : Heap) (R : KV) (hF : F36 a0payload la0payload ca0payload h R) : CallsH Tryz.prog 36 #[.slice a0payload la0payload ca0payload] h R :=
 calls_of_form (A := an36) (fn := Tryz.f36) (c := c36) (args := [.slice a0payload la0payload ca0payload]) Tryz.func36 (by kernel_rfl) mixed (by kernel_rfl) (by kernel_rfl : F36 a0payload la0payload ca0payload h R = vcF Tryz.prog an36 Tryz.f36 c36 [.slice a0payload la0payload ca0payload] h R) hF
/-! ### 77 refrain/refrainref30.speaks -/
noncomputable def c77 : Code := match Tryz.f77.body with | some c => c | none => .skip
noncomputable def an77 : Ann := { loops := fun i => [], draws := fun i => #[], joins := fun i => none }
def F77 (a0kind : Int) (h : Heap) (R : KV) : Prop :=
 cond (a0kind == (2 : Int)) (cond (a0kind == (1 : Int)) (cond (a0kind == (5 : Int)) (cond (a0kind == (4 : Int)) (R (.tuple #[.bool true, .bool true, .bool true, .bool true]) h) (R (.tuple #[.bool true, .bool true, .bool true, .bool (a0kind == (12 : Int))]) h)) (cond (a0kind == (4 : Int)) (R (.tuple #[.bool true, .bool true, .bool (a0kind == (12 : Int)), .bool true]) h) (R (.tuple #[.bool true, .bool true, .bool (a0kind == (12 : Int)), .bool (a0kind == (12 : Int))]) h))) (cond (a0kind == (2 : Int)) (cond (a0kind == (5 : Int)) (cond (a0kind == (4 : Int)) (R (.tuple #[.bool true, .bool true, .bool true, .bool true]) h) (R (.tuple #[.bool true, .bool true, .bool true, .bool (a0kind == (12 : Int))]) h)) (cond (a0kind == (4 : Int)) (R (.tuple #[.bool true, .bool true, .bool (a0kind == (12 : Int)), .bool true]) h) (R (.tuple #[.bool true, .bool true, .bool (a0kind == (12 : Int)), .bool (a0kind == (12 : Int))]) h))) (cond (a0kind == (9 : Int)) (cond (a0kind == (5 : Int)) (cond (a0kind == (4 : Int)) (R (.tuple #[.bool true, .bool true, .bool true, .bool true]) h) (R (.tuple #[.bool true, .bool true, .bool true, .bool (a0kind == (12 : Int))]) h)) (cond (a0kind == (4 : Int)) (R (.tuple #[.bool true, .bool true, .bool (a0kind == (12 : Int)), .bool true]) h) (R (.tuple #[.bool true, .bool true, .bool (a0kind == (12 : Int)), .bool (a0kind == (12 : Int))]) h))) (cond (a0kind == (5 : Int)) (cond (a0kind == (4 : Int)) (R (.tuple #[.bool true, .bool (a0kind == (10 : Int)), .bool true, .bool true]) h) (R (.tuple #[.bool true, .bool (a0kind == (10 : Int)), .bool true, .bool (a0kind == (12 : Int))]) h)) (cond (a0kind == (4 : Int)) (R (.tuple #[.bool true, .bool (a0kind == (10 : Int)), .bool (a0kind == (12 : Int)), .bool true]) h) (R (.tuple #[.bool true, .bool (a0kind == (10 : Int)), .bool (a0kind == (12 : Int)), .bool (a0kind == (12 : Int))]) h)))))) (cond (a0kind == (3 : Int)) (cond (a0kind == (1 : Int)) (cond (a0kind == (5 : Int)) (cond (a0kind == (4 : Int)) (R (.tuple #[.bool true, .bool true, .bool true, .bool true]) h) (R (.tuple #[.bool true, .bool true, .bool true, .bool (a0kind == (12 : Int))]) h)) (cond (a0kind == (4 : Int)) (R (.tuple #[.bool true, .bool true, .bool (a0kind == (12 : Int)), .bool true]) h) (R (.tuple #[.bool true, .bool true, .bool (a0kind == (12 : Int)), .bool (a0kind == (12 : Int))]) h))) (cond (a0kind == (2 : Int)) (cond (a0kind == (5 : Int)) (cond (a0kind == (4 : Int)) (R (.tuple #[.bool true, .bool true, .bool true, .bool true]) h) (R (.tuple #[.bool true, .bool true, .bool true, .bool (a0kind == (12 : Int))]) h)) (cond (a0kind == (4 : Int)) (R (.tuple #[.bool true, .bool true, .bool (a0kind == (12 : Int)), .bool true]) h) (R (.tuple #[.bool true, .bool true, .bool (a0kind == (12 : Int)), .bool (a0kind == (12 : Int))]) h))) (cond (a0kind == (9 : Int)) (cond (a0kind == (5 : Int)) (cond (a0kind == (4 : Int)) (R (.tuple #[.bool true, .bool true, .bool true, .bool true]) h) (R (.tuple #[.bool true, .bool true, .bool true, .bool (a0kind == (12 : Int))]) h)) (cond (a0kind == (4 : Int)) (R (.tuple #[.bool true, .bool true, .bool (a0kind == (12 : Int)), .bool true]) h) (R (.tuple #[.bool true, .bool true, .bool (a0kind == (12 : Int)), .bool (a0kind == (12 : Int))]) h))) (cond (a0kind == (5 : Int)) (cond (a0kind == (4 : Int)) (R (.tuple #[.bool true, .bool (a0kind == (10 : Int)), .bool true, .bool true]) h) (R (.tuple #[.bool true, .bool (a0kind == (10 : Int)), .bool true, .bool (a0kind == (12 : Int))]) h)) (cond (a0kind == (4 : Int)) (R (.tuple #[.bool true, .bool (a0kind == (10 : Int)), .bool (a0kind == (12 : Int)), .bool true]) h) (R (.tuple #[.bool true, .bool (a0kind == (10 : Int)), .bool (a0kind == (12 : Int)), .bool (a0kind == (12 : Int))]) h)))))) (cond (a0kind == (8 : Int)) (cond (a0kind == (1 : Int)) (cond (a0kind == (5 : Int)) (cond (a0kind == (4 : Int)) (R (.tuple #[.bool true, .bool true, .bool true, .bool true]) h) (R (.tuple #[.bool true, .bool true, .bool true, .bool (a0kind == (12 : Int))]) h)) (cond (a0kind == (4 : Int)) (R (.tuple #[.bool true, .bool true, .bool (a0kind == (12 : Int)), .bool true]) h) (R (.tuple #[.bool true, .bool true, .bool (a0kind == (12 : Int)), .bool (a0kind == (12 : Int))]) h))) (cond (a0kind == (2 : Int)) (cond (a0kind == (5 : Int)) (cond (a0kind == (4 : Int)) (R (.tuple #[.bool true, .bool true, .bool true, .bool true]) h) (R (.tuple #[.bool true, .bool true, .bool true, .bool (a0kind == (12 : Int))]) h)) (cond (a0kind == (4 : Int)) (R (.tuple #[.bool true, .bool true, .bool (a0kind == (12 : Int)), .bool true]) h) (R (.tuple #[.bool true, .bool true, .bool (a0kind == (12 : Int)), .bool (a0kind == (12 : Int))]) h))) (cond (a0kind == (9 : Int)) (cond (a0kind == (5 : Int)) (cond (a0kind == (4 : Int)) (R (.tuple #[.bool true, .bool true, .bool true, .bool true]) h) (R (.tuple #[.bool true, .bool true, .bool true, .bool (a0kind == (12 : Int))]) h)) (cond (a0kind == (4 : Int)) (R (.tuple #[.bool true, .bool true, .bool (a0kind == (12 : Int)), .bool true]) h) (R (.tuple #[.bool true, .bool true, .bool (a0kind == (12 : Int)), .bool (a0kind == (12 : Int))]) h))) (cond (a0kind == (5 : Int)) (cond (a0kind == (4 : Int)) (R (.tuple #[.bool true, .bool (a0kind == (10 : Int)), .bool true, .bool true]) h) (R (.tuple #[.bool true, .bool (a0kind == (10 : Int)), .bool true, .bool (a0kind == (12 : Int))]) h)) (cond (a0kind == (4 : Int)) (R (.tuple #[.bool true, .bool (a0kind == (10 : Int)), .bool (a0kind == (12 : Int)), .bool true]) h) (R (.tuple #[.bool true, .bool (a0kind == (10 : Int)), .bool (a0kind == (12 : Int)), .bool (a0kind == (12 : Int))]) h)))))) (cond (a0kind == (1 : Int)) (cond (a0kind == (5 : Int)) (cond (a0kind == (4 : Int)) (R (.tuple #[.bool (a0kind == (11 : Int)), .bool true, .bool true, .bool true]) h) (R (.tuple #[.bool (a0kind == (11 : Int)), .bool true, .bool true, .bool (a0kind == (12 : Int))]) h)) (cond (a0kind == (4 : Int)) (R (.tuple #[.bool (a0kind == (11 : Int)), .bool true, .bool (a0kind == (12 : Int)), .bool true]) h) (R (.tuple #[.bool (a0kind == (11 : Int)), .bool true, .bool (a0kind == (12 : Int)), .bool (a0kind == (12 : Int))]) h))) (cond (a0kind == (2 : Int)) (cond (a0kind == (5 : Int)) (cond (a0kind == (4 : Int)) (R (.tuple #[.bool (a0kind == (11 : Int)), .bool true, .bool true, .bool true]) h) (R (.tuple #[.bool (a0kind == (11 : Int)), .bool true, .bool true, .bool (a0kind == (12 : Int))]) h)) (cond (a0kind == (4 : Int)) (R (.tuple #[.bool (a0kind == (11 : Int)), .bool true, .bool (a0kind == (12 : Int)), .bool true]) h) (R (.tuple #[.bool (a0kind == (11 : Int)), .bool true, .bool (a0kind == (12 : Int)), .bool (a0kind == (12 : Int))]) h))) (cond (a0kind == (9 : Int)) (cond (a0kind == (5 : Int)) (cond (a0kind == (4 : Int)) (R (.tuple #[.bool (a0kind == (11 : Int)), .bool true, .bool true, .bool true]) h) (R (.tuple #[.bool (a0kind == (11 : Int)), .bool true, .bool true, .bool (a0kind == (12 : Int))]) h)) (cond (a0kind == (4 : Int)) (R (.tuple #[.bool (a0kind == (11 : Int)), .bool true, .bool (a0kind == (12 : Int)), .bool true]) h) (R (.tuple #[.bool (a0kind == (11 : Int)), .bool true, .bool (a0kind == (12 : Int)), .bool (a0kind == (12 : Int))]) h))) (cond (a0kind == (5 : Int)) (cond (a0kind == (4 : Int)) (R (.tuple #[.bool (a0kind == (11 : Int)), .bool (a0kind == (10 : Int)), .bool true, .bool true]) h) (R (.tuple #[.bool (a0kind == (11 : Int)), .bool (a0kind == (10 : Int)), .bool true, .bool (a0kind == (12 : Int))]) h)) (cond (a0kind == (4 : Int)) (R (.tuple #[.bool (a0kind == (11 : Int)), .bool (a0kind == (10 : Int)), .bool (a0kind == (12 : Int)), .bool true]) h) (R (.tuple #[.bool (a0kind == (11 : Int)), .bool (a0kind == (10 : Int)), .bool (a0kind == (12 : Int)), .bool (a0kind == (12 : Int))]) h))))))))
theorem vf77 (a0kind : Int) (h : Heap) (R : KV) (hF : F77 a0kind h R) : CallsH Tryz.prog 77 #[.int .i64 a0kind] h R :=
 calls_of_form (A := an77) (fn := Tryz.f77) (c := c77) (args := [.int .i64 a0kind]) Tryz.func77 (by kernel_rfl) mixed (by kernel_rfl) (by kernel_rfl : F77 a0kind h R = vcF Tryz.prog an77 Tryz.f77 c77 [.int .i64 a0kind] h R) hF
/-! ### 79 refrain/refrainref30.text -/
noncomputable def c79 : Code := match Tryz.f79.body with | some c => c | none => .skip
noncomputable def an79 : Ann := { loops := fun i => [], draws := fun i => #[], joins := fun i => match i with | 6 => some [(1, .str)] | _ => none }
def F79 (a0b : Option Addr) (la0b ca0b : Nat) (a1s : ByteArray) (h : Heap) (R : KV) : Prop :=
 CallsH Tryz.prog 82 #[.int .i64 (a1s.size : Int)] h fun v1 h2 =>
 ∃ (a3 : Option Addr) (la3 ca3 : Nat), v1 = .slice a3 la3 ca3 ∧
 CallsH Tryz.prog 81 #[.slice a0b la0b ca0b, .slice a3 la3 ca3] h2 fun v4 h5 =>
 ∃ (a6 : Option Addr) (la6 ca6 : Nat), v4 = .slice a6 la6 ca6 ∧
 cond (decide ((la6 : Int) > (65528 : Int)))
 (R (.slice a6 la6 ca6) h5)
 (∃ J7 : Heap → ByteArray → Prop, (cond (decide ((a1s.size : Int) > (65528 : Int)))
 (VSliceS a1s 0 65529 fun s8 =>
 J7 h5 s8)
 (J7 h5 a1s)) ∧
 ∀ (h9 : Heap) (g10 : Env) (s_11 : ByteArray), J7 h9 s_11 →
 RunsTo Tryz.prog (Builtin.append_ #[36, 9] 36 #[.slice a6 la6 ca6, .string s_11]) h9 fun v12 h13 =>
 ∃ (a14 : Option Addr) (la14 ca14 : Nat), v12 = .slice a14 la14 ca14 ∧
 R (.slice a14 la14 ca14) h13)
theorem vf79 (a0b : Option Addr) (la0b ca0b : Nat) (a1s : ByteArray) (h : Heap) (R : KV) (hF : F79 a0b la0b ca0b a1s h R) : CallsH Tryz.prog 79 #[.slice a0b la0b ca0b, .string a1s] h R :=
 calls_of_form (A := an79) (fn := Tryz.f79) (c := c79) (args := [.slice a0b la0b ca0b, .string a1s]) Tryz.func79 (by kernel_rfl) mixed (by kernel_rfl) (by kernel_rfl : F79 a0b la0b ca0b a1s h R = vcF Tryz.prog an79 Tryz.f79 c79 [.slice a0b la0b ca0b, .string a1s] h R) hF
/-! ### 80 refrain/refrainref30.texts -/
noncomputable def c80 : Code := match Tryz.f80.body with | some c => c | none => .skip
noncomputable def an80 : Ann := { loops := fun i => match i with | 3 => [(0, .slc), (5, .int .i64)] | _ => [], draws := fun i => #[], joins := fun i => none }
def F80 (a0b : Option Addr) (la0b ca0b : Nat) (a1l : Option Addr) (la1l ca1l : Nat) (h : Heap) (R : KV) : Prop :=
 CallsH Tryz.prog 82 #[.int .i64 (la1l : Int)] h fun v1 h2 =>
 ∃ (a3 : Option Addr) (la3 ca3 : Nat), v1 = .slice a3 la3 ca3 ∧
 CallsH Tryz.prog 81 #[.slice a0b la0b ca0b, .slice a3 la3 ca3] h2 fun v4 h5 =>
 ∃ (a6 : Option Addr) (la6 ca6 : Nat), v4 = .slice a6 la6 ca6 ∧
 ∃ I7 : Nat → Heap → Option Addr → Nat → Nat → Int → Prop, (∃ n8, I7 n8 h5 a6 la6 ca6 0) ∧
 ∀ (n8 : Nat) (h9 : Heap) (g10 : Env) (b_11 : Option Addr) (lb_11 cb_11 : Nat) (i_12 : Int), I7 n8 h9 b_11 lb_11 cb_11 i_12 →
 cond (decide (i_12 < (la1l : Int))) (cond (decide ((lb_11 : Int) ≤ (65528 : Int)))
 (VIdx a1l la1l i_12 1 fun a14 =>
 ∃ s15 : ByteArray, cellH h9 a14 = some (.string s15) ∧
 CallsH Tryz.prog 79 #[.slice b_11 lb_11 cb_11, .string s15] h9 fun v16 h17 =>
 ∃ (a18 : Option Addr) (la18 ca18 : Nat), v16 = .slice a18 la18 ca18 ∧
 ∃ m13, m13 < n8 ∧ I7 m13 h17 a18 la18 ca18 (IntKind.i64.wrap (i_12 + 1)))
 (R (.slice b_11 lb_11 cb_11) h9)) (R (.slice b_11 lb_11 cb_11) h9)
theorem vf80 (a0b : Option Addr) (la0b ca0b : Nat) (a1l : Option Addr) (la1l ca1l : Nat) (h : Heap) (R : KV) (hF : F80 a0b la0b ca0b a1l la1l ca1l h R) : CallsH Tryz.prog 80 #[.slice a0b la0b ca0b, .slice a1l la1l ca1l] h R :=
 calls_of_form (A := an80) (fn := Tryz.f80) (c := c80) (args := [.slice a0b la0b ca0b, .slice a1l la1l ca1l]) Tryz.func80 (by kernel_rfl) mixed (by kernel_rfl) (by kernel_rfl : F80 a0b la0b ca0b a1l la1l ca1l h R = vcF Tryz.prog an80 Tryz.f80 c80 [.slice a0b la0b ca0b, .slice a1l la1l ca1l] h R) hF
/-! ### 81 refrain/refrainref30.put -/
noncomputable def c81 : Code := match Tryz.f81.body with | some c => c | none => .skip
noncomputable def an81 : Ann := { loops := fun i => [], draws := fun i => #[], joins := fun i => none }
def F81 (a0b : Option Addr) (la0b ca0b : Nat) (a1x : Option Addr) (la1x ca1x : Nat) (h : Heap) (R : KV) : Prop :=
 cond (decide ((la0b : Int) > (65528 : Int)))
 (R (.slice a0b la0b ca0b) h)
 (RunsTo Tryz.prog (Builtin.append_ #[36, 36] 36 #[.slice a0b la0b ca0b, .slice a1x la1x ca1x]) h fun v1 h2 =>
 ∃ (a3 : Option Addr) (la3 ca3 : Nat), v1 = .slice a3 la3 ca3 ∧
 R (.slice a3 la3 ca3) h2)
theorem vf81 (a0b : Option Addr) (la0b ca0b : Nat) (a1x : Option Addr) (la1x ca1x : Nat) (h : Heap) (R : KV) (hF : F81 a0b la0b ca0b a1x la1x ca1x h R) : CallsH Tryz.prog 81 #[.slice a0b la0b ca0b, .slice a1x la1x ca1x] h R :=
 calls_of_form (A := an81) (fn := Tryz.f81) (c := c81) (args := [.slice a0b la0b ca0b, .slice a1x la1x ca1x]) Tryz.func81 (by kernel_rfl) mixed (by kernel_rfl) (by kernel_rfl : F81 a0b la0b ca0b a1x la1x ca1x h R = vcF Tryz.prog an81 Tryz.f81 c81 [.slice a0b la0b ca0b, .slice a1x la1x ca1x] h R) hF
/-! ### 82 refrain/refrainref30.number -/
noncomputable def c82 : Code := match Tryz.f82.body with | some c => c | none => .skip
noncomputable def an82 : Ann := { loops := fun i => [], draws := fun i => #[], joins := fun i => none }
def F82 (a0n : Int) (h : Heap) (R : KV) : Prop :=
 CallsH Tryz.prog 121 #[.int .i64 a0n] h fun v1 h2 =>
 ∃ (a3 : Option Addr) (la3 ca3 : Nat), v1 = .slice a3 la3 ca3 ∧
 R (.slice a3 la3 ca3) h2
theorem vf82 (a0n : Int) (h : Heap) (R : KV) (hF : F82 a0n h R) : CallsH Tryz.prog 82 #[.int .i64 a0n] h R :=
 calls_of_form (A := an82) (fn := Tryz.f82) (c := c82) (args := [.int .i64 a0n]) Tryz.func82 (by kernel_rfl) mixed (by kernel_rfl) (by kernel_rfl : F82 a0n h R = vcF Tryz.prog an82 Tryz.f82 c82 [.int .i64 a0n] h R) hF
/-! ### 83 refrain/refrainref3.Encode -/
noncomputable def c83 : Code := match Tryz.f83.body with | some c => c | none => .skip
noncomputable def an83 : Ann := { loops := fun i => match i with | 12 => [(2, .slc), (3, .int .i64), (4, .slc), (5, .int .i64)] | _ => [], draws := fun i => #[], joins := fun i => match i with | 13 => some [(2, .slc), (3, .int .i64), (4, .slc), (6, .ptr)] | _ => none }
def F83 (a0e_0 : ByteArray) (a0e_1 : Int) (a0e_2 : Option Addr) (la0e_2 ca0e_2 : Nat) (h : Heap) (R : KV) : Prop :=
 VNew h (.cells #[.string a0e_0, .int .i64 a0e_1, .slice a0e_2 la0e_2 ca0e_2] 125) fun b1 h2 =>
 ∃ s3 : ByteArray, cellH h2 ⟨b1, 0, none⟩ = some (.string s3) ∧
 CallsH Tryz.prog 122 #[.string s3] h2 fun v4 h5 =>
 ∃ b6 : Bool, v4 = .bool b6 ∧
 cond (!b6)
 (R (.tuple #[.slice none 0 0, .int .i64 20]) h5)
 (∃ x7 : Int, cellH h5 ⟨b1, 1, none⟩ = some (.int .i64 x7) ∧
 cond (decide (x7 < (0 : Int))) (R (.tuple #[.slice none 0 0, .int .i64 23]) h5) (∃ x8 : Int, cellH h5 ⟨b1, 1, none⟩ = some (.int .i64 x8) ∧
 cond (decide (x8 > (4611686018427387904 : Int)))
 (R (.tuple #[.slice none 0 0, .int .i64 23]) h5)
 (∃ (a9 : Option Addr) (la9 ca9 : Nat), cellH h5 ⟨b1, 2, none⟩ = some (.slice a9 la9 ca9) ∧
 cond (decide ((la9 : Int) > (16 : Int)))
 (R (.tuple #[.slice none 0 0, .int .i64 2]) h5)
 (∃ s10 : ByteArray, cellH h5 ⟨b1, 0, none⟩ = some (.string s10) ∧
 CallsH Tryz.prog 121 #[.int .i64 (s10.size : Int)] h5 fun v11 h12 =>
 ∃ (a13 : Option Addr) (la13 ca13 : Nat), v11 = .slice a13 la13 ca13 ∧
 ∃ s14 : ByteArray, cellH h12 ⟨b1, 0, none⟩ = some (.string s14) ∧
 RunsTo Tryz.prog (Builtin.append_ #[36, 9] 36 #[.slice a13 la13 ca13, .string s14]) h12 fun v15 h16 =>
 ∃ (a17 : Option Addr) (la17 ca17 : Nat), v15 = .slice a17 la17 ca17 ∧
 ∃ x18 : Int, cellH h16 ⟨b1, 1, none⟩ = some (.int .i64 x18) ∧
 CallsH Tryz.prog 121 #[.int .i64 x18] h16 fun v19 h20 =>
 ∃ (a21 : Option Addr) (la21 ca21 : Nat), v19 = .slice a21 la21 ca21 ∧
 RunsTo Tryz.prog (Builtin.append_ #[36, 36] 36 #[.slice a17 la17 ca17, .slice a21 la21 ca21]) h20 fun v22 h23 =>
 ∃ (a24 : Option Addr) (la24 ca24 : Nat), v22 = .slice a24 la24 ca24 ∧
 ∃ (a25 : Option Addr) (la25 ca25 : Nat), cellH h23 ⟨b1, 2, none⟩ = some (.slice a25 la25 ca25) ∧
 CallsH Tryz.prog 121 #[.int .i64 (la25 : Int)] h23 fun v26 h27 =>
 ∃ (a28 : Option Addr) (la28 ca28 : Nat), v26 = .slice a28 la28 ca28 ∧
 RunsTo Tryz.prog (Builtin.append_ #[36, 36] 36 #[.slice a24 la24 ca24, .slice a28 la28 ca28]) h27 fun v29 h30 =>
 ∃ (a31 : Option Addr) (la31 ca31 : Nat), v29 = .slice a31 la31 ca31 ∧
 ∃ I32 : Nat → Heap → Option Addr → Nat → Nat → Int → Option Addr → Nat → Nat → Int → Prop, (∃ n33, I32 n33 h30 none 0 0 0 a31 la31 ca31 0) ∧
 ∀ (n33 : Nat) (h34 : Heap) (g35 : Env) (y_36 : Option Addr) (ly_36 cy_36 : Nat) (y_37 : Int) (b_38 : Option Addr) (lb_38 cb_38 : Nat) (i_39 : Int), I32 n33 h34 y_36 ly_36 cy_36 y_37 b_38 lb_38 cb_38 i_39 →
 ∃ (a41 : Option Addr) (la41 ca41 : Nat), cellH h34 ⟨b1, 2, none⟩ = some (.slice a41 la41 ca41) ∧
 cond (decide (i_39 < (la41 : Int)))
 (∃ J42 : Heap → Option Addr → Nat → Nat → Int → Option Addr → Nat → Nat → Option Addr → Prop, (∃ (a43 : Option Addr) (la43 ca43 : Nat), cellH h34 ⟨b1, 2, none⟩ = some (.slice a43 la43 ca43) ∧
 VIdx a43 la43 i_39 4 fun a44 =>
 ∃ x45 : Int, cellH h34 a44 = some (.int .i64 x45) ∧
 ∃ x46 : Int, cellH h34 ⟨a44.block, a44.off + 1, none⟩ = some (.int .i64 x46) ∧
 ∃ s47 : ByteArray, cellH h34 ⟨a44.block, a44.off + 2, none⟩ = some (.string s47) ∧
 ∃ b48 : Bool, cellH h34 ⟨a44.block, a44.off + 3, none⟩ = some (.bool b48) ∧
 VNew h34 (.cells #[.int .i64 0, .int .i64 0, .string (ByteArray.mk #[]), .bool false] 127) fun b49 h50 =>
 storeL ⟨b49, 0, none⟩ 0 [.int .i64 x45, .int .i64 x46, .string s47, .bool b48] h50 fun h51 =>
 ∃ x52 : Int, cellH h51 ⟨b49, 0, none⟩ = some (.int .i64 x52) ∧
 ∃ x53 : Int, cellH h51 ⟨b49, 1, none⟩ = some (.int .i64 x53) ∧
 ∃ s54 : ByteArray, cellH h51 ⟨b49, 2, none⟩ = some (.string s54) ∧
 ∃ b55 : Bool, cellH h51 ⟨b49, 3, none⟩ = some (.bool b55) ∧
 CallsH Tryz.prog 123 #[.agg #[.int .i64 x52, .int .i64 x53, .string s54, .bool b55]] h51 fun v56 h57 =>
 ∃ b58 : Bool, v56 = .bool b58 ∧
 cond (!b58)
 (R (.tuple #[.slice none 0 0, .int .i64 12]) h57)
 (∃ x59 : Int, cellH h57 ⟨b49, 0, none⟩ = some (.int .i64 x59) ∧
 VNew h57 (.cells #[.int .u8 (IntKind.u8.wrap x59)] 5) fun b60 h61 =>
 RunsTo Tryz.prog (Builtin.append_ #[36, 36] 36 #[.slice b_38 lb_38 cb_38, .slice (some ⟨b60, 0, none⟩) 1 1]) h61 fun v62 h63 =>
 ∃ (a64 : Option Addr) (la64 ca64 : Nat), v62 = .slice a64 la64 ca64 ∧
 ∃ x65 : Int, cellH h63 ⟨b49, 0, none⟩ = some (.int .i64 x65) ∧
 cond (x65 == (1 : Int))
 (∃ x66 : Int, cellH h63 ⟨b49, 1, none⟩ = some (.int .i64 x66) ∧
 CallsH Tryz.prog 121 #[.int .i64 x66] h63 fun v67 h68 =>
 ∃ (a69 : Option Addr) (la69 ca69 : Nat), v67 = .slice a69 la69 ca69 ∧
 RunsTo Tryz.prog (Builtin.append_ #[36, 36] 36 #[.slice a64 la64 ca64, .slice a69 la69 ca69]) h68 fun v70 h71 =>
 ∃ (a72 : Option Addr) (la72 ca72 : Nat), v70 = .slice a72 la72 ca72 ∧
 J42 h71 y_36 ly_36 cy_36 y_37 a72 la72 ca72 (some ⟨b49, 0, none⟩))
 (∃ x73 : Int, cellH h63 ⟨b49, 0, none⟩ = some (.int .i64 x73) ∧
 cond (x73 == (2 : Int))
 (∃ s74 : ByteArray, cellH h63 ⟨b49, 2, none⟩ = some (.string s74) ∧
 CallsH Tryz.prog 121 #[.int .i64 (s74.size : Int)] h63 fun v75 h76 =>
 ∃ (a77 : Option Addr) (la77 ca77 : Nat), v75 = .slice a77 la77 ca77 ∧
 RunsTo Tryz.prog (Builtin.append_ #[36, 36] 36 #[.slice a64 la64 ca64, .slice a77 la77 ca77]) h76 fun v78 h79 =>
 ∃ (a80 : Option Addr) (la80 ca80 : Nat), v78 = .slice a80 la80 ca80 ∧
 ∃ s81 : ByteArray, cellH h79 ⟨b49, 2, none⟩ = some (.string s81) ∧
 RunsTo Tryz.prog (Builtin.append_ #[36, 9] 36 #[.slice a80 la80 ca80, .string s81]) h79 fun v82 h83 =>
 ∃ (a84 : Option Addr) (la84 ca84 : Nat), v82 = .slice a84 la84 ca84 ∧
 J42 h83 y_36 ly_36 cy_36 y_37 a84 la84 ca84 (some ⟨b49, 0, none⟩))
 (∃ b85 : Bool, cellH h63 ⟨b49, 3, none⟩ = some (.bool b85) ∧
 cond b85
 (VNew h63 (.cells #[.int .u8 1] 5) fun b86 h87 =>
 RunsTo Tryz.prog (Builtin.append_ #[36, 36] 36 #[.slice a64 la64 ca64, .slice (some ⟨b86, 0, none⟩) 1 1]) h87 fun v88 h89 =>
 ∃ (a90 : Option Addr) (la90 ca90 : Nat), v88 = .slice a90 la90 ca90 ∧
 J42 h89 y_36 ly_36 cy_36 y_37 a90 la90 ca90 (some ⟨b49, 0, none⟩))
 (VNew h63 (.cells #[.int .u8 0] 5) fun b91 h92 =>
 RunsTo Tryz.prog (Builtin.append_ #[36, 36] 36 #[.slice a64 la64 ca64, .slice (some ⟨b91, 0, none⟩) 1 1]) h92 fun v93 h94 =>
 ∃ (a95 : Option Addr) (la95 ca95 : Nat), v93 = .slice a95 la95 ca95 ∧
 J42 h94 y_36 ly_36 cy_36 y_37 a95 la95 ca95 (some ⟨b49, 0, none⟩)))))) ∧
 ∀ (h96 : Heap) (g97 : Env) (y_98 : Option Addr) (ly_98 cy_98 : Nat) (y_99 : Int) (b_100 : Option Addr) (lb_100 cb_100 : Nat) (v_101 : Option Addr), J42 h96 y_98 ly_98 cy_98 y_99 b_100 lb_100 cb_100 v_101 →
 ∃ m40, m40 < n33 ∧ I32 m40 h96 y_98 ly_98 cy_98 y_99 b_100 lb_100 cb_100 (IntKind.i64.wrap (i_39 + 1)))
 (R (.tuple #[.slice b_38 lb_38 cb_38, .int .i64 0]) h34)))))
theorem vf83 (a0e_0 : ByteArray) (a0e_1 : Int) (a0e_2 : Option Addr) (la0e_2 ca0e_2 : Nat) (h : Heap) (R : KV) (hF : F83 a0e_0 a0e_1 a0e_2 la0e_2 ca0e_2 h R) : CallsH Tryz.prog 83 #[.agg #[.string a0e_0, .int .i64 a0e_1, .slice a0e_2 la0e_2 ca0e_2]] h R :=
 calls_of_form (A := an83) (fn := Tryz.f83) (c := c83) (args := [.agg #[.string a0e_0, .int .i64 a0e_1, .slice a0e_2 la0e_2 ca0e_2]]) Tryz.func83 (by kernel_rfl) mixed (by kernel_rfl) (by kernel_rfl : F83 a0e_0 a0e_1 a0e_2 la0e_2 ca0e_2 h R = vcF Tryz.prog an83 Tryz.f83 c83 [.agg #[.string a0e_0, .int .i64 a0e_1, .slice a0e_2 la0e_2 ca0e_2]] h R) hF
/-! ### 84 (refrain/refrainref30.Reader).off -/
noncomputable def c84 : Code := match Tryz.f84.body with | some c => c | none => .skip
noncomputable def an84 : Ann := { loops := fun i => [], draws := fun i => #[], joins := fun i => none }
def F84 (a0r : Option Addr) (a1n : Int) (h : Heap) (R : KV) : Prop :=
 VSome a0r fun a1 =>
 ∃ b2 : Bool, cellH h ⟨a1.block, a1.off + 1, none⟩ = some (.bool b2) ∧
 cond b2 (VSome a0r fun a3 =>
 VStore h ⟨a3.block, a3.off + 1, none⟩ (.bool true) fun h4 =>
 R (.slice none 0 0) h4) (cond (decide (a1n < (0 : Int))) (VSome a0r fun a5 =>
 VStore h ⟨a5.block, a5.off + 1, none⟩ (.bool true) fun h6 =>
 R (.slice none 0 0) h6) (VSome a0r fun a7 =>
 ∃ (a8 : Option Addr) (la8 ca8 : Nat), cellH h a7 = some (.slice a8 la8 ca8) ∧
 cond (decide (a1n > (la8 : Int)))
 (VSome a0r fun a9 =>
 VStore h ⟨a9.block, a9.off + 1, none⟩ (.bool true) fun h10 =>
 R (.slice none 0 0) h10)
 (VSome a0r fun a11 =>
 ∃ (a12 : Option Addr) (la12 ca12 : Nat), cellH h a11 = some (.slice a12 la12 ca12) ∧
 VSlice 1 a12 ca12 0 a1n (ca12 : Int) fun a13 la13 ca13 =>
 VSome a0r fun a14 =>
 ∃ (a15 : Option Addr) (la15 ca15 : Nat), cellH h a14 = some (.slice a15 la15 ca15) ∧
 VSlice 1 a15 ca15 a1n (la15 : Int) (ca15 : Int) fun a16 la16 ca16 =>
 VSome a0r fun a17 =>
 VStore h a17 (.slice a16 la16 ca16) fun h18 =>
 R (.slice a13 la13 ca13) h18)))
theorem vf84 (a0r : Option Addr) (a1n : Int) (h : Heap) (R : KV) (hF : F84 a0r a1n h R) : CallsH Tryz.prog 84 #[.pointer a0r, .int .i64 a1n] h R :=
 calls_of_form (A := an84) (fn := Tryz.f84) (c := c84) (args := [.pointer a0r, .int .i64 a1n]) Tryz.func84 (by kernel_rfl) mixed (by kernel_rfl) (by kernel_rfl : F84 a0r a1n h R = vcF Tryz.prog an84 Tryz.f84 c84 [.pointer a0r, .int .i64 a1n] h R) hF
/-! ### 85 (refrain/refrainref30.Reader).id -/
noncomputable def c85 : Code := match Tryz.f85.body with | some c => c | none => .skip
noncomputable def an85 : Ann := { loops := fun i => [], draws := fun i => #[], joins := fun i => none }
def F85 (a0r : Option Addr) (h : Heap) (R : KV) : Prop :=
 CallsH Tryz.prog 84 #[.pointer a0r, .int .i64 4] h fun v1 h2 =>
 ∃ (a3 : Option Addr) (la3 ca3 : Nat), v1 = .slice a3 la3 ca3 ∧
 VSome a0r fun a4 =>
 ∃ b5 : Bool, cellH h2 ⟨a4.block, a4.off + 1, none⟩ = some (.bool b5) ∧
 cond b5
 (R (.int .u32 0) h2)
 (CallsH Tryz.prog 124 #[.slice a3 la3 ca3, .int .i64 0] h2 fun v6 h7 =>
 ∃ x8 : Int, v6 = .int .i64 x8 ∧
 R (.int .u32 (IntKind.u32.wrap x8)) h7)
theorem vf85 (a0r : Option Addr) (h : Heap) (R : KV) (hF : F85 a0r h R) : CallsH Tryz.prog 85 #[.pointer a0r] h R :=
 calls_of_form (A := an85) (fn := Tryz.f85) (c := c85) (args := [.pointer a0r]) Tryz.func85 (by kernel_rfl) mixed (by kernel_rfl) (by kernel_rfl : F85 a0r h R = vcF Tryz.prog an85 Tryz.f85 c85 [.pointer a0r] h R) hF
/-! ### 86 (refrain/refrainref30.Reader).text -/
noncomputable def c86 : Code := match Tryz.f86.body with | some c => c | none => .skip
noncomputable def an86 : Ann := { loops := fun i => [], draws := fun i => #[], joins := fun i => none }
def F86 (a0r : Option Addr) (h : Heap) (R : KV) : Prop :=
 CallsH Tryz.prog 95 #[.pointer a0r] h fun v1 h2 =>
 ∃ x3 : Int, v1 = .int .i64 x3 ∧
 CallsH Tryz.prog 84 #[.pointer a0r, .int .i64 x3] h2 fun v4 h5 =>
 ∃ (a6 : Option Addr) (la6 ca6 : Nat), v4 = .slice a6 la6 ca6 ∧
 RunsTo Tryz.prog (convert 36 9 (.slice a6 la6 ca6)) h5 fun v7 h8 =>
 ∃ s9 : ByteArray, v7 = .string s9 ∧
 R (.string s9) h8
theorem vf86 (a0r : Option Addr) (h : Heap) (R : KV) (hF : F86 a0r h R) : CallsH Tryz.prog 86 #[.pointer a0r] h R :=
 calls_of_form (A := an86) (fn := Tryz.f86) (c := c86) (args := [.pointer a0r]) Tryz.func86 (by kernel_rfl) mixed (by kernel_rfl) (by kernel_rfl : F86 a0r h R = vcF Tryz.prog an86 Tryz.f86 c86 [.pointer a0r] h R) hF
/-! ### 87 (refrain/refrainref30.Reader).texts -/
noncomputable def c87 : Code := match Tryz.f87.body with | some c => c | none => .skip
noncomputable def an87 : Ann := { loops := fun i => match i with | 4 => [(4, .slc), (5, .int .i64)] | _ => [], draws := fun i => #[], joins := fun i => none }
def F87 (a0r : Option Addr) (h : Heap) (R : KV) : Prop :=
 CallsH Tryz.prog 95 #[.pointer a0r] h fun v1 h2 =>
 ∃ x3 : Int, v1 = .int .i64 x3 ∧
 ∃ I4 : Nat → Heap → Option Addr → Nat → Nat → Int → Prop, (∃ n5, I4 n5 h2 none 0 0 0) ∧
 ∀ (n5 : Nat) (h6 : Heap) (g7 : Env) (l_8 : Option Addr) (ll_8 cl_8 : Nat) (i_9 : Int), I4 n5 h6 l_8 ll_8 cl_8 i_9 →
 cond (decide (i_9 < x3)) (VSome a0r fun a11 =>
 ∃ b12 : Bool, cellH h6 ⟨a11.block, a11.off + 1, none⟩ = some (.bool b12) ∧
 cond (!b12)
 (CallsH Tryz.prog 86 #[.pointer a0r] h6 fun v13 h14 =>
 ∃ s15 : ByteArray, v13 = .string s15 ∧
 VNew h14 (.cells #[.string s15] 9) fun b16 h17 =>
 RunsTo Tryz.prog (Builtin.append_ #[54, 54] 54 #[.slice l_8 ll_8 cl_8, .slice (some ⟨b16, 0, none⟩) 1 1]) h17 fun v18 h19 =>
 ∃ (a20 : Option Addr) (la20 ca20 : Nat), v18 = .slice a20 la20 ca20 ∧
 ∃ m10, m10 < n5 ∧ I4 m10 h19 a20 la20 ca20 (IntKind.i64.wrap (i_9 + 1)))
 (R (.slice l_8 ll_8 cl_8) h6)) (R (.slice l_8 ll_8 cl_8) h6)
theorem vf87 (a0r : Option Addr) (h : Heap) (R : KV) (hF : F87 a0r h R) : CallsH Tryz.prog 87 #[.pointer a0r] h R :=
 calls_of_form (A := an87) (fn := Tryz.f87) (c := c87) (args := [.pointer a0r]) Tryz.func87 (by kernel_rfl) mixed (by kernel_rfl) (by kernel_rfl : F87 a0r h R = vcF Tryz.prog an87 Tryz.f87 c87 [.pointer a0r] h R) hF
/-! ### 88 (refrain/refrainref30.Reader).events -/
noncomputable def c88 : Code := match Tryz.f88.body with | some c => c | none => .skip
noncomputable def an88 : Ann := { loops := fun i => match i with | 4 => [(4, .slc), (5, .int .i64)] | _ => [], draws := fun i => #[], joins := fun i => none }
def F88 (a0r : Option Addr) (h : Heap) (R : KV) : Prop :=
 CallsH Tryz.prog 95 #[.pointer a0r] h fun v1 h2 =>
 ∃ x3 : Int, v1 = .int .i64 x3 ∧
 ∃ I4 : Nat → Heap → Option Addr → Nat → Nat → Int → Prop, (∃ n5, I4 n5 h2 none 0 0 0) ∧
 ∀ (n5 : Nat) (h6 : Heap) (g7 : Env) (l_8 : Option Addr) (ll_8 cl_8 : Nat) (i_9 : Int), I4 n5 h6 l_8 ll_8 cl_8 i_9 →
 cond (decide (i_9 < x3)) (VSome a0r fun a11 =>
 ∃ b12 : Bool, cellH h6 ⟨a11.block, a11.off + 1, none⟩ = some (.bool b12) ∧
 cond (!b12)
 (VSome a0r fun a13 =>
 ∃ (a14 : Option Addr) (la14 ca14 : Nat), cellH h6 a13 = some (.slice a14 la14 ca14) ∧
 CallsH Tryz.prog 125 #[.slice a14 la14 ca14] h6 fun v15 h16 =>
 ∃ s17 : ByteArray, ∃ x18 : Int, ∃ (a19 : Option Addr) (la19 ca19 : Nat), ∃ x20 : Int, ∃ x21 : Int, v15 = .tuple #[.agg #[.string s17, .int .i64 x18, .slice a19 la19 ca19], .int .i64 x20, .int .i64 x21] ∧
 VNew h16 (.cells #[.string (ByteArray.mk #[]), .int .i64 0, .slice none 0 0] 125) fun b22 h23 =>
 storeL ⟨b22, 0, none⟩ 0 [.string s17, .int .i64 x18, .slice a19 la19 ca19] h23 fun h24 =>
 cond (x21 != (0 : Int))
 (VSome a0r fun a25 =>
 VStore h24 ⟨a25.block, a25.off + 1, none⟩ (.bool true) fun h26 =>
 R (.slice l_8 ll_8 cl_8) h26)
 (CallsH Tryz.prog 84 #[.pointer a0r, .int .i64 x20] h24 fun v27 h28 =>
 ∃ (a29 : Option Addr) (la29 ca29 : Nat), v27 = .slice a29 la29 ca29 ∧
 ∃ s30 : ByteArray, cellH h28 ⟨b22, 0, none⟩ = some (.string s30) ∧
 ∃ x31 : Int, cellH h28 ⟨b22, 1, none⟩ = some (.int .i64 x31) ∧
 ∃ (a32 : Option Addr) (la32 ca32 : Nat), cellH h28 ⟨b22, 2, none⟩ = some (.slice a32 la32 ca32) ∧
 VNew h28 (.cells #[.string s30, .int .i64 x31, .slice a32 la32 ca32] 125) fun b33 h34 =>
 RunsTo Tryz.prog (Builtin.append_ #[55, 55] 55 #[.slice l_8 ll_8 cl_8, .slice (some ⟨b33, 0, none⟩) 1 1]) h34 fun v35 h36 =>
 ∃ (a37 : Option Addr) (la37 ca37 : Nat), v35 = .slice a37 la37 ca37 ∧
 ∃ m10, m10 < n5 ∧ I4 m10 h36 a37 la37 ca37 (IntKind.i64.wrap (i_9 + 1))))
 (R (.slice l_8 ll_8 cl_8) h6)) (R (.slice l_8 ll_8 cl_8) h6)
theorem vf88 (a0r : Option Addr) (h : Heap) (R : KV) (hF : F88 a0r h R) : CallsH Tryz.prog 88 #[.pointer a0r] h R :=
 calls_of_form (A := an88) (fn := Tryz.f88) (c := c88) (args := [.pointer a0r]) Tryz.func88 (by kernel_rfl) mixed (by kernel_rfl) (by kernel_rfl : F88 a0r h R = vcF Tryz.prog an88 Tryz.f88 c88 [.pointer a0r] h R) hF
/-! ### 89 (refrain/refrainlaw30.tale).list -/
noncomputable def c89 : Code := match Tryz.f89.body with | some c => c | none => .skip
noncomputable def an89 : Ann := { loops := fun i => match i with | 3 => [(5, .slc), (6, .int .i64)] | _ => [], draws := fun i => #[], joins := fun i => none }
def F89 (a0t : Option Addr) (a1l : Option Addr) (la1l ca1l : Nat) (h : Heap) (R : KV) : Prop :=
 RunsTo Tryz.prog (Builtin.append_ #[112, 112] 112 #[.slice none 0 0, .slice a1l la1l ca1l]) h fun v1 h2 =>
 ∃ (a3 : Option Addr) (la3 ca3 : Nat), v1 = .slice a3 la3 ca3 ∧
 ∃ I4 : Nat → Heap → Option Addr → Nat → Nat → Int → Prop, (∃ n5, I4 n5 h2 a3 la3 ca3 0) ∧
 ∀ (n5 : Nat) (h6 : Heap) (g7 : Env) (v_8 : Option Addr) (lv_8 cv_8 : Nat) (k_9 : Int), I4 n5 h6 v_8 lv_8 cv_8 k_9 →
 cond (decide (k_9 < (12 : Int)))
 (VNew h6 (.cells #[.int .i64 77, .int .i64 0, .string (ByteArray.mk #[]), .bool false] 127) fun b11 h12 =>
 RunsTo Tryz.prog (Builtin.append_ #[112, 112] 112 #[.slice v_8 lv_8 cv_8, .slice (some ⟨b11, 0, none⟩) 1 1]) h12 fun v13 h14 =>
 ∃ (a15 : Option Addr) (la15 ca15 : Nat), v13 = .slice a15 la15 ca15 ∧
 ∃ m10, m10 < n5 ∧ I4 m10 h14 a15 la15 ca15 (IntKind.i64.wrap (k_9 + 1)))
 (VSome a0t fun a16 =>
 ∃ (a17 : Option Addr) (la17 ca17 : Nat), cellH h6 ⟨a16.block, a16.off + 16, none⟩ = some (.slice a17 la17 ca17) ∧
 VNew h6 (.cells #[.slice v_8 lv_8 cv_8] 112) fun b18 h19 =>
 RunsTo Tryz.prog (Builtin.append_ #[45, 45] 45 #[.slice a17 la17 ca17, .slice (some ⟨b18, 0, none⟩) 1 1]) h19 fun v20 h21 =>
 ∃ (a22 : Option Addr) (la22 ca22 : Nat), v20 = .slice a22 la22 ca22 ∧
 VSome a0t fun a23 =>
 VStore h21 ⟨a23.block, a23.off + 16, none⟩ (.slice a22 la22 ca22) fun h24 =>
 VSlice 4 v_8 cv_8 0 (la1l : Int) (lv_8 : Int) fun a25 la25 ca25 =>
 R (.slice a25 la25 ca25) h24)
theorem vf89 (a0t : Option Addr) (a1l : Option Addr) (la1l ca1l : Nat) (h : Heap) (R : KV) (hF : F89 a0t a1l la1l ca1l h R) : CallsH Tryz.prog 89 #[.pointer a0t, .slice a1l la1l ca1l] h R :=
 calls_of_form (A := an89) (fn := Tryz.f89) (c := c89) (args := [.pointer a0t, .slice a1l la1l ca1l]) Tryz.func89 (by kernel_rfl) mixed (by kernel_rfl) (by kernel_rfl : F89 a0t a1l la1l ca1l h R = vcF Tryz.prog an89 Tryz.f89 c89 [.pointer a0t, .slice a1l la1l ca1l] h R) hF
/-! ### 90 refrain/refrainref30.truth -/
noncomputable def c90 : Code := match Tryz.f90.body with | some c => c | none => .skip
noncomputable def an90 : Ann := { loops := fun i => [], draws := fun i => #[], joins := fun i => none }
def F90 (a0t : Bool) (h : Heap) (R : KV) : Prop :=
 cond a0t
 (VNew h (.cells #[.int .u8 1] 5) fun b1 h2 =>
 R (.slice (some ⟨b1, 0, none⟩) 1 1) h2)
 (VNew h (.cells #[.int .u8 0] 5) fun b3 h4 =>
 R (.slice (some ⟨b3, 0, none⟩) 1 1) h4)
theorem vf90 (a0t : Bool) (h : Heap) (R : KV) (hF : F90 a0t h R) : CallsH Tryz.prog 90 #[.bool a0t] h R :=
 calls_of_form (A := an90) (fn := Tryz.f90) (c := c90) (args := [.bool a0t]) Tryz.func90 (by kernel_rfl) mixed (by kernel_rfl) (by kernel_rfl : F90 a0t h R = vcF Tryz.prog an90 Tryz.f90 c90 [.bool a0t] h R) hF
/-! ### 91 refrain/refrainref30.sound -/
noncomputable def c91 : Code := match Tryz.f91.body with | some c => c | none => .skip
noncomputable def an91 : Ann := { loops := fun i => match i with | 2 => [(2, .bool), (3, .int .i64)] | _ => [], draws := fun i => #[], joins := fun i => none }
def F91 (a0l : Option Addr) (la0l ca0l : Nat) (h : Heap) (R : KV) : Prop :=
 ∃ I1 : Nat → Heap → Bool → Int → Prop, (∃ n2, I1 n2 h false 0) ∧
 ∀ (n2 : Nat) (h3 : Heap) (g4 : Env) (y_5 : Bool) (i_6 : Int), I1 n2 h3 y_5 i_6 →
 cond (decide (i_6 < (la0l : Int)))
 (VIdx a0l la0l i_6 4 fun a8 =>
 ∃ x9 : Int, cellH h3 a8 = some (.int .i64 x9) ∧
 ∃ x10 : Int, cellH h3 ⟨a8.block, a8.off + 1, none⟩ = some (.int .i64 x10) ∧
 ∃ s11 : ByteArray, cellH h3 ⟨a8.block, a8.off + 2, none⟩ = some (.string s11) ∧
 ∃ b12 : Bool, cellH h3 ⟨a8.block, a8.off + 3, none⟩ = some (.bool b12) ∧
 CallsH Tryz.prog 123 #[.agg #[.int .i64 x9, .int .i64 x10, .string s11, .bool b12]] h3 fun v13 h14 =>
 ∃ b15 : Bool, v13 = .bool b15 ∧
 cond (!b15)
 (R (.bool false) h14)
 (∃ m7, m7 < n2 ∧ I1 m7 h14 y_5 (IntKind.i64.wrap (i_6 + 1))))
 (R (.bool true) h3)
theorem vf91 (a0l : Option Addr) (la0l ca0l : Nat) (h : Heap) (R : KV) (hF : F91 a0l la0l ca0l h R) : CallsH Tryz.prog 91 #[.slice a0l la0l ca0l] h R :=
 calls_of_form (A := an91) (fn := Tryz.f91) (c := c91) (args := [.slice a0l la0l ca0l]) Tryz.func91 (by kernel_rfl) mixed (by kernel_rfl) (by kernel_rfl : F91 a0l la0l ca0l h R = vcF Tryz.prog an91 Tryz.f91 c91 [.slice a0l la0l ca0l] h R) hF
/-! ### 92 refrain/refrainref30.values -/
noncomputable def c92 : Code := match Tryz.f92.body with | some c => c | none => .skip
noncomputable def an92 : Ann := { loops := fun i => match i with | 3 => [(0, .slc), (5, .int .i64)] | _ => [], draws := fun i => #[], joins := fun i => match i with | 4 => some [(0, .slc), (6, .ptr)] | _ => none }
def F92 (a0b : Option Addr) (la0b ca0b : Nat) (a1l : Option Addr) (la1l ca1l : Nat) (h : Heap) (R : KV) : Prop :=
 CallsH Tryz.prog 82 #[.int .i64 (la1l : Int)] h fun v1 h2 =>
 ∃ (a3 : Option Addr) (la3 ca3 : Nat), v1 = .slice a3 la3 ca3 ∧
 CallsH Tryz.prog 81 #[.slice a0b la0b ca0b, .slice a3 la3 ca3] h2 fun v4 h5 =>
 ∃ (a6 : Option Addr) (la6 ca6 : Nat), v4 = .slice a6 la6 ca6 ∧
 ∃ I7 : Nat → Heap → Option Addr → Nat → Nat → Int → Prop, (∃ n8, I7 n8 h5 a6 la6 ca6 0) ∧
 ∀ (n8 : Nat) (h9 : Heap) (g10 : Env) (b_11 : Option Addr) (lb_11 cb_11 : Nat) (i_12 : Int), I7 n8 h9 b_11 lb_11 cb_11 i_12 →
 cond (decide (i_12 < (la1l : Int))) (cond (decide ((lb_11 : Int) ≤ (65528 : Int)))
 (∃ J14 : Heap → Option Addr → Nat → Nat → Option Addr → Prop, (VIdx a1l la1l i_12 4 fun a15 =>
 ∃ x16 : Int, cellH h9 a15 = some (.int .i64 x16) ∧
 ∃ x17 : Int, cellH h9 ⟨a15.block, a15.off + 1, none⟩ = some (.int .i64 x17) ∧
 ∃ s18 : ByteArray, cellH h9 ⟨a15.block, a15.off + 2, none⟩ = some (.string s18) ∧
 ∃ b19 : Bool, cellH h9 ⟨a15.block, a15.off + 3, none⟩ = some (.bool b19) ∧
 VNew h9 (.cells #[.int .i64 0, .int .i64 0, .string (ByteArray.mk #[]), .bool false] 127) fun b20 h21 =>
 storeL ⟨b20, 0, none⟩ 0 [.int .i64 x16, .int .i64 x17, .string s18, .bool b19] h21 fun h22 =>
 ∃ x23 : Int, cellH h22 ⟨b20, 0, none⟩ = some (.int .i64 x23) ∧
 VNew h22 (.cells #[.int .u8 (IntKind.u8.wrap x23)] 5) fun b24 h25 =>
 RunsTo Tryz.prog (Builtin.append_ #[36, 36] 36 #[.slice b_11 lb_11 cb_11, .slice (some ⟨b24, 0, none⟩) 1 1]) h25 fun v26 h27 =>
 ∃ (a28 : Option Addr) (la28 ca28 : Nat), v26 = .slice a28 la28 ca28 ∧
 ∃ x29 : Int, cellH h27 ⟨b20, 0, none⟩ = some (.int .i64 x29) ∧
 cond (x29 == (1 : Int))
 (∃ x30 : Int, cellH h27 ⟨b20, 1, none⟩ = some (.int .i64 x30) ∧
 CallsH Tryz.prog 82 #[.int .i64 x30] h27 fun v31 h32 =>
 ∃ (a33 : Option Addr) (la33 ca33 : Nat), v31 = .slice a33 la33 ca33 ∧
 CallsH Tryz.prog 81 #[.slice a28 la28 ca28, .slice a33 la33 ca33] h32 fun v34 h35 =>
 ∃ (a36 : Option Addr) (la36 ca36 : Nat), v34 = .slice a36 la36 ca36 ∧
 J14 h35 a36 la36 ca36 (some ⟨b20, 0, none⟩))
 (cond (x29 == (2 : Int))
 (∃ s37 : ByteArray, cellH h27 ⟨b20, 2, none⟩ = some (.string s37) ∧
 CallsH Tryz.prog 79 #[.slice a28 la28 ca28, .string s37] h27 fun v38 h39 =>
 ∃ (a40 : Option Addr) (la40 ca40 : Nat), v38 = .slice a40 la40 ca40 ∧
 J14 h39 a40 la40 ca40 (some ⟨b20, 0, none⟩))
 (∃ b41 : Bool, cellH h27 ⟨b20, 3, none⟩ = some (.bool b41) ∧
 CallsH Tryz.prog 90 #[.bool b41] h27 fun v42 h43 =>
 ∃ (a44 : Option Addr) (la44 ca44 : Nat), v42 = .slice a44 la44 ca44 ∧
 CallsH Tryz.prog 81 #[.slice a28 la28 ca28, .slice a44 la44 ca44] h43 fun v45 h46 =>
 ∃ (a47 : Option Addr) (la47 ca47 : Nat), v45 = .slice a47 la47 ca47 ∧
 J14 h46 a47 la47 ca47 (some ⟨b20, 0, none⟩)))) ∧
 ∀ (h48 : Heap) (g49 : Env) (b_50 : Option Addr) (lb_50 cb_50 : Nat) (v_51 : Option Addr), J14 h48 b_50 lb_50 cb_50 v_51 →
 ∃ m13, m13 < n8 ∧ I7 m13 h48 b_50 lb_50 cb_50 (IntKind.i64.wrap (i_12 + 1)))
 (R (.slice b_11 lb_11 cb_11) h9)) (R (.slice b_11 lb_11 cb_11) h9)
theorem vf92 (a0b : Option Addr) (la0b ca0b : Nat) (a1l : Option Addr) (la1l ca1l : Nat) (h : Heap) (R : KV) (hF : F92 a0b la0b ca0b a1l la1l ca1l h R) : CallsH Tryz.prog 92 #[.slice a0b la0b ca0b, .slice a1l la1l ca1l] h R :=
 calls_of_form (A := an92) (fn := Tryz.f92) (c := c92) (args := [.slice a0b la0b ca0b, .slice a1l la1l ca1l]) Tryz.func92 (by kernel_rfl) mixed (by kernel_rfl) (by kernel_rfl : F92 a0b la0b ca0b a1l la1l ca1l h R = vcF Tryz.prog an92 Tryz.f92 c92 [.slice a0b la0b ca0b, .slice a1l la1l ca1l] h R) hF
/-! ### 93 (refrain/refrainref30.Reader).truth -/
noncomputable def c93 : Code := match Tryz.f93.body with | some c => c | none => .skip
noncomputable def an93 : Ann := { loops := fun i => [], draws := fun i => #[], joins := fun i => match i with | 6 => some [] | _ => none }
def F93 (a0r : Option Addr) (h : Heap) (R : KV) : Prop :=
 CallsH Tryz.prog 84 #[.pointer a0r, .int .i64 1] h fun v1 h2 =>
 ∃ (a3 : Option Addr) (la3 ca3 : Nat), v1 = .slice a3 la3 ca3 ∧
 VSome a0r fun a4 =>
 ∃ b5 : Bool, cellH h2 ⟨a4.block, a4.off + 1, none⟩ = some (.bool b5) ∧
 cond b5
 (R (.bool false) h2)
 (∃ J6 : Heap → Prop, (VIdx a3 la3 0 1 fun a7 =>
 ∃ x8 : Int, cellH h2 a7 = some (.int .u8 x8) ∧
 cond (decide (x8 > (1 : Int)))
 (VSome a0r fun a9 =>
 VStore h2 ⟨a9.block, a9.off + 1, none⟩ (.bool true) fun h10 =>
 J6 h10)
 (J6 h2)) ∧
 ∀ (h11 : Heap) (g12 : Env), J6 h11 →
 VIdx a3 la3 0 1 fun a13 =>
 ∃ x14 : Int, cellH h11 a13 = some (.int .u8 x14) ∧
 R (.bool (x14 == (1 : Int))) h11)
theorem vf93 (a0r : Option Addr) (h : Heap) (R : KV) (hF : F93 a0r h R) : CallsH Tryz.prog 93 #[.pointer a0r] h R :=
 calls_of_form (A := an93) (fn := Tryz.f93) (c := c93) (args := [.pointer a0r]) Tryz.func93 (by kernel_rfl) mixed (by kernel_rfl) (by kernel_rfl : F93 a0r h R = vcF Tryz.prog an93 Tryz.f93 c93 [.pointer a0r] h R) hF
/-! ### 94 (refrain/refrainref30.Reader).number -/
noncomputable def c94 : Code := match Tryz.f94.body with | some c => c | none => .skip
noncomputable def an94 : Ann := { loops := fun i => [], draws := fun i => #[], joins := fun i => none }
def F94 (a0r : Option Addr) (h : Heap) (R : KV) : Prop :=
 VSome a0r fun a1 =>
 ∃ b2 : Bool, cellH h ⟨a1.block, a1.off + 1, none⟩ = some (.bool b2) ∧
 cond b2
 (R (.int .i64 0) h)
 (VSome a0r fun a3 =>
 ∃ (a4 : Option Addr) (la4 ca4 : Nat), cellH h a3 = some (.slice a4 la4 ca4) ∧
 CallsH Tryz.prog 126 #[.slice a4 la4 ca4] h fun v5 h6 =>
 ∃ x7 : Int, ∃ x8 : Int, ∃ x9 : Int, v5 = .tuple #[.int .i64 x7, .int .i64 x8, .int .i64 x9] ∧
 cond (x9 != (0 : Int))
 (VSome a0r fun a10 =>
 VStore h6 ⟨a10.block, a10.off + 1, none⟩ (.bool true) fun h11 =>
 R (.int .i64 0) h11)
 (CallsH Tryz.prog 84 #[.pointer a0r, .int .i64 x8] h6 fun v12 h13 =>
 ∃ (a14 : Option Addr) (la14 ca14 : Nat), v12 = .slice a14 la14 ca14 ∧
 R (.int .i64 x7) h13))
theorem vf94 (a0r : Option Addr) (h : Heap) (R : KV) (hF : F94 a0r h R) : CallsH Tryz.prog 94 #[.pointer a0r] h R :=
 calls_of_form (A := an94) (fn := Tryz.f94) (c := c94) (args := [.pointer a0r]) Tryz.func94 (by kernel_rfl) mixed (by kernel_rfl) (by kernel_rfl : F94 a0r h R = vcF Tryz.prog an94 Tryz.f94 c94 [.pointer a0r] h R) hF
/-! ### 95 (refrain/refrainref30.Reader).many -/
noncomputable def c95 : Code := match Tryz.f95.body with | some c => c | none => .skip
noncomputable def an95 : Ann := { loops := fun i => [], draws := fun i => #[], joins := fun i => none }
def F95 (a0r : Option Addr) (h : Heap) (R : KV) : Prop :=
 CallsH Tryz.prog 94 #[.pointer a0r] h fun v1 h2 =>
 ∃ x3 : Int, v1 = .int .i64 x3 ∧
 cond (decide (x3 < (0 : Int))) (VSome a0r fun a4 =>
 VStore h2 ⟨a4.block, a4.off + 1, none⟩ (.bool true) fun h5 =>
 R (.int .i64 0) h5) (VSome a0r fun a6 =>
 ∃ (a7 : Option Addr) (la7 ca7 : Nat), cellH h2 a6 = some (.slice a7 la7 ca7) ∧
 cond (decide (x3 > (la7 : Int)))
 (VSome a0r fun a8 =>
 VStore h2 ⟨a8.block, a8.off + 1, none⟩ (.bool true) fun h9 =>
 R (.int .i64 0) h9)
 (R (.int .i64 x3) h2))
theorem vf95 (a0r : Option Addr) (h : Heap) (R : KV) (hF : F95 a0r h R) : CallsH Tryz.prog 95 #[.pointer a0r] h R :=
 calls_of_form (A := an95) (fn := Tryz.f95) (c := c95) (args := [.pointer a0r]) Tryz.func95 (by kernel_rfl) mixed (by kernel_rfl) (by kernel_rfl : F95 a0r h R = vcF Tryz.prog an95 Tryz.f95 c95 [.pointer a0r] h R) hF
/-! ### 96 (refrain/refrainref30.Reader).values -/
noncomputable def c96 : Code := match Tryz.f96.body with | some c => c | none => .skip
noncomputable def an96 : Ann := { loops := fun i => match i with | 4 => [(4, .slc), (5, .int .i64)] | _ => [], draws := fun i => #[], joins := fun i => none }
def F96 (a0r : Option Addr) (h : Heap) (R : KV) : Prop :=
 CallsH Tryz.prog 95 #[.pointer a0r] h fun v1 h2 =>
 ∃ x3 : Int, v1 = .int .i64 x3 ∧
 ∃ I4 : Nat → Heap → Option Addr → Nat → Nat → Int → Prop, (∃ n5, I4 n5 h2 none 0 0 0) ∧
 ∀ (n5 : Nat) (h6 : Heap) (g7 : Env) (l_8 : Option Addr) (ll_8 cl_8 : Nat) (i_9 : Int), I4 n5 h6 l_8 ll_8 cl_8 i_9 →
 cond (decide (i_9 < x3)) (VSome a0r fun a11 =>
 ∃ b12 : Bool, cellH h6 ⟨a11.block, a11.off + 1, none⟩ = some (.bool b12) ∧
 cond (!b12)
 (CallsH Tryz.prog 127 #[.pointer a0r] h6 fun v13 h14 =>
 ∃ x15 : Int, ∃ x16 : Int, ∃ s17 : ByteArray, ∃ b18 : Bool, v13 = .agg #[.int .i64 x15, .int .i64 x16, .string s17, .bool b18] ∧
 VNew h14 (.cells #[.int .i64 0, .int .i64 0, .string (ByteArray.mk #[]), .bool false] 127) fun b19 h20 =>
 storeL ⟨b19, 0, none⟩ 0 [.int .i64 x15, .int .i64 x16, .string s17, .bool b18] h20 fun h21 =>
 ∃ x22 : Int, cellH h21 ⟨b19, 0, none⟩ = some (.int .i64 x22) ∧
 ∃ x23 : Int, cellH h21 ⟨b19, 1, none⟩ = some (.int .i64 x23) ∧
 ∃ s24 : ByteArray, cellH h21 ⟨b19, 2, none⟩ = some (.string s24) ∧
 ∃ b25 : Bool, cellH h21 ⟨b19, 3, none⟩ = some (.bool b25) ∧
 VNew h21 (.cells #[.int .i64 x22, .int .i64 x23, .string s24, .bool b25] 127) fun b26 h27 =>
 RunsTo Tryz.prog (Builtin.append_ #[112, 112] 112 #[.slice l_8 ll_8 cl_8, .slice (some ⟨b26, 0, none⟩) 1 1]) h27 fun v28 h29 =>
 ∃ (a30 : Option Addr) (la30 ca30 : Nat), v28 = .slice a30 la30 ca30 ∧
 ∃ m10, m10 < n5 ∧ I4 m10 h29 a30 la30 ca30 (IntKind.i64.wrap (i_9 + 1)))
 (R (.slice l_8 ll_8 cl_8) h6)) (R (.slice l_8 ll_8 cl_8) h6)
theorem vf96 (a0r : Option Addr) (h : Heap) (R : KV) (hF : F96 a0r h R) : CallsH Tryz.prog 96 #[.pointer a0r] h R :=
 calls_of_form (A := an96) (fn := Tryz.f96) (c := c96) (args := [.pointer a0r]) Tryz.func96 (by kernel_rfl) mixed (by kernel_rfl) (by kernel_rfl : F96 a0r h R = vcF Tryz.prog an96 Tryz.f96 c96 [.pointer a0r] h R) hF
/-! ### 121 refrain/refrainref3.PutInt -/
noncomputable def c121 : Code := match Tryz.f121.body with | some c => c | none => .skip
noncomputable def an121 : Ann := { loops := fun i => match i with | 5 => [(3, .int .u64), (4, .slc)] | _ => [], draws := fun i => #[], joins := fun i => match i with | 4 => some [(3, .int .u64)] | _ => none }
def F121 (a0n : Int) (h : Heap) (R : KV) : Prop :=
 ∃ J1 : Heap → Int → Prop, (cond (decide (a0n < (0 : Int)))
 (J1 h (IntKind.u64.wrap ((IntKind.u64.wrap (2 * (IntKind.u64.wrap (IntKind.i64.wrap (0 - (IntKind.i64.wrap (a0n + 1))))))) + 1)))
 (J1 h (IntKind.u64.wrap (2 * (IntKind.u64.wrap a0n))))) ∧
 ∀ (h2 : Heap) (g3 : Env) (z_4 : Int), J1 h2 z_4 →
 ∃ I5 : Nat → Heap → Int → Option Addr → Nat → Nat → Prop, (∃ n6, I5 n6 h2 z_4 none 0 0) ∧
 ∀ (n6 : Nat) (h7 : Heap) (g8 : Env) (z_9 : Int) (b_10 : Option Addr) (lb_10 cb_10 : Nat), I5 n6 h7 z_9 b_10 lb_10 cb_10 →
 cond (decide (z_9 ≥ (128 : Int)))
 ((128 : Int) ≠ (0 : Int) ∧
 VNew h7 (.cells #[.int .u8 (IntKind.u8.wrap (IntKind.u64.wrap (128 + (Int.tmod z_9 128))))] 5) fun b12 h13 =>
 RunsTo Tryz.prog (Builtin.append_ #[36, 36] 36 #[.slice b_10 lb_10 cb_10, .slice (some ⟨b12, 0, none⟩) 1 1]) h13 fun v14 h15 =>
 ∃ (a16 : Option Addr) (la16 ca16 : Nat), v14 = .slice a16 la16 ca16 ∧
 (128 : Int) ≠ (0 : Int) ∧
 ∃ m11, m11 < n6 ∧ I5 m11 h15 (IntKind.u64.wrap (Int.tdiv z_9 128)) a16 la16 ca16)
 (VNew h7 (.cells #[.int .u8 (IntKind.u8.wrap z_9)] 5) fun b17 h18 =>
 RunsTo Tryz.prog (Builtin.append_ #[36, 36] 36 #[.slice b_10 lb_10 cb_10, .slice (some ⟨b17, 0, none⟩) 1 1]) h18 fun v19 h20 =>
 ∃ (a21 : Option Addr) (la21 ca21 : Nat), v19 = .slice a21 la21 ca21 ∧
 R (.slice a21 la21 ca21) h20)
theorem vf121 (a0n : Int) (h : Heap) (R : KV) (hF : F121 a0n h R) : CallsH Tryz.prog 121 #[.int .i64 a0n] h R :=
 calls_of_form (A := an121) (fn := Tryz.f121) (c := c121) (args := [.int .i64 a0n]) Tryz.func121 (by kernel_rfl) mixed (by kernel_rfl) (by kernel_rfl : F121 a0n h R = vcF Tryz.prog an121 Tryz.f121 c121 [.int .i64 a0n] h R) hF
/-! ### 122 refrain/refrainref2.Name -/
noncomputable def c122 : Code := match Tryz.f122.body with | some c => c | none => .skip
noncomputable def an122 : Ann := { loops := fun i => match i with | 4 => [(2, .bool), (3, .int .i64)] | _ => [], draws := fun i => #[], joins := fun i => none }
def F122 (a0s : ByteArray) (h : Heap) (R : KV) : Prop :=
 cond (decide ((a0s.size : Int) < (1 : Int))) (R (.bool false) h) (cond (decide ((a0s.size : Int) > (32 : Int))) (R (.bool false) h) ((0 : Int) ≤ 0 ∧ ∃ u1 : UInt8, a0s[Int.toNat 0]? = some u1 ∧
 CallsH Tryz.prog 133 #[.int .u8 (u1.toNat : Int)] h fun v2 h3 =>
 ∃ b4 : Bool, v2 = .bool b4 ∧
 cond b4 (R (.bool false) h3) (CallsH Tryz.prog 134 #[.string a0s] h3 fun v5 h6 =>
 ∃ b7 : Bool, v5 = .bool b7 ∧
 cond b7
 (R (.bool false) h6)
 (∃ I8 : Nat → Heap → Bool → Int → Prop, (∃ n9, I8 n9 h6 false 0) ∧
 ∀ (n9 : Nat) (h10 : Heap) (g11 : Env) (y_12 : Bool) (i_13 : Int), I8 n9 h10 y_12 i_13 →
 cond (decide (i_13 < (a0s.size : Int)))
 ((0 : Int) ≤ i_13 ∧ ∃ u15 : UInt8, a0s[Int.toNat i_13]? = some u15 ∧
 CallsH Tryz.prog 135 #[.int .u8 (u15.toNat : Int)] h10 fun v16 h17 =>
 ∃ b18 : Bool, v16 = .bool b18 ∧
 cond (!b18)
 (R (.bool false) h17)
 (∃ m14, m14 < n9 ∧ I8 m14 h17 y_12 (IntKind.i64.wrap (i_13 + 1))))
 (R (.bool true) h10)))))
theorem vf122 (a0s : ByteArray) (h : Heap) (R : KV) (hF : F122 a0s h R) : CallsH Tryz.prog 122 #[.string a0s] h R :=
 calls_of_form (A := an122) (fn := Tryz.f122) (c := c122) (args := [.string a0s]) Tryz.func122 (by kernel_rfl) mixed (by kernel_rfl) (by kernel_rfl : F122 a0s h R = vcF Tryz.prog an122 Tryz.f122 c122 [.string a0s] h R) hF
/-! ### 123 refrain/refrainref1.Valid -/
noncomputable def c123 : Code := match Tryz.f123.body with | some c => c | none => .skip
noncomputable def an123 : Ann := { loops := fun i => [], draws := fun i => #[], joins := fun i => none }
def F123 (a0v_0 : Int) (a0v_1 : Int) (a0v_2 : ByteArray) (a0v_3 : Bool) (h : Heap) (R : KV) : Prop :=
 VNew h (.cells #[.int .i64 a0v_0, .int .i64 a0v_1, .string a0v_2, .bool a0v_3] 127) fun b1 h2 =>
 ∃ x3 : Int, cellH h2 ⟨b1, 0, none⟩ = some (.int .i64 x3) ∧
 cond (x3 == (1 : Int))
 (∃ s4 : ByteArray, cellH h2 ⟨b1, 2, none⟩ = some (.string s4) ∧
 cond (strEq s4 (ByteArray.mk #[])) (∃ b5 : Bool, cellH h2 ⟨b1, 3, none⟩ = some (.bool b5) ∧
 R (.bool (!b5)) h2) (R (.bool false) h2))
 (cond (x3 == (2 : Int))
 (∃ x6 : Int, cellH h2 ⟨b1, 1, none⟩ = some (.int .i64 x6) ∧
 cond (x6 == (0 : Int)) (∃ b7 : Bool, cellH h2 ⟨b1, 3, none⟩ = some (.bool b7) ∧
 cond (!b7) (∃ s8 : ByteArray, cellH h2 ⟨b1, 2, none⟩ = some (.string s8) ∧
 R (.bool (decide ((s8.size : Int) ≤ (256 : Int)))) h2) (R (.bool false) h2)) (R (.bool false) h2))
 (cond (x3 == (3 : Int))
 (∃ x9 : Int, cellH h2 ⟨b1, 1, none⟩ = some (.int .i64 x9) ∧
 cond (x9 == (0 : Int)) (∃ s10 : ByteArray, cellH h2 ⟨b1, 2, none⟩ = some (.string s10) ∧
 R (.bool (strEq s10 (ByteArray.mk #[]))) h2) (R (.bool false) h2))
 (R (.bool false) h2)))
theorem vf123 (a0v_0 : Int) (a0v_1 : Int) (a0v_2 : ByteArray) (a0v_3 : Bool) (h : Heap) (R : KV) (hF : F123 a0v_0 a0v_1 a0v_2 a0v_3 h R) : CallsH Tryz.prog 123 #[.agg #[.int .i64 a0v_0, .int .i64 a0v_1, .string a0v_2, .bool a0v_3]] h R :=
 calls_of_form (A := an123) (fn := Tryz.f123) (c := c123) (args := [.agg #[.int .i64 a0v_0, .int .i64 a0v_1, .string a0v_2, .bool a0v_3]]) Tryz.func123 (by kernel_rfl) mixed (by kernel_rfl) (by kernel_rfl : F123 a0v_0 a0v_1 a0v_2 a0v_3 h R = vcF Tryz.prog an123 Tryz.f123 c123 [.agg #[.int .i64 a0v_0, .int .i64 a0v_1, .string a0v_2, .bool a0v_3]] h R) hF
/-! ### 125 refrain/refrainref3.Decode -/
noncomputable def c125 : Code := match Tryz.f125.body with | some c => c | none => .skip
noncomputable def an125 : Ann := { loops := fun i => match i with | 9 => [(8, .int .i64)] | _ => [], draws := fun i => match i with | 11 => #[0, 1, 0, 4, 12, 31, 63, 127] | 13 => #[0, 0, 2, 6, 14, 1, 33, 127] | 14 => #[0, 0, 2, 6, 14, 1, 63, 127] | _ => #[], joins := fun i => match i with | 6 => some [] | _ => none }
def F125 (a0b : Option Addr) (la0b ca0b : Nat) (h : Heap) (R : KV) : Prop :=
 VNew h (.cells #[.string (ByteArray.mk #[]), .int .i64 0, .slice none 0 0] 125) fun b1 h2 =>
 VNew h2 (.cells #[.slice a0b la0b ca0b, .int .i64 0, .int .i64 0] 186) fun b3 h4 =>
 VNew h4 (.cells #[.string (ByteArray.mk #[]), .int .i64 0, .slice none 0 0] 125) fun b5 h6 =>
 CallsH Tryz.prog 136 #[.pointer (some ⟨b3, 0, none⟩), .int .i64 1, .int .i64 32] h6 fun v7 h8 =>
 ∃ s9 : ByteArray, v7 = .string s9 ∧
 VStore h8 ⟨b5, 0, none⟩ (.string s9) fun h10 =>
 ∃ J11 : Heap → Prop, (∃ x12 : Int, cellH h10 ⟨b3, 2, none⟩ = some (.int .i64 x12) ∧
 cond (x12 == (0 : Int)) (∃ s13 : ByteArray, cellH h10 ⟨b5, 0, none⟩ = some (.string s13) ∧
 CallsH Tryz.prog 122 #[.string s13] h10 fun v14 h15 =>
 ∃ b16 : Bool, v14 = .bool b16 ∧
 cond (!b16)
 (CallsH Tryz.prog 137 #[.pointer (some ⟨b3, 0, none⟩), .int .i64 31] h15 fun v17 h18 =>
 v17 = .tuple #[] ∧
 J11 h18)
 (J11 h15)) (J11 h10)) ∧
 ∀ (h19 : Heap) (g20 : Env), J11 h19 →
 CallsH Tryz.prog 138 #[.pointer (some ⟨b3, 0, none⟩), .int .i64 0, .int .i64 4611686018427387904] h19 fun v21 h22 =>
 ∃ x23 : Int, v21 = .int .i64 x23 ∧
 VStore h22 ⟨b5, 1, none⟩ (.int .i64 x23) fun h24 =>
 CallsH Tryz.prog 138 #[.pointer (some ⟨b3, 0, none⟩), .int .i64 0, .int .i64 16] h24 fun v25 h26 =>
 ∃ x27 : Int, v25 = .int .i64 x27 ∧
 ∃ I28 : Nat → Heap → Int → Prop, (∃ n29, I28 n29 h26 0) ∧
 ∀ (n29 : Nat) (h30 : Heap) (g31 : Env) (i_32 : Int), I28 n29 h30 i_32 →
 cond (decide (i_32 < x27)) (∃ x34 : Int, cellH h30 ⟨b3, 2, none⟩ = some (.int .i64 x34) ∧
 cond (x34 == (0 : Int))
 (∃ (a35 : Option Addr) (la35 ca35 : Nat), cellH h30 ⟨b5, 2, none⟩ = some (.slice a35 la35 ca35) ∧
 CallsH Tryz.prog 139 #[.pointer (some ⟨b3, 0, none⟩)] h30 fun v36 h37 =>
 ∃ x38 : Int, ∃ x39 : Int, ∃ s40 : ByteArray, ∃ b41 : Bool, v36 = .agg #[.int .i64 x38, .int .i64 x39, .string s40, .bool b41] ∧
 (cellH h37 ⟨b5, 2, none⟩ = some (.slice a35 la35 ca35)) ∧
 VNew h37 (.cells #[.int .i64 x38, .int .i64 x39, .string s40, .bool b41] 127) fun b42 h43 =>
 (cellH h43 ⟨b5, 2, none⟩ = some (.slice a35 la35 ca35)) ∧
 RunsTo Tryz.prog (Builtin.append_ #[112, 112] 112 #[.slice a35 la35 ca35, .slice (some ⟨b42, 0, none⟩) 1 1]) h43 fun v44 h45 =>
 ∃ (a46 : Option Addr) (la46 ca46 : Nat), v44 = .slice a46 la46 ca46 ∧
 VStore h45 ⟨b5, 2, none⟩ (.slice a46 la46 ca46) fun h47 =>
 ∃ m33, m33 < n29 ∧ I28 m33 h47 (IntKind.i64.wrap (i_32 + 1)))
 (∃ x48 : Int, cellH h30 ⟨b3, 2, none⟩ = some (.int .i64 x48) ∧
 cond (x48 != (0 : Int))
 (∃ x49 : Int, cellH h30 ⟨b3, 2, none⟩ = some (.int .i64 x49) ∧
 storeL ⟨b1, 0, none⟩ 0 [.string (ByteArray.mk #[]), .int .i64 0, .slice none 0 0] h30 fun h50 =>
 (cellH h50 ⟨b3, 2, none⟩ = some (.int .i64 x49)) ∧
 ∃ s51 : ByteArray, cellH h50 ⟨b1, 0, none⟩ = some (.string s51) ∧
 ∃ x52 : Int, cellH h50 ⟨b1, 1, none⟩ = some (.int .i64 x52) ∧
 ∃ (a53 : Option Addr) (la53 ca53 : Nat), cellH h50 ⟨b1, 2, none⟩ = some (.slice a53 la53 ca53) ∧
 R (.tuple #[.agg #[.string s51, .int .i64 x52, .slice a53 la53 ca53], .int .i64 0, .int .i64 x49]) h50)
 (∃ s54 : ByteArray, cellH h30 ⟨b5, 0, none⟩ = some (.string s54) ∧
 ∃ x55 : Int, cellH h30 ⟨b5, 1, none⟩ = some (.int .i64 x55) ∧
 ∃ (a56 : Option Addr) (la56 ca56 : Nat), cellH h30 ⟨b5, 2, none⟩ = some (.slice a56 la56 ca56) ∧
 ∃ x57 : Int, cellH h30 ⟨b3, 1, none⟩ = some (.int .i64 x57) ∧
 storeL ⟨b1, 0, none⟩ 0 [.string s54, .int .i64 x55, .slice a56 la56 ca56] h30 fun h58 =>
 (cellH h58 ⟨b3, 1, none⟩ = some (.int .i64 x57)) ∧
 ∃ s59 : ByteArray, cellH h58 ⟨b1, 0, none⟩ = some (.string s59) ∧
 ∃ x60 : Int, cellH h58 ⟨b1, 1, none⟩ = some (.int .i64 x60) ∧
 ∃ (a61 : Option Addr) (la61 ca61 : Nat), cellH h58 ⟨b1, 2, none⟩ = some (.slice a61 la61 ca61) ∧
 R (.tuple #[.agg #[.string s59, .int .i64 x60, .slice a61 la61 ca61], .int .i64 x57, .int .i64 0]) h58))) (∃ x62 : Int, cellH h30 ⟨b3, 2, none⟩ = some (.int .i64 x62) ∧
 cond (x62 != (0 : Int))
 (∃ x63 : Int, cellH h30 ⟨b3, 2, none⟩ = some (.int .i64 x63) ∧
 storeL ⟨b1, 0, none⟩ 0 [.string (ByteArray.mk #[]), .int .i64 0, .slice none 0 0] h30 fun h64 =>
 (cellH h64 ⟨b3, 2, none⟩ = some (.int .i64 x63)) ∧
 ∃ s65 : ByteArray, cellH h64 ⟨b1, 0, none⟩ = some (.string s65) ∧
 ∃ x66 : Int, cellH h64 ⟨b1, 1, none⟩ = some (.int .i64 x66) ∧
 ∃ (a67 : Option Addr) (la67 ca67 : Nat), cellH h64 ⟨b1, 2, none⟩ = some (.slice a67 la67 ca67) ∧
 R (.tuple #[.agg #[.string s65, .int .i64 x66, .slice a67 la67 ca67], .int .i64 0, .int .i64 x63]) h64)
 (∃ s68 : ByteArray, cellH h30 ⟨b5, 0, none⟩ = some (.string s68) ∧
 ∃ x69 : Int, cellH h30 ⟨b5, 1, none⟩ = some (.int .i64 x69) ∧
 ∃ (a70 : Option Addr) (la70 ca70 : Nat), cellH h30 ⟨b5, 2, none⟩ = some (.slice a70 la70 ca70) ∧
 ∃ x71 : Int, cellH h30 ⟨b3, 1, none⟩ = some (.int .i64 x71) ∧
 storeL ⟨b1, 0, none⟩ 0 [.string s68, .int .i64 x69, .slice a70 la70 ca70] h30 fun h72 =>
 (cellH h72 ⟨b3, 1, none⟩ = some (.int .i64 x71)) ∧
 ∃ s73 : ByteArray, cellH h72 ⟨b1, 0, none⟩ = some (.string s73) ∧
 ∃ x74 : Int, cellH h72 ⟨b1, 1, none⟩ = some (.int .i64 x74) ∧
 ∃ (a75 : Option Addr) (la75 ca75 : Nat), cellH h72 ⟨b1, 2, none⟩ = some (.slice a75 la75 ca75) ∧
 R (.tuple #[.agg #[.string s73, .int .i64 x74, .slice a75 la75 ca75], .int .i64 x71, .int .i64 0]) h72))
theorem vf125 (a0b : Option Addr) (la0b ca0b : Nat) (h : Heap) (R : KV) (hF : F125 a0b la0b ca0b h R) : CallsH Tryz.prog 125 #[.slice a0b la0b ca0b] h R :=
 calls_of_form (A := an125) (fn := Tryz.f125) (c := c125) (args := [.slice a0b la0b ca0b]) Tryz.func125 (by kernel_rfl) mixed (by kernel_rfl) (by kernel_rfl : F125 a0b la0b ca0b h R = vcF Tryz.prog an125 Tryz.f125 c125 [.slice a0b la0b ca0b] h R) hF
/-! ### 126 refrain/refrainref3.Int -/
noncomputable def c126 : Code := match Tryz.f126.body with | some c => c | none => .skip
noncomputable def an126 : Ann := { loops := fun i => match i with | 2 => [(5, .int .i64)] | 10 => [(6, .int .u64), (7, .int .u64), (8, .int .i64)] | _ => [], draws := fun i => match i with | 17 => #[0, 1, 0, 0, 8, 28, 63, 127] | _ => #[], joins := fun i => match i with | 17 => some [(9, .int .i64)] | _ => none }
def F126 (a0b : Option Addr) (la0b ca0b : Nat) (h : Heap) (R : KV) : Prop :=
 ∃ I1 : Nat → Heap → Int → Prop, (∃ n2, I1 n2 h 0) ∧
 ∀ (n2 : Nat) (h3 : Heap) (g4 : Env) (n_5 : Int), I1 n2 h3 n_5 →
 cond (decide (n_5 < (la0b : Int))) (cond (decide (n_5 < (10 : Int))) (VIdx a0b la0b n_5 1 fun a7 =>
 ∃ x8 : Int, cellH h3 a7 = some (.int .u8 x8) ∧
 cond (decide (x8 ≥ (128 : Int)))
 (∃ m6, m6 < n2 ∧ I1 m6 h3 (IntKind.i64.wrap (n_5 + 1)))
 (cond (n_5 == (10 : Int)) (R (.tuple #[.int .i64 0, .int .i64 0, .int .i64 31]) h3) (cond (n_5 == (9 : Int)) (cond (decide (n_5 < (la0b : Int))) (VIdx a0b la0b 9 1 fun a9 =>
 ∃ x10 : Int, cellH h3 a9 = some (.int .u8 x10) ∧
 cond (decide (x10 > (1 : Int)))
 (R (.tuple #[.int .i64 0, .int .i64 0, .int .i64 31]) h3)
 (cond (n_5 == (la0b : Int))
 (R (.tuple #[.int .i64 0, .int .i64 0, .int .i64 30]) h3)
 (∃ I11 : Nat → Heap → Int → Int → Int → Prop, (∃ n12, I11 n12 h3 0 1 0) ∧
 ∀ (n12 : Nat) (h13 : Heap) (g14 : Env) (z_15 : Int) (times_16 : Int) (i_17 : Int), I11 n12 h13 z_15 times_16 i_17 →
 cond (decide (i_17 ≤ n_5))
 (VIdx a0b la0b i_17 1 fun a19 =>
 ∃ x20 : Int, cellH h13 a19 = some (.int .u8 x20) ∧
 (128 : Int) ≠ (0 : Int) ∧
 ∃ m18, m18 < n12 ∧ I11 m18 h13 (IntKind.u64.wrap (z_15 + (IntKind.u64.wrap ((IntKind.u64.wrap (Int.tmod x20 128)) * times_16)))) (IntKind.u64.wrap (times_16 * 128)) (IntKind.i64.wrap (i_17 + 1)))
 ((2 : Int) ≠ (0 : Int) ∧
 ∃ J21 : Heap → Int → Prop, ((2 : Int) ≠ (0 : Int) ∧
 cond ((Int.tmod z_15 2) == (1 : Int))
 (J21 h13 (IntKind.i64.wrap ((IntKind.i64.wrap (0 - (IntKind.i64.wrap (IntKind.u64.wrap (Int.tdiv z_15 2))))) - 1)))
 (J21 h13 (IntKind.i64.wrap (IntKind.u64.wrap (Int.tdiv z_15 2))))) ∧
 ∀ (h22 : Heap) (g23 : Env) (v_24 : Int), J21 h22 v_24 →
 VSlice 1 a0b ca0b 0 (IntKind.i64.wrap (n_5 + 1)) (ca0b : Int) fun a25 la25 ca25 =>
 CallsH Tryz.prog 121 #[.int .i64 v_24] h22 fun v26 h27 =>
 ∃ (a28 : Option Addr) (la28 ca28 : Nat), v26 = .slice a28 la28 ca28 ∧
 CallsH Tryz.prog 140 #[.slice a28 la28 ca28, .slice a25 la25 ca25] h27 fun v29 h30 =>
 ∃ b31 : Bool, v29 = .bool b31 ∧
 cond (!b31)
 (R (.tuple #[.int .i64 0, .int .i64 0, .int .i64 31]) h30)
 (R (.tuple #[.int .i64 v_24, .int .i64 (IntKind.i64.wrap (n_5 + 1)), .int .i64 0]) h30))))) (cond (n_5 == (la0b : Int))
 (R (.tuple #[.int .i64 0, .int .i64 0, .int .i64 30]) h3)
 (∃ I32 : Nat → Heap → Int → Int → Int → Prop, (∃ n33, I32 n33 h3 0 1 0) ∧
 ∀ (n33 : Nat) (h34 : Heap) (g35 : Env) (z_36 : Int) (times_37 : Int) (i_38 : Int), I32 n33 h34 z_36 times_37 i_38 →
 cond (decide (i_38 ≤ n_5))
 (VIdx a0b la0b i_38 1 fun a40 =>
 ∃ x41 : Int, cellH h34 a40 = some (.int .u8 x41) ∧
 (128 : Int) ≠ (0 : Int) ∧
 ∃ m39, m39 < n33 ∧ I32 m39 h34 (IntKind.u64.wrap (z_36 + (IntKind.u64.wrap ((IntKind.u64.wrap (Int.tmod x41 128)) * times_37)))) (IntKind.u64.wrap (times_37 * 128)) (IntKind.i64.wrap (i_38 + 1)))
 ((2 : Int) ≠ (0 : Int) ∧
 ∃ J42 : Heap → Int → Prop, ((2 : Int) ≠ (0 : Int) ∧
 cond ((Int.tmod z_36 2) == (1 : Int))
 (J42 h34 (IntKind.i64.wrap ((IntKind.i64.wrap (0 - (IntKind.i64.wrap (IntKind.u64.wrap (Int.tdiv z_36 2))))) - 1)))
 (J42 h34 (IntKind.i64.wrap (IntKind.u64.wrap (Int.tdiv z_36 2))))) ∧
 ∀ (h43 : Heap) (g44 : Env) (v_45 : Int), J42 h43 v_45 →
 VSlice 1 a0b ca0b 0 (IntKind.i64.wrap (n_5 + 1)) (ca0b : Int) fun a46 la46 ca46 =>
 CallsH Tryz.prog 121 #[.int .i64 v_45] h43 fun v47 h48 =>
 ∃ (a49 : Option Addr) (la49 ca49 : Nat), v47 = .slice a49 la49 ca49 ∧
 CallsH Tryz.prog 140 #[.slice a49 la49 ca49, .slice a46 la46 ca46] h48 fun v50 h51 =>
 ∃ b52 : Bool, v50 = .bool b52 ∧
 cond (!b52)
 (R (.tuple #[.int .i64 0, .int .i64 0, .int .i64 31]) h51)
 (R (.tuple #[.int .i64 v_45, .int .i64 (IntKind.i64.wrap (n_5 + 1)), .int .i64 0]) h51))))) (cond (n_5 == (la0b : Int))
 (R (.tuple #[.int .i64 0, .int .i64 0, .int .i64 30]) h3)
 (∃ I53 : Nat → Heap → Int → Int → Int → Prop, (∃ n54, I53 n54 h3 0 1 0) ∧
 ∀ (n54 : Nat) (h55 : Heap) (g56 : Env) (z_57 : Int) (times_58 : Int) (i_59 : Int), I53 n54 h55 z_57 times_58 i_59 →
 cond (decide (i_59 ≤ n_5))
 (VIdx a0b la0b i_59 1 fun a61 =>
 ∃ x62 : Int, cellH h55 a61 = some (.int .u8 x62) ∧
 (128 : Int) ≠ (0 : Int) ∧
 ∃ m60, m60 < n54 ∧ I53 m60 h55 (IntKind.u64.wrap (z_57 + (IntKind.u64.wrap ((IntKind.u64.wrap (Int.tmod x62 128)) * times_58)))) (IntKind.u64.wrap (times_58 * 128)) (IntKind.i64.wrap (i_59 + 1)))
 ((2 : Int) ≠ (0 : Int) ∧
 ∃ J63 : Heap → Int → Prop, ((2 : Int) ≠ (0 : Int) ∧
 cond ((Int.tmod z_57 2) == (1 : Int))
 (J63 h55 (IntKind.i64.wrap ((IntKind.i64.wrap (0 - (IntKind.i64.wrap (IntKind.u64.wrap (Int.tdiv z_57 2))))) - 1)))
 (J63 h55 (IntKind.i64.wrap (IntKind.u64.wrap (Int.tdiv z_57 2))))) ∧
 ∀ (h64 : Heap) (g65 : Env) (v_66 : Int), J63 h64 v_66 →
 VSlice 1 a0b ca0b 0 (IntKind.i64.wrap (n_5 + 1)) (ca0b : Int) fun a67 la67 ca67 =>
 CallsH Tryz.prog 121 #[.int .i64 v_66] h64 fun v68 h69 =>
 ∃ (a70 : Option Addr) (la70 ca70 : Nat), v68 = .slice a70 la70 ca70 ∧
 CallsH Tryz.prog 140 #[.slice a70 la70 ca70, .slice a67 la67 ca67] h69 fun v71 h72 =>
 ∃ b73 : Bool, v71 = .bool b73 ∧
 cond (!b73)
 (R (.tuple #[.int .i64 0, .int .i64 0, .int .i64 31]) h72)
 (R (.tuple #[.int .i64 v_66, .int .i64 (IntKind.i64.wrap (n_5 + 1)), .int .i64 0]) h72))))))) (cond (n_5 == (10 : Int)) (R (.tuple #[.int .i64 0, .int .i64 0, .int .i64 31]) h3) (cond (n_5 == (9 : Int)) (cond (decide (n_5 < (la0b : Int))) (VIdx a0b la0b 9 1 fun a74 =>
 ∃ x75 : Int, cellH h3 a74 = some (.int .u8 x75) ∧
 cond (decide (x75 > (1 : Int)))
 (R (.tuple #[.int .i64 0, .int .i64 0, .int .i64 31]) h3)
 (cond (n_5 == (la0b : Int))
 (R (.tuple #[.int .i64 0, .int .i64 0, .int .i64 30]) h3)
 (∃ I76 : Nat → Heap → Int → Int → Int → Prop, (∃ n77, I76 n77 h3 0 1 0) ∧
 ∀ (n77 : Nat) (h78 : Heap) (g79 : Env) (z_80 : Int) (times_81 : Int) (i_82 : Int), I76 n77 h78 z_80 times_81 i_82 →
 cond (decide (i_82 ≤ n_5))
 (VIdx a0b la0b i_82 1 fun a84 =>
 ∃ x85 : Int, cellH h78 a84 = some (.int .u8 x85) ∧
 (128 : Int) ≠ (0 : Int) ∧
 ∃ m83, m83 < n77 ∧ I76 m83 h78 (IntKind.u64.wrap (z_80 + (IntKind.u64.wrap ((IntKind.u64.wrap (Int.tmod x85 128)) * times_81)))) (IntKind.u64.wrap (times_81 * 128)) (IntKind.i64.wrap (i_82 + 1)))
 ((2 : Int) ≠ (0 : Int) ∧
 ∃ J86 : Heap → Int → Prop, ((2 : Int) ≠ (0 : Int) ∧
 cond ((Int.tmod z_80 2) == (1 : Int))
 (J86 h78 (IntKind.i64.wrap ((IntKind.i64.wrap (0 - (IntKind.i64.wrap (IntKind.u64.wrap (Int.tdiv z_80 2))))) - 1)))
 (J86 h78 (IntKind.i64.wrap (IntKind.u64.wrap (Int.tdiv z_80 2))))) ∧
 ∀ (h87 : Heap) (g88 : Env) (v_89 : Int), J86 h87 v_89 →
 VSlice 1 a0b ca0b 0 (IntKind.i64.wrap (n_5 + 1)) (ca0b : Int) fun a90 la90 ca90 =>
 CallsH Tryz.prog 121 #[.int .i64 v_89] h87 fun v91 h92 =>
 ∃ (a93 : Option Addr) (la93 ca93 : Nat), v91 = .slice a93 la93 ca93 ∧
 CallsH Tryz.prog 140 #[.slice a93 la93 ca93, .slice a90 la90 ca90] h92 fun v94 h95 =>
 ∃ b96 : Bool, v94 = .bool b96 ∧
 cond (!b96)
 (R (.tuple #[.int .i64 0, .int .i64 0, .int .i64 31]) h95)
 (R (.tuple #[.int .i64 v_89, .int .i64 (IntKind.i64.wrap (n_5 + 1)), .int .i64 0]) h95))))) (cond (n_5 == (la0b : Int))
 (R (.tuple #[.int .i64 0, .int .i64 0, .int .i64 30]) h3)
 (∃ I97 : Nat → Heap → Int → Int → Int → Prop, (∃ n98, I97 n98 h3 0 1 0) ∧
 ∀ (n98 : Nat) (h99 : Heap) (g100 : Env) (z_101 : Int) (times_102 : Int) (i_103 : Int), I97 n98 h99 z_101 times_102 i_103 →
 cond (decide (i_103 ≤ n_5))
 (VIdx a0b la0b i_103 1 fun a105 =>
 ∃ x106 : Int, cellH h99 a105 = some (.int .u8 x106) ∧
 (128 : Int) ≠ (0 : Int) ∧
 ∃ m104, m104 < n98 ∧ I97 m104 h99 (IntKind.u64.wrap (z_101 + (IntKind.u64.wrap ((IntKind.u64.wrap (Int.tmod x106 128)) * times_102)))) (IntKind.u64.wrap (times_102 * 128)) (IntKind.i64.wrap (i_103 + 1)))
 ((2 : Int) ≠ (0 : Int) ∧
 ∃ J107 : Heap → Int → Prop, ((2 : Int) ≠ (0 : Int) ∧
 cond ((Int.tmod z_101 2) == (1 : Int))
 (J107 h99 (IntKind.i64.wrap ((IntKind.i64.wrap (0 - (IntKind.i64.wrap (IntKind.u64.wrap (Int.tdiv z_101 2))))) - 1)))
 (J107 h99 (IntKind.i64.wrap (IntKind.u64.wrap (Int.tdiv z_101 2))))) ∧
 ∀ (h108 : Heap) (g109 : Env) (v_110 : Int), J107 h108 v_110 →
 VSlice 1 a0b ca0b 0 (IntKind.i64.wrap (n_5 + 1)) (ca0b : Int) fun a111 la111 ca111 =>
 CallsH Tryz.prog 121 #[.int .i64 v_110] h108 fun v112 h113 =>
 ∃ (a114 : Option Addr) (la114 ca114 : Nat), v112 = .slice a114 la114 ca114 ∧
 CallsH Tryz.prog 140 #[.slice a114 la114 ca114, .slice a111 la111 ca111] h113 fun v115 h116 =>
 ∃ b117 : Bool, v115 = .bool b117 ∧
 cond (!b117)
 (R (.tuple #[.int .i64 0, .int .i64 0, .int .i64 31]) h116)
 (R (.tuple #[.int .i64 v_110, .int .i64 (IntKind.i64.wrap (n_5 + 1)), .int .i64 0]) h116))))) (cond (n_5 == (la0b : Int))
 (R (.tuple #[.int .i64 0, .int .i64 0, .int .i64 30]) h3)
 (∃ I118 : Nat → Heap → Int → Int → Int → Prop, (∃ n119, I118 n119 h3 0 1 0) ∧
 ∀ (n119 : Nat) (h120 : Heap) (g121 : Env) (z_122 : Int) (times_123 : Int) (i_124 : Int), I118 n119 h120 z_122 times_123 i_124 →
 cond (decide (i_124 ≤ n_5))
 (VIdx a0b la0b i_124 1 fun a126 =>
 ∃ x127 : Int, cellH h120 a126 = some (.int .u8 x127) ∧
 (128 : Int) ≠ (0 : Int) ∧
 ∃ m125, m125 < n119 ∧ I118 m125 h120 (IntKind.u64.wrap (z_122 + (IntKind.u64.wrap ((IntKind.u64.wrap (Int.tmod x127 128)) * times_123)))) (IntKind.u64.wrap (times_123 * 128)) (IntKind.i64.wrap (i_124 + 1)))
 ((2 : Int) ≠ (0 : Int) ∧
 ∃ J128 : Heap → Int → Prop, ((2 : Int) ≠ (0 : Int) ∧
 cond ((Int.tmod z_122 2) == (1 : Int))
 (J128 h120 (IntKind.i64.wrap ((IntKind.i64.wrap (0 - (IntKind.i64.wrap (IntKind.u64.wrap (Int.tdiv z_122 2))))) - 1)))
 (J128 h120 (IntKind.i64.wrap (IntKind.u64.wrap (Int.tdiv z_122 2))))) ∧
 ∀ (h129 : Heap) (g130 : Env) (v_131 : Int), J128 h129 v_131 →
 VSlice 1 a0b ca0b 0 (IntKind.i64.wrap (n_5 + 1)) (ca0b : Int) fun a132 la132 ca132 =>
 CallsH Tryz.prog 121 #[.int .i64 v_131] h129 fun v133 h134 =>
 ∃ (a135 : Option Addr) (la135 ca135 : Nat), v133 = .slice a135 la135 ca135 ∧
 CallsH Tryz.prog 140 #[.slice a135 la135 ca135, .slice a132 la132 ca132] h134 fun v136 h137 =>
 ∃ b138 : Bool, v136 = .bool b138 ∧
 cond (!b138)
 (R (.tuple #[.int .i64 0, .int .i64 0, .int .i64 31]) h137)
 (R (.tuple #[.int .i64 v_131, .int .i64 (IntKind.i64.wrap (n_5 + 1)), .int .i64 0]) h137))))))) (cond (n_5 == (10 : Int)) (R (.tuple #[.int .i64 0, .int .i64 0, .int .i64 31]) h3) (cond (n_5 == (9 : Int)) (cond (decide (n_5 < (la0b : Int))) (VIdx a0b la0b 9 1 fun a139 =>
 ∃ x140 : Int, cellH h3 a139 = some (.int .u8 x140) ∧
 cond (decide (x140 > (1 : Int)))
 (R (.tuple #[.int .i64 0, .int .i64 0, .int .i64 31]) h3)
 (cond (n_5 == (la0b : Int))
 (R (.tuple #[.int .i64 0, .int .i64 0, .int .i64 30]) h3)
 (∃ I141 : Nat → Heap → Int → Int → Int → Prop, (∃ n142, I141 n142 h3 0 1 0) ∧
 ∀ (n142 : Nat) (h143 : Heap) (g144 : Env) (z_145 : Int) (times_146 : Int) (i_147 : Int), I141 n142 h143 z_145 times_146 i_147 →
 cond (decide (i_147 ≤ n_5))
 (VIdx a0b la0b i_147 1 fun a149 =>
 ∃ x150 : Int, cellH h143 a149 = some (.int .u8 x150) ∧
 (128 : Int) ≠ (0 : Int) ∧
 ∃ m148, m148 < n142 ∧ I141 m148 h143 (IntKind.u64.wrap (z_145 + (IntKind.u64.wrap ((IntKind.u64.wrap (Int.tmod x150 128)) * times_146)))) (IntKind.u64.wrap (times_146 * 128)) (IntKind.i64.wrap (i_147 + 1)))
 ((2 : Int) ≠ (0 : Int) ∧
 ∃ J151 : Heap → Int → Prop, ((2 : Int) ≠ (0 : Int) ∧
 cond ((Int.tmod z_145 2) == (1 : Int))
 (J151 h143 (IntKind.i64.wrap ((IntKind.i64.wrap (0 - (IntKind.i64.wrap (IntKind.u64.wrap (Int.tdiv z_145 2))))) - 1)))
 (J151 h143 (IntKind.i64.wrap (IntKind.u64.wrap (Int.tdiv z_145 2))))) ∧
 ∀ (h152 : Heap) (g153 : Env) (v_154 : Int), J151 h152 v_154 →
 VSlice 1 a0b ca0b 0 (IntKind.i64.wrap (n_5 + 1)) (ca0b : Int) fun a155 la155 ca155 =>
 CallsH Tryz.prog 121 #[.int .i64 v_154] h152 fun v156 h157 =>
 ∃ (a158 : Option Addr) (la158 ca158 : Nat), v156 = .slice a158 la158 ca158 ∧
 CallsH Tryz.prog 140 #[.slice a158 la158 ca158, .slice a155 la155 ca155] h157 fun v159 h160 =>
 ∃ b161 : Bool, v159 = .bool b161 ∧
 cond (!b161)
 (R (.tuple #[.int .i64 0, .int .i64 0, .int .i64 31]) h160)
 (R (.tuple #[.int .i64 v_154, .int .i64 (IntKind.i64.wrap (n_5 + 1)), .int .i64 0]) h160))))) (cond (n_5 == (la0b : Int))
 (R (.tuple #[.int .i64 0, .int .i64 0, .int .i64 30]) h3)
 (∃ I162 : Nat → Heap → Int → Int → Int → Prop, (∃ n163, I162 n163 h3 0 1 0) ∧
 ∀ (n163 : Nat) (h164 : Heap) (g165 : Env) (z_166 : Int) (times_167 : Int) (i_168 : Int), I162 n163 h164 z_166 times_167 i_168 →
 cond (decide (i_168 ≤ n_5))
 (VIdx a0b la0b i_168 1 fun a170 =>
 ∃ x171 : Int, cellH h164 a170 = some (.int .u8 x171) ∧
 (128 : Int) ≠ (0 : Int) ∧
 ∃ m169, m169 < n163 ∧ I162 m169 h164 (IntKind.u64.wrap (z_166 + (IntKind.u64.wrap ((IntKind.u64.wrap (Int.tmod x171 128)) * times_167)))) (IntKind.u64.wrap (times_167 * 128)) (IntKind.i64.wrap (i_168 + 1)))
 ((2 : Int) ≠ (0 : Int) ∧
 ∃ J172 : Heap → Int → Prop, ((2 : Int) ≠ (0 : Int) ∧
 cond ((Int.tmod z_166 2) == (1 : Int))
 (J172 h164 (IntKind.i64.wrap ((IntKind.i64.wrap (0 - (IntKind.i64.wrap (IntKind.u64.wrap (Int.tdiv z_166 2))))) - 1)))
 (J172 h164 (IntKind.i64.wrap (IntKind.u64.wrap (Int.tdiv z_166 2))))) ∧
 ∀ (h173 : Heap) (g174 : Env) (v_175 : Int), J172 h173 v_175 →
 VSlice 1 a0b ca0b 0 (IntKind.i64.wrap (n_5 + 1)) (ca0b : Int) fun a176 la176 ca176 =>
 CallsH Tryz.prog 121 #[.int .i64 v_175] h173 fun v177 h178 =>
 ∃ (a179 : Option Addr) (la179 ca179 : Nat), v177 = .slice a179 la179 ca179 ∧
 CallsH Tryz.prog 140 #[.slice a179 la179 ca179, .slice a176 la176 ca176] h178 fun v180 h181 =>
 ∃ b182 : Bool, v180 = .bool b182 ∧
 cond (!b182)
 (R (.tuple #[.int .i64 0, .int .i64 0, .int .i64 31]) h181)
 (R (.tuple #[.int .i64 v_175, .int .i64 (IntKind.i64.wrap (n_5 + 1)), .int .i64 0]) h181))))) (cond (n_5 == (la0b : Int))
 (R (.tuple #[.int .i64 0, .int .i64 0, .int .i64 30]) h3)
 (∃ I183 : Nat → Heap → Int → Int → Int → Prop, (∃ n184, I183 n184 h3 0 1 0) ∧
 ∀ (n184 : Nat) (h185 : Heap) (g186 : Env) (z_187 : Int) (times_188 : Int) (i_189 : Int), I183 n184 h185 z_187 times_188 i_189 →
 cond (decide (i_189 ≤ n_5))
 (VIdx a0b la0b i_189 1 fun a191 =>
 ∃ x192 : Int, cellH h185 a191 = some (.int .u8 x192) ∧
 (128 : Int) ≠ (0 : Int) ∧
 ∃ m190, m190 < n184 ∧ I183 m190 h185 (IntKind.u64.wrap (z_187 + (IntKind.u64.wrap ((IntKind.u64.wrap (Int.tmod x192 128)) * times_188)))) (IntKind.u64.wrap (times_188 * 128)) (IntKind.i64.wrap (i_189 + 1)))
 ((2 : Int) ≠ (0 : Int) ∧
 ∃ J193 : Heap → Int → Prop, ((2 : Int) ≠ (0 : Int) ∧
 cond ((Int.tmod z_187 2) == (1 : Int))
 (J193 h185 (IntKind.i64.wrap ((IntKind.i64.wrap (0 - (IntKind.i64.wrap (IntKind.u64.wrap (Int.tdiv z_187 2))))) - 1)))
 (J193 h185 (IntKind.i64.wrap (IntKind.u64.wrap (Int.tdiv z_187 2))))) ∧
 ∀ (h194 : Heap) (g195 : Env) (v_196 : Int), J193 h194 v_196 →
 VSlice 1 a0b ca0b 0 (IntKind.i64.wrap (n_5 + 1)) (ca0b : Int) fun a197 la197 ca197 =>
 CallsH Tryz.prog 121 #[.int .i64 v_196] h194 fun v198 h199 =>
 ∃ (a200 : Option Addr) (la200 ca200 : Nat), v198 = .slice a200 la200 ca200 ∧
 CallsH Tryz.prog 140 #[.slice a200 la200 ca200, .slice a197 la197 ca197] h199 fun v201 h202 =>
 ∃ b203 : Bool, v201 = .bool b203 ∧
 cond (!b203)
 (R (.tuple #[.int .i64 0, .int .i64 0, .int .i64 31]) h202)
 (R (.tuple #[.int .i64 v_196, .int .i64 (IntKind.i64.wrap (n_5 + 1)), .int .i64 0]) h202))))))
theorem vf126 (a0b : Option Addr) (la0b ca0b : Nat) (h : Heap) (R : KV) (hF : F126 a0b la0b ca0b h R) : CallsH Tryz.prog 126 #[.slice a0b la0b ca0b] h R :=
 calls_of_form (A := an126) (fn := Tryz.f126) (c := c126) (args := [.slice a0b la0b ca0b]) Tryz.func126 (by kernel_rfl) mixed (by kernel_rfl) (by kernel_rfl : F126 a0b la0b ca0b h R = vcF Tryz.prog an126 Tryz.f126 c126 [.slice a0b la0b ca0b] h R) hF
/-! ### 127 (refrain/refrainref30.Reader).value -/
noncomputable def c127 : Code := match Tryz.f127.body with | some c => c | none => .skip
noncomputable def an127 : Ann := { loops := fun i => [], draws := fun i => #[], joins := fun i => match i with | 12 => some [] | 15 => some [] | _ => none }
def F127 (a0r : Option Addr) (h : Heap) (R : KV) : Prop :=
 VNew h (.cells #[.int .i64 0, .int .i64 0, .string (ByteArray.mk #[]), .bool false] 127) fun b1 h2 =>
 CallsH Tryz.prog 84 #[.pointer a0r, .int .i64 1] h2 fun v3 h4 =>
 ∃ (a5 : Option Addr) (la5 ca5 : Nat), v3 = .slice a5 la5 ca5 ∧
 VSome a0r fun a6 =>
 ∃ b7 : Bool, cellH h4 ⟨a6.block, a6.off + 1, none⟩ = some (.bool b7) ∧
 cond b7
 (storeL ⟨b1, 0, none⟩ 0 [.int .i64 0, .int .i64 0, .string (ByteArray.mk #[]), .bool false] h4 fun h8 =>
 ∃ x9 : Int, cellH h8 ⟨b1, 0, none⟩ = some (.int .i64 x9) ∧
 ∃ x10 : Int, cellH h8 ⟨b1, 1, none⟩ = some (.int .i64 x10) ∧
 ∃ s11 : ByteArray, cellH h8 ⟨b1, 2, none⟩ = some (.string s11) ∧
 ∃ b12 : Bool, cellH h8 ⟨b1, 3, none⟩ = some (.bool b12) ∧
 R (.agg #[.int .i64 x9, .int .i64 x10, .string s11, .bool b12]) h8)
 (VIdx a5 la5 0 1 fun a13 =>
 ∃ x14 : Int, cellH h4 a13 = some (.int .u8 x14) ∧
 VNew h4 (.cells #[.int .i64 0, .int .i64 0, .string (ByteArray.mk #[]), .bool false] 127) fun b15 h16 =>
 storeL ⟨b15, 0, none⟩ 0 [.int .i64 (IntKind.i64.wrap x14), .int .i64 0, .string (ByteArray.mk #[]), .bool false] h16 fun h17 =>
 ∃ J18 : Heap → Prop, (∃ x19 : Int, cellH h17 ⟨b15, 0, none⟩ = some (.int .i64 x19) ∧
 cond (x19 == (1 : Int))
 (CallsH Tryz.prog 94 #[.pointer a0r] h17 fun v20 h21 =>
 ∃ x22 : Int, v20 = .int .i64 x22 ∧
 VStore h21 ⟨b15, 1, none⟩ (.int .i64 x22) fun h23 =>
 J18 h23)
 (cond (x19 == (2 : Int))
 (CallsH Tryz.prog 86 #[.pointer a0r] h17 fun v24 h25 =>
 ∃ s26 : ByteArray, v24 = .string s26 ∧
 VStore h25 ⟨b15, 2, none⟩ (.string s26) fun h27 =>
 J18 h27)
 (cond (x19 == (3 : Int))
 (CallsH Tryz.prog 93 #[.pointer a0r] h17 fun v28 h29 =>
 ∃ b30 : Bool, v28 = .bool b30 ∧
 VStore h29 ⟨b15, 3, none⟩ (.bool b30) fun h31 =>
 J18 h31)
 (J18 h17)))) ∧
 ∀ (h32 : Heap) (g33 : Env), J18 h32 →
 ∃ x34 : Int, cellH h32 ⟨b15, 0, none⟩ = some (.int .i64 x34) ∧
 ∃ x35 : Int, cellH h32 ⟨b15, 1, none⟩ = some (.int .i64 x35) ∧
 ∃ s36 : ByteArray, cellH h32 ⟨b15, 2, none⟩ = some (.string s36) ∧
 ∃ b37 : Bool, cellH h32 ⟨b15, 3, none⟩ = some (.bool b37) ∧
 CallsH Tryz.prog 123 #[.agg #[.int .i64 x34, .int .i64 x35, .string s36, .bool b37]] h32 fun v38 h39 =>
 ∃ b40 : Bool, v38 = .bool b40 ∧
 ∃ J41 : Heap → Prop, (cond (!b40)
 (VSome a0r fun a42 =>
 VStore h39 ⟨a42.block, a42.off + 1, none⟩ (.bool true) fun h43 =>
 J41 h43)
 (J41 h39)) ∧
 ∀ (h44 : Heap) (g45 : Env), J41 h44 →
 ∃ x46 : Int, cellH h44 ⟨b15, 0, none⟩ = some (.int .i64 x46) ∧
 ∃ x47 : Int, cellH h44 ⟨b15, 1, none⟩ = some (.int .i64 x47) ∧
 ∃ s48 : ByteArray, cellH h44 ⟨b15, 2, none⟩ = some (.string s48) ∧
 ∃ b49 : Bool, cellH h44 ⟨b15, 3, none⟩ = some (.bool b49) ∧
 storeL ⟨b1, 0, none⟩ 0 [.int .i64 x46, .int .i64 x47, .string s48, .bool b49] h44 fun h50 =>
 ∃ x51 : Int, cellH h50 ⟨b1, 0, none⟩ = some (.int .i64 x51) ∧
 ∃ x52 : Int, cellH h50 ⟨b1, 1, none⟩ = some (.int .i64 x52) ∧
 ∃ s53 : ByteArray, cellH h50 ⟨b1, 2, none⟩ = some (.string s53) ∧
 ∃ b54 : Bool, cellH h50 ⟨b1, 3, none⟩ = some (.bool b54) ∧
 R (.agg #[.int .i64 x51, .int .i64 x52, .string s53, .bool b54]) h50)
theorem vf127 (a0r : Option Addr) (h : Heap) (R : KV) (hF : F127 a0r h R) : CallsH Tryz.prog 127 #[.pointer a0r] h R :=
 calls_of_form (A := an127) (fn := Tryz.f127) (c := c127) (args := [.pointer a0r]) Tryz.func127 (by kernel_rfl) mixed (by kernel_rfl) (by kernel_rfl : F127 a0r h R = vcF Tryz.prog an127 Tryz.f127 c127 [.pointer a0r] h R) hF
/-! ### 133 refrain/refrainref2.digit -/
noncomputable def c133 : Code := match Tryz.f133.body with | some c => c | none => .skip
noncomputable def an133 : Ann := { loops := fun i => [], draws := fun i => #[], joins := fun i => none }
def F133 (a0c : Int) (h : Heap) (R : KV) : Prop :=
 cond (decide (a0c ≥ (48 : Int))) (R (.bool (decide (a0c ≤ (57 : Int)))) h) (R (.bool false) h)
theorem vf133 (a0c : Int) (h : Heap) (R : KV) (hF : F133 a0c h R) : CallsH Tryz.prog 133 #[.int .u8 a0c] h R :=
 calls_of_form (A := an133) (fn := Tryz.f133) (c := c133) (args := [.int .u8 a0c]) Tryz.func133 (by kernel_rfl) mixed (by kernel_rfl) (by kernel_rfl : F133 a0c h R = vcF Tryz.prog an133 Tryz.f133 c133 [.int .u8 a0c] h R) hF
/-! ### 134 refrain/refrainref2.Word -/
noncomputable def c134 : Code := match Tryz.f134.body with | some c => c | none => .skip
noncomputable def an134 : Ann := { loops := fun i => match i with | 3 => [(2, .bool), (4, .int .i64)] | _ => [], draws := fun i => #[], joins := fun i => none }
def F134 (a0s : ByteArray) (h : Heap) (R : KV) : Prop :=
 VNew h (.cells #[.string (ByteArray.mk #[80, 65, 84, 84, 69, 82, 78]), .string (ByteArray.mk #[83, 69, 81]), .string (ByteArray.mk #[80, 65, 82, 84, 73, 84, 73, 79, 78]), .string (ByteArray.mk #[66, 89]), .string (ByteArray.mk #[87, 72, 69, 82, 69]), .string (ByteArray.mk #[87, 73, 84, 72, 73, 78]), .string (ByteArray.mk #[82, 69, 84, 85, 82, 78]), .string (ByteArray.mk #[65, 78, 68]), .string (ByteArray.mk #[79, 82]), .string (ByteArray.mk #[78, 79, 84]), .string (ByteArray.mk #[84, 82, 85, 69]), .string (ByteArray.mk #[70, 65, 76, 83, 69]), .string (ByteArray.mk #[84, 89, 80, 69]), .string (ByteArray.mk #[73, 78, 84]), .string (ByteArray.mk #[83, 84, 82]), .string (ByteArray.mk #[66, 79, 79, 76])] 9) fun b1 h2 =>
 ∃ I3 : Nat → Heap → Bool → Int → Prop, (∃ n4, I3 n4 h2 false 0) ∧
 ∀ (n4 : Nat) (h5 : Heap) (g6 : Env) (y_7 : Bool) (i_8 : Int), I3 n4 h5 y_7 i_8 →
 cond (decide (i_8 < (16 : Int)))
 (VIdx (some ⟨b1, 0, none⟩) 16 i_8 1 fun a10 =>
 ∃ s11 : ByteArray, cellH h5 a10 = some (.string s11) ∧
 cond (strEq s11 a0s)
 (R (.bool true) h5)
 (∃ m9, m9 < n4 ∧ I3 m9 h5 y_7 (IntKind.i64.wrap (i_8 + 1))))
 (R (.bool false) h5)
theorem vf134 (a0s : ByteArray) (h : Heap) (R : KV) (hF : F134 a0s h R) : CallsH Tryz.prog 134 #[.string a0s] h R :=
 calls_of_form (A := an134) (fn := Tryz.f134) (c := c134) (args := [.string a0s]) Tryz.func134 (by kernel_rfl) mixed (by kernel_rfl) (by kernel_rfl : F134 a0s h R = vcF Tryz.prog an134 Tryz.f134 c134 [.string a0s] h R) hF
/-! ### 135 refrain/refrainref2.inWord -/
noncomputable def c135 : Code := match Tryz.f135.body with | some c => c | none => .skip
noncomputable def an135 : Ann := { loops := fun i => [], draws := fun i => #[], joins := fun i => none }
def F135 (a0c : Int) (h : Heap) (R : KV) : Prop :=
 cond (decide (a0c ≥ (97 : Int))) (cond (decide (a0c ≤ (122 : Int))) (R (.bool true) h) (cond (decide (a0c ≥ (65 : Int))) (cond (decide (a0c ≤ (90 : Int))) (R (.bool true) h) (cond (a0c == (95 : Int)) (R (.bool true) h) (CallsH Tryz.prog 133 #[.int .u8 a0c] h fun v1 h2 =>
 ∃ b3 : Bool, v1 = .bool b3 ∧
 R (.bool b3) h2))) (cond (a0c == (95 : Int)) (R (.bool true) h) (CallsH Tryz.prog 133 #[.int .u8 a0c] h fun v4 h5 =>
 ∃ b6 : Bool, v4 = .bool b6 ∧
 R (.bool b6) h5)))) (cond (decide (a0c ≥ (65 : Int))) (cond (decide (a0c ≤ (90 : Int))) (R (.bool true) h) (cond (a0c == (95 : Int)) (R (.bool true) h) (CallsH Tryz.prog 133 #[.int .u8 a0c] h fun v7 h8 =>
 ∃ b9 : Bool, v7 = .bool b9 ∧
 R (.bool b9) h8))) (cond (a0c == (95 : Int)) (R (.bool true) h) (CallsH Tryz.prog 133 #[.int .u8 a0c] h fun v10 h11 =>
 ∃ b12 : Bool, v10 = .bool b12 ∧
 R (.bool b12) h11)))
theorem vf135 (a0c : Int) (h : Heap) (R : KV) (hF : F135 a0c h R) : CallsH Tryz.prog 135 #[.int .u8 a0c] h R :=
 calls_of_form (A := an135) (fn := Tryz.f135) (c := c135) (args := [.int .u8 a0c]) Tryz.func135 (by kernel_rfl) mixed (by kernel_rfl) (by kernel_rfl : F135 a0c h R = vcF Tryz.prog an135 Tryz.f135 c135 [.int .u8 a0c] h R) hF
/-! ### 136 (refrain/refrainref3.Reader).text -/
noncomputable def c136 : Code := match Tryz.f136.body with | some c => c | none => .skip
noncomputable def an136 : Ann := { loops := fun i => [], draws := fun i => match i with | 4 => #[0, 0, 2, 6, 14, 30, 0, 64, 192, 448, 1022, 2047] | 8 => #[0, 1, 3, 7, 0, 16, 48, 112, 0, 496, 0, 1024, 3072, 7168, 16383, 32767, 65535] | _ => #[], joins := fun i => none }
def F136 (a0r : Option Addr) (a1lo : Int) (a2hi : Int) (h : Heap) (R : KV) : Prop :=
 CallsH Tryz.prog 138 #[.pointer a0r, .int .i64 a1lo, .int .i64 a2hi] h fun v1 h2 =>
 ∃ x3 : Int, v1 = .int .i64 x3 ∧
 VSome a0r fun a4 =>
 ∃ x5 : Int, cellH h2 ⟨a4.block, a4.off + 2, none⟩ = some (.int .i64 x5) ∧
 cond (x5 != (0 : Int))
 (R (.string (ByteArray.mk #[])) h2)
 (VSome a0r fun a6 =>
 ∃ (a7 : Option Addr) (la7 ca7 : Nat), cellH h2 a6 = some (.slice a7 la7 ca7) ∧
 VSome a0r fun a8 =>
 ∃ x9 : Int, cellH h2 ⟨a8.block, a8.off + 1, none⟩ = some (.int .i64 x9) ∧
 cond (decide (x3 > (IntKind.i64.wrap ((la7 : Int) - x9))))
 (CallsH Tryz.prog 137 #[.pointer a0r, .int .i64 30] h2 fun v10 h11 =>
 v10 = .tuple #[] ∧
 R (.string (ByteArray.mk #[])) h11)
 (VSome a0r fun a12 =>
 ∃ x13 : Int, cellH h2 ⟨a12.block, a12.off + 1, none⟩ = some (.int .i64 x13) ∧
 VSome a0r fun a14 =>
 VStore h2 ⟨a14.block, a14.off + 1, none⟩ (.int .i64 (IntKind.i64.wrap (x13 + x3))) fun h15 =>
 VSome a0r fun a16 =>
 ∃ (a17 : Option Addr) (la17 ca17 : Nat), cellH h15 a16 = some (.slice a17 la17 ca17) ∧
 VSome a0r fun a18 =>
 ∃ x19 : Int, cellH h15 ⟨a18.block, a18.off + 1, none⟩ = some (.int .i64 x19) ∧
 VSome a0r fun a20 =>
 ∃ x21 : Int, cellH h15 ⟨a20.block, a20.off + 1, none⟩ = some (.int .i64 x21) ∧
 VSlice 1 a17 ca17 (IntKind.i64.wrap (x19 - x3)) x21 (ca17 : Int) fun a22 la22 ca22 =>
 RunsTo Tryz.prog (convert 36 9 (.slice a22 la22 ca22)) h15 fun v23 h24 =>
 ∃ s25 : ByteArray, v23 = .string s25 ∧
 R (.string s25) h24))
theorem vf136 (a0r : Option Addr) (a1lo : Int) (a2hi : Int) (h : Heap) (R : KV) (hF : F136 a0r a1lo a2hi h R) : CallsH Tryz.prog 136 #[.pointer a0r, .int .i64 a1lo, .int .i64 a2hi] h R :=
 calls_of_form (A := an136) (fn := Tryz.f136) (c := c136) (args := [.pointer a0r, .int .i64 a1lo, .int .i64 a2hi]) Tryz.func136 (by kernel_rfl) mixed (by kernel_rfl) (by kernel_rfl : F136 a0r a1lo a2hi h R = vcF Tryz.prog an136 Tryz.f136 c136 [.pointer a0r, .int .i64 a1lo, .int .i64 a2hi] h R) hF
/-! ### 137 (refrain/refrainref3.Reader).fault -/
noncomputable def c137 : Code := match Tryz.f137.body with | some c => c | none => .skip
noncomputable def an137 : Ann := { loops := fun i => [], draws := fun i => #[], joins := fun i => none }
def F137 (a0r : Option Addr) (a1e : Int) (h : Heap) (R : KV) : Prop :=
 VSome a0r fun a1 =>
 ∃ x2 : Int, cellH h ⟨a1.block, a1.off + 2, none⟩ = some (.int .i64 x2) ∧
 cond (x2 == (0 : Int))
 (VSome a0r fun a3 =>
 VStore h ⟨a3.block, a3.off + 2, none⟩ (.int .i64 a1e) fun h4 =>
 R (.tuple #[]) h4)
 (R (.tuple #[]) h)
theorem vf137 (a0r : Option Addr) (a1e : Int) (h : Heap) (R : KV) (hF : F137 a0r a1e h R) : CallsH Tryz.prog 137 #[.pointer a0r, .int .i64 a1e] h R :=
 calls_of_form (A := an137) (fn := Tryz.f137) (c := c137) (args := [.pointer a0r, .int .i64 a1e]) Tryz.func137 (by kernel_rfl) mixed (by kernel_rfl) (by kernel_rfl : F137 a0r a1e h R = vcF Tryz.prog an137 Tryz.f137 c137 [.pointer a0r, .int .i64 a1e] h R) hF
/-! ### 138 (refrain/refrainref3.Reader).number -/
noncomputable def c138 : Code := match Tryz.f138.body with | some c => c | none => .skip
noncomputable def an138 : Ann := { loops := fun i => [], draws := fun i => match i with | 3 => #[0, 1, 3, 7, 0, 16, 48, 112, 255, 511, 1023, 2047, 2047, 2047, 4095, 24575, 65535] | _ => #[], joins := fun i => none }
def F138 (a0r : Option Addr) (a1lo : Int) (a2hi : Int) (h : Heap) (R : KV) : Prop :=
 VSome a0r fun a1 =>
 ∃ x2 : Int, cellH h ⟨a1.block, a1.off + 2, none⟩ = some (.int .i64 x2) ∧
 cond (x2 != (0 : Int))
 (R (.int .i64 0) h)
 (VSome a0r fun a3 =>
 ∃ (a4 : Option Addr) (la4 ca4 : Nat), cellH h a3 = some (.slice a4 la4 ca4) ∧
 VSome a0r fun a5 =>
 ∃ x6 : Int, cellH h ⟨a5.block, a5.off + 1, none⟩ = some (.int .i64 x6) ∧
 VSlice 1 a4 ca4 x6 (la4 : Int) (ca4 : Int) fun a7 la7 ca7 =>
 CallsH Tryz.prog 126 #[.slice a7 la7 ca7] h fun v8 h9 =>
 ∃ x10 : Int, ∃ x11 : Int, ∃ x12 : Int, v8 = .tuple #[.int .i64 x10, .int .i64 x11, .int .i64 x12] ∧
 cond (x12 != (0 : Int))
 (CallsH Tryz.prog 137 #[.pointer a0r, .int .i64 x12] h9 fun v13 h14 =>
 v13 = .tuple #[] ∧
 R (.int .i64 0) h14)
 (VSome a0r fun a15 =>
 ∃ x16 : Int, cellH h9 ⟨a15.block, a15.off + 1, none⟩ = some (.int .i64 x16) ∧
 VSome a0r fun a17 =>
 VStore h9 ⟨a17.block, a17.off + 1, none⟩ (.int .i64 (IntKind.i64.wrap (x16 + x11))) fun h18 =>
 cond (decide (x10 < a1lo)) (CallsH Tryz.prog 137 #[.pointer a0r, .int .i64 31] h18 fun v19 h20 =>
 v19 = .tuple #[] ∧
 R (.int .i64 0) h20) (cond (decide (x10 > a2hi))
 (CallsH Tryz.prog 137 #[.pointer a0r, .int .i64 31] h18 fun v21 h22 =>
 v21 = .tuple #[] ∧
 R (.int .i64 0) h22)
 (R (.int .i64 x10) h18))))
theorem vf138 (a0r : Option Addr) (a1lo : Int) (a2hi : Int) (h : Heap) (R : KV) (hF : F138 a0r a1lo a2hi h R) : CallsH Tryz.prog 138 #[.pointer a0r, .int .i64 a1lo, .int .i64 a2hi] h R :=
 calls_of_form (A := an138) (fn := Tryz.f138) (c := c138) (args := [.pointer a0r, .int .i64 a1lo, .int .i64 a2hi]) Tryz.func138 (by kernel_rfl) mixed (by kernel_rfl) (by kernel_rfl : F138 a0r a1lo a2hi h R = vcF Tryz.prog an138 Tryz.f138 c138 [.pointer a0r, .int .i64 a1lo, .int .i64 a2hi] h R) hF
/-! ### 139 (refrain/refrainref3.Reader).value -/
noncomputable def c139 : Code := match Tryz.f139.body with | some c => c | none => .skip
noncomputable def an139 : Ann := { loops := fun i => [], draws := fun i => #[], joins := fun i => match i with | 16 => some [] | 15 => some [] | _ => none }
def F139 (a0r : Option Addr) (h : Heap) (R : KV) : Prop :=
 VNew h (.cells #[.int .i64 0, .int .i64 0, .string (ByteArray.mk #[]), .bool false] 127) fun b1 h2 =>
 CallsH Tryz.prog 147 #[.pointer a0r] h2 fun v3 h4 =>
 ∃ x5 : Int, v3 = .int .u8 x5 ∧
 VSome a0r fun a6 =>
 ∃ x7 : Int, cellH h4 ⟨a6.block, a6.off + 2, none⟩ = some (.int .i64 x7) ∧
 cond (x7 != (0 : Int))
 (storeL ⟨b1, 0, none⟩ 0 [.int .i64 0, .int .i64 0, .string (ByteArray.mk #[]), .bool false] h4 fun h8 =>
 ∃ x9 : Int, cellH h8 ⟨b1, 0, none⟩ = some (.int .i64 x9) ∧
 ∃ x10 : Int, cellH h8 ⟨b1, 1, none⟩ = some (.int .i64 x10) ∧
 ∃ s11 : ByteArray, cellH h8 ⟨b1, 2, none⟩ = some (.string s11) ∧
 ∃ b12 : Bool, cellH h8 ⟨b1, 3, none⟩ = some (.bool b12) ∧
 R (.agg #[.int .i64 x9, .int .i64 x10, .string s11, .bool b12]) h8)
 (VNew h4 (.cells #[.int .i64 0, .int .i64 0, .string (ByteArray.mk #[]), .bool false] 127) fun b13 h14 =>
 storeL ⟨b13, 0, none⟩ 0 [.int .i64 (IntKind.i64.wrap x5), .int .i64 0, .string (ByteArray.mk #[]), .bool false] h14 fun h15 =>
 ∃ J16 : Heap → Prop, (cond ((IntKind.i64.wrap x5) == (1 : Int))
 (CallsH Tryz.prog 138 #[.pointer a0r, .int .i64 (-9223372036854775808 : Int), .int .i64 9223372036854775807] h15 fun v17 h18 =>
 ∃ x19 : Int, v17 = .int .i64 x19 ∧
 VStore h18 ⟨b13, 1, none⟩ (.int .i64 x19) fun h20 =>
 J16 h20)
 (cond ((IntKind.i64.wrap x5) == (2 : Int))
 (CallsH Tryz.prog 136 #[.pointer a0r, .int .i64 0, .int .i64 256] h15 fun v21 h22 =>
 ∃ s23 : ByteArray, v21 = .string s23 ∧
 VStore h22 ⟨b13, 2, none⟩ (.string s23) fun h24 =>
 J16 h24)
 (cond ((IntKind.i64.wrap x5) == (3 : Int))
 (CallsH Tryz.prog 147 #[.pointer a0r] h15 fun v25 h26 =>
 ∃ x27 : Int, v25 = .int .u8 x27 ∧
 ∃ J28 : Heap → Prop, (cond (decide (x27 > (1 : Int)))
 (CallsH Tryz.prog 137 #[.pointer a0r, .int .i64 31] h26 fun v29 h30 =>
 v29 = .tuple #[] ∧
 J28 h30)
 (J28 h26)) ∧
 ∀ (h31 : Heap) (g32 : Env), J28 h31 →
 VStore h31 ⟨b13, 3, none⟩ (.bool (x27 == (1 : Int))) fun h33 =>
 J16 h33)
 (CallsH Tryz.prog 137 #[.pointer a0r, .int .i64 31] h15 fun v34 h35 =>
 v34 = .tuple #[] ∧
 J16 h35)))) ∧
 ∀ (h36 : Heap) (g37 : Env), J16 h36 →
 ∃ x38 : Int, cellH h36 ⟨b13, 0, none⟩ = some (.int .i64 x38) ∧
 ∃ x39 : Int, cellH h36 ⟨b13, 1, none⟩ = some (.int .i64 x39) ∧
 ∃ s40 : ByteArray, cellH h36 ⟨b13, 2, none⟩ = some (.string s40) ∧
 ∃ b41 : Bool, cellH h36 ⟨b13, 3, none⟩ = some (.bool b41) ∧
 storeL ⟨b1, 0, none⟩ 0 [.int .i64 x38, .int .i64 x39, .string s40, .bool b41] h36 fun h42 =>
 ∃ x43 : Int, cellH h42 ⟨b1, 0, none⟩ = some (.int .i64 x43) ∧
 ∃ x44 : Int, cellH h42 ⟨b1, 1, none⟩ = some (.int .i64 x44) ∧
 ∃ s45 : ByteArray, cellH h42 ⟨b1, 2, none⟩ = some (.string s45) ∧
 ∃ b46 : Bool, cellH h42 ⟨b1, 3, none⟩ = some (.bool b46) ∧
 R (.agg #[.int .i64 x43, .int .i64 x44, .string s45, .bool b46]) h42)
theorem vf139 (a0r : Option Addr) (h : Heap) (R : KV) (hF : F139 a0r h R) : CallsH Tryz.prog 139 #[.pointer a0r] h R :=
 calls_of_form (A := an139) (fn := Tryz.f139) (c := c139) (args := [.pointer a0r]) Tryz.func139 (by kernel_rfl) mixed (by kernel_rfl) (by kernel_rfl : F139 a0r h R = vcF Tryz.prog an139 Tryz.f139 c139 [.pointer a0r] h R) hF
/-! ### 140 refrain/refrainref3.same -/
noncomputable def c140 : Code := match Tryz.f140.body with | some c => c | none => .skip
noncomputable def an140 : Ann := { loops := fun i => match i with | 4 => [(4, .bool), (5, .int .i64)] | _ => [], draws := fun i => match i with | 6 => #[0, 0, 3, 7, 0, 0, 48, 112, 255] | _ => #[], joins := fun i => none }
def F140 (a0a : Option Addr) (la0a ca0a : Nat) (a1b : Option Addr) (la1b ca1b : Nat) (h : Heap) (R : KV) : Prop :=
 cond ((la0a : Int) != (la1b : Int))
 (R (.bool false) h)
 (∃ I1 : Nat → Heap → Bool → Int → Prop, (∃ n2, I1 n2 h false 0) ∧
 ∀ (n2 : Nat) (h3 : Heap) (g4 : Env) (y_5 : Bool) (i_6 : Int), I1 n2 h3 y_5 i_6 →
 cond (decide (i_6 < (la0a : Int)))
 (VIdx a0a la0a i_6 1 fun a8 =>
 ∃ x9 : Int, cellH h3 a8 = some (.int .u8 x9) ∧
 VIdx a1b la1b i_6 1 fun a10 =>
 ∃ x11 : Int, cellH h3 a10 = some (.int .u8 x11) ∧
 cond (x9 != x11)
 (R (.bool false) h3)
 (∃ m7, m7 < n2 ∧ I1 m7 h3 y_5 (IntKind.i64.wrap (i_6 + 1))))
 (R (.bool true) h3))
theorem vf140 (a0a : Option Addr) (la0a ca0a : Nat) (a1b : Option Addr) (la1b ca1b : Nat) (h : Heap) (R : KV) (hF : F140 a0a la0a ca0a a1b la1b ca1b h R) : CallsH Tryz.prog 140 #[.slice a0a la0a ca0a, .slice a1b la1b ca1b] h R :=
 calls_of_form (A := an140) (fn := Tryz.f140) (c := c140) (args := [.slice a0a la0a ca0a, .slice a1b la1b ca1b]) Tryz.func140 (by kernel_rfl) mixed (by kernel_rfl) (by kernel_rfl : F140 a0a la0a ca0a a1b la1b ca1b h R = vcF Tryz.prog an140 Tryz.f140 c140 [.slice a0a la0a ca0a, .slice a1b la1b ca1b] h R) hF
/-! ### 147 (refrain/refrainref3.Reader).one -/
noncomputable def c147 : Code := match Tryz.f147.body with | some c => c | none => .skip
noncomputable def an147 : Ann := { loops := fun i => [], draws := fun i => match i with | 3 => #[0, 1, 3, 7, 0, 16, 48, 112, 240, 511] | 7 => #[0, 1, 3, 7, 0, 16, 48, 112, 240, 511, 1023, 2047] | _ => #[], joins := fun i => none }
def F147 (a0r : Option Addr) (h : Heap) (R : KV) : Prop :=
 VSome a0r fun a1 =>
 ∃ x2 : Int, cellH h ⟨a1.block, a1.off + 2, none⟩ = some (.int .i64 x2) ∧
 cond (x2 != (0 : Int))
 (R (.int .u8 0) h)
 (VSome a0r fun a3 =>
 ∃ x4 : Int, cellH h ⟨a3.block, a3.off + 1, none⟩ = some (.int .i64 x4) ∧
 VSome a0r fun a5 =>
 ∃ (a6 : Option Addr) (la6 ca6 : Nat), cellH h a5 = some (.slice a6 la6 ca6) ∧
 cond (x4 == (la6 : Int))
 (CallsH Tryz.prog 137 #[.pointer a0r, .int .i64 30] h fun v7 h8 =>
 v7 = .tuple #[] ∧
 R (.int .u8 0) h8)
 (VSome a0r fun a9 =>
 ∃ x10 : Int, cellH h ⟨a9.block, a9.off + 1, none⟩ = some (.int .i64 x10) ∧
 VSome a0r fun a11 =>
 VStore h ⟨a11.block, a11.off + 1, none⟩ (.int .i64 (IntKind.i64.wrap (x10 + 1))) fun h12 =>
 VSome a0r fun a13 =>
 ∃ (a14 : Option Addr) (la14 ca14 : Nat), cellH h12 a13 = some (.slice a14 la14 ca14) ∧
 VSome a0r fun a15 =>
 ∃ x16 : Int, cellH h12 ⟨a15.block, a15.off + 1, none⟩ = some (.int .i64 x16) ∧
 VIdx a14 la14 (IntKind.i64.wrap (x16 - 1)) 1 fun a17 =>
 ∃ x18 : Int, cellH h12 a17 = some (.int .u8 x18) ∧
 R (.int .u8 x18) h12))
theorem vf147 (a0r : Option Addr) (h : Heap) (R : KV) (hF : F147 a0r h R) : CallsH Tryz.prog 147 #[.pointer a0r] h R :=
 calls_of_form (A := an147) (fn := Tryz.f147) (c := c147) (args := [.pointer a0r]) Tryz.func147 (by kernel_rfl) mixed (by kernel_rfl) (by kernel_rfl : F147 a0r h R = vcF Tryz.prog an147 Tryz.f147 c147 [.pointer a0r] h R) hF
end Go.Proofs.YtgdgebmlcgohhaaGreatDoor.F
