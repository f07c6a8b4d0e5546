/- Printed by gen.py: the conditions of the translated functions, each a plain formula over heaps; the kernel checks that it is the one that the translation gives. Conditions: none. -/
import Derived.Test.YtgdgebmlcgohhaaDoorV8
import Derived.Test.YtgdgebmlcgohhaaDoorProg
namespace Go.Proofs.YtgdgebmlcgohhaaDoor.F
open Go Go.VC Go.Proofs
set_option linter.unusedVariables false
set_option maxRecDepth 100000

theorem mixed : Tryd.prog.follows .mixedOrders = true := by kernel_rfl
/-! ### 3 refrain/refrainlaw30.ProtoThere -/
noncomputable def c3 : Code := match Tryd.f3.body with | some c => c | none => .skip
noncomputable def an3 : Ann := { loops := fun i => [], draws := fun i => #[], joins := fun i => match i with | 9 => some [(6, .bool)] | 14 => some [(6, .bool)] | 19 => some [(6, .bool)] | 24 => some [(6, .bool)] | _ => none }
def F3 (a0q_0 : Int) (a0q_1 : Int) (a0q_2 : ByteArray) (a0q_3 : ByteArray) (a0q_4 : Option Addr) (la0q_4 ca0q_4 : Nat) (a0q_5 : Option Addr) (la0q_5 ca0q_5 : Nat) (a1r_0 : Int) (a1r_1 : Bool) (a1r_2 : Int) (a1r_3 : Int) (a1r_4 : Option Addr) (la1r_4 ca1r_4 : Nat) (a1r_5 : Option Addr) (la1r_5 ca1r_5 : Nat) (a1r_6 : Option Addr) (la1r_6 ca1r_6 : Nat) (a1r_7 : Option Addr) (la1r_7 ca1r_7 : Nat) (a1r_8 : Int) (a1r_9 : Int) (a1r_10 : Int) (a1r_11 : Bool) (a2raw : Option Addr) (la2raw ca2raw : Nat) (h : Heap) (R : KV) : Prop :=
  VNew h (.cells #[.int .u32 a0q_0, .int .i64 a0q_1, .string a0q_2, .string a0q_3, .slice a0q_4 la0q_4 ca0q_4, .slice a0q_5 la0q_5 ca0q_5] 26) fun b1 h2 =>
  VNew h2 (.cells #[.int .u32 a1r_0, .bool a1r_1, .int .i64 a1r_2, .int .i64 a1r_3, .slice a1r_4 la1r_4 ca1r_4, .slice a1r_5 la1r_5 ca1r_5, .slice a1r_6 la1r_6 ca1r_6, .slice a1r_7 la1r_7 ca1r_7, .int .i64 a1r_8, .int .i64 a1r_9, .int .i64 a1r_10, .bool a1r_11] 34) fun b3 h4 =>
  CallsH Tryd.prog 7 #[] h4 fun v5 h6 =>
  ∃ b7 : Bool, v5 = .bool b7 ∧
  cond (!b7)
  (R (.bool false) h6)
  (∃ x8 : Int, cellH h6 ⟨b1, 0, none⟩ = some (.int .u32 x8) ∧
    ∃ x9 : Int, cellH h6 ⟨b1, 1, none⟩ = some (.int .i64 x9) ∧
    ∃ s10 : ByteArray, cellH h6 ⟨b1, 2, none⟩ = some (.string s10) ∧
    ∃ s11 : ByteArray, cellH h6 ⟨b1, 3, none⟩ = some (.string s11) ∧
    ∃ (a12 : Option Addr) (la12 ca12 : Nat), cellH h6 ⟨b1, 4, none⟩ = some (.slice a12 la12 ca12) ∧
    ∃ (a13 : Option Addr) (la13 ca13 : Nat), cellH h6 ⟨b1, 5, none⟩ = some (.slice a13 la13 ca13) ∧
    CallsH Tryd.prog 8 #[.agg #[.int .u32 x8, .int .i64 x9, .string s10, .string s11, .slice a12 la12 ca12, .slice a13 la13 ca13]] h6 fun v14 h15 =>
    ∃ (a16 : Option Addr) (la16 ca16 : Nat), ∃ x17 : Int, v14 = .tuple #[.slice a16 la16 ca16, .int .i64 x17] ∧
    ∃ J18 : Heap → Bool → Prop, (cond (x17 == (0 : Int))
      (CallsH Tryd.prog 9 #[.slice a16 la16 ca16] h15 fun v19 h20 =>
        ∃ x21 : Int, ∃ x22 : Int, ∃ s23 : ByteArray, ∃ s24 : ByteArray, ∃ (a25 : Option Addr) (la25 ca25 : Nat), ∃ (a26 : Option Addr) (la26 ca26 : Nat), ∃ x27 : Int, v19 = .tuple #[.agg #[.int .u32 x21, .int .i64 x22, .string s23, .string s24, .slice a25 la25 ca25, .slice a26 la26 ca26], .int .i64 x27] ∧
        VNew h20 (.cells #[.int .u32 0, .int .i64 0, .string (ByteArray.mk #[]), .string (ByteArray.mk #[]), .slice none 0 0, .slice none 0 0] 26) fun b28 h29 =>
        storeL ⟨b28, 0, none⟩ 0 [.int .u32 x21, .int .i64 x22, .string s23, .string s24, .slice a25 la25 ca25, .slice a26 la26 ca26] h29 fun h30 =>
        cond (x27 != (0 : Int)) (R (.bool false) h30) (cond (decide ((la16 : Int) > (65528 : Int))) (R (.bool false) h30) (∃ x31 : Int, cellH h30 ⟨b28, 0, none⟩ = some (.int .u32 x31) ∧
            ∃ x32 : Int, cellH h30 ⟨b28, 1, none⟩ = some (.int .i64 x32) ∧
            ∃ s33 : ByteArray, cellH h30 ⟨b28, 2, none⟩ = some (.string s33) ∧
            ∃ s34 : ByteArray, cellH h30 ⟨b28, 3, none⟩ = some (.string s34) ∧
            ∃ (a35 : Option Addr) (la35 ca35 : Nat), cellH h30 ⟨b28, 4, none⟩ = some (.slice a35 la35 ca35) ∧
            ∃ (a36 : Option Addr) (la36 ca36 : Nat), cellH h30 ⟨b28, 5, none⟩ = some (.slice a36 la36 ca36) ∧
            ∃ x37 : Int, cellH h30 ⟨b1, 0, none⟩ = some (.int .u32 x37) ∧
            ∃ x38 : Int, cellH h30 ⟨b1, 1, none⟩ = some (.int .i64 x38) ∧
            ∃ s39 : ByteArray, cellH h30 ⟨b1, 2, none⟩ = some (.string s39) ∧
            ∃ s40 : ByteArray, cellH h30 ⟨b1, 3, none⟩ = some (.string s40) ∧
            ∃ (a41 : Option Addr) (la41 ca41 : Nat), cellH h30 ⟨b1, 4, none⟩ = some (.slice a41 la41 ca41) ∧
            ∃ (a42 : Option Addr) (la42 ca42 : Nat), cellH h30 ⟨b1, 5, none⟩ = some (.slice a42 la42 ca42) ∧
            CallsH Tryd.prog 10 #[.agg #[.int .u32 x31, .int .i64 x32, .string s33, .string s34, .slice a35 la35 ca35, .slice a36 la36 ca36], .agg #[.int .u32 x37, .int .i64 x38, .string s39, .string s40, .slice a41 la41 ca41, .slice a42 la42 ca42]] h30 fun v43 h44 =>
            ∃ b45 : Bool, v43 = .bool b45 ∧
            cond (!b45)
            (R (.bool false) h44)
            (J18 h44 false))))
      (J18 h15 false)) ∧
    ∀ (h46 : Heap) (g47 : Env) (y_48 : Bool), J18 h46 y_48 →
    ∃ x49 : Int, cellH h46 ⟨b3, 0, none⟩ = some (.int .u32 x49) ∧
    ∃ b50 : Bool, cellH h46 ⟨b3, 1, none⟩ = some (.bool b50) ∧
    ∃ x51 : Int, cellH h46 ⟨b3, 2, none⟩ = some (.int .i64 x51) ∧
    ∃ x52 : Int, cellH h46 ⟨b3, 3, none⟩ = some (.int .i64 x52) ∧
    ∃ (a53 : Option Addr) (la53 ca53 : Nat), cellH h46 ⟨b3, 4, none⟩ = some (.slice a53 la53 ca53) ∧
    ∃ (a54 : Option Addr) (la54 ca54 : Nat), cellH h46 ⟨b3, 5, none⟩ = some (.slice a54 la54 ca54) ∧
    ∃ (a55 : Option Addr) (la55 ca55 : Nat), cellH h46 ⟨b3, 6, none⟩ = some (.slice a55 la55 ca55) ∧
    ∃ (a56 : Option Addr) (la56 ca56 : Nat), cellH h46 ⟨b3, 7, none⟩ = some (.slice a56 la56 ca56) ∧
    ∃ x57 : Int, cellH h46 ⟨b3, 8, none⟩ = some (.int .i64 x57) ∧
    ∃ x58 : Int, cellH h46 ⟨b3, 9, none⟩ = some (.int .i64 x58) ∧
    ∃ x59 : Int, cellH h46 ⟨b3, 10, none⟩ = some (.int .i64 x59) ∧
    ∃ b60 : Bool, cellH h46 ⟨b3, 11, none⟩ = some (.bool b60) ∧
    CallsH Tryd.prog 11 #[.agg #[.int .u32 x49, .bool b50, .int .i64 x51, .int .i64 x52, .slice a53 la53 ca53, .slice a54 la54 ca54, .slice a55 la55 ca55, .slice a56 la56 ca56, .int .i64 x57, .int .i64 x58, .int .i64 x59, .bool b60]] h46 fun v61 h62 =>
    ∃ (a63 : Option Addr) (la63 ca63 : Nat), ∃ x64 : Int, v61 = .tuple #[.slice a63 la63 ca63, .int .i64 x64] ∧
    ∃ J65 : Heap → Bool → Prop, (cond (x64 == (0 : Int))
      (CallsH Tryd.prog 12 #[.slice a63 la63 ca63] h62 fun v66 h67 =>
        ∃ x68 : Int, ∃ b69 : Bool, ∃ x70 : Int, ∃ x71 : Int, ∃ (a72 : Option Addr) (la72 ca72 : Nat), ∃ (a73 : Option Addr) (la73 ca73 : Nat), ∃ (a74 : Option Addr) (la74 ca74 : Nat), ∃ (a75 : Option Addr) (la75 ca75 : Nat), ∃ x76 : Int, ∃ x77 : Int, ∃ x78 : Int, ∃ b79 : Bool, ∃ x80 : Int, v66 = .tuple #[.agg #[.int .u32 x68, .bool b69, .int .i64 x70, .int .i64 x71, .slice a72 la72 ca72, .slice a73 la73 ca73, .slice a74 la74 ca74, .slice a75 la75 ca75, .int .i64 x76, .int .i64 x77, .int .i64 x78, .bool b79], .int .i64 x80] ∧
        VNew h67 (.cells #[.int .u32 0, .bool false, .int .i64 0, .int .i64 0, .slice none 0 0, .slice none 0 0, .slice none 0 0, .slice none 0 0, .int .i64 0, .int .i64 0, .int .i64 0, .bool false] 34) fun b81 h82 =>
        storeL ⟨b81, 0, none⟩ 0 [.int .u32 x68, .bool b69, .int .i64 x70, .int .i64 x71, .slice a72 la72 ca72, .slice a73 la73 ca73, .slice a74 la74 ca74, .slice a75 la75 ca75, .int .i64 x76, .int .i64 x77, .int .i64 x78, .bool b79] h82 fun h83 =>
        cond (x80 != (0 : Int)) (R (.bool false) h83) (cond (decide ((la63 : Int) > (65528 : Int))) (R (.bool false) h83) (∃ x84 : Int, cellH h83 ⟨b81, 0, none⟩ = some (.int .u32 x84) ∧
            ∃ b85 : Bool, cellH h83 ⟨b81, 1, none⟩ = some (.bool b85) ∧
            ∃ x86 : Int, cellH h83 ⟨b81, 2, none⟩ = some (.int .i64 x86) ∧
            ∃ x87 : Int, cellH h83 ⟨b81, 3, none⟩ = some (.int .i64 x87) ∧
            ∃ (a88 : Option Addr) (la88 ca88 : Nat), cellH h83 ⟨b81, 4, none⟩ = some (.slice a88 la88 ca88) ∧
            ∃ (a89 : Option Addr) (la89 ca89 : Nat), cellH h83 ⟨b81, 5, none⟩ = some (.slice a89 la89 ca89) ∧
            ∃ (a90 : Option Addr) (la90 ca90 : Nat), cellH h83 ⟨b81, 6, none⟩ = some (.slice a90 la90 ca90) ∧
            ∃ (a91 : Option Addr) (la91 ca91 : Nat), cellH h83 ⟨b81, 7, none⟩ = some (.slice a91 la91 ca91) ∧
            ∃ x92 : Int, cellH h83 ⟨b81, 8, none⟩ = some (.int .i64 x92) ∧
            ∃ x93 : Int, cellH h83 ⟨b81, 9, none⟩ = some (.int .i64 x93) ∧
            ∃ x94 : Int, cellH h83 ⟨b81, 10, none⟩ = some (.int .i64 x94) ∧
            ∃ b95 : Bool, cellH h83 ⟨b81, 11, none⟩ = some (.bool b95) ∧
            ∃ x96 : Int, cellH h83 ⟨b3, 0, none⟩ = some (.int .u32 x96) ∧
            ∃ b97 : Bool, cellH h83 ⟨b3, 1, none⟩ = some (.bool b97) ∧
            ∃ x98 : Int, cellH h83 ⟨b3, 2, none⟩ = some (.int .i64 x98) ∧
            ∃ x99 : Int, cellH h83 ⟨b3, 3, none⟩ = some (.int .i64 x99) ∧
            ∃ (a100 : Option Addr) (la100 ca100 : Nat), cellH h83 ⟨b3, 4, none⟩ = some (.slice a100 la100 ca100) ∧
            ∃ (a101 : Option Addr) (la101 ca101 : Nat), cellH h83 ⟨b3, 5, none⟩ = some (.slice a101 la101 ca101) ∧
            ∃ (a102 : Option Addr) (la102 ca102 : Nat), cellH h83 ⟨b3, 6, none⟩ = some (.slice a102 la102 ca102) ∧
            ∃ (a103 : Option Addr) (la103 ca103 : Nat), cellH h83 ⟨b3, 7, none⟩ = some (.slice a103 la103 ca103) ∧
            ∃ x104 : Int, cellH h83 ⟨b3, 8, none⟩ = some (.int .i64 x104) ∧
            ∃ x105 : Int, cellH h83 ⟨b3, 9, none⟩ = some (.int .i64 x105) ∧
            ∃ x106 : Int, cellH h83 ⟨b3, 10, none⟩ = some (.int .i64 x106) ∧
            ∃ b107 : Bool, cellH h83 ⟨b3, 11, none⟩ = some (.bool b107) ∧
            CallsH Tryd.prog 13 #[.agg #[.int .u32 x84, .bool b85, .int .i64 x86, .int .i64 x87, .slice a88 la88 ca88, .slice a89 la89 ca89, .slice a90 la90 ca90, .slice a91 la91 ca91, .int .i64 x92, .int .i64 x93, .int .i64 x94, .bool b95], .agg #[.int .u32 x96, .bool b97, .int .i64 x98, .int .i64 x99, .slice a100 la100 ca100, .slice a101 la101 ca101, .slice a102 la102 ca102, .slice a103 la103 ca103, .int .i64 x104, .int .i64 x105, .int .i64 x106, .bool b107]] h83 fun v108 h109 =>
            ∃ b110 : Bool, v108 = .bool b110 ∧
            cond (!b110)
            (R (.bool false) h109)
            (J65 h109 y_48))))
      (J65 h62 y_48)) ∧
    ∀ (h111 : Heap) (g112 : Env) (y_113 : Bool), J65 h111 y_113 →
    CallsH Tryd.prog 9 #[.slice a2raw la2raw ca2raw] h111 fun v114 h115 =>
    ∃ x116 : Int, ∃ x117 : Int, ∃ s118 : ByteArray, ∃ s119 : ByteArray, ∃ (a120 : Option Addr) (la120 ca120 : Nat), ∃ (a121 : Option Addr) (la121 ca121 : Nat), ∃ x122 : Int, v114 = .tuple #[.agg #[.int .u32 x116, .int .i64 x117, .string s118, .string s119, .slice a120 la120 ca120, .slice a121 la121 ca121], .int .i64 x122] ∧
    VNew h115 (.cells #[.int .u32 0, .int .i64 0, .string (ByteArray.mk #[]), .string (ByteArray.mk #[]), .slice none 0 0, .slice none 0 0] 26) fun b123 h124 =>
    storeL ⟨b123, 0, none⟩ 0 [.int .u32 x116, .int .i64 x117, .string s118, .string s119, .slice a120 la120 ca120, .slice a121 la121 ca121] h124 fun h125 =>
    ∃ J126 : Heap → Bool → Prop, (cond (x122 == (0 : Int))
      (∃ x127 : Int, cellH h125 ⟨b123, 0, none⟩ = some (.int .u32 x127) ∧
        ∃ x128 : Int, cellH h125 ⟨b123, 1, none⟩ = some (.int .i64 x128) ∧
        ∃ s129 : ByteArray, cellH h125 ⟨b123, 2, none⟩ = some (.string s129) ∧
        ∃ s130 : ByteArray, cellH h125 ⟨b123, 3, none⟩ = some (.string s130) ∧
        ∃ (a131 : Option Addr) (la131 ca131 : Nat), cellH h125 ⟨b123, 4, none⟩ = some (.slice a131 la131 ca131) ∧
        ∃ (a132 : Option Addr) (la132 ca132 : Nat), cellH h125 ⟨b123, 5, none⟩ = some (.slice a132 la132 ca132) ∧
        CallsH Tryd.prog 8 #[.agg #[.int .u32 x127, .int .i64 x128, .string s129, .string s130, .slice a131 la131 ca131, .slice a132 la132 ca132]] h125 fun v133 h134 =>
        ∃ (a135 : Option Addr) (la135 ca135 : Nat), ∃ x136 : Int, v133 = .tuple #[.slice a135 la135 ca135, .int .i64 x136] ∧
        cond (x136 != (0 : Int)) (R (.bool false) h134) (CallsH Tryd.prog 14 #[.slice a135 la135 ca135, .slice a2raw la2raw ca2raw] h134 fun v137 h138 =>
          ∃ b139 : Bool, v137 = .bool b139 ∧
          cond (!b139)
          (R (.bool false) h138)
          (J126 h138 y_113)))
      (J126 h125 y_113)) ∧
    ∀ (h140 : Heap) (g141 : Env) (y_142 : Bool), J126 h140 y_142 →
    CallsH Tryd.prog 12 #[.slice a2raw la2raw ca2raw] h140 fun v143 h144 =>
    ∃ x145 : Int, ∃ b146 : Bool, ∃ x147 : Int, ∃ x148 : Int, ∃ (a149 : Option Addr) (la149 ca149 : Nat), ∃ (a150 : Option Addr) (la150 ca150 : Nat), ∃ (a151 : Option Addr) (la151 ca151 : Nat), ∃ (a152 : Option Addr) (la152 ca152 : Nat), ∃ x153 : Int, ∃ x154 : Int, ∃ x155 : Int, ∃ b156 : Bool, ∃ x157 : Int, v143 = .tuple #[.agg #[.int .u32 x145, .bool b146, .int .i64 x147, .int .i64 x148, .slice a149 la149 ca149, .slice a150 la150 ca150, .slice a151 la151 ca151, .slice a152 la152 ca152, .int .i64 x153, .int .i64 x154, .int .i64 x155, .bool b156], .int .i64 x157] ∧
    VNew h144 (.cells #[.int .u32 0, .bool false, .int .i64 0, .int .i64 0, .slice none 0 0, .slice none 0 0, .slice none 0 0, .slice none 0 0, .int .i64 0, .int .i64 0, .int .i64 0, .bool false] 34) fun b158 h159 =>
    storeL ⟨b158, 0, none⟩ 0 [.int .u32 x145, .bool b146, .int .i64 x147, .int .i64 x148, .slice a149 la149 ca149, .slice a150 la150 ca150, .slice a151 la151 ca151, .slice a152 la152 ca152, .int .i64 x153, .int .i64 x154, .int .i64 x155, .bool b156] h159 fun h160 =>
    ∃ J161 : Heap → Bool → Prop, (cond (x157 == (0 : Int))
      (∃ x162 : Int, cellH h160 ⟨b158, 0, none⟩ = some (.int .u32 x162) ∧
        ∃ b163 : Bool, cellH h160 ⟨b158, 1, none⟩ = some (.bool b163) ∧
        ∃ x164 : Int, cellH h160 ⟨b158, 2, none⟩ = some (.int .i64 x164) ∧
        ∃ x165 : Int, cellH h160 ⟨b158, 3, none⟩ = some (.int .i64 x165) ∧
        ∃ (a166 : Option Addr) (la166 ca166 : Nat), cellH h160 ⟨b158, 4, none⟩ = some (.slice a166 la166 ca166) ∧
        ∃ (a167 : Option Addr) (la167 ca167 : Nat), cellH h160 ⟨b158, 5, none⟩ = some (.slice a167 la167 ca167) ∧
        ∃ (a168 : Option Addr) (la168 ca168 : Nat), cellH h160 ⟨b158, 6, none⟩ = some (.slice a168 la168 ca168) ∧
        ∃ (a169 : Option Addr) (la169 ca169 : Nat), cellH h160 ⟨b158, 7, none⟩ = some (.slice a169 la169 ca169) ∧
        ∃ x170 : Int, cellH h160 ⟨b158, 8, none⟩ = some (.int .i64 x170) ∧
        ∃ x171 : Int, cellH h160 ⟨b158, 9, none⟩ = some (.int .i64 x171) ∧
        ∃ x172 : Int, cellH h160 ⟨b158, 10, none⟩ = some (.int .i64 x172) ∧
        ∃ b173 : Bool, cellH h160 ⟨b158, 11, none⟩ = some (.bool b173) ∧
        CallsH Tryd.prog 11 #[.agg #[.int .u32 x162, .bool b163, .int .i64 x164, .int .i64 x165, .slice a166 la166 ca166, .slice a167 la167 ca167, .slice a168 la168 ca168, .slice a169 la169 ca169, .int .i64 x170, .int .i64 x171, .int .i64 x172, .bool b173]] h160 fun v174 h175 =>
        ∃ (a176 : Option Addr) (la176 ca176 : Nat), ∃ x177 : Int, v174 = .tuple #[.slice a176 la176 ca176, .int .i64 x177] ∧
        cond (x177 != (0 : Int)) (R (.bool false) h175) (CallsH Tryd.prog 14 #[.slice a176 la176 ca176, .slice a2raw la2raw ca2raw] h175 fun v178 h179 =>
          ∃ b180 : Bool, v178 = .bool b180 ∧
          cond (!b180)
          (R (.bool false) h179)
          (J161 h179 y_142)))
      (J161 h160 y_142)) ∧
    ∀ (h181 : Heap) (g182 : Env) (y_183 : Bool), J161 h181 y_183 →
    ∃ x184 : Int, cellH h181 ⟨b1, 1, none⟩ = some (.int .i64 x184) ∧
    cond (decide (x184 ≥ (1 : Int))) (∃ x185 : Int, cellH h181 ⟨b1, 1, none⟩ = some (.int .i64 x185) ∧
      cond (decide (x185 ≤ (12 : Int))) (∃ x186 : Int, cellH h181 ⟨b1, 1, none⟩ = some (.int .i64 x186) ∧
        cond (x186 != (4 : Int)) (∃ x187 : Int, cellH h181 ⟨b1, 1, none⟩ = some (.int .i64 x187) ∧
          cond (x187 != (12 : Int)) (∃ (a188 : Option Addr) (la188 ca188 : Nat), cellH h181 ⟨b1, 5, none⟩ = some (.slice a188 la188 ca188) ∧
            cond (decide ((la188 : Int) > (0 : Int))) (∃ x189 : Int, cellH h181 ⟨b1, 0, none⟩ = some (.int .u32 x189) ∧
              ∃ x190 : Int, cellH h181 ⟨b1, 1, none⟩ = some (.int .i64 x190) ∧
              ∃ s191 : ByteArray, cellH h181 ⟨b1, 2, none⟩ = some (.string s191) ∧
              ∃ s192 : ByteArray, cellH h181 ⟨b1, 3, none⟩ = some (.string s192) ∧
              ∃ (a193 : Option Addr) (la193 ca193 : Nat), cellH h181 ⟨b1, 4, none⟩ = some (.slice a193 la193 ca193) ∧
              ∃ (a194 : Option Addr) (la194 ca194 : Nat), cellH h181 ⟨b1, 5, none⟩ = some (.slice a194 la194 ca194) ∧
              CallsH Tryd.prog 8 #[.agg #[.int .u32 x189, .int .i64 x190, .string s191, .string s192, .slice a193 la193 ca193, .slice a194 la194 ca194]] h181 fun v195 h196 =>
              ∃ (a197 : Option Addr) (la197 ca197 : Nat), ∃ x198 : Int, v195 = .tuple #[.slice a197 la197 ca197, .int .i64 x198] ∧
              R (.bool (x198 == (301 : Int))) h196) (∃ x199 : Int, cellH h181 ⟨b1, 1, none⟩ = some (.int .i64 x199) ∧
              cond (x199 == (7 : Int)) (∃ s200 : ByteArray, cellH h181 ⟨b1, 2, none⟩ = some (.string s200) ∧
                cond (!strEq s200 (ByteArray.mk #[]))
                (∃ x201 : Int, cellH h181 ⟨b1, 0, none⟩ = some (.int .u32 x201) ∧
                  ∃ x202 : Int, cellH h181 ⟨b1, 1, none⟩ = some (.int .i64 x202) ∧
                  ∃ s203 : ByteArray, cellH h181 ⟨b1, 2, none⟩ = some (.string s203) ∧
                  ∃ s204 : ByteArray, cellH h181 ⟨b1, 3, none⟩ = some (.string s204) ∧
                  ∃ (a205 : Option Addr) (la205 ca205 : Nat), cellH h181 ⟨b1, 4, none⟩ = some (.slice a205 la205 ca205) ∧
                  ∃ (a206 : Option Addr) (la206 ca206 : Nat), cellH h181 ⟨b1, 5, none⟩ = some (.slice a206 la206 ca206) ∧
                  CallsH Tryd.prog 8 #[.agg #[.int .u32 x201, .int .i64 x202, .string s203, .string s204, .slice a205 la205 ca205, .slice a206 la206 ca206]] h181 fun v207 h208 =>
                  ∃ (a209 : Option Addr) (la209 ca209 : Nat), ∃ x210 : Int, v207 = .tuple #[.slice a209 la209 ca209, .int .i64 x210] ∧
                  R (.bool (x210 == (301 : Int))) h208)
                (R (.bool true) h181)) (R (.bool true) h181))) (∃ x211 : Int, cellH h181 ⟨b1, 1, none⟩ = some (.int .i64 x211) ∧
            cond (x211 == (7 : Int)) (∃ s212 : ByteArray, cellH h181 ⟨b1, 2, none⟩ = some (.string s212) ∧
              cond (!strEq s212 (ByteArray.mk #[]))
              (∃ x213 : Int, cellH h181 ⟨b1, 0, none⟩ = some (.int .u32 x213) ∧
                ∃ x214 : Int, cellH h181 ⟨b1, 1, none⟩ = some (.int .i64 x214) ∧
                ∃ s215 : ByteArray, cellH h181 ⟨b1, 2, none⟩ = some (.string s215) ∧
                ∃ s216 : ByteArray, cellH h181 ⟨b1, 3, none⟩ = some (.string s216) ∧
                ∃ (a217 : Option Addr) (la217 ca217 : Nat), cellH h181 ⟨b1, 4, none⟩ = some (.slice a217 la217 ca217) ∧
                ∃ (a218 : Option Addr) (la218 ca218 : Nat), cellH h181 ⟨b1, 5, none⟩ = some (.slice a218 la218 ca218) ∧
                CallsH Tryd.prog 8 #[.agg #[.int .u32 x213, .int .i64 x214, .string s215, .string s216, .slice a217 la217 ca217, .slice a218 la218 ca218]] h181 fun v219 h220 =>
                ∃ (a221 : Option Addr) (la221 ca221 : Nat), ∃ x222 : Int, v219 = .tuple #[.slice a221 la221 ca221, .int .i64 x222] ∧
                R (.bool (x222 == (301 : Int))) h220)
              (R (.bool true) h181)) (R (.bool true) h181))) (∃ x223 : Int, cellH h181 ⟨b1, 1, none⟩ = some (.int .i64 x223) ∧
          cond (x223 == (7 : Int)) (∃ s224 : ByteArray, cellH h181 ⟨b1, 2, none⟩ = some (.string s224) ∧
            cond (!strEq s224 (ByteArray.mk #[]))
            (∃ x225 : Int, cellH h181 ⟨b1, 0, none⟩ = some (.int .u32 x225) ∧
              ∃ x226 : Int, cellH h181 ⟨b1, 1, none⟩ = some (.int .i64 x226) ∧
              ∃ s227 : ByteArray, cellH h181 ⟨b1, 2, none⟩ = some (.string s227) ∧
              ∃ s228 : ByteArray, cellH h181 ⟨b1, 3, none⟩ = some (.string s228) ∧
              ∃ (a229 : Option Addr) (la229 ca229 : Nat), cellH h181 ⟨b1, 4, none⟩ = some (.slice a229 la229 ca229) ∧
              ∃ (a230 : Option Addr) (la230 ca230 : Nat), cellH h181 ⟨b1, 5, none⟩ = some (.slice a230 la230 ca230) ∧
              CallsH Tryd.prog 8 #[.agg #[.int .u32 x225, .int .i64 x226, .string s227, .string s228, .slice a229 la229 ca229, .slice a230 la230 ca230]] h181 fun v231 h232 =>
              ∃ (a233 : Option Addr) (la233 ca233 : Nat), ∃ x234 : Int, v231 = .tuple #[.slice a233 la233 ca233, .int .i64 x234] ∧
              R (.bool (x234 == (301 : Int))) h232)
            (R (.bool true) h181)) (R (.bool true) h181))) (∃ x235 : Int, cellH h181 ⟨b1, 1, none⟩ = some (.int .i64 x235) ∧
        cond (x235 == (7 : Int)) (∃ s236 : ByteArray, cellH h181 ⟨b1, 2, none⟩ = some (.string s236) ∧
          cond (!strEq s236 (ByteArray.mk #[]))
          (∃ x237 : Int, cellH h181 ⟨b1, 0, none⟩ = some (.int .u32 x237) ∧
            ∃ x238 : Int, cellH h181 ⟨b1, 1, none⟩ = some (.int .i64 x238) ∧
            ∃ s239 : ByteArray, cellH h181 ⟨b1, 2, none⟩ = some (.string s239) ∧
            ∃ s240 : ByteArray, cellH h181 ⟨b1, 3, none⟩ = some (.string s240) ∧
            ∃ (a241 : Option Addr) (la241 ca241 : Nat), cellH h181 ⟨b1, 4, none⟩ = some (.slice a241 la241 ca241) ∧
            ∃ (a242 : Option Addr) (la242 ca242 : Nat), cellH h181 ⟨b1, 5, none⟩ = some (.slice a242 la242 ca242) ∧
            CallsH Tryd.prog 8 #[.agg #[.int .u32 x237, .int .i64 x238, .string s239, .string s240, .slice a241 la241 ca241, .slice a242 la242 ca242]] h181 fun v243 h244 =>
            ∃ (a245 : Option Addr) (la245 ca245 : Nat), ∃ x246 : Int, v243 = .tuple #[.slice a245 la245 ca245, .int .i64 x246] ∧
            R (.bool (x246 == (301 : Int))) h244)
          (R (.bool true) h181)) (R (.bool true) h181))) (∃ x247 : Int, cellH h181 ⟨b1, 1, none⟩ = some (.int .i64 x247) ∧
      cond (x247 == (7 : Int)) (∃ s248 : ByteArray, cellH h181 ⟨b1, 2, none⟩ = some (.string s248) ∧
        cond (!strEq s248 (ByteArray.mk #[]))
        (∃ x249 : Int, cellH h181 ⟨b1, 0, none⟩ = some (.int .u32 x249) ∧
          ∃ x250 : Int, cellH h181 ⟨b1, 1, none⟩ = some (.int .i64 x250) ∧
          ∃ s251 : ByteArray, cellH h181 ⟨b1, 2, none⟩ = some (.string s251) ∧
          ∃ s252 : ByteArray, cellH h181 ⟨b1, 3, none⟩ = some (.string s252) ∧
          ∃ (a253 : Option Addr) (la253 ca253 : Nat), cellH h181 ⟨b1, 4, none⟩ = some (.slice a253 la253 ca253) ∧
          ∃ (a254 : Option Addr) (la254 ca254 : Nat), cellH h181 ⟨b1, 5, none⟩ = some (.slice a254 la254 ca254) ∧
          CallsH Tryd.prog 8 #[.agg #[.int .u32 x249, .int .i64 x250, .string s251, .string s252, .slice a253 la253 ca253, .slice a254 la254 ca254]] h181 fun v255 h256 =>
          ∃ (a257 : Option Addr) (la257 ca257 : Nat), ∃ x258 : Int, v255 = .tuple #[.slice a257 la257 ca257, .int .i64 x258] ∧
          R (.bool (x258 == (301 : Int))) h256)
        (R (.bool true) h181)) (R (.bool true) h181)))
theorem vf3 (a0q_0 : Int) (a0q_1 : Int) (a0q_2 : ByteArray) (a0q_3 : ByteArray) (a0q_4 : Option Addr) (la0q_4 ca0q_4 : Nat) (a0q_5 : Option Addr) (la0q_5 ca0q_5 : Nat) (a1r_0 : Int) (a1r_1 : Bool) (a1r_2 : Int) (a1r_3 : Int) (a1r_4 : Option Addr) (la1r_4 ca1r_4 : Nat) (a1r_5 : Option Addr) (la1r_5 ca1r_5 : Nat) (a1r_6 : Option Addr) (la1r_6 ca1r_6 : Nat) (a1r_7 : Option Addr) (la1r_7 ca1r_7 : Nat) (a1r_8 : Int) (a1r_9 : Int) (a1r_10 : Int) (a1r_11 : Bool) (a2raw : Option Addr) (la2raw ca2raw : Nat) (h : Heap) (R : KV) (hF : F3 a0q_0 a0q_1 a0q_2 a0q_3 a0q_4 la0q_4 ca0q_4 a0q_5 la0q_5 ca0q_5 a1r_0 a1r_1 a1r_2 a1r_3 a1r_4 la1r_4 ca1r_4 a1r_5 la1r_5 ca1r_5 a1r_6 la1r_6 ca1r_6 a1r_7 la1r_7 ca1r_7 a1r_8 a1r_9 a1r_10 a1r_11 a2raw la2raw ca2raw h R) : CallsH Tryd.prog 3 #[.agg #[.int .u32 a0q_0, .int .i64 a0q_1, .string a0q_2, .string a0q_3, .slice a0q_4 la0q_4 ca0q_4, .slice a0q_5 la0q_5 ca0q_5], .agg #[.int .u32 a1r_0, .bool a1r_1, .int .i64 a1r_2, .int .i64 a1r_3, .slice a1r_4 la1r_4 ca1r_4, .slice a1r_5 la1r_5 ca1r_5, .slice a1r_6 la1r_6 ca1r_6, .slice a1r_7 la1r_7 ca1r_7, .int .i64 a1r_8, .int .i64 a1r_9, .int .i64 a1r_10, .bool a1r_11], .slice a2raw la2raw ca2raw] h R :=
  calls_of_form (A := an3) (fn := Tryd.f3) (c := c3) (args := [.agg #[.int .u32 a0q_0, .int .i64 a0q_1, .string a0q_2, .string a0q_3, .slice a0q_4 la0q_4 ca0q_4, .slice a0q_5 la0q_5 ca0q_5], .agg #[.int .u32 a1r_0, .bool a1r_1, .int .i64 a1r_2, .int .i64 a1r_3, .slice a1r_4 la1r_4 ca1r_4, .slice a1r_5 la1r_5 ca1r_5, .slice a1r_6 la1r_6 ca1r_6, .slice a1r_7 la1r_7 ca1r_7, .int .i64 a1r_8, .int .i64 a1r_9, .int .i64 a1r_10, .bool a1r_11], .slice a2raw la2raw ca2raw]) Tryd.func3 (by kernel_rfl) mixed (by kernel_rfl) (by kernel_rfl : F3 a0q_0 a0q_1 a0q_2 a0q_3 a0q_4 la0q_4 ca0q_4 a0q_5 la0q_5 ca0q_5 a1r_0 a1r_1 a1r_2 a1r_3 a1r_4 la1r_4 ca1r_4 a1r_5 la1r_5 ca1r_5 a1r_6 la1r_6 ca1r_6 a1r_7 la1r_7 ca1r_7 a1r_8 a1r_9 a1r_10 a1r_11 a2raw la2raw ca2raw h R = vcF Tryd.prog an3 Tryd.f3 c3 [.agg #[.int .u32 a0q_0, .int .i64 a0q_1, .string a0q_2, .string a0q_3, .slice a0q_4 la0q_4 ca0q_4, .slice a0q_5 la0q_5 ca0q_5], .agg #[.int .u32 a1r_0, .bool a1r_1, .int .i64 a1r_2, .int .i64 a1r_3, .slice a1r_4 la1r_4 ca1r_4, .slice a1r_5 la1r_5 ca1r_5, .slice a1r_6 la1r_6 ca1r_6, .slice a1r_7 la1r_7 ca1r_7, .int .i64 a1r_8, .int .i64 a1r_9, .int .i64 a1r_10, .bool a1r_11], .slice a2raw la2raw ca2raw] h R) hF
/-! ### 4 refrain/refrainlaw30.ProtoStreams -/
noncomputable def c4 : Code := match Tryd.f4.body with | some c => c | none => .skip
noncomputable def an4 : Ann := { loops := fun i => match i with | 5 => [(6, .bool), (8, .int .i64)] | 20 => [(6, .bool), (7, .bool), (16, .ptr), (17, .ptr), (19, .int .i64)] | _ => [], draws := fun i => match i with | 25 => #[0, 0, 2, 6, 0, 16, 48, 0, 0, 384, 896, 2047, 4095] | _ => #[], joins := fun i => match i with | 21 => some [(6, .bool), (7, .bool), (16, .ptr), (17, .ptr), (20, .int .i64)] | 25 => some [(20, .int .i64)] | 32 => some [(16, .ptr), (17, .ptr)] | _ => none }
def F4 (a0payloads : Option Addr) (la0payloads ca0payloads : Nat) (a1pieces : Option Addr) (la1pieces ca1pieces : Nat) (a2other : Option Addr) (la2other ca2other : Nat) (h : Heap) (R : KV) : Prop :=
  CallsH Tryd.prog 7 #[] h fun v1 h2 =>
  ∃ b3 : Bool, v1 = .bool b3 ∧
  cond (!b3)
  (R (.bool false) h2)
  (∃ I4 : Nat → Heap → Bool → Int → Prop, (∃ n5, I4 n5 h2 false 0) ∧
    ∀ (n5 : Nat) (h6 : Heap) (g7 : Env) (y_8 : Bool) (i_9 : Int), I4 n5 h6 y_8 i_9 →
    cond (decide (i_9 < (la0payloads : Int)))
    (VIdx a0payloads la0payloads i_9 1 fun a11 =>
      ∃ (a12 : Option Addr) (la12 ca12 : Nat), cellH h6 a11 = some (.slice a12 la12 ca12) ∧
      CallsH Tryd.prog 15 #[.slice a12 la12 ca12] h6 fun v13 h14 =>
      ∃ (a15 : Option Addr) (la15 ca15 : Nat), v13 = .slice a15 la15 ca15 ∧
      VIdx a0payloads la0payloads i_9 1 fun a16 =>
      ∃ (a17 : Option Addr) (la17 ca17 : Nat), cellH h14 a16 = some (.slice a17 la17 ca17) ∧
      VSlice 1 a15 ca15 0 (la17 : Int) (la15 : Int) fun a18 la18 ca18 =>
      CallsH Tryd.prog 16 #[.slice a18 la18 ca18] h14 fun v19 h20 =>
      ∃ (a21 : Option Addr) (la21 ca21 : Nat), ∃ x22 : Int, v19 = .tuple #[.slice a21 la21 ca21, .int .i64 x22] ∧
      VIdx a0payloads la0payloads i_9 1 fun a23 =>
      ∃ (a24 : Option Addr) (la24 ca24 : Nat), cellH h20 a23 = some (.slice a24 la24 ca24) ∧
      CallsH Tryd.prog 17 #[.slice a24 la24 ca24] h20 fun v25 h26 =>
      ∃ (a27 : Option Addr) (la27 ca27 : Nat), ∃ x28 : Int, v25 = .tuple #[.slice a27 la27 ca27, .int .i64 x28] ∧
      cond (x22 != x28) (R (.bool false) h26) (CallsH Tryd.prog 14 #[.slice a21 la21 ca21, .slice a27 la27 ca27] h26 fun v29 h30 =>
        ∃ b31 : Bool, v29 = .bool b31 ∧
        cond (!b31) (R (.bool false) h30) (VIdx a0payloads la0payloads i_9 1 fun a32 =>
          ∃ (a33 : Option Addr) (la33 ca33 : Nat), cellH h30 a32 = some (.slice a33 la33 ca33) ∧
          CallsH Tryd.prog 15 #[.slice a33 la33 ca33] h30 fun v34 h35 =>
          ∃ (a36 : Option Addr) (la36 ca36 : Nat), v34 = .slice a36 la36 ca36 ∧
          CallsH Tryd.prog 14 #[.slice a15 la15 ca15, .slice a36 la36 ca36] h35 fun v37 h38 =>
          ∃ b39 : Bool, v37 = .bool b39 ∧
          cond (!b39)
          (R (.bool false) h38)
          (∃ m10, m10 < n5 ∧ I4 m10 h38 y_8 (IntKind.i64.wrap (i_9 + 1))))))
    (CallsH Tryd.prog 18 #[] h6 fun v40 h41 =>
      ∃ p42 : Option Addr, v40 = .pointer p42 ∧
      CallsH Tryd.prog 18 #[] h41 fun v43 h44 =>
      ∃ p45 : Option Addr, v43 = .pointer p45 ∧
      VNew h44 (.cells #[.pointer none, .pointer none] 54) fun b46 h47 =>
      storeL ⟨b46, 0, none⟩ 0 [.pointer p42, .pointer p45] h47 fun h48 =>
      CallsH Tryd.prog 19 #[] h48 fun v49 h50 =>
      ∃ p51 : Option Addr, v49 = .pointer p51 ∧
      CallsH Tryd.prog 19 #[] h50 fun v52 h53 =>
      ∃ p54 : Option Addr, v52 = .pointer p54 ∧
      VNew h53 (.cells #[.pointer none, .pointer none] 57) fun b55 h56 =>
      storeL ⟨b55, 0, none⟩ 0 [.pointer p51, .pointer p54] h56 fun h57 =>
      VIdx (some ⟨b46, 0, none⟩) 2 0 1 fun a58 =>
      ∃ p59 : Option Addr, cellH h57 a58 = some (.pointer p59) ∧
      cond p59.isNone (R (.bool false) h57) (VIdx (some ⟨b46, 0, none⟩) 2 1 1 fun a60 =>
        ∃ p61 : Option Addr, cellH h57 a60 = some (.pointer p61) ∧
        cond p61.isNone
        (R (.bool false) h57)
        (VNew h57 (.cells #[.slice none 0 0] 60) fun b62 h63 =>
          ∃ I64 : Nat → Heap → Bool → Bool → Option Addr → Option Addr → Int → Prop, (∃ n65, I64 n65 h63 y_8 b3 none none 0) ∧
          ∀ (n65 : Nat) (h66 : Heap) (g67 : Env) (y_68 : Bool) (ok_69 : Bool) (x_70 : Option Addr) (y_71 : Option Addr) (i_72 : Int), I64 n65 h66 y_68 ok_69 x_70 y_71 i_72 →
          cond (decide (i_72 < (la1pieces : Int)))
          (∃ J74 : Heap → Bool → Bool → Option Addr → Option Addr → Int → Prop, (∃ J75 : Heap → Int → Prop, (cond (decide (i_72 < (la2other : Int))) (VIdx a2other la2other i_72 1 fun a76 =>
                  ∃ b77 : Bool, cellH h66 a76 = some (.bool b77) ∧
                  cond b77
                  (J75 h66 1)
                  (J75 h66 0)) (J75 h66 0)) ∧
              ∀ (h78 : Heap) (g79 : Env) (k_80 : Int), J75 h78 k_80 →
              VIdx (some ⟨b46, 0, none⟩) 2 k_80 1 fun a81 =>
              ∃ p82 : Option Addr, cellH h78 a81 = some (.pointer p82) ∧
              VIdx (some ⟨b55, 0, none⟩) 2 k_80 1 fun a83 =>
              ∃ p84 : Option Addr, cellH h78 a83 = some (.pointer p84) ∧
              VIdx a1pieces la1pieces i_72 1 fun a85 =>
              ∃ (a86 : Option Addr) (la86 ca86 : Nat), cellH h78 a85 = some (.slice a86 la86 ca86) ∧
              CallsH Tryd.prog 20 #[.pointer (some ⟨b62, 0, none⟩), .pointer p82, .pointer p84, .slice a86 la86 ca86] h78 fun v87 h88 =>
              ∃ b89 : Bool, v87 = .bool b89 ∧
              cond (!b89)
              (R (.bool false) h88)
              (CallsH Tryd.prog 18 #[] h88 fun v90 h91 =>
                ∃ p92 : Option Addr, v90 = .pointer p92 ∧
                ∃ J93 : Heap → Option Addr → Option Addr → Prop, ((2 : Int) ≠ (0 : Int) ∧
                  cond (i_72 == (IntKind.i64.wrap (Int.tdiv (la1pieces : Int) 2)))
                  (CallsH Tryd.prog 18 #[] h91 fun v94 h95 =>
                    ∃ p96 : Option Addr, v94 = .pointer p96 ∧
                    CallsH Tryd.prog 19 #[] h95 fun v97 h98 =>
                    ∃ p99 : Option Addr, v97 = .pointer p99 ∧
                    J93 h98 p96 p99)
                  (J93 h91 x_70 y_71)) ∧
                ∀ (h100 : Heap) (g101 : Env) (x_102 : Option Addr) (y_103 : Option Addr), J93 h100 x_102 y_103 →
                cond (!y_103.isNone) (cond x_102.isNone (R (.bool false) h100) (VIdx a1pieces la1pieces i_72 1 fun a104 =>
                    ∃ (a105 : Option Addr) (la105 ca105 : Nat), cellH h100 a104 = some (.slice a105 la105 ca105) ∧
                    CallsH Tryd.prog 20 #[.pointer (some ⟨b62, 0, none⟩), .pointer x_102, .pointer y_103, .slice a105 la105 ca105] h100 fun v106 h107 =>
                    ∃ b108 : Bool, v106 = .bool b108 ∧
                    cond (!b108)
                    (R (.bool false) h107)
                    (J74 h107 y_68 b89 x_102 y_103 k_80))) (J74 h100 y_68 b89 x_102 y_103 k_80))) ∧
            ∀ (h109 : Heap) (g110 : Env) (y_111 : Bool) (ok_112 : Bool) (x_113 : Option Addr) (y_114 : Option Addr) (k_115 : Int), J74 h109 y_111 ok_112 x_113 y_114 k_115 →
            ∃ m73, m73 < n65 ∧ I64 m73 h109 y_111 ok_112 x_113 y_114 (IntKind.i64.wrap (i_72 + 1)))
          (R (.bool true) h66)))))
theorem vf4 (a0payloads : Option Addr) (la0payloads ca0payloads : Nat) (a1pieces : Option Addr) (la1pieces ca1pieces : Nat) (a2other : Option Addr) (la2other ca2other : Nat) (h : Heap) (R : KV) (hF : F4 a0payloads la0payloads ca0payloads a1pieces la1pieces ca1pieces a2other la2other ca2other h R) : CallsH Tryd.prog 4 #[.slice a0payloads la0payloads ca0payloads, .slice a1pieces la1pieces ca1pieces, .slice a2other la2other ca2other] h R :=
  calls_of_form (A := an4) (fn := Tryd.f4) (c := c4) (args := [.slice a0payloads la0payloads ca0payloads, .slice a1pieces la1pieces ca1pieces, .slice a2other la2other ca2other]) Tryd.func4 (by kernel_rfl) mixed (by kernel_rfl) (by kernel_rfl : F4 a0payloads la0payloads ca0payloads a1pieces la1pieces ca1pieces a2other la2other ca2other h R = vcF Tryd.prog an4 Tryd.f4 c4 [.slice a0payloads la0payloads ca0payloads, .slice a1pieces la1pieces ca1pieces, .slice a2other la2other ca2other] h R) hF
/-! ### 5 refrain/refrainlaw30.ProtoPieces -/
noncomputable def c5 : Code := match Tryd.f5.body with | some c => c | none => .skip
noncomputable def an5 : Ann := { loops := fun i => match i with | 7 => [(6, .bool), (8, .slc), (9, .slc), (10, .int .i64)] | 29 => [(18, .slc), (19, .int .i64), (20, .int .i64), (21, .int .i64)] | _ => [], draws := fun i => #[], joins := fun i => match i with | 8 => some [(6, .bool), (8, .slc), (9, .slc), (11, .slc), (12, .int .i64)] | 39 => some [(22, .int .i64)] | 36 => some [(23, .int .i64)] | _ => none }
def F5 (a0payloads : Option Addr) (la0payloads ca0payloads : Nat) (a1more : Option Addr) (la1more ca1more : Nat) (a2cuts : Option Addr) (la2cuts ca2cuts : Nat) (h : Heap) (R : KV) : Prop :=
  CallsH Tryd.prog 7 #[] h fun v1 h2 =>
  ∃ b3 : Bool, v1 = .bool b3 ∧
  cond (!b3)
  (R (.bool false) h2)
  (∃ I4 : Nat → Heap → Bool → Option Addr → Nat → Nat → Option Addr → Nat → Nat → Int → Prop, (∃ n5, I4 n5 h2 false none 0 0 none 0 0 0) ∧
    ∀ (n5 : Nat) (h6 : Heap) (g7 : Env) (y_8 : Bool) (all_9 : Option Addr) (lall_9 call_9 : Nat) (want_10 : Option Addr) (lwant_10 cwant_10 : Nat) (i_11 : Int), I4 n5 h6 y_8 all_9 lall_9 call_9 want_10 lwant_10 cwant_10 i_11 →
    cond (decide (i_11 < (la0payloads : Int))) (cond (decide ((lall_9 : Int) < (1048576 : Int)))
      (∃ J13 : Heap → Bool → Option Addr → Nat → Nat → Option Addr → Nat → Nat → Option Addr → Nat → Nat → Int → Prop, (VIdx a0payloads la0payloads i_11 1 fun a14 =>
          ∃ (a15 : Option Addr) (la15 ca15 : Nat), cellH h6 a14 = some (.slice a15 la15 ca15) ∧
          CallsH Tryd.prog 16 #[.slice a15 la15 ca15] h6 fun v16 h17 =>
          ∃ (a18 : Option Addr) (la18 ca18 : Nat), ∃ x19 : Int, v16 = .tuple #[.slice a18 la18 ca18, .int .i64 x19] ∧
          VIdx a0payloads la0payloads i_11 1 fun a20 =>
          ∃ (a21 : Option Addr) (la21 ca21 : Nat), cellH h17 a20 = some (.slice a21 la21 ca21) ∧
          cond (!((x19 == (0 : Int)) == (decide ((la21 : Int) ≤ (65528 : Int)))))
          (R (.bool false) h17)
          (cond (x19 == (0 : Int))
            (VIdx a0payloads la0payloads i_11 1 fun a22 =>
              ∃ (a23 : Option Addr) (la23 ca23 : Nat), cellH h17 a22 = some (.slice a23 la23 ca23) ∧
              cond ((la18 : Int) != (IntKind.i64.wrap ((la23 : Int) + 8)))
              (R (.bool false) h17)
              (RunsTo Tryd.prog (Builtin.append_ #[35, 35] 35 #[.slice all_9 lall_9 call_9, .slice a18 la18 ca18]) h17 fun v24 h25 =>
                ∃ (a26 : Option Addr) (la26 ca26 : Nat), v24 = .slice a26 la26 ca26 ∧
                VIdx a0payloads la0payloads i_11 1 fun a27 =>
                ∃ (a28 : Option Addr) (la28 ca28 : Nat), cellH h25 a27 = some (.slice a28 la28 ca28) ∧
                VNew h25 (.cells #[.slice a28 la28 ca28] 35) fun b29 h30 =>
                RunsTo Tryd.prog (Builtin.append_ #[48, 48] 48 #[.slice want_10 lwant_10 cwant_10, .slice (some ⟨b29, 0, none⟩) 1 1]) h30 fun v31 h32 =>
                ∃ (a33 : Option Addr) (la33 ca33 : Nat), v31 = .slice a33 la33 ca33 ∧
                J13 h32 y_8 a26 la26 ca26 a33 la33 ca33 a18 la18 ca18 x19))
            (J13 h17 y_8 all_9 lall_9 call_9 want_10 lwant_10 cwant_10 a18 la18 ca18 x19))) ∧
        ∀ (h34 : Heap) (g35 : Env) (y_36 : Bool) (all_37 : Option Addr) (lall_37 call_37 : Nat) (want_38 : Option Addr) (lwant_38 cwant_38 : Nat) (f_39 : Option Addr) (lf_39 cf_39 : Nat) (e_40 : Int), J13 h34 y_36 all_37 lall_37 call_37 want_38 lwant_38 cwant_38 f_39 lf_39 cf_39 e_40 →
        ∃ m12, m12 < n5 ∧ I4 m12 h34 y_36 all_37 lall_37 call_37 want_38 lwant_38 cwant_38 (IntKind.i64.wrap (i_11 + 1)))
      (CallsH Tryd.prog 18 #[] h6 fun v41 h42 =>
        ∃ p43 : Option Addr, v41 = .pointer p43 ∧
        CallsH Tryd.prog 21 #[.pointer p43, .slice all_9 lall_9 call_9] h42 fun v44 h45 =>
        ∃ (a46 : Option Addr) (la46 ca46 : Nat), ∃ x47 : Int, v44 = .tuple #[.slice a46 la46 ca46, .int .i64 x47] ∧
        cond (x47 != (0 : Int)) (R (.bool false) h45) (CallsH Tryd.prog 22 #[.slice a46 la46 ca46, .slice want_10 lwant_10 cwant_10] h45 fun v48 h49 =>
          ∃ b50 : Bool, v48 = .bool b50 ∧
          cond (!b50) (R (.bool false) h49) (CallsH Tryd.prog 23 #[.pointer p43] h49 fun v51 h52 =>
            ∃ x53 : Int, v51 = .int .i64 x53 ∧
            cond (x53 != (0 : Int))
            (R (.bool false) h52)
            (VSlice 1 a1more ca1more 0 (minI (la1more : Int) 1048576) (ca1more : Int) fun a54 la54 ca54 =>
              RunsTo Tryd.prog (Builtin.append_ #[35, 35] 35 #[.slice all_9 lall_9 call_9, .slice a54 la54 ca54]) h52 fun v55 h56 =>
              ∃ (a57 : Option Addr) (la57 ca57 : Nat), v55 = .slice a57 la57 ca57 ∧
              CallsH Tryd.prog 18 #[] h56 fun v58 h59 =>
              ∃ p60 : Option Addr, v58 = .pointer p60 ∧
              CallsH Tryd.prog 21 #[.pointer p60, .slice a57 la57 ca57] h59 fun v61 h62 =>
              ∃ (a63 : Option Addr) (la63 ca63 : Nat), ∃ x64 : Int, v61 = .tuple #[.slice a63 la63 ca63, .int .i64 x64] ∧
              CallsH Tryd.prog 18 #[] h62 fun v65 h66 =>
              ∃ p67 : Option Addr, v65 = .pointer p67 ∧
              ∃ I68 : Nat → Heap → Option Addr → Nat → Nat → Int → Int → Int → Prop, (∃ n69, I68 n69 h66 none 0 0 0 0 0) ∧
              ∀ (n69 : Nat) (h70 : Heap) (g71 : Env) (parts_72 : Option Addr) (lparts_72 cparts_72 : Nat) (last_73 : Int) (from_74 : Int) (i_75 : Int), I68 n69 h70 parts_72 lparts_72 cparts_72 last_73 from_74 i_75 →
              cond (decide (i_75 ≤ (la2cuts : Int)))
              (∃ J77 : Heap → Int → Prop, (cond (decide (i_75 < (la2cuts : Int)))
                  (VIdx a2cuts la2cuts i_75 1 fun a78 =>
                    ∃ x79 : Int, cellH h70 a78 = some (.int .i64 x79) ∧
                    (40 : Int) ≠ (0 : Int) ∧
                    ∃ J80 : Heap → Int → Prop, (cond (decide ((Int.tmod x79 40) < (0 : Int)))
                      (J80 h70 (IntKind.i64.wrap (0 - (Int.tmod x79 40))))
                      (J80 h70 (Int.tmod x79 40))) ∧
                    ∀ (h81 : Heap) (g82 : Env) (n_83 : Int), J80 h81 n_83 →
                    cond (decide ((IntKind.i64.wrap (from_74 + n_83)) > (la57 : Int)))
                    (J77 h81 (la57 : Int))
                    (J77 h81 (IntKind.i64.wrap (from_74 + n_83))))
                  (J77 h70 (la57 : Int))) ∧
                ∀ (h84 : Heap) (g85 : Env) (to_86 : Int), J77 h84 to_86 →
                VSlice 1 a57 ca57 from_74 to_86 (ca57 : Int) fun a87 la87 ca87 =>
                CallsH Tryd.prog 21 #[.pointer p67, .slice a87 la87 ca87] h84 fun v88 h89 =>
                ∃ (a90 : Option Addr) (la90 ca90 : Nat), ∃ x91 : Int, v88 = .tuple #[.slice a90 la90 ca90, .int .i64 x91] ∧
                RunsTo Tryd.prog (Builtin.append_ #[48, 48] 48 #[.slice parts_72 lparts_72 cparts_72, .slice a90 la90 ca90]) h89 fun v92 h93 =>
                ∃ (a94 : Option Addr) (la94 ca94 : Nat), v92 = .slice a94 la94 ca94 ∧
                ∃ m76, m76 < n69 ∧ I68 m76 h93 a94 la94 ca94 x91 to_86 (IntKind.i64.wrap (i_75 + 1)))
              (cond (last_73 == x64) (CallsH Tryd.prog 22 #[.slice parts_72 lparts_72 cparts_72, .slice a63 la63 ca63] h70 fun v95 h96 =>
                  ∃ b97 : Bool, v95 = .bool b97 ∧
                  cond b97 (CallsH Tryd.prog 23 #[.pointer p67] h96 fun v98 h99 =>
                    ∃ x100 : Int, v98 = .int .i64 x100 ∧
                    CallsH Tryd.prog 23 #[.pointer p60] h99 fun v101 h102 =>
                    ∃ x103 : Int, v101 = .int .i64 x103 ∧
                    R (.bool (x100 == x103)) h102) (R (.bool false) h96)) (R (.bool false) h70))))))) (CallsH Tryd.prog 18 #[] h6 fun v104 h105 =>
      ∃ p106 : Option Addr, v104 = .pointer p106 ∧
      CallsH Tryd.prog 21 #[.pointer p106, .slice all_9 lall_9 call_9] h105 fun v107 h108 =>
      ∃ (a109 : Option Addr) (la109 ca109 : Nat), ∃ x110 : Int, v107 = .tuple #[.slice a109 la109 ca109, .int .i64 x110] ∧
      cond (x110 != (0 : Int)) (R (.bool false) h108) (CallsH Tryd.prog 22 #[.slice a109 la109 ca109, .slice want_10 lwant_10 cwant_10] h108 fun v111 h112 =>
        ∃ b113 : Bool, v111 = .bool b113 ∧
        cond (!b113) (R (.bool false) h112) (CallsH Tryd.prog 23 #[.pointer p106] h112 fun v114 h115 =>
          ∃ x116 : Int, v114 = .int .i64 x116 ∧
          cond (x116 != (0 : Int))
          (R (.bool false) h115)
          (VSlice 1 a1more ca1more 0 (minI (la1more : Int) 1048576) (ca1more : Int) fun a117 la117 ca117 =>
            RunsTo Tryd.prog (Builtin.append_ #[35, 35] 35 #[.slice all_9 lall_9 call_9, .slice a117 la117 ca117]) h115 fun v118 h119 =>
            ∃ (a120 : Option Addr) (la120 ca120 : Nat), v118 = .slice a120 la120 ca120 ∧
            CallsH Tryd.prog 18 #[] h119 fun v121 h122 =>
            ∃ p123 : Option Addr, v121 = .pointer p123 ∧
            CallsH Tryd.prog 21 #[.pointer p123, .slice a120 la120 ca120] h122 fun v124 h125 =>
            ∃ (a126 : Option Addr) (la126 ca126 : Nat), ∃ x127 : Int, v124 = .tuple #[.slice a126 la126 ca126, .int .i64 x127] ∧
            CallsH Tryd.prog 18 #[] h125 fun v128 h129 =>
            ∃ p130 : Option Addr, v128 = .pointer p130 ∧
            ∃ I131 : Nat → Heap → Option Addr → Nat → Nat → Int → Int → Int → Prop, (∃ n132, I131 n132 h129 none 0 0 0 0 0) ∧
            ∀ (n132 : Nat) (h133 : Heap) (g134 : Env) (parts_135 : Option Addr) (lparts_135 cparts_135 : Nat) (last_136 : Int) (from_137 : Int) (i_138 : Int), I131 n132 h133 parts_135 lparts_135 cparts_135 last_136 from_137 i_138 →
            cond (decide (i_138 ≤ (la2cuts : Int)))
            (∃ J140 : Heap → Int → Prop, (cond (decide (i_138 < (la2cuts : Int)))
                (VIdx a2cuts la2cuts i_138 1 fun a141 =>
                  ∃ x142 : Int, cellH h133 a141 = some (.int .i64 x142) ∧
                  (40 : Int) ≠ (0 : Int) ∧
                  ∃ J143 : Heap → Int → Prop, (cond (decide ((Int.tmod x142 40) < (0 : Int)))
                    (J143 h133 (IntKind.i64.wrap (0 - (Int.tmod x142 40))))
                    (J143 h133 (Int.tmod x142 40))) ∧
                  ∀ (h144 : Heap) (g145 : Env) (n_146 : Int), J143 h144 n_146 →
                  cond (decide ((IntKind.i64.wrap (from_137 + n_146)) > (la120 : Int)))
                  (J140 h144 (la120 : Int))
                  (J140 h144 (IntKind.i64.wrap (from_137 + n_146))))
                (J140 h133 (la120 : Int))) ∧
              ∀ (h147 : Heap) (g148 : Env) (to_149 : Int), J140 h147 to_149 →
              VSlice 1 a120 ca120 from_137 to_149 (ca120 : Int) fun a150 la150 ca150 =>
              CallsH Tryd.prog 21 #[.pointer p130, .slice a150 la150 ca150] h147 fun v151 h152 =>
              ∃ (a153 : Option Addr) (la153 ca153 : Nat), ∃ x154 : Int, v151 = .tuple #[.slice a153 la153 ca153, .int .i64 x154] ∧
              RunsTo Tryd.prog (Builtin.append_ #[48, 48] 48 #[.slice parts_135 lparts_135 cparts_135, .slice a153 la153 ca153]) h152 fun v155 h156 =>
              ∃ (a157 : Option Addr) (la157 ca157 : Nat), v155 = .slice a157 la157 ca157 ∧
              ∃ m139, m139 < n132 ∧ I131 m139 h156 a157 la157 ca157 x154 to_149 (IntKind.i64.wrap (i_138 + 1)))
            (cond (last_136 == x127) (CallsH Tryd.prog 22 #[.slice parts_135 lparts_135 cparts_135, .slice a126 la126 ca126] h133 fun v158 h159 =>
                ∃ b160 : Bool, v158 = .bool b160 ∧
                cond b160 (CallsH Tryd.prog 23 #[.pointer p130] h159 fun v161 h162 =>
                  ∃ x163 : Int, v161 = .int .i64 x163 ∧
                  CallsH Tryd.prog 23 #[.pointer p123] h162 fun v164 h165 =>
                  ∃ x166 : Int, v164 = .int .i64 x166 ∧
                  R (.bool (x163 == x166)) h165) (R (.bool false) h159)) (R (.bool false) h133)))))))
theorem vf5 (a0payloads : Option Addr) (la0payloads ca0payloads : Nat) (a1more : Option Addr) (la1more ca1more : Nat) (a2cuts : Option Addr) (la2cuts ca2cuts : Nat) (h : Heap) (R : KV) (hF : F5 a0payloads la0payloads ca0payloads a1more la1more ca1more a2cuts la2cuts ca2cuts h R) : CallsH Tryd.prog 5 #[.slice a0payloads la0payloads ca0payloads, .slice a1more la1more ca1more, .slice a2cuts la2cuts ca2cuts] h R :=
  calls_of_form (A := an5) (fn := Tryd.f5) (c := c5) (args := [.slice a0payloads la0payloads ca0payloads, .slice a1more la1more ca1more, .slice a2cuts la2cuts ca2cuts]) Tryd.func5 (by kernel_rfl) mixed (by kernel_rfl) (by kernel_rfl : F5 a0payloads la0payloads ca0payloads a1more la1more ca1more a2cuts la2cuts ca2cuts h R = vcF Tryd.prog an5 Tryd.f5 c5 [.slice a0payloads la0payloads ca0payloads, .slice a1more la1more ca1more, .slice a2cuts la2cuts ca2cuts] h R) hF
/-! ### 6 refrain/refrainlaw30.ProtoDamage -/
noncomputable def c6 : Code := match Tryd.f6.body with | some c => c | none => .skip
noncomputable def an6 : Ann := { loops := fun i => match i with | 16 => [(8, .bool), (15, .int .i64)] | _ => [], draws := fun i => #[], joins := fun i => match i with | 11 => some [(1, .int .i64)] | _ => none }
def F6 (a0payload : Option Addr) (la0payload ca0payload : Nat) (a1at : Int) (a2by : Int) (a3more : Option Addr) (la3more ca3more : Nat) (h : Heap) (R : KV) : Prop :=
  CallsH Tryd.prog 7 #[] h fun v1 h2 =>
  ∃ b3 : Bool, v1 = .bool b3 ∧
  cond (!b3)
  (R (.bool false) h2)
  (CallsH Tryd.prog 16 #[.slice a0payload la0payload ca0payload] h2 fun v4 h5 =>
    ∃ (a6 : Option Addr) (la6 ca6 : Nat), ∃ x7 : Int, v4 = .tuple #[.slice a6 la6 ca6, .int .i64 x7] ∧
    cond (x7 != (0 : Int))
    (cond (x7 == (2 : Int)) (R (.bool (decide ((la0payload : Int) > (65528 : Int)))) h5) (R (.bool false) h5))
    (cond (a2by == (0 : Int)) (R (.bool (decide ((la6 : Int) > (0 : Int)))) h5) (cond ((la6 : Int) == (0 : Int))
        (R (.bool (decide ((la6 : Int) > (0 : Int)))) h5)
        (∃ J8 : Heap → Int → Prop, (cond (decide (a1at < (0 : Int)))
            (J8 h5 (IntKind.i64.wrap ((-1 : Int) - a1at)))
            (J8 h5 a1at)) ∧
          ∀ (h9 : Heap) (g10 : Env) (at_11 : Int), J8 h9 at_11 →
          (la6 : Int) ≠ (0 : Int) ∧
          VIdx a6 la6 (Int.tmod at_11 (la6 : Int)) 1 fun a12 =>
          ∃ x13 : Int, cellH h9 a12 = some (.int .u8 x13) ∧
          VIdx a6 la6 (Int.tmod at_11 (la6 : Int)) 1 fun a14 =>
          VStore h9 a14 (.int .u8 (bitsOp .xor .u8 x13 a2by)) fun h15 =>
          CallsH Tryd.prog 18 #[] h15 fun v16 h17 =>
          ∃ p18 : Option Addr, v16 = .pointer p18 ∧
          CallsH Tryd.prog 21 #[.pointer p18, .slice a6 la6 ca6] h17 fun v19 h20 =>
          ∃ (a21 : Option Addr) (la21 ca21 : Nat), ∃ x22 : Int, v19 = .tuple #[.slice a21 la21 ca21, .int .i64 x22] ∧
          ∃ I23 : Nat → Heap → Bool → Int → Prop, (∃ n24, I23 n24 h20 false 0) ∧
          ∀ (n24 : Nat) (h25 : Heap) (g26 : Env) (y_27 : Bool) (i_28 : Int), I23 n24 h25 y_27 i_28 →
          cond (decide (i_28 < (la21 : Int)))
          (VIdx a21 la21 i_28 1 fun a30 =>
            ∃ (a31 : Option Addr) (la31 ca31 : Nat), cellH h25 a30 = some (.slice a31 la31 ca31) ∧
            CallsH Tryd.prog 14 #[.slice a31 la31 ca31, .slice a0payload la0payload ca0payload] h25 fun v32 h33 =>
            ∃ b34 : Bool, v32 = .bool b34 ∧
            cond b34 (cond (i_28 == (0 : Int))
              (R (.bool false) h33)
              (∃ m29, m29 < n24 ∧ I23 m29 h33 y_27 (IntKind.i64.wrap (i_28 + 1)))) (∃ m29, m29 < n24 ∧ I23 m29 h33 y_27 (IntKind.i64.wrap (i_28 + 1))))
          (cond (decide ((Int.tmod at_11 (la6 : Int)) < (4 : Int)))
            (R (.bool true) h25)
            (CallsH Tryd.prog 21 #[.pointer p18, .slice a3more la3more ca3more] h25 fun v35 h36 =>
              ∃ (a37 : Option Addr) (la37 ca37 : Nat), ∃ x38 : Int, v35 = .tuple #[.slice a37 la37 ca37, .int .i64 x38] ∧
              cond (x22 == (300 : Int)) (cond ((la21 : Int) == (0 : Int)) (cond (x38 == (300 : Int)) (cond ((la37 : Int) == (0 : Int)) (CallsH Tryd.prog 23 #[.pointer p18] h36 fun v39 h40 =>
                      ∃ x41 : Int, v39 = .int .i64 x41 ∧
                      R (.bool (x41 == (0 : Int))) h40) (R (.bool false) h36)) (R (.bool false) h36)) (R (.bool false) h36)) (R (.bool false) h36)))))))
theorem vf6 (a0payload : Option Addr) (la0payload ca0payload : Nat) (a1at : Int) (a2by : Int) (a3more : Option Addr) (la3more ca3more : Nat) (h : Heap) (R : KV) (hF : F6 a0payload la0payload ca0payload a1at a2by a3more la3more ca3more h R) : CallsH Tryd.prog 6 #[.slice a0payload la0payload ca0payload, .int .i64 a1at, .int .u8 a2by, .slice a3more la3more ca3more] h R :=
  calls_of_form (A := an6) (fn := Tryd.f6) (c := c6) (args := [.slice a0payload la0payload ca0payload, .int .i64 a1at, .int .u8 a2by, .slice a3more la3more ca3more]) Tryd.func6 (by kernel_rfl) mixed (by kernel_rfl) (by kernel_rfl : F6 a0payload la0payload ca0payload a1at a2by a3more la3more ca3more h R = vcF Tryd.prog an6 Tryd.f6 c6 [.slice a0payload la0payload ca0payload, .int .i64 a1at, .int .u8 a2by, .slice a3more la3more ca3more] h R) hF
/-! ### 7 refrain/refrainlaw30.begun -/
noncomputable def c7 : Code := match Tryd.f7.body with | some c => c | none => .skip
noncomputable def an7 : Ann := { loops := fun i => [], draws := fun i => #[], joins := fun i => none }
def F7  (h : Heap) (R : KV) : Prop :=
  VNew h (.cells #[.int .u8 97] 5) fun b1 h2 =>
  CallsH Tryd.prog 16 #[.slice (some ⟨b1, 0, none⟩) 1 1] h2 fun v3 h4 =>
  ∃ (a5 : Option Addr) (la5 ca5 : Nat), ∃ x6 : Int, v3 = .tuple #[.slice a5 la5 ca5, .int .i64 x6] ∧
  VNew h4 (.cells #[.int .u8 0, .int .u8 0, .int .u8 0, .int .u8 1, .int .u8 97, .int .u8 0, .int .u8 104, .int .u8 0, .int .u8 99] 5) fun b7 h8 =>
  cond (x6 != (0 : Int)) (R (.bool false) h8) (CallsH Tryd.prog 14 #[.slice a5 la5 ca5, .slice (some ⟨b7, 0, none⟩) 9 9] h8 fun v9 h10 =>
    ∃ b11 : Bool, v9 = .bool b11 ∧
    cond (!b11)
    (R (.bool false) h10)
    (CallsH Tryd.prog 18 #[] h10 fun v12 h13 =>
      ∃ p14 : Option Addr, v12 = .pointer p14 ∧
      cond p14.isNone
      (R (.bool false) h13)
      (CallsH Tryd.prog 21 #[.pointer p14, .slice a5 la5 ca5] h13 fun v15 h16 =>
        ∃ (a17 : Option Addr) (la17 ca17 : Nat), ∃ x18 : Int, v15 = .tuple #[.slice a17 la17 ca17, .int .i64 x18] ∧
        CallsH Tryd.prog 8 #[.agg #[.int .u32 1, .int .i64 8, .string (ByteArray.mk #[113]), .string (ByteArray.mk #[]), .slice none 0 0, .slice none 0 0]] h16 fun v19 h20 =>
        ∃ (a21 : Option Addr) (la21 ca21 : Nat), ∃ x22 : Int, v19 = .tuple #[.slice a21 la21 ca21, .int .i64 x22] ∧
        CallsH Tryd.prog 9 #[.slice a21 la21 ca21] h20 fun v23 h24 =>
        ∃ x25 : Int, ∃ x26 : Int, ∃ s27 : ByteArray, ∃ s28 : ByteArray, ∃ (a29 : Option Addr) (la29 ca29 : Nat), ∃ (a30 : Option Addr) (la30 ca30 : Nat), ∃ x31 : Int, v23 = .tuple #[.agg #[.int .u32 x25, .int .i64 x26, .string s27, .string s28, .slice a29 la29 ca29, .slice a30 la30 ca30], .int .i64 x31] ∧
        VNew h24 (.cells #[.int .u32 0, .int .i64 0, .string (ByteArray.mk #[]), .string (ByteArray.mk #[]), .slice none 0 0, .slice none 0 0] 26) fun b32 h33 =>
        storeL ⟨b32, 0, none⟩ 0 [.int .u32 x25, .int .i64 x26, .string s27, .string s28, .slice a29 la29 ca29, .slice a30 la30 ca30] h33 fun h34 =>
        cond (x18 != (0 : Int)) (R (.bool false) h34) (cond ((la17 : Int) != (1 : Int)) (R (.bool false) h34) (VIdx a17 la17 0 1 fun a35 =>
            ∃ (a36 : Option Addr) (la36 ca36 : Nat), cellH h34 a35 = some (.slice a36 la36 ca36) ∧
            cond ((la36 : Int) != (1 : Int)) (R (.bool false) h34) (VIdx a17 la17 0 1 fun a37 =>
              ∃ (a38 : Option Addr) (la38 ca38 : Nat), cellH h34 a37 = some (.slice a38 la38 ca38) ∧
              VIdx a38 la38 0 1 fun a39 =>
              ∃ x40 : Int, cellH h34 a39 = some (.int .u8 x40) ∧
              cond (x40 != (97 : Int)) (R (.bool false) h34) (cond (x22 != (0 : Int)) (R (.bool false) h34) (cond (x31 != (0 : Int)) (R (.bool false) h34) (cond ((la21 : Int) != (7 : Int))
                    (R (.bool false) h34)
                    (CallsH Tryd.prog 11 #[.agg #[.int .u32 7, .bool false, .int .i64 0, .int .i64 0, .slice none 0 0, .slice none 0 0, .slice none 0 0, .slice none 0 0, .int .i64 0, .int .i64 0, .int .i64 0, .bool false]] h34 fun v41 h42 =>
                      ∃ (a43 : Option Addr) (la43 ca43 : Nat), ∃ x44 : Int, v41 = .tuple #[.slice a43 la43 ca43, .int .i64 x44] ∧
                      CallsH Tryd.prog 12 #[.slice a43 la43 ca43] h42 fun v45 h46 =>
                      ∃ x47 : Int, ∃ b48 : Bool, ∃ x49 : Int, ∃ x50 : Int, ∃ (a51 : Option Addr) (la51 ca51 : Nat), ∃ (a52 : Option Addr) (la52 ca52 : Nat), ∃ (a53 : Option Addr) (la53 ca53 : Nat), ∃ (a54 : Option Addr) (la54 ca54 : Nat), ∃ x55 : Int, ∃ x56 : Int, ∃ x57 : Int, ∃ b58 : Bool, ∃ x59 : Int, v45 = .tuple #[.agg #[.int .u32 x47, .bool b48, .int .i64 x49, .int .i64 x50, .slice a51 la51 ca51, .slice a52 la52 ca52, .slice a53 la53 ca53, .slice a54 la54 ca54, .int .i64 x55, .int .i64 x56, .int .i64 x57, .bool b58], .int .i64 x59] ∧
                      VNew h46 (.cells #[.int .u32 0, .bool false, .int .i64 0, .int .i64 0, .slice none 0 0, .slice none 0 0, .slice none 0 0, .slice none 0 0, .int .i64 0, .int .i64 0, .int .i64 0, .bool false] 34) fun b60 h61 =>
                      storeL ⟨b60, 0, none⟩ 0 [.int .u32 x47, .bool b48, .int .i64 x49, .int .i64 x50, .slice a51 la51 ca51, .slice a52 la52 ca52, .slice a53 la53 ca53, .slice a54 la54 ca54, .int .i64 x55, .int .i64 x56, .int .i64 x57, .bool b58] h61 fun h62 =>
                      ∃ x63 : Int, cellH h62 ⟨b32, 1, none⟩ = some (.int .i64 x63) ∧
                      cond (x63 == (8 : Int)) (∃ s64 : ByteArray, cellH h62 ⟨b32, 2, none⟩ = some (.string s64) ∧
                        cond (strEq s64 (ByteArray.mk #[113])) (∃ x65 : Int, cellH h62 ⟨b32, 0, none⟩ = some (.int .u32 x65) ∧
                          cond (x65 == (1 : Int)) (cond (x44 == (0 : Int)) (cond (x59 == (0 : Int)) (cond ((la43 : Int) == (15 : Int)) (∃ x66 : Int, cellH h62 ⟨b60, 0, none⟩ = some (.int .u32 x66) ∧
                                  R (.bool (x66 == (7 : Int))) h62) (R (.bool false) h62)) (R (.bool false) h62)) (R (.bool false) h62)) (R (.bool false) h62)) (R (.bool false) h62)) (R (.bool false) h62)))))))))))
theorem vf7  (h : Heap) (R : KV) (hF : F7  h R) : CallsH Tryd.prog 7 #[] h R :=
  calls_of_form (A := an7) (fn := Tryd.f7) (c := c7) (args := []) Tryd.func7 (by kernel_rfl) mixed (by kernel_rfl) (by kernel_rfl : F7  h R = vcF Tryd.prog an7 Tryd.f7 c7 [] h R) hF
/-! ### 8 refrain/proto.Ask -/
noncomputable def c8 : Code := match Tryd.f8.body with | some c => c | none => .skip
noncomputable def an8 : Ann := { loops := fun i => match i with | 5 => [(2, .slc), (3, .int .i64), (16, .int .i64)] | 12 => [(46, .int .i64)] | _ => [], draws := fun i => #[], joins := fun i => none }
def F8 (a0q_0 : Int) (a0q_1 : Int) (a0q_2 : ByteArray) (a0q_3 : ByteArray) (a0q_4 : Option Addr) (la0q_4 ca0q_4 : Nat) (a0q_5 : Option Addr) (la0q_5 ca0q_5 : Nat) (h : Heap) (R : KV) : Prop :=
  VNew h (.cells #[.int .u32 a0q_0, .int .i64 a0q_1, .string a0q_2, .string a0q_3, .slice a0q_4 la0q_4 ca0q_4, .slice a0q_5 la0q_5 ca0q_5] 26) fun b1 h2 =>
  ∃ x3 : Int, cellH h2 ⟨b1, 1, none⟩ = some (.int .i64 x3) ∧
  CallsH Tryd.prog 24 #[.int .i64 x3] h2 fun v4 h5 =>
  ∃ b6 : Bool, v4 = .bool b6 ∧
  cond (!b6)
  (R (.tuple #[.slice none 0 0, .int .i64 301]) h5)
  (CallsH Tryd.prog 25 #[] h5 fun v7 h8 =>
    ∃ v9 : Value, ∃ v10 : Value, ∃ v11 : Value, ∃ v12 : Value, ∃ v13 : Value, ∃ v14 : Value, ∃ v15 : Value, ∃ v16 : Value, ∃ v17 : Value, ∃ v18 : Value, ∃ v19 : Value, ∃ v20 : Value, v7 = .agg #[v9, v10, v11, v12, v13, v14, v15, v16, v17, v18, v19, v20] ∧
    VNew h8 (.cells #[.nilFunc, .nilFunc, .nilFunc, .nilFunc, .nilFunc, .nilFunc, .nilFunc, .nilFunc, .nilFunc, .nilFunc, .nilFunc, .nilFunc] 76) fun b21 h22 =>
    storeL ⟨b21, 0, none⟩ 0 [v9, v10, v11, v12, v13, v14, v15, v16, v17, v18, v19, v20] h22 fun h23 =>
    ∃ v24 : Value, cellH h23 ⟨b21, 0, none⟩ = some (v24) ∧
    ∃ v25 : Value, cellH h23 ⟨b21, 1, none⟩ = some (v25) ∧
    ∃ v26 : Value, cellH h23 ⟨b21, 2, none⟩ = some (v26) ∧
    ∃ v27 : Value, cellH h23 ⟨b21, 3, none⟩ = some (v27) ∧
    ∃ v28 : Value, cellH h23 ⟨b21, 4, none⟩ = some (v28) ∧
    ∃ v29 : Value, cellH h23 ⟨b21, 5, none⟩ = some (v29) ∧
    ∃ v30 : Value, cellH h23 ⟨b21, 6, none⟩ = some (v30) ∧
    ∃ v31 : Value, cellH h23 ⟨b21, 7, none⟩ = some (v31) ∧
    ∃ v32 : Value, cellH h23 ⟨b21, 8, none⟩ = some (v32) ∧
    ∃ v33 : Value, cellH h23 ⟨b21, 9, none⟩ = some (v33) ∧
    ∃ v34 : Value, cellH h23 ⟨b21, 10, none⟩ = some (v34) ∧
    ∃ v35 : Value, cellH h23 ⟨b21, 11, none⟩ = some (v35) ∧
    ∃ I36 : Nat → Heap → Option Addr → Nat → Nat → Int → Int → Prop, (∃ n37, I36 n37 h23 none 0 0 0 0) ∧
    ∀ (n37 : Nat) (h38 : Heap) (g39 : Env) (y_40 : Option Addr) (ly_40 cy_40 : Nat) (y_41 : Int) (y_42 : Int), I36 n37 h38 y_40 ly_40 cy_40 y_41 y_42 →
    cond (decide (y_42 < (4 : Int)))
    (PureTo Tryd.prog (Instr.index 76 (.agg #[v24, v25, v26, v27, v28, v29, v30, v31, v32, v33, v34, v35]) (.int .i64 y_42)) fun v44 =>
      ∃ v45 : Value, ∃ v46 : Value, ∃ v47 : Value, v44 = .agg #[v45, v46, v47] ∧
      VNew h38 (.cells #[.nilFunc, .nilFunc, .nilFunc] 75) fun b48 h49 =>
      storeL ⟨b48, 0, none⟩ 0 [v45, v46, v47] h49 fun h50 =>
      ∃ x51 : Int, cellH h50 ⟨b1, 1, none⟩ = some (.int .i64 x51) ∧
      CallsH Tryd.prog 26 #[.int .i64 x51, .int .i64 y_42] h50 fun v52 h53 =>
      ∃ b54 : Bool, v52 = .bool b54 ∧
      cond (!b54) (∃ v55 : Value, cellH h53 ⟨b48, 0, none⟩ = some (v55) ∧
        VInvoke Tryd.prog v55 #[.pointer (some ⟨b1, 0, none⟩)] h53 fun v56 h57 =>
        ∃ b58 : Bool, v56 = .bool b58 ∧
        cond (!b58)
        (R (.tuple #[.slice none 0 0, .int .i64 301]) h57)
        (∃ m43, m43 < n37 ∧ I36 m43 h57 y_40 ly_40 cy_40 y_41 (IntKind.i64.wrap (y_42 + 1)))) (∃ m43, m43 < n37 ∧ I36 m43 h53 y_40 ly_40 cy_40 y_41 (IntKind.i64.wrap (y_42 + 1))))
    (∃ x59 : Int, cellH h38 ⟨b1, 1, none⟩ = some (.int .i64 x59) ∧
      VNew h38 (.cells #[.int .u8 (IntKind.u8.wrap x59)] 5) fun b60 h61 =>
      ∃ x62 : Int, cellH h61 ⟨b1, 0, none⟩ = some (.int .u32 x62) ∧
      CallsH Tryd.prog 27 #[.slice (some ⟨b60, 0, none⟩) 1 1, .int .u32 x62] h61 fun v63 h64 =>
      ∃ (a65 : Option Addr) (la65 ca65 : Nat), v63 = .slice a65 la65 ca65 ∧
      VNew h64 (.cells #[.slice a65 la65 ca65, .int .i64 0] 83) fun b66 h67 =>
      ∃ x68 : Int, cellH h67 ⟨b1, 1, none⟩ = some (.int .i64 x68) ∧
      VIdx (some ⟨0, 0, none⟩) 13 x68 1 fun a69 =>
      ∃ (a70 : Option Addr) (la70 ca70 : Nat), cellH h67 a69 = some (.slice a70 la70 ca70) ∧
      ∃ I71 : Nat → Heap → Int → Prop, (∃ n72, I71 n72 h67 0) ∧
      ∀ (n72 : Nat) (h73 : Heap) (g74 : Env) (y_75 : Int), I71 n72 h73 y_75 →
      cond (decide (y_75 < (la70 : Int)))
      (VIdx a70 la70 y_75 1 fun a77 =>
        ∃ x78 : Int, cellH h73 a77 = some (.int .i64 x78) ∧
        VIdx (some ⟨b21, 0, none⟩) 4 x78 3 fun a79 =>
        ∃ v80 : Value, cellH h73 ⟨a79.block, a79.off + 1, none⟩ = some (v80) ∧
        VInvoke Tryd.prog v80 #[.pointer (some ⟨b66, 0, none⟩), .pointer (some ⟨b1, 0, none⟩)] h73 fun v81 h82 =>
        ∃ m76, m76 < n72 ∧ I71 m76 h82 (IntKind.i64.wrap (y_75 + 1)))
      (CallsH Tryd.prog 28 #[.pointer (some ⟨b66, 0, none⟩)] h73 fun v83 h84 =>
        ∃ (a85 : Option Addr) (la85 ca85 : Nat), ∃ x86 : Int, v83 = .tuple #[.slice a85 la85 ca85, .int .i64 x86] ∧
        R (.tuple #[.slice a85 la85 ca85, .int .i64 x86]) h84)))
theorem vf8 (a0q_0 : Int) (a0q_1 : Int) (a0q_2 : ByteArray) (a0q_3 : ByteArray) (a0q_4 : Option Addr) (la0q_4 ca0q_4 : Nat) (a0q_5 : Option Addr) (la0q_5 ca0q_5 : Nat) (h : Heap) (R : KV) (hF : F8 a0q_0 a0q_1 a0q_2 a0q_3 a0q_4 la0q_4 ca0q_4 a0q_5 la0q_5 ca0q_5 h R) : CallsH Tryd.prog 8 #[.agg #[.int .u32 a0q_0, .int .i64 a0q_1, .string a0q_2, .string a0q_3, .slice a0q_4 la0q_4 ca0q_4, .slice a0q_5 la0q_5 ca0q_5]] h R :=
  calls_of_form (A := an8) (fn := Tryd.f8) (c := c8) (args := [.agg #[.int .u32 a0q_0, .int .i64 a0q_1, .string a0q_2, .string a0q_3, .slice a0q_4 la0q_4 ca0q_4, .slice a0q_5 la0q_5 ca0q_5]]) Tryd.func8 (by kernel_rfl) mixed (by kernel_rfl) (by kernel_rfl : F8 a0q_0 a0q_1 a0q_2 a0q_3 a0q_4 la0q_4 ca0q_4 a0q_5 la0q_5 ca0q_5 h R = vcF Tryd.prog an8 Tryd.f8 c8 [.agg #[.int .u32 a0q_0, .int .i64 a0q_1, .string a0q_2, .string a0q_3, .slice a0q_4 la0q_4 ca0q_4, .slice a0q_5 la0q_5 ca0q_5]] h R) hF
/-! ### 9 refrain/proto.Asked -/
noncomputable def c9 : Code := match Tryd.f9.body with | some c => c | none => .skip
noncomputable def an9 : Ann := { loops := fun i => match i with | 10 => [(40, .int .i64)] | _ => [], draws := fun i => #[], joins := fun i => none }
def F9 (a0payload : Option Addr) (la0payload ca0payload : Nat) (h : Heap) (R : KV) : Prop :=
  VNew h (.cells #[.int .u32 0, .int .i64 0, .string (ByteArray.mk #[]), .string (ByteArray.mk #[]), .slice none 0 0, .slice none 0 0] 26) fun b1 h2 =>
  cond (decide ((la0payload : Int) > (65528 : Int)))
  (storeL ⟨b1, 0, none⟩ 0 [.int .u32 0, .int .i64 0, .string (ByteArray.mk #[]), .string (ByteArray.mk #[]), .slice none 0 0, .slice none 0 0] h2 fun h3 =>
    ∃ x4 : Int, cellH h3 ⟨b1, 0, none⟩ = some (.int .u32 x4) ∧
    ∃ x5 : Int, cellH h3 ⟨b1, 1, none⟩ = some (.int .i64 x5) ∧
    ∃ s6 : ByteArray, cellH h3 ⟨b1, 2, none⟩ = some (.string s6) ∧
    ∃ s7 : ByteArray, cellH h3 ⟨b1, 3, none⟩ = some (.string s7) ∧
    ∃ (a8 : Option Addr) (la8 ca8 : Nat), cellH h3 ⟨b1, 4, none⟩ = some (.slice a8 la8 ca8) ∧
    ∃ (a9 : Option Addr) (la9 ca9 : Nat), cellH h3 ⟨b1, 5, none⟩ = some (.slice a9 la9 ca9) ∧
    R (.tuple #[.agg #[.int .u32 x4, .int .i64 x5, .string s6, .string s7, .slice a8 la8 ca8, .slice a9 la9 ca9], .int .i64 2]) h3)
  (VNew h2 (.cells #[.slice a0payload la0payload ca0payload, .bool false] 88) fun b10 h11 =>
    CallsH Tryd.prog 29 #[.pointer (some ⟨b10, 0, none⟩)] h11 fun v12 h13 =>
    ∃ x14 : Int, v12 = .int .u8 x14 ∧
    VNew h13 (.cells #[.int .u32 0, .int .i64 0, .string (ByteArray.mk #[]), .string (ByteArray.mk #[]), .slice none 0 0, .slice none 0 0] 26) fun b15 h16 =>
    storeL ⟨b15, 0, none⟩ 0 [.int .u32 0, .int .i64 (IntKind.i64.wrap x14), .string (ByteArray.mk #[]), .string (ByteArray.mk #[]), .slice none 0 0, .slice none 0 0] h16 fun h17 =>
    CallsH Tryd.prog 30 #[.pointer (some ⟨b10, 0, none⟩)] h17 fun v18 h19 =>
    ∃ x20 : Int, v18 = .int .u32 x20 ∧
    VStore h19 ⟨b15, 0, none⟩ (.int .u32 x20) fun h21 =>
    ∃ b22 : Bool, cellH h21 ⟨b10, 1, none⟩ = some (.bool b22) ∧
    cond b22 (storeL ⟨b1, 0, none⟩ 0 [.int .u32 0, .int .i64 0, .string (ByteArray.mk #[]), .string (ByteArray.mk #[]), .slice none 0 0, .slice none 0 0] h21 fun h23 =>
      ∃ x24 : Int, cellH h23 ⟨b1, 0, none⟩ = some (.int .u32 x24) ∧
      ∃ x25 : Int, cellH h23 ⟨b1, 1, none⟩ = some (.int .i64 x25) ∧
      ∃ s26 : ByteArray, cellH h23 ⟨b1, 2, none⟩ = some (.string s26) ∧
      ∃ s27 : ByteArray, cellH h23 ⟨b1, 3, none⟩ = some (.string s27) ∧
      ∃ (a28 : Option Addr) (la28 ca28 : Nat), cellH h23 ⟨b1, 4, none⟩ = some (.slice a28 la28 ca28) ∧
      ∃ (a29 : Option Addr) (la29 ca29 : Nat), cellH h23 ⟨b1, 5, none⟩ = some (.slice a29 la29 ca29) ∧
      R (.tuple #[.agg #[.int .u32 x24, .int .i64 x25, .string s26, .string s27, .slice a28 la28 ca28, .slice a29 la29 ca29], .int .i64 301]) h23) (∃ x30 : Int, cellH h21 ⟨b15, 1, none⟩ = some (.int .i64 x30) ∧
      CallsH Tryd.prog 24 #[.int .i64 x30] h21 fun v31 h32 =>
      ∃ b33 : Bool, v31 = .bool b33 ∧
      cond (!b33)
      (storeL ⟨b1, 0, none⟩ 0 [.int .u32 0, .int .i64 0, .string (ByteArray.mk #[]), .string (ByteArray.mk #[]), .slice none 0 0, .slice none 0 0] h32 fun h34 =>
        ∃ x35 : Int, cellH h34 ⟨b1, 0, none⟩ = some (.int .u32 x35) ∧
        ∃ x36 : Int, cellH h34 ⟨b1, 1, none⟩ = some (.int .i64 x36) ∧
        ∃ s37 : ByteArray, cellH h34 ⟨b1, 2, none⟩ = some (.string s37) ∧
        ∃ s38 : ByteArray, cellH h34 ⟨b1, 3, none⟩ = some (.string s38) ∧
        ∃ (a39 : Option Addr) (la39 ca39 : Nat), cellH h34 ⟨b1, 4, none⟩ = some (.slice a39 la39 ca39) ∧
        ∃ (a40 : Option Addr) (la40 ca40 : Nat), cellH h34 ⟨b1, 5, none⟩ = some (.slice a40 la40 ca40) ∧
        R (.tuple #[.agg #[.int .u32 x35, .int .i64 x36, .string s37, .string s38, .slice a39 la39 ca39, .slice a40 la40 ca40], .int .i64 301]) h34)
      (CallsH Tryd.prog 25 #[] h32 fun v41 h42 =>
        ∃ v43 : Value, ∃ v44 : Value, ∃ v45 : Value, ∃ v46 : Value, ∃ v47 : Value, ∃ v48 : Value, ∃ v49 : Value, ∃ v50 : Value, ∃ v51 : Value, ∃ v52 : Value, ∃ v53 : Value, ∃ v54 : Value, v41 = .agg #[v43, v44, v45, v46, v47, v48, v49, v50, v51, v52, v53, v54] ∧
        VNew h42 (.cells #[.nilFunc, .nilFunc, .nilFunc, .nilFunc, .nilFunc, .nilFunc, .nilFunc, .nilFunc, .nilFunc, .nilFunc, .nilFunc, .nilFunc] 76) fun b55 h56 =>
        storeL ⟨b55, 0, none⟩ 0 [v43, v44, v45, v46, v47, v48, v49, v50, v51, v52, v53, v54] h56 fun h57 =>
        ∃ x58 : Int, cellH h57 ⟨b15, 1, none⟩ = some (.int .i64 x58) ∧
        VIdx (some ⟨0, 0, none⟩) 13 x58 1 fun a59 =>
        ∃ (a60 : Option Addr) (la60 ca60 : Nat), cellH h57 a59 = some (.slice a60 la60 ca60) ∧
        ∃ I61 : Nat → Heap → Int → Prop, (∃ n62, I61 n62 h57 0) ∧
        ∀ (n62 : Nat) (h63 : Heap) (g64 : Env) (y_65 : Int), I61 n62 h63 y_65 →
        cond (decide (y_65 < (la60 : Int)))
        (VIdx a60 la60 y_65 1 fun a67 =>
          ∃ x68 : Int, cellH h63 a67 = some (.int .i64 x68) ∧
          VIdx (some ⟨b55, 0, none⟩) 4 x68 3 fun a69 =>
          ∃ v70 : Value, cellH h63 ⟨a69.block, a69.off + 2, none⟩ = some (v70) ∧
          VInvoke Tryd.prog v70 #[.pointer (some ⟨b10, 0, none⟩), .pointer (some ⟨b15, 0, none⟩)] h63 fun v71 h72 =>
          ∃ m66, m66 < n62 ∧ I61 m66 h72 (IntKind.i64.wrap (y_65 + 1)))
        (∃ b73 : Bool, cellH h63 ⟨b10, 1, none⟩ = some (.bool b73) ∧
          cond b73 (storeL ⟨b1, 0, none⟩ 0 [.int .u32 0, .int .i64 0, .string (ByteArray.mk #[]), .string (ByteArray.mk #[]), .slice none 0 0, .slice none 0 0] h63 fun h74 =>
            ∃ x75 : Int, cellH h74 ⟨b1, 0, none⟩ = some (.int .u32 x75) ∧
            ∃ x76 : Int, cellH h74 ⟨b1, 1, none⟩ = some (.int .i64 x76) ∧
            ∃ s77 : ByteArray, cellH h74 ⟨b1, 2, none⟩ = some (.string s77) ∧
            ∃ s78 : ByteArray, cellH h74 ⟨b1, 3, none⟩ = some (.string s78) ∧
            ∃ (a79 : Option Addr) (la79 ca79 : Nat), cellH h74 ⟨b1, 4, none⟩ = some (.slice a79 la79 ca79) ∧
            ∃ (a80 : Option Addr) (la80 ca80 : Nat), cellH h74 ⟨b1, 5, none⟩ = some (.slice a80 la80 ca80) ∧
            R (.tuple #[.agg #[.int .u32 x75, .int .i64 x76, .string s77, .string s78, .slice a79 la79 ca79, .slice a80 la80 ca80], .int .i64 301]) h74) (∃ (a81 : Option Addr) (la81 ca81 : Nat), cellH h63 ⟨b10, 0, none⟩ = some (.slice a81 la81 ca81) ∧
            cond (decide ((la81 : Int) > (0 : Int)))
            (storeL ⟨b1, 0, none⟩ 0 [.int .u32 0, .int .i64 0, .string (ByteArray.mk #[]), .string (ByteArray.mk #[]), .slice none 0 0, .slice none 0 0] h63 fun h82 =>
              ∃ x83 : Int, cellH h82 ⟨b1, 0, none⟩ = some (.int .u32 x83) ∧
              ∃ x84 : Int, cellH h82 ⟨b1, 1, none⟩ = some (.int .i64 x84) ∧
              ∃ s85 : ByteArray, cellH h82 ⟨b1, 2, none⟩ = some (.string s85) ∧
              ∃ s86 : ByteArray, cellH h82 ⟨b1, 3, none⟩ = some (.string s86) ∧
              ∃ (a87 : Option Addr) (la87 ca87 : Nat), cellH h82 ⟨b1, 4, none⟩ = some (.slice a87 la87 ca87) ∧
              ∃ (a88 : Option Addr) (la88 ca88 : Nat), cellH h82 ⟨b1, 5, none⟩ = some (.slice a88 la88 ca88) ∧
              R (.tuple #[.agg #[.int .u32 x83, .int .i64 x84, .string s85, .string s86, .slice a87 la87 ca87, .slice a88 la88 ca88], .int .i64 301]) h82)
            (∃ x89 : Int, cellH h63 ⟨b15, 0, none⟩ = some (.int .u32 x89) ∧
              ∃ x90 : Int, cellH h63 ⟨b15, 1, none⟩ = some (.int .i64 x90) ∧
              ∃ s91 : ByteArray, cellH h63 ⟨b15, 2, none⟩ = some (.string s91) ∧
              ∃ s92 : ByteArray, cellH h63 ⟨b15, 3, none⟩ = some (.string s92) ∧
              ∃ (a93 : Option Addr) (la93 ca93 : Nat), cellH h63 ⟨b15, 4, none⟩ = some (.slice a93 la93 ca93) ∧
              ∃ (a94 : Option Addr) (la94 ca94 : Nat), cellH h63 ⟨b15, 5, none⟩ = some (.slice a94 la94 ca94) ∧
              storeL ⟨b1, 0, none⟩ 0 [.int .u32 x89, .int .i64 x90, .string s91, .string s92, .slice a93 la93 ca93, .slice a94 la94 ca94] h63 fun h95 =>
              ∃ x96 : Int, cellH h95 ⟨b1, 0, none⟩ = some (.int .u32 x96) ∧
              ∃ x97 : Int, cellH h95 ⟨b1, 1, none⟩ = some (.int .i64 x97) ∧
              ∃ s98 : ByteArray, cellH h95 ⟨b1, 2, none⟩ = some (.string s98) ∧
              ∃ s99 : ByteArray, cellH h95 ⟨b1, 3, none⟩ = some (.string s99) ∧
              ∃ (a100 : Option Addr) (la100 ca100 : Nat), cellH h95 ⟨b1, 4, none⟩ = some (.slice a100 la100 ca100) ∧
              ∃ (a101 : Option Addr) (la101 ca101 : Nat), cellH h95 ⟨b1, 5, none⟩ = some (.slice a101 la101 ca101) ∧
              R (.tuple #[.agg #[.int .u32 x96, .int .i64 x97, .string s98, .string s99, .slice a100 la100 ca100, .slice a101 la101 ca101], .int .i64 0]) h95))))))
theorem vf9 (a0payload : Option Addr) (la0payload ca0payload : Nat) (h : Heap) (R : KV) (hF : F9 a0payload la0payload ca0payload h R) : CallsH Tryd.prog 9 #[.slice a0payload la0payload ca0payload] h R :=
  calls_of_form (A := an9) (fn := Tryd.f9) (c := c9) (args := [.slice a0payload la0payload ca0payload]) Tryd.func9 (by kernel_rfl) mixed (by kernel_rfl) (by kernel_rfl : F9 a0payload la0payload ca0payload h R = vcF Tryd.prog an9 Tryd.f9 c9 [.slice a0payload la0payload ca0payload] h R) hF
/-! ### 10 refrain/refrainlaw30.sameRequest -/
noncomputable def c10 : Code := match Tryd.f10.body with | some c => c | none => .skip
noncomputable def an10 : Ann := { loops := fun i => [], draws := fun i => #[], joins := fun i => none }
def F10 (a0a_0 : Int) (a0a_1 : Int) (a0a_2 : ByteArray) (a0a_3 : ByteArray) (a0a_4 : Option Addr) (la0a_4 ca0a_4 : Nat) (a0a_5 : Option Addr) (la0a_5 ca0a_5 : Nat) (a1b_0 : Int) (a1b_1 : Int) (a1b_2 : ByteArray) (a1b_3 : ByteArray) (a1b_4 : Option Addr) (la1b_4 ca1b_4 : Nat) (a1b_5 : Option Addr) (la1b_5 ca1b_5 : Nat) (h : Heap) (R : KV) : Prop :=
  VNew h (.cells #[.int .u32 a0a_0, .int .i64 a0a_1, .string a0a_2, .string a0a_3, .slice a0a_4 la0a_4 ca0a_4, .slice a0a_5 la0a_5 ca0a_5] 26) fun b1 h2 =>
  VNew h2 (.cells #[.int .u32 a1b_0, .int .i64 a1b_1, .string a1b_2, .string a1b_3, .slice a1b_4 la1b_4 ca1b_4, .slice a1b_5 la1b_5 ca1b_5] 26) fun b3 h4 =>
  ∃ (a5 : Option Addr) (la5 ca5 : Nat), cellH h4 ⟨b1, 4, none⟩ = some (.slice a5 la5 ca5) ∧
  ∃ (a6 : Option Addr) (la6 ca6 : Nat), cellH h4 ⟨b3, 4, none⟩ = some (.slice a6 la6 ca6) ∧
  CallsH Tryd.prog 31 #[.slice a5 la5 ca5, .slice a6 la6 ca6] h4 fun v7 h8 =>
  ∃ b9 : Bool, v7 = .bool b9 ∧
  ∃ (a10 : Option Addr) (la10 ca10 : Nat), cellH h8 ⟨b1, 5, none⟩ = some (.slice a10 la10 ca10) ∧
  ∃ (a11 : Option Addr) (la11 ca11 : Nat), cellH h8 ⟨b3, 5, none⟩ = some (.slice a11 la11 ca11) ∧
  CallsH Tryd.prog 32 #[.slice a10 la10 ca10, .slice a11 la11 ca11] h8 fun v12 h13 =>
  ∃ b14 : Bool, v12 = .bool b14 ∧
  cond b9 (cond b14 (∃ x15 : Int, cellH h13 ⟨b1, 0, none⟩ = some (.int .u32 x15) ∧
      ∃ x16 : Int, cellH h13 ⟨b3, 0, none⟩ = some (.int .u32 x16) ∧
      cond (x15 == x16) (∃ x17 : Int, cellH h13 ⟨b1, 1, none⟩ = some (.int .i64 x17) ∧
        ∃ x18 : Int, cellH h13 ⟨b3, 1, none⟩ = some (.int .i64 x18) ∧
        cond (x17 == x18) (∃ s19 : ByteArray, cellH h13 ⟨b1, 2, none⟩ = some (.string s19) ∧
          ∃ s20 : ByteArray, cellH h13 ⟨b3, 2, none⟩ = some (.string s20) ∧
          cond (strEq s19 s20) (∃ s21 : ByteArray, cellH h13 ⟨b1, 3, none⟩ = some (.string s21) ∧
            ∃ s22 : ByteArray, cellH h13 ⟨b3, 3, none⟩ = some (.string s22) ∧
            R (.bool (strEq s21 s22)) h13) (R (.bool false) h13)) (R (.bool false) h13)) (R (.bool false) h13)) (R (.bool false) h13)) (R (.bool false) h13)
theorem vf10 (a0a_0 : Int) (a0a_1 : Int) (a0a_2 : ByteArray) (a0a_3 : ByteArray) (a0a_4 : Option Addr) (la0a_4 ca0a_4 : Nat) (a0a_5 : Option Addr) (la0a_5 ca0a_5 : Nat) (a1b_0 : Int) (a1b_1 : Int) (a1b_2 : ByteArray) (a1b_3 : ByteArray) (a1b_4 : Option Addr) (la1b_4 ca1b_4 : Nat) (a1b_5 : Option Addr) (la1b_5 ca1b_5 : Nat) (h : Heap) (R : KV) (hF : F10 a0a_0 a0a_1 a0a_2 a0a_3 a0a_4 la0a_4 ca0a_4 a0a_5 la0a_5 ca0a_5 a1b_0 a1b_1 a1b_2 a1b_3 a1b_4 la1b_4 ca1b_4 a1b_5 la1b_5 ca1b_5 h R) : CallsH Tryd.prog 10 #[.agg #[.int .u32 a0a_0, .int .i64 a0a_1, .string a0a_2, .string a0a_3, .slice a0a_4 la0a_4 ca0a_4, .slice a0a_5 la0a_5 ca0a_5], .agg #[.int .u32 a1b_0, .int .i64 a1b_1, .string a1b_2, .string a1b_3, .slice a1b_4 la1b_4 ca1b_4, .slice a1b_5 la1b_5 ca1b_5]] h R :=
  calls_of_form (A := an10) (fn := Tryd.f10) (c := c10) (args := [.agg #[.int .u32 a0a_0, .int .i64 a0a_1, .string a0a_2, .string a0a_3, .slice a0a_4 la0a_4 ca0a_4, .slice a0a_5 la0a_5 ca0a_5], .agg #[.int .u32 a1b_0, .int .i64 a1b_1, .string a1b_2, .string a1b_3, .slice a1b_4 la1b_4 ca1b_4, .slice a1b_5 la1b_5 ca1b_5]]) Tryd.func10 (by kernel_rfl) mixed (by kernel_rfl) (by kernel_rfl : F10 a0a_0 a0a_1 a0a_2 a0a_3 a0a_4 la0a_4 ca0a_4 a0a_5 la0a_5 ca0a_5 a1b_0 a1b_1 a1b_2 a1b_3 a1b_4 la1b_4 ca1b_4 a1b_5 la1b_5 ca1b_5 h R = vcF Tryd.prog an10 Tryd.f10 c10 [.agg #[.int .u32 a0a_0, .int .i64 a0a_1, .string a0a_2, .string a0a_3, .slice a0a_4 la0a_4 ca0a_4, .slice a0a_5 la0a_5 ca0a_5], .agg #[.int .u32 a1b_0, .int .i64 a1b_1, .string a1b_2, .string a1b_3, .slice a1b_4 la1b_4 ca1b_4, .slice a1b_5 la1b_5 ca1b_5]] h R) hF
/-! ### 11 refrain/proto.Tell -/
noncomputable def c11 : Code := match Tryd.f11.body with | some c => c | none => .skip
noncomputable def an11 : Ann := { loops := fun i => [], draws := fun i => match i with | 3 => #[0, 0, 2, 6, 14, 0, 32, 126, 255, 511, 1023] | _ => #[], joins := fun i => none }
def F11 (a0p_0 : Int) (a0p_1 : Bool) (a0p_2 : Int) (a0p_3 : Int) (a0p_4 : Option Addr) (la0p_4 ca0p_4 : Nat) (a0p_5 : Option Addr) (la0p_5 ca0p_5 : Nat) (a0p_6 : Option Addr) (la0p_6 ca0p_6 : Nat) (a0p_7 : Option Addr) (la0p_7 ca0p_7 : Nat) (a0p_8 : Int) (a0p_9 : Int) (a0p_10 : Int) (a0p_11 : Bool) (h : Heap) (R : KV) : Prop :=
  VNew h (.cells #[.int .u32 a0p_0, .bool a0p_1, .int .i64 a0p_2, .int .i64 a0p_3, .slice a0p_4 la0p_4 ca0p_4, .slice a0p_5 la0p_5 ca0p_5, .slice a0p_6 la0p_6 ca0p_6, .slice a0p_7 la0p_7 ca0p_7, .int .i64 a0p_8, .int .i64 a0p_9, .int .i64 a0p_10, .bool a0p_11] 34) fun b1 h2 =>
  VNew h2 (.cells #[.slice none 0 0, .int .i64 0] 83) fun b3 h4 =>
  VNew h4 (.cells #[.pointer none] 80) fun b5 h6 =>
  VStore h6 ⟨b5, 0, none⟩ (.pointer (some ⟨b3, 0, none⟩)) fun h7 =>
  ∃ p8 : Option Addr, cellH h7 ⟨b5, 0, none⟩ = some (.pointer p8) ∧
  ∃ b9 : Bool, cellH h7 ⟨b1, 1, none⟩ = some (.bool b9) ∧
  CallsH Tryd.prog 33 #[.pointer p8, .bool b9] h7 fun v10 h11 =>
  v10 = .tuple #[] ∧
  ∃ p12 : Option Addr, cellH h11 ⟨b5, 0, none⟩ = some (.pointer p12) ∧
  ∃ p13 : Option Addr, cellH h11 ⟨b5, 0, none⟩ = some (.pointer p13) ∧
  VSome p13 fun a14 =>
  ∃ (a15 : Option Addr) (la15 ca15 : Nat), cellH h11 a14 = some (.slice a15 la15 ca15) ∧
  ∃ x16 : Int, cellH h11 ⟨b1, 0, none⟩ = some (.int .u32 x16) ∧
  CallsH Tryd.prog 27 #[.slice a15 la15 ca15, .int .u32 x16] h11 fun v17 h18 =>
  ∃ (a19 : Option Addr) (la19 ca19 : Nat), v17 = .slice a19 la19 ca19 ∧
  (cellH h18 ⟨b5, 0, none⟩ = some (.pointer p12)) ∧
  VSome p12 fun a20 =>
  VStore h18 a20 (.slice a19 la19 ca19) fun h21 =>
  ∃ p22 : Option Addr, cellH h21 ⟨b5, 0, none⟩ = some (.pointer p22) ∧
  ∃ x23 : Int, cellH h21 ⟨b1, 2, none⟩ = some (.int .i64 x23) ∧
  CallsH Tryd.prog 34 #[.pointer p22, .int .i64 x23] h21 fun v24 h25 =>
  v24 = .tuple #[] ∧
  ∃ p26 : Option Addr, cellH h25 ⟨b5, 0, none⟩ = some (.pointer p26) ∧
  ∃ x27 : Int, cellH h25 ⟨b1, 3, none⟩ = some (.int .i64 x27) ∧
  CallsH Tryd.prog 34 #[.pointer p26, .int .i64 x27] h25 fun v28 h29 =>
  v28 = .tuple #[] ∧
  ∃ p30 : Option Addr, cellH h29 ⟨b5, 0, none⟩ = some (.pointer p30) ∧
  ∃ (a31 : Option Addr) (la31 ca31 : Nat), cellH h29 ⟨b1, 4, none⟩ = some (.slice a31 la31 ca31) ∧
  CallsH Tryd.prog 35 #[.pointer p30, .slice a31 la31 ca31, .func (.func 36) #[] #[.pointer (some ⟨b5, 0, none⟩)]] h29 fun v32 h33 =>
  v32 = .tuple #[] ∧
  ∃ p34 : Option Addr, cellH h33 ⟨b5, 0, none⟩ = some (.pointer p34) ∧
  ∃ (a35 : Option Addr) (la35 ca35 : Nat), cellH h33 ⟨b1, 5, none⟩ = some (.slice a35 la35 ca35) ∧
  ∃ p36 : Option Addr, cellH h33 ⟨b5, 0, none⟩ = some (.pointer p36) ∧
  CallsH Tryd.prog 37 #[.pointer p34, .slice a35 la35 ca35, .func (.func 38) #[.pointer p36] #[]] h33 fun v37 h38 =>
  v37 = .tuple #[] ∧
  ∃ p39 : Option Addr, cellH h38 ⟨b5, 0, none⟩ = some (.pointer p39) ∧
  ∃ (a40 : Option Addr) (la40 ca40 : Nat), cellH h38 ⟨b1, 6, none⟩ = some (.slice a40 la40 ca40) ∧
  ∃ p41 : Option Addr, cellH h38 ⟨b5, 0, none⟩ = some (.pointer p41) ∧
  CallsH Tryd.prog 39 #[.pointer p39, .slice a40 la40 ca40, .func (.func 40) #[.pointer p41] #[]] h38 fun v42 h43 =>
  v42 = .tuple #[] ∧
  ∃ p44 : Option Addr, cellH h43 ⟨b5, 0, none⟩ = some (.pointer p44) ∧
  ∃ (a45 : Option Addr) (la45 ca45 : Nat), cellH h43 ⟨b1, 7, none⟩ = some (.slice a45 la45 ca45) ∧
  ∃ p46 : Option Addr, cellH h43 ⟨b5, 0, none⟩ = some (.pointer p46) ∧
  CallsH Tryd.prog 41 #[.pointer p44, .slice a45 la45 ca45, .func (.func 42) #[.pointer p46] #[]] h43 fun v47 h48 =>
  v47 = .tuple #[] ∧
  ∃ p49 : Option Addr, cellH h48 ⟨b5, 0, none⟩ = some (.pointer p49) ∧
  ∃ x50 : Int, cellH h48 ⟨b1, 8, none⟩ = some (.int .i64 x50) ∧
  CallsH Tryd.prog 34 #[.pointer p49, .int .i64 x50] h48 fun v51 h52 =>
  v51 = .tuple #[] ∧
  ∃ p53 : Option Addr, cellH h52 ⟨b5, 0, none⟩ = some (.pointer p53) ∧
  ∃ x54 : Int, cellH h52 ⟨b1, 9, none⟩ = some (.int .i64 x54) ∧
  CallsH Tryd.prog 34 #[.pointer p53, .int .i64 x54] h52 fun v55 h56 =>
  v55 = .tuple #[] ∧
  ∃ p57 : Option Addr, cellH h56 ⟨b5, 0, none⟩ = some (.pointer p57) ∧
  ∃ x58 : Int, cellH h56 ⟨b1, 10, none⟩ = some (.int .i64 x58) ∧
  CallsH Tryd.prog 34 #[.pointer p57, .int .i64 x58] h56 fun v59 h60 =>
  v59 = .tuple #[] ∧
  ∃ p61 : Option Addr, cellH h60 ⟨b5, 0, none⟩ = some (.pointer p61) ∧
  ∃ b62 : Bool, cellH h60 ⟨b1, 11, none⟩ = some (.bool b62) ∧
  CallsH Tryd.prog 33 #[.pointer p61, .bool b62] h60 fun v63 h64 =>
  v63 = .tuple #[] ∧
  ∃ p65 : Option Addr, cellH h64 ⟨b5, 0, none⟩ = some (.pointer p65) ∧
  CallsH Tryd.prog 28 #[.pointer p65] h64 fun v66 h67 =>
  ∃ (a68 : Option Addr) (la68 ca68 : Nat), ∃ x69 : Int, v66 = .tuple #[.slice a68 la68 ca68, .int .i64 x69] ∧
  R (.tuple #[.slice a68 la68 ca68, .int .i64 x69]) h67
theorem vf11 (a0p_0 : Int) (a0p_1 : Bool) (a0p_2 : Int) (a0p_3 : Int) (a0p_4 : Option Addr) (la0p_4 ca0p_4 : Nat) (a0p_5 : Option Addr) (la0p_5 ca0p_5 : Nat) (a0p_6 : Option Addr) (la0p_6 ca0p_6 : Nat) (a0p_7 : Option Addr) (la0p_7 ca0p_7 : Nat) (a0p_8 : Int) (a0p_9 : Int) (a0p_10 : Int) (a0p_11 : Bool) (h : Heap) (R : KV) (hF : F11 a0p_0 a0p_1 a0p_2 a0p_3 a0p_4 la0p_4 ca0p_4 a0p_5 la0p_5 ca0p_5 a0p_6 la0p_6 ca0p_6 a0p_7 la0p_7 ca0p_7 a0p_8 a0p_9 a0p_10 a0p_11 h R) : CallsH Tryd.prog 11 #[.agg #[.int .u32 a0p_0, .bool a0p_1, .int .i64 a0p_2, .int .i64 a0p_3, .slice a0p_4 la0p_4 ca0p_4, .slice a0p_5 la0p_5 ca0p_5, .slice a0p_6 la0p_6 ca0p_6, .slice a0p_7 la0p_7 ca0p_7, .int .i64 a0p_8, .int .i64 a0p_9, .int .i64 a0p_10, .bool a0p_11]] h R :=
  calls_of_form (A := an11) (fn := Tryd.f11) (c := c11) (args := [.agg #[.int .u32 a0p_0, .bool a0p_1, .int .i64 a0p_2, .int .i64 a0p_3, .slice a0p_4 la0p_4 ca0p_4, .slice a0p_5 la0p_5 ca0p_5, .slice a0p_6 la0p_6 ca0p_6, .slice a0p_7 la0p_7 ca0p_7, .int .i64 a0p_8, .int .i64 a0p_9, .int .i64 a0p_10, .bool a0p_11]]) Tryd.func11 (by kernel_rfl) mixed (by kernel_rfl) (by kernel_rfl : F11 a0p_0 a0p_1 a0p_2 a0p_3 a0p_4 la0p_4 ca0p_4 a0p_5 la0p_5 ca0p_5 a0p_6 la0p_6 ca0p_6 a0p_7 la0p_7 ca0p_7 a0p_8 a0p_9 a0p_10 a0p_11 h R = vcF Tryd.prog an11 Tryd.f11 c11 [.agg #[.int .u32 a0p_0, .bool a0p_1, .int .i64 a0p_2, .int .i64 a0p_3, .slice a0p_4 la0p_4 ca0p_4, .slice a0p_5 la0p_5 ca0p_5, .slice a0p_6 la0p_6 ca0p_6, .slice a0p_7 la0p_7 ca0p_7, .int .i64 a0p_8, .int .i64 a0p_9, .int .i64 a0p_10, .bool a0p_11]] h R) hF
/-! ### 12 refrain/proto.Told -/
noncomputable def c12 : Code := match Tryd.f12.body with | some c => c | none => .skip
noncomputable def an12 : Ann := { loops := fun i => [], draws := fun i => #[], joins := fun i => none }
def F12 (a0payload : Option Addr) (la0payload ca0payload : Nat) (h : Heap) (R : KV) : Prop :=
  VNew h (.cells #[.int .u32 0, .bool false, .int .i64 0, .int .i64 0, .slice none 0 0, .slice none 0 0, .slice none 0 0, .slice none 0 0, .int .i64 0, .int .i64 0, .int .i64 0, .bool false] 34) fun b1 h2 =>
  cond (decide ((la0payload : Int) > (65528 : Int)))
  (storeL ⟨b1, 0, none⟩ 0 [.int .u32 0, .bool false, .int .i64 0, .int .i64 0, .slice none 0 0, .slice none 0 0, .slice none 0 0, .slice none 0 0, .int .i64 0, .int .i64 0, .int .i64 0, .bool false] h2 fun h3 =>
    ∃ x4 : Int, cellH h3 ⟨b1, 0, none⟩ = some (.int .u32 x4) ∧
    ∃ b5 : Bool, cellH h3 ⟨b1, 1, none⟩ = some (.bool b5) ∧
    ∃ x6 : Int, cellH h3 ⟨b1, 2, none⟩ = some (.int .i64 x6) ∧
    ∃ x7 : Int, cellH h3 ⟨b1, 3, none⟩ = some (.int .i64 x7) ∧
    ∃ (a8 : Option Addr) (la8 ca8 : Nat), cellH h3 ⟨b1, 4, none⟩ = some (.slice a8 la8 ca8) ∧
    ∃ (a9 : Option Addr) (la9 ca9 : Nat), cellH h3 ⟨b1, 5, none⟩ = some (.slice a9 la9 ca9) ∧
    ∃ (a10 : Option Addr) (la10 ca10 : Nat), cellH h3 ⟨b1, 6, none⟩ = some (.slice a10 la10 ca10) ∧
    ∃ (a11 : Option Addr) (la11 ca11 : Nat), cellH h3 ⟨b1, 7, none⟩ = some (.slice a11 la11 ca11) ∧
    ∃ x12 : Int, cellH h3 ⟨b1, 8, none⟩ = some (.int .i64 x12) ∧
    ∃ x13 : Int, cellH h3 ⟨b1, 9, none⟩ = some (.int .i64 x13) ∧
    ∃ x14 : Int, cellH h3 ⟨b1, 10, none⟩ = some (.int .i64 x14) ∧
    ∃ b15 : Bool, cellH h3 ⟨b1, 11, none⟩ = some (.bool b15) ∧
    R (.tuple #[.agg #[.int .u32 x4, .bool b5, .int .i64 x6, .int .i64 x7, .slice a8 la8 ca8, .slice a9 la9 ca9, .slice a10 la10 ca10, .slice a11 la11 ca11, .int .i64 x12, .int .i64 x13, .int .i64 x14, .bool b15], .int .i64 2]) h3)
  (VNew h2 (.cells #[.slice a0payload la0payload ca0payload, .bool false] 88) fun b16 h17 =>
    VNew h17 (.cells #[.pointer none] 86) fun b18 h19 =>
    VStore h19 ⟨b18, 0, none⟩ (.pointer (some ⟨b16, 0, none⟩)) fun h20 =>
    ∃ p21 : Option Addr, cellH h20 ⟨b18, 0, none⟩ = some (.pointer p21) ∧
    CallsH Tryd.prog 43 #[.pointer p21] h20 fun v22 h23 =>
    ∃ b24 : Bool, v22 = .bool b24 ∧
    VNew h23 (.cells #[.int .u32 0, .bool false, .int .i64 0, .int .i64 0, .slice none 0 0, .slice none 0 0, .slice none 0 0, .slice none 0 0, .int .i64 0, .int .i64 0, .int .i64 0, .bool false] 34) fun b25 h26 =>
    storeL ⟨b25, 0, none⟩ 0 [.int .u32 0, .bool b24, .int .i64 0, .int .i64 0, .slice none 0 0, .slice none 0 0, .slice none 0 0, .slice none 0 0, .int .i64 0, .int .i64 0, .int .i64 0, .bool false] h26 fun h27 =>
    ∃ p28 : Option Addr, cellH h27 ⟨b18, 0, none⟩ = some (.pointer p28) ∧
    CallsH Tryd.prog 30 #[.pointer p28] h27 fun v29 h30 =>
    ∃ x31 : Int, v29 = .int .u32 x31 ∧
    VStore h30 ⟨b25, 0, none⟩ (.int .u32 x31) fun h32 =>
    ∃ p33 : Option Addr, cellH h32 ⟨b18, 0, none⟩ = some (.pointer p33) ∧
    CallsH Tryd.prog 44 #[.pointer p33] h32 fun v34 h35 =>
    ∃ x36 : Int, v34 = .int .i64 x36 ∧
    VStore h35 ⟨b25, 2, none⟩ (.int .i64 x36) fun h37 =>
    ∃ p38 : Option Addr, cellH h37 ⟨b18, 0, none⟩ = some (.pointer p38) ∧
    CallsH Tryd.prog 44 #[.pointer p38] h37 fun v39 h40 =>
    ∃ x41 : Int, v39 = .int .i64 x41 ∧
    VStore h40 ⟨b25, 3, none⟩ (.int .i64 x41) fun h42 =>
    ∃ p43 : Option Addr, cellH h42 ⟨b18, 0, none⟩ = some (.pointer p43) ∧
    CallsH Tryd.prog 45 #[.pointer p43, .func (.func 46) #[] #[.pointer (some ⟨b18, 0, none⟩)]] h42 fun v44 h45 =>
    ∃ (a46 : Option Addr) (la46 ca46 : Nat), v44 = .slice a46 la46 ca46 ∧
    VStore h45 ⟨b25, 4, none⟩ (.slice a46 la46 ca46) fun h47 =>
    ∃ p48 : Option Addr, cellH h47 ⟨b18, 0, none⟩ = some (.pointer p48) ∧
    ∃ p49 : Option Addr, cellH h47 ⟨b18, 0, none⟩ = some (.pointer p49) ∧
    CallsH Tryd.prog 47 #[.pointer p48, .func (.func 48) #[.pointer p49] #[]] h47 fun v50 h51 =>
    ∃ (a52 : Option Addr) (la52 ca52 : Nat), v50 = .slice a52 la52 ca52 ∧
    VStore h51 ⟨b25, 5, none⟩ (.slice a52 la52 ca52) fun h53 =>
    ∃ p54 : Option Addr, cellH h53 ⟨b18, 0, none⟩ = some (.pointer p54) ∧
    ∃ p55 : Option Addr, cellH h53 ⟨b18, 0, none⟩ = some (.pointer p55) ∧
    CallsH Tryd.prog 49 #[.pointer p54, .func (.func 50) #[.pointer p55] #[]] h53 fun v56 h57 =>
    ∃ (a58 : Option Addr) (la58 ca58 : Nat), v56 = .slice a58 la58 ca58 ∧
    VStore h57 ⟨b25, 6, none⟩ (.slice a58 la58 ca58) fun h59 =>
    ∃ p60 : Option Addr, cellH h59 ⟨b18, 0, none⟩ = some (.pointer p60) ∧
    ∃ p61 : Option Addr, cellH h59 ⟨b18, 0, none⟩ = some (.pointer p61) ∧
    CallsH Tryd.prog 51 #[.pointer p60, .func (.func 52) #[.pointer p61] #[]] h59 fun v62 h63 =>
    ∃ (a64 : Option Addr) (la64 ca64 : Nat), v62 = .slice a64 la64 ca64 ∧
    VStore h63 ⟨b25, 7, none⟩ (.slice a64 la64 ca64) fun h65 =>
    ∃ p66 : Option Addr, cellH h65 ⟨b18, 0, none⟩ = some (.pointer p66) ∧
    CallsH Tryd.prog 44 #[.pointer p66] h65 fun v67 h68 =>
    ∃ x69 : Int, v67 = .int .i64 x69 ∧
    VStore h68 ⟨b25, 8, none⟩ (.int .i64 x69) fun h70 =>
    ∃ p71 : Option Addr, cellH h70 ⟨b18, 0, none⟩ = some (.pointer p71) ∧
    CallsH Tryd.prog 44 #[.pointer p71] h70 fun v72 h73 =>
    ∃ x74 : Int, v72 = .int .i64 x74 ∧
    VStore h73 ⟨b25, 9, none⟩ (.int .i64 x74) fun h75 =>
    ∃ p76 : Option Addr, cellH h75 ⟨b18, 0, none⟩ = some (.pointer p76) ∧
    CallsH Tryd.prog 44 #[.pointer p76] h75 fun v77 h78 =>
    ∃ x79 : Int, v77 = .int .i64 x79 ∧
    VStore h78 ⟨b25, 10, none⟩ (.int .i64 x79) fun h80 =>
    ∃ p81 : Option Addr, cellH h80 ⟨b18, 0, none⟩ = some (.pointer p81) ∧
    CallsH Tryd.prog 43 #[.pointer p81] h80 fun v82 h83 =>
    ∃ b84 : Bool, v82 = .bool b84 ∧
    VStore h83 ⟨b25, 11, none⟩ (.bool b84) fun h85 =>
    ∃ p86 : Option Addr, cellH h85 ⟨b18, 0, none⟩ = some (.pointer p86) ∧
    VSome p86 fun a87 =>
    ∃ b88 : Bool, cellH h85 ⟨a87.block, a87.off + 1, none⟩ = some (.bool b88) ∧
    cond b88 (storeL ⟨b1, 0, none⟩ 0 [.int .u32 0, .bool false, .int .i64 0, .int .i64 0, .slice none 0 0, .slice none 0 0, .slice none 0 0, .slice none 0 0, .int .i64 0, .int .i64 0, .int .i64 0, .bool false] h85 fun h89 =>
      ∃ x90 : Int, cellH h89 ⟨b1, 0, none⟩ = some (.int .u32 x90) ∧
      ∃ b91 : Bool, cellH h89 ⟨b1, 1, none⟩ = some (.bool b91) ∧
      ∃ x92 : Int, cellH h89 ⟨b1, 2, none⟩ = some (.int .i64 x92) ∧
      ∃ x93 : Int, cellH h89 ⟨b1, 3, none⟩ = some (.int .i64 x93) ∧
      ∃ (a94 : Option Addr) (la94 ca94 : Nat), cellH h89 ⟨b1, 4, none⟩ = some (.slice a94 la94 ca94) ∧
      ∃ (a95 : Option Addr) (la95 ca95 : Nat), cellH h89 ⟨b1, 5, none⟩ = some (.slice a95 la95 ca95) ∧
      ∃ (a96 : Option Addr) (la96 ca96 : Nat), cellH h89 ⟨b1, 6, none⟩ = some (.slice a96 la96 ca96) ∧
      ∃ (a97 : Option Addr) (la97 ca97 : Nat), cellH h89 ⟨b1, 7, none⟩ = some (.slice a97 la97 ca97) ∧
      ∃ x98 : Int, cellH h89 ⟨b1, 8, none⟩ = some (.int .i64 x98) ∧
      ∃ x99 : Int, cellH h89 ⟨b1, 9, none⟩ = some (.int .i64 x99) ∧
      ∃ x100 : Int, cellH h89 ⟨b1, 10, none⟩ = some (.int .i64 x100) ∧
      ∃ b101 : Bool, cellH h89 ⟨b1, 11, none⟩ = some (.bool b101) ∧
      R (.tuple #[.agg #[.int .u32 x90, .bool b91, .int .i64 x92, .int .i64 x93, .slice a94 la94 ca94, .slice a95 la95 ca95, .slice a96 la96 ca96, .slice a97 la97 ca97, .int .i64 x98, .int .i64 x99, .int .i64 x100, .bool b101], .int .i64 301]) h89) (∃ p102 : Option Addr, cellH h85 ⟨b18, 0, none⟩ = some (.pointer p102) ∧
      VSome p102 fun a103 =>
      ∃ (a104 : Option Addr) (la104 ca104 : Nat), cellH h85 a103 = some (.slice a104 la104 ca104) ∧
      cond (decide ((la104 : Int) > (0 : Int)))
      (storeL ⟨b1, 0, none⟩ 0 [.int .u32 0, .bool false, .int .i64 0, .int .i64 0, .slice none 0 0, .slice none 0 0, .slice none 0 0, .slice none 0 0, .int .i64 0, .int .i64 0, .int .i64 0, .bool false] h85 fun h105 =>
        ∃ x106 : Int, cellH h105 ⟨b1, 0, none⟩ = some (.int .u32 x106) ∧
        ∃ b107 : Bool, cellH h105 ⟨b1, 1, none⟩ = some (.bool b107) ∧
        ∃ x108 : Int, cellH h105 ⟨b1, 2, none⟩ = some (.int .i64 x108) ∧
        ∃ x109 : Int, cellH h105 ⟨b1, 3, none⟩ = some (.int .i64 x109) ∧
        ∃ (a110 : Option Addr) (la110 ca110 : Nat), cellH h105 ⟨b1, 4, none⟩ = some (.slice a110 la110 ca110) ∧
        ∃ (a111 : Option Addr) (la111 ca111 : Nat), cellH h105 ⟨b1, 5, none⟩ = some (.slice a111 la111 ca111) ∧
        ∃ (a112 : Option Addr) (la112 ca112 : Nat), cellH h105 ⟨b1, 6, none⟩ = some (.slice a112 la112 ca112) ∧
        ∃ (a113 : Option Addr) (la113 ca113 : Nat), cellH h105 ⟨b1, 7, none⟩ = some (.slice a113 la113 ca113) ∧
        ∃ x114 : Int, cellH h105 ⟨b1, 8, none⟩ = some (.int .i64 x114) ∧
        ∃ x115 : Int, cellH h105 ⟨b1, 9, none⟩ = some (.int .i64 x115) ∧
        ∃ x116 : Int, cellH h105 ⟨b1, 10, none⟩ = some (.int .i64 x116) ∧
        ∃ b117 : Bool, cellH h105 ⟨b1, 11, none⟩ = some (.bool b117) ∧
        R (.tuple #[.agg #[.int .u32 x106, .bool b107, .int .i64 x108, .int .i64 x109, .slice a110 la110 ca110, .slice a111 la111 ca111, .slice a112 la112 ca112, .slice a113 la113 ca113, .int .i64 x114, .int .i64 x115, .int .i64 x116, .bool b117], .int .i64 301]) h105)
      (∃ x118 : Int, cellH h85 ⟨b25, 0, none⟩ = some (.int .u32 x118) ∧
        ∃ b119 : Bool, cellH h85 ⟨b25, 1, none⟩ = some (.bool b119) ∧
        ∃ x120 : Int, cellH h85 ⟨b25, 2, none⟩ = some (.int .i64 x120) ∧
        ∃ x121 : Int, cellH h85 ⟨b25, 3, none⟩ = some (.int .i64 x121) ∧
        ∃ (a122 : Option Addr) (la122 ca122 : Nat), cellH h85 ⟨b25, 4, none⟩ = some (.slice a122 la122 ca122) ∧
        ∃ (a123 : Option Addr) (la123 ca123 : Nat), cellH h85 ⟨b25, 5, none⟩ = some (.slice a123 la123 ca123) ∧
        ∃ (a124 : Option Addr) (la124 ca124 : Nat), cellH h85 ⟨b25, 6, none⟩ = some (.slice a124 la124 ca124) ∧
        ∃ (a125 : Option Addr) (la125 ca125 : Nat), cellH h85 ⟨b25, 7, none⟩ = some (.slice a125 la125 ca125) ∧
        ∃ x126 : Int, cellH h85 ⟨b25, 8, none⟩ = some (.int .i64 x126) ∧
        ∃ x127 : Int, cellH h85 ⟨b25, 9, none⟩ = some (.int .i64 x127) ∧
        ∃ x128 : Int, cellH h85 ⟨b25, 10, none⟩ = some (.int .i64 x128) ∧
        ∃ b129 : Bool, cellH h85 ⟨b25, 11, none⟩ = some (.bool b129) ∧
        storeL ⟨b1, 0, none⟩ 0 [.int .u32 x118, .bool b119, .int .i64 x120, .int .i64 x121, .slice a122 la122 ca122, .slice a123 la123 ca123, .slice a124 la124 ca124, .slice a125 la125 ca125, .int .i64 x126, .int .i64 x127, .int .i64 x128, .bool b129] h85 fun h130 =>
        ∃ x131 : Int, cellH h130 ⟨b1, 0, none⟩ = some (.int .u32 x131) ∧
        ∃ b132 : Bool, cellH h130 ⟨b1, 1, none⟩ = some (.bool b132) ∧
        ∃ x133 : Int, cellH h130 ⟨b1, 2, none⟩ = some (.int .i64 x133) ∧
        ∃ x134 : Int, cellH h130 ⟨b1, 3, none⟩ = some (.int .i64 x134) ∧
        ∃ (a135 : Option Addr) (la135 ca135 : Nat), cellH h130 ⟨b1, 4, none⟩ = some (.slice a135 la135 ca135) ∧
        ∃ (a136 : Option Addr) (la136 ca136 : Nat), cellH h130 ⟨b1, 5, none⟩ = some (.slice a136 la136 ca136) ∧
        ∃ (a137 : Option Addr) (la137 ca137 : Nat), cellH h130 ⟨b1, 6, none⟩ = some (.slice a137 la137 ca137) ∧
        ∃ (a138 : Option Addr) (la138 ca138 : Nat), cellH h130 ⟨b1, 7, none⟩ = some (.slice a138 la138 ca138) ∧
        ∃ x139 : Int, cellH h130 ⟨b1, 8, none⟩ = some (.int .i64 x139) ∧
        ∃ x140 : Int, cellH h130 ⟨b1, 9, none⟩ = some (.int .i64 x140) ∧
        ∃ x141 : Int, cellH h130 ⟨b1, 10, none⟩ = some (.int .i64 x141) ∧
        ∃ b142 : Bool, cellH h130 ⟨b1, 11, none⟩ = some (.bool b142) ∧
        R (.tuple #[.agg #[.int .u32 x131, .bool b132, .int .i64 x133, .int .i64 x134, .slice a135 la135 ca135, .slice a136 la136 ca136, .slice a137 la137 ca137, .slice a138 la138 ca138, .int .i64 x139, .int .i64 x140, .int .i64 x141, .bool b142], .int .i64 0]) h130)))
theorem vf12 (a0payload : Option Addr) (la0payload ca0payload : Nat) (h : Heap) (R : KV) (hF : F12 a0payload la0payload ca0payload h R) : CallsH Tryd.prog 12 #[.slice a0payload la0payload ca0payload] h R :=
  calls_of_form (A := an12) (fn := Tryd.f12) (c := c12) (args := [.slice a0payload la0payload ca0payload]) Tryd.func12 (by kernel_rfl) mixed (by kernel_rfl) (by kernel_rfl : F12 a0payload la0payload ca0payload h R = vcF Tryd.prog an12 Tryd.f12 c12 [.slice a0payload la0payload ca0payload] h R) hF
/-! ### 13 refrain/refrainlaw30.sameReply -/
noncomputable def c13 : Code := match Tryd.f13.body with | some c => c | none => .skip
noncomputable def an13 : Ann := { loops := fun i => match i with | 4 => [(4, .bool), (5, .int .i64)] | 9 => [(4, .bool), (6, .int .i64)] | 15 => [(4, .bool), (8, .int .i64)] | _ => [], draws := fun i => match i with | 6 => #[0, 1, 0, 7, 15, 0, 32, 0, 224, 480, 1023] | 11 => #[0, 1, 0, 7, 15, 31, 0, 64, 0, 448, 960, 1984, 4095, 8191] | 12 => #[0, 1, 3, 7, 15, 7, 63, 127, 255, 7, 519, 7, 3591, 7687, 15879, 32767, 65535] | 17 => #[0, 1, 0, 7, 15, 0, 32, 0, 224, 480, 1023, 2047] | _ => #[], joins := fun i => none }
def F13 (a0a_0 : Int) (a0a_1 : Bool) (a0a_2 : Int) (a0a_3 : Int) (a0a_4 : Option Addr) (la0a_4 ca0a_4 : Nat) (a0a_5 : Option Addr) (la0a_5 ca0a_5 : Nat) (a0a_6 : Option Addr) (la0a_6 ca0a_6 : Nat) (a0a_7 : Option Addr) (la0a_7 ca0a_7 : Nat) (a0a_8 : Int) (a0a_9 : Int) (a0a_10 : Int) (a0a_11 : Bool) (a1b_0 : Int) (a1b_1 : Bool) (a1b_2 : Int) (a1b_3 : Int) (a1b_4 : Option Addr) (la1b_4 ca1b_4 : Nat) (a1b_5 : Option Addr) (la1b_5 ca1b_5 : Nat) (a1b_6 : Option Addr) (la1b_6 ca1b_6 : Nat) (a1b_7 : Option Addr) (la1b_7 ca1b_7 : Nat) (a1b_8 : Int) (a1b_9 : Int) (a1b_10 : Int) (a1b_11 : Bool) (h : Heap) (R : KV) : Prop :=
  VNew h (.cells #[.int .u32 a0a_0, .bool a0a_1, .int .i64 a0a_2, .int .i64 a0a_3, .slice a0a_4 la0a_4 ca0a_4, .slice a0a_5 la0a_5 ca0a_5, .slice a0a_6 la0a_6 ca0a_6, .slice a0a_7 la0a_7 ca0a_7, .int .i64 a0a_8, .int .i64 a0a_9, .int .i64 a0a_10, .bool a0a_11] 34) fun b1 h2 =>
  VNew h2 (.cells #[.int .u32 a1b_0, .bool a1b_1, .int .i64 a1b_2, .int .i64 a1b_3, .slice a1b_4 la1b_4 ca1b_4, .slice a1b_5 la1b_5 ca1b_5, .slice a1b_6 la1b_6 ca1b_6, .slice a1b_7 la1b_7 ca1b_7, .int .i64 a1b_8, .int .i64 a1b_9, .int .i64 a1b_10, .bool a1b_11] 34) fun b3 h4 =>
  ∃ (a5 : Option Addr) (la5 ca5 : Nat), cellH h4 ⟨b1, 4, none⟩ = some (.slice a5 la5 ca5) ∧
  ∃ (a6 : Option Addr) (la6 ca6 : Nat), cellH h4 ⟨b3, 4, none⟩ = some (.slice a6 la6 ca6) ∧
  cond ((la5 : Int) != (la6 : Int)) (R (.bool false) h4) (∃ (a7 : Option Addr) (la7 ca7 : Nat), cellH h4 ⟨b1, 5, none⟩ = some (.slice a7 la7 ca7) ∧
    ∃ (a8 : Option Addr) (la8 ca8 : Nat), cellH h4 ⟨b3, 5, none⟩ = some (.slice a8 la8 ca8) ∧
    cond ((la7 : Int) != (la8 : Int)) (R (.bool false) h4) (∃ (a9 : Option Addr) (la9 ca9 : Nat), cellH h4 ⟨b1, 7, none⟩ = some (.slice a9 la9 ca9) ∧
      ∃ (a10 : Option Addr) (la10 ca10 : Nat), cellH h4 ⟨b3, 7, none⟩ = some (.slice a10 la10 ca10) ∧
      cond ((la9 : Int) != (la10 : Int))
      (R (.bool false) h4)
      (∃ I11 : Nat → Heap → Bool → Int → Prop, (∃ n12, I11 n12 h4 false 0) ∧
        ∀ (n12 : Nat) (h13 : Heap) (g14 : Env) (y_15 : Bool) (i_16 : Int), I11 n12 h13 y_15 i_16 →
        ∃ (a18 : Option Addr) (la18 ca18 : Nat), cellH h13 ⟨b1, 4, none⟩ = some (.slice a18 la18 ca18) ∧
        cond (decide (i_16 < (la18 : Int)))
        (∃ (a19 : Option Addr) (la19 ca19 : Nat), cellH h13 ⟨b1, 4, none⟩ = some (.slice a19 la19 ca19) ∧
          VIdx a19 la19 i_16 1 fun a20 =>
          ∃ x21 : Int, cellH h13 a20 = some (.int .i64 x21) ∧
          ∃ (a22 : Option Addr) (la22 ca22 : Nat), cellH h13 ⟨b3, 4, none⟩ = some (.slice a22 la22 ca22) ∧
          VIdx a22 la22 i_16 1 fun a23 =>
          ∃ x24 : Int, cellH h13 a23 = some (.int .i64 x24) ∧
          cond (x21 != x24)
          (R (.bool false) h13)
          (∃ m17, m17 < n12 ∧ I11 m17 h13 y_15 (IntKind.i64.wrap (i_16 + 1))))
        (∃ I25 : Nat → Heap → Bool → Int → Prop, (∃ n26, I25 n26 h13 y_15 0) ∧
          ∀ (n26 : Nat) (h27 : Heap) (g28 : Env) (y_29 : Bool) (i_30 : Int), I25 n26 h27 y_29 i_30 →
          ∃ (a32 : Option Addr) (la32 ca32 : Nat), cellH h27 ⟨b1, 5, none⟩ = some (.slice a32 la32 ca32) ∧
          cond (decide (i_30 < (la32 : Int)))
          (∃ (a33 : Option Addr) (la33 ca33 : Nat), cellH h27 ⟨b1, 5, none⟩ = some (.slice a33 la33 ca33) ∧
            VIdx a33 la33 i_30 2 fun a34 =>
            ∃ (a35 : Option Addr) (la35 ca35 : Nat), cellH h27 ⟨a34.block, a34.off + 1, none⟩ = some (.slice a35 la35 ca35) ∧
            ∃ (a36 : Option Addr) (la36 ca36 : Nat), cellH h27 ⟨b3, 5, none⟩ = some (.slice a36 la36 ca36) ∧
            VIdx a36 la36 i_30 2 fun a37 =>
            ∃ (a38 : Option Addr) (la38 ca38 : Nat), cellH h27 ⟨a37.block, a37.off + 1, none⟩ = some (.slice a38 la38 ca38) ∧
            CallsH Tryd.prog 53 #[.slice a35 la35 ca35, .slice a38 la38 ca38] h27 fun v39 h40 =>
            ∃ b41 : Bool, v39 = .bool b41 ∧
            cond (!b41) (R (.bool false) h40) (∃ (a42 : Option Addr) (la42 ca42 : Nat), cellH h40 ⟨b1, 5, none⟩ = some (.slice a42 la42 ca42) ∧
              VIdx a42 la42 i_30 2 fun a43 =>
              ∃ s44 : ByteArray, cellH h40 a43 = some (.string s44) ∧
              ∃ (a45 : Option Addr) (la45 ca45 : Nat), cellH h40 ⟨b3, 5, none⟩ = some (.slice a45 la45 ca45) ∧
              VIdx a45 la45 i_30 2 fun a46 =>
              ∃ s47 : ByteArray, cellH h40 a46 = some (.string s47) ∧
              cond (!strEq s44 s47)
              (R (.bool false) h40)
              (∃ m31, m31 < n26 ∧ I25 m31 h40 y_29 (IntKind.i64.wrap (i_30 + 1)))))
          (∃ I48 : Nat → Heap → Bool → Int → Prop, (∃ n49, I48 n49 h27 y_29 0) ∧
            ∀ (n49 : Nat) (h50 : Heap) (g51 : Env) (y_52 : Bool) (i_53 : Int), I48 n49 h50 y_52 i_53 →
            ∃ (a55 : Option Addr) (la55 ca55 : Nat), cellH h50 ⟨b1, 7, none⟩ = some (.slice a55 la55 ca55) ∧
            cond (decide (i_53 < (la55 : Int)))
            (∃ (a56 : Option Addr) (la56 ca56 : Nat), cellH h50 ⟨b1, 7, none⟩ = some (.slice a56 la56 ca56) ∧
              VIdx a56 la56 i_53 1 fun a57 =>
              ∃ (a58 : Option Addr) (la58 ca58 : Nat), cellH h50 a57 = some (.slice a58 la58 ca58) ∧
              ∃ (a59 : Option Addr) (la59 ca59 : Nat), cellH h50 ⟨b3, 7, none⟩ = some (.slice a59 la59 ca59) ∧
              VIdx a59 la59 i_53 1 fun a60 =>
              ∃ (a61 : Option Addr) (la61 ca61 : Nat), cellH h50 a60 = some (.slice a61 la61 ca61) ∧
              CallsH Tryd.prog 53 #[.slice a58 la58 ca58, .slice a61 la61 ca61] h50 fun v62 h63 =>
              ∃ b64 : Bool, v62 = .bool b64 ∧
              cond (!b64)
              (R (.bool false) h63)
              (∃ m54, m54 < n49 ∧ I48 m54 h63 y_52 (IntKind.i64.wrap (i_53 + 1))))
            (∃ (a65 : Option Addr) (la65 ca65 : Nat), cellH h50 ⟨b1, 6, none⟩ = some (.slice a65 la65 ca65) ∧
              ∃ (a66 : Option Addr) (la66 ca66 : Nat), cellH h50 ⟨b3, 6, none⟩ = some (.slice a66 la66 ca66) ∧
              CallsH Tryd.prog 31 #[.slice a65 la65 ca65, .slice a66 la66 ca66] h50 fun v67 h68 =>
              ∃ b69 : Bool, v67 = .bool b69 ∧
              cond b69 (∃ x70 : Int, cellH h68 ⟨b1, 0, none⟩ = some (.int .u32 x70) ∧
                ∃ x71 : Int, cellH h68 ⟨b3, 0, none⟩ = some (.int .u32 x71) ∧
                cond (x70 == x71) (∃ b72 : Bool, cellH h68 ⟨b1, 1, none⟩ = some (.bool b72) ∧
                  ∃ b73 : Bool, cellH h68 ⟨b3, 1, none⟩ = some (.bool b73) ∧
                  cond (b72 == b73) (∃ x74 : Int, cellH h68 ⟨b1, 2, none⟩ = some (.int .i64 x74) ∧
                    ∃ x75 : Int, cellH h68 ⟨b3, 2, none⟩ = some (.int .i64 x75) ∧
                    cond (x74 == x75) (∃ x76 : Int, cellH h68 ⟨b1, 3, none⟩ = some (.int .i64 x76) ∧
                      ∃ x77 : Int, cellH h68 ⟨b3, 3, none⟩ = some (.int .i64 x77) ∧
                      cond (x76 == x77) (∃ x78 : Int, cellH h68 ⟨b1, 8, none⟩ = some (.int .i64 x78) ∧
                        ∃ x79 : Int, cellH h68 ⟨b1, 9, none⟩ = some (.int .i64 x79) ∧
                        ∃ x80 : Int, cellH h68 ⟨b1, 10, none⟩ = some (.int .i64 x80) ∧
                        ∃ b81 : Bool, cellH h68 ⟨b1, 11, none⟩ = some (.bool b81) ∧
                        ∃ x82 : Int, cellH h68 ⟨b3, 8, none⟩ = some (.int .i64 x82) ∧
                        ∃ x83 : Int, cellH h68 ⟨b3, 9, none⟩ = some (.int .i64 x83) ∧
                        ∃ x84 : Int, cellH h68 ⟨b3, 10, none⟩ = some (.int .i64 x84) ∧
                        ∃ b85 : Bool, cellH h68 ⟨b3, 11, none⟩ = some (.bool b85) ∧
                        PureTo Tryd.prog (do eqGuard .eql 32 (.tmp 147) (.tmp 149) (.agg #[.int .i64 x78, .int .i64 x79, .int .i64 x80, .bool b81]) (.agg #[.int .i64 x82, .int .i64 x83, .int .i64 x84, .bool b85]); binOp .eql 32 (.agg #[.int .i64 x78, .int .i64 x79, .int .i64 x80, .bool b81]) (.agg #[.int .i64 x82, .int .i64 x83, .int .i64 x84, .bool b85])) fun v86 =>
                        ∃ b87 : Bool, v86 = .bool b87 ∧
                        R (.bool b87) h68) (R (.bool false) h68)) (R (.bool false) h68)) (R (.bool false) h68)) (R (.bool false) h68)) (R (.bool false) h68)))))))
theorem vf13 (a0a_0 : Int) (a0a_1 : Bool) (a0a_2 : Int) (a0a_3 : Int) (a0a_4 : Option Addr) (la0a_4 ca0a_4 : Nat) (a0a_5 : Option Addr) (la0a_5 ca0a_5 : Nat) (a0a_6 : Option Addr) (la0a_6 ca0a_6 : Nat) (a0a_7 : Option Addr) (la0a_7 ca0a_7 : Nat) (a0a_8 : Int) (a0a_9 : Int) (a0a_10 : Int) (a0a_11 : Bool) (a1b_0 : Int) (a1b_1 : Bool) (a1b_2 : Int) (a1b_3 : Int) (a1b_4 : Option Addr) (la1b_4 ca1b_4 : Nat) (a1b_5 : Option Addr) (la1b_5 ca1b_5 : Nat) (a1b_6 : Option Addr) (la1b_6 ca1b_6 : Nat) (a1b_7 : Option Addr) (la1b_7 ca1b_7 : Nat) (a1b_8 : Int) (a1b_9 : Int) (a1b_10 : Int) (a1b_11 : Bool) (h : Heap) (R : KV) (hF : F13 a0a_0 a0a_1 a0a_2 a0a_3 a0a_4 la0a_4 ca0a_4 a0a_5 la0a_5 ca0a_5 a0a_6 la0a_6 ca0a_6 a0a_7 la0a_7 ca0a_7 a0a_8 a0a_9 a0a_10 a0a_11 a1b_0 a1b_1 a1b_2 a1b_3 a1b_4 la1b_4 ca1b_4 a1b_5 la1b_5 ca1b_5 a1b_6 la1b_6 ca1b_6 a1b_7 la1b_7 ca1b_7 a1b_8 a1b_9 a1b_10 a1b_11 h R) : CallsH Tryd.prog 13 #[.agg #[.int .u32 a0a_0, .bool a0a_1, .int .i64 a0a_2, .int .i64 a0a_3, .slice a0a_4 la0a_4 ca0a_4, .slice a0a_5 la0a_5 ca0a_5, .slice a0a_6 la0a_6 ca0a_6, .slice a0a_7 la0a_7 ca0a_7, .int .i64 a0a_8, .int .i64 a0a_9, .int .i64 a0a_10, .bool a0a_11], .agg #[.int .u32 a1b_0, .bool a1b_1, .int .i64 a1b_2, .int .i64 a1b_3, .slice a1b_4 la1b_4 ca1b_4, .slice a1b_5 la1b_5 ca1b_5, .slice a1b_6 la1b_6 ca1b_6, .slice a1b_7 la1b_7 ca1b_7, .int .i64 a1b_8, .int .i64 a1b_9, .int .i64 a1b_10, .bool a1b_11]] h R :=
  calls_of_form (A := an13) (fn := Tryd.f13) (c := c13) (args := [.agg #[.int .u32 a0a_0, .bool a0a_1, .int .i64 a0a_2, .int .i64 a0a_3, .slice a0a_4 la0a_4 ca0a_4, .slice a0a_5 la0a_5 ca0a_5, .slice a0a_6 la0a_6 ca0a_6, .slice a0a_7 la0a_7 ca0a_7, .int .i64 a0a_8, .int .i64 a0a_9, .int .i64 a0a_10, .bool a0a_11], .agg #[.int .u32 a1b_0, .bool a1b_1, .int .i64 a1b_2, .int .i64 a1b_3, .slice a1b_4 la1b_4 ca1b_4, .slice a1b_5 la1b_5 ca1b_5, .slice a1b_6 la1b_6 ca1b_6, .slice a1b_7 la1b_7 ca1b_7, .int .i64 a1b_8, .int .i64 a1b_9, .int .i64 a1b_10, .bool a1b_11]]) Tryd.func13 (by kernel_rfl) mixed (by kernel_rfl) (by kernel_rfl : F13 a0a_0 a0a_1 a0a_2 a0a_3 a0a_4 la0a_4 ca0a_4 a0a_5 la0a_5 ca0a_5 a0a_6 la0a_6 ca0a_6 a0a_7 la0a_7 ca0a_7 a0a_8 a0a_9 a0a_10 a0a_11 a1b_0 a1b_1 a1b_2 a1b_3 a1b_4 la1b_4 ca1b_4 a1b_5 la1b_5 ca1b_5 a1b_6 la1b_6 ca1b_6 a1b_7 la1b_7 ca1b_7 a1b_8 a1b_9 a1b_10 a1b_11 h R = vcF Tryd.prog an13 Tryd.f13 c13 [.agg #[.int .u32 a0a_0, .bool a0a_1, .int .i64 a0a_2, .int .i64 a0a_3, .slice a0a_4 la0a_4 ca0a_4, .slice a0a_5 la0a_5 ca0a_5, .slice a0a_6 la0a_6 ca0a_6, .slice a0a_7 la0a_7 ca0a_7, .int .i64 a0a_8, .int .i64 a0a_9, .int .i64 a0a_10, .bool a0a_11], .agg #[.int .u32 a1b_0, .bool a1b_1, .int .i64 a1b_2, .int .i64 a1b_3, .slice a1b_4 la1b_4 ca1b_4, .slice a1b_5 la1b_5 ca1b_5, .slice a1b_6 la1b_6 ca1b_6, .slice a1b_7 la1b_7 ca1b_7, .int .i64 a1b_8, .int .i64 a1b_9, .int .i64 a1b_10, .bool a1b_11]] h R) hF
/-! ### 14 refrain/refrainlaw30.sameBytes -/
noncomputable def c14 : Code := match Tryd.f14.body with | some c => c | none => .skip
noncomputable def an14 : Ann := { loops := fun i => match i with | 4 => [(4, .bool), (5, .int .i64)] | _ => [], draws := fun i => match i with | 6 => #[0, 0, 3, 7, 0, 0, 48, 112, 255] | _ => #[], joins := fun i => none }
def F14 (a0a : Option Addr) (la0a ca0a : Nat) (a1b : Option Addr) (la1b ca1b : Nat) (h : Heap) (R : KV) : Prop :=
  cond ((la0a : Int) != (la1b : Int))
  (R (.bool false) h)
  (∃ I1 : Nat → Heap → Bool → Int → Prop, (∃ n2, I1 n2 h false 0) ∧
    ∀ (n2 : Nat) (h3 : Heap) (g4 : Env) (y_5 : Bool) (i_6 : Int), I1 n2 h3 y_5 i_6 →
    cond (decide (i_6 < (la0a : Int)))
    (VIdx a0a la0a i_6 1 fun a8 =>
      ∃ x9 : Int, cellH h3 a8 = some (.int .u8 x9) ∧
      VIdx a1b la1b i_6 1 fun a10 =>
      ∃ x11 : Int, cellH h3 a10 = some (.int .u8 x11) ∧
      cond (x9 != x11)
      (R (.bool false) h3)
      (∃ m7, m7 < n2 ∧ I1 m7 h3 y_5 (IntKind.i64.wrap (i_6 + 1))))
    (R (.bool true) h3))
theorem vf14 (a0a : Option Addr) (la0a ca0a : Nat) (a1b : Option Addr) (la1b ca1b : Nat) (h : Heap) (R : KV) (hF : F14 a0a la0a ca0a a1b la1b ca1b h R) : CallsH Tryd.prog 14 #[.slice a0a la0a ca0a, .slice a1b la1b ca1b] h R :=
  calls_of_form (A := an14) (fn := Tryd.f14) (c := c14) (args := [.slice a0a la0a ca0a, .slice a1b la1b ca1b]) Tryd.func14 (by kernel_rfl) mixed (by kernel_rfl) (by kernel_rfl : F14 a0a la0a ca0a a1b la1b ca1b h R = vcF Tryd.prog an14 Tryd.f14 c14 [.slice a0a la0a ca0a, .slice a1b la1b ca1b] h R) hF
/-! ### 15 refrain/refrainlaw30.roomy -/
noncomputable def c15 : Code := match Tryd.f15.body with | some c => c | none => .skip
noncomputable def an15 : Ann := { loops := fun i => match i with | 3 => [(3, .slc), (4, .int .i64)] | _ => [], draws := fun i => #[], joins := fun i => none }
def F15 (a0b : Option Addr) (la0b ca0b : Nat) (h : Heap) (R : KV) : Prop :=
  RunsTo Tryd.prog (Builtin.append_ #[35, 35] 35 #[.slice none 0 0, .slice a0b la0b ca0b]) h fun v1 h2 =>
  ∃ (a3 : Option Addr) (la3 ca3 : Nat), v1 = .slice a3 la3 ca3 ∧
  ∃ I4 : Nat → Heap → Option Addr → Nat → Nat → Int → Prop, (∃ n5, I4 n5 h2 a3 la3 ca3 0) ∧
  ∀ (n5 : Nat) (h6 : Heap) (g7 : Env) (l_8 : Option Addr) (ll_8 cl_8 : Nat) (i_9 : Int), I4 n5 h6 l_8 ll_8 cl_8 i_9 →
  cond (decide (i_9 < (70 : Int)))
  (VNew h6 (.cells #[.int .u8 (IntKind.u8.wrap (IntKind.i64.wrap (181 + i_9)))] 5) fun b11 h12 =>
    RunsTo Tryd.prog (Builtin.append_ #[35, 35] 35 #[.slice l_8 ll_8 cl_8, .slice (some ⟨b11, 0, none⟩) 1 1]) h12 fun v13 h14 =>
    ∃ (a15 : Option Addr) (la15 ca15 : Nat), v13 = .slice a15 la15 ca15 ∧
    ∃ m10, m10 < n5 ∧ I4 m10 h14 a15 la15 ca15 (IntKind.i64.wrap (i_9 + 1)))
  (R (.slice l_8 ll_8 cl_8) h6)
theorem vf15 (a0b : Option Addr) (la0b ca0b : Nat) (h : Heap) (R : KV) (hF : F15 a0b la0b ca0b h R) : CallsH Tryd.prog 15 #[.slice a0b la0b ca0b] h R :=
  calls_of_form (A := an15) (fn := Tryd.f15) (c := c15) (args := [.slice a0b la0b ca0b]) Tryd.func15 (by kernel_rfl) mixed (by kernel_rfl) (by kernel_rfl : F15 a0b la0b ca0b h R = vcF Tryd.prog an15 Tryd.f15 c15 [.slice a0b la0b ca0b] h R) hF
/-! ### 16 refrain/proto.Frame -/
noncomputable def c16 : Code := match Tryd.f16.body with | some c => c | none => .skip
noncomputable def an16 : Ann := { loops := fun i => [], draws := fun i => #[], joins := fun i => none }
def F16 (a0payload : Option Addr) (la0payload ca0payload : Nat) (h : Heap) (R : KV) : Prop :=
  cond (decide ((la0payload : Int) > (65528 : Int)))
  (R (.tuple #[.slice none 0 0, .int .i64 2]) h)
  (CallsH Tryd.prog 27 #[.slice none 0 0, .int .u32 (IntKind.u32.wrap (la0payload : Int))] h fun v1 h2 =>
    ∃ (a3 : Option Addr) (la3 ca3 : Nat), v1 = .slice a3 la3 ca3 ∧
    RunsTo Tryd.prog (Builtin.append_ #[35, 35] 35 #[.slice a3 la3 ca3, .slice a0payload la0payload ca0payload]) h2 fun v4 h5 =>
    ∃ (a6 : Option Addr) (la6 ca6 : Nat), v4 = .slice a6 la6 ca6 ∧
    CallsH Tryd.prog 54 #[.slice a6 la6 ca6] h5 fun v7 h8 =>
    ∃ x9 : Int, v7 = .int .u32 x9 ∧
    CallsH Tryd.prog 27 #[.slice a6 la6 ca6, .int .u32 x9] h8 fun v10 h11 =>
    ∃ (a12 : Option Addr) (la12 ca12 : Nat), v10 = .slice a12 la12 ca12 ∧
    R (.tuple #[.slice a12 la12 ca12, .int .i64 0]) h11)
theorem vf16 (a0payload : Option Addr) (la0payload ca0payload : Nat) (h : Heap) (R : KV) (hF : F16 a0payload la0payload ca0payload h R) : CallsH Tryd.prog 16 #[.slice a0payload la0payload ca0payload] h R :=
  calls_of_form (A := an16) (fn := Tryd.f16) (c := c16) (args := [.slice a0payload la0payload ca0payload]) Tryd.func16 (by kernel_rfl) mixed (by kernel_rfl) (by kernel_rfl : F16 a0payload la0payload ca0payload h R = vcF Tryd.prog an16 Tryd.f16 c16 [.slice a0payload la0payload ca0payload] h R) hF
/-! ### 17 refrain/refrainref30.Frame -/
noncomputable def c17 : Code := match Tryd.f17.body with | some c => c | none => .skip
noncomputable def an17 : Ann := { loops := fun i => [], draws := fun i => #[], joins := fun i => none }
def F17 (a0payload : Option Addr) (la0payload ca0payload : Nat) (h : Heap) (R : KV) : Prop :=
  cond (decide ((la0payload : Int) > (65528 : Int)))
  (R (.tuple #[.slice none 0 0, .int .i64 2]) h)
  (CallsH Tryd.prog 55 #[.int .i64 (la0payload : Int)] h fun v1 h2 =>
    ∃ (a3 : Option Addr) (la3 ca3 : Nat), v1 = .slice a3 la3 ca3 ∧
    RunsTo Tryd.prog (Builtin.append_ #[35, 35] 35 #[.slice a3 la3 ca3, .slice a0payload la0payload ca0payload]) h2 fun v4 h5 =>
    ∃ (a6 : Option Addr) (la6 ca6 : Nat), v4 = .slice a6 la6 ca6 ∧
    CallsH Tryd.prog 56 #[.slice a6 la6 ca6] h5 fun v7 h8 =>
    ∃ (a9 : Option Addr) (la9 ca9 : Nat), v7 = .slice a9 la9 ca9 ∧
    RunsTo Tryd.prog (Builtin.append_ #[35, 35] 35 #[.slice a6 la6 ca6, .slice a9 la9 ca9]) h8 fun v10 h11 =>
    ∃ (a12 : Option Addr) (la12 ca12 : Nat), v10 = .slice a12 la12 ca12 ∧
    R (.tuple #[.slice a12 la12 ca12, .int .i64 0]) h11)
theorem vf17 (a0payload : Option Addr) (la0payload ca0payload : Nat) (h : Heap) (R : KV) (hF : F17 a0payload la0payload ca0payload h R) : CallsH Tryd.prog 17 #[.slice a0payload la0payload ca0payload] h R :=
  calls_of_form (A := an17) (fn := Tryd.f17) (c := c17) (args := [.slice a0payload la0payload ca0payload]) Tryd.func17 (by kernel_rfl) mixed (by kernel_rfl) (by kernel_rfl : F17 a0payload la0payload ca0payload h R = vcF Tryd.prog an17 Tryd.f17 c17 [.slice a0payload la0payload ca0payload] h R) hF
/-! ### 18 refrain/proto.New -/
noncomputable def c18 : Code := match Tryd.f18.body with | some c => c | none => .skip
noncomputable def an18 : Ann := { loops := fun i => [], draws := fun i => #[], joins := fun i => none }
def F18  (h : Heap) (R : KV) : Prop :=
  VNew h (.cells #[.slice none 0 0, .bool false] 119) fun b1 h2 =>
  R (.pointer (some ⟨b1, 0, none⟩)) h2
theorem vf18  (h : Heap) (R : KV) (hF : F18  h R) : CallsH Tryd.prog 18 #[] h R :=
  calls_of_form (A := an18) (fn := Tryd.f18) (c := c18) (args := []) Tryd.func18 (by kernel_rfl) mixed (by kernel_rfl) (by kernel_rfl : F18  h R = vcF Tryd.prog an18 Tryd.f18 c18 [] h R) hF
/-! ### 19 refrain/refrainref30.New -/
noncomputable def c19 : Code := match Tryd.f19.body with | some c => c | none => .skip
noncomputable def an19 : Ann := { loops := fun i => [], draws := fun i => #[], joins := fun i => none }
def F19  (h : Heap) (R : KV) : Prop :=
  VNew h (.cells #[.slice none 0 0, .bool false] 121) fun b1 h2 =>
  R (.pointer (some ⟨b1, 0, none⟩)) h2
theorem vf19  (h : Heap) (R : KV) (hF : F19  h R) : CallsH Tryd.prog 19 #[] h R :=
  calls_of_form (A := an19) (fn := Tryd.f19) (c := c19) (args := []) Tryd.func19 (by kernel_rfl) mixed (by kernel_rfl) (by kernel_rfl : F19  h R = vcF Tryd.prog an19 Tryd.f19 c19 [] h R) hF
/-! ### 20 (refrain/refrainlaw30.places).feeds -/
noncomputable def c20 : Code := match Tryd.f20.body with | some c => c | none => .skip
noncomputable def an20 : Ann := { loops := fun i => match i with | 8 => [(14, .int .i64)] | _ => [], draws := fun i => match i with | 1 => #[0, 0, 2, 6, 14, 30, 0, 64, 254, 511, 1023, 2047] | _ => #[], joins := fun i => none }
def F20 (a0h : Option Addr) (a1s : Option Addr) (a2r : Option Addr) (a3piece : Option Addr) (la3piece ca3piece : Nat) (h : Heap) (R : KV) : Prop :=
  VSome a0h fun a1 =>
  ∃ (a2 : Option Addr) (la2 ca2 : Nat), cellH h a1 = some (.slice a2 la2 ca2) ∧
  VSlice 1 a2 ca2 0 0 (ca2 : Int) fun a3 la3 ca3 =>
  CallsH Tryd.prog 15 #[.slice a3piece la3piece ca3piece] h fun v4 h5 =>
  ∃ (a6 : Option Addr) (la6 ca6 : Nat), v4 = .slice a6 la6 ca6 ∧
  (cellH h5 a1 = some (.slice a2 la2 ca2)) ∧
  RunsTo Tryd.prog (Builtin.append_ #[35, 35] 35 #[.slice a3 la3 ca3, .slice a6 la6 ca6]) h5 fun v7 h8 =>
  ∃ (a9 : Option Addr) (la9 ca9 : Nat), v7 = .slice a9 la9 ca9 ∧
  VSome a0h fun a10 =>
  VStore h8 a10 (.slice a9 la9 ca9) fun h11 =>
  VSome a0h fun a12 =>
  ∃ (a13 : Option Addr) (la13 ca13 : Nat), cellH h11 a12 = some (.slice a13 la13 ca13) ∧
  VSlice 1 a13 ca13 0 (la3piece : Int) (la13 : Int) fun a14 la14 ca14 =>
  CallsH Tryd.prog 21 #[.pointer a1s, .slice a14 la14 ca14] h11 fun v15 h16 =>
  ∃ (a17 : Option Addr) (la17 ca17 : Nat), ∃ x18 : Int, v15 = .tuple #[.slice a17 la17 ca17, .int .i64 x18] ∧
  CallsH Tryd.prog 57 #[.pointer a2r, .slice a3piece la3piece ca3piece] h16 fun v19 h20 =>
  ∃ (a21 : Option Addr) (la21 ca21 : Nat), ∃ x22 : Int, v19 = .tuple #[.slice a21 la21 ca21, .int .i64 x22] ∧
  cond (x18 != x22) (R (.bool false) h20) (CallsH Tryd.prog 22 #[.slice a17 la17 ca17, .slice a21 la21 ca21] h20 fun v23 h24 =>
    ∃ b25 : Bool, v23 = .bool b25 ∧
    cond (!b25) (R (.bool false) h24) (CallsH Tryd.prog 15 #[.slice a3piece la3piece ca3piece] h24 fun v26 h27 =>
      ∃ (a28 : Option Addr) (la28 ca28 : Nat), v26 = .slice a28 la28 ca28 ∧
      CallsH Tryd.prog 14 #[.slice a13 la13 ca13, .slice a28 la28 ca28] h27 fun v29 h30 =>
      ∃ b31 : Bool, v29 = .bool b31 ∧
      cond (!b31)
      (R (.bool false) h30)
      (∃ I32 : Nat → Heap → Int → Prop, (∃ n33, I32 n33 h30 0) ∧
        ∀ (n33 : Nat) (h34 : Heap) (g35 : Env) (j_36 : Int), I32 n33 h34 j_36 →
        cond (decide (j_36 < (la13 : Int)))
        (VIdx a13 la13 j_36 1 fun a38 =>
          VStore h34 a38 (.int .u8 238) fun h39 =>
          ∃ m37, m37 < n33 ∧ I32 m37 h39 (IntKind.i64.wrap (j_36 + 1)))
        (CallsH Tryd.prog 23 #[.pointer a1s] h34 fun v40 h41 =>
          ∃ x42 : Int, v40 = .int .i64 x42 ∧
          CallsH Tryd.prog 58 #[.pointer a2r] h41 fun v43 h44 =>
          ∃ x45 : Int, v43 = .int .i64 x45 ∧
          R (.bool (x42 == x45)) h44))))
theorem vf20 (a0h : Option Addr) (a1s : Option Addr) (a2r : Option Addr) (a3piece : Option Addr) (la3piece ca3piece : Nat) (h : Heap) (R : KV) (hF : F20 a0h a1s a2r a3piece la3piece ca3piece h R) : CallsH Tryd.prog 20 #[.pointer a0h, .pointer a1s, .pointer a2r, .slice a3piece la3piece ca3piece] h R :=
  calls_of_form (A := an20) (fn := Tryd.f20) (c := c20) (args := [.pointer a0h, .pointer a1s, .pointer a2r, .slice a3piece la3piece ca3piece]) Tryd.func20 (by kernel_rfl) mixed (by kernel_rfl) (by kernel_rfl : F20 a0h a1s a2r a3piece la3piece ca3piece h R = vcF Tryd.prog an20 Tryd.f20 c20 [.pointer a0h, .pointer a1s, .pointer a2r, .slice a3piece la3piece ca3piece] h R) hF
/-! ### 21 (refrain/proto.Stream).Feed -/
noncomputable def c21 : Code := match Tryd.f21.body with | some c => c | none => .skip
noncomputable def an21 : Ann := { loops := fun i => match i with | 6 => [(6, .slc), (7, .slc), (8, .bool)] | _ => [], draws := fun i => #[], joins := fun i => none }
def F21 (a0s : Option Addr) (a1b : Option Addr) (la1b ca1b : Nat) (h : Heap) (R : KV) : Prop :=
  VSome a0s fun a1 =>
  ∃ b2 : Bool, cellH h ⟨a1.block, a1.off + 1, none⟩ = some (.bool b2) ∧
  cond b2
  (R (.tuple #[.slice none 0 0, .int .i64 300]) h)
  (VSome a0s fun a3 =>
    ∃ (a4 : Option Addr) (la4 ca4 : Nat), cellH h a3 = some (.slice a4 la4 ca4) ∧
    CallsH Tryd.prog 59 #[.slice a4 la4 ca4] h fun v5 h6 =>
    ∃ (a7 : Option Addr) (la7 ca7 : Nat), v5 = .slice a7 la7 ca7 ∧
    RunsTo Tryd.prog (Builtin.append_ #[35, 35] 35 #[.slice a7 la7 ca7, .slice a1b la1b ca1b]) h6 fun v8 h9 =>
    ∃ (a10 : Option Addr) (la10 ca10 : Nat), v8 = .slice a10 la10 ca10 ∧
    VSome a0s fun a11 =>
    VStore h9 a11 (.slice a10 la10 ca10) fun h12 =>
    CallsH Tryd.prog 60 #[.pointer a0s] h12 fun v13 h14 =>
    ∃ (a15 : Option Addr) (la15 ca15 : Nat), ∃ b16 : Bool, v13 = .tuple #[.slice a15 la15 ca15, .bool b16] ∧
    ∃ I17 : Nat → Heap → Option Addr → Nat → Nat → Option Addr → Nat → Nat → Bool → Prop, (∃ n18, I17 n18 h14 none 0 0 a15 la15 ca15 b16) ∧
    ∀ (n18 : Nat) (h19 : Heap) (g20 : Env) (out_21 : Option Addr) (lout_21 cout_21 : Nat) (p_22 : Option Addr) (lp_22 cp_22 : Nat) (ok_23 : Bool), I17 n18 h19 out_21 lout_21 cout_21 p_22 lp_22 cp_22 ok_23 →
    cond ok_23
    (VNew h19 (.cells #[.slice p_22 lp_22 cp_22] 35) fun b25 h26 =>
      RunsTo Tryd.prog (Builtin.append_ #[48, 48] 48 #[.slice out_21 lout_21 cout_21, .slice (some ⟨b25, 0, none⟩) 1 1]) h26 fun v27 h28 =>
      ∃ (a29 : Option Addr) (la29 ca29 : Nat), v27 = .slice a29 la29 ca29 ∧
      CallsH Tryd.prog 60 #[.pointer a0s] h28 fun v30 h31 =>
      ∃ (a32 : Option Addr) (la32 ca32 : Nat), ∃ b33 : Bool, v30 = .tuple #[.slice a32 la32 ca32, .bool b33] ∧
      ∃ m24, m24 < n18 ∧ I17 m24 h31 a29 la29 ca29 a32 la32 ca32 b33)
    (VSome a0s fun a34 =>
      ∃ b35 : Bool, cellH h19 ⟨a34.block, a34.off + 1, none⟩ = some (.bool b35) ∧
      cond b35
      (VSome a0s fun a36 =>
        VStore h19 a36 (.slice none 0 0) fun h37 =>
        R (.tuple #[.slice out_21 lout_21 cout_21, .int .i64 300]) h37)
      (R (.tuple #[.slice out_21 lout_21 cout_21, .int .i64 0]) h19)))
theorem vf21 (a0s : Option Addr) (a1b : Option Addr) (la1b ca1b : Nat) (h : Heap) (R : KV) (hF : F21 a0s a1b la1b ca1b h R) : CallsH Tryd.prog 21 #[.pointer a0s, .slice a1b la1b ca1b] h R :=
  calls_of_form (A := an21) (fn := Tryd.f21) (c := c21) (args := [.pointer a0s, .slice a1b la1b ca1b]) Tryd.func21 (by kernel_rfl) mixed (by kernel_rfl) (by kernel_rfl : F21 a0s a1b la1b ca1b h R = vcF Tryd.prog an21 Tryd.f21 c21 [.pointer a0s, .slice a1b la1b ca1b] h R) hF
/-! ### 22 refrain/refrainlaw30.sameLists -/
noncomputable def c22 : Code := match Tryd.f22.body with | some c => c | none => .skip
noncomputable def an22 : Ann := { loops := fun i => match i with | 4 => [(4, .bool), (5, .int .i64)] | _ => [], draws := fun i => match i with | 6 => #[0, 0, 3, 7, 0, 0, 48, 112, 255, 511] | _ => #[], joins := fun i => none }
def F22 (a0a : Option Addr) (la0a ca0a : Nat) (a1b : Option Addr) (la1b ca1b : Nat) (h : Heap) (R : KV) : Prop :=
  cond ((la0a : Int) != (la1b : Int))
  (R (.bool false) h)
  (∃ I1 : Nat → Heap → Bool → Int → Prop, (∃ n2, I1 n2 h false 0) ∧
    ∀ (n2 : Nat) (h3 : Heap) (g4 : Env) (y_5 : Bool) (i_6 : Int), I1 n2 h3 y_5 i_6 →
    cond (decide (i_6 < (la0a : Int)))
    (VIdx a0a la0a i_6 1 fun a8 =>
      ∃ (a9 : Option Addr) (la9 ca9 : Nat), cellH h3 a8 = some (.slice a9 la9 ca9) ∧
      VIdx a1b la1b i_6 1 fun a10 =>
      ∃ (a11 : Option Addr) (la11 ca11 : Nat), cellH h3 a10 = some (.slice a11 la11 ca11) ∧
      CallsH Tryd.prog 14 #[.slice a9 la9 ca9, .slice a11 la11 ca11] h3 fun v12 h13 =>
      ∃ b14 : Bool, v12 = .bool b14 ∧
      cond (!b14)
      (R (.bool false) h13)
      (∃ m7, m7 < n2 ∧ I1 m7 h13 y_5 (IntKind.i64.wrap (i_6 + 1))))
    (R (.bool true) h3))
theorem vf22 (a0a : Option Addr) (la0a ca0a : Nat) (a1b : Option Addr) (la1b ca1b : Nat) (h : Heap) (R : KV) (hF : F22 a0a la0a ca0a a1b la1b ca1b h R) : CallsH Tryd.prog 22 #[.slice a0a la0a ca0a, .slice a1b la1b ca1b] h R :=
  calls_of_form (A := an22) (fn := Tryd.f22) (c := c22) (args := [.slice a0a la0a ca0a, .slice a1b la1b ca1b]) Tryd.func22 (by kernel_rfl) mixed (by kernel_rfl) (by kernel_rfl : F22 a0a la0a ca0a a1b la1b ca1b h R = vcF Tryd.prog an22 Tryd.f22 c22 [.slice a0a la0a ca0a, .slice a1b la1b ca1b] h R) hF
/-! ### 23 (refrain/proto.Stream).Rest -/
noncomputable def c23 : Code := match Tryd.f23.body with | some c => c | none => .skip
noncomputable def an23 : Ann := { loops := fun i => [], draws := fun i => #[], joins := fun i => none }
def F23 (a0s : Option Addr) (h : Heap) (R : KV) : Prop :=
  VSome a0s fun a1 =>
  ∃ (a2 : Option Addr) (la2 ca2 : Nat), cellH h a1 = some (.slice a2 la2 ca2) ∧
  R (.int .i64 (la2 : Int)) h
theorem vf23 (a0s : Option Addr) (h : Heap) (R : KV) (hF : F23 a0s h R) : CallsH Tryd.prog 23 #[.pointer a0s] h R :=
  calls_of_form (A := an23) (fn := Tryd.f23) (c := c23) (args := [.pointer a0s]) Tryd.func23 (by kernel_rfl) mixed (by kernel_rfl) (by kernel_rfl : F23 a0s h R = vcF Tryd.prog an23 Tryd.f23 c23 [.pointer a0s] h R) hF
/-! ### 24 refrain/proto.known -/
noncomputable def c24 : Code := match Tryd.f24.body with | some c => c | none => .skip
noncomputable def an24 : Ann := { loops := fun i => [], draws := fun i => #[], joins := fun i => none }
def F24 (a0kind : Int) (h : Heap) (R : KV) : Prop :=
  cond (decide (a0kind ≥ (1 : Int))) (R (.bool (decide (a0kind < (13 : Int)))) h) (R (.bool false) h)
theorem vf24 (a0kind : Int) (h : Heap) (R : KV) (hF : F24 a0kind h R) : CallsH Tryd.prog 24 #[.int .i64 a0kind] h R :=
  calls_of_form (A := an24) (fn := Tryd.f24) (c := c24) (args := [.int .i64 a0kind]) Tryd.func24 (by kernel_rfl) mixed (by kernel_rfl) (by kernel_rfl : F24 a0kind h R = vcF Tryd.prog an24 Tryd.f24 c24 [.int .i64 a0kind] h R) hF
/-! ### 25 refrain/proto.fields -/
noncomputable def c25 : Code := match Tryd.f25.body with | some c => c | none => .skip
noncomputable def an25 : Ann := { loops := fun i => [], draws := fun i => #[], joins := fun i => none }
def F25  (h : Heap) (R : KV) : Prop :=
  VNew h (.cells #[.nilFunc, .nilFunc, .nilFunc, .nilFunc, .nilFunc, .nilFunc, .nilFunc, .nilFunc, .nilFunc, .nilFunc, .nilFunc, .nilFunc] 76) fun b1 h2 =>
  storeL ⟨b1, 0, none⟩ 0 [.func (.func 61) #[] #[], .func (.func 62) #[] #[], .func (.func 63) #[] #[], .func (.func 64) #[] #[], .func (.func 65) #[] #[], .func (.func 66) #[] #[], .func (.func 67) #[] #[], .func (.func 68) #[] #[], .func (.func 69) #[] #[], .func (.func 70) #[] #[], .func (.func 71) #[] #[], .func (.func 74) #[] #[]] h2 fun h3 =>
  ∃ v4 : Value, cellH h3 ⟨b1, 0, none⟩ = some (v4) ∧
  ∃ v5 : Value, cellH h3 ⟨b1, 1, none⟩ = some (v5) ∧
  ∃ v6 : Value, cellH h3 ⟨b1, 2, none⟩ = some (v6) ∧
  ∃ v7 : Value, cellH h3 ⟨b1, 3, none⟩ = some (v7) ∧
  ∃ v8 : Value, cellH h3 ⟨b1, 4, none⟩ = some (v8) ∧
  ∃ v9 : Value, cellH h3 ⟨b1, 5, none⟩ = some (v9) ∧
  ∃ v10 : Value, cellH h3 ⟨b1, 6, none⟩ = some (v10) ∧
  ∃ v11 : Value, cellH h3 ⟨b1, 7, none⟩ = some (v11) ∧
  ∃ v12 : Value, cellH h3 ⟨b1, 8, none⟩ = some (v12) ∧
  ∃ v13 : Value, cellH h3 ⟨b1, 9, none⟩ = some (v13) ∧
  ∃ v14 : Value, cellH h3 ⟨b1, 10, none⟩ = some (v14) ∧
  ∃ v15 : Value, cellH h3 ⟨b1, 11, none⟩ = some (v15) ∧
  R (.agg #[v4, v5, v6, v7, v8, v9, v10, v11, v12, v13, v14, v15]) h3
theorem vf25  (h : Heap) (R : KV) (hF : F25  h R) : CallsH Tryd.prog 25 #[] h R :=
  calls_of_form (A := an25) (fn := Tryd.f25) (c := c25) (args := []) Tryd.func25 (by kernel_rfl) mixed (by kernel_rfl) (by kernel_rfl : F25  h R = vcF Tryd.prog an25 Tryd.f25 c25 [] h R) hF
/-! ### 26 refrain/proto.speaks -/
noncomputable def c26 : Code := match Tryd.f26.body with | some c => c | none => .skip
noncomputable def an26 : Ann := { loops := fun i => match i with | 2 => [(4, .bool), (11, .int .i64)] | _ => [], draws := fun i => #[], joins := fun i => none }
def F26 (a0kind : Int) (a1at : Int) (h : Heap) (R : KV) : Prop :=
  VIdx (some ⟨0, 0, none⟩) 13 a0kind 1 fun a1 =>
  ∃ (a2 : Option Addr) (la2 ca2 : Nat), cellH h a1 = some (.slice a2 la2 ca2) ∧
  ∃ I3 : Nat → Heap → Bool → Int → Prop, (∃ n4, I3 n4 h false 0) ∧
  ∀ (n4 : Nat) (h5 : Heap) (g6 : Env) (y_7 : Bool) (y_8 : Int), I3 n4 h5 y_7 y_8 →
  cond (decide (y_8 < (la2 : Int)))
  (VIdx a2 la2 y_8 1 fun a10 =>
    ∃ x11 : Int, cellH h5 a10 = some (.int .i64 x11) ∧
    cond (x11 == a1at)
    (R (.bool true) h5)
    (∃ m9, m9 < n4 ∧ I3 m9 h5 y_7 (IntKind.i64.wrap (y_8 + 1))))
  (R (.bool false) h5)
theorem vf26 (a0kind : Int) (a1at : Int) (h : Heap) (R : KV) (hF : F26 a0kind a1at h R) : CallsH Tryd.prog 26 #[.int .i64 a0kind, .int .i64 a1at] h R :=
  calls_of_form (A := an26) (fn := Tryd.f26) (c := c26) (args := [.int .i64 a0kind, .int .i64 a1at]) Tryd.func26 (by kernel_rfl) mixed (by kernel_rfl) (by kernel_rfl : F26 a0kind a1at h R = vcF Tryd.prog an26 Tryd.f26 c26 [.int .i64 a0kind, .int .i64 a1at] h R) hF
/-! ### 27 refrain/proto.four -/
noncomputable def c27 : Code := match Tryd.f27.body with | some c => c | none => .skip
noncomputable def an27 : Ann := { loops := fun i => [], draws := fun i => #[], joins := fun i => none }
def F27 (a0b : Option Addr) (la0b ca0b : Nat) (a1n : Int) (h : Heap) (R : KV) : Prop :=
  (0 : Int) ≤ 24 ∧
  (0 : Int) ≤ 16 ∧
  (0 : Int) ≤ 8 ∧
  VNew h (.cells #[.int .u8 (IntKind.u8.wrap (Int.fdiv a1n (2 ^ (min (Int.toNat 24) (IntKind.bits .u32))))), .int .u8 (IntKind.u8.wrap (Int.fdiv a1n (2 ^ (min (Int.toNat 16) (IntKind.bits .u32))))), .int .u8 (IntKind.u8.wrap (Int.fdiv a1n (2 ^ (min (Int.toNat 8) (IntKind.bits .u32))))), .int .u8 (IntKind.u8.wrap a1n)] 5) fun b1 h2 =>
  RunsTo Tryd.prog (Builtin.append_ #[35, 35] 35 #[.slice a0b la0b ca0b, .slice (some ⟨b1, 0, none⟩) 4 4]) h2 fun v3 h4 =>
  ∃ (a5 : Option Addr) (la5 ca5 : Nat), v3 = .slice a5 la5 ca5 ∧
  R (.slice a5 la5 ca5) h4
theorem vf27 (a0b : Option Addr) (la0b ca0b : Nat) (a1n : Int) (h : Heap) (R : KV) (hF : F27 a0b la0b ca0b a1n h R) : CallsH Tryd.prog 27 #[.slice a0b la0b ca0b, .int .u32 a1n] h R :=
  calls_of_form (A := an27) (fn := Tryd.f27) (c := c27) (args := [.slice a0b la0b ca0b, .int .u32 a1n]) Tryd.func27 (by kernel_rfl) mixed (by kernel_rfl) (by kernel_rfl : F27 a0b la0b ca0b a1n h R = vcF Tryd.prog an27 Tryd.f27 c27 [.slice a0b la0b ca0b, .int .u32 a1n] h R) hF
/-! ### 28 (refrain/proto.writer).done -/
noncomputable def c28 : Code := match Tryd.f28.body with | some c => c | none => .skip
noncomputable def an28 : Ann := { loops := fun i => [], draws := fun i => match i with | 2 => #[0, 1, 3, 7, 0, 31] | _ => #[], joins := fun i => none }
def F28 (a0w : Option Addr) (h : Heap) (R : KV) : Prop :=
  VSome a0w fun a1 =>
  ∃ x2 : Int, cellH h ⟨a1.block, a1.off + 1, none⟩ = some (.int .i64 x2) ∧
  cond (x2 != (0 : Int))
  (VSome a0w fun a3 =>
    ∃ x4 : Int, cellH h ⟨a3.block, a3.off + 1, none⟩ = some (.int .i64 x4) ∧
    R (.tuple #[.slice none 0 0, .int .i64 x4]) h)
  (VSome a0w fun a5 =>
    ∃ (a6 : Option Addr) (la6 ca6 : Nat), cellH h a5 = some (.slice a6 la6 ca6) ∧
    cond (decide ((la6 : Int) > (65528 : Int)))
    (R (.tuple #[.slice none 0 0, .int .i64 2]) h)
    (VSome a0w fun a7 =>
      ∃ (a8 : Option Addr) (la8 ca8 : Nat), cellH h a7 = some (.slice a8 la8 ca8) ∧
      R (.tuple #[.slice a8 la8 ca8, .int .i64 0]) h))
theorem vf28 (a0w : Option Addr) (h : Heap) (R : KV) (hF : F28 a0w h R) : CallsH Tryd.prog 28 #[.pointer a0w] h R :=
  calls_of_form (A := an28) (fn := Tryd.f28) (c := c28) (args := [.pointer a0w]) Tryd.func28 (by kernel_rfl) mixed (by kernel_rfl) (by kernel_rfl : F28 a0w h R = vcF Tryd.prog an28 Tryd.f28 c28 [.pointer a0w] h R) hF
/-! ### 29 (refrain/proto.reader).one -/
noncomputable def c29 : Code := match Tryd.f29.body with | some c => c | none => .skip
noncomputable def an29 : Ann := { loops := fun i => [], draws := fun i => #[], joins := fun i => none }
def F29 (a0r : Option Addr) (h : Heap) (R : KV) : Prop :=
  CallsH Tryd.prog 77 #[.pointer a0r, .int .i64 1] h fun v1 h2 =>
  ∃ (a3 : Option Addr) (la3 ca3 : Nat), v1 = .slice a3 la3 ca3 ∧
  cond ((la3 : Int) == (1 : Int))
  (VIdx a3 la3 0 1 fun a4 =>
    ∃ x5 : Int, cellH h2 a4 = some (.int .u8 x5) ∧
    R (.int .u8 x5) h2)
  (R (.int .u8 0) h2)
theorem vf29 (a0r : Option Addr) (h : Heap) (R : KV) (hF : F29 a0r h R) : CallsH Tryd.prog 29 #[.pointer a0r] h R :=
  calls_of_form (A := an29) (fn := Tryd.f29) (c := c29) (args := [.pointer a0r]) Tryd.func29 (by kernel_rfl) mixed (by kernel_rfl) (by kernel_rfl : F29 a0r h R = vcF Tryd.prog an29 Tryd.f29 c29 [.pointer a0r] h R) hF
/-! ### 30 (refrain/proto.reader).id -/
noncomputable def c30 : Code := match Tryd.f30.body with | some c => c | none => .skip
noncomputable def an30 : Ann := { loops := fun i => [], draws := fun i => #[], joins := fun i => none }
def F30 (a0r : Option Addr) (h : Heap) (R : KV) : Prop :=
  CallsH Tryd.prog 77 #[.pointer a0r, .int .i64 4] h fun v1 h2 =>
  ∃ (a3 : Option Addr) (la3 ca3 : Nat), v1 = .slice a3 la3 ca3 ∧
  cond ((la3 : Int) == (4 : Int))
  (CallsH Tryd.prog 78 #[.slice a3 la3 ca3] h2 fun v4 h5 =>
    ∃ x6 : Int, v4 = .int .u32 x6 ∧
    R (.int .u32 x6) h5)
  (R (.int .u32 0) h2)
theorem vf30 (a0r : Option Addr) (h : Heap) (R : KV) (hF : F30 a0r h R) : CallsH Tryd.prog 30 #[.pointer a0r] h R :=
  calls_of_form (A := an30) (fn := Tryd.f30) (c := c30) (args := [.pointer a0r]) Tryd.func30 (by kernel_rfl) mixed (by kernel_rfl) (by kernel_rfl : F30 a0r h R = vcF Tryd.prog an30 Tryd.f30 c30 [.pointer a0r] h R) hF
/-! ### 31 refrain/refrainlaw30.sameTexts -/
noncomputable def c31 : Code := match Tryd.f31.body with | some c => c | none => .skip
noncomputable def an31 : Ann := { loops := fun i => match i with | 4 => [(4, .bool), (5, .int .i64)] | _ => [], draws := fun i => match i with | 6 => #[0, 0, 3, 7, 0, 0, 48, 112, 255] | _ => #[], joins := fun i => none }
def F31 (a0a : Option Addr) (la0a ca0a : Nat) (a1b : Option Addr) (la1b ca1b : Nat) (h : Heap) (R : KV) : Prop :=
  cond ((la0a : Int) != (la1b : Int))
  (R (.bool false) h)
  (∃ I1 : Nat → Heap → Bool → Int → Prop, (∃ n2, I1 n2 h false 0) ∧
    ∀ (n2 : Nat) (h3 : Heap) (g4 : Env) (y_5 : Bool) (i_6 : Int), I1 n2 h3 y_5 i_6 →
    cond (decide (i_6 < (la0a : Int)))
    (VIdx a0a la0a i_6 1 fun a8 =>
      ∃ s9 : ByteArray, cellH h3 a8 = some (.string s9) ∧
      VIdx a1b la1b i_6 1 fun a10 =>
      ∃ s11 : ByteArray, cellH h3 a10 = some (.string s11) ∧
      cond (!strEq s9 s11)
      (R (.bool false) h3)
      (∃ m7, m7 < n2 ∧ I1 m7 h3 y_5 (IntKind.i64.wrap (i_6 + 1))))
    (R (.bool true) h3))
theorem vf31 (a0a : Option Addr) (la0a ca0a : Nat) (a1b : Option Addr) (la1b ca1b : Nat) (h : Heap) (R : KV) (hF : F31 a0a la0a ca0a a1b la1b ca1b h R) : CallsH Tryd.prog 31 #[.slice a0a la0a ca0a, .slice a1b la1b ca1b] h R :=
  calls_of_form (A := an31) (fn := Tryd.f31) (c := c31) (args := [.slice a0a la0a ca0a, .slice a1b la1b ca1b]) Tryd.func31 (by kernel_rfl) mixed (by kernel_rfl) (by kernel_rfl : F31 a0a la0a ca0a a1b la1b ca1b h R = vcF Tryd.prog an31 Tryd.f31 c31 [.slice a0a la0a ca0a, .slice a1b la1b ca1b] h R) hF
/-! ### 32 refrain/refrainlaw30.sameEvents -/
noncomputable def c32 : Code := match Tryd.f32.body with | some c => c | none => .skip
noncomputable def an32 : Ann := { loops := fun i => match i with | 4 => [(4, .bool), (5, .int .i64)] | _ => [], draws := fun i => match i with | 6 => #[0, 0, 3, 7, 15, 0, 0, 96, 224, 480, 1023, 2047] | 7 => #[0, 1, 3, 7, 7, 31, 63, 127, 7, 7, 775, 1799, 3847, 8191, 16383, 32767, 65535, 65535, 262143, 524287, 1048575, 65535, 65535, 6356991, 14745599, 31522815, 67108863, 134217727] | _ => #[], joins := fun i => none }
def F32 (a0a : Option Addr) (la0a ca0a : Nat) (a1b : Option Addr) (la1b ca1b : Nat) (h : Heap) (R : KV) : Prop :=
  cond ((la0a : Int) != (la1b : Int))
  (R (.bool false) h)
  (∃ I1 : Nat → Heap → Bool → Int → Prop, (∃ n2, I1 n2 h false 0) ∧
    ∀ (n2 : Nat) (h3 : Heap) (g4 : Env) (y_5 : Bool) (i_6 : Int), I1 n2 h3 y_5 i_6 →
    cond (decide (i_6 < (la0a : Int)))
    (VIdx a0a la0a i_6 3 fun a8 =>
      ∃ (a9 : Option Addr) (la9 ca9 : Nat), cellH h3 ⟨a8.block, a8.off + 2, none⟩ = some (.slice a9 la9 ca9) ∧
      VIdx a1b la1b i_6 3 fun a10 =>
      ∃ (a11 : Option Addr) (la11 ca11 : Nat), cellH h3 ⟨a10.block, a10.off + 2, none⟩ = some (.slice a11 la11 ca11) ∧
      CallsH Tryd.prog 53 #[.slice a9 la9 ca9, .slice a11 la11 ca11] h3 fun v12 h13 =>
      ∃ b14 : Bool, v12 = .bool b14 ∧
      cond (!b14) (R (.bool false) h13) (VIdx a0a la0a i_6 3 fun a15 =>
        ∃ s16 : ByteArray, cellH h13 a15 = some (.string s16) ∧
        VIdx a1b la1b i_6 3 fun a17 =>
        ∃ s18 : ByteArray, cellH h13 a17 = some (.string s18) ∧
        cond (!strEq s16 s18) (R (.bool false) h13) (VIdx a0a la0a i_6 3 fun a19 =>
          ∃ x20 : Int, cellH h13 ⟨a19.block, a19.off + 1, none⟩ = some (.int .i64 x20) ∧
          VIdx a1b la1b i_6 3 fun a21 =>
          ∃ x22 : Int, cellH h13 ⟨a21.block, a21.off + 1, none⟩ = some (.int .i64 x22) ∧
          cond (x20 != x22)
          (R (.bool false) h13)
          (∃ m7, m7 < n2 ∧ I1 m7 h13 y_5 (IntKind.i64.wrap (i_6 + 1))))))
    (R (.bool true) h3))
theorem vf32 (a0a : Option Addr) (la0a ca0a : Nat) (a1b : Option Addr) (la1b ca1b : Nat) (h : Heap) (R : KV) (hF : F32 a0a la0a ca0a a1b la1b ca1b h R) : CallsH Tryd.prog 32 #[.slice a0a la0a ca0a, .slice a1b la1b ca1b] h R :=
  calls_of_form (A := an32) (fn := Tryd.f32) (c := c32) (args := [.slice a0a la0a ca0a, .slice a1b la1b ca1b]) Tryd.func32 (by kernel_rfl) mixed (by kernel_rfl) (by kernel_rfl : F32 a0a la0a ca0a a1b la1b ca1b h R = vcF Tryd.prog an32 Tryd.f32 c32 [.slice a0a la0a ca0a, .slice a1b la1b ca1b] h R) hF
/-! ### 33 (refrain/proto.writer).truth -/
noncomputable def c33 : Code := match Tryd.f33.body with | some c => c | none => .skip
noncomputable def an33 : Ann := { loops := fun i => [], draws := fun i => #[], joins := fun i => none }
def F33 (a0w : Option Addr) (a1t : Bool) (h : Heap) (R : KV) : Prop :=
  cond a1t
  (VSome a0w fun a1 =>
    ∃ (a2 : Option Addr) (la2 ca2 : Nat), cellH h a1 = some (.slice a2 la2 ca2) ∧
    VNew h (.cells #[.int .u8 1] 5) fun b3 h4 =>
    RunsTo Tryd.prog (Builtin.append_ #[35, 35] 35 #[.slice a2 la2 ca2, .slice (some ⟨b3, 0, none⟩) 1 1]) h4 fun v5 h6 =>
    ∃ (a7 : Option Addr) (la7 ca7 : Nat), v5 = .slice a7 la7 ca7 ∧
    VSome a0w fun a8 =>
    VStore h6 a8 (.slice a7 la7 ca7) fun h9 =>
    R (.tuple #[]) h9)
  (VSome a0w fun a10 =>
    ∃ (a11 : Option Addr) (la11 ca11 : Nat), cellH h a10 = some (.slice a11 la11 ca11) ∧
    VNew h (.cells #[.int .u8 0] 5) fun b12 h13 =>
    RunsTo Tryd.prog (Builtin.append_ #[35, 35] 35 #[.slice a11 la11 ca11, .slice (some ⟨b12, 0, none⟩) 1 1]) h13 fun v14 h15 =>
    ∃ (a16 : Option Addr) (la16 ca16 : Nat), v14 = .slice a16 la16 ca16 ∧
    VSome a0w fun a17 =>
    VStore h15 a17 (.slice a16 la16 ca16) fun h18 =>
    R (.tuple #[]) h18)
theorem vf33 (a0w : Option Addr) (a1t : Bool) (h : Heap) (R : KV) (hF : F33 a0w a1t h R) : CallsH Tryd.prog 33 #[.pointer a0w, .bool a1t] h R :=
  calls_of_form (A := an33) (fn := Tryd.f33) (c := c33) (args := [.pointer a0w, .bool a1t]) Tryd.func33 (by kernel_rfl) mixed (by kernel_rfl) (by kernel_rfl : F33 a0w a1t h R = vcF Tryd.prog an33 Tryd.f33 c33 [.pointer a0w, .bool a1t] h R) hF
/-! ### 34 (refrain/proto.writer).number -/
noncomputable def c34 : Code := match Tryd.f34.body with | some c => c | none => .skip
noncomputable def an34 : Ann := { loops := fun i => [], draws := fun i => match i with | 0 => #[0, 0, 2, 6, 14, 0, 32, 126, 255, 511, 1023] | _ => #[], joins := fun i => none }
def F34 (a0w : Option Addr) (a1n : Int) (h : Heap) (R : KV) : Prop :=
  VSome a0w fun a1 =>
  ∃ (a2 : Option Addr) (la2 ca2 : Nat), cellH h a1 = some (.slice a2 la2 ca2) ∧
  CallsH Tryd.prog 79 #[.int .i64 a1n] h fun v3 h4 =>
  ∃ (a5 : Option Addr) (la5 ca5 : Nat), v3 = .slice a5 la5 ca5 ∧
  (cellH h4 a1 = some (.slice a2 la2 ca2)) ∧
  RunsTo Tryd.prog (Builtin.append_ #[35, 35] 35 #[.slice a2 la2 ca2, .slice a5 la5 ca5]) h4 fun v6 h7 =>
  ∃ (a8 : Option Addr) (la8 ca8 : Nat), v6 = .slice a8 la8 ca8 ∧
  VSome a0w fun a9 =>
  VStore h7 a9 (.slice a8 la8 ca8) fun h10 =>
  R (.tuple #[]) h10
theorem vf34 (a0w : Option Addr) (a1n : Int) (h : Heap) (R : KV) (hF : F34 a0w a1n h R) : CallsH Tryd.prog 34 #[.pointer a0w, .int .i64 a1n] h R :=
  calls_of_form (A := an34) (fn := Tryd.f34) (c := c34) (args := [.pointer a0w, .int .i64 a1n]) Tryd.func34 (by kernel_rfl) mixed (by kernel_rfl) (by kernel_rfl : F34 a0w a1n h R = vcF Tryd.prog an34 Tryd.f34 c34 [.pointer a0w, .int .i64 a1n] h R) hF
/-! ### 35 refrain/proto.writeList[refrain/api.Errno] -/
noncomputable def c35 : Code := match Tryd.f35.body with | some c => c | none => .skip
noncomputable def an35 : Ann := { loops := fun i => match i with | 2 => [(14, .int .i64)] | _ => [], draws := fun i => #[], joins := fun i => none }
def F35 (a0w : Option Addr) (a1l : Option Addr) (la1l ca1l : Nat) (p2c0 : Option Addr) (h : Heap) (R : KV) : Prop :=
  CallsH Tryd.prog 34 #[.pointer a0w, .int .i64 (la1l : Int)] h fun v1 h2 =>
  v1 = .tuple #[] ∧
  ∃ I3 : Nat → Heap → Int → Prop, (∃ n4, I3 n4 h2 0) ∧
  ∀ (n4 : Nat) (h5 : Heap) (g6 : Env) (y_7 : Int), I3 n4 h5 y_7 →
  cond (decide (y_7 < (la1l : Int)))
  (VIdx a1l la1l y_7 1 fun a9 =>
    ∃ x10 : Int, cellH h5 a9 = some (.int .i64 x10) ∧
    CallsH Tryd.prog 36 #[.int .i64 x10, .pointer p2c0] h5 fun v11 h12 =>
    v11 = .tuple #[] ∧
    ∃ m8, m8 < n4 ∧ I3 m8 h12 (IntKind.i64.wrap (y_7 + 1)))
  (R (.tuple #[]) h5)
theorem vf35 (a0w : Option Addr) (a1l : Option Addr) (la1l ca1l : Nat) (p2c0 : Option Addr) (h : Heap) (R : KV) (hF : F35 a0w a1l la1l ca1l p2c0 h R) : CallsH Tryd.prog 35 #[.pointer a0w, .slice a1l la1l ca1l, .func (.func 36) #[] #[.pointer p2c0]] h R :=
  calls_of_form (A := an35) (fn := Tryd.f35) (c := c35) (args := [.pointer a0w, .slice a1l la1l ca1l, .func (.func 36) #[] #[.pointer p2c0]]) Tryd.func35 (by kernel_rfl) mixed (by kernel_rfl) (by kernel_rfl : F35 a0w a1l la1l ca1l p2c0 h R = vcF Tryd.prog an35 Tryd.f35 c35 [.pointer a0w, .slice a1l la1l ca1l, .func (.func 36) #[] #[.pointer p2c0]] h R) hF
/-! ### 36 refrain/proto.Tell$1 -/
noncomputable def c36 : Code := match Tryd.f36.body with | some c => c | none => .skip
noncomputable def an36 : Ann := { loops := fun i => [], draws := fun i => #[], joins := fun i => none }
def F36 (a0e : Int) (k0 : Option Addr) (h : Heap) (R : KV) : Prop :=
  VSome k0 fun a1 =>
  ∃ p2 : Option Addr, cellH h a1 = some (.pointer p2) ∧
  CallsH Tryd.prog 34 #[.pointer p2, .int .i64 a0e] h fun v3 h4 =>
  v3 = .tuple #[] ∧
  R (.tuple #[]) h4
theorem vf36 (a0e : Int) (k0 : Option Addr) (h : Heap) (R : KV) (hF : F36 a0e k0 h R) : CallsH Tryd.prog 36 #[.int .i64 a0e, .pointer k0] h R :=
  calls_of_form (A := an36) (fn := Tryd.f36) (c := c36) (args := [.int .i64 a0e, .pointer k0]) Tryd.func36 (by kernel_rfl) mixed (by kernel_rfl) (by kernel_rfl : F36 a0e k0 h R = vcF Tryd.prog an36 Tryd.f36 c36 [.int .i64 a0e, .pointer k0] h R) hF
/-! ### 37 refrain/proto.writeList[refrain/api.Hit] -/
noncomputable def c37 : Code := match Tryd.f37.body with | some c => c | none => .skip
noncomputable def an37 : Ann := { loops := fun i => match i with | 2 => [(14, .int .i64)] | _ => [], draws := fun i => #[], joins := fun i => none }
def F37 (a0w : Option Addr) (a1l : Option Addr) (la1l ca1l : Nat) (p2f0 : Option Addr) (h : Heap) (R : KV) : Prop :=
  CallsH Tryd.prog 34 #[.pointer a0w, .int .i64 (la1l : Int)] h fun v1 h2 =>
  v1 = .tuple #[] ∧
  ∃ I3 : Nat → Heap → Int → Prop, (∃ n4, I3 n4 h2 0) ∧
  ∀ (n4 : Nat) (h5 : Heap) (g6 : Env) (y_7 : Int), I3 n4 h5 y_7 →
  cond (decide (y_7 < (la1l : Int)))
  (VIdx a1l la1l y_7 2 fun a9 =>
    ∃ s10 : ByteArray, cellH h5 a9 = some (.string s10) ∧
    ∃ (a11 : Option Addr) (la11 ca11 : Nat), cellH h5 ⟨a9.block, a9.off + 1, none⟩ = some (.slice a11 la11 ca11) ∧
    VNew h5 (.cells #[.string (ByteArray.mk #[]), .slice none 0 0] 100) fun b12 h13 =>
    storeL ⟨b12, 0, none⟩ 0 [.string s10, .slice a11 la11 ca11] h13 fun h14 =>
    ∃ s15 : ByteArray, cellH h14 ⟨b12, 0, none⟩ = some (.string s15) ∧
    ∃ (a16 : Option Addr) (la16 ca16 : Nat), cellH h14 ⟨b12, 1, none⟩ = some (.slice a16 la16 ca16) ∧
    CallsH Tryd.prog 38 #[.pointer p2f0, .agg #[.string s15, .slice a16 la16 ca16]] h14 fun v17 h18 =>
    v17 = .tuple #[] ∧
    ∃ m8, m8 < n4 ∧ I3 m8 h18 (IntKind.i64.wrap (y_7 + 1)))
  (R (.tuple #[]) h5)
theorem vf37 (a0w : Option Addr) (a1l : Option Addr) (la1l ca1l : Nat) (p2f0 : Option Addr) (h : Heap) (R : KV) (hF : F37 a0w a1l la1l ca1l p2f0 h R) : CallsH Tryd.prog 37 #[.pointer a0w, .slice a1l la1l ca1l, .func (.func 38) #[.pointer p2f0] #[]] h R :=
  calls_of_form (A := an37) (fn := Tryd.f37) (c := c37) (args := [.pointer a0w, .slice a1l la1l ca1l, .func (.func 38) #[.pointer p2f0] #[]]) Tryd.func37 (by kernel_rfl) mixed (by kernel_rfl) (by kernel_rfl : F37 a0w a1l la1l ca1l p2f0 h R = vcF Tryd.prog an37 Tryd.f37 c37 [.pointer a0w, .slice a1l la1l ca1l, .func (.func 38) #[.pointer p2f0] #[]] h R) hF
/-! ### 38 (refrain/proto.writer).hit -/
noncomputable def c38 : Code := match Tryd.f38.body with | some c => c | none => .skip
noncomputable def an38 : Ann := { loops := fun i => [], draws := fun i => #[], joins := fun i => none }
def F38 (a0w : Option Addr) (a1x_0 : ByteArray) (a1x_1 : Option Addr) (la1x_1 ca1x_1 : Nat) (h : Heap) (R : KV) : Prop :=
  VNew h (.cells #[.string a1x_0, .slice a1x_1 la1x_1 ca1x_1] 100) fun b1 h2 =>
  ∃ s3 : ByteArray, cellH h2 ⟨b1, 0, none⟩ = some (.string s3) ∧
  CallsH Tryd.prog 40 #[.pointer a0w, .string s3] h2 fun v4 h5 =>
  v4 = .tuple #[] ∧
  ∃ (a6 : Option Addr) (la6 ca6 : Nat), cellH h5 ⟨b1, 1, none⟩ = some (.slice a6 la6 ca6) ∧
  CallsH Tryd.prog 42 #[.pointer a0w, .slice a6 la6 ca6] h5 fun v7 h8 =>
  v7 = .tuple #[] ∧
  R (.tuple #[]) h8
theorem vf38 (a0w : Option Addr) (a1x_0 : ByteArray) (a1x_1 : Option Addr) (la1x_1 ca1x_1 : Nat) (h : Heap) (R : KV) (hF : F38 a0w a1x_0 a1x_1 la1x_1 ca1x_1 h R) : CallsH Tryd.prog 38 #[.pointer a0w, .agg #[.string a1x_0, .slice a1x_1 la1x_1 ca1x_1]] h R :=
  calls_of_form (A := an38) (fn := Tryd.f38) (c := c38) (args := [.pointer a0w, .agg #[.string a1x_0, .slice a1x_1 la1x_1 ca1x_1]]) Tryd.func38 (by kernel_rfl) mixed (by kernel_rfl) (by kernel_rfl : F38 a0w a1x_0 a1x_1 la1x_1 ca1x_1 h R = vcF Tryd.prog an38 Tryd.f38 c38 [.pointer a0w, .agg #[.string a1x_0, .slice a1x_1 la1x_1 ca1x_1]] h R) hF
/-! ### 39 refrain/proto.writeList[string] -/
noncomputable def c39 : Code := match Tryd.f39.body with | some c => c | none => .skip
noncomputable def an39 : Ann := { loops := fun i => match i with | 2 => [(14, .int .i64)] | _ => [], draws := fun i => #[], joins := fun i => none }
def F39 (a0w : Option Addr) (a1l : Option Addr) (la1l ca1l : Nat) (p2f0 : Option Addr) (h : Heap) (R : KV) : Prop :=
  CallsH Tryd.prog 34 #[.pointer a0w, .int .i64 (la1l : Int)] h fun v1 h2 =>
  v1 = .tuple #[] ∧
  ∃ I3 : Nat → Heap → Int → Prop, (∃ n4, I3 n4 h2 0) ∧
  ∀ (n4 : Nat) (h5 : Heap) (g6 : Env) (y_7 : Int), I3 n4 h5 y_7 →
  cond (decide (y_7 < (la1l : Int)))
  (VIdx a1l la1l y_7 1 fun a9 =>
    ∃ s10 : ByteArray, cellH h5 a9 = some (.string s10) ∧
    CallsH Tryd.prog 40 #[.pointer p2f0, .string s10] h5 fun v11 h12 =>
    v11 = .tuple #[] ∧
    ∃ m8, m8 < n4 ∧ I3 m8 h12 (IntKind.i64.wrap (y_7 + 1)))
  (R (.tuple #[]) h5)
theorem vf39 (a0w : Option Addr) (a1l : Option Addr) (la1l ca1l : Nat) (p2f0 : Option Addr) (h : Heap) (R : KV) (hF : F39 a0w a1l la1l ca1l p2f0 h R) : CallsH Tryd.prog 39 #[.pointer a0w, .slice a1l la1l ca1l, .func (.func 40) #[.pointer p2f0] #[]] h R :=
  calls_of_form (A := an39) (fn := Tryd.f39) (c := c39) (args := [.pointer a0w, .slice a1l la1l ca1l, .func (.func 40) #[.pointer p2f0] #[]]) Tryd.func39 (by kernel_rfl) mixed (by kernel_rfl) (by kernel_rfl : F39 a0w a1l la1l ca1l p2f0 h R = vcF Tryd.prog an39 Tryd.f39 c39 [.pointer a0w, .slice a1l la1l ca1l, .func (.func 40) #[.pointer p2f0] #[]] h R) hF
/-! ### 40 (refrain/proto.writer).text -/
noncomputable def c40 : Code := match Tryd.f40.body with | some c => c | none => .skip
noncomputable def an40 : Ann := { loops := fun i => [], draws := fun i => #[], joins := fun i => none }
def F40 (a0w : Option Addr) (a1s : ByteArray) (h : Heap) (R : KV) : Prop :=
  CallsH Tryd.prog 34 #[.pointer a0w, .int .i64 (a1s.size : Int)] h fun v1 h2 =>
  v1 = .tuple #[] ∧
  VSome a0w fun a3 =>
  ∃ (a4 : Option Addr) (la4 ca4 : Nat), cellH h2 a3 = some (.slice a4 la4 ca4) ∧
  RunsTo Tryd.prog (Builtin.append_ #[35, 9] 35 #[.slice a4 la4 ca4, .string a1s]) h2 fun v5 h6 =>
  ∃ (a7 : Option Addr) (la7 ca7 : Nat), v5 = .slice a7 la7 ca7 ∧
  VSome a0w fun a8 =>
  VStore h6 a8 (.slice a7 la7 ca7) fun h9 =>
  R (.tuple #[]) h9
theorem vf40 (a0w : Option Addr) (a1s : ByteArray) (h : Heap) (R : KV) (hF : F40 a0w a1s h R) : CallsH Tryd.prog 40 #[.pointer a0w, .string a1s] h R :=
  calls_of_form (A := an40) (fn := Tryd.f40) (c := c40) (args := [.pointer a0w, .string a1s]) Tryd.func40 (by kernel_rfl) mixed (by kernel_rfl) (by kernel_rfl : F40 a0w a1s h R = vcF Tryd.prog an40 Tryd.f40 c40 [.pointer a0w, .string a1s] h R) hF
/-! ### 41 refrain/proto.writeList[[]refrain/api.Value] -/
noncomputable def c41 : Code := match Tryd.f41.body with | some c => c | none => .skip
noncomputable def an41 : Ann := { loops := fun i => match i with | 2 => [(14, .int .i64)] | _ => [], draws := fun i => #[], joins := fun i => none }
def F41 (a0w : Option Addr) (a1l : Option Addr) (la1l ca1l : Nat) (p2f0 : Option Addr) (h : Heap) (R : KV) : Prop :=
  CallsH Tryd.prog 34 #[.pointer a0w, .int .i64 (la1l : Int)] h fun v1 h2 =>
  v1 = .tuple #[] ∧
  ∃ I3 : Nat → Heap → Int → Prop, (∃ n4, I3 n4 h2 0) ∧
  ∀ (n4 : Nat) (h5 : Heap) (g6 : Env) (y_7 : Int), I3 n4 h5 y_7 →
  cond (decide (y_7 < (la1l : Int)))
  (VIdx a1l la1l y_7 1 fun a9 =>
    ∃ (a10 : Option Addr) (la10 ca10 : Nat), cellH h5 a9 = some (.slice a10 la10 ca10) ∧
    CallsH Tryd.prog 42 #[.pointer p2f0, .slice a10 la10 ca10] h5 fun v11 h12 =>
    v11 = .tuple #[] ∧
    ∃ m8, m8 < n4 ∧ I3 m8 h12 (IntKind.i64.wrap (y_7 + 1)))
  (R (.tuple #[]) h5)
theorem vf41 (a0w : Option Addr) (a1l : Option Addr) (la1l ca1l : Nat) (p2f0 : Option Addr) (h : Heap) (R : KV) (hF : F41 a0w a1l la1l ca1l p2f0 h R) : CallsH Tryd.prog 41 #[.pointer a0w, .slice a1l la1l ca1l, .func (.func 42) #[.pointer p2f0] #[]] h R :=
  calls_of_form (A := an41) (fn := Tryd.f41) (c := c41) (args := [.pointer a0w, .slice a1l la1l ca1l, .func (.func 42) #[.pointer p2f0] #[]]) Tryd.func41 (by kernel_rfl) mixed (by kernel_rfl) (by kernel_rfl : F41 a0w a1l la1l ca1l p2f0 h R = vcF Tryd.prog an41 Tryd.f41 c41 [.pointer a0w, .slice a1l la1l ca1l, .func (.func 42) #[.pointer p2f0] #[]] h R) hF
/-! ### 42 (refrain/proto.writer).row -/
noncomputable def c42 : Code := match Tryd.f42.body with | some c => c | none => .skip
noncomputable def an42 : Ann := { loops := fun i => [], draws := fun i => #[], joins := fun i => none }
def F42 (a0w : Option Addr) (a1l : Option Addr) (la1l ca1l : Nat) (h : Heap) (R : KV) : Prop :=
  CallsH Tryd.prog 80 #[.pointer a0w, .slice a1l la1l ca1l, .func (.func 81) #[.pointer a0w] #[]] h fun v1 h2 =>
  v1 = .tuple #[] ∧
  R (.tuple #[]) h2
theorem vf42 (a0w : Option Addr) (a1l : Option Addr) (la1l ca1l : Nat) (h : Heap) (R : KV) (hF : F42 a0w a1l la1l ca1l h R) : CallsH Tryd.prog 42 #[.pointer a0w, .slice a1l la1l ca1l] h R :=
  calls_of_form (A := an42) (fn := Tryd.f42) (c := c42) (args := [.pointer a0w, .slice a1l la1l ca1l]) Tryd.func42 (by kernel_rfl) mixed (by kernel_rfl) (by kernel_rfl : F42 a0w a1l la1l ca1l h R = vcF Tryd.prog an42 Tryd.f42 c42 [.pointer a0w, .slice a1l la1l ca1l] h R) hF
/-! ### 43 (refrain/proto.reader).truth -/
noncomputable def c43 : Code := match Tryd.f43.body with | some c => c | none => .skip
noncomputable def an43 : Ann := { loops := fun i => [], draws := fun i => #[], joins := fun i => none }
def F43 (a0r : Option Addr) (h : Heap) (R : KV) : Prop :=
  CallsH Tryd.prog 29 #[.pointer a0r] h fun v1 h2 =>
  ∃ x3 : Int, v1 = .int .u8 x3 ∧
  VSome a0r fun a4 =>
  ∃ b5 : Bool, cellH h2 ⟨a4.block, a4.off + 1, none⟩ = some (.bool b5) ∧
  cond b5 (VSome a0r fun a6 =>
    VStore h2 ⟨a6.block, a6.off + 1, none⟩ (.bool true) fun h7 =>
    R (.bool (x3 == (1 : Int))) h7) (VSome a0r fun a8 =>
    VStore h2 ⟨a8.block, a8.off + 1, none⟩ (.bool (decide (x3 > (1 : Int)))) fun h9 =>
    R (.bool (x3 == (1 : Int))) h9)
theorem vf43 (a0r : Option Addr) (h : Heap) (R : KV) (hF : F43 a0r h R) : CallsH Tryd.prog 43 #[.pointer a0r] h R :=
  calls_of_form (A := an43) (fn := Tryd.f43) (c := c43) (args := [.pointer a0r]) Tryd.func43 (by kernel_rfl) mixed (by kernel_rfl) (by kernel_rfl : F43 a0r h R = vcF Tryd.prog an43 Tryd.f43 c43 [.pointer a0r] h R) hF
/-! ### 44 (refrain/proto.reader).number -/
noncomputable def c44 : Code := match Tryd.f44.body with | some c => c | none => .skip
noncomputable def an44 : Ann := { loops := fun i => [], draws := fun i => #[], joins := fun i => none }
def F44 (a0r : Option Addr) (h : Heap) (R : KV) : Prop :=
  VSome a0r fun a1 =>
  ∃ b2 : Bool, cellH h ⟨a1.block, a1.off + 1, none⟩ = some (.bool b2) ∧
  cond b2
  (R (.int .i64 0) h)
  (VSome a0r fun a3 =>
    ∃ (a4 : Option Addr) (la4 ca4 : Nat), cellH h a3 = some (.slice a4 la4 ca4) ∧
    CallsH Tryd.prog 82 #[.slice a4 la4 ca4] h fun v5 h6 =>
    ∃ x7 : Int, ∃ x8 : Int, ∃ x9 : Int, v5 = .tuple #[.int .i64 x7, .int .i64 x8, .int .i64 x9] ∧
    cond (x9 != (0 : Int))
    (VSome a0r fun a10 =>
      VStore h6 ⟨a10.block, a10.off + 1, none⟩ (.bool true) fun h11 =>
      R (.int .i64 0) h11)
    (VSome a0r fun a12 =>
      ∃ (a13 : Option Addr) (la13 ca13 : Nat), cellH h6 a12 = some (.slice a13 la13 ca13) ∧
      VSlice 1 a13 ca13 x8 (la13 : Int) (ca13 : Int) fun a14 la14 ca14 =>
      VSome a0r fun a15 =>
      VStore h6 a15 (.slice a14 la14 ca14) fun h16 =>
      R (.int .i64 x7) h16))
theorem vf44 (a0r : Option Addr) (h : Heap) (R : KV) (hF : F44 a0r h R) : CallsH Tryd.prog 44 #[.pointer a0r] h R :=
  calls_of_form (A := an44) (fn := Tryd.f44) (c := c44) (args := [.pointer a0r]) Tryd.func44 (by kernel_rfl) mixed (by kernel_rfl) (by kernel_rfl : F44 a0r h R = vcF Tryd.prog an44 Tryd.f44 c44 [.pointer a0r] h R) hF
/-! ### 45 refrain/proto.readList[refrain/api.Errno] -/
noncomputable def c45 : Code := match Tryd.f45.body with | some c => c | none => .skip
noncomputable def an45 : Ann := { loops := fun i => match i with | 5 => [(5, .int .i64), (6, .slc)] | _ => [], draws := fun i => #[], joins := fun i => match i with | 4 => some [] | _ => none }
def F45 (a0r : Option Addr) (p1c0 : Option Addr) (h : Heap) (R : KV) : Prop :=
  CallsH Tryd.prog 44 #[.pointer a0r] h fun v1 h2 =>
  ∃ x3 : Int, v1 = .int .i64 x3 ∧
  ∃ J4 : Heap → Prop, (cond (decide (x3 < (0 : Int))) (VSome a0r fun a5 =>
      VStore h2 ⟨a5.block, a5.off + 1, none⟩ (.bool true) fun h6 =>
      J4 h6) (VSome a0r fun a7 =>
      ∃ (a8 : Option Addr) (la8 ca8 : Nat), cellH h2 a7 = some (.slice a8 la8 ca8) ∧
      cond (decide (x3 > (la8 : Int)))
      (VSome a0r fun a9 =>
        VStore h2 ⟨a9.block, a9.off + 1, none⟩ (.bool true) fun h10 =>
        J4 h10)
      (J4 h2))) ∧
  ∀ (h11 : Heap) (g12 : Env), J4 h11 →
  ∃ I13 : Nat → Heap → Int → Option Addr → Nat → Nat → Prop, (∃ n14, I13 n14 h11 x3 none 0 0) ∧
  ∀ (n14 : Nat) (h15 : Heap) (g16 : Env) (n_17 : Int) (l_18 : Option Addr) (ll_18 cl_18 : Nat), I13 n14 h15 n_17 l_18 ll_18 cl_18 →
  cond (decide (n_17 > (0 : Int))) (VSome a0r fun a20 =>
    ∃ b21 : Bool, cellH h15 ⟨a20.block, a20.off + 1, none⟩ = some (.bool b21) ∧
    cond (!b21)
    (CallsH Tryd.prog 46 #[.pointer p1c0] h15 fun v22 h23 =>
      ∃ x24 : Int, v22 = .int .i64 x24 ∧
      ∃ x25 : Int, (.int .i64 x24 : Value) = .int .i64 x25 ∧
      VNew h23 (.cells #[.int .i64 x25] 27) fun b26 h27 =>
      RunsTo Tryd.prog (Builtin.append_ #[28, 28] 28 #[.slice l_18 ll_18 cl_18, .slice (some ⟨b26, 0, none⟩) 1 1]) h27 fun v28 h29 =>
      ∃ (a30 : Option Addr) (la30 ca30 : Nat), v28 = .slice a30 la30 ca30 ∧
      ∃ m19, m19 < n14 ∧ I13 m19 h29 (IntKind.i64.wrap (n_17 - 1)) a30 la30 ca30)
    (R (.slice l_18 ll_18 cl_18) h15)) (R (.slice l_18 ll_18 cl_18) h15)
theorem vf45 (a0r : Option Addr) (p1c0 : Option Addr) (h : Heap) (R : KV) (hF : F45 a0r p1c0 h R) : CallsH Tryd.prog 45 #[.pointer a0r, .func (.func 46) #[] #[.pointer p1c0]] h R :=
  calls_of_form (A := an45) (fn := Tryd.f45) (c := c45) (args := [.pointer a0r, .func (.func 46) #[] #[.pointer p1c0]]) Tryd.func45 (by kernel_rfl) mixed (by kernel_rfl) (by kernel_rfl : F45 a0r p1c0 h R = vcF Tryd.prog an45 Tryd.f45 c45 [.pointer a0r, .func (.func 46) #[] #[.pointer p1c0]] h R) hF
/-! ### 46 refrain/proto.Told$1 -/
noncomputable def c46 : Code := match Tryd.f46.body with | some c => c | none => .skip
noncomputable def an46 : Ann := { loops := fun i => [], draws := fun i => #[], joins := fun i => none }
def F46 (k0 : Option Addr) (h : Heap) (R : KV) : Prop :=
  VSome k0 fun a1 =>
  ∃ p2 : Option Addr, cellH h a1 = some (.pointer p2) ∧
  CallsH Tryd.prog 44 #[.pointer p2] h fun v3 h4 =>
  ∃ x5 : Int, v3 = .int .i64 x5 ∧
  R (.int .i64 x5) h4
theorem vf46 (k0 : Option Addr) (h : Heap) (R : KV) (hF : F46 k0 h R) : CallsH Tryd.prog 46 #[.pointer k0] h R :=
  calls_of_form (A := an46) (fn := Tryd.f46) (c := c46) (args := [.pointer k0]) Tryd.func46 (by kernel_rfl) mixed (by kernel_rfl) (by kernel_rfl : F46 k0 h R = vcF Tryd.prog an46 Tryd.f46 c46 [.pointer k0] h R) hF
/-! ### 47 refrain/proto.readList[refrain/api.Hit] -/
noncomputable def c47 : Code := match Tryd.f47.body with | some c => c | none => .skip
noncomputable def an47 : Ann := { loops := fun i => match i with | 5 => [(5, .int .i64), (6, .slc)] | _ => [], draws := fun i => #[], joins := fun i => match i with | 4 => some [] | _ => none }
def F47 (a0r : Option Addr) (p1f0 : Option Addr) (h : Heap) (R : KV) : Prop :=
  CallsH Tryd.prog 44 #[.pointer a0r] h fun v1 h2 =>
  ∃ x3 : Int, v1 = .int .i64 x3 ∧
  ∃ J4 : Heap → Prop, (cond (decide (x3 < (0 : Int))) (VSome a0r fun a5 =>
      VStore h2 ⟨a5.block, a5.off + 1, none⟩ (.bool true) fun h6 =>
      J4 h6) (VSome a0r fun a7 =>
      ∃ (a8 : Option Addr) (la8 ca8 : Nat), cellH h2 a7 = some (.slice a8 la8 ca8) ∧
      cond (decide (x3 > (la8 : Int)))
      (VSome a0r fun a9 =>
        VStore h2 ⟨a9.block, a9.off + 1, none⟩ (.bool true) fun h10 =>
        J4 h10)
      (J4 h2))) ∧
  ∀ (h11 : Heap) (g12 : Env), J4 h11 →
  ∃ I13 : Nat → Heap → Int → Option Addr → Nat → Nat → Prop, (∃ n14, I13 n14 h11 x3 none 0 0) ∧
  ∀ (n14 : Nat) (h15 : Heap) (g16 : Env) (n_17 : Int) (l_18 : Option Addr) (ll_18 cl_18 : Nat), I13 n14 h15 n_17 l_18 ll_18 cl_18 →
  cond (decide (n_17 > (0 : Int))) (VSome a0r fun a20 =>
    ∃ b21 : Bool, cellH h15 ⟨a20.block, a20.off + 1, none⟩ = some (.bool b21) ∧
    cond (!b21)
    (CallsH Tryd.prog 48 #[.pointer p1f0] h15 fun v22 h23 =>
      ∃ s24 : ByteArray, ∃ (a25 : Option Addr) (la25 ca25 : Nat), v22 = .agg #[.string s24, .slice a25 la25 ca25] ∧
      ∃ s26 : ByteArray, ∃ (a27 : Option Addr) (la27 ca27 : Nat), (.agg #[.string s24, .slice a25 la25 ca25] : Value) = .agg #[.string s26, .slice a27 la27 ca27] ∧
      VNew h23 (.cells #[.string s26, .slice a27 la27 ca27] 100) fun b28 h29 =>
      RunsTo Tryd.prog (Builtin.append_ #[29, 29] 29 #[.slice l_18 ll_18 cl_18, .slice (some ⟨b28, 0, none⟩) 1 1]) h29 fun v30 h31 =>
      ∃ (a32 : Option Addr) (la32 ca32 : Nat), v30 = .slice a32 la32 ca32 ∧
      ∃ m19, m19 < n14 ∧ I13 m19 h31 (IntKind.i64.wrap (n_17 - 1)) a32 la32 ca32)
    (R (.slice l_18 ll_18 cl_18) h15)) (R (.slice l_18 ll_18 cl_18) h15)
theorem vf47 (a0r : Option Addr) (p1f0 : Option Addr) (h : Heap) (R : KV) (hF : F47 a0r p1f0 h R) : CallsH Tryd.prog 47 #[.pointer a0r, .func (.func 48) #[.pointer p1f0] #[]] h R :=
  calls_of_form (A := an47) (fn := Tryd.f47) (c := c47) (args := [.pointer a0r, .func (.func 48) #[.pointer p1f0] #[]]) Tryd.func47 (by kernel_rfl) mixed (by kernel_rfl) (by kernel_rfl : F47 a0r p1f0 h R = vcF Tryd.prog an47 Tryd.f47 c47 [.pointer a0r, .func (.func 48) #[.pointer p1f0] #[]] h R) hF
/-! ### 48 (refrain/proto.reader).hit -/
noncomputable def c48 : Code := match Tryd.f48.body with | some c => c | none => .skip
noncomputable def an48 : Ann := { loops := fun i => [], draws := fun i => #[], joins := fun i => none }
def F48 (a0r : Option Addr) (h : Heap) (R : KV) : Prop :=
  VNew h (.cells #[.string (ByteArray.mk #[]), .slice none 0 0] 100) fun b1 h2 =>
  CallsH Tryd.prog 50 #[.pointer a0r] h2 fun v3 h4 =>
  ∃ s5 : ByteArray, v3 = .string s5 ∧
  CallsH Tryd.prog 52 #[.pointer a0r] h4 fun v6 h7 =>
  ∃ (a8 : Option Addr) (la8 ca8 : Nat), v6 = .slice a8 la8 ca8 ∧
  storeL ⟨b1, 0, none⟩ 0 [.string s5, .slice a8 la8 ca8] h7 fun h9 =>
  ∃ s10 : ByteArray, cellH h9 ⟨b1, 0, none⟩ = some (.string s10) ∧
  ∃ (a11 : Option Addr) (la11 ca11 : Nat), cellH h9 ⟨b1, 1, none⟩ = some (.slice a11 la11 ca11) ∧
  R (.agg #[.string s10, .slice a11 la11 ca11]) h9
theorem vf48 (a0r : Option Addr) (h : Heap) (R : KV) (hF : F48 a0r h R) : CallsH Tryd.prog 48 #[.pointer a0r] h R :=
  calls_of_form (A := an48) (fn := Tryd.f48) (c := c48) (args := [.pointer a0r]) Tryd.func48 (by kernel_rfl) mixed (by kernel_rfl) (by kernel_rfl : F48 a0r h R = vcF Tryd.prog an48 Tryd.f48 c48 [.pointer a0r] h R) hF
/-! ### 49 refrain/proto.readList[string] -/
noncomputable def c49 : Code := match Tryd.f49.body with | some c => c | none => .skip
noncomputable def an49 : Ann := { loops := fun i => match i with | 5 => [(5, .int .i64), (6, .slc)] | _ => [], draws := fun i => #[], joins := fun i => match i with | 4 => some [] | _ => none }
def F49 (a0r : Option Addr) (p1f0 : Option Addr) (h : Heap) (R : KV) : Prop :=
  CallsH Tryd.prog 44 #[.pointer a0r] h fun v1 h2 =>
  ∃ x3 : Int, v1 = .int .i64 x3 ∧
  ∃ J4 : Heap → Prop, (cond (decide (x3 < (0 : Int))) (VSome a0r fun a5 =>
      VStore h2 ⟨a5.block, a5.off + 1, none⟩ (.bool true) fun h6 =>
      J4 h6) (VSome a0r fun a7 =>
      ∃ (a8 : Option Addr) (la8 ca8 : Nat), cellH h2 a7 = some (.slice a8 la8 ca8) ∧
      cond (decide (x3 > (la8 : Int)))
      (VSome a0r fun a9 =>
        VStore h2 ⟨a9.block, a9.off + 1, none⟩ (.bool true) fun h10 =>
        J4 h10)
      (J4 h2))) ∧
  ∀ (h11 : Heap) (g12 : Env), J4 h11 →
  ∃ I13 : Nat → Heap → Int → Option Addr → Nat → Nat → Prop, (∃ n14, I13 n14 h11 x3 none 0 0) ∧
  ∀ (n14 : Nat) (h15 : Heap) (g16 : Env) (n_17 : Int) (l_18 : Option Addr) (ll_18 cl_18 : Nat), I13 n14 h15 n_17 l_18 ll_18 cl_18 →
  cond (decide (n_17 > (0 : Int))) (VSome a0r fun a20 =>
    ∃ b21 : Bool, cellH h15 ⟨a20.block, a20.off + 1, none⟩ = some (.bool b21) ∧
    cond (!b21)
    (CallsH Tryd.prog 50 #[.pointer p1f0] h15 fun v22 h23 =>
      ∃ s24 : ByteArray, v22 = .string s24 ∧
      ∃ s25 : ByteArray, (.string s24 : Value) = .string s25 ∧
      VNew h23 (.cells #[.string s25] 9) fun b26 h27 =>
      RunsTo Tryd.prog (Builtin.append_ #[23, 23] 23 #[.slice l_18 ll_18 cl_18, .slice (some ⟨b26, 0, none⟩) 1 1]) h27 fun v28 h29 =>
      ∃ (a30 : Option Addr) (la30 ca30 : Nat), v28 = .slice a30 la30 ca30 ∧
      ∃ m19, m19 < n14 ∧ I13 m19 h29 (IntKind.i64.wrap (n_17 - 1)) a30 la30 ca30)
    (R (.slice l_18 ll_18 cl_18) h15)) (R (.slice l_18 ll_18 cl_18) h15)
theorem vf49 (a0r : Option Addr) (p1f0 : Option Addr) (h : Heap) (R : KV) (hF : F49 a0r p1f0 h R) : CallsH Tryd.prog 49 #[.pointer a0r, .func (.func 50) #[.pointer p1f0] #[]] h R :=
  calls_of_form (A := an49) (fn := Tryd.f49) (c := c49) (args := [.pointer a0r, .func (.func 50) #[.pointer p1f0] #[]]) Tryd.func49 (by kernel_rfl) mixed (by kernel_rfl) (by kernel_rfl : F49 a0r p1f0 h R = vcF Tryd.prog an49 Tryd.f49 c49 [.pointer a0r, .func (.func 50) #[.pointer p1f0] #[]] h R) hF
/-! ### 50 (refrain/proto.reader).text -/
noncomputable def c50 : Code := match Tryd.f50.body with | some c => c | none => .skip
noncomputable def an50 : Ann := { loops := fun i => [], draws := fun i => #[], joins := fun i => none }
def F50 (a0r : Option Addr) (h : Heap) (R : KV) : Prop :=
  CallsH Tryd.prog 44 #[.pointer a0r] h fun v1 h2 =>
  ∃ x3 : Int, v1 = .int .i64 x3 ∧
  CallsH Tryd.prog 77 #[.pointer a0r, .int .i64 x3] h2 fun v4 h5 =>
  ∃ (a6 : Option Addr) (la6 ca6 : Nat), v4 = .slice a6 la6 ca6 ∧
  RunsTo Tryd.prog (convert 35 9 (.slice a6 la6 ca6)) h5 fun v7 h8 =>
  ∃ s9 : ByteArray, v7 = .string s9 ∧
  R (.string s9) h8
theorem vf50 (a0r : Option Addr) (h : Heap) (R : KV) (hF : F50 a0r h R) : CallsH Tryd.prog 50 #[.pointer a0r] h R :=
  calls_of_form (A := an50) (fn := Tryd.f50) (c := c50) (args := [.pointer a0r]) Tryd.func50 (by kernel_rfl) mixed (by kernel_rfl) (by kernel_rfl : F50 a0r h R = vcF Tryd.prog an50 Tryd.f50 c50 [.pointer a0r] h R) hF
/-! ### 51 refrain/proto.readList[[]refrain/api.Value] -/
noncomputable def c51 : Code := match Tryd.f51.body with | some c => c | none => .skip
noncomputable def an51 : Ann := { loops := fun i => match i with | 5 => [(5, .int .i64), (6, .slc)] | _ => [], draws := fun i => #[], joins := fun i => match i with | 4 => some [] | _ => none }
def F51 (a0r : Option Addr) (p1f0 : Option Addr) (h : Heap) (R : KV) : Prop :=
  CallsH Tryd.prog 44 #[.pointer a0r] h fun v1 h2 =>
  ∃ x3 : Int, v1 = .int .i64 x3 ∧
  ∃ J4 : Heap → Prop, (cond (decide (x3 < (0 : Int))) (VSome a0r fun a5 =>
      VStore h2 ⟨a5.block, a5.off + 1, none⟩ (.bool true) fun h6 =>
      J4 h6) (VSome a0r fun a7 =>
      ∃ (a8 : Option Addr) (la8 ca8 : Nat), cellH h2 a7 = some (.slice a8 la8 ca8) ∧
      cond (decide (x3 > (la8 : Int)))
      (VSome a0r fun a9 =>
        VStore h2 ⟨a9.block, a9.off + 1, none⟩ (.bool true) fun h10 =>
        J4 h10)
      (J4 h2))) ∧
  ∀ (h11 : Heap) (g12 : Env), J4 h11 →
  ∃ I13 : Nat → Heap → Int → Option Addr → Nat → Nat → Prop, (∃ n14, I13 n14 h11 x3 none 0 0) ∧
  ∀ (n14 : Nat) (h15 : Heap) (g16 : Env) (n_17 : Int) (l_18 : Option Addr) (ll_18 cl_18 : Nat), I13 n14 h15 n_17 l_18 ll_18 cl_18 →
  cond (decide (n_17 > (0 : Int))) (VSome a0r fun a20 =>
    ∃ b21 : Bool, cellH h15 ⟨a20.block, a20.off + 1, none⟩ = some (.bool b21) ∧
    cond (!b21)
    (CallsH Tryd.prog 52 #[.pointer p1f0] h15 fun v22 h23 =>
      ∃ (a24 : Option Addr) (la24 ca24 : Nat), v22 = .slice a24 la24 ca24 ∧
      ∃ (a25 : Option Addr) (la25 ca25 : Nat), (.slice a24 la24 ca24 : Value) = .slice a25 la25 ca25 ∧
      VNew h23 (.cells #[.slice a25 la25 ca25] 98) fun b26 h27 =>
      RunsTo Tryd.prog (Builtin.append_ #[30, 30] 30 #[.slice l_18 ll_18 cl_18, .slice (some ⟨b26, 0, none⟩) 1 1]) h27 fun v28 h29 =>
      ∃ (a30 : Option Addr) (la30 ca30 : Nat), v28 = .slice a30 la30 ca30 ∧
      ∃ m19, m19 < n14 ∧ I13 m19 h29 (IntKind.i64.wrap (n_17 - 1)) a30 la30 ca30)
    (R (.slice l_18 ll_18 cl_18) h15)) (R (.slice l_18 ll_18 cl_18) h15)
theorem vf51 (a0r : Option Addr) (p1f0 : Option Addr) (h : Heap) (R : KV) (hF : F51 a0r p1f0 h R) : CallsH Tryd.prog 51 #[.pointer a0r, .func (.func 52) #[.pointer p1f0] #[]] h R :=
  calls_of_form (A := an51) (fn := Tryd.f51) (c := c51) (args := [.pointer a0r, .func (.func 52) #[.pointer p1f0] #[]]) Tryd.func51 (by kernel_rfl) mixed (by kernel_rfl) (by kernel_rfl : F51 a0r p1f0 h R = vcF Tryd.prog an51 Tryd.f51 c51 [.pointer a0r, .func (.func 52) #[.pointer p1f0] #[]] h R) hF
/-! ### 52 (refrain/proto.reader).row -/
noncomputable def c52 : Code := match Tryd.f52.body with | some c => c | none => .skip
noncomputable def an52 : Ann := { loops := fun i => [], draws := fun i => #[], joins := fun i => none }
def F52 (a0r : Option Addr) (h : Heap) (R : KV) : Prop :=
  CallsH Tryd.prog 83 #[.pointer a0r, .func (.func 84) #[.pointer a0r] #[]] h fun v1 h2 =>
  ∃ (a3 : Option Addr) (la3 ca3 : Nat), v1 = .slice a3 la3 ca3 ∧
  R (.slice a3 la3 ca3) h2
theorem vf52 (a0r : Option Addr) (h : Heap) (R : KV) (hF : F52 a0r h R) : CallsH Tryd.prog 52 #[.pointer a0r] h R :=
  calls_of_form (A := an52) (fn := Tryd.f52) (c := c52) (args := [.pointer a0r]) Tryd.func52 (by kernel_rfl) mixed (by kernel_rfl) (by kernel_rfl : F52 a0r h R = vcF Tryd.prog an52 Tryd.f52 c52 [.pointer a0r] h R) hF
/-! ### 53 refrain/refrainlaw30.sameVals -/
noncomputable def c53 : Code := match Tryd.f53.body with | some c => c | none => .skip
noncomputable def an53 : Ann := { loops := fun i => match i with | 4 => [(4, .bool), (5, .int .i64)] | _ => [], draws := fun i => match i with | 6 => #[0, 0, 3, 7, 0, 0, 48, 112, 255] | _ => #[], joins := fun i => none }
def F53 (a0a : Option Addr) (la0a ca0a : Nat) (a1b : Option Addr) (la1b ca1b : Nat) (h : Heap) (R : KV) : Prop :=
  cond ((la0a : Int) != (la1b : Int))
  (R (.bool false) h)
  (∃ I1 : Nat → Heap → Bool → Int → Prop, (∃ n2, I1 n2 h false 0) ∧
    ∀ (n2 : Nat) (h3 : Heap) (g4 : Env) (y_5 : Bool) (i_6 : Int), I1 n2 h3 y_5 i_6 →
    cond (decide (i_6 < (la0a : Int)))
    (VIdx a0a la0a i_6 4 fun a8 =>
      ∃ x9 : Int, cellH h3 a8 = some (.int .i64 x9) ∧
      ∃ x10 : Int, cellH h3 ⟨a8.block, a8.off + 1, none⟩ = some (.int .i64 x10) ∧
      ∃ s11 : ByteArray, cellH h3 ⟨a8.block, a8.off + 2, none⟩ = some (.string s11) ∧
      ∃ b12 : Bool, cellH h3 ⟨a8.block, a8.off + 3, none⟩ = some (.bool b12) ∧
      VIdx a1b la1b i_6 4 fun a13 =>
      ∃ x14 : Int, cellH h3 a13 = some (.int .i64 x14) ∧
      ∃ x15 : Int, cellH h3 ⟨a13.block, a13.off + 1, none⟩ = some (.int .i64 x15) ∧
      ∃ s16 : ByteArray, cellH h3 ⟨a13.block, a13.off + 2, none⟩ = some (.string s16) ∧
      ∃ b17 : Bool, cellH h3 ⟨a13.block, a13.off + 3, none⟩ = some (.bool b17) ∧
      PureTo Tryd.prog (do eqGuard .neq 134 (.tmp 20) (.tmp 24) (.agg #[.int .i64 x9, .int .i64 x10, .string s11, .bool b12]) (.agg #[.int .i64 x14, .int .i64 x15, .string s16, .bool b17]); binOp .neq 134 (.agg #[.int .i64 x9, .int .i64 x10, .string s11, .bool b12]) (.agg #[.int .i64 x14, .int .i64 x15, .string s16, .bool b17])) fun v18 =>
      ∃ b19 : Bool, v18 = .bool b19 ∧
      cond b19
      (R (.bool false) h3)
      (∃ m7, m7 < n2 ∧ I1 m7 h3 y_5 (IntKind.i64.wrap (i_6 + 1))))
    (R (.bool true) h3))
theorem vf53 (a0a : Option Addr) (la0a ca0a : Nat) (a1b : Option Addr) (la1b ca1b : Nat) (h : Heap) (R : KV) (hF : F53 a0a la0a ca0a a1b la1b ca1b h R) : CallsH Tryd.prog 53 #[.slice a0a la0a ca0a, .slice a1b la1b ca1b] h R :=
  calls_of_form (A := an53) (fn := Tryd.f53) (c := c53) (args := [.slice a0a la0a ca0a, .slice a1b la1b ca1b]) Tryd.func53 (by kernel_rfl) mixed (by kernel_rfl) (by kernel_rfl : F53 a0a la0a ca0a a1b la1b ca1b h R = vcF Tryd.prog an53 Tryd.f53 c53 [.slice a0a la0a ca0a, .slice a1b la1b ca1b] h R) hF
/-! ### 54 refrain/proto.sum -/
noncomputable def c54 : Code := match Tryd.f54.body with | some c => c | none => .skip
noncomputable def an54 : Ann := { loops := fun i => match i with | 3 => [(3, .int .u32), (4, .int .u32), (9, .int .i64)] | _ => [], draws := fun i => #[], joins := fun i => none }
def F54 (a0b : Option Addr) (la0b ca0b : Nat) (h : Heap) (R : KV) : Prop :=
  ∃ I1 : Nat → Heap → Int → Int → Int → Prop, (∃ n2, I1 n2 h 1 0 0) ∧
  ∀ (n2 : Nat) (h3 : Heap) (g4 : Env) (p_5 : Int) (q_6 : Int) (y_7 : Int), I1 n2 h3 p_5 q_6 y_7 →
  cond (decide (y_7 < (la0b : Int)))
  (VIdx a0b la0b y_7 1 fun a9 =>
    ∃ x10 : Int, cellH h3 a9 = some (.int .u8 x10) ∧
    (65521 : Int) ≠ (0 : Int) ∧
    (65521 : Int) ≠ (0 : Int) ∧
    ∃ m8, m8 < n2 ∧ I1 m8 h3 (Int.tmod (IntKind.u32.wrap (p_5 + (IntKind.u32.wrap x10))) 65521) (Int.tmod (IntKind.u32.wrap (q_6 + (Int.tmod (IntKind.u32.wrap (p_5 + (IntKind.u32.wrap x10))) 65521))) 65521) (IntKind.i64.wrap (y_7 + 1)))
  ((0 : Int) ≤ 16 ∧
    R (.int .u32 (bitsOp .or .u32 (IntKind.u32.wrap (q_6 * 2 ^ (min (Int.toNat 16) (IntKind.bits .u32)))) p_5)) h3)
theorem vf54 (a0b : Option Addr) (la0b ca0b : Nat) (h : Heap) (R : KV) (hF : F54 a0b la0b ca0b h R) : CallsH Tryd.prog 54 #[.slice a0b la0b ca0b] h R :=
  calls_of_form (A := an54) (fn := Tryd.f54) (c := c54) (args := [.slice a0b la0b ca0b]) Tryd.func54 (by kernel_rfl) mixed (by kernel_rfl) (by kernel_rfl : F54 a0b la0b ca0b h R = vcF Tryd.prog an54 Tryd.f54 c54 [.slice a0b la0b ca0b] h R) hF
/-! ### 55 refrain/refrainref30.four -/
noncomputable def c55 : Code := match Tryd.f55.body with | some c => c | none => .skip
noncomputable def an55 : Ann := { loops := fun i => [], draws := fun i => #[], joins := fun i => none }
def F55 (a0n : Int) (h : Heap) (R : KV) : Prop :=
  (16777216 : Int) ≠ (0 : Int) ∧
  (65536 : Int) ≠ (0 : Int) ∧
  (256 : Int) ≠ (0 : Int) ∧
  (256 : Int) ≠ (0 : Int) ∧
  (256 : Int) ≠ (0 : Int) ∧
  (256 : Int) ≠ (0 : Int) ∧
  VNew h (.cells #[.int .u8 (IntKind.u8.wrap (IntKind.i64.wrap (Int.tdiv a0n 16777216))), .int .u8 (IntKind.u8.wrap (Int.tmod (IntKind.i64.wrap (Int.tdiv a0n 65536)) 256)), .int .u8 (IntKind.u8.wrap (Int.tmod (IntKind.i64.wrap (Int.tdiv a0n 256)) 256)), .int .u8 (IntKind.u8.wrap (Int.tmod a0n 256))] 5) fun b1 h2 =>
  R (.slice (some ⟨b1, 0, none⟩) 4 4) h2
theorem vf55 (a0n : Int) (h : Heap) (R : KV) (hF : F55 a0n h R) : CallsH Tryd.prog 55 #[.int .i64 a0n] h R :=
  calls_of_form (A := an55) (fn := Tryd.f55) (c := c55) (args := [.int .i64 a0n]) Tryd.func55 (by kernel_rfl) mixed (by kernel_rfl) (by kernel_rfl : F55 a0n h R = vcF Tryd.prog an55 Tryd.f55 c55 [.int .i64 a0n] h R) hF
/-! ### 56 refrain/refrainref30.sum -/
noncomputable def c56 : Code := match Tryd.f56.body with | some c => c | none => .skip
noncomputable def an56 : Ann := { loops := fun i => match i with | 4 => [(3, .int .i64), (4, .int .i64), (5, .int .i64)] | _ => [], draws := fun i => #[], joins := fun i => none }
def F56 (a0b : Option Addr) (la0b ca0b : Nat) (h : Heap) (R : KV) : Prop :=
  ∃ I1 : Nat → Heap → Int → Int → Int → Prop, (∃ n2, I1 n2 h 1 0 0) ∧
  ∀ (n2 : Nat) (h3 : Heap) (g4 : Env) (p_5 : Int) (q_6 : Int) (i_7 : Int), I1 n2 h3 p_5 q_6 i_7 →
  cond (decide (i_7 < (la0b : Int)))
  (VIdx a0b la0b i_7 1 fun a9 =>
    ∃ x10 : Int, cellH h3 a9 = some (.int .u8 x10) ∧
    (65521 : Int) ≠ (0 : Int) ∧
    (65521 : Int) ≠ (0 : Int) ∧
    ∃ m8, m8 < n2 ∧ I1 m8 h3 (Int.tmod (IntKind.i64.wrap (p_5 + (IntKind.i64.wrap x10))) 65521) (Int.tmod (IntKind.i64.wrap (q_6 + (Int.tmod (IntKind.i64.wrap (p_5 + (IntKind.i64.wrap x10))) 65521))) 65521) (IntKind.i64.wrap (i_7 + 1)))
  ((256 : Int) ≠ (0 : Int) ∧
    (256 : Int) ≠ (0 : Int) ∧
    (256 : Int) ≠ (0 : Int) ∧
    (256 : Int) ≠ (0 : Int) ∧
    VNew h3 (.cells #[.int .u8 (IntKind.u8.wrap (IntKind.i64.wrap (Int.tdiv q_6 256))), .int .u8 (IntKind.u8.wrap (Int.tmod q_6 256)), .int .u8 (IntKind.u8.wrap (IntKind.i64.wrap (Int.tdiv p_5 256))), .int .u8 (IntKind.u8.wrap (Int.tmod p_5 256))] 5) fun b11 h12 =>
    R (.slice (some ⟨b11, 0, none⟩) 4 4) h12)
theorem vf56 (a0b : Option Addr) (la0b ca0b : Nat) (h : Heap) (R : KV) (hF : F56 a0b la0b ca0b h R) : CallsH Tryd.prog 56 #[.slice a0b la0b ca0b] h R :=
  calls_of_form (A := an56) (fn := Tryd.f56) (c := c56) (args := [.slice a0b la0b ca0b]) Tryd.func56 (by kernel_rfl) mixed (by kernel_rfl) (by kernel_rfl : F56 a0b la0b ca0b h R = vcF Tryd.prog an56 Tryd.f56 c56 [.slice a0b la0b ca0b] h R) hF
/-! ### 57 (refrain/refrainref30.Stream).Feed -/
noncomputable def c57 : Code := match Tryd.f57.body with | some c => c | none => .skip
noncomputable def an57 : Ann := { loops := fun i => match i with | 6 => [(4, .slc), (5, .int .i64), (6, .slc), (7, .slc)] | 14 => [(10, .int .i64)] | _ => [], draws := fun i => match i with | 16 => #[0, 0, 3, 7, 0, 0, 32, 0, 224, 496, 1008, 2047] | _ => #[], joins := fun i => match i with | 15 => some [] | _ => none }
def F57 (a0s : Option Addr) (a1b : Option Addr) (la1b ca1b : Nat) (h : Heap) (R : KV) : Prop :=
  VSome a0s fun a1 =>
  ∃ b2 : Bool, cellH h ⟨a1.block, a1.off + 1, none⟩ = some (.bool b2) ∧
  cond b2
  (R (.tuple #[.slice none 0 0, .int .i64 300]) h)
  (VSome a0s fun a3 =>
    ∃ (a4 : Option Addr) (la4 ca4 : Nat), cellH h a3 = some (.slice a4 la4 ca4) ∧
    RunsTo Tryd.prog (Builtin.append_ #[35, 35] 35 #[.slice a4 la4 ca4, .slice a1b la1b ca1b]) h fun v5 h6 =>
    ∃ (a7 : Option Addr) (la7 ca7 : Nat), v5 = .slice a7 la7 ca7 ∧
    VSome a0s fun a8 =>
    VStore h6 a8 (.slice none 0 0) fun h9 =>
    ∃ I10 : Nat → Heap → Option Addr → Nat → Nat → Int → Option Addr → Nat → Nat → Option Addr → Nat → Nat → Prop, (∃ n11, I10 n11 h9 none 0 0 0 a7 la7 ca7 none 0 0) ∧
    ∀ (n11 : Nat) (h12 : Heap) (g13 : Env) (y_14 : Option Addr) (ly_14 cy_14 : Nat) (y_15 : Int) (all_16 : Option Addr) (lall_16 call_16 : Nat) (out_17 : Option Addr) (lout_17 cout_17 : Nat), I10 n11 h12 y_14 ly_14 cy_14 y_15 all_16 lall_16 call_16 out_17 lout_17 cout_17 →
    cond (decide ((lall_16 : Int) ≥ (4 : Int)))
    (CallsH Tryd.prog 85 #[.slice all_16 lall_16 call_16, .int .i64 0] h12 fun v19 h20 =>
      ∃ x21 : Int, v19 = .int .i64 x21 ∧
      cond (decide (x21 > (65528 : Int)))
      (VSome a0s fun a22 =>
        VStore h20 ⟨a22.block, a22.off + 1, none⟩ (.bool true) fun h23 =>
        R (.tuple #[.slice out_17 lout_17 cout_17, .int .i64 300]) h23)
      (cond (decide ((lall_16 : Int) < (IntKind.i64.wrap (x21 + 8))))
        (RunsTo Tryd.prog (Builtin.append_ #[35, 35] 35 #[.slice none 0 0, .slice all_16 lall_16 call_16]) h20 fun v24 h25 =>
          ∃ (a26 : Option Addr) (la26 ca26 : Nat), v24 = .slice a26 la26 ca26 ∧
          VSome a0s fun a27 =>
          VStore h25 a27 (.slice a26 la26 ca26) fun h28 =>
          R (.tuple #[.slice out_17 lout_17 cout_17, .int .i64 0]) h28)
        (VSlice 1 all_16 call_16 0 (IntKind.i64.wrap (x21 + 4)) (call_16 : Int) fun a29 la29 ca29 =>
          CallsH Tryd.prog 56 #[.slice a29 la29 ca29] h20 fun v30 h31 =>
          ∃ (a32 : Option Addr) (la32 ca32 : Nat), v30 = .slice a32 la32 ca32 ∧
          ∃ I33 : Nat → Heap → Int → Prop, (∃ n34, I33 n34 h31 0) ∧
          ∀ (n34 : Nat) (h35 : Heap) (g36 : Env) (i_37 : Int), I33 n34 h35 i_37 →
          cond (decide (i_37 < (4 : Int)))
          (∃ J39 : Heap → Prop, (VIdx a32 la32 i_37 1 fun a40 =>
              ∃ x41 : Int, cellH h35 a40 = some (.int .u8 x41) ∧
              VIdx all_16 lall_16 (IntKind.i64.wrap ((IntKind.i64.wrap (x21 + 4)) + i_37)) 1 fun a42 =>
              ∃ x43 : Int, cellH h35 a42 = some (.int .u8 x43) ∧
              cond (x41 != x43)
              (VSome a0s fun a44 =>
                VStore h35 ⟨a44.block, a44.off + 1, none⟩ (.bool true) fun h45 =>
                J39 h45)
              (J39 h35)) ∧
            ∀ (h46 : Heap) (g47 : Env), J39 h46 →
            ∃ m38, m38 < n34 ∧ I33 m38 h46 (IntKind.i64.wrap (i_37 + 1)))
          (VSome a0s fun a48 =>
            ∃ b49 : Bool, cellH h35 ⟨a48.block, a48.off + 1, none⟩ = some (.bool b49) ∧
            cond b49
            (R (.tuple #[.slice out_17 lout_17 cout_17, .int .i64 300]) h35)
            (VSlice 1 all_16 call_16 4 (IntKind.i64.wrap (x21 + 4)) (call_16 : Int) fun a50 la50 ca50 =>
              RunsTo Tryd.prog (Builtin.append_ #[35, 35] 35 #[.slice none 0 0, .slice a50 la50 ca50]) h35 fun v51 h52 =>
              ∃ (a53 : Option Addr) (la53 ca53 : Nat), v51 = .slice a53 la53 ca53 ∧
              VNew h52 (.cells #[.slice a53 la53 ca53] 35) fun b54 h55 =>
              RunsTo Tryd.prog (Builtin.append_ #[48, 48] 48 #[.slice out_17 lout_17 cout_17, .slice (some ⟨b54, 0, none⟩) 1 1]) h55 fun v56 h57 =>
              ∃ (a58 : Option Addr) (la58 ca58 : Nat), v56 = .slice a58 la58 ca58 ∧
              VSlice 1 all_16 call_16 (IntKind.i64.wrap (x21 + 8)) (lall_16 : Int) (call_16 : Int) fun a59 la59 ca59 =>
              ∃ m18, m18 < n11 ∧ I10 m18 h57 y_14 ly_14 cy_14 y_15 a59 la59 ca59 a58 la58 ca58)))))
    (RunsTo Tryd.prog (Builtin.append_ #[35, 35] 35 #[.slice none 0 0, .slice all_16 lall_16 call_16]) h12 fun v60 h61 =>
      ∃ (a62 : Option Addr) (la62 ca62 : Nat), v60 = .slice a62 la62 ca62 ∧
      VSome a0s fun a63 =>
      VStore h61 a63 (.slice a62 la62 ca62) fun h64 =>
      R (.tuple #[.slice out_17 lout_17 cout_17, .int .i64 0]) h64))
theorem vf57 (a0s : Option Addr) (a1b : Option Addr) (la1b ca1b : Nat) (h : Heap) (R : KV) (hF : F57 a0s a1b la1b ca1b h R) : CallsH Tryd.prog 57 #[.pointer a0s, .slice a1b la1b ca1b] h R :=
  calls_of_form (A := an57) (fn := Tryd.f57) (c := c57) (args := [.pointer a0s, .slice a1b la1b ca1b]) Tryd.func57 (by kernel_rfl) mixed (by kernel_rfl) (by kernel_rfl : F57 a0s a1b la1b ca1b h R = vcF Tryd.prog an57 Tryd.f57 c57 [.pointer a0s, .slice a1b la1b ca1b] h R) hF
/-! ### 58 (refrain/refrainref30.Stream).Rest -/
noncomputable def c58 : Code := match Tryd.f58.body with | some c => c | none => .skip
noncomputable def an58 : Ann := { loops := fun i => [], draws := fun i => #[], joins := fun i => none }
def F58 (a0s : Option Addr) (h : Heap) (R : KV) : Prop :=
  VSome a0s fun a1 =>
  ∃ (a2 : Option Addr) (la2 ca2 : Nat), cellH h a1 = some (.slice a2 la2 ca2) ∧
  R (.int .i64 (la2 : Int)) h
theorem vf58 (a0s : Option Addr) (h : Heap) (R : KV) (hF : F58 a0s h R) : CallsH Tryd.prog 58 #[.pointer a0s] h R :=
  calls_of_form (A := an58) (fn := Tryd.f58) (c := c58) (args := [.pointer a0s]) Tryd.func58 (by kernel_rfl) mixed (by kernel_rfl) (by kernel_rfl : F58 a0s h R = vcF Tryd.prog an58 Tryd.f58 c58 [.pointer a0s] h R) hF
/-! ### 59 slices.Clone[[]byte,byte] -/
noncomputable def c59 : Code := match Tryd.f59.body with | some c => c | none => .skip
noncomputable def an59 : Ann := { loops := fun i => [], draws := fun i => #[], joins := fun i => none }
def F59 (a0s : Option Addr) (la0s ca0s : Nat) (h : Heap) (R : KV) : Prop :=
  cond a0s.isNone
  (R (.slice none 0 0) h)
  (VNew h (.cells #[] 5) fun b1 h2 =>
    RunsTo Tryd.prog (Builtin.append_ #[35, 35] 35 #[.slice (some ⟨b1, 0, none⟩) 0 0, .slice a0s la0s ca0s]) h2 fun v3 h4 =>
    ∃ (a5 : Option Addr) (la5 ca5 : Nat), v3 = .slice a5 la5 ca5 ∧
    R (.slice a5 la5 ca5) h4)
theorem vf59 (a0s : Option Addr) (la0s ca0s : Nat) (h : Heap) (R : KV) (hF : F59 a0s la0s ca0s h R) : CallsH Tryd.prog 59 #[.slice a0s la0s ca0s] h R :=
  calls_of_form (A := an59) (fn := Tryd.f59) (c := c59) (args := [.slice a0s la0s ca0s]) Tryd.func59 (by kernel_rfl) mixed (by kernel_rfl) (by kernel_rfl : F59 a0s la0s ca0s h R = vcF Tryd.prog an59 Tryd.f59 c59 [.slice a0s la0s ca0s] h R) hF
/-! ### 60 (refrain/proto.Stream).next -/
noncomputable def c60 : Code := match Tryd.f60.body with | some c => c | none => .skip
noncomputable def an60 : Ann := { loops := fun i => [], draws := fun i => match i with | 10 => #[0, 1, 3, 7, 0, 31, 63, 0, 128, 384, 896, 0, 3968, 8191, 16383] | _ => #[], joins := fun i => none }
def F60 (a0s : Option Addr) (h : Heap) (R : KV) : Prop :=
  VSome a0s fun a1 =>
  ∃ (a2 : Option Addr) (la2 ca2 : Nat), cellH h a1 = some (.slice a2 la2 ca2) ∧
  cond (decide ((la2 : Int) < (4 : Int)))
  (R (.tuple #[.slice none 0 0, .bool false]) h)
  (VSome a0s fun a3 =>
    ∃ (a4 : Option Addr) (la4 ca4 : Nat), cellH h a3 = some (.slice a4 la4 ca4) ∧
    CallsH Tryd.prog 78 #[.slice a4 la4 ca4] h fun v5 h6 =>
    ∃ x7 : Int, v5 = .int .u32 x7 ∧
    cond (decide (x7 > (65528 : Int)))
    (VSome a0s fun a8 =>
      VStore h6 ⟨a8.block, a8.off + 1, none⟩ (.bool true) fun h9 =>
      R (.tuple #[.slice none 0 0, .bool false]) h9)
    (VSome a0s fun a10 =>
      ∃ (a11 : Option Addr) (la11 ca11 : Nat), cellH h6 a10 = some (.slice a11 la11 ca11) ∧
      cond (decide ((la11 : Int) < (IntKind.i64.wrap ((IntKind.i64.wrap ((IntKind.i64.wrap x7) + 4)) + 4))))
      (R (.tuple #[.slice none 0 0, .bool false]) h6)
      (VSome a0s fun a12 =>
        ∃ (a13 : Option Addr) (la13 ca13 : Nat), cellH h6 a12 = some (.slice a13 la13 ca13) ∧
        VSlice 1 a13 ca13 0 (IntKind.i64.wrap ((IntKind.i64.wrap x7) + 4)) (ca13 : Int) fun a14 la14 ca14 =>
        VSome a0s fun a15 =>
        ∃ (a16 : Option Addr) (la16 ca16 : Nat), cellH h6 a15 = some (.slice a16 la16 ca16) ∧
        VSlice 1 a16 ca16 (IntKind.i64.wrap ((IntKind.i64.wrap x7) + 4)) (la16 : Int) (ca16 : Int) fun a17 la17 ca17 =>
        CallsH Tryd.prog 54 #[.slice a14 la14 ca14] h6 fun v18 h19 =>
        ∃ x20 : Int, v18 = .int .u32 x20 ∧
        (cellH h19 a15 = some (.slice a16 la16 ca16)) ∧
        CallsH Tryd.prog 78 #[.slice a17 la17 ca17] h19 fun v21 h22 =>
        ∃ x23 : Int, v21 = .int .u32 x23 ∧
        cond (x20 != x23)
        (VSome a0s fun a24 =>
          VStore h22 ⟨a24.block, a24.off + 1, none⟩ (.bool true) fun h25 =>
          R (.tuple #[.slice none 0 0, .bool false]) h25)
        (VSome a0s fun a26 =>
          ∃ (a27 : Option Addr) (la27 ca27 : Nat), cellH h22 a26 = some (.slice a27 la27 ca27) ∧
          VSlice 1 a27 ca27 4 (IntKind.i64.wrap ((IntKind.i64.wrap x7) + 4)) (ca27 : Int) fun a28 la28 ca28 =>
          CallsH Tryd.prog 59 #[.slice a28 la28 ca28] h22 fun v29 h30 =>
          ∃ (a31 : Option Addr) (la31 ca31 : Nat), v29 = .slice a31 la31 ca31 ∧
          VSome a0s fun a32 =>
          ∃ (a33 : Option Addr) (la33 ca33 : Nat), cellH h30 a32 = some (.slice a33 la33 ca33) ∧
          VSlice 1 a33 ca33 (IntKind.i64.wrap ((IntKind.i64.wrap ((IntKind.i64.wrap x7) + 4)) + 4)) (la33 : Int) (ca33 : Int) fun a34 la34 ca34 =>
          VSome a0s fun a35 =>
          VStore h30 a35 (.slice a34 la34 ca34) fun h36 =>
          R (.tuple #[.slice a31 la31 ca31, .bool true]) h36))))
theorem vf60 (a0s : Option Addr) (h : Heap) (R : KV) (hF : F60 a0s h R) : CallsH Tryd.prog 60 #[.pointer a0s] h R :=
  calls_of_form (A := an60) (fn := Tryd.f60) (c := c60) (args := [.pointer a0s]) Tryd.func60 (by kernel_rfl) mixed (by kernel_rfl) (by kernel_rfl : F60 a0s h R = vcF Tryd.prog an60 Tryd.f60 c60 [.pointer a0s] h R) hF
/-! ### 61 refrain/proto.fields$1 -/
noncomputable def c61 : Code := match Tryd.f61.body with | some c => c | none => .skip
noncomputable def an61 : Ann := { loops := fun i => [], draws := fun i => #[], joins := fun i => none }
def F61 (a0q : Option Addr) (h : Heap) (R : KV) : Prop :=
  VSome a0q fun a1 =>
  ∃ s2 : ByteArray, cellH h ⟨a1.block, a1.off + 2, none⟩ = some (.string s2) ∧
  R (.bool (strEq s2 (ByteArray.mk #[]))) h
theorem vf61 (a0q : Option Addr) (h : Heap) (R : KV) (hF : F61 a0q h R) : CallsH Tryd.prog 61 #[.pointer a0q] h R :=
  calls_of_form (A := an61) (fn := Tryd.f61) (c := c61) (args := [.pointer a0q]) Tryd.func61 (by kernel_rfl) mixed (by kernel_rfl) (by kernel_rfl : F61 a0q h R = vcF Tryd.prog an61 Tryd.f61 c61 [.pointer a0q] h R) hF
/-! ### 62 refrain/proto.fields$2 -/
noncomputable def c62 : Code := match Tryd.f62.body with | some c => c | none => .skip
noncomputable def an62 : Ann := { loops := fun i => [], draws := fun i => #[], joins := fun i => none }
def F62 (a0w : Option Addr) (a1q : Option Addr) (h : Heap) (R : KV) : Prop :=
  VSome a1q fun a1 =>
  ∃ s2 : ByteArray, cellH h ⟨a1.block, a1.off + 2, none⟩ = some (.string s2) ∧
  CallsH Tryd.prog 40 #[.pointer a0w, .string s2] h fun v3 h4 =>
  v3 = .tuple #[] ∧
  R (.tuple #[]) h4
theorem vf62 (a0w : Option Addr) (a1q : Option Addr) (h : Heap) (R : KV) (hF : F62 a0w a1q h R) : CallsH Tryd.prog 62 #[.pointer a0w, .pointer a1q] h R :=
  calls_of_form (A := an62) (fn := Tryd.f62) (c := c62) (args := [.pointer a0w, .pointer a1q]) Tryd.func62 (by kernel_rfl) mixed (by kernel_rfl) (by kernel_rfl : F62 a0w a1q h R = vcF Tryd.prog an62 Tryd.f62 c62 [.pointer a0w, .pointer a1q] h R) hF
/-! ### 63 refrain/proto.fields$3 -/
noncomputable def c63 : Code := match Tryd.f63.body with | some c => c | none => .skip
noncomputable def an63 : Ann := { loops := fun i => [], draws := fun i => #[], joins := fun i => none }
def F63 (a0r : Option Addr) (a1q : Option Addr) (h : Heap) (R : KV) : Prop :=
  CallsH Tryd.prog 50 #[.pointer a0r] h fun v1 h2 =>
  ∃ s3 : ByteArray, v1 = .string s3 ∧
  VSome a1q fun a4 =>
  VStore h2 ⟨a4.block, a4.off + 2, none⟩ (.string s3) fun h5 =>
  R (.tuple #[]) h5
theorem vf63 (a0r : Option Addr) (a1q : Option Addr) (h : Heap) (R : KV) (hF : F63 a0r a1q h R) : CallsH Tryd.prog 63 #[.pointer a0r, .pointer a1q] h R :=
  calls_of_form (A := an63) (fn := Tryd.f63) (c := c63) (args := [.pointer a0r, .pointer a1q]) Tryd.func63 (by kernel_rfl) mixed (by kernel_rfl) (by kernel_rfl : F63 a0r a1q h R = vcF Tryd.prog an63 Tryd.f63 c63 [.pointer a0r, .pointer a1q] h R) hF
/-! ### 64 refrain/proto.fields$4 -/
noncomputable def c64 : Code := match Tryd.f64.body with | some c => c | none => .skip
noncomputable def an64 : Ann := { loops := fun i => [], draws := fun i => #[], joins := fun i => none }
def F64 (a0q : Option Addr) (h : Heap) (R : KV) : Prop :=
  VSome a0q fun a1 =>
  ∃ s2 : ByteArray, cellH h ⟨a1.block, a1.off + 3, none⟩ = some (.string s2) ∧
  R (.bool (strEq s2 (ByteArray.mk #[]))) h
theorem vf64 (a0q : Option Addr) (h : Heap) (R : KV) (hF : F64 a0q h R) : CallsH Tryd.prog 64 #[.pointer a0q] h R :=
  calls_of_form (A := an64) (fn := Tryd.f64) (c := c64) (args := [.pointer a0q]) Tryd.func64 (by kernel_rfl) mixed (by kernel_rfl) (by kernel_rfl : F64 a0q h R = vcF Tryd.prog an64 Tryd.f64 c64 [.pointer a0q] h R) hF
/-! ### 65 refrain/proto.fields$5 -/
noncomputable def c65 : Code := match Tryd.f65.body with | some c => c | none => .skip
noncomputable def an65 : Ann := { loops := fun i => [], draws := fun i => #[], joins := fun i => none }
def F65 (a0w : Option Addr) (a1q : Option Addr) (h : Heap) (R : KV) : Prop :=
  VSome a1q fun a1 =>
  ∃ s2 : ByteArray, cellH h ⟨a1.block, a1.off + 3, none⟩ = some (.string s2) ∧
  CallsH Tryd.prog 40 #[.pointer a0w, .string s2] h fun v3 h4 =>
  v3 = .tuple #[] ∧
  R (.tuple #[]) h4
theorem vf65 (a0w : Option Addr) (a1q : Option Addr) (h : Heap) (R : KV) (hF : F65 a0w a1q h R) : CallsH Tryd.prog 65 #[.pointer a0w, .pointer a1q] h R :=
  calls_of_form (A := an65) (fn := Tryd.f65) (c := c65) (args := [.pointer a0w, .pointer a1q]) Tryd.func65 (by kernel_rfl) mixed (by kernel_rfl) (by kernel_rfl : F65 a0w a1q h R = vcF Tryd.prog an65 Tryd.f65 c65 [.pointer a0w, .pointer a1q] h R) hF
/-! ### 66 refrain/proto.fields$6 -/
noncomputable def c66 : Code := match Tryd.f66.body with | some c => c | none => .skip
noncomputable def an66 : Ann := { loops := fun i => [], draws := fun i => #[], joins := fun i => none }
def F66 (a0r : Option Addr) (a1q : Option Addr) (h : Heap) (R : KV) : Prop :=
  CallsH Tryd.prog 50 #[.pointer a0r] h fun v1 h2 =>
  ∃ s3 : ByteArray, v1 = .string s3 ∧
  VSome a1q fun a4 =>
  VStore h2 ⟨a4.block, a4.off + 3, none⟩ (.string s3) fun h5 =>
  R (.tuple #[]) h5
theorem vf66 (a0r : Option Addr) (a1q : Option Addr) (h : Heap) (R : KV) (hF : F66 a0r a1q h R) : CallsH Tryd.prog 66 #[.pointer a0r, .pointer a1q] h R :=
  calls_of_form (A := an66) (fn := Tryd.f66) (c := c66) (args := [.pointer a0r, .pointer a1q]) Tryd.func66 (by kernel_rfl) mixed (by kernel_rfl) (by kernel_rfl : F66 a0r a1q h R = vcF Tryd.prog an66 Tryd.f66 c66 [.pointer a0r, .pointer a1q] h R) hF
/-! ### 67 refrain/proto.fields$7 -/
noncomputable def c67 : Code := match Tryd.f67.body with | some c => c | none => .skip
noncomputable def an67 : Ann := { loops := fun i => [], draws := fun i => #[], joins := fun i => none }
def F67 (a0q : Option Addr) (h : Heap) (R : KV) : Prop :=
  VSome a0q fun a1 =>
  ∃ (a2 : Option Addr) (la2 ca2 : Nat), cellH h ⟨a1.block, a1.off + 4, none⟩ = some (.slice a2 la2 ca2) ∧
  R (.bool ((la2 : Int) == (0 : Int))) h
theorem vf67 (a0q : Option Addr) (h : Heap) (R : KV) (hF : F67 a0q h R) : CallsH Tryd.prog 67 #[.pointer a0q] h R :=
  calls_of_form (A := an67) (fn := Tryd.f67) (c := c67) (args := [.pointer a0q]) Tryd.func67 (by kernel_rfl) mixed (by kernel_rfl) (by kernel_rfl : F67 a0q h R = vcF Tryd.prog an67 Tryd.f67 c67 [.pointer a0q] h R) hF
/-! ### 68 refrain/proto.fields$8 -/
noncomputable def c68 : Code := match Tryd.f68.body with | some c => c | none => .skip
noncomputable def an68 : Ann := { loops := fun i => [], draws := fun i => #[], joins := fun i => none }
def F68 (a0w : Option Addr) (a1q : Option Addr) (h : Heap) (R : KV) : Prop :=
  VSome a1q fun a1 =>
  ∃ (a2 : Option Addr) (la2 ca2 : Nat), cellH h ⟨a1.block, a1.off + 4, none⟩ = some (.slice a2 la2 ca2) ∧
  CallsH Tryd.prog 39 #[.pointer a0w, .slice a2 la2 ca2, .func (.func 40) #[.pointer a0w] #[]] h fun v3 h4 =>
  v3 = .tuple #[] ∧
  R (.tuple #[]) h4
theorem vf68 (a0w : Option Addr) (a1q : Option Addr) (h : Heap) (R : KV) (hF : F68 a0w a1q h R) : CallsH Tryd.prog 68 #[.pointer a0w, .pointer a1q] h R :=
  calls_of_form (A := an68) (fn := Tryd.f68) (c := c68) (args := [.pointer a0w, .pointer a1q]) Tryd.func68 (by kernel_rfl) mixed (by kernel_rfl) (by kernel_rfl : F68 a0w a1q h R = vcF Tryd.prog an68 Tryd.f68 c68 [.pointer a0w, .pointer a1q] h R) hF
/-! ### 69 refrain/proto.fields$9 -/
noncomputable def c69 : Code := match Tryd.f69.body with | some c => c | none => .skip
noncomputable def an69 : Ann := { loops := fun i => [], draws := fun i => #[], joins := fun i => none }
def F69 (a0r : Option Addr) (a1q : Option Addr) (h : Heap) (R : KV) : Prop :=
  CallsH Tryd.prog 49 #[.pointer a0r, .func (.func 50) #[.pointer a0r] #[]] h fun v1 h2 =>
  ∃ (a3 : Option Addr) (la3 ca3 : Nat), v1 = .slice a3 la3 ca3 ∧
  VSome a1q fun a4 =>
  VStore h2 ⟨a4.block, a4.off + 4, none⟩ (.slice a3 la3 ca3) fun h5 =>
  R (.tuple #[]) h5
theorem vf69 (a0r : Option Addr) (a1q : Option Addr) (h : Heap) (R : KV) (hF : F69 a0r a1q h R) : CallsH Tryd.prog 69 #[.pointer a0r, .pointer a1q] h R :=
  calls_of_form (A := an69) (fn := Tryd.f69) (c := c69) (args := [.pointer a0r, .pointer a1q]) Tryd.func69 (by kernel_rfl) mixed (by kernel_rfl) (by kernel_rfl : F69 a0r a1q h R = vcF Tryd.prog an69 Tryd.f69 c69 [.pointer a0r, .pointer a1q] h R) hF
/-! ### 70 refrain/proto.fields$10 -/
noncomputable def c70 : Code := match Tryd.f70.body with | some c => c | none => .skip
noncomputable def an70 : Ann := { loops := fun i => [], draws := fun i => #[], joins := fun i => none }
def F70 (a0q : Option Addr) (h : Heap) (R : KV) : Prop :=
  VSome a0q fun a1 =>
  ∃ (a2 : Option Addr) (la2 ca2 : Nat), cellH h ⟨a1.block, a1.off + 5, none⟩ = some (.slice a2 la2 ca2) ∧
  R (.bool ((la2 : Int) == (0 : Int))) h
theorem vf70 (a0q : Option Addr) (h : Heap) (R : KV) (hF : F70 a0q h R) : CallsH Tryd.prog 70 #[.pointer a0q] h R :=
  calls_of_form (A := an70) (fn := Tryd.f70) (c := c70) (args := [.pointer a0q]) Tryd.func70 (by kernel_rfl) mixed (by kernel_rfl) (by kernel_rfl : F70 a0q h R = vcF Tryd.prog an70 Tryd.f70 c70 [.pointer a0q] h R) hF
/-! ### 71 refrain/proto.fields$11 -/
noncomputable def c71 : Code := match Tryd.f71.body with | some c => c | none => .skip
noncomputable def an71 : Ann := { loops := fun i => [], draws := fun i => #[], joins := fun i => none }
def F71 (a0w : Option Addr) (a1q : Option Addr) (h : Heap) (R : KV) : Prop :=
  VSome a1q fun a1 =>
  ∃ (a2 : Option Addr) (la2 ca2 : Nat), cellH h ⟨a1.block, a1.off + 5, none⟩ = some (.slice a2 la2 ca2) ∧
  CallsH Tryd.prog 72 #[.pointer a0w, .slice a2 la2 ca2, .func (.func 73) #[.pointer a0w] #[]] h fun v3 h4 =>
  v3 = .tuple #[] ∧
  R (.tuple #[]) h4
theorem vf71 (a0w : Option Addr) (a1q : Option Addr) (h : Heap) (R : KV) (hF : F71 a0w a1q h R) : CallsH Tryd.prog 71 #[.pointer a0w, .pointer a1q] h R :=
  calls_of_form (A := an71) (fn := Tryd.f71) (c := c71) (args := [.pointer a0w, .pointer a1q]) Tryd.func71 (by kernel_rfl) mixed (by kernel_rfl) (by kernel_rfl : F71 a0w a1q h R = vcF Tryd.prog an71 Tryd.f71 c71 [.pointer a0w, .pointer a1q] h R) hF
/-! ### 72 refrain/proto.writeList[refrain/api.Event] -/
noncomputable def c72 : Code := match Tryd.f72.body with | some c => c | none => .skip
noncomputable def an72 : Ann := { loops := fun i => match i with | 2 => [(14, .int .i64)] | _ => [], draws := fun i => #[], joins := fun i => none }
def F72 (a0w : Option Addr) (a1l : Option Addr) (la1l ca1l : Nat) (p2f0 : Option Addr) (h : Heap) (R : KV) : Prop :=
  CallsH Tryd.prog 34 #[.pointer a0w, .int .i64 (la1l : Int)] h fun v1 h2 =>
  v1 = .tuple #[] ∧
  ∃ I3 : Nat → Heap → Int → Prop, (∃ n4, I3 n4 h2 0) ∧
  ∀ (n4 : Nat) (h5 : Heap) (g6 : Env) (y_7 : Int), I3 n4 h5 y_7 →
  cond (decide (y_7 < (la1l : Int)))
  (VIdx a1l la1l y_7 3 fun a9 =>
    ∃ s10 : ByteArray, cellH h5 a9 = some (.string s10) ∧
    ∃ x11 : Int, cellH h5 ⟨a9.block, a9.off + 1, none⟩ = some (.int .i64 x11) ∧
    ∃ (a12 : Option Addr) (la12 ca12 : Nat), cellH h5 ⟨a9.block, a9.off + 2, none⟩ = some (.slice a12 la12 ca12) ∧
    VNew h5 (.cells #[.string (ByteArray.mk #[]), .int .i64 0, .slice none 0 0] 126) fun b13 h14 =>
    storeL ⟨b13, 0, none⟩ 0 [.string s10, .int .i64 x11, .slice a12 la12 ca12] h14 fun h15 =>
    ∃ s16 : ByteArray, cellH h15 ⟨b13, 0, none⟩ = some (.string s16) ∧
    ∃ x17 : Int, cellH h15 ⟨b13, 1, none⟩ = some (.int .i64 x17) ∧
    ∃ (a18 : Option Addr) (la18 ca18 : Nat), cellH h15 ⟨b13, 2, none⟩ = some (.slice a18 la18 ca18) ∧
    CallsH Tryd.prog 73 #[.pointer p2f0, .agg #[.string s16, .int .i64 x17, .slice a18 la18 ca18]] h15 fun v19 h20 =>
    v19 = .tuple #[] ∧
    ∃ m8, m8 < n4 ∧ I3 m8 h20 (IntKind.i64.wrap (y_7 + 1)))
  (R (.tuple #[]) h5)
theorem vf72 (a0w : Option Addr) (a1l : Option Addr) (la1l ca1l : Nat) (p2f0 : Option Addr) (h : Heap) (R : KV) (hF : F72 a0w a1l la1l ca1l p2f0 h R) : CallsH Tryd.prog 72 #[.pointer a0w, .slice a1l la1l ca1l, .func (.func 73) #[.pointer p2f0] #[]] h R :=
  calls_of_form (A := an72) (fn := Tryd.f72) (c := c72) (args := [.pointer a0w, .slice a1l la1l ca1l, .func (.func 73) #[.pointer p2f0] #[]]) Tryd.func72 (by kernel_rfl) mixed (by kernel_rfl) (by kernel_rfl : F72 a0w a1l la1l ca1l p2f0 h R = vcF Tryd.prog an72 Tryd.f72 c72 [.pointer a0w, .slice a1l la1l ca1l, .func (.func 73) #[.pointer p2f0] #[]] h R) hF
/-! ### 73 (refrain/proto.writer).event -/
noncomputable def c73 : Code := match Tryd.f73.body with | some c => c | none => .skip
noncomputable def an73 : Ann := { loops := fun i => [], draws := fun i => #[], joins := fun i => match i with | 4 => some [] | _ => none }
def F73 (a0w : Option Addr) (a1e_0 : ByteArray) (a1e_1 : Int) (a1e_2 : Option Addr) (la1e_2 ca1e_2 : Nat) (h : Heap) (R : KV) : Prop :=
  VNew h (.cells #[.string a1e_0, .int .i64 a1e_1, .slice a1e_2 la1e_2 ca1e_2] 126) fun b1 h2 =>
  ∃ s3 : ByteArray, cellH h2 ⟨b1, 0, none⟩ = some (.string s3) ∧
  ∃ x4 : Int, cellH h2 ⟨b1, 1, none⟩ = some (.int .i64 x4) ∧
  ∃ (a5 : Option Addr) (la5 ca5 : Nat), cellH h2 ⟨b1, 2, none⟩ = some (.slice a5 la5 ca5) ∧
  CallsH Tryd.prog 86 #[.agg #[.string s3, .int .i64 x4, .slice a5 la5 ca5]] h2 fun v6 h7 =>
  ∃ (a8 : Option Addr) (la8 ca8 : Nat), ∃ x9 : Int, v6 = .tuple #[.slice a8 la8 ca8, .int .i64 x9] ∧
  ∃ J10 : Heap → Prop, (cond (x9 != (0 : Int))
    (CallsH Tryd.prog 87 #[.pointer a0w, .int .i64 x9] h7 fun v11 h12 =>
      v11 = .tuple #[] ∧
      J10 h12)
    (J10 h7)) ∧
  ∀ (h13 : Heap) (g14 : Env), J10 h13 →
  VSome a0w fun a15 =>
  ∃ (a16 : Option Addr) (la16 ca16 : Nat), cellH h13 a15 = some (.slice a16 la16 ca16) ∧
  RunsTo Tryd.prog (Builtin.append_ #[35, 35] 35 #[.slice a16 la16 ca16, .slice a8 la8 ca8]) h13 fun v17 h18 =>
  ∃ (a19 : Option Addr) (la19 ca19 : Nat), v17 = .slice a19 la19 ca19 ∧
  VSome a0w fun a20 =>
  VStore h18 a20 (.slice a19 la19 ca19) fun h21 =>
  R (.tuple #[]) h21
theorem vf73 (a0w : Option Addr) (a1e_0 : ByteArray) (a1e_1 : Int) (a1e_2 : Option Addr) (la1e_2 ca1e_2 : Nat) (h : Heap) (R : KV) (hF : F73 a0w a1e_0 a1e_1 a1e_2 la1e_2 ca1e_2 h R) : CallsH Tryd.prog 73 #[.pointer a0w, .agg #[.string a1e_0, .int .i64 a1e_1, .slice a1e_2 la1e_2 ca1e_2]] h R :=
  calls_of_form (A := an73) (fn := Tryd.f73) (c := c73) (args := [.pointer a0w, .agg #[.string a1e_0, .int .i64 a1e_1, .slice a1e_2 la1e_2 ca1e_2]]) Tryd.func73 (by kernel_rfl) mixed (by kernel_rfl) (by kernel_rfl : F73 a0w a1e_0 a1e_1 a1e_2 la1e_2 ca1e_2 h R = vcF Tryd.prog an73 Tryd.f73 c73 [.pointer a0w, .agg #[.string a1e_0, .int .i64 a1e_1, .slice a1e_2 la1e_2 ca1e_2]] h R) hF
/-! ### 74 refrain/proto.fields$12 -/
noncomputable def c74 : Code := match Tryd.f74.body with | some c => c | none => .skip
noncomputable def an74 : Ann := { loops := fun i => [], draws := fun i => #[], joins := fun i => none }
def F74 (a0r : Option Addr) (a1q : Option Addr) (h : Heap) (R : KV) : Prop :=
  CallsH Tryd.prog 75 #[.pointer a0r, .func (.func 76) #[.pointer a0r] #[]] h fun v1 h2 =>
  ∃ (a3 : Option Addr) (la3 ca3 : Nat), v1 = .slice a3 la3 ca3 ∧
  VSome a1q fun a4 =>
  VStore h2 ⟨a4.block, a4.off + 5, none⟩ (.slice a3 la3 ca3) fun h5 =>
  R (.tuple #[]) h5
theorem vf74 (a0r : Option Addr) (a1q : Option Addr) (h : Heap) (R : KV) (hF : F74 a0r a1q h R) : CallsH Tryd.prog 74 #[.pointer a0r, .pointer a1q] h R :=
  calls_of_form (A := an74) (fn := Tryd.f74) (c := c74) (args := [.pointer a0r, .pointer a1q]) Tryd.func74 (by kernel_rfl) mixed (by kernel_rfl) (by kernel_rfl : F74 a0r a1q h R = vcF Tryd.prog an74 Tryd.f74 c74 [.pointer a0r, .pointer a1q] h R) hF
/-! ### 75 refrain/proto.readList[refrain/api.Event] -/
noncomputable def c75 : Code := match Tryd.f75.body with | some c => c | none => .skip
noncomputable def an75 : Ann := { loops := fun i => match i with | 5 => [(5, .int .i64), (6, .slc)] | _ => [], draws := fun i => #[], joins := fun i => match i with | 4 => some [] | _ => none }
def F75 (a0r : Option Addr) (p1f0 : Option Addr) (h : Heap) (R : KV) : Prop :=
  CallsH Tryd.prog 44 #[.pointer a0r] h fun v1 h2 =>
  ∃ x3 : Int, v1 = .int .i64 x3 ∧
  ∃ J4 : Heap → Prop, (cond (decide (x3 < (0 : Int))) (VSome a0r fun a5 =>
      VStore h2 ⟨a5.block, a5.off + 1, none⟩ (.bool true) fun h6 =>
      J4 h6) (VSome a0r fun a7 =>
      ∃ (a8 : Option Addr) (la8 ca8 : Nat), cellH h2 a7 = some (.slice a8 la8 ca8) ∧
      cond (decide (x3 > (la8 : Int)))
      (VSome a0r fun a9 =>
        VStore h2 ⟨a9.block, a9.off + 1, none⟩ (.bool true) fun h10 =>
        J4 h10)
      (J4 h2))) ∧
  ∀ (h11 : Heap) (g12 : Env), J4 h11 →
  ∃ I13 : Nat → Heap → Int → Option Addr → Nat → Nat → Prop, (∃ n14, I13 n14 h11 x3 none 0 0) ∧
  ∀ (n14 : Nat) (h15 : Heap) (g16 : Env) (n_17 : Int) (l_18 : Option Addr) (ll_18 cl_18 : Nat), I13 n14 h15 n_17 l_18 ll_18 cl_18 →
  cond (decide (n_17 > (0 : Int))) (VSome a0r fun a20 =>
    ∃ b21 : Bool, cellH h15 ⟨a20.block, a20.off + 1, none⟩ = some (.bool b21) ∧
    cond (!b21)
    (CallsH Tryd.prog 76 #[.pointer p1f0] h15 fun v22 h23 =>
      ∃ s24 : ByteArray, ∃ x25 : Int, ∃ (a26 : Option Addr) (la26 ca26 : Nat), v22 = .agg #[.string s24, .int .i64 x25, .slice a26 la26 ca26] ∧
      ∃ s27 : ByteArray, ∃ x28 : Int, ∃ (a29 : Option Addr) (la29 ca29 : Nat), (.agg #[.string s24, .int .i64 x25, .slice a26 la26 ca26] : Value) = .agg #[.string s27, .int .i64 x28, .slice a29 la29 ca29] ∧
      VNew h23 (.cells #[.string s27, .int .i64 x28, .slice a29 la29 ca29] 126) fun b30 h31 =>
      RunsTo Tryd.prog (Builtin.append_ #[24, 24] 24 #[.slice l_18 ll_18 cl_18, .slice (some ⟨b30, 0, none⟩) 1 1]) h31 fun v32 h33 =>
      ∃ (a34 : Option Addr) (la34 ca34 : Nat), v32 = .slice a34 la34 ca34 ∧
      ∃ m19, m19 < n14 ∧ I13 m19 h33 (IntKind.i64.wrap (n_17 - 1)) a34 la34 ca34)
    (R (.slice l_18 ll_18 cl_18) h15)) (R (.slice l_18 ll_18 cl_18) h15)
theorem vf75 (a0r : Option Addr) (p1f0 : Option Addr) (h : Heap) (R : KV) (hF : F75 a0r p1f0 h R) : CallsH Tryd.prog 75 #[.pointer a0r, .func (.func 76) #[.pointer p1f0] #[]] h R :=
  calls_of_form (A := an75) (fn := Tryd.f75) (c := c75) (args := [.pointer a0r, .func (.func 76) #[.pointer p1f0] #[]]) Tryd.func75 (by kernel_rfl) mixed (by kernel_rfl) (by kernel_rfl : F75 a0r p1f0 h R = vcF Tryd.prog an75 Tryd.f75 c75 [.pointer a0r, .func (.func 76) #[.pointer p1f0] #[]] h R) hF
/-! ### 76 (refrain/proto.reader).event -/
noncomputable def c76 : Code := match Tryd.f76.body with | some c => c | none => .skip
noncomputable def an76 : Ann := { loops := fun i => [], draws := fun i => #[], joins := fun i => none }
def F76 (a0r : Option Addr) (h : Heap) (R : KV) : Prop :=
  VNew h (.cells #[.string (ByteArray.mk #[]), .int .i64 0, .slice none 0 0] 126) fun b1 h2 =>
  VSome a0r fun a3 =>
  ∃ b4 : Bool, cellH h2 ⟨a3.block, a3.off + 1, none⟩ = some (.bool b4) ∧
  cond b4
  (storeL ⟨b1, 0, none⟩ 0 [.string (ByteArray.mk #[]), .int .i64 0, .slice none 0 0] h2 fun h5 =>
    ∃ s6 : ByteArray, cellH h5 ⟨b1, 0, none⟩ = some (.string s6) ∧
    ∃ x7 : Int, cellH h5 ⟨b1, 1, none⟩ = some (.int .i64 x7) ∧
    ∃ (a8 : Option Addr) (la8 ca8 : Nat), cellH h5 ⟨b1, 2, none⟩ = some (.slice a8 la8 ca8) ∧
    R (.agg #[.string s6, .int .i64 x7, .slice a8 la8 ca8]) h5)
  (VSome a0r fun a9 =>
    ∃ (a10 : Option Addr) (la10 ca10 : Nat), cellH h2 a9 = some (.slice a10 la10 ca10) ∧
    CallsH Tryd.prog 88 #[.slice a10 la10 ca10] h2 fun v11 h12 =>
    ∃ s13 : ByteArray, ∃ x14 : Int, ∃ (a15 : Option Addr) (la15 ca15 : Nat), ∃ x16 : Int, ∃ x17 : Int, v11 = .tuple #[.agg #[.string s13, .int .i64 x14, .slice a15 la15 ca15], .int .i64 x16, .int .i64 x17] ∧
    VNew h12 (.cells #[.string (ByteArray.mk #[]), .int .i64 0, .slice none 0 0] 126) fun b18 h19 =>
    storeL ⟨b18, 0, none⟩ 0 [.string s13, .int .i64 x14, .slice a15 la15 ca15] h19 fun h20 =>
    cond (x17 != (0 : Int))
    (VSome a0r fun a21 =>
      VStore h20 ⟨a21.block, a21.off + 1, none⟩ (.bool true) fun h22 =>
      storeL ⟨b1, 0, none⟩ 0 [.string (ByteArray.mk #[]), .int .i64 0, .slice none 0 0] h22 fun h23 =>
      ∃ s24 : ByteArray, cellH h23 ⟨b1, 0, none⟩ = some (.string s24) ∧
      ∃ x25 : Int, cellH h23 ⟨b1, 1, none⟩ = some (.int .i64 x25) ∧
      ∃ (a26 : Option Addr) (la26 ca26 : Nat), cellH h23 ⟨b1, 2, none⟩ = some (.slice a26 la26 ca26) ∧
      R (.agg #[.string s24, .int .i64 x25, .slice a26 la26 ca26]) h23)
    (VSome a0r fun a27 =>
      ∃ (a28 : Option Addr) (la28 ca28 : Nat), cellH h20 a27 = some (.slice a28 la28 ca28) ∧
      VSlice 1 a28 ca28 x16 (la28 : Int) (ca28 : Int) fun a29 la29 ca29 =>
      VSome a0r fun a30 =>
      VStore h20 a30 (.slice a29 la29 ca29) fun h31 =>
      ∃ s32 : ByteArray, cellH h31 ⟨b18, 0, none⟩ = some (.string s32) ∧
      ∃ x33 : Int, cellH h31 ⟨b18, 1, none⟩ = some (.int .i64 x33) ∧
      ∃ (a34 : Option Addr) (la34 ca34 : Nat), cellH h31 ⟨b18, 2, none⟩ = some (.slice a34 la34 ca34) ∧
      storeL ⟨b1, 0, none⟩ 0 [.string s32, .int .i64 x33, .slice a34 la34 ca34] h31 fun h35 =>
      ∃ s36 : ByteArray, cellH h35 ⟨b1, 0, none⟩ = some (.string s36) ∧
      ∃ x37 : Int, cellH h35 ⟨b1, 1, none⟩ = some (.int .i64 x37) ∧
      ∃ (a38 : Option Addr) (la38 ca38 : Nat), cellH h35 ⟨b1, 2, none⟩ = some (.slice a38 la38 ca38) ∧
      R (.agg #[.string s36, .int .i64 x37, .slice a38 la38 ca38]) h35))
theorem vf76 (a0r : Option Addr) (h : Heap) (R : KV) (hF : F76 a0r h R) : CallsH Tryd.prog 76 #[.pointer a0r] h R :=
  calls_of_form (A := an76) (fn := Tryd.f76) (c := c76) (args := [.pointer a0r]) Tryd.func76 (by kernel_rfl) mixed (by kernel_rfl) (by kernel_rfl : F76 a0r h R = vcF Tryd.prog an76 Tryd.f76 c76 [.pointer a0r] h R) hF
/-! ### 77 (refrain/proto.reader).bytes -/
noncomputable def c77 : Code := match Tryd.f77.body with | some c => c | none => .skip
noncomputable def an77 : Ann := { loops := fun i => [], draws := fun i => #[], joins := fun i => none }
def F77 (a0r : Option Addr) (a1n : Int) (h : Heap) (R : KV) : Prop :=
  VSome a0r fun a1 =>
  ∃ b2 : Bool, cellH h ⟨a1.block, a1.off + 1, none⟩ = some (.bool b2) ∧
  cond b2 (VSome a0r fun a3 =>
    VStore h ⟨a3.block, a3.off + 1, none⟩ (.bool true) fun h4 =>
    R (.slice none 0 0) h4) (cond (decide (a1n < (0 : Int))) (VSome a0r fun a5 =>
      VStore h ⟨a5.block, a5.off + 1, none⟩ (.bool true) fun h6 =>
      R (.slice none 0 0) h6) (VSome a0r fun a7 =>
      ∃ (a8 : Option Addr) (la8 ca8 : Nat), cellH h a7 = some (.slice a8 la8 ca8) ∧
      cond (decide (a1n > (la8 : Int)))
      (VSome a0r fun a9 =>
        VStore h ⟨a9.block, a9.off + 1, none⟩ (.bool true) fun h10 =>
        R (.slice none 0 0) h10)
      (VSome a0r fun a11 =>
        ∃ (a12 : Option Addr) (la12 ca12 : Nat), cellH h a11 = some (.slice a12 la12 ca12) ∧
        VSlice 1 a12 ca12 0 a1n (ca12 : Int) fun a13 la13 ca13 =>
        VSome a0r fun a14 =>
        ∃ (a15 : Option Addr) (la15 ca15 : Nat), cellH h a14 = some (.slice a15 la15 ca15) ∧
        VSlice 1 a15 ca15 a1n (la15 : Int) (ca15 : Int) fun a16 la16 ca16 =>
        VSome a0r fun a17 =>
        VStore h a17 (.slice a16 la16 ca16) fun h18 =>
        R (.slice a13 la13 ca13) h18)))
theorem vf77 (a0r : Option Addr) (a1n : Int) (h : Heap) (R : KV) (hF : F77 a0r a1n h R) : CallsH Tryd.prog 77 #[.pointer a0r, .int .i64 a1n] h R :=
  calls_of_form (A := an77) (fn := Tryd.f77) (c := c77) (args := [.pointer a0r, .int .i64 a1n]) Tryd.func77 (by kernel_rfl) mixed (by kernel_rfl) (by kernel_rfl : F77 a0r a1n h R = vcF Tryd.prog an77 Tryd.f77 c77 [.pointer a0r, .int .i64 a1n] h R) hF
/-! ### 78 refrain/proto.fourth -/
noncomputable def c78 : Code := match Tryd.f78.body with | some c => c | none => .skip
noncomputable def an78 : Ann := { loops := fun i => [], draws := fun i => match i with | 1 => #[0, 1, 3, 7, 15, 0, 32, 96, 224, 480, 1023, 0, 2048, 6144, 14336, 30720, 65535, 0, 131072, 393216, 917504, 2097151, 4194303] | _ => #[], joins := fun i => none }
def F78 (a0b : Option Addr) (la0b ca0b : Nat) (h : Heap) (R : KV) : Prop :=
  VIdx a0b la0b 0 1 fun a1 =>
  ∃ x2 : Int, cellH h a1 = some (.int .u8 x2) ∧
  (0 : Int) ≤ 24 ∧
  VIdx a0b la0b 1 1 fun a3 =>
  ∃ x4 : Int, cellH h a3 = some (.int .u8 x4) ∧
  (0 : Int) ≤ 16 ∧
  VIdx a0b la0b 2 1 fun a5 =>
  ∃ x6 : Int, cellH h a5 = some (.int .u8 x6) ∧
  (0 : Int) ≤ 8 ∧
  VIdx a0b la0b 3 1 fun a7 =>
  ∃ x8 : Int, cellH h a7 = some (.int .u8 x8) ∧
  R (.int .u32 (bitsOp .or .u32 (bitsOp .or .u32 (bitsOp .or .u32 (IntKind.u32.wrap ((IntKind.u32.wrap x2) * 2 ^ (min (Int.toNat 24) (IntKind.bits .u32)))) (IntKind.u32.wrap ((IntKind.u32.wrap x4) * 2 ^ (min (Int.toNat 16) (IntKind.bits .u32))))) (IntKind.u32.wrap ((IntKind.u32.wrap x6) * 2 ^ (min (Int.toNat 8) (IntKind.bits .u32))))) (IntKind.u32.wrap x8))) h
theorem vf78 (a0b : Option Addr) (la0b ca0b : Nat) (h : Heap) (R : KV) (hF : F78 a0b la0b ca0b h R) : CallsH Tryd.prog 78 #[.slice a0b la0b ca0b] h R :=
  calls_of_form (A := an78) (fn := Tryd.f78) (c := c78) (args := [.slice a0b la0b ca0b]) Tryd.func78 (by kernel_rfl) mixed (by kernel_rfl) (by kernel_rfl : F78 a0b la0b ca0b h R = vcF Tryd.prog an78 Tryd.f78 c78 [.slice a0b la0b ca0b] h R) hF
/-! ### 79 refrain/wire.PutInt -/
noncomputable def c79 : Code := match Tryd.f79.body with | some c => c | none => .skip
noncomputable def an79 : Ann := { loops := fun i => [], draws := fun i => #[], joins := fun i => none }
def F79 (a0n : Int) (h : Heap) (R : KV) : Prop :=
  CallsH Tryd.prog 89 #[.slice none 0 0, .int .i64 a0n] h fun v1 h2 =>
  ∃ (a3 : Option Addr) (la3 ca3 : Nat), v1 = .slice a3 la3 ca3 ∧
  R (.slice a3 la3 ca3) h2
theorem vf79 (a0n : Int) (h : Heap) (R : KV) (hF : F79 a0n h R) : CallsH Tryd.prog 79 #[.int .i64 a0n] h R :=
  calls_of_form (A := an79) (fn := Tryd.f79) (c := c79) (args := [.int .i64 a0n]) Tryd.func79 (by kernel_rfl) mixed (by kernel_rfl) (by kernel_rfl : F79 a0n h R = vcF Tryd.prog an79 Tryd.f79 c79 [.int .i64 a0n] h R) hF
/-! ### 80 refrain/proto.writeList[refrain/api.Value] -/
noncomputable def c80 : Code := match Tryd.f80.body with | some c => c | none => .skip
noncomputable def an80 : Ann := { loops := fun i => match i with | 2 => [(14, .int .i64)] | _ => [], draws := fun i => #[], joins := fun i => none }
def F80 (a0w : Option Addr) (a1l : Option Addr) (la1l ca1l : Nat) (p2f0 : Option Addr) (h : Heap) (R : KV) : Prop :=
  CallsH Tryd.prog 34 #[.pointer a0w, .int .i64 (la1l : Int)] h fun v1 h2 =>
  v1 = .tuple #[] ∧
  ∃ I3 : Nat → Heap → Int → Prop, (∃ n4, I3 n4 h2 0) ∧
  ∀ (n4 : Nat) (h5 : Heap) (g6 : Env) (y_7 : Int), I3 n4 h5 y_7 →
  cond (decide (y_7 < (la1l : Int)))
  (VIdx a1l la1l y_7 4 fun a9 =>
    ∃ x10 : Int, cellH h5 a9 = some (.int .i64 x10) ∧
    ∃ x11 : Int, cellH h5 ⟨a9.block, a9.off + 1, none⟩ = some (.int .i64 x11) ∧
    ∃ s12 : ByteArray, cellH h5 ⟨a9.block, a9.off + 2, none⟩ = some (.string s12) ∧
    ∃ b13 : Bool, cellH h5 ⟨a9.block, a9.off + 3, none⟩ = some (.bool b13) ∧
    VNew h5 (.cells #[.int .i64 0, .int .i64 0, .string (ByteArray.mk #[]), .bool false] 134) fun b14 h15 =>
    storeL ⟨b14, 0, none⟩ 0 [.int .i64 x10, .int .i64 x11, .string s12, .bool b13] h15 fun h16 =>
    ∃ x17 : Int, cellH h16 ⟨b14, 0, none⟩ = some (.int .i64 x17) ∧
    ∃ x18 : Int, cellH h16 ⟨b14, 1, none⟩ = some (.int .i64 x18) ∧
    ∃ s19 : ByteArray, cellH h16 ⟨b14, 2, none⟩ = some (.string s19) ∧
    ∃ b20 : Bool, cellH h16 ⟨b14, 3, none⟩ = some (.bool b20) ∧
    CallsH Tryd.prog 81 #[.pointer p2f0, .agg #[.int .i64 x17, .int .i64 x18, .string s19, .bool b20]] h16 fun v21 h22 =>
    v21 = .tuple #[] ∧
    ∃ m8, m8 < n4 ∧ I3 m8 h22 (IntKind.i64.wrap (y_7 + 1)))
  (R (.tuple #[]) h5)
theorem vf80 (a0w : Option Addr) (a1l : Option Addr) (la1l ca1l : Nat) (p2f0 : Option Addr) (h : Heap) (R : KV) (hF : F80 a0w a1l la1l ca1l p2f0 h R) : CallsH Tryd.prog 80 #[.pointer a0w, .slice a1l la1l ca1l, .func (.func 81) #[.pointer p2f0] #[]] h R :=
  calls_of_form (A := an80) (fn := Tryd.f80) (c := c80) (args := [.pointer a0w, .slice a1l la1l ca1l, .func (.func 81) #[.pointer p2f0] #[]]) Tryd.func80 (by kernel_rfl) mixed (by kernel_rfl) (by kernel_rfl : F80 a0w a1l la1l ca1l p2f0 h R = vcF Tryd.prog an80 Tryd.f80 c80 [.pointer a0w, .slice a1l la1l ca1l, .func (.func 81) #[.pointer p2f0] #[]] h R) hF
/-! ### 81 (refrain/proto.writer).value -/
noncomputable def c81 : Code := match Tryd.f81.body with | some c => c | none => .skip
noncomputable def an81 : Ann := { loops := fun i => [], draws := fun i => match i with | 3 => #[0, 0, 2, 6, 14, 0, 32, 96, 224, 510, 1023, 2047, 4095] | _ => #[], joins := fun i => match i with | 3 => some [] | _ => none }
def F81 (a0w : Option Addr) (a1v_0 : Int) (a1v_1 : Int) (a1v_2 : ByteArray) (a1v_3 : Bool) (h : Heap) (R : KV) : Prop :=
  VNew h (.cells #[.int .i64 a1v_0, .int .i64 a1v_1, .string a1v_2, .bool a1v_3] 134) fun b1 h2 =>
  ∃ J3 : Heap → Prop, (∃ x4 : Int, cellH h2 ⟨b1, 0, none⟩ = some (.int .i64 x4) ∧
    ∃ x5 : Int, cellH h2 ⟨b1, 1, none⟩ = some (.int .i64 x5) ∧
    ∃ s6 : ByteArray, cellH h2 ⟨b1, 2, none⟩ = some (.string s6) ∧
    ∃ b7 : Bool, cellH h2 ⟨b1, 3, none⟩ = some (.bool b7) ∧
    CallsH Tryd.prog 90 #[.agg #[.int .i64 x4, .int .i64 x5, .string s6, .bool b7]] h2 fun v8 h9 =>
    ∃ b10 : Bool, v8 = .bool b10 ∧
    cond (!b10)
    (CallsH Tryd.prog 87 #[.pointer a0w, .int .i64 12] h9 fun v11 h12 =>
      v11 = .tuple #[] ∧
      J3 h12)
    (J3 h9)) ∧
  ∀ (h13 : Heap) (g14 : Env), J3 h13 →
  VSome a0w fun a15 =>
  ∃ (a16 : Option Addr) (la16 ca16 : Nat), cellH h13 a15 = some (.slice a16 la16 ca16) ∧
  ∃ x17 : Int, cellH h13 ⟨b1, 0, none⟩ = some (.int .i64 x17) ∧
  VNew h13 (.cells #[.int .u8 (IntKind.u8.wrap x17)] 5) fun b18 h19 =>
  (cellH h19 a15 = some (.slice a16 la16 ca16)) ∧
  RunsTo Tryd.prog (Builtin.append_ #[35, 35] 35 #[.slice a16 la16 ca16, .slice (some ⟨b18, 0, none⟩) 1 1]) h19 fun v20 h21 =>
  ∃ (a22 : Option Addr) (la22 ca22 : Nat), v20 = .slice a22 la22 ca22 ∧
  VSome a0w fun a23 =>
  VStore h21 a23 (.slice a22 la22 ca22) fun h24 =>
  ∃ x25 : Int, cellH h24 ⟨b1, 0, none⟩ = some (.int .i64 x25) ∧
  cond (x25 == (1 : Int))
  (∃ x26 : Int, cellH h24 ⟨b1, 1, none⟩ = some (.int .i64 x26) ∧
    CallsH Tryd.prog 34 #[.pointer a0w, .int .i64 x26] h24 fun v27 h28 =>
    v27 = .tuple #[] ∧
    R (.tuple #[]) h28)
  (cond (x25 == (2 : Int))
    (∃ s29 : ByteArray, cellH h24 ⟨b1, 2, none⟩ = some (.string s29) ∧
      CallsH Tryd.prog 40 #[.pointer a0w, .string s29] h24 fun v30 h31 =>
      v30 = .tuple #[] ∧
      R (.tuple #[]) h31)
    (∃ b32 : Bool, cellH h24 ⟨b1, 3, none⟩ = some (.bool b32) ∧
      CallsH Tryd.prog 33 #[.pointer a0w, .bool b32] h24 fun v33 h34 =>
      v33 = .tuple #[] ∧
      R (.tuple #[]) h34))
theorem vf81 (a0w : Option Addr) (a1v_0 : Int) (a1v_1 : Int) (a1v_2 : ByteArray) (a1v_3 : Bool) (h : Heap) (R : KV) (hF : F81 a0w a1v_0 a1v_1 a1v_2 a1v_3 h R) : CallsH Tryd.prog 81 #[.pointer a0w, .agg #[.int .i64 a1v_0, .int .i64 a1v_1, .string a1v_2, .bool a1v_3]] h R :=
  calls_of_form (A := an81) (fn := Tryd.f81) (c := c81) (args := [.pointer a0w, .agg #[.int .i64 a1v_0, .int .i64 a1v_1, .string a1v_2, .bool a1v_3]]) Tryd.func81 (by kernel_rfl) mixed (by kernel_rfl) (by kernel_rfl : F81 a0w a1v_0 a1v_1 a1v_2 a1v_3 h R = vcF Tryd.prog an81 Tryd.f81 c81 [.pointer a0w, .agg #[.int .i64 a1v_0, .int .i64 a1v_1, .string a1v_2, .bool a1v_3]] h R) hF
/-! ### 82 refrain/wire.Int -/
noncomputable def c82 : Code := match Tryd.f82.body with | some c => c | none => .skip
noncomputable def an82 : Ann := { loops := fun i => match i with | 3 => [(2, .int .i64), (3, .int .i64), (4, .int .i64), (5, .int .u64), (10, .int .i64)] | _ => [], draws := fun i => #[], joins := fun i => none }
def F82 (a0b : Option Addr) (la0b ca0b : Nat) (h : Heap) (R : KV) : Prop :=
  ∃ I1 : Nat → Heap → Int → Int → Int → Int → Int → Prop, (∃ n2, I1 n2 h 0 0 0 0 0) ∧
  ∀ (n2 : Nat) (h3 : Heap) (g4 : Env) (y_5 : Int) (y_6 : Int) (y_7 : Int) (z_8 : Int) (y_9 : Int), I1 n2 h3 y_5 y_6 y_7 z_8 y_9 →
  cond (decide (y_9 < (la0b : Int)))
  (VIdx a0b la0b y_9 1 fun a11 =>
    ∃ x12 : Int, cellH h3 a11 = some (.int .u8 x12) ∧
    cond (y_9 == (9 : Int)) (cond (decide (x12 > (1 : Int)))
      (R (.tuple #[.int .i64 0, .int .i64 0, .int .i64 31]) h3)
      ((0 : Int) ≤ (IntKind.i64.wrap (7 * y_9)) ∧
        cond (decide (x12 ≥ (128 : Int)))
        (∃ m10, m10 < n2 ∧ I1 m10 h3 y_5 y_6 y_7 (bitsOp .or .u64 z_8 (IntKind.u64.wrap ((IntKind.u64.wrap (bitsOp .and .u8 x12 127)) * 2 ^ (min (Int.toNat (IntKind.i64.wrap (7 * y_9))) (IntKind.bits .u64))))) (IntKind.i64.wrap (y_9 + 1)))
        (cond (x12 == (0 : Int)) (cond (decide (y_9 > (0 : Int)))
            (R (.tuple #[.int .i64 0, .int .i64 0, .int .i64 31]) h3)
            ((0 : Int) ≤ 1 ∧
              R (.tuple #[.int .i64 (bitsOp .xor .i64 (IntKind.i64.wrap (Int.fdiv (bitsOp .or .u64 z_8 (IntKind.u64.wrap ((IntKind.u64.wrap (bitsOp .and .u8 x12 127)) * 2 ^ (min (Int.toNat (IntKind.i64.wrap (7 * y_9))) (IntKind.bits .u64))))) (2 ^ (min (Int.toNat 1) (IntKind.bits .u64))))) (IntKind.i64.wrap (0 - (IntKind.i64.wrap (bitsOp .and .u64 (bitsOp .or .u64 z_8 (IntKind.u64.wrap ((IntKind.u64.wrap (bitsOp .and .u8 x12 127)) * 2 ^ (min (Int.toNat (IntKind.i64.wrap (7 * y_9))) (IntKind.bits .u64))))) 1))))), .int .i64 (IntKind.i64.wrap (y_9 + 1)), .int .i64 0]) h3)) ((0 : Int) ≤ 1 ∧
            R (.tuple #[.int .i64 (bitsOp .xor .i64 (IntKind.i64.wrap (Int.fdiv (bitsOp .or .u64 z_8 (IntKind.u64.wrap ((IntKind.u64.wrap (bitsOp .and .u8 x12 127)) * 2 ^ (min (Int.toNat (IntKind.i64.wrap (7 * y_9))) (IntKind.bits .u64))))) (2 ^ (min (Int.toNat 1) (IntKind.bits .u64))))) (IntKind.i64.wrap (0 - (IntKind.i64.wrap (bitsOp .and .u64 (bitsOp .or .u64 z_8 (IntKind.u64.wrap ((IntKind.u64.wrap (bitsOp .and .u8 x12 127)) * 2 ^ (min (Int.toNat (IntKind.i64.wrap (7 * y_9))) (IntKind.bits .u64))))) 1))))), .int .i64 (IntKind.i64.wrap (y_9 + 1)), .int .i64 0]) h3)))) ((0 : Int) ≤ (IntKind.i64.wrap (7 * y_9)) ∧
      cond (decide (x12 ≥ (128 : Int)))
      (∃ m10, m10 < n2 ∧ I1 m10 h3 y_5 y_6 y_7 (bitsOp .or .u64 z_8 (IntKind.u64.wrap ((IntKind.u64.wrap (bitsOp .and .u8 x12 127)) * 2 ^ (min (Int.toNat (IntKind.i64.wrap (7 * y_9))) (IntKind.bits .u64))))) (IntKind.i64.wrap (y_9 + 1)))
      (cond (x12 == (0 : Int)) (cond (decide (y_9 > (0 : Int)))
          (R (.tuple #[.int .i64 0, .int .i64 0, .int .i64 31]) h3)
          ((0 : Int) ≤ 1 ∧
            R (.tuple #[.int .i64 (bitsOp .xor .i64 (IntKind.i64.wrap (Int.fdiv (bitsOp .or .u64 z_8 (IntKind.u64.wrap ((IntKind.u64.wrap (bitsOp .and .u8 x12 127)) * 2 ^ (min (Int.toNat (IntKind.i64.wrap (7 * y_9))) (IntKind.bits .u64))))) (2 ^ (min (Int.toNat 1) (IntKind.bits .u64))))) (IntKind.i64.wrap (0 - (IntKind.i64.wrap (bitsOp .and .u64 (bitsOp .or .u64 z_8 (IntKind.u64.wrap ((IntKind.u64.wrap (bitsOp .and .u8 x12 127)) * 2 ^ (min (Int.toNat (IntKind.i64.wrap (7 * y_9))) (IntKind.bits .u64))))) 1))))), .int .i64 (IntKind.i64.wrap (y_9 + 1)), .int .i64 0]) h3)) ((0 : Int) ≤ 1 ∧
          R (.tuple #[.int .i64 (bitsOp .xor .i64 (IntKind.i64.wrap (Int.fdiv (bitsOp .or .u64 z_8 (IntKind.u64.wrap ((IntKind.u64.wrap (bitsOp .and .u8 x12 127)) * 2 ^ (min (Int.toNat (IntKind.i64.wrap (7 * y_9))) (IntKind.bits .u64))))) (2 ^ (min (Int.toNat 1) (IntKind.bits .u64))))) (IntKind.i64.wrap (0 - (IntKind.i64.wrap (bitsOp .and .u64 (bitsOp .or .u64 z_8 (IntKind.u64.wrap ((IntKind.u64.wrap (bitsOp .and .u8 x12 127)) * 2 ^ (min (Int.toNat (IntKind.i64.wrap (7 * y_9))) (IntKind.bits .u64))))) 1))))), .int .i64 (IntKind.i64.wrap (y_9 + 1)), .int .i64 0]) h3))))
  (R (.tuple #[.int .i64 0, .int .i64 0, .int .i64 30]) h3)
theorem vf82 (a0b : Option Addr) (la0b ca0b : Nat) (h : Heap) (R : KV) (hF : F82 a0b la0b ca0b h R) : CallsH Tryd.prog 82 #[.slice a0b la0b ca0b] h R :=
  calls_of_form (A := an82) (fn := Tryd.f82) (c := c82) (args := [.slice a0b la0b ca0b]) Tryd.func82 (by kernel_rfl) mixed (by kernel_rfl) (by kernel_rfl : F82 a0b la0b ca0b h R = vcF Tryd.prog an82 Tryd.f82 c82 [.slice a0b la0b ca0b] h R) hF
/-! ### 83 refrain/proto.readList[refrain/api.Value] -/
noncomputable def c83 : Code := match Tryd.f83.body with | some c => c | none => .skip
noncomputable def an83 : Ann := { loops := fun i => match i with | 5 => [(5, .int .i64), (6, .slc)] | _ => [], draws := fun i => #[], joins := fun i => match i with | 4 => some [] | _ => none }
def F83 (a0r : Option Addr) (p1f0 : Option Addr) (h : Heap) (R : KV) : Prop :=
  CallsH Tryd.prog 44 #[.pointer a0r] h fun v1 h2 =>
  ∃ x3 : Int, v1 = .int .i64 x3 ∧
  ∃ J4 : Heap → Prop, (cond (decide (x3 < (0 : Int))) (VSome a0r fun a5 =>
      VStore h2 ⟨a5.block, a5.off + 1, none⟩ (.bool true) fun h6 =>
      J4 h6) (VSome a0r fun a7 =>
      ∃ (a8 : Option Addr) (la8 ca8 : Nat), cellH h2 a7 = some (.slice a8 la8 ca8) ∧
      cond (decide (x3 > (la8 : Int)))
      (VSome a0r fun a9 =>
        VStore h2 ⟨a9.block, a9.off + 1, none⟩ (.bool true) fun h10 =>
        J4 h10)
      (J4 h2))) ∧
  ∀ (h11 : Heap) (g12 : Env), J4 h11 →
  ∃ I13 : Nat → Heap → Int → Option Addr → Nat → Nat → Prop, (∃ n14, I13 n14 h11 x3 none 0 0) ∧
  ∀ (n14 : Nat) (h15 : Heap) (g16 : Env) (n_17 : Int) (l_18 : Option Addr) (ll_18 cl_18 : Nat), I13 n14 h15 n_17 l_18 ll_18 cl_18 →
  cond (decide (n_17 > (0 : Int))) (VSome a0r fun a20 =>
    ∃ b21 : Bool, cellH h15 ⟨a20.block, a20.off + 1, none⟩ = some (.bool b21) ∧
    cond (!b21)
    (CallsH Tryd.prog 84 #[.pointer p1f0] h15 fun v22 h23 =>
      ∃ x24 : Int, ∃ x25 : Int, ∃ s26 : ByteArray, ∃ b27 : Bool, v22 = .agg #[.int .i64 x24, .int .i64 x25, .string s26, .bool b27] ∧
      ∃ x28 : Int, ∃ x29 : Int, ∃ s30 : ByteArray, ∃ b31 : Bool, (.agg #[.int .i64 x24, .int .i64 x25, .string s26, .bool b27] : Value) = .agg #[.int .i64 x28, .int .i64 x29, .string s30, .bool b31] ∧
      VNew h23 (.cells #[.int .i64 x28, .int .i64 x29, .string s30, .bool b31] 134) fun b32 h33 =>
      RunsTo Tryd.prog (Builtin.append_ #[98, 98] 98 #[.slice l_18 ll_18 cl_18, .slice (some ⟨b32, 0, none⟩) 1 1]) h33 fun v34 h35 =>
      ∃ (a36 : Option Addr) (la36 ca36 : Nat), v34 = .slice a36 la36 ca36 ∧
      ∃ m19, m19 < n14 ∧ I13 m19 h35 (IntKind.i64.wrap (n_17 - 1)) a36 la36 ca36)
    (R (.slice l_18 ll_18 cl_18) h15)) (R (.slice l_18 ll_18 cl_18) h15)
theorem vf83 (a0r : Option Addr) (p1f0 : Option Addr) (h : Heap) (R : KV) (hF : F83 a0r p1f0 h R) : CallsH Tryd.prog 83 #[.pointer a0r, .func (.func 84) #[.pointer p1f0] #[]] h R :=
  calls_of_form (A := an83) (fn := Tryd.f83) (c := c83) (args := [.pointer a0r, .func (.func 84) #[.pointer p1f0] #[]]) Tryd.func83 (by kernel_rfl) mixed (by kernel_rfl) (by kernel_rfl : F83 a0r p1f0 h R = vcF Tryd.prog an83 Tryd.f83 c83 [.pointer a0r, .func (.func 84) #[.pointer p1f0] #[]] h R) hF
/-! ### 84 (refrain/proto.reader).value -/
noncomputable def c84 : Code := match Tryd.f84.body with | some c => c | none => .skip
noncomputable def an84 : Ann := { loops := fun i => [], draws := fun i => #[], joins := fun i => match i with | 9 => some [] | _ => none }
def F84 (a0r : Option Addr) (h : Heap) (R : KV) : Prop :=
  VNew h (.cells #[.int .i64 0, .int .i64 0, .string (ByteArray.mk #[]), .bool false] 134) fun b1 h2 =>
  CallsH Tryd.prog 29 #[.pointer a0r] h2 fun v3 h4 =>
  ∃ x5 : Int, v3 = .int .u8 x5 ∧
  VNew h4 (.cells #[.int .i64 0, .int .i64 0, .string (ByteArray.mk #[]), .bool false] 134) fun b6 h7 =>
  storeL ⟨b6, 0, none⟩ 0 [.int .i64 (IntKind.i64.wrap x5), .int .i64 0, .string (ByteArray.mk #[]), .bool false] h7 fun h8 =>
  ∃ J9 : Heap → Prop, (∃ x10 : Int, cellH h8 ⟨b6, 0, none⟩ = some (.int .i64 x10) ∧
    cond (x10 == (1 : Int))
    (CallsH Tryd.prog 44 #[.pointer a0r] h8 fun v11 h12 =>
      ∃ x13 : Int, v11 = .int .i64 x13 ∧
      VStore h12 ⟨b6, 1, none⟩ (.int .i64 x13) fun h14 =>
      J9 h14)
    (cond (x10 == (2 : Int))
      (CallsH Tryd.prog 50 #[.pointer a0r] h8 fun v15 h16 =>
        ∃ s17 : ByteArray, v15 = .string s17 ∧
        VStore h16 ⟨b6, 2, none⟩ (.string s17) fun h18 =>
        J9 h18)
      (cond (x10 == (3 : Int))
        (CallsH Tryd.prog 43 #[.pointer a0r] h8 fun v19 h20 =>
          ∃ b21 : Bool, v19 = .bool b21 ∧
          VStore h20 ⟨b6, 3, none⟩ (.bool b21) fun h22 =>
          J9 h22)
        (J9 h8)))) ∧
  ∀ (h23 : Heap) (g24 : Env), J9 h23 →
  VSome a0r fun a25 =>
  ∃ b26 : Bool, cellH h23 ⟨a25.block, a25.off + 1, none⟩ = some (.bool b26) ∧
  cond b26 (VSome a0r fun a27 =>
    VStore h23 ⟨a27.block, a27.off + 1, none⟩ (.bool true) fun h28 =>
    ∃ x29 : Int, cellH h28 ⟨b6, 0, none⟩ = some (.int .i64 x29) ∧
    ∃ x30 : Int, cellH h28 ⟨b6, 1, none⟩ = some (.int .i64 x30) ∧
    ∃ s31 : ByteArray, cellH h28 ⟨b6, 2, none⟩ = some (.string s31) ∧
    ∃ b32 : Bool, cellH h28 ⟨b6, 3, none⟩ = some (.bool b32) ∧
    storeL ⟨b1, 0, none⟩ 0 [.int .i64 x29, .int .i64 x30, .string s31, .bool b32] h28 fun h33 =>
    ∃ x34 : Int, cellH h33 ⟨b1, 0, none⟩ = some (.int .i64 x34) ∧
    ∃ x35 : Int, cellH h33 ⟨b1, 1, none⟩ = some (.int .i64 x35) ∧
    ∃ s36 : ByteArray, cellH h33 ⟨b1, 2, none⟩ = some (.string s36) ∧
    ∃ b37 : Bool, cellH h33 ⟨b1, 3, none⟩ = some (.bool b37) ∧
    R (.agg #[.int .i64 x34, .int .i64 x35, .string s36, .bool b37]) h33) (∃ x38 : Int, cellH h23 ⟨b6, 0, none⟩ = some (.int .i64 x38) ∧
    ∃ x39 : Int, cellH h23 ⟨b6, 1, none⟩ = some (.int .i64 x39) ∧
    ∃ s40 : ByteArray, cellH h23 ⟨b6, 2, none⟩ = some (.string s40) ∧
    ∃ b41 : Bool, cellH h23 ⟨b6, 3, none⟩ = some (.bool b41) ∧
    CallsH Tryd.prog 90 #[.agg #[.int .i64 x38, .int .i64 x39, .string s40, .bool b41]] h23 fun v42 h43 =>
    ∃ b44 : Bool, v42 = .bool b44 ∧
    VSome a0r fun a45 =>
    VStore h43 ⟨a45.block, a45.off + 1, none⟩ (.bool (!b44)) fun h46 =>
    ∃ x47 : Int, cellH h46 ⟨b6, 0, none⟩ = some (.int .i64 x47) ∧
    ∃ x48 : Int, cellH h46 ⟨b6, 1, none⟩ = some (.int .i64 x48) ∧
    ∃ s49 : ByteArray, cellH h46 ⟨b6, 2, none⟩ = some (.string s49) ∧
    ∃ b50 : Bool, cellH h46 ⟨b6, 3, none⟩ = some (.bool b50) ∧
    storeL ⟨b1, 0, none⟩ 0 [.int .i64 x47, .int .i64 x48, .string s49, .bool b50] h46 fun h51 =>
    ∃ x52 : Int, cellH h51 ⟨b1, 0, none⟩ = some (.int .i64 x52) ∧
    ∃ x53 : Int, cellH h51 ⟨b1, 1, none⟩ = some (.int .i64 x53) ∧
    ∃ s54 : ByteArray, cellH h51 ⟨b1, 2, none⟩ = some (.string s54) ∧
    ∃ b55 : Bool, cellH h51 ⟨b1, 3, none⟩ = some (.bool b55) ∧
    R (.agg #[.int .i64 x52, .int .i64 x53, .string s54, .bool b55]) h51)
theorem vf84 (a0r : Option Addr) (h : Heap) (R : KV) (hF : F84 a0r h R) : CallsH Tryd.prog 84 #[.pointer a0r] h R :=
  calls_of_form (A := an84) (fn := Tryd.f84) (c := c84) (args := [.pointer a0r]) Tryd.func84 (by kernel_rfl) mixed (by kernel_rfl) (by kernel_rfl : F84 a0r h R = vcF Tryd.prog an84 Tryd.f84 c84 [.pointer a0r] h R) hF
/-! ### 85 refrain/refrainref30.of -/
noncomputable def c85 : Code := match Tryd.f85.body with | some c => c | none => .skip
noncomputable def an85 : Ann := { loops := fun i => match i with | 3 => [(5, .int .i64), (6, .int .i64)] | _ => [], draws := fun i => #[], joins := fun i => none }
def F85 (a0b : Option Addr) (la0b ca0b : Nat) (a1at : Int) (h : Heap) (R : KV) : Prop :=
  ∃ I1 : Nat → Heap → Int → Int → Prop, (∃ n2, I1 n2 h 0 0) ∧
  ∀ (n2 : Nat) (h3 : Heap) (g4 : Env) (n_5 : Int) (i_6 : Int), I1 n2 h3 n_5 i_6 →
  cond (decide (i_6 < (4 : Int)))
  (VIdx a0b la0b (IntKind.i64.wrap (a1at + i_6)) 1 fun a8 =>
    ∃ x9 : Int, cellH h3 a8 = some (.int .u8 x9) ∧
    ∃ m7, m7 < n2 ∧ I1 m7 h3 (IntKind.i64.wrap ((IntKind.i64.wrap (n_5 * 256)) + (IntKind.i64.wrap x9))) (IntKind.i64.wrap (i_6 + 1)))
  (R (.int .i64 n_5) h3)
theorem vf85 (a0b : Option Addr) (la0b ca0b : Nat) (a1at : Int) (h : Heap) (R : KV) (hF : F85 a0b la0b ca0b a1at h R) : CallsH Tryd.prog 85 #[.slice a0b la0b ca0b, .int .i64 a1at] h R :=
  calls_of_form (A := an85) (fn := Tryd.f85) (c := c85) (args := [.slice a0b la0b ca0b, .int .i64 a1at]) Tryd.func85 (by kernel_rfl) mixed (by kernel_rfl) (by kernel_rfl : F85 a0b la0b ca0b a1at h R = vcF Tryd.prog an85 Tryd.f85 c85 [.slice a0b la0b ca0b, .int .i64 a1at] h R) hF
/-! ### 86 refrain/wire.Encode -/
noncomputable def c86 : Code := match Tryd.f86.body with | some c => c | none => .skip
noncomputable def an86 : Ann := { loops := fun i => [], draws := fun i => #[], joins := fun i => none }
def F86 (a0e_0 : ByteArray) (a0e_1 : Int) (a0e_2 : Option Addr) (la0e_2 ca0e_2 : Nat) (h : Heap) (R : KV) : Prop :=
  VNew h (.cells #[.string a0e_0, .int .i64 a0e_1, .slice a0e_2 la0e_2 ca0e_2] 126) fun b1 h2 =>
  ∃ s3 : ByteArray, cellH h2 ⟨b1, 0, none⟩ = some (.string s3) ∧
  ∃ x4 : Int, cellH h2 ⟨b1, 1, none⟩ = some (.int .i64 x4) ∧
  ∃ (a5 : Option Addr) (la5 ca5 : Nat), cellH h2 ⟨b1, 2, none⟩ = some (.slice a5 la5 ca5) ∧
  CallsH Tryd.prog 91 #[.agg #[.string s3, .int .i64 x4, .slice a5 la5 ca5]] h2 fun v6 h7 =>
  ∃ x8 : Int, v6 = .int .i64 x8 ∧
  cond (x8 != (0 : Int))
  (R (.tuple #[.slice none 0 0, .int .i64 x8]) h7)
  (∃ s9 : ByteArray, cellH h7 ⟨b1, 0, none⟩ = some (.string s9) ∧
    ∃ x10 : Int, cellH h7 ⟨b1, 1, none⟩ = some (.int .i64 x10) ∧
    ∃ (a11 : Option Addr) (la11 ca11 : Nat), cellH h7 ⟨b1, 2, none⟩ = some (.slice a11 la11 ca11) ∧
    CallsH Tryd.prog 92 #[.slice none 0 0, .agg #[.string s9, .int .i64 x10, .slice a11 la11 ca11]] h7 fun v12 h13 =>
    ∃ (a14 : Option Addr) (la14 ca14 : Nat), v12 = .slice a14 la14 ca14 ∧
    R (.tuple #[.slice a14 la14 ca14, .int .i64 0]) h13)
theorem vf86 (a0e_0 : ByteArray) (a0e_1 : Int) (a0e_2 : Option Addr) (la0e_2 ca0e_2 : Nat) (h : Heap) (R : KV) (hF : F86 a0e_0 a0e_1 a0e_2 la0e_2 ca0e_2 h R) : CallsH Tryd.prog 86 #[.agg #[.string a0e_0, .int .i64 a0e_1, .slice a0e_2 la0e_2 ca0e_2]] h R :=
  calls_of_form (A := an86) (fn := Tryd.f86) (c := c86) (args := [.agg #[.string a0e_0, .int .i64 a0e_1, .slice a0e_2 la0e_2 ca0e_2]]) Tryd.func86 (by kernel_rfl) mixed (by kernel_rfl) (by kernel_rfl : F86 a0e_0 a0e_1 a0e_2 la0e_2 ca0e_2 h R = vcF Tryd.prog an86 Tryd.f86 c86 [.agg #[.string a0e_0, .int .i64 a0e_1, .slice a0e_2 la0e_2 ca0e_2]] h R) hF
/-! ### 87 (refrain/proto.writer).fail -/
noncomputable def c87 : Code := match Tryd.f87.body with | some c => c | none => .skip
noncomputable def an87 : Ann := { loops := fun i => [], draws := fun i => #[], joins := fun i => none }
def F87 (a0w : Option Addr) (a1e : Int) (h : Heap) (R : KV) : Prop :=
  VSome a0w fun a1 =>
  ∃ x2 : Int, cellH h ⟨a1.block, a1.off + 1, none⟩ = some (.int .i64 x2) ∧
  cond (x2 == (0 : Int))
  (VSome a0w fun a3 =>
    VStore h ⟨a3.block, a3.off + 1, none⟩ (.int .i64 a1e) fun h4 =>
    R (.tuple #[]) h4)
  (R (.tuple #[]) h)
theorem vf87 (a0w : Option Addr) (a1e : Int) (h : Heap) (R : KV) (hF : F87 a0w a1e h R) : CallsH Tryd.prog 87 #[.pointer a0w, .int .i64 a1e] h R :=
  calls_of_form (A := an87) (fn := Tryd.f87) (c := c87) (args := [.pointer a0w, .int .i64 a1e]) Tryd.func87 (by kernel_rfl) mixed (by kernel_rfl) (by kernel_rfl : F87 a0w a1e h R = vcF Tryd.prog an87 Tryd.f87 c87 [.pointer a0w, .int .i64 a1e] h R) hF
/-! ### 88 refrain/wire.Decode -/
noncomputable def c88 : Code := match Tryd.f88.body with | some c => c | none => .skip
noncomputable def an88 : Ann := { loops := fun i => [], draws := fun i => match i with | 4 => #[0, 0, 2, 6, 14, 1, 33, 127] | 5 => #[0, 0, 2, 6, 14, 1, 63, 127] | _ => #[], joins := fun i => none }
def F88 (a0b : Option Addr) (la0b ca0b : Nat) (h : Heap) (R : KV) : Prop :=
  VNew h (.cells #[.string (ByteArray.mk #[]), .int .i64 0, .slice none 0 0] 126) fun b1 h2 =>
  VNew h2 (.cells #[.slice a0b la0b ca0b, .int .i64 0, .int .i64 0] 151) fun b3 h4 =>
  CallsH Tryd.prog 93 #[.pointer (some ⟨b3, 0, none⟩)] h4 fun v5 h6 =>
  ∃ s7 : ByteArray, ∃ x8 : Int, ∃ (a9 : Option Addr) (la9 ca9 : Nat), v5 = .agg #[.string s7, .int .i64 x8, .slice a9 la9 ca9] ∧
  VNew h6 (.cells #[.string (ByteArray.mk #[]), .int .i64 0, .slice none 0 0] 126) fun b10 h11 =>
  storeL ⟨b10, 0, none⟩ 0 [.string s7, .int .i64 x8, .slice a9 la9 ca9] h11 fun h12 =>
  ∃ x13 : Int, cellH h12 ⟨b3, 2, none⟩ = some (.int .i64 x13) ∧
  cond (x13 != (0 : Int))
  (∃ x14 : Int, cellH h12 ⟨b3, 2, none⟩ = some (.int .i64 x14) ∧
    storeL ⟨b1, 0, none⟩ 0 [.string (ByteArray.mk #[]), .int .i64 0, .slice none 0 0] h12 fun h15 =>
    (cellH h15 ⟨b3, 2, none⟩ = some (.int .i64 x14)) ∧
    ∃ s16 : ByteArray, cellH h15 ⟨b1, 0, none⟩ = some (.string s16) ∧
    ∃ x17 : Int, cellH h15 ⟨b1, 1, none⟩ = some (.int .i64 x17) ∧
    ∃ (a18 : Option Addr) (la18 ca18 : Nat), cellH h15 ⟨b1, 2, none⟩ = some (.slice a18 la18 ca18) ∧
    R (.tuple #[.agg #[.string s16, .int .i64 x17, .slice a18 la18 ca18], .int .i64 0, .int .i64 x14]) h15)
  (∃ s19 : ByteArray, cellH h12 ⟨b10, 0, none⟩ = some (.string s19) ∧
    ∃ x20 : Int, cellH h12 ⟨b10, 1, none⟩ = some (.int .i64 x20) ∧
    ∃ (a21 : Option Addr) (la21 ca21 : Nat), cellH h12 ⟨b10, 2, none⟩ = some (.slice a21 la21 ca21) ∧
    ∃ x22 : Int, cellH h12 ⟨b3, 1, none⟩ = some (.int .i64 x22) ∧
    storeL ⟨b1, 0, none⟩ 0 [.string s19, .int .i64 x20, .slice a21 la21 ca21] h12 fun h23 =>
    (cellH h23 ⟨b3, 1, none⟩ = some (.int .i64 x22)) ∧
    ∃ s24 : ByteArray, cellH h23 ⟨b1, 0, none⟩ = some (.string s24) ∧
    ∃ x25 : Int, cellH h23 ⟨b1, 1, none⟩ = some (.int .i64 x25) ∧
    ∃ (a26 : Option Addr) (la26 ca26 : Nat), cellH h23 ⟨b1, 2, none⟩ = some (.slice a26 la26 ca26) ∧
    R (.tuple #[.agg #[.string s24, .int .i64 x25, .slice a26 la26 ca26], .int .i64 x22, .int .i64 0]) h23)
theorem vf88 (a0b : Option Addr) (la0b ca0b : Nat) (h : Heap) (R : KV) (hF : F88 a0b la0b ca0b h R) : CallsH Tryd.prog 88 #[.slice a0b la0b ca0b] h R :=
  calls_of_form (A := an88) (fn := Tryd.f88) (c := c88) (args := [.slice a0b la0b ca0b]) Tryd.func88 (by kernel_rfl) mixed (by kernel_rfl) (by kernel_rfl : F88 a0b la0b ca0b h R = vcF Tryd.prog an88 Tryd.f88 c88 [.slice a0b la0b ca0b] h R) hF
/-! ### 89 refrain/wire.putInt -/
noncomputable def c89 : Code := match Tryd.f89.body with | some c => c | none => .skip
noncomputable def an89 : Ann := { loops := fun i => match i with | 2 => [(0, .slc), (5, .int .u64)] | _ => [], draws := fun i => #[], joins := fun i => none }
def F89 (a0b : Option Addr) (la0b ca0b : Nat) (a1n : Int) (h : Heap) (R : KV) : Prop :=
  (0 : Int) ≤ 1 ∧
  (0 : Int) ≤ 63 ∧
  ∃ I1 : Nat → Heap → Option Addr → Nat → Nat → Int → Prop, (∃ n2, I1 n2 h a0b la0b ca0b (bitsOp .xor .u64 (IntKind.u64.wrap ((IntKind.u64.wrap a1n) * 2 ^ (min (Int.toNat 1) (IntKind.bits .u64)))) (IntKind.u64.wrap (Int.fdiv a1n (2 ^ (min (Int.toNat 63) (IntKind.bits .i64))))))) ∧
  ∀ (n2 : Nat) (h3 : Heap) (g4 : Env) (b_5 : Option Addr) (lb_5 cb_5 : Nat) (z_6 : Int), I1 n2 h3 b_5 lb_5 cb_5 z_6 →
  cond (decide (z_6 ≥ (128 : Int)))
  (VNew h3 (.cells #[.int .u8 (bitsOp .or .u8 (IntKind.u8.wrap z_6) 128)] 5) fun b8 h9 =>
    RunsTo Tryd.prog (Builtin.append_ #[35, 35] 35 #[.slice b_5 lb_5 cb_5, .slice (some ⟨b8, 0, none⟩) 1 1]) h9 fun v10 h11 =>
    ∃ (a12 : Option Addr) (la12 ca12 : Nat), v10 = .slice a12 la12 ca12 ∧
    (0 : Int) ≤ 7 ∧
    ∃ m7, m7 < n2 ∧ I1 m7 h11 a12 la12 ca12 (Int.fdiv z_6 (2 ^ (min (Int.toNat 7) (IntKind.bits .u64)))))
  (VNew h3 (.cells #[.int .u8 (IntKind.u8.wrap z_6)] 5) fun b13 h14 =>
    RunsTo Tryd.prog (Builtin.append_ #[35, 35] 35 #[.slice b_5 lb_5 cb_5, .slice (some ⟨b13, 0, none⟩) 1 1]) h14 fun v15 h16 =>
    ∃ (a17 : Option Addr) (la17 ca17 : Nat), v15 = .slice a17 la17 ca17 ∧
    R (.slice a17 la17 ca17) h16)
theorem vf89 (a0b : Option Addr) (la0b ca0b : Nat) (a1n : Int) (h : Heap) (R : KV) (hF : F89 a0b la0b ca0b a1n h R) : CallsH Tryd.prog 89 #[.slice a0b la0b ca0b, .int .i64 a1n] h R :=
  calls_of_form (A := an89) (fn := Tryd.f89) (c := c89) (args := [.slice a0b la0b ca0b, .int .i64 a1n]) Tryd.func89 (by kernel_rfl) mixed (by kernel_rfl) (by kernel_rfl : F89 a0b la0b ca0b a1n h R = vcF Tryd.prog an89 Tryd.f89 c89 [.slice a0b la0b ca0b, .int .i64 a1n] h R) hF
/-! ### 90 refrain/value.Valid -/
noncomputable def c90 : Code := match Tryd.f90.body with | some c => c | none => .skip
noncomputable def an90 : Ann := { loops := fun i => [], draws := fun i => match i with | 3 => #[0, 0, 2, 6, 15, 31] | 5 => #[0, 0, 2, 6, 15, 31, 63, 127, 255, 511, 1023, 2047] | 7 => #[0, 0, 2, 6, 15, 31] | _ => #[], joins := fun i => none }
def F90 (a0v_0 : Int) (a0v_1 : Int) (a0v_2 : ByteArray) (a0v_3 : Bool) (h : Heap) (R : KV) : Prop :=
  VNew h (.cells #[.int .i64 a0v_0, .int .i64 a0v_1, .string a0v_2, .bool a0v_3] 134) fun b1 h2 =>
  ∃ x3 : Int, cellH h2 ⟨b1, 0, none⟩ = some (.int .i64 x3) ∧
  cond (x3 == (1 : Int))
  (∃ x4 : Int, cellH h2 ⟨b1, 0, none⟩ = some (.int .i64 x4) ∧
    ∃ x5 : Int, cellH h2 ⟨b1, 1, none⟩ = some (.int .i64 x5) ∧
    ∃ s6 : ByteArray, cellH h2 ⟨b1, 2, none⟩ = some (.string s6) ∧
    ∃ b7 : Bool, cellH h2 ⟨b1, 3, none⟩ = some (.bool b7) ∧
    ∃ x8 : Int, cellH h2 ⟨b1, 1, none⟩ = some (.int .i64 x8) ∧
    CallsH Tryd.prog 94 #[.int .i64 x8] h2 fun v9 h10 =>
    ∃ x11 : Int, ∃ x12 : Int, ∃ s13 : ByteArray, ∃ b14 : Bool, v9 = .agg #[.int .i64 x11, .int .i64 x12, .string s13, .bool b14] ∧
    (cellH h10 ⟨b1, 0, none⟩ = some (.int .i64 x4) ∧ cellH h10 ⟨b1, 1, none⟩ = some (.int .i64 x5) ∧ cellH h10 ⟨b1, 2, none⟩ = some (.string s6) ∧ cellH h10 ⟨b1, 3, none⟩ = some (.bool b7)) ∧
    PureTo Tryd.prog (do eqGuard .eql 134 (.tmp 7) (.tmp 10) (.agg #[.int .i64 x4, .int .i64 x5, .string s6, .bool b7]) (.agg #[.int .i64 x11, .int .i64 x12, .string s13, .bool b14]); binOp .eql 134 (.agg #[.int .i64 x4, .int .i64 x5, .string s6, .bool b7]) (.agg #[.int .i64 x11, .int .i64 x12, .string s13, .bool b14])) fun v15 =>
    ∃ b16 : Bool, v15 = .bool b16 ∧
    R (.bool b16) h10)
  (cond (x3 == (2 : Int))
    (∃ x17 : Int, cellH h2 ⟨b1, 0, none⟩ = some (.int .i64 x17) ∧
      ∃ x18 : Int, cellH h2 ⟨b1, 1, none⟩ = some (.int .i64 x18) ∧
      ∃ s19 : ByteArray, cellH h2 ⟨b1, 2, none⟩ = some (.string s19) ∧
      ∃ b20 : Bool, cellH h2 ⟨b1, 3, none⟩ = some (.bool b20) ∧
      ∃ s21 : ByteArray, cellH h2 ⟨b1, 2, none⟩ = some (.string s21) ∧
      CallsH Tryd.prog 95 #[.string s21] h2 fun v22 h23 =>
      ∃ x24 : Int, ∃ x25 : Int, ∃ s26 : ByteArray, ∃ b27 : Bool, v22 = .agg #[.int .i64 x24, .int .i64 x25, .string s26, .bool b27] ∧
      (cellH h23 ⟨b1, 0, none⟩ = some (.int .i64 x17) ∧ cellH h23 ⟨b1, 1, none⟩ = some (.int .i64 x18) ∧ cellH h23 ⟨b1, 2, none⟩ = some (.string s19) ∧ cellH h23 ⟨b1, 3, none⟩ = some (.bool b20)) ∧
      PureTo Tryd.prog (do eqGuard .eql 134 (.tmp 14) (.tmp 17) (.agg #[.int .i64 x17, .int .i64 x18, .string s19, .bool b20]) (.agg #[.int .i64 x24, .int .i64 x25, .string s26, .bool b27]); binOp .eql 134 (.agg #[.int .i64 x17, .int .i64 x18, .string s19, .bool b20]) (.agg #[.int .i64 x24, .int .i64 x25, .string s26, .bool b27])) fun v28 =>
      ∃ b29 : Bool, v28 = .bool b29 ∧
      cond b29 (∃ s30 : ByteArray, cellH h23 ⟨b1, 2, none⟩ = some (.string s30) ∧
        R (.bool (decide ((s30.size : Int) ≤ (256 : Int)))) h23) (R (.bool false) h23))
    (cond (x3 == (3 : Int))
      (∃ x31 : Int, cellH h2 ⟨b1, 0, none⟩ = some (.int .i64 x31) ∧
        ∃ x32 : Int, cellH h2 ⟨b1, 1, none⟩ = some (.int .i64 x32) ∧
        ∃ s33 : ByteArray, cellH h2 ⟨b1, 2, none⟩ = some (.string s33) ∧
        ∃ b34 : Bool, cellH h2 ⟨b1, 3, none⟩ = some (.bool b34) ∧
        ∃ b35 : Bool, cellH h2 ⟨b1, 3, none⟩ = some (.bool b35) ∧
        CallsH Tryd.prog 96 #[.bool b35] h2 fun v36 h37 =>
        ∃ x38 : Int, ∃ x39 : Int, ∃ s40 : ByteArray, ∃ b41 : Bool, v36 = .agg #[.int .i64 x38, .int .i64 x39, .string s40, .bool b41] ∧
        (cellH h37 ⟨b1, 0, none⟩ = some (.int .i64 x31) ∧ cellH h37 ⟨b1, 1, none⟩ = some (.int .i64 x32) ∧ cellH h37 ⟨b1, 2, none⟩ = some (.string s33) ∧ cellH h37 ⟨b1, 3, none⟩ = some (.bool b34)) ∧
        PureTo Tryd.prog (do eqGuard .eql 134 (.tmp 27) (.tmp 30) (.agg #[.int .i64 x31, .int .i64 x32, .string s33, .bool b34]) (.agg #[.int .i64 x38, .int .i64 x39, .string s40, .bool b41]); binOp .eql 134 (.agg #[.int .i64 x31, .int .i64 x32, .string s33, .bool b34]) (.agg #[.int .i64 x38, .int .i64 x39, .string s40, .bool b41])) fun v42 =>
        ∃ b43 : Bool, v42 = .bool b43 ∧
        R (.bool b43) h37)
      (R (.bool false) h2)))
theorem vf90 (a0v_0 : Int) (a0v_1 : Int) (a0v_2 : ByteArray) (a0v_3 : Bool) (h : Heap) (R : KV) (hF : F90 a0v_0 a0v_1 a0v_2 a0v_3 h R) : CallsH Tryd.prog 90 #[.agg #[.int .i64 a0v_0, .int .i64 a0v_1, .string a0v_2, .bool a0v_3]] h R :=
  calls_of_form (A := an90) (fn := Tryd.f90) (c := c90) (args := [.agg #[.int .i64 a0v_0, .int .i64 a0v_1, .string a0v_2, .bool a0v_3]]) Tryd.func90 (by kernel_rfl) mixed (by kernel_rfl) (by kernel_rfl : F90 a0v_0 a0v_1 a0v_2 a0v_3 h R = vcF Tryd.prog an90 Tryd.f90 c90 [.agg #[.int .i64 a0v_0, .int .i64 a0v_1, .string a0v_2, .bool a0v_3]] h R) hF
/-! ### 91 refrain/wire.fault -/
noncomputable def c91 : Code := match Tryd.f91.body with | some c => c | none => .skip
noncomputable def an91 : Ann := { loops := fun i => match i with | 8 => [(2, .int .i64), (27, .int .i64)] | _ => [], draws := fun i => #[], joins := fun i => none }
def F91 (a0e_0 : ByteArray) (a0e_1 : Int) (a0e_2 : Option Addr) (la0e_2 ca0e_2 : Nat) (h : Heap) (R : KV) : Prop :=
  VNew h (.cells #[.string a0e_0, .int .i64 a0e_1, .slice a0e_2 la0e_2 ca0e_2] 126) fun b1 h2 =>
  ∃ s3 : ByteArray, cellH h2 ⟨b1, 0, none⟩ = some (.string s3) ∧
  CallsH Tryd.prog 97 #[.string s3] h2 fun v4 h5 =>
  ∃ b6 : Bool, v4 = .bool b6 ∧
  cond (!b6)
  (R (.int .i64 20) h5)
  (∃ x7 : Int, cellH h5 ⟨b1, 1, none⟩ = some (.int .i64 x7) ∧
    cond (decide (x7 < (0 : Int))) (R (.int .i64 23) h5) (∃ x8 : Int, cellH h5 ⟨b1, 1, none⟩ = some (.int .i64 x8) ∧
      cond (decide (x8 > (4611686018427387904 : Int)))
      (R (.int .i64 23) h5)
      (∃ (a9 : Option Addr) (la9 ca9 : Nat), cellH h5 ⟨b1, 2, none⟩ = some (.slice a9 la9 ca9) ∧
        cond (decide ((la9 : Int) > (16 : Int)))
        (R (.int .i64 2) h5)
        (∃ (a10 : Option Addr) (la10 ca10 : Nat), cellH h5 ⟨b1, 2, none⟩ = some (.slice a10 la10 ca10) ∧
          ∃ I11 : Nat → Heap → Int → Int → Prop, (∃ n12, I11 n12 h5 0 0) ∧
          ∀ (n12 : Nat) (h13 : Heap) (g14 : Env) (y_15 : Int) (y_16 : Int), I11 n12 h13 y_15 y_16 →
          cond (decide (y_16 < (la10 : Int)))
          (VIdx a10 la10 y_16 4 fun a18 =>
            ∃ x19 : Int, cellH h13 a18 = some (.int .i64 x19) ∧
            ∃ x20 : Int, cellH h13 ⟨a18.block, a18.off + 1, none⟩ = some (.int .i64 x20) ∧
            ∃ s21 : ByteArray, cellH h13 ⟨a18.block, a18.off + 2, none⟩ = some (.string s21) ∧
            ∃ b22 : Bool, cellH h13 ⟨a18.block, a18.off + 3, none⟩ = some (.bool b22) ∧
            VNew h13 (.cells #[.int .i64 0, .int .i64 0, .string (ByteArray.mk #[]), .bool false] 134) fun b23 h24 =>
            storeL ⟨b23, 0, none⟩ 0 [.int .i64 x19, .int .i64 x20, .string s21, .bool b22] h24 fun h25 =>
            ∃ x26 : Int, cellH h25 ⟨b23, 0, none⟩ = some (.int .i64 x26) ∧
            ∃ x27 : Int, cellH h25 ⟨b23, 1, none⟩ = some (.int .i64 x27) ∧
            ∃ s28 : ByteArray, cellH h25 ⟨b23, 2, none⟩ = some (.string s28) ∧
            ∃ b29 : Bool, cellH h25 ⟨b23, 3, none⟩ = some (.bool b29) ∧
            CallsH Tryd.prog 90 #[.agg #[.int .i64 x26, .int .i64 x27, .string s28, .bool b29]] h25 fun v30 h31 =>
            ∃ b32 : Bool, v30 = .bool b32 ∧
            cond (!b32)
            (R (.int .i64 12) h31)
            (∃ m17, m17 < n12 ∧ I11 m17 h31 y_15 (IntKind.i64.wrap (y_16 + 1))))
          (R (.int .i64 0) h13)))))
theorem vf91 (a0e_0 : ByteArray) (a0e_1 : Int) (a0e_2 : Option Addr) (la0e_2 ca0e_2 : Nat) (h : Heap) (R : KV) (hF : F91 a0e_0 a0e_1 a0e_2 la0e_2 ca0e_2 h R) : CallsH Tryd.prog 91 #[.agg #[.string a0e_0, .int .i64 a0e_1, .slice a0e_2 la0e_2 ca0e_2]] h R :=
  calls_of_form (A := an91) (fn := Tryd.f91) (c := c91) (args := [.agg #[.string a0e_0, .int .i64 a0e_1, .slice a0e_2 la0e_2 ca0e_2]]) Tryd.func91 (by kernel_rfl) mixed (by kernel_rfl) (by kernel_rfl : F91 a0e_0 a0e_1 a0e_2 la0e_2 ca0e_2 h R = vcF Tryd.prog an91 Tryd.f91 c91 [.agg #[.string a0e_0, .int .i64 a0e_1, .slice a0e_2 la0e_2 ca0e_2]] h R) hF
/-! ### 92 refrain/wire.put -/
noncomputable def c92 : Code := match Tryd.f92.body with | some c => c | none => .skip
noncomputable def an92 : Ann := { loops := fun i => match i with | 4 => [(0, .slc), (22, .int .i64)] | _ => [], draws := fun i => match i with | 1 => #[0, 0, 2, 7, 0, 16, 63, 127] | _ => #[], joins := fun i => none }
def F92 (a0b : Option Addr) (la0b ca0b : Nat) (a1e_0 : ByteArray) (a1e_1 : Int) (a1e_2 : Option Addr) (la1e_2 ca1e_2 : Nat) (h : Heap) (R : KV) : Prop :=
  VNew h (.cells #[.string a1e_0, .int .i64 a1e_1, .slice a1e_2 la1e_2 ca1e_2] 126) fun b1 h2 =>
  ∃ s3 : ByteArray, cellH h2 ⟨b1, 0, none⟩ = some (.string s3) ∧
  ∃ x4 : Int, cellH h2 ⟨b1, 1, none⟩ = some (.int .i64 x4) ∧
  CallsH Tryd.prog 98 #[.slice a0b la0b ca0b, .string s3] h2 fun v5 h6 =>
  ∃ (a7 : Option Addr) (la7 ca7 : Nat), v5 = .slice a7 la7 ca7 ∧
  (cellH h6 ⟨b1, 1, none⟩ = some (.int .i64 x4)) ∧
  CallsH Tryd.prog 89 #[.slice a7 la7 ca7, .int .i64 x4] h6 fun v8 h9 =>
  ∃ (a10 : Option Addr) (la10 ca10 : Nat), v8 = .slice a10 la10 ca10 ∧
  ∃ (a11 : Option Addr) (la11 ca11 : Nat), cellH h9 ⟨b1, 2, none⟩ = some (.slice a11 la11 ca11) ∧
  CallsH Tryd.prog 89 #[.slice a10 la10 ca10, .int .i64 (la11 : Int)] h9 fun v12 h13 =>
  ∃ (a14 : Option Addr) (la14 ca14 : Nat), v12 = .slice a14 la14 ca14 ∧
  ∃ (a15 : Option Addr) (la15 ca15 : Nat), cellH h13 ⟨b1, 2, none⟩ = some (.slice a15 la15 ca15) ∧
  ∃ I16 : Nat → Heap → Option Addr → Nat → Nat → Int → Prop, (∃ n17, I16 n17 h13 a14 la14 ca14 0) ∧
  ∀ (n17 : Nat) (h18 : Heap) (g19 : Env) (b_20 : Option Addr) (lb_20 cb_20 : Nat) (y_21 : Int), I16 n17 h18 b_20 lb_20 cb_20 y_21 →
  cond (decide (y_21 < (la15 : Int)))
  (VIdx a15 la15 y_21 4 fun a23 =>
    ∃ x24 : Int, cellH h18 a23 = some (.int .i64 x24) ∧
    ∃ x25 : Int, cellH h18 ⟨a23.block, a23.off + 1, none⟩ = some (.int .i64 x25) ∧
    ∃ s26 : ByteArray, cellH h18 ⟨a23.block, a23.off + 2, none⟩ = some (.string s26) ∧
    ∃ b27 : Bool, cellH h18 ⟨a23.block, a23.off + 3, none⟩ = some (.bool b27) ∧
    VNew h18 (.cells #[.int .i64 0, .int .i64 0, .string (ByteArray.mk #[]), .bool false] 134) fun b28 h29 =>
    storeL ⟨b28, 0, none⟩ 0 [.int .i64 x24, .int .i64 x25, .string s26, .bool b27] h29 fun h30 =>
    ∃ x31 : Int, cellH h30 ⟨b28, 0, none⟩ = some (.int .i64 x31) ∧
    ∃ x32 : Int, cellH h30 ⟨b28, 1, none⟩ = some (.int .i64 x32) ∧
    ∃ s33 : ByteArray, cellH h30 ⟨b28, 2, none⟩ = some (.string s33) ∧
    ∃ b34 : Bool, cellH h30 ⟨b28, 3, none⟩ = some (.bool b34) ∧
    CallsH Tryd.prog 99 #[.slice b_20 lb_20 cb_20, .agg #[.int .i64 x31, .int .i64 x32, .string s33, .bool b34]] h30 fun v35 h36 =>
    ∃ (a37 : Option Addr) (la37 ca37 : Nat), v35 = .slice a37 la37 ca37 ∧
    ∃ m22, m22 < n17 ∧ I16 m22 h36 a37 la37 ca37 (IntKind.i64.wrap (y_21 + 1)))
  (R (.slice b_20 lb_20 cb_20) h18)
theorem vf92 (a0b : Option Addr) (la0b ca0b : Nat) (a1e_0 : ByteArray) (a1e_1 : Int) (a1e_2 : Option Addr) (la1e_2 ca1e_2 : Nat) (h : Heap) (R : KV) (hF : F92 a0b la0b ca0b a1e_0 a1e_1 a1e_2 la1e_2 ca1e_2 h R) : CallsH Tryd.prog 92 #[.slice a0b la0b ca0b, .agg #[.string a1e_0, .int .i64 a1e_1, .slice a1e_2 la1e_2 ca1e_2]] h R :=
  calls_of_form (A := an92) (fn := Tryd.f92) (c := c92) (args := [.slice a0b la0b ca0b, .agg #[.string a1e_0, .int .i64 a1e_1, .slice a1e_2 la1e_2 ca1e_2]]) Tryd.func92 (by kernel_rfl) mixed (by kernel_rfl) (by kernel_rfl : F92 a0b la0b ca0b a1e_0 a1e_1 a1e_2 la1e_2 ca1e_2 h R = vcF Tryd.prog an92 Tryd.f92 c92 [.slice a0b la0b ca0b, .agg #[.string a1e_0, .int .i64 a1e_1, .slice a1e_2 la1e_2 ca1e_2]] h R) hF
/-! ### 93 (refrain/wire.reader).event -/
noncomputable def c93 : Code := match Tryd.f93.body with | some c => c | none => .skip
noncomputable def an93 : Ann := { loops := fun i => match i with | 7 => [(20, .int .i64)] | _ => [], draws := fun i => match i with | 8 => #[0, 1, 0, 4, 12, 31, 63, 127] | _ => #[], joins := fun i => match i with | 5 => some [] | _ => none }
def F93 (a0r : Option Addr) (h : Heap) (R : KV) : Prop :=
  VNew h (.cells #[.string (ByteArray.mk #[]), .int .i64 0, .slice none 0 0] 126) fun b1 h2 =>
  VNew h2 (.cells #[.string (ByteArray.mk #[]), .int .i64 0, .slice none 0 0] 126) fun b3 h4 =>
  CallsH Tryd.prog 101 #[.pointer a0r, .int .i64 1, .int .i64 32] h4 fun v5 h6 =>
  ∃ x7 : Int, v5 = .int .i64 x7 ∧
  CallsH Tryd.prog 100 #[.pointer a0r, .int .i64 x7] h6 fun v8 h9 =>
  ∃ s10 : ByteArray, v8 = .string s10 ∧
  VStore h9 ⟨b3, 0, none⟩ (.string s10) fun h11 =>
  ∃ J12 : Heap → Prop, (∃ s13 : ByteArray, cellH h11 ⟨b3, 0, none⟩ = some (.string s13) ∧
    CallsH Tryd.prog 97 #[.string s13] h11 fun v14 h15 =>
    ∃ b16 : Bool, v14 = .bool b16 ∧
    cond (!b16)
    (CallsH Tryd.prog 102 #[.pointer a0r, .int .i64 31] h15 fun v17 h18 =>
      v17 = .tuple #[] ∧
      J12 h18)
    (J12 h15)) ∧
  ∀ (h19 : Heap) (g20 : Env), J12 h19 →
  CallsH Tryd.prog 101 #[.pointer a0r, .int .i64 0, .int .i64 4611686018427387904] h19 fun v21 h22 =>
  ∃ x23 : Int, v21 = .int .i64 x23 ∧
  VStore h22 ⟨b3, 1, none⟩ (.int .i64 x23) fun h24 =>
  CallsH Tryd.prog 101 #[.pointer a0r, .int .i64 0, .int .i64 16] h24 fun v25 h26 =>
  ∃ x27 : Int, v25 = .int .i64 x27 ∧
  ∃ I28 : Nat → Heap → Int → Prop, (∃ n29, I28 n29 h26 0) ∧
  ∀ (n29 : Nat) (h30 : Heap) (g31 : Env) (y_32 : Int), I28 n29 h30 y_32 →
  cond (decide (y_32 < x27))
  (∃ (a34 : Option Addr) (la34 ca34 : Nat), cellH h30 ⟨b3, 2, none⟩ = some (.slice a34 la34 ca34) ∧
    CallsH Tryd.prog 103 #[.pointer a0r] h30 fun v35 h36 =>
    ∃ x37 : Int, ∃ x38 : Int, ∃ s39 : ByteArray, ∃ b40 : Bool, v35 = .agg #[.int .i64 x37, .int .i64 x38, .string s39, .bool b40] ∧
    (cellH h36 ⟨b3, 2, none⟩ = some (.slice a34 la34 ca34)) ∧
    VNew h36 (.cells #[.int .i64 x37, .int .i64 x38, .string s39, .bool b40] 134) fun b41 h42 =>
    (cellH h42 ⟨b3, 2, none⟩ = some (.slice a34 la34 ca34)) ∧
    RunsTo Tryd.prog (Builtin.append_ #[98, 98] 98 #[.slice a34 la34 ca34, .slice (some ⟨b41, 0, none⟩) 1 1]) h42 fun v43 h44 =>
    ∃ (a45 : Option Addr) (la45 ca45 : Nat), v43 = .slice a45 la45 ca45 ∧
    VStore h44 ⟨b3, 2, none⟩ (.slice a45 la45 ca45) fun h46 =>
    ∃ m33, m33 < n29 ∧ I28 m33 h46 (IntKind.i64.wrap (y_32 + 1)))
  (∃ s47 : ByteArray, cellH h30 ⟨b3, 0, none⟩ = some (.string s47) ∧
    ∃ x48 : Int, cellH h30 ⟨b3, 1, none⟩ = some (.int .i64 x48) ∧
    ∃ (a49 : Option Addr) (la49 ca49 : Nat), cellH h30 ⟨b3, 2, none⟩ = some (.slice a49 la49 ca49) ∧
    storeL ⟨b1, 0, none⟩ 0 [.string s47, .int .i64 x48, .slice a49 la49 ca49] h30 fun h50 =>
    ∃ s51 : ByteArray, cellH h50 ⟨b1, 0, none⟩ = some (.string s51) ∧
    ∃ x52 : Int, cellH h50 ⟨b1, 1, none⟩ = some (.int .i64 x52) ∧
    ∃ (a53 : Option Addr) (la53 ca53 : Nat), cellH h50 ⟨b1, 2, none⟩ = some (.slice a53 la53 ca53) ∧
    R (.agg #[.string s51, .int .i64 x52, .slice a53 la53 ca53]) h50)
theorem vf93 (a0r : Option Addr) (h : Heap) (R : KV) (hF : F93 a0r h R) : CallsH Tryd.prog 93 #[.pointer a0r] h R :=
  calls_of_form (A := an93) (fn := Tryd.f93) (c := c93) (args := [.pointer a0r]) Tryd.func93 (by kernel_rfl) mixed (by kernel_rfl) (by kernel_rfl : F93 a0r h R = vcF Tryd.prog an93 Tryd.f93 c93 [.pointer a0r] h R) hF
/-! ### 94 refrain/value.number -/
noncomputable def c94 : Code := match Tryd.f94.body with | some c => c | none => .skip
noncomputable def an94 : Ann := { loops := fun i => [], draws := fun i => #[], joins := fun i => none }
def F94 (a0n : Int) (h : Heap) (R : KV) : Prop :=
  VNew h (.cells #[.int .i64 0, .int .i64 0, .string (ByteArray.mk #[]), .bool false] 134) fun b1 h2 =>
  storeL ⟨b1, 0, none⟩ 0 [.int .i64 1, .int .i64 a0n, .string (ByteArray.mk #[]), .bool false] h2 fun h3 =>
  ∃ x4 : Int, cellH h3 ⟨b1, 0, none⟩ = some (.int .i64 x4) ∧
  ∃ x5 : Int, cellH h3 ⟨b1, 1, none⟩ = some (.int .i64 x5) ∧
  ∃ s6 : ByteArray, cellH h3 ⟨b1, 2, none⟩ = some (.string s6) ∧
  ∃ b7 : Bool, cellH h3 ⟨b1, 3, none⟩ = some (.bool b7) ∧
  R (.agg #[.int .i64 x4, .int .i64 x5, .string s6, .bool b7]) h3
theorem vf94 (a0n : Int) (h : Heap) (R : KV) (hF : F94 a0n h R) : CallsH Tryd.prog 94 #[.int .i64 a0n] h R :=
  calls_of_form (A := an94) (fn := Tryd.f94) (c := c94) (args := [.int .i64 a0n]) Tryd.func94 (by kernel_rfl) mixed (by kernel_rfl) (by kernel_rfl : F94 a0n h R = vcF Tryd.prog an94 Tryd.f94 c94 [.int .i64 a0n] h R) hF
/-! ### 95 refrain/value.text -/
noncomputable def c95 : Code := match Tryd.f95.body with | some c => c | none => .skip
noncomputable def an95 : Ann := { loops := fun i => [], draws := fun i => #[], joins := fun i => none }
def F95 (a0s : ByteArray) (h : Heap) (R : KV) : Prop :=
  VNew h (.cells #[.int .i64 0, .int .i64 0, .string (ByteArray.mk #[]), .bool false] 134) fun b1 h2 =>
  storeL ⟨b1, 0, none⟩ 0 [.int .i64 2, .int .i64 0, .string a0s, .bool false] h2 fun h3 =>
  ∃ x4 : Int, cellH h3 ⟨b1, 0, none⟩ = some (.int .i64 x4) ∧
  ∃ x5 : Int, cellH h3 ⟨b1, 1, none⟩ = some (.int .i64 x5) ∧
  ∃ s6 : ByteArray, cellH h3 ⟨b1, 2, none⟩ = some (.string s6) ∧
  ∃ b7 : Bool, cellH h3 ⟨b1, 3, none⟩ = some (.bool b7) ∧
  R (.agg #[.int .i64 x4, .int .i64 x5, .string s6, .bool b7]) h3
theorem vf95 (a0s : ByteArray) (h : Heap) (R : KV) (hF : F95 a0s h R) : CallsH Tryd.prog 95 #[.string a0s] h R :=
  calls_of_form (A := an95) (fn := Tryd.f95) (c := c95) (args := [.string a0s]) Tryd.func95 (by kernel_rfl) mixed (by kernel_rfl) (by kernel_rfl : F95 a0s h R = vcF Tryd.prog an95 Tryd.f95 c95 [.string a0s] h R) hF
/-! ### 96 refrain/value.truth -/
noncomputable def c96 : Code := match Tryd.f96.body with | some c => c | none => .skip
noncomputable def an96 : Ann := { loops := fun i => [], draws := fun i => #[], joins := fun i => none }
def F96 (a0b : Bool) (h : Heap) (R : KV) : Prop :=
  VNew h (.cells #[.int .i64 0, .int .i64 0, .string (ByteArray.mk #[]), .bool false] 134) fun b1 h2 =>
  storeL ⟨b1, 0, none⟩ 0 [.int .i64 3, .int .i64 0, .string (ByteArray.mk #[]), .bool a0b] h2 fun h3 =>
  ∃ x4 : Int, cellH h3 ⟨b1, 0, none⟩ = some (.int .i64 x4) ∧
  ∃ x5 : Int, cellH h3 ⟨b1, 1, none⟩ = some (.int .i64 x5) ∧
  ∃ s6 : ByteArray, cellH h3 ⟨b1, 2, none⟩ = some (.string s6) ∧
  ∃ b7 : Bool, cellH h3 ⟨b1, 3, none⟩ = some (.bool b7) ∧
  R (.agg #[.int .i64 x4, .int .i64 x5, .string s6, .bool b7]) h3
theorem vf96 (a0b : Bool) (h : Heap) (R : KV) (hF : F96 a0b h R) : CallsH Tryd.prog 96 #[.bool a0b] h R :=
  calls_of_form (A := an96) (fn := Tryd.f96) (c := c96) (args := [.bool a0b]) Tryd.func96 (by kernel_rfl) mixed (by kernel_rfl) (by kernel_rfl : F96 a0b h R = vcF Tryd.prog an96 Tryd.f96 c96 [.bool a0b] h R) hF
/-! ### 97 refrain/schema.Name -/
noncomputable def c97 : Code := match Tryd.f97.body with | some c => c | none => .skip
noncomputable def an97 : Ann := { loops := fun i => match i with | 4 => [(2, .bool), (21, .int .i64)] | 10 => [(2, .bool), (31, .int .i64)] | _ => [], draws := fun i => #[], joins := fun i => none }
def F97 (a0s : ByteArray) (h : Heap) (R : KV) : Prop :=
  cond (strEq a0s (ByteArray.mk #[])) (R (.bool false) h) (cond (decide ((a0s.size : Int) > (32 : Int))) (R (.bool false) h) ((0 : Int) ≤ 0 ∧ ∃ u1 : UInt8, a0s[Int.toNat 0]? = some u1 ∧
      CallsH Tryd.prog 104 #[.int .u8 (u1.toNat : Int)] h fun v2 h3 =>
      ∃ b4 : Bool, v2 = .bool b4 ∧
      cond (!b4)
      (R (.bool false) h3)
      (∃ I5 : Nat → Heap → Bool → Int → Prop, (∃ n6, I5 n6 h3 false 0) ∧
        ∀ (n6 : Nat) (h7 : Heap) (g8 : Env) (y_9 : Bool) (y_10 : Int), I5 n6 h7 y_9 y_10 →
        cond (decide (y_10 < (a0s.size : Int)))
        ((0 : Int) ≤ y_10 ∧ ∃ u12 : UInt8, a0s[Int.toNat y_10]? = some u12 ∧
          CallsH Tryd.prog 105 #[.int .u8 (u12.toNat : Int)] h7 fun v13 h14 =>
          ∃ b15 : Bool, v13 = .bool b15 ∧
          cond (!b15)
          (R (.bool false) h14)
          (∃ m11, m11 < n6 ∧ I5 m11 h14 y_9 (IntKind.i64.wrap (y_10 + 1))))
        (∃ s16 : ByteArray, cellH h7 ⟨1, 0, none⟩ = some (.string s16) ∧
          ∃ s17 : ByteArray, cellH h7 ⟨1, 1, none⟩ = some (.string s17) ∧
          ∃ s18 : ByteArray, cellH h7 ⟨1, 2, none⟩ = some (.string s18) ∧
          ∃ s19 : ByteArray, cellH h7 ⟨1, 3, none⟩ = some (.string s19) ∧
          ∃ s20 : ByteArray, cellH h7 ⟨1, 4, none⟩ = some (.string s20) ∧
          ∃ s21 : ByteArray, cellH h7 ⟨1, 5, none⟩ = some (.string s21) ∧
          ∃ s22 : ByteArray, cellH h7 ⟨1, 6, none⟩ = some (.string s22) ∧
          ∃ s23 : ByteArray, cellH h7 ⟨1, 7, none⟩ = some (.string s23) ∧
          ∃ s24 : ByteArray, cellH h7 ⟨1, 8, none⟩ = some (.string s24) ∧
          ∃ s25 : ByteArray, cellH h7 ⟨1, 9, none⟩ = some (.string s25) ∧
          ∃ s26 : ByteArray, cellH h7 ⟨1, 10, none⟩ = some (.string s26) ∧
          ∃ s27 : ByteArray, cellH h7 ⟨1, 11, none⟩ = some (.string s27) ∧
          ∃ s28 : ByteArray, cellH h7 ⟨1, 12, none⟩ = some (.string s28) ∧
          ∃ s29 : ByteArray, cellH h7 ⟨1, 13, none⟩ = some (.string s29) ∧
          ∃ s30 : ByteArray, cellH h7 ⟨1, 14, none⟩ = some (.string s30) ∧
          ∃ s31 : ByteArray, cellH h7 ⟨1, 15, none⟩ = some (.string s31) ∧
          ∃ I32 : Nat → Heap → Bool → Int → Prop, (∃ n33, I32 n33 h7 y_9 0) ∧
          ∀ (n33 : Nat) (h34 : Heap) (g35 : Env) (y_36 : Bool) (y_37 : Int), I32 n33 h34 y_36 y_37 →
          cond (decide (y_37 < (16 : Int)))
          (PureTo Tryd.prog (Instr.index 161 (.agg #[.string s16, .string s17, .string s18, .string s19, .string s20, .string s21, .string s22, .string s23, .string s24, .string s25, .string s26, .string s27, .string s28, .string s29, .string s30, .string s31]) (.int .i64 y_37)) fun v39 =>
            ∃ s40 : ByteArray, v39 = .string s40 ∧
            cond (strEq a0s s40)
            (R (.bool false) h34)
            (∃ m38, m38 < n33 ∧ I32 m38 h34 y_36 (IntKind.i64.wrap (y_37 + 1))))
          (R (.bool true) h34)))))
theorem vf97 (a0s : ByteArray) (h : Heap) (R : KV) (hF : F97 a0s h R) : CallsH Tryd.prog 97 #[.string a0s] h R :=
  calls_of_form (A := an97) (fn := Tryd.f97) (c := c97) (args := [.string a0s]) Tryd.func97 (by kernel_rfl) mixed (by kernel_rfl) (by kernel_rfl : F97 a0s h R = vcF Tryd.prog an97 Tryd.f97 c97 [.string a0s] h R) hF
/-! ### 98 refrain/wire.putStr -/
noncomputable def c98 : Code := match Tryd.f98.body with | some c => c | none => .skip
noncomputable def an98 : Ann := { loops := fun i => [], draws := fun i => #[], joins := fun i => none }
def F98 (a0b : Option Addr) (la0b ca0b : Nat) (a1s : ByteArray) (h : Heap) (R : KV) : Prop :=
  CallsH Tryd.prog 89 #[.slice a0b la0b ca0b, .int .i64 (a1s.size : Int)] h fun v1 h2 =>
  ∃ (a3 : Option Addr) (la3 ca3 : Nat), v1 = .slice a3 la3 ca3 ∧
  RunsTo Tryd.prog (Builtin.append_ #[35, 9] 35 #[.slice a3 la3 ca3, .string a1s]) h2 fun v4 h5 =>
  ∃ (a6 : Option Addr) (la6 ca6 : Nat), v4 = .slice a6 la6 ca6 ∧
  R (.slice a6 la6 ca6) h5
theorem vf98 (a0b : Option Addr) (la0b ca0b : Nat) (a1s : ByteArray) (h : Heap) (R : KV) (hF : F98 a0b la0b ca0b a1s h R) : CallsH Tryd.prog 98 #[.slice a0b la0b ca0b, .string a1s] h R :=
  calls_of_form (A := an98) (fn := Tryd.f98) (c := c98) (args := [.slice a0b la0b ca0b, .string a1s]) Tryd.func98 (by kernel_rfl) mixed (by kernel_rfl) (by kernel_rfl : F98 a0b la0b ca0b a1s h R = vcF Tryd.prog an98 Tryd.f98 c98 [.slice a0b la0b ca0b, .string a1s] h R) hF
/-! ### 99 refrain/wire.putVal -/
noncomputable def c99 : Code := match Tryd.f99.body with | some c => c | none => .skip
noncomputable def an99 : Ann := { loops := fun i => [], draws := fun i => #[], joins := fun i => none }
def F99 (a0b : Option Addr) (la0b ca0b : Nat) (a1v_0 : Int) (a1v_1 : Int) (a1v_2 : ByteArray) (a1v_3 : Bool) (h : Heap) (R : KV) : Prop :=
  VNew h (.cells #[.int .i64 a1v_0, .int .i64 a1v_1, .string a1v_2, .bool a1v_3] 134) fun b1 h2 =>
  ∃ x3 : Int, cellH h2 ⟨b1, 0, none⟩ = some (.int .i64 x3) ∧
  VNew h2 (.cells #[.int .u8 (IntKind.u8.wrap x3)] 5) fun b4 h5 =>
  RunsTo Tryd.prog (Builtin.append_ #[35, 35] 35 #[.slice a0b la0b ca0b, .slice (some ⟨b4, 0, none⟩) 1 1]) h5 fun v6 h7 =>
  ∃ (a8 : Option Addr) (la8 ca8 : Nat), v6 = .slice a8 la8 ca8 ∧
  ∃ x9 : Int, cellH h7 ⟨b1, 0, none⟩ = some (.int .i64 x9) ∧
  cond (x9 == (1 : Int))
  (∃ x10 : Int, cellH h7 ⟨b1, 1, none⟩ = some (.int .i64 x10) ∧
    CallsH Tryd.prog 89 #[.slice a8 la8 ca8, .int .i64 x10] h7 fun v11 h12 =>
    ∃ (a13 : Option Addr) (la13 ca13 : Nat), v11 = .slice a13 la13 ca13 ∧
    R (.slice a13 la13 ca13) h12)
  (cond (x9 == (2 : Int))
    (∃ s14 : ByteArray, cellH h7 ⟨b1, 2, none⟩ = some (.string s14) ∧
      CallsH Tryd.prog 98 #[.slice a8 la8 ca8, .string s14] h7 fun v15 h16 =>
      ∃ (a17 : Option Addr) (la17 ca17 : Nat), v15 = .slice a17 la17 ca17 ∧
      R (.slice a17 la17 ca17) h16)
    (∃ x18 : Int, cellH h7 ⟨b1, 0, none⟩ = some (.int .i64 x18) ∧
      ∃ x19 : Int, cellH h7 ⟨b1, 1, none⟩ = some (.int .i64 x19) ∧
      ∃ s20 : ByteArray, cellH h7 ⟨b1, 2, none⟩ = some (.string s20) ∧
      ∃ b21 : Bool, cellH h7 ⟨b1, 3, none⟩ = some (.bool b21) ∧
      PureTo Tryd.prog (do eqGuard .eql 134 (.tmp 25) (.tmp 26) (.agg #[.int .i64 x18, .int .i64 x19, .string s20, .bool b21]) (.agg #[.int .i64 3, .int .i64 0, .string (ByteArray.mk #[]), .bool false]); binOp .eql 134 (.agg #[.int .i64 x18, .int .i64 x19, .string s20, .bool b21]) (.agg #[.int .i64 3, .int .i64 0, .string (ByteArray.mk #[]), .bool false])) fun v22 =>
      ∃ b23 : Bool, v22 = .bool b23 ∧
      cond b23
      (VNew h7 (.cells #[.int .u8 0] 5) fun b24 h25 =>
        RunsTo Tryd.prog (Builtin.append_ #[35, 35] 35 #[.slice a8 la8 ca8, .slice (some ⟨b24, 0, none⟩) 1 1]) h25 fun v26 h27 =>
        ∃ (a28 : Option Addr) (la28 ca28 : Nat), v26 = .slice a28 la28 ca28 ∧
        R (.slice a28 la28 ca28) h27)
      (VNew h7 (.cells #[.int .u8 1] 5) fun b29 h30 =>
        RunsTo Tryd.prog (Builtin.append_ #[35, 35] 35 #[.slice a8 la8 ca8, .slice (some ⟨b29, 0, none⟩) 1 1]) h30 fun v31 h32 =>
        ∃ (a33 : Option Addr) (la33 ca33 : Nat), v31 = .slice a33 la33 ca33 ∧
        R (.slice a33 la33 ca33) h32)))
theorem vf99 (a0b : Option Addr) (la0b ca0b : Nat) (a1v_0 : Int) (a1v_1 : Int) (a1v_2 : ByteArray) (a1v_3 : Bool) (h : Heap) (R : KV) (hF : F99 a0b la0b ca0b a1v_0 a1v_1 a1v_2 a1v_3 h R) : CallsH Tryd.prog 99 #[.slice a0b la0b ca0b, .agg #[.int .i64 a1v_0, .int .i64 a1v_1, .string a1v_2, .bool a1v_3]] h R :=
  calls_of_form (A := an99) (fn := Tryd.f99) (c := c99) (args := [.slice a0b la0b ca0b, .agg #[.int .i64 a1v_0, .int .i64 a1v_1, .string a1v_2, .bool a1v_3]]) Tryd.func99 (by kernel_rfl) mixed (by kernel_rfl) (by kernel_rfl : F99 a0b la0b ca0b a1v_0 a1v_1 a1v_2 a1v_3 h R = vcF Tryd.prog an99 Tryd.f99 c99 [.slice a0b la0b ca0b, .agg #[.int .i64 a1v_0, .int .i64 a1v_1, .string a1v_2, .bool a1v_3]] h R) hF
/-! ### 100 (refrain/wire.reader).bytes -/
noncomputable def c100 : Code := match Tryd.f100.body with | some c => c | none => .skip
noncomputable def an100 : Ann := { loops := fun i => [], draws := fun i => match i with | 1 => #[0, 1, 3, 7, 15, 31, 63, 63, 191, 447, 959, 1983, 63, 4159, 12351, 28735, 65471, 131071, 262143] | 6 => #[0, 1, 3, 7, 0, 16, 48, 112, 0, 496, 0, 1024, 3072, 7168, 16383, 32767, 65535] | _ => #[], joins := fun i => match i with | 3 => some [] | _ => none }
def F100 (a0r : Option Addr) (a1n : Int) (h : Heap) (R : KV) : Prop :=
  ∃ J1 : Heap → Prop, (VSome a0r fun a2 =>
    ∃ x3 : Int, cellH h ⟨a2.block, a2.off + 2, none⟩ = some (.int .i64 x3) ∧
    cond (x3 == (0 : Int)) (VSome a0r fun a4 =>
      ∃ (a5 : Option Addr) (la5 ca5 : Nat), cellH h a4 = some (.slice a5 la5 ca5) ∧
      VSome a0r fun a6 =>
      ∃ x7 : Int, cellH h ⟨a6.block, a6.off + 1, none⟩ = some (.int .i64 x7) ∧
      cond (decide (a1n > (IntKind.i64.wrap ((la5 : Int) - x7))))
      (CallsH Tryd.prog 102 #[.pointer a0r, .int .i64 30] h fun v8 h9 =>
        v8 = .tuple #[] ∧
        J1 h9)
      (J1 h)) (J1 h)) ∧
  ∀ (h10 : Heap) (g11 : Env), J1 h10 →
  VSome a0r fun a12 =>
  ∃ x13 : Int, cellH h10 ⟨a12.block, a12.off + 2, none⟩ = some (.int .i64 x13) ∧
  cond (x13 != (0 : Int))
  (R (.string (ByteArray.mk #[])) h10)
  (VSome a0r fun a14 =>
    ∃ x15 : Int, cellH h10 ⟨a14.block, a14.off + 1, none⟩ = some (.int .i64 x15) ∧
    VSome a0r fun a16 =>
    VStore h10 ⟨a16.block, a16.off + 1, none⟩ (.int .i64 (IntKind.i64.wrap (x15 + a1n))) fun h17 =>
    VSome a0r fun a18 =>
    ∃ (a19 : Option Addr) (la19 ca19 : Nat), cellH h17 a18 = some (.slice a19 la19 ca19) ∧
    VSome a0r fun a20 =>
    ∃ x21 : Int, cellH h17 ⟨a20.block, a20.off + 1, none⟩ = some (.int .i64 x21) ∧
    VSome a0r fun a22 =>
    ∃ x23 : Int, cellH h17 ⟨a22.block, a22.off + 1, none⟩ = some (.int .i64 x23) ∧
    VSlice 1 a19 ca19 (IntKind.i64.wrap (x21 - a1n)) x23 (ca19 : Int) fun a24 la24 ca24 =>
    RunsTo Tryd.prog (convert 35 9 (.slice a24 la24 ca24)) h17 fun v25 h26 =>
    ∃ s27 : ByteArray, v25 = .string s27 ∧
    R (.string s27) h26)
theorem vf100 (a0r : Option Addr) (a1n : Int) (h : Heap) (R : KV) (hF : F100 a0r a1n h R) : CallsH Tryd.prog 100 #[.pointer a0r, .int .i64 a1n] h R :=
  calls_of_form (A := an100) (fn := Tryd.f100) (c := c100) (args := [.pointer a0r, .int .i64 a1n]) Tryd.func100 (by kernel_rfl) mixed (by kernel_rfl) (by kernel_rfl : F100 a0r a1n h R = vcF Tryd.prog an100 Tryd.f100 c100 [.pointer a0r, .int .i64 a1n] h R) hF
/-! ### 101 (refrain/wire.reader).number -/
noncomputable def c101 : Code := match Tryd.f101.body with | some c => c | none => .skip
noncomputable def an101 : Ann := { loops := fun i => [], draws := fun i => match i with | 3 => #[0, 1, 3, 7, 0, 16, 48, 112, 255, 511, 1023, 2047, 2047, 2047, 4095, 24575, 65535] | _ => #[], joins := fun i => none }
def F101 (a0r : Option Addr) (a1lo : Int) (a2hi : Int) (h : Heap) (R : KV) : Prop :=
  VSome a0r fun a1 =>
  ∃ x2 : Int, cellH h ⟨a1.block, a1.off + 2, none⟩ = some (.int .i64 x2) ∧
  cond (x2 != (0 : Int))
  (R (.int .i64 0) h)
  (VSome a0r fun a3 =>
    ∃ (a4 : Option Addr) (la4 ca4 : Nat), cellH h a3 = some (.slice a4 la4 ca4) ∧
    VSome a0r fun a5 =>
    ∃ x6 : Int, cellH h ⟨a5.block, a5.off + 1, none⟩ = some (.int .i64 x6) ∧
    VSlice 1 a4 ca4 x6 (la4 : Int) (ca4 : Int) fun a7 la7 ca7 =>
    CallsH Tryd.prog 82 #[.slice a7 la7 ca7] h fun v8 h9 =>
    ∃ x10 : Int, ∃ x11 : Int, ∃ x12 : Int, v8 = .tuple #[.int .i64 x10, .int .i64 x11, .int .i64 x12] ∧
    cond (x12 != (0 : Int))
    (CallsH Tryd.prog 102 #[.pointer a0r, .int .i64 x12] h9 fun v13 h14 =>
      v13 = .tuple #[] ∧
      R (.int .i64 0) h14)
    (cond (decide (x10 < a1lo)) (CallsH Tryd.prog 102 #[.pointer a0r, .int .i64 31] h9 fun v15 h16 =>
        v15 = .tuple #[] ∧
        R (.int .i64 0) h16) (cond (decide (x10 > a2hi))
        (CallsH Tryd.prog 102 #[.pointer a0r, .int .i64 31] h9 fun v17 h18 =>
          v17 = .tuple #[] ∧
          R (.int .i64 0) h18)
        (VSome a0r fun a19 =>
          ∃ x20 : Int, cellH h9 ⟨a19.block, a19.off + 1, none⟩ = some (.int .i64 x20) ∧
          VSome a0r fun a21 =>
          VStore h9 ⟨a21.block, a21.off + 1, none⟩ (.int .i64 (IntKind.i64.wrap (x20 + x11))) fun h22 =>
          R (.int .i64 x10) h22))))
theorem vf101 (a0r : Option Addr) (a1lo : Int) (a2hi : Int) (h : Heap) (R : KV) (hF : F101 a0r a1lo a2hi h R) : CallsH Tryd.prog 101 #[.pointer a0r, .int .i64 a1lo, .int .i64 a2hi] h R :=
  calls_of_form (A := an101) (fn := Tryd.f101) (c := c101) (args := [.pointer a0r, .int .i64 a1lo, .int .i64 a2hi]) Tryd.func101 (by kernel_rfl) mixed (by kernel_rfl) (by kernel_rfl : F101 a0r a1lo a2hi h R = vcF Tryd.prog an101 Tryd.f101 c101 [.pointer a0r, .int .i64 a1lo, .int .i64 a2hi] h R) hF
/-! ### 102 (refrain/wire.reader).fail -/
noncomputable def c102 : Code := match Tryd.f102.body with | some c => c | none => .skip
noncomputable def an102 : Ann := { loops := fun i => [], draws := fun i => #[], joins := fun i => none }
def F102 (a0r : Option Addr) (a1e : Int) (h : Heap) (R : KV) : Prop :=
  VSome a0r fun a1 =>
  ∃ x2 : Int, cellH h ⟨a1.block, a1.off + 2, none⟩ = some (.int .i64 x2) ∧
  cond (x2 == (0 : Int))
  (VSome a0r fun a3 =>
    VStore h ⟨a3.block, a3.off + 2, none⟩ (.int .i64 a1e) fun h4 =>
    R (.tuple #[]) h4)
  (R (.tuple #[]) h)
theorem vf102 (a0r : Option Addr) (a1e : Int) (h : Heap) (R : KV) (hF : F102 a0r a1e h R) : CallsH Tryd.prog 102 #[.pointer a0r, .int .i64 a1e] h R :=
  calls_of_form (A := an102) (fn := Tryd.f102) (c := c102) (args := [.pointer a0r, .int .i64 a1e]) Tryd.func102 (by kernel_rfl) mixed (by kernel_rfl) (by kernel_rfl : F102 a0r a1e h R = vcF Tryd.prog an102 Tryd.f102 c102 [.pointer a0r, .int .i64 a1e] h R) hF
/-! ### 103 (refrain/wire.reader).value -/
noncomputable def c103 : Code := match Tryd.f103.body with | some c => c | none => .skip
noncomputable def an103 : Ann := { loops := fun i => [], draws := fun i => #[], joins := fun i => match i with | 10 => some [] | _ => none }
def F103 (a0r : Option Addr) (h : Heap) (R : KV) : Prop :=
  VNew h (.cells #[.int .i64 0, .int .i64 0, .string (ByteArray.mk #[]), .bool false] 134) fun b1 h2 =>
  CallsH Tryd.prog 106 #[.pointer a0r, .int .u8 1, .int .u8 3] h2 fun v3 h4 =>
  ∃ x5 : Int, v3 = .int .u8 x5 ∧
  VNew h4 (.cells #[.int .i64 0, .int .i64 0, .string (ByteArray.mk #[]), .bool false] 134) fun b6 h7 =>
  storeL ⟨b6, 0, none⟩ 0 [.int .i64 (IntKind.i64.wrap x5), .int .i64 0, .string (ByteArray.mk #[]), .bool false] h7 fun h8 =>
  VSome a0r fun a9 =>
  ∃ x10 : Int, cellH h8 ⟨a9.block, a9.off + 2, none⟩ = some (.int .i64 x10) ∧
  cond (x10 != (0 : Int))
  (storeL ⟨b1, 0, none⟩ 0 [.int .i64 0, .int .i64 0, .string (ByteArray.mk #[]), .bool false] h8 fun h11 =>
    ∃ x12 : Int, cellH h11 ⟨b1, 0, none⟩ = some (.int .i64 x12) ∧
    ∃ x13 : Int, cellH h11 ⟨b1, 1, none⟩ = some (.int .i64 x13) ∧
    ∃ s14 : ByteArray, cellH h11 ⟨b1, 2, none⟩ = some (.string s14) ∧
    ∃ b15 : Bool, cellH h11 ⟨b1, 3, none⟩ = some (.bool b15) ∧
    R (.agg #[.int .i64 x12, .int .i64 x13, .string s14, .bool b15]) h11)
  (∃ J16 : Heap → Prop, (∃ x17 : Int, cellH h8 ⟨b6, 0, none⟩ = some (.int .i64 x17) ∧
      cond (x17 == (1 : Int))
      (CallsH Tryd.prog 101 #[.pointer a0r, .int .i64 (-9223372036854775808 : Int), .int .i64 9223372036854775807] h8 fun v18 h19 =>
        ∃ x20 : Int, v18 = .int .i64 x20 ∧
        VStore h19 ⟨b6, 1, none⟩ (.int .i64 x20) fun h21 =>
        J16 h21)
      (cond (x17 == (2 : Int))
        (CallsH Tryd.prog 101 #[.pointer a0r, .int .i64 0, .int .i64 256] h8 fun v22 h23 =>
          ∃ x24 : Int, v22 = .int .i64 x24 ∧
          CallsH Tryd.prog 100 #[.pointer a0r, .int .i64 x24] h23 fun v25 h26 =>
          ∃ s27 : ByteArray, v25 = .string s27 ∧
          VStore h26 ⟨b6, 2, none⟩ (.string s27) fun h28 =>
          J16 h28)
        (CallsH Tryd.prog 106 #[.pointer a0r, .int .u8 0, .int .u8 1] h8 fun v29 h30 =>
          ∃ x31 : Int, v29 = .int .u8 x31 ∧
          VStore h30 ⟨b6, 3, none⟩ (.bool (x31 == (1 : Int))) fun h32 =>
          J16 h32))) ∧
    ∀ (h33 : Heap) (g34 : Env), J16 h33 →
    ∃ x35 : Int, cellH h33 ⟨b6, 0, none⟩ = some (.int .i64 x35) ∧
    ∃ x36 : Int, cellH h33 ⟨b6, 1, none⟩ = some (.int .i64 x36) ∧
    ∃ s37 : ByteArray, cellH h33 ⟨b6, 2, none⟩ = some (.string s37) ∧
    ∃ b38 : Bool, cellH h33 ⟨b6, 3, none⟩ = some (.bool b38) ∧
    storeL ⟨b1, 0, none⟩ 0 [.int .i64 x35, .int .i64 x36, .string s37, .bool b38] h33 fun h39 =>
    ∃ x40 : Int, cellH h39 ⟨b1, 0, none⟩ = some (.int .i64 x40) ∧
    ∃ x41 : Int, cellH h39 ⟨b1, 1, none⟩ = some (.int .i64 x41) ∧
    ∃ s42 : ByteArray, cellH h39 ⟨b1, 2, none⟩ = some (.string s42) ∧
    ∃ b43 : Bool, cellH h39 ⟨b1, 3, none⟩ = some (.bool b43) ∧
    R (.agg #[.int .i64 x40, .int .i64 x41, .string s42, .bool b43]) h39)
theorem vf103 (a0r : Option Addr) (h : Heap) (R : KV) (hF : F103 a0r h R) : CallsH Tryd.prog 103 #[.pointer a0r] h R :=
  calls_of_form (A := an103) (fn := Tryd.f103) (c := c103) (args := [.pointer a0r]) Tryd.func103 (by kernel_rfl) mixed (by kernel_rfl) (by kernel_rfl : F103 a0r h R = vcF Tryd.prog an103 Tryd.f103 c103 [.pointer a0r] h R) hF
/-! ### 104 refrain/schema.letter -/
noncomputable def c104 : Code := match Tryd.f104.body with | some c => c | none => .skip
noncomputable def an104 : Ann := { loops := fun i => [], draws := fun i => #[], joins := fun i => none }
def F104 (a0c : Int) (h : Heap) (R : KV) : Prop :=
  cond (decide (a0c ≥ (97 : Int))) (cond (decide (a0c ≤ (122 : Int))) (R (.bool true) h) (cond (decide (a0c ≥ (65 : Int))) (cond (decide (a0c ≤ (90 : Int))) (R (.bool true) h) (R (.bool (a0c == (95 : Int))) h)) (R (.bool (a0c == (95 : Int))) h))) (cond (decide (a0c ≥ (65 : Int))) (cond (decide (a0c ≤ (90 : Int))) (R (.bool true) h) (R (.bool (a0c == (95 : Int))) h)) (R (.bool (a0c == (95 : Int))) h))
theorem vf104 (a0c : Int) (h : Heap) (R : KV) (hF : F104 a0c h R) : CallsH Tryd.prog 104 #[.int .u8 a0c] h R :=
  calls_of_form (A := an104) (fn := Tryd.f104) (c := c104) (args := [.int .u8 a0c]) Tryd.func104 (by kernel_rfl) mixed (by kernel_rfl) (by kernel_rfl : F104 a0c h R = vcF Tryd.prog an104 Tryd.f104 c104 [.int .u8 a0c] h R) hF
/-! ### 105 refrain/schema.part -/
noncomputable def c105 : Code := match Tryd.f105.body with | some c => c | none => .skip
noncomputable def an105 : Ann := { loops := fun i => [], draws := fun i => #[], joins := fun i => none }
def F105 (a0c : Int) (h : Heap) (R : KV) : Prop :=
  CallsH Tryd.prog 104 #[.int .u8 a0c] h fun v1 h2 =>
  ∃ b3 : Bool, v1 = .bool b3 ∧
  cond b3 (R (.bool true) h2) (cond (decide (a0c ≥ (48 : Int))) (R (.bool (decide (a0c ≤ (57 : Int)))) h2) (R (.bool false) h2))
theorem vf105 (a0c : Int) (h : Heap) (R : KV) (hF : F105 a0c h R) : CallsH Tryd.prog 105 #[.int .u8 a0c] h R :=
  calls_of_form (A := an105) (fn := Tryd.f105) (c := c105) (args := [.int .u8 a0c]) Tryd.func105 (by kernel_rfl) mixed (by kernel_rfl) (by kernel_rfl : F105 a0c h R = vcF Tryd.prog an105 Tryd.f105 c105 [.int .u8 a0c] h R) hF
/-! ### 106 (refrain/wire.reader).one -/
noncomputable def c106 : Code := match Tryd.f106.body with | some c => c | none => .skip
noncomputable def an106 : Ann := { loops := fun i => [], draws := fun i => #[], joins := fun i => match i with | 6 => some [] | _ => none }
def F106 (a0r : Option Addr) (a1lo : Int) (a2hi : Int) (h : Heap) (R : KV) : Prop :=
  CallsH Tryd.prog 100 #[.pointer a0r, .int .i64 1] h fun v1 h2 =>
  ∃ s3 : ByteArray, v1 = .string s3 ∧
  VSome a0r fun a4 =>
  ∃ x5 : Int, cellH h2 ⟨a4.block, a4.off + 2, none⟩ = some (.int .i64 x5) ∧
  cond (x5 != (0 : Int))
  (R (.int .u8 0) h2)
  (∃ J6 : Heap → Prop, ((0 : Int) ≤ 0 ∧ ∃ u7 : UInt8, s3[Int.toNat 0]? = some u7 ∧
      cond (decide ((u7.toNat : Int) < a1lo)) (CallsH Tryd.prog 102 #[.pointer a0r, .int .i64 31] h2 fun v8 h9 =>
        v8 = .tuple #[] ∧
        J6 h9) ((0 : Int) ≤ 0 ∧ ∃ u10 : UInt8, s3[Int.toNat 0]? = some u10 ∧
        cond (decide ((u10.toNat : Int) > a2hi))
        (CallsH Tryd.prog 102 #[.pointer a0r, .int .i64 31] h2 fun v11 h12 =>
          v11 = .tuple #[] ∧
          J6 h12)
        (J6 h2))) ∧
    ∀ (h13 : Heap) (g14 : Env), J6 h13 →
    (0 : Int) ≤ 0 ∧ ∃ u15 : UInt8, s3[Int.toNat 0]? = some u15 ∧
    R (.int .u8 (u15.toNat : Int)) h13)
theorem vf106 (a0r : Option Addr) (a1lo : Int) (a2hi : Int) (h : Heap) (R : KV) (hF : F106 a0r a1lo a2hi h R) : CallsH Tryd.prog 106 #[.pointer a0r, .int .u8 a1lo, .int .u8 a2hi] h R :=
  calls_of_form (A := an106) (fn := Tryd.f106) (c := c106) (args := [.pointer a0r, .int .u8 a1lo, .int .u8 a2hi]) Tryd.func106 (by kernel_rfl) mixed (by kernel_rfl) (by kernel_rfl : F106 a0r a1lo a2hi h R = vcF Tryd.prog an106 Tryd.f106 c106 [.pointer a0r, .int .u8 a1lo, .int .u8 a2hi] h R) hF
end Go.Proofs.YtgdgebmlcgohhaaDoor.F
