/- Printed by gen.py: the conditions of the translated functions, each a plain formula over heaps; the kernel checks that it is the one that the translation gives. Conditions: none. -/
import Derived.Test.YtofaihacmoacjaaDoorV8
import Derived.Test.YtofaihacmoacjaaDoorProg
namespace Go.Proofs.YtofaihacmoacjaaDoor.F
open Go Go.VC Go.Proofs
set_option linter.unusedVariables false
set_option maxRecDepth 100000

theorem mixed : Tryd.prog.follows .mixedOrders = true := by kernel_rfl
/-! ### 3 refrain/refrainlaw3.WireEvents -/
noncomputable def c3 : Code := match Tryd.f3.body with | some c => c | none => .skip
noncomputable def an3 : Ann := { loops := fun i => match i with | 4 => [(4, .bool), (5, .int .i64)] | 12 => [(4, .bool), (12, .int .i64)] | _ => [], draws := fun i => #[], joins := fun i => none }
def F3 (a0es : Option Addr) (la0es ca0es : Nat) (a1raws : Option Addr) (la1raws ca1raws : Nat) (h : Heap) (R : KV) : Prop :=
  CallsH Tryd.prog 11 #[] h fun v1 h2 =>
  ∃ b3 : Bool, v1 = .bool b3 ∧
  cond (!b3)
  (R (.bool false) h2)
  (∃ I4 : Nat → Heap → Bool → Int → Prop, (∃ n5, I4 n5 h2 false 0) ∧
    ∀ (n5 : Nat) (h6 : Heap) (g7 : Env) (y_8 : Bool) (i_9 : Int), I4 n5 h6 y_8 i_9 →
    cond (decide (i_9 < (la0es : Int)))
    (VIdx a0es la0es i_9 3 fun a11 =>
      ∃ s12 : ByteArray, cellH h6 a11 = some (.string s12) ∧
      ∃ x13 : Int, cellH h6 ⟨a11.block, a11.off + 1, none⟩ = some (.int .i64 x13) ∧
      ∃ (a14 : Option Addr) (la14 ca14 : Nat), cellH h6 ⟨a11.block, a11.off + 2, none⟩ = some (.slice a14 la14 ca14) ∧
      CallsH Tryd.prog 12 #[.agg #[.string s12, .int .i64 x13, .slice a14 la14 ca14]] h6 fun v15 h16 =>
      ∃ s17 : ByteArray, ∃ x18 : Int, ∃ (a19 : Option Addr) (la19 ca19 : Nat), ∃ (a20 : Option Addr) (la20 ca20 : Nat), v15 = .tuple #[.agg #[.string s17, .int .i64 x18, .slice a19 la19 ca19], .slice a20 la20 ca20] ∧
      VNew h16 (.cells #[.string (ByteArray.mk #[]), .int .i64 0, .slice none 0 0] 27) fun b21 h22 =>
      storeL ⟨b21, 0, none⟩ 0 [.string s17, .int .i64 x18, .slice a19 la19 ca19] h22 fun h23 =>
      ∃ s24 : ByteArray, cellH h23 ⟨b21, 0, none⟩ = some (.string s24) ∧
      ∃ x25 : Int, cellH h23 ⟨b21, 1, none⟩ = some (.int .i64 x25) ∧
      ∃ (a26 : Option Addr) (la26 ca26 : Nat), cellH h23 ⟨b21, 2, none⟩ = some (.slice a26 la26 ca26) ∧
      CallsH Tryd.prog 13 #[.agg #[.string s24, .int .i64 x25, .slice a26 la26 ca26]] h23 fun v27 h28 =>
      ∃ (a29 : Option Addr) (la29 ca29 : Nat), ∃ x30 : Int, v27 = .tuple #[.slice a29 la29 ca29, .int .i64 x30] ∧
      VIdx a0es la0es i_9 3 fun a31 =>
      ∃ s32 : ByteArray, cellH h28 a31 = some (.string s32) ∧
      ∃ x33 : Int, cellH h28 ⟨a31.block, a31.off + 1, none⟩ = some (.int .i64 x33) ∧
      ∃ (a34 : Option Addr) (la34 ca34 : Nat), cellH h28 ⟨a31.block, a31.off + 2, none⟩ = some (.slice a34 la34 ca34) ∧
      CallsH Tryd.prog 14 #[.agg #[.string s32, .int .i64 x33, .slice a34 la34 ca34]] h28 fun v35 h36 =>
      ∃ (a37 : Option Addr) (la37 ca37 : Nat), ∃ x38 : Int, v35 = .tuple #[.slice a37 la37 ca37, .int .i64 x38] ∧
      cond (x30 != x38) (R (.bool false) h36) (CallsH Tryd.prog 15 #[.slice a29 la29 ca29, .slice a37 la37 ca37] h36 fun v39 h40 =>
        ∃ b41 : Bool, v39 = .bool b41 ∧
        cond (!b41) (R (.bool false) h40) (VIdx a0es la0es i_9 3 fun a42 =>
          ∃ s43 : ByteArray, cellH h40 a42 = some (.string s43) ∧
          ∃ x44 : Int, cellH h40 ⟨a42.block, a42.off + 1, none⟩ = some (.int .i64 x44) ∧
          ∃ (a45 : Option Addr) (la45 ca45 : Nat), cellH h40 ⟨a42.block, a42.off + 2, none⟩ = some (.slice a45 la45 ca45) ∧
          CallsH Tryd.prog 16 #[.slice a20 la20 ca20, .agg #[.string s43, .int .i64 x44, .slice a45 la45 ca45]] h40 fun v46 h47 =>
          ∃ b48 : Bool, v46 = .bool b48 ∧
          cond (!b48)
          (R (.bool false) h47)
          (∃ m10, m10 < n5 ∧ I4 m10 h47 y_8 (IntKind.i64.wrap (i_9 + 1))))))
    (∃ I49 : Nat → Heap → Bool → Int → Prop, (∃ n50, I49 n50 h6 y_8 0) ∧
      ∀ (n50 : Nat) (h51 : Heap) (g52 : Env) (y_53 : Bool) (i_54 : Int), I49 n50 h51 y_53 i_54 →
      cond (decide (i_54 < (la1raws : Int)))
      (VIdx a1raws la1raws i_54 1 fun a56 =>
        ∃ (a57 : Option Addr) (la57 ca57 : Nat), cellH h51 a56 = some (.slice a57 la57 ca57) ∧
        CallsH Tryd.prog 17 #[.slice a57 la57 ca57] h51 fun v58 h59 =>
        ∃ (a60 : Option Addr) (la60 ca60 : Nat), v58 = .slice a60 la60 ca60 ∧
        VIdx a1raws la1raws i_54 1 fun a61 =>
        ∃ (a62 : Option Addr) (la62 ca62 : Nat), cellH h59 a61 = some (.slice a62 la62 ca62) ∧
        VSlice 1 a60 ca60 0 (la62 : Int) (ca60 : Int) fun a63 la63 ca63 =>
        CallsH Tryd.prog 18 #[.slice a63 la63 ca63] h59 fun v64 h65 =>
        ∃ s66 : ByteArray, ∃ x67 : Int, ∃ (a68 : Option Addr) (la68 ca68 : Nat), ∃ x69 : Int, ∃ x70 : Int, v64 = .tuple #[.agg #[.string s66, .int .i64 x67, .slice a68 la68 ca68], .int .i64 x69, .int .i64 x70] ∧
        VNew h65 (.cells #[.string (ByteArray.mk #[]), .int .i64 0, .slice none 0 0] 27) fun b71 h72 =>
        storeL ⟨b71, 0, none⟩ 0 [.string s66, .int .i64 x67, .slice a68 la68 ca68] h72 fun h73 =>
        VIdx a1raws la1raws i_54 1 fun a74 =>
        ∃ (a75 : Option Addr) (la75 ca75 : Nat), cellH h73 a74 = some (.slice a75 la75 ca75) ∧
        CallsH Tryd.prog 19 #[.slice a75 la75 ca75] h73 fun v76 h77 =>
        ∃ s78 : ByteArray, ∃ x79 : Int, ∃ (a80 : Option Addr) (la80 ca80 : Nat), ∃ x81 : Int, ∃ x82 : Int, v76 = .tuple #[.agg #[.string s78, .int .i64 x79, .slice a80 la80 ca80], .int .i64 x81, .int .i64 x82] ∧
        VNew h77 (.cells #[.string (ByteArray.mk #[]), .int .i64 0, .slice none 0 0] 27) fun b83 h84 =>
        storeL ⟨b83, 0, none⟩ 0 [.string s78, .int .i64 x79, .slice a80 la80 ca80] h84 fun h85 =>
        ∃ s86 : ByteArray, cellH h85 ⟨b71, 0, none⟩ = some (.string s86) ∧
        ∃ x87 : Int, cellH h85 ⟨b71, 1, none⟩ = some (.int .i64 x87) ∧
        ∃ (a88 : Option Addr) (la88 ca88 : Nat), cellH h85 ⟨b71, 2, none⟩ = some (.slice a88 la88 ca88) ∧
        ∃ s89 : ByteArray, cellH h85 ⟨b83, 0, none⟩ = some (.string s89) ∧
        ∃ x90 : Int, cellH h85 ⟨b83, 1, none⟩ = some (.int .i64 x90) ∧
        ∃ (a91 : Option Addr) (la91 ca91 : Nat), cellH h85 ⟨b83, 2, none⟩ = some (.slice a91 la91 ca91) ∧
        CallsH Tryd.prog 20 #[.agg #[.string s86, .int .i64 x87, .slice a88 la88 ca88], .agg #[.string s89, .int .i64 x90, .slice a91 la91 ca91]] h85 fun v92 h93 =>
        ∃ b94 : Bool, v92 = .bool b94 ∧
        cond (!b94) (R (.bool false) h93) (cond (x69 != x81) (R (.bool false) h93) (cond (x70 != x82) (R (.bool false) h93) (VIdx a1raws la1raws i_54 1 fun a95 =>
              ∃ (a96 : Option Addr) (la96 ca96 : Nat), cellH h93 a95 = some (.slice a96 la96 ca96) ∧
              CallsH Tryd.prog 17 #[.slice a96 la96 ca96] h93 fun v97 h98 =>
              ∃ (a99 : Option Addr) (la99 ca99 : Nat), v97 = .slice a99 la99 ca99 ∧
              CallsH Tryd.prog 15 #[.slice a60 la60 ca60, .slice a99 la99 ca99] h98 fun v100 h101 =>
              ∃ b102 : Bool, v100 = .bool b102 ∧
              cond (!b102)
              (R (.bool false) h101)
              (∃ m55, m55 < n50 ∧ I49 m55 h101 y_53 (IntKind.i64.wrap (i_54 + 1)))))))
      (R (.bool true) h51)))
theorem vf3 (a0es : Option Addr) (la0es ca0es : Nat) (a1raws : Option Addr) (la1raws ca1raws : Nat) (h : Heap) (R : KV) (hF : F3 a0es la0es ca0es a1raws la1raws ca1raws h R) : CallsH Tryd.prog 3 #[.slice a0es la0es ca0es, .slice a1raws la1raws ca1raws] h R :=
  calls_of_vc (A := an3) (fn := Tryd.f3) (c := c3) (args := [.slice a0es la0es ca0es, .slice a1raws la1raws ca1raws]) Tryd.func3 (by kernel_rfl) mixed (by kernel_rfl) (Eq.mp (by kernel_rfl : F3 a0es la0es ca0es a1raws la1raws ca1raws h R = vcF Tryd.prog an3 Tryd.f3 c3 [.slice a0es la0es ca0es, .slice a1raws la1raws ca1raws] h R) hF)
/-! ### 4 refrain/refrainlaw3.WireInts -/
noncomputable def c4 : Code := match Tryd.f4.body with | some c => c | none => .skip
noncomputable def an4 : Ann := { loops := fun i => match i with | 4 => [(4, .bool), (5, .int .i64)] | 10 => [(4, .bool), (7, .int .i64)] | _ => [], draws := fun i => #[], joins := fun i => none }
def F4 (a0ns : Option Addr) (la0ns ca0ns : Nat) (a1raws : Option Addr) (la1raws ca1raws : Nat) (h : Heap) (R : KV) : Prop :=
  CallsH Tryd.prog 11 #[] h fun v1 h2 =>
  ∃ b3 : Bool, v1 = .bool b3 ∧
  cond (!b3)
  (R (.bool false) h2)
  (∃ I4 : Nat → Heap → Bool → Int → Prop, (∃ n5, I4 n5 h2 false 0) ∧
    ∀ (n5 : Nat) (h6 : Heap) (g7 : Env) (y_8 : Bool) (i_9 : Int), I4 n5 h6 y_8 i_9 →
    cond (decide (i_9 < (la0ns : Int)))
    (VIdx a0ns la0ns i_9 1 fun a11 =>
      ∃ x12 : Int, cellH h6 a11 = some (.int .i64 x12) ∧
      CallsH Tryd.prog 21 #[.int .i64 x12] h6 fun v13 h14 =>
      ∃ (a15 : Option Addr) (la15 ca15 : Nat), v13 = .slice a15 la15 ca15 ∧
      VIdx a0ns la0ns i_9 1 fun a16 =>
      ∃ x17 : Int, cellH h14 a16 = some (.int .i64 x17) ∧
      CallsH Tryd.prog 22 #[.int .i64 x17] h14 fun v18 h19 =>
      ∃ (a20 : Option Addr) (la20 ca20 : Nat), v18 = .slice a20 la20 ca20 ∧
      CallsH Tryd.prog 15 #[.slice a15 la15 ca15, .slice a20 la20 ca20] h19 fun v21 h22 =>
      ∃ b23 : Bool, v21 = .bool b23 ∧
      cond (!b23)
      (R (.bool false) h22)
      (∃ m10, m10 < n5 ∧ I4 m10 h22 y_8 (IntKind.i64.wrap (i_9 + 1))))
    (∃ I24 : Nat → Heap → Bool → Int → Prop, (∃ n25, I24 n25 h6 y_8 0) ∧
      ∀ (n25 : Nat) (h26 : Heap) (g27 : Env) (y_28 : Bool) (i_29 : Int), I24 n25 h26 y_28 i_29 →
      cond (decide (i_29 < (la1raws : Int)))
      (VIdx a1raws la1raws i_29 1 fun a31 =>
        ∃ (a32 : Option Addr) (la32 ca32 : Nat), cellH h26 a31 = some (.slice a32 la32 ca32) ∧
        CallsH Tryd.prog 17 #[.slice a32 la32 ca32] h26 fun v33 h34 =>
        ∃ (a35 : Option Addr) (la35 ca35 : Nat), v33 = .slice a35 la35 ca35 ∧
        VIdx a1raws la1raws i_29 1 fun a36 =>
        ∃ (a37 : Option Addr) (la37 ca37 : Nat), cellH h34 a36 = some (.slice a37 la37 ca37) ∧
        VSlice 1 a35 ca35 0 (la37 : Int) (ca35 : Int) fun a38 la38 ca38 =>
        CallsH Tryd.prog 23 #[.slice a38 la38 ca38] h34 fun v39 h40 =>
        ∃ x41 : Int, ∃ x42 : Int, ∃ x43 : Int, v39 = .tuple #[.int .i64 x41, .int .i64 x42, .int .i64 x43] ∧
        VIdx a1raws la1raws i_29 1 fun a44 =>
        ∃ (a45 : Option Addr) (la45 ca45 : Nat), cellH h40 a44 = some (.slice a45 la45 ca45) ∧
        CallsH Tryd.prog 24 #[.slice a45 la45 ca45] h40 fun v46 h47 =>
        ∃ x48 : Int, ∃ x49 : Int, ∃ x50 : Int, v46 = .tuple #[.int .i64 x48, .int .i64 x49, .int .i64 x50] ∧
        cond (x41 != x48) (R (.bool false) h47) (cond (x42 != x49) (R (.bool false) h47) (cond (x43 != x50) (R (.bool false) h47) (VIdx a1raws la1raws i_29 1 fun a51 =>
              ∃ (a52 : Option Addr) (la52 ca52 : Nat), cellH h47 a51 = some (.slice a52 la52 ca52) ∧
              CallsH Tryd.prog 17 #[.slice a52 la52 ca52] h47 fun v53 h54 =>
              ∃ (a55 : Option Addr) (la55 ca55 : Nat), v53 = .slice a55 la55 ca55 ∧
              CallsH Tryd.prog 15 #[.slice a35 la35 ca35, .slice a55 la55 ca55] h54 fun v56 h57 =>
              ∃ b58 : Bool, v56 = .bool b58 ∧
              cond (!b58)
              (R (.bool false) h57)
              (∃ m30, m30 < n25 ∧ I24 m30 h57 y_28 (IntKind.i64.wrap (i_29 + 1)))))))
      (R (.bool true) h26)))
theorem vf4 (a0ns : Option Addr) (la0ns ca0ns : Nat) (a1raws : Option Addr) (la1raws ca1raws : Nat) (h : Heap) (R : KV) (hF : F4 a0ns la0ns ca0ns a1raws la1raws ca1raws h R) : CallsH Tryd.prog 4 #[.slice a0ns la0ns ca0ns, .slice a1raws la1raws ca1raws] h R :=
  calls_of_vc (A := an4) (fn := Tryd.f4) (c := c4) (args := [.slice a0ns la0ns ca0ns, .slice a1raws la1raws ca1raws]) Tryd.func4 (by kernel_rfl) mixed (by kernel_rfl) (Eq.mp (by kernel_rfl : F4 a0ns la0ns ca0ns a1raws la1raws ca1raws h R = vcF Tryd.prog an4 Tryd.f4 c4 [.slice a0ns la0ns ca0ns, .slice a1raws la1raws ca1raws] h R) hF)
/-! ### 5 refrain/refrainlaw3.WireOneForm -/
noncomputable def c5 : Code := match Tryd.f5.body with | some c => c | none => .skip
noncomputable def an5 : Ann := { loops := fun i => [], draws := fun i => #[], joins := fun i => none }
def F5 (a0e_0 : ByteArray) (a0e_1 : Int) (a0e_2 : Option Addr) (la0e_2 ca0e_2 : Nat) (a1n : Int) (a2behind : Option Addr) (la2behind ca2behind : Nat) (a3raw : Option Addr) (la3raw ca3raw : Nat) (h : Heap) (R : KV) : Prop :=
  VNew h (.cells #[.string a0e_0, .int .i64 a0e_1, .slice a0e_2 la0e_2 ca0e_2] 27) fun b1 h2 =>
  CallsH Tryd.prog 11 #[] h2 fun v3 h4 =>
  ∃ b5 : Bool, v3 = .bool b5 ∧
  cond (!b5) (R (.bool false) h4) (CallsH Tryd.prog 25 #[.slice a3raw la3raw ca3raw] h4 fun v6 h7 =>
    ∃ b8 : Bool, v6 = .bool b8 ∧
    cond (!b8) (R (.bool false) h7) (CallsH Tryd.prog 26 #[.slice a3raw la3raw ca3raw] h7 fun v9 h10 =>
      ∃ b11 : Bool, v9 = .bool b11 ∧
      cond (!b11)
      (R (.bool false) h10)
      (CallsH Tryd.prog 21 #[.int .i64 a1n] h10 fun v12 h13 =>
        ∃ (a14 : Option Addr) (la14 ca14 : Nat), v12 = .slice a14 la14 ca14 ∧
        RunsTo Tryd.prog (Builtin.append_ #[30, 30] 30 #[.slice none 0 0, .slice a14 la14 ca14]) h13 fun v15 h16 =>
        ∃ (a17 : Option Addr) (la17 ca17 : Nat), v15 = .slice a17 la17 ca17 ∧
        RunsTo Tryd.prog (Builtin.append_ #[30, 30] 30 #[.slice a17 la17 ca17, .slice a2behind la2behind ca2behind]) h16 fun v18 h19 =>
        ∃ (a20 : Option Addr) (la20 ca20 : Nat), v18 = .slice a20 la20 ca20 ∧
        CallsH Tryd.prog 23 #[.slice a20 la20 ca20] h19 fun v21 h22 =>
        ∃ x23 : Int, ∃ x24 : Int, ∃ x25 : Int, v21 = .tuple #[.int .i64 x23, .int .i64 x24, .int .i64 x25] ∧
        cond (x25 != (0 : Int)) (R (.bool false) h22) (cond (x23 != a1n) (R (.bool false) h22) (cond (x24 != (la14 : Int)) (R (.bool false) h22) (CallsH Tryd.prog 26 #[.slice a14 la14 ca14] h22 fun v26 h27 =>
              ∃ b28 : Bool, v26 = .bool b28 ∧
              cond (!b28)
              (R (.bool false) h27)
              (∃ s29 : ByteArray, cellH h27 ⟨b1, 0, none⟩ = some (.string s29) ∧
                ∃ x30 : Int, cellH h27 ⟨b1, 1, none⟩ = some (.int .i64 x30) ∧
                ∃ (a31 : Option Addr) (la31 ca31 : Nat), cellH h27 ⟨b1, 2, none⟩ = some (.slice a31 la31 ca31) ∧
                CallsH Tryd.prog 13 #[.agg #[.string s29, .int .i64 x30, .slice a31 la31 ca31]] h27 fun v32 h33 =>
                ∃ (a34 : Option Addr) (la34 ca34 : Nat), ∃ x35 : Int, v32 = .tuple #[.slice a34 la34 ca34, .int .i64 x35] ∧
                cond (x35 != (0 : Int))
                (R (.bool ((la34 : Int) == (0 : Int))) h33)
                (RunsTo Tryd.prog (Builtin.append_ #[30, 30] 30 #[.slice none 0 0, .slice a34 la34 ca34]) h33 fun v36 h37 =>
                  ∃ (a38 : Option Addr) (la38 ca38 : Nat), v36 = .slice a38 la38 ca38 ∧
                  RunsTo Tryd.prog (Builtin.append_ #[30, 30] 30 #[.slice a38 la38 ca38, .slice a2behind la2behind ca2behind]) h37 fun v39 h40 =>
                  ∃ (a41 : Option Addr) (la41 ca41 : Nat), v39 = .slice a41 la41 ca41 ∧
                  CallsH Tryd.prog 18 #[.slice a41 la41 ca41] h40 fun v42 h43 =>
                  ∃ s44 : ByteArray, ∃ x45 : Int, ∃ (a46 : Option Addr) (la46 ca46 : Nat), ∃ x47 : Int, ∃ x48 : Int, v42 = .tuple #[.agg #[.string s44, .int .i64 x45, .slice a46 la46 ca46], .int .i64 x47, .int .i64 x48] ∧
                  VNew h43 (.cells #[.string (ByteArray.mk #[]), .int .i64 0, .slice none 0 0] 27) fun b49 h50 =>
                  storeL ⟨b49, 0, none⟩ 0 [.string s44, .int .i64 x45, .slice a46 la46 ca46] h50 fun h51 =>
                  cond (x48 == (0 : Int)) (cond (x47 == (la34 : Int)) (∃ s52 : ByteArray, cellH h51 ⟨b49, 0, none⟩ = some (.string s52) ∧
                      ∃ x53 : Int, cellH h51 ⟨b49, 1, none⟩ = some (.int .i64 x53) ∧
                      ∃ (a54 : Option Addr) (la54 ca54 : Nat), cellH h51 ⟨b49, 2, none⟩ = some (.slice a54 la54 ca54) ∧
                      ∃ s55 : ByteArray, cellH h51 ⟨b1, 0, none⟩ = some (.string s55) ∧
                      ∃ x56 : Int, cellH h51 ⟨b1, 1, none⟩ = some (.int .i64 x56) ∧
                      ∃ (a57 : Option Addr) (la57 ca57 : Nat), cellH h51 ⟨b1, 2, none⟩ = some (.slice a57 la57 ca57) ∧
                      CallsH Tryd.prog 20 #[.agg #[.string s52, .int .i64 x53, .slice a54 la54 ca54], .agg #[.string s55, .int .i64 x56, .slice a57 la57 ca57]] h51 fun v58 h59 =>
                      ∃ b60 : Bool, v58 = .bool b60 ∧
                      cond b60 (CallsH Tryd.prog 25 #[.slice a34 la34 ca34] h59 fun v61 h62 =>
                        ∃ b63 : Bool, v61 = .bool b63 ∧
                        R (.bool b63) h62) (R (.bool false) h59)) (R (.bool false) h51)) (R (.bool false) h51)))))))))
theorem vf5 (a0e_0 : ByteArray) (a0e_1 : Int) (a0e_2 : Option Addr) (la0e_2 ca0e_2 : Nat) (a1n : Int) (a2behind : Option Addr) (la2behind ca2behind : Nat) (a3raw : Option Addr) (la3raw ca3raw : Nat) (h : Heap) (R : KV) (hF : F5 a0e_0 a0e_1 a0e_2 la0e_2 ca0e_2 a1n a2behind la2behind ca2behind a3raw la3raw ca3raw h R) : CallsH Tryd.prog 5 #[.agg #[.string a0e_0, .int .i64 a0e_1, .slice a0e_2 la0e_2 ca0e_2], .int .i64 a1n, .slice a2behind la2behind ca2behind, .slice a3raw la3raw ca3raw] h R :=
  calls_of_vc (A := an5) (fn := Tryd.f5) (c := c5) (args := [.agg #[.string a0e_0, .int .i64 a0e_1, .slice a0e_2 la0e_2 ca0e_2], .int .i64 a1n, .slice a2behind la2behind ca2behind, .slice a3raw la3raw ca3raw]) Tryd.func5 (by kernel_rfl) mixed (by kernel_rfl) (Eq.mp (by kernel_rfl : F5 a0e_0 a0e_1 a0e_2 la0e_2 ca0e_2 a1n a2behind la2behind ca2behind a3raw la3raw ca3raw h R = vcF Tryd.prog an5 Tryd.f5 c5 [.agg #[.string a0e_0, .int .i64 a0e_1, .slice a0e_2 la0e_2 ca0e_2], .int .i64 a1n, .slice a2behind la2behind ca2behind, .slice a3raw la3raw ca3raw] h R) hF)
/-! ### 6 refrain/refrainlaw3.WireBatches -/
noncomputable def c6 : Code := match Tryd.f6.body with | some c => c | none => .skip
noncomputable def an6 : Ann := { loops := fun i => match i with | 4 => [(4, .bool), (5, .int .i64)] | 12 => [(4, .bool), (12, .int .i64)] | _ => [], draws := fun i => #[], joins := fun i => none }
def F6 (a0batches : Option Addr) (la0batches ca0batches : Nat) (a1raws : Option Addr) (la1raws ca1raws : Nat) (h : Heap) (R : KV) : Prop :=
  CallsH Tryd.prog 11 #[] h fun v1 h2 =>
  ∃ b3 : Bool, v1 = .bool b3 ∧
  cond (!b3)
  (R (.bool false) h2)
  (∃ I4 : Nat → Heap → Bool → Int → Prop, (∃ n5, I4 n5 h2 false 0) ∧
    ∀ (n5 : Nat) (h6 : Heap) (g7 : Env) (y_8 : Bool) (i_9 : Int), I4 n5 h6 y_8 i_9 →
    cond (decide (i_9 < (la0batches : Int)))
    (VIdx a0batches la0batches i_9 1 fun a11 =>
      ∃ (a12 : Option Addr) (la12 ca12 : Nat), cellH h6 a11 = some (.slice a12 la12 ca12) ∧
      CallsH Tryd.prog 27 #[.slice a12 la12 ca12] h6 fun v13 h14 =>
      ∃ (a15 : Option Addr) (la15 ca15 : Nat), ∃ (a16 : Option Addr) (la16 ca16 : Nat), v13 = .tuple #[.slice a15 la15 ca15, .slice a16 la16 ca16] ∧
      VIdx a0batches la0batches i_9 1 fun a17 =>
      ∃ (a18 : Option Addr) (la18 ca18 : Nat), cellH h14 a17 = some (.slice a18 la18 ca18) ∧
      VSlice 3 a15 ca15 0 (la18 : Int) (ca15 : Int) fun a19 la19 ca19 =>
      CallsH Tryd.prog 28 #[.slice a19 la19 ca19] h14 fun v20 h21 =>
      ∃ (a22 : Option Addr) (la22 ca22 : Nat), ∃ x23 : Int, v20 = .tuple #[.slice a22 la22 ca22, .int .i64 x23] ∧
      VIdx a0batches la0batches i_9 1 fun a24 =>
      ∃ (a25 : Option Addr) (la25 ca25 : Nat), cellH h21 a24 = some (.slice a25 la25 ca25) ∧
      CallsH Tryd.prog 29 #[.slice a25 la25 ca25] h21 fun v26 h27 =>
      ∃ (a28 : Option Addr) (la28 ca28 : Nat), ∃ x29 : Int, v26 = .tuple #[.slice a28 la28 ca28, .int .i64 x29] ∧
      cond (x23 != x29) (R (.bool false) h27) (CallsH Tryd.prog 15 #[.slice a22 la22 ca22, .slice a28 la28 ca28] h27 fun v30 h31 =>
        ∃ b32 : Bool, v30 = .bool b32 ∧
        cond (!b32) (R (.bool false) h31) (VIdx a0batches la0batches i_9 1 fun a33 =>
          ∃ (a34 : Option Addr) (la34 ca34 : Nat), cellH h31 a33 = some (.slice a34 la34 ca34) ∧
          CallsH Tryd.prog 30 #[.slice a15 la15 ca15, .slice a16 la16 ca16, .slice a34 la34 ca34] h31 fun v35 h36 =>
          ∃ b37 : Bool, v35 = .bool b37 ∧
          cond (!b37)
          (R (.bool false) h36)
          (∃ m10, m10 < n5 ∧ I4 m10 h36 y_8 (IntKind.i64.wrap (i_9 + 1))))))
    (∃ I38 : Nat → Heap → Bool → Int → Prop, (∃ n39, I38 n39 h6 y_8 0) ∧
      ∀ (n39 : Nat) (h40 : Heap) (g41 : Env) (y_42 : Bool) (i_43 : Int), I38 n39 h40 y_42 i_43 →
      cond (decide (i_43 < (la1raws : Int)))
      (VIdx a1raws la1raws i_43 1 fun a45 =>
        ∃ (a46 : Option Addr) (la46 ca46 : Nat), cellH h40 a45 = some (.slice a46 la46 ca46) ∧
        CallsH Tryd.prog 17 #[.slice a46 la46 ca46] h40 fun v47 h48 =>
        ∃ (a49 : Option Addr) (la49 ca49 : Nat), v47 = .slice a49 la49 ca49 ∧
        VIdx a1raws la1raws i_43 1 fun a50 =>
        ∃ (a51 : Option Addr) (la51 ca51 : Nat), cellH h48 a50 = some (.slice a51 la51 ca51) ∧
        VSlice 1 a49 ca49 0 (la51 : Int) (ca49 : Int) fun a52 la52 ca52 =>
        CallsH Tryd.prog 31 #[.slice a52 la52 ca52] h48 fun v53 h54 =>
        ∃ (a55 : Option Addr) (la55 ca55 : Nat), ∃ x56 : Int, v53 = .tuple #[.slice a55 la55 ca55, .int .i64 x56] ∧
        VIdx a1raws la1raws i_43 1 fun a57 =>
        ∃ (a58 : Option Addr) (la58 ca58 : Nat), cellH h54 a57 = some (.slice a58 la58 ca58) ∧
        CallsH Tryd.prog 32 #[.slice a58 la58 ca58] h54 fun v59 h60 =>
        ∃ (a61 : Option Addr) (la61 ca61 : Nat), ∃ x62 : Int, v59 = .tuple #[.slice a61 la61 ca61, .int .i64 x62] ∧
        cond (x56 != x62) (R (.bool false) h60) (CallsH Tryd.prog 33 #[.slice a55 la55 ca55, .slice a61 la61 ca61] h60 fun v63 h64 =>
          ∃ b65 : Bool, v63 = .bool b65 ∧
          cond (!b65) (R (.bool false) h64) (VIdx a1raws la1raws i_43 1 fun a66 =>
            ∃ (a67 : Option Addr) (la67 ca67 : Nat), cellH h64 a66 = some (.slice a67 la67 ca67) ∧
            CallsH Tryd.prog 17 #[.slice a67 la67 ca67] h64 fun v68 h69 =>
            ∃ (a70 : Option Addr) (la70 ca70 : Nat), v68 = .slice a70 la70 ca70 ∧
            CallsH Tryd.prog 15 #[.slice a49 la49 ca49, .slice a70 la70 ca70] h69 fun v71 h72 =>
            ∃ b73 : Bool, v71 = .bool b73 ∧
            cond (!b73)
            (R (.bool false) h72)
            (∃ m44, m44 < n39 ∧ I38 m44 h72 y_42 (IntKind.i64.wrap (i_43 + 1))))))
      (R (.bool true) h40)))
theorem vf6 (a0batches : Option Addr) (la0batches ca0batches : Nat) (a1raws : Option Addr) (la1raws ca1raws : Nat) (h : Heap) (R : KV) (hF : F6 a0batches la0batches ca0batches a1raws la1raws ca1raws h R) : CallsH Tryd.prog 6 #[.slice a0batches la0batches ca0batches, .slice a1raws la1raws ca1raws] h R :=
  calls_of_vc (A := an6) (fn := Tryd.f6) (c := c6) (args := [.slice a0batches la0batches ca0batches, .slice a1raws la1raws ca1raws]) Tryd.func6 (by kernel_rfl) mixed (by kernel_rfl) (Eq.mp (by kernel_rfl : F6 a0batches la0batches ca0batches a1raws la1raws ca1raws h R = vcF Tryd.prog an6 Tryd.f6 c6 [.slice a0batches la0batches ca0batches, .slice a1raws la1raws ca1raws] h R) hF)
/-! ### 7 refrain/refrainlaw3.WireBatchForm -/
noncomputable def c7 : Code := match Tryd.f7.body with | some c => c | none => .skip
noncomputable def an7 : Ann := { loops := fun i => [], draws := fun i => #[], joins := fun i => match i with | 8 => some [(4, .bool)] | _ => none }
def F7 (a0es : Option Addr) (la0es ca0es : Nat) (a1raw : Option Addr) (la1raw ca1raw : Nat) (h : Heap) (R : KV) : Prop :=
  CallsH Tryd.prog 11 #[] h fun v1 h2 =>
  ∃ b3 : Bool, v1 = .bool b3 ∧
  cond (!b3)
  (R (.bool false) h2)
  (CallsH Tryd.prog 28 #[.slice a0es la0es ca0es] h2 fun v4 h5 =>
    ∃ (a6 : Option Addr) (la6 ca6 : Nat), ∃ x7 : Int, v4 = .tuple #[.slice a6 la6 ca6, .int .i64 x7] ∧
    ∃ J8 : Heap → Bool → Prop, (cond (x7 == (0 : Int))
      (CallsH Tryd.prog 31 #[.slice a6 la6 ca6] h5 fun v9 h10 =>
        ∃ (a11 : Option Addr) (la11 ca11 : Nat), ∃ x12 : Int, v9 = .tuple #[.slice a11 la11 ca11, .int .i64 x12] ∧
        cond (x12 != (0 : Int)) (R (.bool false) h10) (CallsH Tryd.prog 33 #[.slice a11 la11 ca11, .slice a0es la0es ca0es] h10 fun v13 h14 =>
          ∃ b15 : Bool, v13 = .bool b15 ∧
          cond (!b15)
          (R (.bool false) h14)
          (J8 h14 false)))
      (J8 h5 false)) ∧
    ∀ (h16 : Heap) (g17 : Env) (y_18 : Bool), J8 h16 y_18 →
    CallsH Tryd.prog 31 #[.slice a1raw la1raw ca1raw] h16 fun v19 h20 =>
    ∃ (a21 : Option Addr) (la21 ca21 : Nat), ∃ x22 : Int, v19 = .tuple #[.slice a21 la21 ca21, .int .i64 x22] ∧
    cond (x22 != (0 : Int))
    (R (.bool ((la21 : Int) == (0 : Int))) h20)
    (CallsH Tryd.prog 28 #[.slice a21 la21 ca21] h20 fun v23 h24 =>
      ∃ (a25 : Option Addr) (la25 ca25 : Nat), ∃ x26 : Int, v23 = .tuple #[.slice a25 la25 ca25, .int .i64 x26] ∧
      cond (x26 == (0 : Int)) (CallsH Tryd.prog 15 #[.slice a25 la25 ca25, .slice a1raw la1raw ca1raw] h24 fun v27 h28 =>
        ∃ b29 : Bool, v27 = .bool b29 ∧
        R (.bool b29) h28) (R (.bool false) h24)))
theorem vf7 (a0es : Option Addr) (la0es ca0es : Nat) (a1raw : Option Addr) (la1raw ca1raw : Nat) (h : Heap) (R : KV) (hF : F7 a0es la0es ca0es a1raw la1raw ca1raw h R) : CallsH Tryd.prog 7 #[.slice a0es la0es ca0es, .slice a1raw la1raw ca1raw] h R :=
  calls_of_vc (A := an7) (fn := Tryd.f7) (c := c7) (args := [.slice a0es la0es ca0es, .slice a1raw la1raw ca1raw]) Tryd.func7 (by kernel_rfl) mixed (by kernel_rfl) (Eq.mp (by kernel_rfl : F7 a0es la0es ca0es a1raw la1raw ca1raw h R = vcF Tryd.prog an7 Tryd.f7 c7 [.slice a0es la0es ca0es, .slice a1raw la1raw ca1raw] h R) hF)
/-! ### 8 refrain/refrainlaw3.WireDamage -/
noncomputable def c8 : Code := match Tryd.f8.body with | some c => c | none => .skip
noncomputable def an8 : Ann := { loops := fun i => [], draws := fun i => match i with | 20 => #[0, 0, 0, 0, 8, 0, 0, 64, 224, 480, 0, 0, 3072, 7168, 16355, 32739, 65535, 131071] | 22 => #[0, 0, 3, 7, 0, 0, 32, 112, 240, 511] | _ => #[], joins := fun i => match i with | 10 => some [(1, .int .i64)] | _ => none }
def F8 (a0es : Option Addr) (la0es ca0es : Nat) (a1at : Int) (a2turn : Int) (h : Heap) (R : KV) : Prop :=
  CallsH Tryd.prog 11 #[] h fun v1 h2 =>
  ∃ b3 : Bool, v1 = .bool b3 ∧
  cond (!b3)
  (R (.bool false) h2)
  (CallsH Tryd.prog 28 #[.slice a0es la0es ca0es] h2 fun v4 h5 =>
    ∃ (a6 : Option Addr) (la6 ca6 : Nat), ∃ x7 : Int, v4 = .tuple #[.slice a6 la6 ca6, .int .i64 x7] ∧
    cond (x7 != (0 : Int))
    (R (.bool true) h5)
    (cond (decide ((la6 : Int) < (5 : Int)))
      (R (.bool false) h5)
      (∃ J8 : Heap → Int → Prop, (cond (decide (a1at < (0 : Int)))
          (J8 h5 (IntKind.i64.wrap (0 - (IntKind.i64.wrap (a1at + 1)))))
          (J8 h5 a1at)) ∧
        ∀ (h9 : Heap) (g10 : Env) (at_11 : Int), J8 h9 at_11 →
        RunsTo Tryd.prog (Builtin.append_ #[30, 30] 30 #[.slice none 0 0, .slice a6 la6 ca6]) h9 fun v12 h13 =>
        ∃ (a14 : Option Addr) (la14 ca14 : Nat), v12 = .slice a14 la14 ca14 ∧
        (la14 : Int) ≠ (0 : Int) ∧
        VIdx a14 la14 (Int.tmod at_11 (la14 : Int)) 1 fun a15 =>
        ∃ x16 : Int, cellH h13 a15 = some (.int .u8 x16) ∧
        VIdx a14 la14 (Int.tmod at_11 (la14 : Int)) 1 fun a17 =>
        VStore h13 a17 (.int .u8 (bitsOp .xor .u8 x16 a2turn)) fun h18 =>
        CallsH Tryd.prog 31 #[.slice a14 la14 ca14] h18 fun v19 h20 =>
        ∃ (a21 : Option Addr) (la21 ca21 : Nat), ∃ x22 : Int, v19 = .tuple #[.slice a21 la21 ca21, .int .i64 x22] ∧
        cond (a2turn != (0 : Int)) (cond (x22 != (32 : Int)) (R (.bool false) h20) (cond ((la21 : Int) != (0 : Int))
            (R (.bool false) h20)
            (RunsTo Tryd.prog (Builtin.append_ #[30, 30] 30 #[.slice none 0 0, .slice a6 la6 ca6]) h20 fun v23 h24 =>
              ∃ (a25 : Option Addr) (la25 ca25 : Nat), v23 = .slice a25 la25 ca25 ∧
              cond (decide ((la25 : Int) < (6 : Int)))
              (R (.bool true) h24)
              ((IntKind.i64.wrap ((la25 : Int) - 5)) ≠ (0 : Int) ∧
                VIdx a25 la25 (IntKind.i64.wrap ((Int.tmod at_11 (IntKind.i64.wrap ((la25 : Int) - 5))) + 1)) 1 fun a26 =>
                ∃ x27 : Int, cellH h24 a26 = some (.int .u8 x27) ∧
                VIdx a25 la25 (Int.tmod at_11 (IntKind.i64.wrap ((la25 : Int) - 5))) 1 fun a28 =>
                ∃ x29 : Int, cellH h24 a28 = some (.int .u8 x29) ∧
                VIdx a25 la25 (Int.tmod at_11 (IntKind.i64.wrap ((la25 : Int) - 5))) 1 fun a30 =>
                VStore h24 a30 (.int .u8 x27) fun h31 =>
                VIdx a25 la25 (IntKind.i64.wrap ((Int.tmod at_11 (IntKind.i64.wrap ((la25 : Int) - 5))) + 1)) 1 fun a32 =>
                VStore h31 a32 (.int .u8 x29) fun h33 =>
                CallsH Tryd.prog 31 #[.slice a25 la25 ca25] h33 fun v34 h35 =>
                ∃ (a36 : Option Addr) (la36 ca36 : Nat), ∃ x37 : Int, v34 = .tuple #[.slice a36 la36 ca36, .int .i64 x37] ∧
                VIdx a25 la25 (Int.tmod at_11 (IntKind.i64.wrap ((la25 : Int) - 5))) 1 fun a38 =>
                ∃ x39 : Int, cellH h35 a38 = some (.int .u8 x39) ∧
                VIdx a25 la25 (IntKind.i64.wrap ((Int.tmod at_11 (IntKind.i64.wrap ((la25 : Int) - 5))) + 1)) 1 fun a40 =>
                ∃ x41 : Int, cellH h35 a40 = some (.int .u8 x41) ∧
                cond (x39 == x41)
                (cond (x37 == (0 : Int)) (CallsH Tryd.prog 33 #[.slice a36 la36 ca36, .slice a0es la0es ca0es] h35 fun v42 h43 =>
                    ∃ b44 : Bool, v42 = .bool b44 ∧
                    R (.bool b44) h43) (R (.bool false) h35))
                (cond (x37 == (32 : Int)) (R (.bool ((la36 : Int) == (0 : Int))) h35) (R (.bool false) h35)))))) (RunsTo Tryd.prog (Builtin.append_ #[30, 30] 30 #[.slice none 0 0, .slice a6 la6 ca6]) h20 fun v45 h46 =>
          ∃ (a47 : Option Addr) (la47 ca47 : Nat), v45 = .slice a47 la47 ca47 ∧
          cond (decide ((la47 : Int) < (6 : Int)))
          (R (.bool true) h46)
          ((IntKind.i64.wrap ((la47 : Int) - 5)) ≠ (0 : Int) ∧
            VIdx a47 la47 (IntKind.i64.wrap ((Int.tmod at_11 (IntKind.i64.wrap ((la47 : Int) - 5))) + 1)) 1 fun a48 =>
            ∃ x49 : Int, cellH h46 a48 = some (.int .u8 x49) ∧
            VIdx a47 la47 (Int.tmod at_11 (IntKind.i64.wrap ((la47 : Int) - 5))) 1 fun a50 =>
            ∃ x51 : Int, cellH h46 a50 = some (.int .u8 x51) ∧
            VIdx a47 la47 (Int.tmod at_11 (IntKind.i64.wrap ((la47 : Int) - 5))) 1 fun a52 =>
            VStore h46 a52 (.int .u8 x49) fun h53 =>
            VIdx a47 la47 (IntKind.i64.wrap ((Int.tmod at_11 (IntKind.i64.wrap ((la47 : Int) - 5))) + 1)) 1 fun a54 =>
            VStore h53 a54 (.int .u8 x51) fun h55 =>
            CallsH Tryd.prog 31 #[.slice a47 la47 ca47] h55 fun v56 h57 =>
            ∃ (a58 : Option Addr) (la58 ca58 : Nat), ∃ x59 : Int, v56 = .tuple #[.slice a58 la58 ca58, .int .i64 x59] ∧
            VIdx a47 la47 (Int.tmod at_11 (IntKind.i64.wrap ((la47 : Int) - 5))) 1 fun a60 =>
            ∃ x61 : Int, cellH h57 a60 = some (.int .u8 x61) ∧
            VIdx a47 la47 (IntKind.i64.wrap ((Int.tmod at_11 (IntKind.i64.wrap ((la47 : Int) - 5))) + 1)) 1 fun a62 =>
            ∃ x63 : Int, cellH h57 a62 = some (.int .u8 x63) ∧
            cond (x61 == x63)
            (cond (x59 == (0 : Int)) (CallsH Tryd.prog 33 #[.slice a58 la58 ca58, .slice a0es la0es ca0es] h57 fun v64 h65 =>
                ∃ b66 : Bool, v64 = .bool b66 ∧
                R (.bool b66) h65) (R (.bool false) h57))
            (cond (x59 == (32 : Int)) (R (.bool ((la58 : Int) == (0 : Int))) h57) (R (.bool false) h57)))))))
theorem vf8 (a0es : Option Addr) (la0es ca0es : Nat) (a1at : Int) (a2turn : Int) (h : Heap) (R : KV) (hF : F8 a0es la0es ca0es a1at a2turn h R) : CallsH Tryd.prog 8 #[.slice a0es la0es ca0es, .int .i64 a1at, .int .u8 a2turn] h R :=
  calls_of_vc (A := an8) (fn := Tryd.f8) (c := c8) (args := [.slice a0es la0es ca0es, .int .i64 a1at, .int .u8 a2turn]) Tryd.func8 (by kernel_rfl) mixed (by kernel_rfl) (Eq.mp (by kernel_rfl : F8 a0es la0es ca0es a1at a2turn h R = vcF Tryd.prog an8 Tryd.f8 c8 [.slice a0es la0es ca0es, .int .i64 a1at, .int .u8 a2turn] h R) hF)
/-! ### 9 refrain/refrainlaw3.WireFresh -/
noncomputable def c9 : Code := match Tryd.f9.body with | some c => c | none => .skip
noncomputable def an9 : Ann := { loops := fun i => match i with | 5 => [(6, .bool), (8, .int .i64)] | 20 => [(6, .bool), (17, .int .i64)] | 28 => [(29, .int .i64)] | _ => [], draws := fun i => match i with | 24 => #[0, 0, 3, 7, 15, 0, 0, 96, 224, 480, 1023, 2047, 4095, 8191, 8191, 16383, 65535] | 26 => #[0, 0, 3, 7, 15, 0, 0, 96, 224, 480, 1023, 2047, 4095, 8191, 8191, 8191, 0, 81919, 229375, 524287] | 35 => #[0, 0, 3, 7, 15, 0, 0, 96, 224, 480, 1023, 2047, 4095, 8191, 8191, 16383, 65535] | _ => #[], joins := fun i => none }
def F9 (a0es : Option Addr) (la0es ca0es : Nat) (a1ns : Option Addr) (la1ns ca1ns : Nat) (a2raws : Option Addr) (la2raws ca2raws : Nat) (h : Heap) (R : KV) : Prop :=
  CallsH Tryd.prog 11 #[] h fun v1 h2 =>
  ∃ b3 : Bool, v1 = .bool b3 ∧
  cond (!b3)
  (R (.bool false) h2)
  (VNew h2 (.cells #[.slice none 0 0, .slice none 0 0, .slice none 0 0, .int .i64 0, .int .i64 0, .int .i64 0, .int .i64 0] 63) fun b4 h5 =>
    ∃ I6 : Nat → Heap → Bool → Int → Prop, (∃ n7, I6 n7 h5 false 0) ∧
    ∀ (n7 : Nat) (h8 : Heap) (g9 : Env) (y_10 : Bool) (i_11 : Int), I6 n7 h8 y_10 i_11 →
    cond (decide (i_11 < (la1ns : Int)))
    (VIdx a1ns la1ns i_11 1 fun a13 =>
      ∃ x14 : Int, cellH h8 a13 = some (.int .i64 x14) ∧
      CallsH Tryd.prog 21 #[.int .i64 x14] h8 fun v15 h16 =>
      ∃ (a17 : Option Addr) (la17 ca17 : Nat), v15 = .slice a17 la17 ca17 ∧
      CallsH Tryd.prog 34 #[.pointer (some ⟨b4, 0, none⟩), .slice a17 la17 ca17] h16 fun v18 h19 =>
      v18 = .tuple #[] ∧
      (64 : Int) ≠ (0 : Int) ∧
      cond ((Int.tmod i_11 64) == (63 : Int)) (CallsH Tryd.prog 35 #[.pointer (some ⟨b4, 0, none⟩)] h19 fun v20 h21 =>
        ∃ b22 : Bool, v20 = .bool b22 ∧
        cond (!b22) (R (.bool false) h21) (VIdx a1ns la1ns i_11 1 fun a23 =>
          ∃ x24 : Int, cellH h21 a23 = some (.int .i64 x24) ∧
          CallsH Tryd.prog 21 #[.int .i64 x24] h21 fun v25 h26 =>
          ∃ (a27 : Option Addr) (la27 ca27 : Nat), v25 = .slice a27 la27 ca27 ∧
          CallsH Tryd.prog 26 #[.slice a27 la27 ca27] h26 fun v28 h29 =>
          ∃ b30 : Bool, v28 = .bool b30 ∧
          cond (!b30)
          (R (.bool false) h29)
          (∃ m12, m12 < n7 ∧ I6 m12 h29 y_10 (IntKind.i64.wrap (i_11 + 1))))) (VIdx a1ns la1ns i_11 1 fun a31 =>
        ∃ x32 : Int, cellH h19 a31 = some (.int .i64 x32) ∧
        CallsH Tryd.prog 21 #[.int .i64 x32] h19 fun v33 h34 =>
        ∃ (a35 : Option Addr) (la35 ca35 : Nat), v33 = .slice a35 la35 ca35 ∧
        CallsH Tryd.prog 26 #[.slice a35 la35 ca35] h34 fun v36 h37 =>
        ∃ b38 : Bool, v36 = .bool b38 ∧
        cond (!b38)
        (R (.bool false) h37)
        (∃ m12, m12 < n7 ∧ I6 m12 h37 y_10 (IntKind.i64.wrap (i_11 + 1)))))
    (CallsH Tryd.prog 27 #[.slice a0es la0es ca0es] h8 fun v39 h40 =>
      ∃ (a41 : Option Addr) (la41 ca41 : Nat), ∃ (a42 : Option Addr) (la42 ca42 : Nat), v39 = .tuple #[.slice a41 la41 ca41, .slice a42 la42 ca42] ∧
      VSlice 3 a41 ca41 0 (la0es : Int) (ca41 : Int) fun a43 la43 ca43 =>
      CallsH Tryd.prog 28 #[.slice a43 la43 ca43] h40 fun v44 h45 =>
      ∃ (a46 : Option Addr) (la46 ca46 : Nat), ∃ x47 : Int, v44 = .tuple #[.slice a46 la46 ca46, .int .i64 x47] ∧
      RunsTo Tryd.prog (Builtin.append_ #[30, 30] 30 #[.slice none 0 0, .slice a46 la46 ca46]) h45 fun v48 h49 =>
      ∃ (a50 : Option Addr) (la50 ca50 : Nat), v48 = .slice a50 la50 ca50 ∧
      CallsH Tryd.prog 34 #[.pointer (some ⟨b4, 0, none⟩), .slice a46 la46 ca46] h49 fun v51 h52 =>
      v51 = .tuple #[] ∧
      VSlice 3 a41 ca41 0 (la0es : Int) (ca41 : Int) fun a53 la53 ca53 =>
      CallsH Tryd.prog 28 #[.slice a53 la53 ca53] h52 fun v54 h55 =>
      ∃ (a56 : Option Addr) (la56 ca56 : Nat), ∃ x57 : Int, v54 = .tuple #[.slice a56 la56 ca56, .int .i64 x57] ∧
      cond (x47 != x57) (R (.bool false) h55) (CallsH Tryd.prog 15 #[.slice a50 la50 ca50, .slice a56 la56 ca56] h55 fun v58 h59 =>
        ∃ b60 : Bool, v58 = .bool b60 ∧
        cond (!b60) (R (.bool false) h59) (CallsH Tryd.prog 35 #[.pointer (some ⟨b4, 0, none⟩)] h59 fun v61 h62 =>
          ∃ b63 : Bool, v61 = .bool b63 ∧
          cond (!b63) (R (.bool false) h62) (CallsH Tryd.prog 30 #[.slice a41 la41 ca41, .slice a42 la42 ca42, .slice a0es la0es ca0es] h62 fun v64 h65 =>
            ∃ b66 : Bool, v64 = .bool b66 ∧
            cond (!b66)
            (R (.bool false) h65)
            (RunsTo Tryd.prog (Builtin.append_ #[23, 23] 23 #[.slice none 0 0, .slice a2raws la2raws ca2raws]) h65 fun v67 h68 =>
              ∃ (a69 : Option Addr) (la69 ca69 : Nat), v67 = .slice a69 la69 ca69 ∧
              VNew h68 (.cells #[.slice a50 la50 ca50] 30) fun b70 h71 =>
              RunsTo Tryd.prog (Builtin.append_ #[23, 23] 23 #[.slice a69 la69 ca69, .slice (some ⟨b70, 0, none⟩) 1 1]) h71 fun v72 h73 =>
              ∃ (a74 : Option Addr) (la74 ca74 : Nat), v72 = .slice a74 la74 ca74 ∧
              ∃ I75 : Nat → Heap → Bool → Int → Prop, (∃ n76, I75 n76 h73 y_10 0) ∧
              ∀ (n76 : Nat) (h77 : Heap) (g78 : Env) (y_79 : Bool) (i_80 : Int), I75 n76 h77 y_79 i_80 →
              cond (decide (i_80 < (la74 : Int)))
              (VIdx a74 la74 i_80 1 fun a82 =>
                ∃ (a83 : Option Addr) (la83 ca83 : Nat), cellH h77 a82 = some (.slice a83 la83 ca83) ∧
                RunsTo Tryd.prog (Builtin.append_ #[30, 30] 30 #[.slice none 0 0, .slice a83 la83 ca83]) h77 fun v84 h85 =>
                ∃ (a86 : Option Addr) (la86 ca86 : Nat), v84 = .slice a86 la86 ca86 ∧
                CallsH Tryd.prog 31 #[.slice a86 la86 ca86] h85 fun v87 h88 =>
                ∃ (a89 : Option Addr) (la89 ca89 : Nat), ∃ x90 : Int, v87 = .tuple #[.slice a89 la89 ca89, .int .i64 x90] ∧
                VIdx a74 la74 i_80 1 fun a91 =>
                ∃ (a92 : Option Addr) (la92 ca92 : Nat), cellH h88 a91 = some (.slice a92 la92 ca92) ∧
                VIdx a74 la74 i_80 1 fun a93 =>
                ∃ (a94 : Option Addr) (la94 ca94 : Nat), cellH h88 a93 = some (.slice a94 la94 ca94) ∧
                CallsH Tryd.prog 17 #[.slice a92 la92 ca92] h88 fun v95 h96 =>
                ∃ (a97 : Option Addr) (la97 ca97 : Nat), v95 = .slice a97 la97 ca97 ∧
                (cellH h96 a93 = some (.slice a94 la94 ca94)) ∧
                VSlice 1 a97 ca97 0 (la94 : Int) (ca97 : Int) fun a98 la98 ca98 =>
                CallsH Tryd.prog 31 #[.slice a98 la98 ca98] h96 fun v99 h100 =>
                ∃ (a101 : Option Addr) (la101 ca101 : Nat), ∃ x102 : Int, v99 = .tuple #[.slice a101 la101 ca101, .int .i64 x102] ∧
                CallsH Tryd.prog 18 #[.slice a86 la86 ca86] h100 fun v103 h104 =>
                ∃ s105 : ByteArray, ∃ x106 : Int, ∃ (a107 : Option Addr) (la107 ca107 : Nat), ∃ x108 : Int, ∃ x109 : Int, v103 = .tuple #[.agg #[.string s105, .int .i64 x106, .slice a107 la107 ca107], .int .i64 x108, .int .i64 x109] ∧
                VNew h104 (.cells #[.string (ByteArray.mk #[]), .int .i64 0, .slice none 0 0] 27) fun b110 h111 =>
                storeL ⟨b110, 0, none⟩ 0 [.string s105, .int .i64 x106, .slice a107 la107 ca107] h111 fun h112 =>
                VIdx a74 la74 i_80 1 fun a113 =>
                ∃ (a114 : Option Addr) (la114 ca114 : Nat), cellH h112 a113 = some (.slice a114 la114 ca114) ∧
                VIdx a74 la74 i_80 1 fun a115 =>
                ∃ (a116 : Option Addr) (la116 ca116 : Nat), cellH h112 a115 = some (.slice a116 la116 ca116) ∧
                (CallsH Tryd.prog 17 #[.slice a114 la114 ca114] h112 fun v117 h118 =>
                  ∃ (a119 : Option Addr) (la119 ca119 : Nat), v117 = .slice a119 la119 ca119 ∧
                  (cellH h118 a115 = some (.slice a116 la116 ca116)) ∧
                  VSlice 1 a119 ca119 0 (la116 : Int) (ca119 : Int) fun a120 la120 ca120 =>
                  (CallsH Tryd.prog 18 #[.slice a120 la120 ca120] h118 fun v121 h122 =>
                    ∃ s123 : ByteArray, ∃ x124 : Int, ∃ (a125 : Option Addr) (la125 ca125 : Nat), ∃ x126 : Int, ∃ x127 : Int, v121 = .tuple #[.agg #[.string s123, .int .i64 x124, .slice a125 la125 ca125], .int .i64 x126, .int .i64 x127] ∧
                    VNew h122 (.cells #[.string (ByteArray.mk #[]), .int .i64 0, .slice none 0 0] 27) fun b128 h129 =>
                    storeL ⟨b128, 0, none⟩ 0 [.string s123, .int .i64 x124, .slice a125 la125 ca125] h129 fun h130 =>
                    ∃ I131 : Nat → Heap → Int → Prop, (∃ n132, I131 n132 h130 0) ∧
                    ∀ (n132 : Nat) (h133 : Heap) (g134 : Env) (j_135 : Int), I131 n132 h133 j_135 →
                    cond (decide (j_135 < (la86 : Int)))
                    (VIdx a86 la86 j_135 1 fun a137 =>
                      VStore h133 a137 (.int .u8 255) fun h138 =>
                      ∃ m136, m136 < n132 ∧ I131 m136 h138 (IntKind.i64.wrap (j_135 + 1)))
                    (cond (x90 != x102) (R (.bool false) h133) (cond (x109 != x127) (R (.bool false) h133) (CallsH Tryd.prog 33 #[.slice a89 la89 ca89, .slice a101 la101 ca101] h133 fun v139 h140 =>
                          ∃ b141 : Bool, v139 = .bool b141 ∧
                          cond (!b141) (R (.bool false) h140) (∃ s142 : ByteArray, cellH h140 ⟨b110, 0, none⟩ = some (.string s142) ∧
                            ∃ x143 : Int, cellH h140 ⟨b110, 1, none⟩ = some (.int .i64 x143) ∧
                            ∃ (a144 : Option Addr) (la144 ca144 : Nat), cellH h140 ⟨b110, 2, none⟩ = some (.slice a144 la144 ca144) ∧
                            ∃ s145 : ByteArray, cellH h140 ⟨b128, 0, none⟩ = some (.string s145) ∧
                            ∃ x146 : Int, cellH h140 ⟨b128, 1, none⟩ = some (.int .i64 x146) ∧
                            ∃ (a147 : Option Addr) (la147 ca147 : Nat), cellH h140 ⟨b128, 2, none⟩ = some (.slice a147 la147 ca147) ∧
                            CallsH Tryd.prog 20 #[.agg #[.string s142, .int .i64 x143, .slice a144 la144 ca144], .agg #[.string s145, .int .i64 x146, .slice a147 la147 ca147]] h140 fun v148 h149 =>
                            ∃ b150 : Bool, v148 = .bool b150 ∧
                            cond (!b150)
                            (R (.bool false) h149)
                            (CallsH Tryd.prog 36 #[.pointer (some ⟨b4, 0, none⟩), .slice a89 la89 ca89] h149 fun v151 h152 =>
                              v151 = .tuple #[] ∧
                              ∃ s153 : ByteArray, cellH h152 ⟨b110, 0, none⟩ = some (.string s153) ∧
                              ∃ x154 : Int, cellH h152 ⟨b110, 1, none⟩ = some (.int .i64 x154) ∧
                              ∃ (a155 : Option Addr) (la155 ca155 : Nat), cellH h152 ⟨b110, 2, none⟩ = some (.slice a155 la155 ca155) ∧
                              VNew h152 (.cells #[.string s153, .int .i64 x154, .slice a155 la155 ca155] 27) fun b156 h157 =>
                              CallsH Tryd.prog 36 #[.pointer (some ⟨b4, 0, none⟩), .slice (some ⟨b156, 0, none⟩) 1 1] h157 fun v158 h159 =>
                              v158 = .tuple #[] ∧
                              VIdx a74 la74 i_80 1 fun a160 =>
                              ∃ (a161 : Option Addr) (la161 ca161 : Nat), cellH h159 a160 = some (.slice a161 la161 ca161) ∧
                              VIdx a74 la74 i_80 1 fun a162 =>
                              ∃ (a163 : Option Addr) (la163 ca163 : Nat), cellH h159 a162 = some (.slice a163 la163 ca163) ∧
                              CallsH Tryd.prog 17 #[.slice a161 la161 ca161] h159 fun v164 h165 =>
                              ∃ (a166 : Option Addr) (la166 ca166 : Nat), v164 = .slice a166 la166 ca166 ∧
                              (cellH h165 a162 = some (.slice a163 la163 ca163)) ∧
                              VSlice 1 a166 ca166 0 (la163 : Int) (ca166 : Int) fun a167 la167 ca167 =>
                              CallsH Tryd.prog 31 #[.slice a167 la167 ca167] h165 fun v168 h169 =>
                              ∃ (a170 : Option Addr) (la170 ca170 : Nat), ∃ x171 : Int, v168 = .tuple #[.slice a170 la170 ca170, .int .i64 x171] ∧
                              (64 : Int) ≠ (0 : Int) ∧
                              cond ((Int.tmod i_80 64) == (63 : Int)) (CallsH Tryd.prog 35 #[.pointer (some ⟨b4, 0, none⟩)] h169 fun v172 h173 =>
                                ∃ b174 : Bool, v172 = .bool b174 ∧
                                cond (!b174) (R (.bool false) h173) (cond (x171 != x102) (R (.bool false) h173) (CallsH Tryd.prog 33 #[.slice a170 la170 ca170, .slice a101 la101 ca101] h173 fun v175 h176 =>
                                    ∃ b177 : Bool, v175 = .bool b177 ∧
                                    cond (!b177)
                                    (R (.bool false) h176)
                                    (∃ m81, m81 < n76 ∧ I75 m81 h176 y_79 (IntKind.i64.wrap (i_80 + 1)))))) (cond (x171 != x102) (R (.bool false) h169) (CallsH Tryd.prog 33 #[.slice a170 la170 ca170, .slice a101 la101 ca101] h169 fun v178 h179 =>
                                  ∃ b180 : Bool, v178 = .bool b180 ∧
                                  cond (!b180)
                                  (R (.bool false) h179)
                                  (∃ m81, m81 < n76 ∧ I75 m81 h179 y_79 (IntKind.i64.wrap (i_80 + 1))))))))))) ∧
                  VNew h118 (.cells #[.string (ByteArray.mk #[]), .int .i64 0, .slice none 0 0] 27) fun b181 h182 =>
                  (cellH h182 a115 = some (.slice a116 la116 ca116)) ∧
                  CallsH Tryd.prog 18 #[.slice a120 la120 ca120] h182 fun v183 h184 =>
                  ∃ s185 : ByteArray, ∃ x186 : Int, ∃ (a187 : Option Addr) (la187 ca187 : Nat), ∃ x188 : Int, ∃ x189 : Int, v183 = .tuple #[.agg #[.string s185, .int .i64 x186, .slice a187 la187 ca187], .int .i64 x188, .int .i64 x189] ∧
                  storeL ⟨b181, 0, none⟩ 0 [.string s185, .int .i64 x186, .slice a187 la187 ca187] h184 fun h190 =>
                  ∃ I191 : Nat → Heap → Int → Prop, (∃ n192, I191 n192 h190 0) ∧
                  ∀ (n192 : Nat) (h193 : Heap) (g194 : Env) (j_195 : Int), I191 n192 h193 j_195 →
                  cond (decide (j_195 < (la86 : Int)))
                  (VIdx a86 la86 j_195 1 fun a197 =>
                    VStore h193 a197 (.int .u8 255) fun h198 =>
                    ∃ m196, m196 < n192 ∧ I191 m196 h198 (IntKind.i64.wrap (j_195 + 1)))
                  (cond (x90 != x102) (R (.bool false) h193) (cond (x109 != x189) (R (.bool false) h193) (CallsH Tryd.prog 33 #[.slice a89 la89 ca89, .slice a101 la101 ca101] h193 fun v199 h200 =>
                        ∃ b201 : Bool, v199 = .bool b201 ∧
                        cond (!b201) (R (.bool false) h200) (∃ s202 : ByteArray, cellH h200 ⟨b110, 0, none⟩ = some (.string s202) ∧
                          ∃ x203 : Int, cellH h200 ⟨b110, 1, none⟩ = some (.int .i64 x203) ∧
                          ∃ (a204 : Option Addr) (la204 ca204 : Nat), cellH h200 ⟨b110, 2, none⟩ = some (.slice a204 la204 ca204) ∧
                          ∃ s205 : ByteArray, cellH h200 ⟨b181, 0, none⟩ = some (.string s205) ∧
                          ∃ x206 : Int, cellH h200 ⟨b181, 1, none⟩ = some (.int .i64 x206) ∧
                          ∃ (a207 : Option Addr) (la207 ca207 : Nat), cellH h200 ⟨b181, 2, none⟩ = some (.slice a207 la207 ca207) ∧
                          CallsH Tryd.prog 20 #[.agg #[.string s202, .int .i64 x203, .slice a204 la204 ca204], .agg #[.string s205, .int .i64 x206, .slice a207 la207 ca207]] h200 fun v208 h209 =>
                          ∃ b210 : Bool, v208 = .bool b210 ∧
                          cond (!b210)
                          (R (.bool false) h209)
                          (CallsH Tryd.prog 36 #[.pointer (some ⟨b4, 0, none⟩), .slice a89 la89 ca89] h209 fun v211 h212 =>
                            v211 = .tuple #[] ∧
                            ∃ s213 : ByteArray, cellH h212 ⟨b110, 0, none⟩ = some (.string s213) ∧
                            ∃ x214 : Int, cellH h212 ⟨b110, 1, none⟩ = some (.int .i64 x214) ∧
                            ∃ (a215 : Option Addr) (la215 ca215 : Nat), cellH h212 ⟨b110, 2, none⟩ = some (.slice a215 la215 ca215) ∧
                            VNew h212 (.cells #[.string s213, .int .i64 x214, .slice a215 la215 ca215] 27) fun b216 h217 =>
                            CallsH Tryd.prog 36 #[.pointer (some ⟨b4, 0, none⟩), .slice (some ⟨b216, 0, none⟩) 1 1] h217 fun v218 h219 =>
                            v218 = .tuple #[] ∧
                            VIdx a74 la74 i_80 1 fun a220 =>
                            ∃ (a221 : Option Addr) (la221 ca221 : Nat), cellH h219 a220 = some (.slice a221 la221 ca221) ∧
                            VIdx a74 la74 i_80 1 fun a222 =>
                            ∃ (a223 : Option Addr) (la223 ca223 : Nat), cellH h219 a222 = some (.slice a223 la223 ca223) ∧
                            CallsH Tryd.prog 17 #[.slice a221 la221 ca221] h219 fun v224 h225 =>
                            ∃ (a226 : Option Addr) (la226 ca226 : Nat), v224 = .slice a226 la226 ca226 ∧
                            (cellH h225 a222 = some (.slice a223 la223 ca223)) ∧
                            VSlice 1 a226 ca226 0 (la223 : Int) (ca226 : Int) fun a227 la227 ca227 =>
                            CallsH Tryd.prog 31 #[.slice a227 la227 ca227] h225 fun v228 h229 =>
                            ∃ (a230 : Option Addr) (la230 ca230 : Nat), ∃ x231 : Int, v228 = .tuple #[.slice a230 la230 ca230, .int .i64 x231] ∧
                            (64 : Int) ≠ (0 : Int) ∧
                            cond ((Int.tmod i_80 64) == (63 : Int)) (CallsH Tryd.prog 35 #[.pointer (some ⟨b4, 0, none⟩)] h229 fun v232 h233 =>
                              ∃ b234 : Bool, v232 = .bool b234 ∧
                              cond (!b234) (R (.bool false) h233) (cond (x231 != x102) (R (.bool false) h233) (CallsH Tryd.prog 33 #[.slice a230 la230 ca230, .slice a101 la101 ca101] h233 fun v235 h236 =>
                                  ∃ b237 : Bool, v235 = .bool b237 ∧
                                  cond (!b237)
                                  (R (.bool false) h236)
                                  (∃ m81, m81 < n76 ∧ I75 m81 h236 y_79 (IntKind.i64.wrap (i_80 + 1)))))) (cond (x231 != x102) (R (.bool false) h229) (CallsH Tryd.prog 33 #[.slice a230 la230 ca230, .slice a101 la101 ca101] h229 fun v238 h239 =>
                                ∃ b240 : Bool, v238 = .bool b240 ∧
                                cond (!b240)
                                (R (.bool false) h239)
                                (∃ m81, m81 < n76 ∧ I75 m81 h239 y_79 (IntKind.i64.wrap (i_80 + 1))))))))))) ∧
                VNew h112 (.cells #[.string (ByteArray.mk #[]), .int .i64 0, .slice none 0 0] 27) fun b241 h242 =>
                (cellH h242 a115 = some (.slice a116 la116 ca116)) ∧
                (cellH h242 a113 = some (.slice a114 la114 ca114)) ∧
                CallsH Tryd.prog 17 #[.slice a114 la114 ca114] h242 fun v243 h244 =>
                ∃ (a245 : Option Addr) (la245 ca245 : Nat), v243 = .slice a245 la245 ca245 ∧
                (cellH h244 a115 = some (.slice a116 la116 ca116)) ∧
                VSlice 1 a245 ca245 0 (la116 : Int) (ca245 : Int) fun a246 la246 ca246 =>
                CallsH Tryd.prog 18 #[.slice a246 la246 ca246] h244 fun v247 h248 =>
                ∃ s249 : ByteArray, ∃ x250 : Int, ∃ (a251 : Option Addr) (la251 ca251 : Nat), ∃ x252 : Int, ∃ x253 : Int, v247 = .tuple #[.agg #[.string s249, .int .i64 x250, .slice a251 la251 ca251], .int .i64 x252, .int .i64 x253] ∧
                storeL ⟨b241, 0, none⟩ 0 [.string s249, .int .i64 x250, .slice a251 la251 ca251] h248 fun h254 =>
                ∃ I255 : Nat → Heap → Int → Prop, (∃ n256, I255 n256 h254 0) ∧
                ∀ (n256 : Nat) (h257 : Heap) (g258 : Env) (j_259 : Int), I255 n256 h257 j_259 →
                cond (decide (j_259 < (la86 : Int)))
                (VIdx a86 la86 j_259 1 fun a261 =>
                  VStore h257 a261 (.int .u8 255) fun h262 =>
                  ∃ m260, m260 < n256 ∧ I255 m260 h262 (IntKind.i64.wrap (j_259 + 1)))
                (cond (x90 != x102) (R (.bool false) h257) (cond (x109 != x253) (R (.bool false) h257) (CallsH Tryd.prog 33 #[.slice a89 la89 ca89, .slice a101 la101 ca101] h257 fun v263 h264 =>
                      ∃ b265 : Bool, v263 = .bool b265 ∧
                      cond (!b265) (R (.bool false) h264) (∃ s266 : ByteArray, cellH h264 ⟨b110, 0, none⟩ = some (.string s266) ∧
                        ∃ x267 : Int, cellH h264 ⟨b110, 1, none⟩ = some (.int .i64 x267) ∧
                        ∃ (a268 : Option Addr) (la268 ca268 : Nat), cellH h264 ⟨b110, 2, none⟩ = some (.slice a268 la268 ca268) ∧
                        ∃ s269 : ByteArray, cellH h264 ⟨b241, 0, none⟩ = some (.string s269) ∧
                        ∃ x270 : Int, cellH h264 ⟨b241, 1, none⟩ = some (.int .i64 x270) ∧
                        ∃ (a271 : Option Addr) (la271 ca271 : Nat), cellH h264 ⟨b241, 2, none⟩ = some (.slice a271 la271 ca271) ∧
                        CallsH Tryd.prog 20 #[.agg #[.string s266, .int .i64 x267, .slice a268 la268 ca268], .agg #[.string s269, .int .i64 x270, .slice a271 la271 ca271]] h264 fun v272 h273 =>
                        ∃ b274 : Bool, v272 = .bool b274 ∧
                        cond (!b274)
                        (R (.bool false) h273)
                        (CallsH Tryd.prog 36 #[.pointer (some ⟨b4, 0, none⟩), .slice a89 la89 ca89] h273 fun v275 h276 =>
                          v275 = .tuple #[] ∧
                          ∃ s277 : ByteArray, cellH h276 ⟨b110, 0, none⟩ = some (.string s277) ∧
                          ∃ x278 : Int, cellH h276 ⟨b110, 1, none⟩ = some (.int .i64 x278) ∧
                          ∃ (a279 : Option Addr) (la279 ca279 : Nat), cellH h276 ⟨b110, 2, none⟩ = some (.slice a279 la279 ca279) ∧
                          VNew h276 (.cells #[.string s277, .int .i64 x278, .slice a279 la279 ca279] 27) fun b280 h281 =>
                          CallsH Tryd.prog 36 #[.pointer (some ⟨b4, 0, none⟩), .slice (some ⟨b280, 0, none⟩) 1 1] h281 fun v282 h283 =>
                          v282 = .tuple #[] ∧
                          VIdx a74 la74 i_80 1 fun a284 =>
                          ∃ (a285 : Option Addr) (la285 ca285 : Nat), cellH h283 a284 = some (.slice a285 la285 ca285) ∧
                          VIdx a74 la74 i_80 1 fun a286 =>
                          ∃ (a287 : Option Addr) (la287 ca287 : Nat), cellH h283 a286 = some (.slice a287 la287 ca287) ∧
                          CallsH Tryd.prog 17 #[.slice a285 la285 ca285] h283 fun v288 h289 =>
                          ∃ (a290 : Option Addr) (la290 ca290 : Nat), v288 = .slice a290 la290 ca290 ∧
                          (cellH h289 a286 = some (.slice a287 la287 ca287)) ∧
                          VSlice 1 a290 ca290 0 (la287 : Int) (ca290 : Int) fun a291 la291 ca291 =>
                          CallsH Tryd.prog 31 #[.slice a291 la291 ca291] h289 fun v292 h293 =>
                          ∃ (a294 : Option Addr) (la294 ca294 : Nat), ∃ x295 : Int, v292 = .tuple #[.slice a294 la294 ca294, .int .i64 x295] ∧
                          (64 : Int) ≠ (0 : Int) ∧
                          cond ((Int.tmod i_80 64) == (63 : Int)) (CallsH Tryd.prog 35 #[.pointer (some ⟨b4, 0, none⟩)] h293 fun v296 h297 =>
                            ∃ b298 : Bool, v296 = .bool b298 ∧
                            cond (!b298) (R (.bool false) h297) (cond (x295 != x102) (R (.bool false) h297) (CallsH Tryd.prog 33 #[.slice a294 la294 ca294, .slice a101 la101 ca101] h297 fun v299 h300 =>
                                ∃ b301 : Bool, v299 = .bool b301 ∧
                                cond (!b301)
                                (R (.bool false) h300)
                                (∃ m81, m81 < n76 ∧ I75 m81 h300 y_79 (IntKind.i64.wrap (i_80 + 1)))))) (cond (x295 != x102) (R (.bool false) h293) (CallsH Tryd.prog 33 #[.slice a294 la294 ca294, .slice a101 la101 ca101] h293 fun v302 h303 =>
                              ∃ b304 : Bool, v302 = .bool b304 ∧
                              cond (!b304)
                              (R (.bool false) h303)
                              (∃ m81, m81 < n76 ∧ I75 m81 h303 y_79 (IntKind.i64.wrap (i_80 + 1)))))))))))
              (CallsH Tryd.prog 35 #[.pointer (some ⟨b4, 0, none⟩)] h77 fun v305 h306 =>
                ∃ b307 : Bool, v305 = .bool b307 ∧
                cond b307 (CallsH Tryd.prog 37 #[.slice a0es la0es ca0es, .slice a1ns la1ns ca1ns, .slice a2raws la2raws ca2raws] h306 fun v308 h309 =>
                  ∃ b310 : Bool, v308 = .bool b310 ∧
                  R (.bool b310) h309) (R (.bool false) h306))))))))
theorem vf9 (a0es : Option Addr) (la0es ca0es : Nat) (a1ns : Option Addr) (la1ns ca1ns : Nat) (a2raws : Option Addr) (la2raws ca2raws : Nat) (h : Heap) (R : KV) (hF : F9 a0es la0es ca0es a1ns la1ns ca1ns a2raws la2raws ca2raws h R) : CallsH Tryd.prog 9 #[.slice a0es la0es ca0es, .slice a1ns la1ns ca1ns, .slice a2raws la2raws ca2raws] h R :=
  calls_of_vc (A := an9) (fn := Tryd.f9) (c := c9) (args := [.slice a0es la0es ca0es, .slice a1ns la1ns ca1ns, .slice a2raws la2raws ca2raws]) Tryd.func9 (by kernel_rfl) mixed (by kernel_rfl) (Eq.mp (by kernel_rfl : F9 a0es la0es ca0es a1ns la1ns ca1ns a2raws la2raws ca2raws h R = vcF Tryd.prog an9 Tryd.f9 c9 [.slice a0es la0es ca0es, .slice a1ns la1ns ca1ns, .slice a2raws la2raws ca2raws] h R) hF)
/-! ### 10 refrain/refrainlaw3.WireScript -/
noncomputable def c10 : Code := match Tryd.f10.body with | some c => c | none => .skip
noncomputable def an10 : Ann := { loops := fun i => match i with | 7 => [(4, .bool), (5, .slc), (6, .slc), (8, .int .i64), (9, .int .i64)] | 21 => [(4, .bool), (12, .int .i64)] | _ => [], draws := fun i => match i with | 10 => #[0, 0, 0, 6, 14, 31, 63] | 23 => #[0, 0, 3, 7, 0, 0, 48, 112, 255, 511] | _ => #[], joins := fun i => match i with | 8 => some [(4, .bool), (5, .slc), (6, .slc), (8, .int .i64), (10, .ptr), (11, .ptr)] | 12 => some [] | _ => none }
def F10 (a0script : Option Addr) (la0script ca0script : Nat) (a1turns : Option Addr) (la1turns ca1turns : Nat) (h : Heap) (R : KV) : Prop :=
  CallsH Tryd.prog 11 #[] h fun v1 h2 =>
  ∃ b3 : Bool, v1 = .bool b3 ∧
  cond (!b3)
  (R (.bool false) h2)
  (VNew h2 (.cells #[.int .i64 0, .int .i64 0, .slice none 0 0, .string (ByteArray.mk #[]), .int .i64 0, .slice none 0 0, .slice none 0 0] 71) fun b4 h5 =>
    ∃ I6 : Nat → Heap → Bool → Option Addr → Nat → Nat → Option Addr → Nat → Nat → Int → Int → Prop, (∃ n7, I6 n7 h5 false none 0 0 none 0 0 0 0) ∧
    ∀ (n7 : Nat) (h8 : Heap) (g9 : Env) (y_10 : Bool) (all_11 : Option Addr) (lall_11 call_11 : Nat) (wants_12 : Option Addr) (lwants_12 cwants_12 : Nat) (size_13 : Int) (i_14 : Int), I6 n7 h8 y_10 all_11 lall_11 call_11 wants_12 lwants_12 cwants_12 size_13 i_14 →
    cond (decide (i_14 < (la0script : Int)))
    (∃ J16 : Heap → Bool → Option Addr → Nat → Nat → Option Addr → Nat → Nat → Int → Option Addr → Option Addr → Prop, (∃ J17 : Heap → Prop, (cond (decide (i_14 > (0 : Int))) (cond (decide (i_14 < (la1turns : Int))) (VIdx a1turns la1turns i_14 1 fun a18 =>
              ∃ x19 : Int, cellH h8 a18 = some (.int .i64 x19) ∧
              cond (x19 != (0 : Int))
              (∃ x20 : Int, cellH h8 ⟨b4, 0, none⟩ = some (.int .i64 x20) ∧
                ∃ x21 : Int, cellH h8 ⟨b4, 1, none⟩ = some (.int .i64 x21) ∧
                ∃ (a22 : Option Addr) (la22 ca22 : Nat), cellH h8 ⟨b4, 2, none⟩ = some (.slice a22 la22 ca22) ∧
                ∃ s23 : ByteArray, cellH h8 ⟨b4, 3, none⟩ = some (.string s23) ∧
                ∃ x24 : Int, cellH h8 ⟨b4, 4, none⟩ = some (.int .i64 x24) ∧
                ∃ (a25 : Option Addr) (la25 ca25 : Nat), cellH h8 ⟨b4, 5, none⟩ = some (.slice a25 la25 ca25) ∧
                ∃ (a26 : Option Addr) (la26 ca26 : Nat), cellH h8 ⟨b4, 6, none⟩ = some (.slice a26 la26 ca26) ∧
                VIdx a1turns la1turns i_14 1 fun a27 =>
                ∃ x28 : Int, cellH h8 a27 = some (.int .i64 x28) ∧
                CallsH Tryd.prog 38 #[.agg #[.int .i64 x20, .int .i64 x21, .slice a22 la22 ca22, .string s23, .int .i64 x24, .slice a25 la25 ca25, .slice a26 la26 ca26], .int .i64 x28] h8 fun v29 h30 =>
                ∃ x31 : Int, ∃ x32 : Int, ∃ (a33 : Option Addr) (la33 ca33 : Nat), ∃ s34 : ByteArray, ∃ x35 : Int, ∃ (a36 : Option Addr) (la36 ca36 : Nat), ∃ (a37 : Option Addr) (la37 ca37 : Nat), v29 = .agg #[.int .i64 x31, .int .i64 x32, .slice a33 la33 ca33, .string s34, .int .i64 x35, .slice a36 la36 ca36, .slice a37 la37 ca37] ∧
                storeL ⟨b4, 0, none⟩ 0 [.int .i64 x31, .int .i64 x32, .slice a33 la33 ca33, .string s34, .int .i64 x35, .slice a36 la36 ca36, .slice a37 la37 ca37] h30 fun h38 =>
                J17 h38)
              (VIdx a0script la0script i_14 7 fun a39 =>
                ∃ x40 : Int, cellH h8 a39 = some (.int .i64 x40) ∧
                ∃ x41 : Int, cellH h8 ⟨a39.block, a39.off + 1, none⟩ = some (.int .i64 x41) ∧
                ∃ (a42 : Option Addr) (la42 ca42 : Nat), cellH h8 ⟨a39.block, a39.off + 2, none⟩ = some (.slice a42 la42 ca42) ∧
                ∃ s43 : ByteArray, cellH h8 ⟨a39.block, a39.off + 3, none⟩ = some (.string s43) ∧
                ∃ x44 : Int, cellH h8 ⟨a39.block, a39.off + 4, none⟩ = some (.int .i64 x44) ∧
                ∃ (a45 : Option Addr) (la45 ca45 : Nat), cellH h8 ⟨a39.block, a39.off + 5, none⟩ = some (.slice a45 la45 ca45) ∧
                ∃ (a46 : Option Addr) (la46 ca46 : Nat), cellH h8 ⟨a39.block, a39.off + 6, none⟩ = some (.slice a46 la46 ca46) ∧
                CallsH Tryd.prog 39 #[.agg #[.int .i64 x40, .int .i64 x41, .slice a42 la42 ca42, .string s43, .int .i64 x44, .slice a45 la45 ca45, .slice a46 la46 ca46]] h8 fun v47 h48 =>
                ∃ x49 : Int, ∃ x50 : Int, ∃ (a51 : Option Addr) (la51 ca51 : Nat), ∃ s52 : ByteArray, ∃ x53 : Int, ∃ (a54 : Option Addr) (la54 ca54 : Nat), ∃ (a55 : Option Addr) (la55 ca55 : Nat), v47 = .agg #[.int .i64 x49, .int .i64 x50, .slice a51 la51 ca51, .string s52, .int .i64 x53, .slice a54 la54 ca54, .slice a55 la55 ca55] ∧
                storeL ⟨b4, 0, none⟩ 0 [.int .i64 x49, .int .i64 x50, .slice a51 la51 ca51, .string s52, .int .i64 x53, .slice a54 la54 ca54, .slice a55 la55 ca55] h48 fun h56 =>
                J17 h56)) (VIdx a0script la0script i_14 7 fun a57 =>
              ∃ x58 : Int, cellH h8 a57 = some (.int .i64 x58) ∧
              ∃ x59 : Int, cellH h8 ⟨a57.block, a57.off + 1, none⟩ = some (.int .i64 x59) ∧
              ∃ (a60 : Option Addr) (la60 ca60 : Nat), cellH h8 ⟨a57.block, a57.off + 2, none⟩ = some (.slice a60 la60 ca60) ∧
              ∃ s61 : ByteArray, cellH h8 ⟨a57.block, a57.off + 3, none⟩ = some (.string s61) ∧
              ∃ x62 : Int, cellH h8 ⟨a57.block, a57.off + 4, none⟩ = some (.int .i64 x62) ∧
              ∃ (a63 : Option Addr) (la63 ca63 : Nat), cellH h8 ⟨a57.block, a57.off + 5, none⟩ = some (.slice a63 la63 ca63) ∧
              ∃ (a64 : Option Addr) (la64 ca64 : Nat), cellH h8 ⟨a57.block, a57.off + 6, none⟩ = some (.slice a64 la64 ca64) ∧
              CallsH Tryd.prog 39 #[.agg #[.int .i64 x58, .int .i64 x59, .slice a60 la60 ca60, .string s61, .int .i64 x62, .slice a63 la63 ca63, .slice a64 la64 ca64]] h8 fun v65 h66 =>
              ∃ x67 : Int, ∃ x68 : Int, ∃ (a69 : Option Addr) (la69 ca69 : Nat), ∃ s70 : ByteArray, ∃ x71 : Int, ∃ (a72 : Option Addr) (la72 ca72 : Nat), ∃ (a73 : Option Addr) (la73 ca73 : Nat), v65 = .agg #[.int .i64 x67, .int .i64 x68, .slice a69 la69 ca69, .string s70, .int .i64 x71, .slice a72 la72 ca72, .slice a73 la73 ca73] ∧
              storeL ⟨b4, 0, none⟩ 0 [.int .i64 x67, .int .i64 x68, .slice a69 la69 ca69, .string s70, .int .i64 x71, .slice a72 la72 ca72, .slice a73 la73 ca73] h66 fun h74 =>
              J17 h74)) (VIdx a0script la0script i_14 7 fun a75 =>
            ∃ x76 : Int, cellH h8 a75 = some (.int .i64 x76) ∧
            ∃ x77 : Int, cellH h8 ⟨a75.block, a75.off + 1, none⟩ = some (.int .i64 x77) ∧
            ∃ (a78 : Option Addr) (la78 ca78 : Nat), cellH h8 ⟨a75.block, a75.off + 2, none⟩ = some (.slice a78 la78 ca78) ∧
            ∃ s79 : ByteArray, cellH h8 ⟨a75.block, a75.off + 3, none⟩ = some (.string s79) ∧
            ∃ x80 : Int, cellH h8 ⟨a75.block, a75.off + 4, none⟩ = some (.int .i64 x80) ∧
            ∃ (a81 : Option Addr) (la81 ca81 : Nat), cellH h8 ⟨a75.block, a75.off + 5, none⟩ = some (.slice a81 la81 ca81) ∧
            ∃ (a82 : Option Addr) (la82 ca82 : Nat), cellH h8 ⟨a75.block, a75.off + 6, none⟩ = some (.slice a82 la82 ca82) ∧
            CallsH Tryd.prog 39 #[.agg #[.int .i64 x76, .int .i64 x77, .slice a78 la78 ca78, .string s79, .int .i64 x80, .slice a81 la81 ca81, .slice a82 la82 ca82]] h8 fun v83 h84 =>
            ∃ x85 : Int, ∃ x86 : Int, ∃ (a87 : Option Addr) (la87 ca87 : Nat), ∃ s88 : ByteArray, ∃ x89 : Int, ∃ (a90 : Option Addr) (la90 ca90 : Nat), ∃ (a91 : Option Addr) (la91 ca91 : Nat), v83 = .agg #[.int .i64 x85, .int .i64 x86, .slice a87 la87 ca87, .string s88, .int .i64 x89, .slice a90 la90 ca90, .slice a91 la91 ca91] ∧
            storeL ⟨b4, 0, none⟩ 0 [.int .i64 x85, .int .i64 x86, .slice a87 la87 ca87, .string s88, .int .i64 x89, .slice a90 la90 ca90, .slice a91 la91 ca91] h84 fun h92 =>
            J17 h92)) ∧
        ∀ (h93 : Heap) (g94 : Env), J17 h93 →
        ∃ x95 : Int, cellH h93 ⟨b4, 0, none⟩ = some (.int .i64 x95) ∧
        ∃ x96 : Int, cellH h93 ⟨b4, 1, none⟩ = some (.int .i64 x96) ∧
        ∃ (a97 : Option Addr) (la97 ca97 : Nat), cellH h93 ⟨b4, 2, none⟩ = some (.slice a97 la97 ca97) ∧
        ∃ s98 : ByteArray, cellH h93 ⟨b4, 3, none⟩ = some (.string s98) ∧
        ∃ x99 : Int, cellH h93 ⟨b4, 4, none⟩ = some (.int .i64 x99) ∧
        ∃ (a100 : Option Addr) (la100 ca100 : Nat), cellH h93 ⟨b4, 5, none⟩ = some (.slice a100 la100 ca100) ∧
        ∃ (a101 : Option Addr) (la101 ca101 : Nat), cellH h93 ⟨b4, 6, none⟩ = some (.slice a101 la101 ca101) ∧
        CallsH Tryd.prog 40 #[.agg #[.int .i64 x95, .int .i64 x96, .slice a97 la97 ca97, .string s98, .int .i64 x99, .slice a100 la100 ca100, .slice a101 la101 ca101]] h93 fun v102 h103 =>
        ∃ (a104 : Option Addr) (la104 ca104 : Nat), ∃ x105 : Int, ∃ x106 : Int, ∃ (a107 : Option Addr) (la107 ca107 : Nat), ∃ x108 : Int, v102 = .agg #[.slice a104 la104 ca104, .int .i64 x105, .int .i64 x106, .slice a107 la107 ca107, .int .i64 x108] ∧
        VNew h103 (.cells #[.slice none 0 0, .int .i64 0, .int .i64 0, .slice none 0 0, .int .i64 0] 75) fun b109 h110 =>
        storeL ⟨b109, 0, none⟩ 0 [.slice a104 la104 ca104, .int .i64 x105, .int .i64 x106, .slice a107 la107 ca107, .int .i64 x108] h110 fun h111 =>
        ∃ x112 : Int, cellH h111 ⟨b4, 0, none⟩ = some (.int .i64 x112) ∧
        ∃ x113 : Int, cellH h111 ⟨b4, 1, none⟩ = some (.int .i64 x113) ∧
        ∃ (a114 : Option Addr) (la114 ca114 : Nat), cellH h111 ⟨b4, 2, none⟩ = some (.slice a114 la114 ca114) ∧
        ∃ s115 : ByteArray, cellH h111 ⟨b4, 3, none⟩ = some (.string s115) ∧
        ∃ x116 : Int, cellH h111 ⟨b4, 4, none⟩ = some (.int .i64 x116) ∧
        ∃ (a117 : Option Addr) (la117 ca117 : Nat), cellH h111 ⟨b4, 5, none⟩ = some (.slice a117 la117 ca117) ∧
        ∃ (a118 : Option Addr) (la118 ca118 : Nat), cellH h111 ⟨b4, 6, none⟩ = some (.slice a118 la118 ca118) ∧
        CallsH Tryd.prog 41 #[.agg #[.int .i64 x112, .int .i64 x113, .slice a114 la114 ca114, .string s115, .int .i64 x116, .slice a117 la117 ca117, .slice a118 la118 ca118]] h111 fun v119 h120 =>
        ∃ (a121 : Option Addr) (la121 ca121 : Nat), ∃ x122 : Int, ∃ x123 : Int, ∃ (a124 : Option Addr) (la124 ca124 : Nat), ∃ x125 : Int, v119 = .agg #[.slice a121 la121 ca121, .int .i64 x122, .int .i64 x123, .slice a124 la124 ca124, .int .i64 x125] ∧
        VNew h120 (.cells #[.slice none 0 0, .int .i64 0, .int .i64 0, .slice none 0 0, .int .i64 0] 75) fun b126 h127 =>
        storeL ⟨b126, 0, none⟩ 0 [.slice a121 la121 ca121, .int .i64 x122, .int .i64 x123, .slice a124 la124 ca124, .int .i64 x125] h127 fun h128 =>
        ∃ (a129 : Option Addr) (la129 ca129 : Nat), cellH h128 ⟨b109, 0, none⟩ = some (.slice a129 la129 ca129) ∧
        ∃ x130 : Int, cellH h128 ⟨b109, 1, none⟩ = some (.int .i64 x130) ∧
        ∃ x131 : Int, cellH h128 ⟨b109, 2, none⟩ = some (.int .i64 x131) ∧
        ∃ (a132 : Option Addr) (la132 ca132 : Nat), cellH h128 ⟨b109, 3, none⟩ = some (.slice a132 la132 ca132) ∧
        ∃ x133 : Int, cellH h128 ⟨b109, 4, none⟩ = some (.int .i64 x133) ∧
        ∃ (a134 : Option Addr) (la134 ca134 : Nat), cellH h128 ⟨b126, 0, none⟩ = some (.slice a134 la134 ca134) ∧
        ∃ x135 : Int, cellH h128 ⟨b126, 1, none⟩ = some (.int .i64 x135) ∧
        ∃ x136 : Int, cellH h128 ⟨b126, 2, none⟩ = some (.int .i64 x136) ∧
        ∃ (a137 : Option Addr) (la137 ca137 : Nat), cellH h128 ⟨b126, 3, none⟩ = some (.slice a137 la137 ca137) ∧
        ∃ x138 : Int, cellH h128 ⟨b126, 4, none⟩ = some (.int .i64 x138) ∧
        CallsH Tryd.prog 42 #[.agg #[.slice a129 la129 ca129, .int .i64 x130, .int .i64 x131, .slice a132 la132 ca132, .int .i64 x133], .agg #[.slice a134 la134 ca134, .int .i64 x135, .int .i64 x136, .slice a137 la137 ca137, .int .i64 x138]] h128 fun v139 h140 =>
        ∃ b141 : Bool, v139 = .bool b141 ∧
        cond (!b141)
        (R (.bool false) h140)
        (cond (decide (size_13 ≤ (33554432 : Int)))
          (∃ (a142 : Option Addr) (la142 ca142 : Nat), cellH h140 ⟨b109, 0, none⟩ = some (.slice a142 la142 ca142) ∧
            ∃ x143 : Int, cellH h140 ⟨b109, 1, none⟩ = some (.int .i64 x143) ∧
            ∃ x144 : Int, cellH h140 ⟨b109, 2, none⟩ = some (.int .i64 x144) ∧
            ∃ (a145 : Option Addr) (la145 ca145 : Nat), cellH h140 ⟨b109, 3, none⟩ = some (.slice a145 la145 ca145) ∧
            ∃ x146 : Int, cellH h140 ⟨b109, 4, none⟩ = some (.int .i64 x146) ∧
            VNew h140 (.cells #[.slice a142 la142 ca142, .int .i64 x143, .int .i64 x144, .slice a145 la145 ca145, .int .i64 x146] 75) fun b147 h148 =>
            RunsTo Tryd.prog (Builtin.append_ #[69, 69] 69 #[.slice all_11 lall_11 call_11, .slice (some ⟨b147, 0, none⟩) 1 1]) h148 fun v149 h150 =>
            ∃ (a151 : Option Addr) (la151 ca151 : Nat), v149 = .slice a151 la151 ca151 ∧
            ∃ (a152 : Option Addr) (la152 ca152 : Nat), cellH h150 ⟨b126, 0, none⟩ = some (.slice a152 la152 ca152) ∧
            ∃ x153 : Int, cellH h150 ⟨b126, 1, none⟩ = some (.int .i64 x153) ∧
            ∃ x154 : Int, cellH h150 ⟨b126, 2, none⟩ = some (.int .i64 x154) ∧
            ∃ (a155 : Option Addr) (la155 ca155 : Nat), cellH h150 ⟨b126, 3, none⟩ = some (.slice a155 la155 ca155) ∧
            ∃ x156 : Int, cellH h150 ⟨b126, 4, none⟩ = some (.int .i64 x156) ∧
            VNew h150 (.cells #[.slice a152 la152 ca152, .int .i64 x153, .int .i64 x154, .slice a155 la155 ca155, .int .i64 x156] 75) fun b157 h158 =>
            RunsTo Tryd.prog (Builtin.append_ #[69, 69] 69 #[.slice wants_12 lwants_12 cwants_12, .slice (some ⟨b157, 0, none⟩) 1 1]) h158 fun v159 h160 =>
            ∃ (a161 : Option Addr) (la161 ca161 : Nat), v159 = .slice a161 la161 ca161 ∧
            ∃ (a162 : Option Addr) (la162 ca162 : Nat), cellH h160 ⟨b109, 0, none⟩ = some (.slice a162 la162 ca162) ∧
            ∃ x163 : Int, cellH h160 ⟨b109, 1, none⟩ = some (.int .i64 x163) ∧
            ∃ x164 : Int, cellH h160 ⟨b109, 2, none⟩ = some (.int .i64 x164) ∧
            ∃ (a165 : Option Addr) (la165 ca165 : Nat), cellH h160 ⟨b109, 3, none⟩ = some (.slice a165 la165 ca165) ∧
            ∃ x166 : Int, cellH h160 ⟨b109, 4, none⟩ = some (.int .i64 x166) ∧
            CallsH Tryd.prog 43 #[.agg #[.slice a162 la162 ca162, .int .i64 x163, .int .i64 x164, .slice a165 la165 ca165, .int .i64 x166]] h160 fun v167 h168 =>
            ∃ x169 : Int, v167 = .int .i64 x169 ∧
            J16 h168 y_10 a151 la151 ca151 a161 la161 ca161 (IntKind.i64.wrap (size_13 + x169)) (some ⟨b109, 0, none⟩) (some ⟨b126, 0, none⟩))
          (J16 h140 y_10 all_11 lall_11 call_11 wants_12 lwants_12 cwants_12 size_13 (some ⟨b109, 0, none⟩) (some ⟨b126, 0, none⟩)))) ∧
      ∀ (h170 : Heap) (g171 : Env) (y_172 : Bool) (all_173 : Option Addr) (lall_173 call_173 : Nat) (wants_174 : Option Addr) (lwants_174 cwants_174 : Nat) (size_175 : Int) (a_176 : Option Addr) (b_177 : Option Addr), J16 h170 y_172 all_173 lall_173 call_173 wants_174 lwants_174 cwants_174 size_175 a_176 b_177 →
      ∃ m15, m15 < n7 ∧ I6 m15 h170 y_172 all_173 lall_173 call_173 wants_174 lwants_174 cwants_174 size_175 (IntKind.i64.wrap (i_14 + 1)))
    (∃ I178 : Nat → Heap → Bool → Int → Prop, (∃ n179, I178 n179 h8 y_10 0) ∧
      ∀ (n179 : Nat) (h180 : Heap) (g181 : Env) (y_182 : Bool) (i_183 : Int), I178 n179 h180 y_182 i_183 →
      cond (decide (i_183 < (lall_11 : Int)))
      (VIdx all_11 lall_11 i_183 5 fun a185 =>
        ∃ (a186 : Option Addr) (la186 ca186 : Nat), cellH h180 a185 = some (.slice a186 la186 ca186) ∧
        ∃ x187 : Int, cellH h180 ⟨a185.block, a185.off + 1, none⟩ = some (.int .i64 x187) ∧
        ∃ x188 : Int, cellH h180 ⟨a185.block, a185.off + 2, none⟩ = some (.int .i64 x188) ∧
        ∃ (a189 : Option Addr) (la189 ca189 : Nat), cellH h180 ⟨a185.block, a185.off + 3, none⟩ = some (.slice a189 la189 ca189) ∧
        ∃ x190 : Int, cellH h180 ⟨a185.block, a185.off + 4, none⟩ = some (.int .i64 x190) ∧
        VIdx wants_12 lwants_12 i_183 5 fun a191 =>
        ∃ (a192 : Option Addr) (la192 ca192 : Nat), cellH h180 a191 = some (.slice a192 la192 ca192) ∧
        ∃ x193 : Int, cellH h180 ⟨a191.block, a191.off + 1, none⟩ = some (.int .i64 x193) ∧
        ∃ x194 : Int, cellH h180 ⟨a191.block, a191.off + 2, none⟩ = some (.int .i64 x194) ∧
        ∃ (a195 : Option Addr) (la195 ca195 : Nat), cellH h180 ⟨a191.block, a191.off + 3, none⟩ = some (.slice a195 la195 ca195) ∧
        ∃ x196 : Int, cellH h180 ⟨a191.block, a191.off + 4, none⟩ = some (.int .i64 x196) ∧
        CallsH Tryd.prog 42 #[.agg #[.slice a186 la186 ca186, .int .i64 x187, .int .i64 x188, .slice a189 la189 ca189, .int .i64 x190], .agg #[.slice a192 la192 ca192, .int .i64 x193, .int .i64 x194, .slice a195 la195 ca195, .int .i64 x196]] h180 fun v197 h198 =>
        ∃ b199 : Bool, v197 = .bool b199 ∧
        cond (!b199)
        (R (.bool false) h198)
        (∃ m184, m184 < n179 ∧ I178 m184 h198 y_182 (IntKind.i64.wrap (i_183 + 1))))
      (R (.bool true) h180)))
theorem vf10 (a0script : Option Addr) (la0script ca0script : Nat) (a1turns : Option Addr) (la1turns ca1turns : Nat) (h : Heap) (R : KV) (hF : F10 a0script la0script ca0script a1turns la1turns ca1turns h R) : CallsH Tryd.prog 10 #[.slice a0script la0script ca0script, .slice a1turns la1turns ca1turns] h R :=
  calls_of_vc (A := an10) (fn := Tryd.f10) (c := c10) (args := [.slice a0script la0script ca0script, .slice a1turns la1turns ca1turns]) Tryd.func10 (by kernel_rfl) mixed (by kernel_rfl) (Eq.mp (by kernel_rfl : F10 a0script la0script ca0script a1turns la1turns ca1turns h R = vcF Tryd.prog an10 Tryd.f10 c10 [.slice a0script la0script ca0script, .slice a1turns la1turns ca1turns] h R) hF)
/-! ### 34 (refrain/refrainlaw3.Book).bytes -/
noncomputable def c34 : Code := match Tryd.f34.body with | some c => c | none => .skip
noncomputable def an34 : Ann := { loops := fun i => [], draws := fun i => #[], joins := fun i => none }
def F34 (a0b : Option Addr) (a1l : Option Addr) (la1l ca1l : Nat) (h : Heap) (R : KV) : Prop :=
  CallsH Tryd.prog 62 #[.pointer a0b, .slice a1l la1l ca1l] h fun v1 h2 =>
  v1 = .tuple #[] ∧
  CallsH Tryd.prog 63 #[.pointer a0b] h2 fun v3 h4 =>
  v3 = .tuple #[] ∧
  R (.tuple #[]) h4
theorem vf34 (a0b : Option Addr) (a1l : Option Addr) (la1l ca1l : Nat) (h : Heap) (R : KV) (hF : F34 a0b a1l la1l ca1l h R) : CallsH Tryd.prog 34 #[.pointer a0b, .slice a1l la1l ca1l] h R :=
  calls_of_vc (A := an34) (fn := Tryd.f34) (c := c34) (args := [.pointer a0b, .slice a1l la1l ca1l]) Tryd.func34 (by kernel_rfl) mixed (by kernel_rfl) (Eq.mp (by kernel_rfl : F34 a0b a1l la1l ca1l h R = vcF Tryd.prog an34 Tryd.f34 c34 [.pointer a0b, .slice a1l la1l ca1l] h R) hF)
/-! ### 35 (refrain/refrainlaw3.Book).whole -/
noncomputable def c35 : Code := match Tryd.f35.body with | some c => c | none => .skip
noncomputable def an35 : Ann := { loops := fun i => match i with | 2 => [(2, .bool), (3, .int .i64)] | 5 => [(2, .bool), (4, .int .i64)] | 10 => [(2, .bool), (5, .int .i64)] | 13 => [(2, .bool), (6, .int .i64)] | 18 => [(2, .bool), (7, .int .i64)] | 21 => [(2, .bool), (8, .int .i64)] | _ => [], draws := fun i => match i with | 7 => #[0, 1, 3, 7, 0, 31, 63, 0, 255, 511, 0, 1024, 3072, 0, 15360, 32767] | 15 => #[0, 1, 3, 7, 0, 31, 63, 0, 255, 511, 0, 1024, 3072, 7168, 16383] | _ => #[], joins := fun i => none }
def F35 (a0b : Option Addr) (h : Heap) (R : KV) : Prop :=
  ∃ I1 : Nat → Heap → Bool → Int → Prop, (∃ n2, I1 n2 h false 0) ∧
  ∀ (n2 : Nat) (h3 : Heap) (g4 : Env) (y_5 : Bool) (i_6 : Int), I1 n2 h3 y_5 i_6 →
  VSome a0b fun a8 =>
  ∃ (a9 : Option Addr) (la9 ca9 : Nat), cellH h3 a8 = some (.slice a9 la9 ca9) ∧
  cond (decide (i_6 < (la9 : Int)))
  (∃ I10 : Nat → Heap → Bool → Int → Prop, (∃ n11, I10 n11 h3 y_5 0) ∧
    ∀ (n11 : Nat) (h12 : Heap) (g13 : Env) (y_14 : Bool) (j_15 : Int), I10 n11 h12 y_14 j_15 →
    VSome a0b fun a17 =>
    ∃ (a18 : Option Addr) (la18 ca18 : Nat), cellH h12 a17 = some (.slice a18 la18 ca18) ∧
    VIdx a18 la18 i_6 1 fun a19 =>
    ∃ (a20 : Option Addr) (la20 ca20 : Nat), cellH h12 a19 = some (.slice a20 la20 ca20) ∧
    cond (decide (j_15 < (la20 : Int)))
    (VSome a0b fun a21 =>
      ∃ (a22 : Option Addr) (la22 ca22 : Nat), cellH h12 a21 = some (.slice a22 la22 ca22) ∧
      VIdx a22 la22 i_6 1 fun a23 =>
      ∃ (a24 : Option Addr) (la24 ca24 : Nat), cellH h12 a23 = some (.slice a24 la24 ca24) ∧
      VIdx a24 la24 j_15 1 fun a25 =>
      ∃ x26 : Int, cellH h12 a25 = some (.int .u8 x26) ∧
      (2 : Int) ≠ (0 : Int) ∧
      CallsH Tryd.prog 64 #[.int .i64 (IntKind.i64.wrap (1 + (IntKind.i64.wrap (Int.tdiv i_6 2)))), .int .i64 j_15] h12 fun v27 h28 =>
      ∃ x29 : Int, v27 = .int .u8 x29 ∧
      (cellH h28 a25 = some (.int .u8 x26)) ∧
      (cellH h28 a23 = some (.slice a24 la24 ca24)) ∧
      (cellH h28 a21 = some (.slice a22 la22 ca22)) ∧
      cond (x26 != x29)
      (R (.bool false) h28)
      (∃ m16, m16 < n11 ∧ I10 m16 h28 y_14 (IntKind.i64.wrap (j_15 + 1))))
    (∃ m7, m7 < n2 ∧ I1 m7 h12 y_14 (IntKind.i64.wrap (i_6 + 1))))
  (∃ I30 : Nat → Heap → Bool → Int → Prop, (∃ n31, I30 n31 h3 y_5 0) ∧
    ∀ (n31 : Nat) (h32 : Heap) (g33 : Env) (y_34 : Bool) (i_35 : Int), I30 n31 h32 y_34 i_35 →
    VSome a0b fun a37 =>
    ∃ (a38 : Option Addr) (la38 ca38 : Nat), cellH h32 ⟨a37.block, a37.off + 1, none⟩ = some (.slice a38 la38 ca38) ∧
    cond (decide (i_35 < (la38 : Int)))
    (∃ I39 : Nat → Heap → Bool → Int → Prop, (∃ n40, I39 n40 h32 y_34 0) ∧
      ∀ (n40 : Nat) (h41 : Heap) (g42 : Env) (y_43 : Bool) (j_44 : Int), I39 n40 h41 y_43 j_44 →
      VSome a0b fun a46 =>
      ∃ (a47 : Option Addr) (la47 ca47 : Nat), cellH h41 ⟨a46.block, a46.off + 1, none⟩ = some (.slice a47 la47 ca47) ∧
      VIdx a47 la47 i_35 1 fun a48 =>
      ∃ (a49 : Option Addr) (la49 ca49 : Nat), cellH h41 a48 = some (.slice a49 la49 ca49) ∧
      cond (decide (j_44 < (la49 : Int)))
      (VSome a0b fun a50 =>
        ∃ (a51 : Option Addr) (la51 ca51 : Nat), cellH h41 ⟨a50.block, a50.off + 1, none⟩ = some (.slice a51 la51 ca51) ∧
        VIdx a51 la51 i_35 1 fun a52 =>
        ∃ (a53 : Option Addr) (la53 ca53 : Nat), cellH h41 a52 = some (.slice a53 la53 ca53) ∧
        VIdx a53 la53 j_44 4 fun a54 =>
        ∃ x55 : Int, cellH h41 a54 = some (.int .i64 x55) ∧
        ∃ x56 : Int, cellH h41 ⟨a54.block, a54.off + 1, none⟩ = some (.int .i64 x56) ∧
        ∃ s57 : ByteArray, cellH h41 ⟨a54.block, a54.off + 2, none⟩ = some (.string s57) ∧
        ∃ b58 : Bool, cellH h41 ⟨a54.block, a54.off + 3, none⟩ = some (.bool b58) ∧
        (2 : Int) ≠ (0 : Int) ∧
        CallsH Tryd.prog 65 #[.int .i64 (IntKind.i64.wrap (1 + (IntKind.i64.wrap (Int.tdiv i_35 2))))] h41 fun v59 h60 =>
        ∃ x61 : Int, ∃ x62 : Int, ∃ s63 : ByteArray, ∃ b64 : Bool, v59 = .agg #[.int .i64 x61, .int .i64 x62, .string s63, .bool b64] ∧
        (cellH h60 a54 = some (.int .i64 x55) ∧ cellH h60 ⟨a54.block, a54.off + 1, none⟩ = some (.int .i64 x56) ∧ cellH h60 ⟨a54.block, a54.off + 2, none⟩ = some (.string s57) ∧ cellH h60 ⟨a54.block, a54.off + 3, none⟩ = some (.bool b58)) ∧
        (cellH h60 a52 = some (.slice a53 la53 ca53)) ∧
        (cellH h60 ⟨a50.block, a50.off + 1, none⟩ = some (.slice a51 la51 ca51)) ∧
        PureTo Tryd.prog (do eqGuard .neq 83 (.tmp 77) (.tmp 81) (.agg #[.int .i64 x55, .int .i64 x56, .string s57, .bool b58]) (.agg #[.int .i64 x61, .int .i64 x62, .string s63, .bool b64]); binOp .neq 83 (.agg #[.int .i64 x55, .int .i64 x56, .string s57, .bool b58]) (.agg #[.int .i64 x61, .int .i64 x62, .string s63, .bool b64])) fun v65 =>
        ∃ b66 : Bool, v65 = .bool b66 ∧
        cond b66
        (R (.bool false) h60)
        (∃ m45, m45 < n40 ∧ I39 m45 h60 y_43 (IntKind.i64.wrap (j_44 + 1))))
      (∃ m36, m36 < n31 ∧ I30 m36 h41 y_43 (IntKind.i64.wrap (i_35 + 1))))
    (∃ I67 : Nat → Heap → Bool → Int → Prop, (∃ n68, I67 n68 h32 y_34 0) ∧
      ∀ (n68 : Nat) (h69 : Heap) (g70 : Env) (y_71 : Bool) (i_72 : Int), I67 n68 h69 y_71 i_72 →
      VSome a0b fun a74 =>
      ∃ (a75 : Option Addr) (la75 ca75 : Nat), cellH h69 ⟨a74.block, a74.off + 2, none⟩ = some (.slice a75 la75 ca75) ∧
      cond (decide (i_72 < (la75 : Int)))
      (∃ I76 : Nat → Heap → Bool → Int → Prop, (∃ n77, I76 n77 h69 y_71 0) ∧
        ∀ (n77 : Nat) (h78 : Heap) (g79 : Env) (y_80 : Bool) (j_81 : Int), I76 n77 h78 y_80 j_81 →
        VSome a0b fun a83 =>
        ∃ (a84 : Option Addr) (la84 ca84 : Nat), cellH h78 ⟨a83.block, a83.off + 2, none⟩ = some (.slice a84 la84 ca84) ∧
        VIdx a84 la84 i_72 1 fun a85 =>
        ∃ (a86 : Option Addr) (la86 ca86 : Nat), cellH h78 a85 = some (.slice a86 la86 ca86) ∧
        cond (decide (j_81 < (la86 : Int)))
        (VSome a0b fun a87 =>
          ∃ (a88 : Option Addr) (la88 ca88 : Nat), cellH h78 ⟨a87.block, a87.off + 2, none⟩ = some (.slice a88 la88 ca88) ∧
          VIdx a88 la88 i_72 1 fun a89 =>
          ∃ (a90 : Option Addr) (la90 ca90 : Nat), cellH h78 a89 = some (.slice a90 la90 ca90) ∧
          VIdx a90 la90 j_81 3 fun a91 =>
          ∃ s92 : ByteArray, cellH h78 a91 = some (.string s92) ∧
          ∃ x93 : Int, cellH h78 ⟨a91.block, a91.off + 1, none⟩ = some (.int .i64 x93) ∧
          ∃ (a94 : Option Addr) (la94 ca94 : Nat), cellH h78 ⟨a91.block, a91.off + 2, none⟩ = some (.slice a94 la94 ca94) ∧
          VNew h78 (.cells #[.string (ByteArray.mk #[]), .int .i64 0, .slice none 0 0] 27) fun b95 h96 =>
          storeL ⟨b95, 0, none⟩ 0 [.string s92, .int .i64 x93, .slice a94 la94 ca94] h96 fun h97 =>
          ∃ s98 : ByteArray, cellH h97 ⟨b95, 0, none⟩ = some (.string s98) ∧
          cond (!strEq s98 (ByteArray.mk #[])) (R (.bool false) h97) (∃ x99 : Int, cellH h97 ⟨b95, 1, none⟩ = some (.int .i64 x99) ∧
            (2 : Int) ≠ (0 : Int) ∧
            cond (x99 != (IntKind.i64.wrap (1 + (IntKind.i64.wrap (Int.tdiv i_72 2))))) (R (.bool false) h97) (∃ (a100 : Option Addr) (la100 ca100 : Nat), cellH h97 ⟨b95, 2, none⟩ = some (.slice a100 la100 ca100) ∧
              cond ((la100 : Int) != (0 : Int))
              (R (.bool false) h97)
              (∃ m82, m82 < n77 ∧ I76 m82 h97 y_80 (IntKind.i64.wrap (j_81 + 1))))))
        (∃ m73, m73 < n68 ∧ I67 m73 h78 y_80 (IntKind.i64.wrap (i_72 + 1))))
      (R (.bool true) h69)))
theorem vf35 (a0b : Option Addr) (h : Heap) (R : KV) (hF : F35 a0b h R) : CallsH Tryd.prog 35 #[.pointer a0b] h R :=
  calls_of_vc (A := an35) (fn := Tryd.f35) (c := c35) (args := [.pointer a0b]) Tryd.func35 (by kernel_rfl) mixed (by kernel_rfl) (Eq.mp (by kernel_rfl : F35 a0b h R = vcF Tryd.prog an35 Tryd.f35 c35 [.pointer a0b] h R) hF)
/-! ### 36 (refrain/refrainlaw3.Book).events -/
noncomputable def c36 : Code := match Tryd.f36.body with | some c => c | none => .skip
noncomputable def an36 : Ann := { loops := fun i => [], draws := fun i => #[], joins := fun i => none }
def F36 (a0b : Option Addr) (a1l : Option Addr) (la1l ca1l : Nat) (h : Heap) (R : KV) : Prop :=
  CallsH Tryd.prog 66 #[.pointer a0b, .slice a1l la1l ca1l] h fun v1 h2 =>
  v1 = .tuple #[] ∧
  CallsH Tryd.prog 63 #[.pointer a0b] h2 fun v3 h4 =>
  v3 = .tuple #[] ∧
  R (.tuple #[]) h4
theorem vf36 (a0b : Option Addr) (a1l : Option Addr) (la1l ca1l : Nat) (h : Heap) (R : KV) (hF : F36 a0b a1l la1l ca1l h R) : CallsH Tryd.prog 36 #[.pointer a0b, .slice a1l la1l ca1l] h R :=
  calls_of_vc (A := an36) (fn := Tryd.f36) (c := c36) (args := [.pointer a0b, .slice a1l la1l ca1l]) Tryd.func36 (by kernel_rfl) mixed (by kernel_rfl) (Eq.mp (by kernel_rfl : F36 a0b a1l la1l ca1l h R = vcF Tryd.prog an36 Tryd.f36 c36 [.pointer a0b, .slice a1l la1l ca1l] h R) hF)
/-! ### 37 refrain/refrainlaw3.untouched -/
noncomputable def c37 : Code := match Tryd.f37.body with | some c => c | none => .skip
noncomputable def an37 : Ann := { loops := fun i => match i with | 3 => [(8, .int .i64)] | 8 => [(11, .int .i64)] | 13 => [(14, .int .i64)] | 21 => [(6, .bool), (20, .int .i64)] | _ => [], draws := fun i => #[], joins := fun i => none }
def F37 (a0es : Option Addr) (la0es ca0es : Nat) (a1ns : Option Addr) (la1ns ca1ns : Nat) (a2raws : Option Addr) (la2raws ca2raws : Nat) (h : Heap) (R : KV) : Prop :=
  VNew h (.cells #[.slice none 0 0, .slice none 0 0, .slice none 0 0, .slice none 0 0, .int .i64 0] 109) fun b1 h2 =>
  ∃ I3 : Nat → Heap → Int → Prop, (∃ n4, I3 n4 h2 0) ∧
  ∀ (n4 : Nat) (h5 : Heap) (g6 : Env) (i_7 : Int), I3 n4 h5 i_7 →
  cond (decide (i_7 < (IntKind.i64.wrap (2 * (la1ns : Int)))))
  ((2 : Int) ≠ (0 : Int) ∧
    VIdx a1ns la1ns (IntKind.i64.wrap (Int.tdiv i_7 2)) 1 fun a9 =>
    ∃ x10 : Int, cellH h5 a9 = some (.int .i64 x10) ∧
    CallsH Tryd.prog 21 #[.int .i64 x10] h5 fun v11 h12 =>
    ∃ (a13 : Option Addr) (la13 ca13 : Nat), v11 = .slice a13 la13 ca13 ∧
    CallsH Tryd.prog 67 #[.pointer (some ⟨b1, 0, none⟩), .slice a13 la13 ca13] h12 fun v14 h15 =>
    v14 = .tuple #[] ∧
    ∃ m8, m8 < n4 ∧ I3 m8 h15 (IntKind.i64.wrap (i_7 + 1)))
  (CallsH Tryd.prog 27 #[.slice a0es la0es ca0es] h5 fun v16 h17 =>
    ∃ (a18 : Option Addr) (la18 ca18 : Nat), ∃ (a19 : Option Addr) (la19 ca19 : Nat), v16 = .tuple #[.slice a18 la18 ca18, .slice a19 la19 ca19] ∧
    ∃ I20 : Nat → Heap → Int → Prop, (∃ n21, I20 n21 h17 0) ∧
    ∀ (n21 : Nat) (h22 : Heap) (g23 : Env) (i_24 : Int), I20 n21 h22 i_24 →
    cond (decide (i_24 < (IntKind.i64.wrap (2 * (la0es : Int)))))
    ((2 : Int) ≠ (0 : Int) ∧
      VIdx a18 la18 (IntKind.i64.wrap (Int.tdiv i_24 2)) 3 fun a26 =>
      ∃ s27 : ByteArray, cellH h22 a26 = some (.string s27) ∧
      ∃ x28 : Int, cellH h22 ⟨a26.block, a26.off + 1, none⟩ = some (.int .i64 x28) ∧
      ∃ (a29 : Option Addr) (la29 ca29 : Nat), cellH h22 ⟨a26.block, a26.off + 2, none⟩ = some (.slice a29 la29 ca29) ∧
      CallsH Tryd.prog 13 #[.agg #[.string s27, .int .i64 x28, .slice a29 la29 ca29]] h22 fun v30 h31 =>
      ∃ (a32 : Option Addr) (la32 ca32 : Nat), ∃ x33 : Int, v30 = .tuple #[.slice a32 la32 ca32, .int .i64 x33] ∧
      CallsH Tryd.prog 67 #[.pointer (some ⟨b1, 0, none⟩), .slice a32 la32 ca32] h31 fun v34 h35 =>
      v34 = .tuple #[] ∧
      ∃ m25, m25 < n21 ∧ I20 m25 h35 (IntKind.i64.wrap (i_24 + 1)))
    (∃ I36 : Nat → Heap → Int → Prop, (∃ n37, I36 n37 h22 0) ∧
      ∀ (n37 : Nat) (h38 : Heap) (g39 : Env) (i_40 : Int), I36 n37 h38 i_40 →
      cond (decide (i_40 < (2 : Int)))
      (VSlice 3 a18 ca18 0 (la0es : Int) (ca18 : Int) fun a42 la42 ca42 =>
        CallsH Tryd.prog 28 #[.slice a42 la42 ca42] h38 fun v43 h44 =>
        ∃ (a45 : Option Addr) (la45 ca45 : Nat), ∃ x46 : Int, v43 = .tuple #[.slice a45 la45 ca45, .int .i64 x46] ∧
        CallsH Tryd.prog 67 #[.pointer (some ⟨b1, 0, none⟩), .slice a45 la45 ca45] h44 fun v47 h48 =>
        v47 = .tuple #[] ∧
        ∃ m41, m41 < n37 ∧ I36 m41 h48 (IntKind.i64.wrap (i_40 + 1)))
      (VSlice 3 a18 ca18 0 (la0es : Int) (ca18 : Int) fun a49 la49 ca49 =>
        CallsH Tryd.prog 28 #[.slice a49 la49 ca49] h38 fun v50 h51 =>
        ∃ (a52 : Option Addr) (la52 ca52 : Nat), ∃ x53 : Int, v50 = .tuple #[.slice a52 la52 ca52, .int .i64 x53] ∧
        RunsTo Tryd.prog (Builtin.append_ #[23, 23] 23 #[.slice none 0 0, .slice a2raws la2raws ca2raws]) h51 fun v54 h55 =>
        ∃ (a56 : Option Addr) (la56 ca56 : Nat), v54 = .slice a56 la56 ca56 ∧
        RunsTo Tryd.prog (Builtin.append_ #[30, 30] 30 #[.slice none 0 0, .slice a52 la52 ca52]) h55 fun v57 h58 =>
        ∃ (a59 : Option Addr) (la59 ca59 : Nat), v57 = .slice a59 la59 ca59 ∧
        VNew h58 (.cells #[.slice a59 la59 ca59] 30) fun b60 h61 =>
        RunsTo Tryd.prog (Builtin.append_ #[23, 23] 23 #[.slice a56 la56 ca56, .slice (some ⟨b60, 0, none⟩) 1 1]) h61 fun v62 h63 =>
        ∃ (a64 : Option Addr) (la64 ca64 : Nat), v62 = .slice a64 la64 ca64 ∧
        ∃ I65 : Nat → Heap → Bool → Int → Prop, (∃ n66, I65 n66 h63 false 0) ∧
        ∀ (n66 : Nat) (h67 : Heap) (g68 : Env) (y_69 : Bool) (i_70 : Int), I65 n66 h67 y_69 i_70 →
        cond (decide (i_70 < (IntKind.i64.wrap (2 * (la64 : Int)))))
        ((2 : Int) ≠ (0 : Int) ∧
          VIdx a64 la64 (IntKind.i64.wrap (Int.tdiv i_70 2)) 1 fun a72 =>
          ∃ (a73 : Option Addr) (la73 ca73 : Nat), cellH h67 a72 = some (.slice a73 la73 ca73) ∧
          CallsH Tryd.prog 17 #[.slice a73 la73 ca73] h67 fun v74 h75 =>
          ∃ (a76 : Option Addr) (la76 ca76 : Nat), v74 = .slice a76 la76 ca76 ∧
          (2 : Int) ≠ (0 : Int) ∧
          VIdx a64 la64 (IntKind.i64.wrap (Int.tdiv i_70 2)) 1 fun a77 =>
          ∃ (a78 : Option Addr) (la78 ca78 : Nat), cellH h75 a77 = some (.slice a78 la78 ca78) ∧
          VSlice 1 a76 ca76 0 (la78 : Int) (ca76 : Int) fun a79 la79 ca79 =>
          CallsH Tryd.prog 31 #[.slice a79 la79 ca79] h75 fun v80 h81 =>
          ∃ (a82 : Option Addr) (la82 ca82 : Nat), ∃ x83 : Int, v80 = .tuple #[.slice a82 la82 ca82, .int .i64 x83] ∧
          (2 : Int) ≠ (0 : Int) ∧
          VIdx a64 la64 (IntKind.i64.wrap (Int.tdiv i_70 2)) 1 fun a84 =>
          ∃ (a85 : Option Addr) (la85 ca85 : Nat), cellH h81 a84 = some (.slice a85 la85 ca85) ∧
          VSlice 1 a76 ca76 0 (la85 : Int) (ca76 : Int) fun a86 la86 ca86 =>
          CallsH Tryd.prog 18 #[.slice a86 la86 ca86] h81 fun v87 h88 =>
          ∃ s89 : ByteArray, ∃ x90 : Int, ∃ (a91 : Option Addr) (la91 ca91 : Nat), ∃ x92 : Int, ∃ x93 : Int, v87 = .tuple #[.agg #[.string s89, .int .i64 x90, .slice a91 la91 ca91], .int .i64 x92, .int .i64 x93] ∧
          VNew h88 (.cells #[.string (ByteArray.mk #[]), .int .i64 0, .slice none 0 0] 27) fun b94 h95 =>
          storeL ⟨b94, 0, none⟩ 0 [.string s89, .int .i64 x90, .slice a91 la91 ca91] h95 fun h96 =>
          (2 : Int) ≠ (0 : Int) ∧
          VIdx a64 la64 (IntKind.i64.wrap (Int.tdiv i_70 2)) 1 fun a97 =>
          ∃ (a98 : Option Addr) (la98 ca98 : Nat), cellH h96 a97 = some (.slice a98 la98 ca98) ∧
          CallsH Tryd.prog 17 #[.slice a98 la98 ca98] h96 fun v99 h100 =>
          ∃ (a101 : Option Addr) (la101 ca101 : Nat), v99 = .slice a101 la101 ca101 ∧
          CallsH Tryd.prog 15 #[.slice a76 la76 ca76, .slice a101 la101 ca101] h100 fun v102 h103 =>
          ∃ b104 : Bool, v102 = .bool b104 ∧
          cond (!b104)
          (R (.bool false) h103)
          (CallsH Tryd.prog 68 #[.pointer (some ⟨b1, 0, none⟩), .slice a82 la82 ca82] h103 fun v105 h106 =>
            v105 = .tuple #[] ∧
            ∃ s107 : ByteArray, cellH h106 ⟨b94, 0, none⟩ = some (.string s107) ∧
            ∃ x108 : Int, cellH h106 ⟨b94, 1, none⟩ = some (.int .i64 x108) ∧
            ∃ (a109 : Option Addr) (la109 ca109 : Nat), cellH h106 ⟨b94, 2, none⟩ = some (.slice a109 la109 ca109) ∧
            VNew h106 (.cells #[.string s107, .int .i64 x108, .slice a109 la109 ca109] 27) fun b110 h111 =>
            CallsH Tryd.prog 68 #[.pointer (some ⟨b1, 0, none⟩), .slice (some ⟨b110, 0, none⟩) 1 1] h111 fun v112 h113 =>
            v112 = .tuple #[] ∧
            ∃ m71, m71 < n66 ∧ I65 m71 h113 y_69 (IntKind.i64.wrap (i_70 + 1))))
        (CallsH Tryd.prog 30 #[.slice a18 la18 ca18, .slice a19 la19 ca19, .slice a0es la0es ca0es] h67 fun v114 h115 =>
          ∃ b116 : Bool, v114 = .bool b116 ∧
          cond b116 (CallsH Tryd.prog 69 #[.pointer (some ⟨b1, 0, none⟩)] h115 fun v117 h118 =>
            ∃ b119 : Bool, v117 = .bool b119 ∧
            R (.bool b119) h118) (R (.bool false) h115)))))
theorem vf37 (a0es : Option Addr) (la0es ca0es : Nat) (a1ns : Option Addr) (la1ns ca1ns : Nat) (a2raws : Option Addr) (la2raws ca2raws : Nat) (h : Heap) (R : KV) (hF : F37 a0es la0es ca0es a1ns la1ns ca1ns a2raws la2raws ca2raws h R) : CallsH Tryd.prog 37 #[.slice a0es la0es ca0es, .slice a1ns la1ns ca1ns, .slice a2raws la2raws ca2raws] h R :=
  calls_of_vc (A := an37) (fn := Tryd.f37) (c := c37) (args := [.slice a0es la0es ca0es, .slice a1ns la1ns ca1ns, .slice a2raws la2raws ca2raws]) Tryd.func37 (by kernel_rfl) mixed (by kernel_rfl) (Eq.mp (by kernel_rfl : F37 a0es la0es ca0es a1ns la1ns ca1ns a2raws la2raws ca2raws h R = vcF Tryd.prog an37 Tryd.f37 c37 [.slice a0es la0es ca0es, .slice a1ns la1ns ca1ns, .slice a2raws la2raws ca2raws] h R) hF)
/-! ### 38 refrain/refrainlaw3.other -/
noncomputable def c38 : Code := match Tryd.f38.body with | some c => c | none => .skip
noncomputable def an38 : Ann := { loops := fun i => [], draws := fun i => match i with | 8 => #[0, 1, 0, 0, 8, 24, 60, 0, 128, 0, 0, 1024, 3072, 7680, 16256, 32640, 0, 65536, 196608, 458752, 1048448, 2097151, 4194303] | 12 => #[0, 1, 0, 0, 8, 24, 60, 0, 128, 0, 0, 1024, 3072, 7680, 16256, 32640, 0, 65536, 262016, 524287, 1048575] | _ => #[], joins := fun i => match i with | 3 => some [(1, .int .i64)] | 5 => some [] | 17 => some [] | _ => none }
def F38 (a0o_0 : Int) (a0o_1 : Int) (a0o_2 : Option Addr) (la0o_2 ca0o_2 : Nat) (a0o_3 : ByteArray) (a0o_4 : Int) (a0o_5 : Option Addr) (la0o_5 ca0o_5 : Nat) (a0o_6 : Option Addr) (la0o_6 ca0o_6 : Nat) (a1k : Int) (h : Heap) (R : KV) : Prop :=
  VNew h (.cells #[.int .i64 a0o_0, .int .i64 a0o_1, .slice a0o_2 la0o_2 ca0o_2, .string a0o_3, .int .i64 a0o_4, .slice a0o_5 la0o_5 ca0o_5, .slice a0o_6 la0o_6 ca0o_6] 71) fun b1 h2 =>
  VNew h2 (.cells #[.int .i64 0, .int .i64 0, .slice none 0 0, .string (ByteArray.mk #[]), .int .i64 0, .slice none 0 0, .slice none 0 0] 71) fun b3 h4 =>
  ∃ J5 : Heap → Int → Prop, (cond (decide (a1k < (0 : Int)))
    (J5 h4 (IntKind.i64.wrap (0 - (IntKind.i64.wrap (a1k + 1)))))
    (J5 h4 a1k)) ∧
  ∀ (h6 : Heap) (g7 : Env) (k_8 : Int), J5 h6 k_8 →
  ∃ J9 : Heap → Prop, ((2 : Int) ≠ (0 : Int) ∧
    cond ((Int.tmod k_8 2) == (1 : Int))
    (∃ x10 : Int, cellH h6 ⟨b1, 0, none⟩ = some (.int .i64 x10) ∧
      ∃ x11 : Int, cellH h6 ⟨b1, 1, none⟩ = some (.int .i64 x11) ∧
      ∃ (a12 : Option Addr) (la12 ca12 : Nat), cellH h6 ⟨b1, 2, none⟩ = some (.slice a12 la12 ca12) ∧
      ∃ s13 : ByteArray, cellH h6 ⟨b1, 3, none⟩ = some (.string s13) ∧
      ∃ x14 : Int, cellH h6 ⟨b1, 4, none⟩ = some (.int .i64 x14) ∧
      ∃ (a15 : Option Addr) (la15 ca15 : Nat), cellH h6 ⟨b1, 5, none⟩ = some (.slice a15 la15 ca15) ∧
      ∃ (a16 : Option Addr) (la16 ca16 : Nat), cellH h6 ⟨b1, 6, none⟩ = some (.slice a16 la16 ca16) ∧
      CallsH Tryd.prog 39 #[.agg #[.int .i64 x10, .int .i64 x11, .slice a12 la12 ca12, .string s13, .int .i64 x14, .slice a15 la15 ca15, .slice a16 la16 ca16]] h6 fun v17 h18 =>
      ∃ x19 : Int, ∃ x20 : Int, ∃ (a21 : Option Addr) (la21 ca21 : Nat), ∃ s22 : ByteArray, ∃ x23 : Int, ∃ (a24 : Option Addr) (la24 ca24 : Nat), ∃ (a25 : Option Addr) (la25 ca25 : Nat), v17 = .agg #[.int .i64 x19, .int .i64 x20, .slice a21 la21 ca21, .string s22, .int .i64 x23, .slice a24 la24 ca24, .slice a25 la25 ca25] ∧
      storeL ⟨b1, 0, none⟩ 0 [.int .i64 x19, .int .i64 x20, .slice a21 la21 ca21, .string s22, .int .i64 x23, .slice a24 la24 ca24, .slice a25 la25 ca25] h18 fun h26 =>
      J9 h26)
    (J9 h6)) ∧
  ∀ (h27 : Heap) (g28 : Env), J9 h27 →
  (2 : Int) ≠ (0 : Int) ∧
  (5 : Int) ≠ (0 : Int) ∧
  (10 : Int) ≠ (0 : Int) ∧
  ∃ J29 : Heap → Prop, (cond ((Int.tmod (IntKind.i64.wrap (Int.tdiv k_8 2)) 5) == (0 : Int)) (∃ (a30 : Option Addr) (la30 ca30 : Nat), cellH h27 ⟨b1, 2, none⟩ = some (.slice a30 la30 ca30) ∧
      cond (decide ((la30 : Int) > (0 : Int)))
      (∃ (a31 : Option Addr) (la31 ca31 : Nat), cellH h27 ⟨b1, 2, none⟩ = some (.slice a31 la31 ca31) ∧
        ∃ (a32 : Option Addr) (la32 ca32 : Nat), cellH h27 ⟨b1, 2, none⟩ = some (.slice a32 la32 ca32) ∧
        (la32 : Int) ≠ (0 : Int) ∧
        ∃ (a33 : Option Addr) (la33 ca33 : Nat), cellH h27 ⟨b1, 2, none⟩ = some (.slice a33 la33 ca33) ∧
        ∃ (a34 : Option Addr) (la34 ca34 : Nat), cellH h27 ⟨b1, 2, none⟩ = some (.slice a34 la34 ca34) ∧
        (la34 : Int) ≠ (0 : Int) ∧
        VIdx a33 la33 (Int.tmod (IntKind.i64.wrap (Int.tdiv k_8 10)) (la34 : Int)) 1 fun a35 =>
        ∃ x36 : Int, cellH h27 a35 = some (.int .u8 x36) ∧
        (255 : Int) ≠ (0 : Int) ∧
        VIdx a31 la31 (Int.tmod (IntKind.i64.wrap (Int.tdiv k_8 10)) (la32 : Int)) 1 fun a37 =>
        VStore h27 a37 (.int .u8 (bitsOp .xor .u8 x36 (IntKind.u8.wrap (IntKind.i64.wrap (1 + (Int.tmod (IntKind.i64.wrap (Int.tdiv k_8 10)) 255)))))) fun h38 =>
        J29 h38)
      (cond ((Int.tmod (IntKind.i64.wrap (Int.tdiv k_8 2)) 5) == (1 : Int))
        (∃ s39 : ByteArray, cellH h27 ⟨b1, 3, none⟩ = some (.string s39) ∧
          ∃ x40 : Int, cellH h27 ⟨b1, 4, none⟩ = some (.int .i64 x40) ∧
          ∃ (a41 : Option Addr) (la41 ca41 : Nat), cellH h27 ⟨b1, 5, none⟩ = some (.slice a41 la41 ca41) ∧
          CallsH Tryd.prog 70 #[.agg #[.string s39, .int .i64 x40, .slice a41 la41 ca41], .int .i64 (IntKind.i64.wrap (Int.tdiv k_8 10))] h27 fun v42 h43 =>
          ∃ s44 : ByteArray, ∃ x45 : Int, ∃ (a46 : Option Addr) (la46 ca46 : Nat), v42 = .agg #[.string s44, .int .i64 x45, .slice a46 la46 ca46] ∧
          storeL ⟨b1, 3, none⟩ 0 [.string s44, .int .i64 x45, .slice a46 la46 ca46] h43 fun h47 =>
          J29 h47)
        (cond ((Int.tmod (IntKind.i64.wrap (Int.tdiv k_8 2)) 5) == (2 : Int)) (∃ (a48 : Option Addr) (la48 ca48 : Nat), cellH h27 ⟨b1, 6, none⟩ = some (.slice a48 la48 ca48) ∧
            cond (decide ((la48 : Int) > (0 : Int)))
            (∃ (a49 : Option Addr) (la49 ca49 : Nat), cellH h27 ⟨b1, 6, none⟩ = some (.slice a49 la49 ca49) ∧
              ∃ (a50 : Option Addr) (la50 ca50 : Nat), cellH h27 ⟨b1, 6, none⟩ = some (.slice a50 la50 ca50) ∧
              (la50 : Int) ≠ (0 : Int) ∧
              ∃ (a51 : Option Addr) (la51 ca51 : Nat), cellH h27 ⟨b1, 6, none⟩ = some (.slice a51 la51 ca51) ∧
              ∃ (a52 : Option Addr) (la52 ca52 : Nat), cellH h27 ⟨b1, 6, none⟩ = some (.slice a52 la52 ca52) ∧
              (la52 : Int) ≠ (0 : Int) ∧
              VIdx a51 la51 (Int.tmod (IntKind.i64.wrap (Int.tdiv k_8 10)) (la52 : Int)) 3 fun a53 =>
              ∃ s54 : ByteArray, cellH h27 a53 = some (.string s54) ∧
              ∃ x55 : Int, cellH h27 ⟨a53.block, a53.off + 1, none⟩ = some (.int .i64 x55) ∧
              ∃ (a56 : Option Addr) (la56 ca56 : Nat), cellH h27 ⟨a53.block, a53.off + 2, none⟩ = some (.slice a56 la56 ca56) ∧
              (7 : Int) ≠ (0 : Int) ∧
              CallsH Tryd.prog 70 #[.agg #[.string s54, .int .i64 x55, .slice a56 la56 ca56], .int .i64 (IntKind.i64.wrap (Int.tdiv (IntKind.i64.wrap (Int.tdiv k_8 10)) 7))] h27 fun v57 h58 =>
              ∃ s59 : ByteArray, ∃ x60 : Int, ∃ (a61 : Option Addr) (la61 ca61 : Nat), v57 = .agg #[.string s59, .int .i64 x60, .slice a61 la61 ca61] ∧
              (cellH h58 ⟨b1, 6, none⟩ = some (.slice a50 la50 ca50)) ∧
              (cellH h58 ⟨b1, 6, none⟩ = some (.slice a49 la49 ca49)) ∧
              VIdx a49 la49 (Int.tmod (IntKind.i64.wrap (Int.tdiv k_8 10)) (la50 : Int)) 3 fun a62 =>
              storeL a62 0 [.string s59, .int .i64 x60, .slice a61 la61 ca61] h58 fun h63 =>
              J29 h63)
            (cond ((Int.tmod (IntKind.i64.wrap (Int.tdiv k_8 2)) 5) == (3 : Int))
              (∃ x64 : Int, cellH h27 ⟨b1, 1, none⟩ = some (.int .i64 x64) ∧
                (300 : Int) ≠ (0 : Int) ∧
                VStore h27 ⟨b1, 1, none⟩ (.int .i64 (bitsOp .xor .i64 x64 (IntKind.i64.wrap (1 + (Int.tmod (IntKind.i64.wrap (Int.tdiv k_8 10)) 300))))) fun h65 =>
                J29 h65)
              (cond ((Int.tmod (IntKind.i64.wrap (Int.tdiv k_8 2)) 5) == (4 : Int)) (∃ x66 : Int, cellH h27 ⟨b1, 0, none⟩ = some (.int .i64 x66) ∧
                  (2 : Int) ≠ (0 : Int) ∧
                  cond ((Int.tmod x66 2) == (0 : Int))
                  ((3 : Int) ≠ (0 : Int) ∧
                    PureTo Tryd.prog (Instr.index 61 (.agg #[.int .i64 2, .int .i64 4, .int .i64 6]) (.int .i64 (Int.tmod (IntKind.i64.wrap (Int.tdiv k_8 10)) 3))) fun v67 =>
                    ∃ x68 : Int, v67 = .int .i64 x68 ∧
                    VStore h27 ⟨b1, 0, none⟩ (.int .i64 x68) fun h69 =>
                    J29 h69)
                  (J29 h27)) (J29 h27)))) (cond ((Int.tmod (IntKind.i64.wrap (Int.tdiv k_8 2)) 5) == (3 : Int))
            (∃ x70 : Int, cellH h27 ⟨b1, 1, none⟩ = some (.int .i64 x70) ∧
              (300 : Int) ≠ (0 : Int) ∧
              VStore h27 ⟨b1, 1, none⟩ (.int .i64 (bitsOp .xor .i64 x70 (IntKind.i64.wrap (1 + (Int.tmod (IntKind.i64.wrap (Int.tdiv k_8 10)) 300))))) fun h71 =>
              J29 h71)
            (cond ((Int.tmod (IntKind.i64.wrap (Int.tdiv k_8 2)) 5) == (4 : Int)) (∃ x72 : Int, cellH h27 ⟨b1, 0, none⟩ = some (.int .i64 x72) ∧
                (2 : Int) ≠ (0 : Int) ∧
                cond ((Int.tmod x72 2) == (0 : Int))
                ((3 : Int) ≠ (0 : Int) ∧
                  PureTo Tryd.prog (Instr.index 61 (.agg #[.int .i64 2, .int .i64 4, .int .i64 6]) (.int .i64 (Int.tmod (IntKind.i64.wrap (Int.tdiv k_8 10)) 3))) fun v73 =>
                  ∃ x74 : Int, v73 = .int .i64 x74 ∧
                  VStore h27 ⟨b1, 0, none⟩ (.int .i64 x74) fun h75 =>
                  J29 h75)
                (J29 h27)) (J29 h27)))))) (cond ((Int.tmod (IntKind.i64.wrap (Int.tdiv k_8 2)) 5) == (1 : Int))
      (∃ s76 : ByteArray, cellH h27 ⟨b1, 3, none⟩ = some (.string s76) ∧
        ∃ x77 : Int, cellH h27 ⟨b1, 4, none⟩ = some (.int .i64 x77) ∧
        ∃ (a78 : Option Addr) (la78 ca78 : Nat), cellH h27 ⟨b1, 5, none⟩ = some (.slice a78 la78 ca78) ∧
        CallsH Tryd.prog 70 #[.agg #[.string s76, .int .i64 x77, .slice a78 la78 ca78], .int .i64 (IntKind.i64.wrap (Int.tdiv k_8 10))] h27 fun v79 h80 =>
        ∃ s81 : ByteArray, ∃ x82 : Int, ∃ (a83 : Option Addr) (la83 ca83 : Nat), v79 = .agg #[.string s81, .int .i64 x82, .slice a83 la83 ca83] ∧
        storeL ⟨b1, 3, none⟩ 0 [.string s81, .int .i64 x82, .slice a83 la83 ca83] h80 fun h84 =>
        J29 h84)
      (cond ((Int.tmod (IntKind.i64.wrap (Int.tdiv k_8 2)) 5) == (2 : Int)) (∃ (a85 : Option Addr) (la85 ca85 : Nat), cellH h27 ⟨b1, 6, none⟩ = some (.slice a85 la85 ca85) ∧
          cond (decide ((la85 : Int) > (0 : Int)))
          (∃ (a86 : Option Addr) (la86 ca86 : Nat), cellH h27 ⟨b1, 6, none⟩ = some (.slice a86 la86 ca86) ∧
            ∃ (a87 : Option Addr) (la87 ca87 : Nat), cellH h27 ⟨b1, 6, none⟩ = some (.slice a87 la87 ca87) ∧
            (la87 : Int) ≠ (0 : Int) ∧
            ∃ (a88 : Option Addr) (la88 ca88 : Nat), cellH h27 ⟨b1, 6, none⟩ = some (.slice a88 la88 ca88) ∧
            ∃ (a89 : Option Addr) (la89 ca89 : Nat), cellH h27 ⟨b1, 6, none⟩ = some (.slice a89 la89 ca89) ∧
            (la89 : Int) ≠ (0 : Int) ∧
            VIdx a88 la88 (Int.tmod (IntKind.i64.wrap (Int.tdiv k_8 10)) (la89 : Int)) 3 fun a90 =>
            ∃ s91 : ByteArray, cellH h27 a90 = some (.string s91) ∧
            ∃ x92 : Int, cellH h27 ⟨a90.block, a90.off + 1, none⟩ = some (.int .i64 x92) ∧
            ∃ (a93 : Option Addr) (la93 ca93 : Nat), cellH h27 ⟨a90.block, a90.off + 2, none⟩ = some (.slice a93 la93 ca93) ∧
            (7 : Int) ≠ (0 : Int) ∧
            CallsH Tryd.prog 70 #[.agg #[.string s91, .int .i64 x92, .slice a93 la93 ca93], .int .i64 (IntKind.i64.wrap (Int.tdiv (IntKind.i64.wrap (Int.tdiv k_8 10)) 7))] h27 fun v94 h95 =>
            ∃ s96 : ByteArray, ∃ x97 : Int, ∃ (a98 : Option Addr) (la98 ca98 : Nat), v94 = .agg #[.string s96, .int .i64 x97, .slice a98 la98 ca98] ∧
            (cellH h95 ⟨b1, 6, none⟩ = some (.slice a87 la87 ca87)) ∧
            (cellH h95 ⟨b1, 6, none⟩ = some (.slice a86 la86 ca86)) ∧
            VIdx a86 la86 (Int.tmod (IntKind.i64.wrap (Int.tdiv k_8 10)) (la87 : Int)) 3 fun a99 =>
            storeL a99 0 [.string s96, .int .i64 x97, .slice a98 la98 ca98] h95 fun h100 =>
            J29 h100)
          (cond ((Int.tmod (IntKind.i64.wrap (Int.tdiv k_8 2)) 5) == (3 : Int))
            (∃ x101 : Int, cellH h27 ⟨b1, 1, none⟩ = some (.int .i64 x101) ∧
              (300 : Int) ≠ (0 : Int) ∧
              VStore h27 ⟨b1, 1, none⟩ (.int .i64 (bitsOp .xor .i64 x101 (IntKind.i64.wrap (1 + (Int.tmod (IntKind.i64.wrap (Int.tdiv k_8 10)) 300))))) fun h102 =>
              J29 h102)
            (cond ((Int.tmod (IntKind.i64.wrap (Int.tdiv k_8 2)) 5) == (4 : Int)) (∃ x103 : Int, cellH h27 ⟨b1, 0, none⟩ = some (.int .i64 x103) ∧
                (2 : Int) ≠ (0 : Int) ∧
                cond ((Int.tmod x103 2) == (0 : Int))
                ((3 : Int) ≠ (0 : Int) ∧
                  PureTo Tryd.prog (Instr.index 61 (.agg #[.int .i64 2, .int .i64 4, .int .i64 6]) (.int .i64 (Int.tmod (IntKind.i64.wrap (Int.tdiv k_8 10)) 3))) fun v104 =>
                  ∃ x105 : Int, v104 = .int .i64 x105 ∧
                  VStore h27 ⟨b1, 0, none⟩ (.int .i64 x105) fun h106 =>
                  J29 h106)
                (J29 h27)) (J29 h27)))) (cond ((Int.tmod (IntKind.i64.wrap (Int.tdiv k_8 2)) 5) == (3 : Int))
          (∃ x107 : Int, cellH h27 ⟨b1, 1, none⟩ = some (.int .i64 x107) ∧
            (300 : Int) ≠ (0 : Int) ∧
            VStore h27 ⟨b1, 1, none⟩ (.int .i64 (bitsOp .xor .i64 x107 (IntKind.i64.wrap (1 + (Int.tmod (IntKind.i64.wrap (Int.tdiv k_8 10)) 300))))) fun h108 =>
            J29 h108)
          (cond ((Int.tmod (IntKind.i64.wrap (Int.tdiv k_8 2)) 5) == (4 : Int)) (∃ x109 : Int, cellH h27 ⟨b1, 0, none⟩ = some (.int .i64 x109) ∧
              (2 : Int) ≠ (0 : Int) ∧
              cond ((Int.tmod x109 2) == (0 : Int))
              ((3 : Int) ≠ (0 : Int) ∧
                PureTo Tryd.prog (Instr.index 61 (.agg #[.int .i64 2, .int .i64 4, .int .i64 6]) (.int .i64 (Int.tmod (IntKind.i64.wrap (Int.tdiv k_8 10)) 3))) fun v110 =>
                ∃ x111 : Int, v110 = .int .i64 x111 ∧
                VStore h27 ⟨b1, 0, none⟩ (.int .i64 x111) fun h112 =>
                J29 h112)
              (J29 h27)) (J29 h27)))))) ∧
  ∀ (h113 : Heap) (g114 : Env), J29 h113 →
  ∃ x115 : Int, cellH h113 ⟨b1, 0, none⟩ = some (.int .i64 x115) ∧
  ∃ x116 : Int, cellH h113 ⟨b1, 1, none⟩ = some (.int .i64 x116) ∧
  ∃ (a117 : Option Addr) (la117 ca117 : Nat), cellH h113 ⟨b1, 2, none⟩ = some (.slice a117 la117 ca117) ∧
  ∃ s118 : ByteArray, cellH h113 ⟨b1, 3, none⟩ = some (.string s118) ∧
  ∃ x119 : Int, cellH h113 ⟨b1, 4, none⟩ = some (.int .i64 x119) ∧
  ∃ (a120 : Option Addr) (la120 ca120 : Nat), cellH h113 ⟨b1, 5, none⟩ = some (.slice a120 la120 ca120) ∧
  ∃ (a121 : Option Addr) (la121 ca121 : Nat), cellH h113 ⟨b1, 6, none⟩ = some (.slice a121 la121 ca121) ∧
  storeL ⟨b3, 0, none⟩ 0 [.int .i64 x115, .int .i64 x116, .slice a117 la117 ca117, .string s118, .int .i64 x119, .slice a120 la120 ca120, .slice a121 la121 ca121] h113 fun h122 =>
  ∃ x123 : Int, cellH h122 ⟨b3, 0, none⟩ = some (.int .i64 x123) ∧
  ∃ x124 : Int, cellH h122 ⟨b3, 1, none⟩ = some (.int .i64 x124) ∧
  ∃ (a125 : Option Addr) (la125 ca125 : Nat), cellH h122 ⟨b3, 2, none⟩ = some (.slice a125 la125 ca125) ∧
  ∃ s126 : ByteArray, cellH h122 ⟨b3, 3, none⟩ = some (.string s126) ∧
  ∃ x127 : Int, cellH h122 ⟨b3, 4, none⟩ = some (.int .i64 x127) ∧
  ∃ (a128 : Option Addr) (la128 ca128 : Nat), cellH h122 ⟨b3, 5, none⟩ = some (.slice a128 la128 ca128) ∧
  ∃ (a129 : Option Addr) (la129 ca129 : Nat), cellH h122 ⟨b3, 6, none⟩ = some (.slice a129 la129 ca129) ∧
  R (.agg #[.int .i64 x123, .int .i64 x124, .slice a125 la125 ca125, .string s126, .int .i64 x127, .slice a128 la128 ca128, .slice a129 la129 ca129]) h122
theorem vf38 (a0o_0 : Int) (a0o_1 : Int) (a0o_2 : Option Addr) (la0o_2 ca0o_2 : Nat) (a0o_3 : ByteArray) (a0o_4 : Int) (a0o_5 : Option Addr) (la0o_5 ca0o_5 : Nat) (a0o_6 : Option Addr) (la0o_6 ca0o_6 : Nat) (a1k : Int) (h : Heap) (R : KV) (hF : F38 a0o_0 a0o_1 a0o_2 la0o_2 ca0o_2 a0o_3 a0o_4 a0o_5 la0o_5 ca0o_5 a0o_6 la0o_6 ca0o_6 a1k h R) : CallsH Tryd.prog 38 #[.agg #[.int .i64 a0o_0, .int .i64 a0o_1, .slice a0o_2 la0o_2 ca0o_2, .string a0o_3, .int .i64 a0o_4, .slice a0o_5 la0o_5 ca0o_5, .slice a0o_6 la0o_6 ca0o_6], .int .i64 a1k] h R :=
  calls_of_vc (A := an38) (fn := Tryd.f38) (c := c38) (args := [.agg #[.int .i64 a0o_0, .int .i64 a0o_1, .slice a0o_2 la0o_2 ca0o_2, .string a0o_3, .int .i64 a0o_4, .slice a0o_5 la0o_5 ca0o_5, .slice a0o_6 la0o_6 ca0o_6], .int .i64 a1k]) Tryd.func38 (by kernel_rfl) mixed (by kernel_rfl) (Eq.mp (by kernel_rfl : F38 a0o_0 a0o_1 a0o_2 la0o_2 ca0o_2 a0o_3 a0o_4 a0o_5 la0o_5 ca0o_5 a0o_6 la0o_6 ca0o_6 a1k h R = vcF Tryd.prog an38 Tryd.f38 c38 [.agg #[.int .i64 a0o_0, .int .i64 a0o_1, .slice a0o_2 la0o_2 ca0o_2, .string a0o_3, .int .i64 a0o_4, .slice a0o_5 la0o_5 ca0o_5, .slice a0o_6 la0o_6 ca0o_6], .int .i64 a1k] h R) hF)
/-! ### 39 refrain/refrainlaw3.alone -/
noncomputable def c39 : Code := match Tryd.f39.body with | some c => c | none => .skip
noncomputable def an39 : Ann := { loops := fun i => [], draws := fun i => #[], joins := fun i => none }
def F39 (a0o_0 : Int) (a0o_1 : Int) (a0o_2 : Option Addr) (la0o_2 ca0o_2 : Nat) (a0o_3 : ByteArray) (a0o_4 : Int) (a0o_5 : Option Addr) (la0o_5 ca0o_5 : Nat) (a0o_6 : Option Addr) (la0o_6 ca0o_6 : Nat) (h : Heap) (R : KV) : Prop :=
  VNew h (.cells #[.int .i64 a0o_0, .int .i64 a0o_1, .slice a0o_2 la0o_2 ca0o_2, .string a0o_3, .int .i64 a0o_4, .slice a0o_5 la0o_5 ca0o_5, .slice a0o_6 la0o_6 ca0o_6] 71) fun b1 h2 =>
  VNew h2 (.cells #[.int .i64 0, .int .i64 0, .slice none 0 0, .string (ByteArray.mk #[]), .int .i64 0, .slice none 0 0, .slice none 0 0] 71) fun b3 h4 =>
  ∃ (a5 : Option Addr) (la5 ca5 : Nat), cellH h4 ⟨b1, 2, none⟩ = some (.slice a5 la5 ca5) ∧
  RunsTo Tryd.prog (Builtin.append_ #[30, 30] 30 #[.slice none 0 0, .slice a5 la5 ca5]) h4 fun v6 h7 =>
  ∃ (a8 : Option Addr) (la8 ca8 : Nat), v6 = .slice a8 la8 ca8 ∧
  VStore h7 ⟨b1, 2, none⟩ (.slice a8 la8 ca8) fun h9 =>
  ∃ (a10 : Option Addr) (la10 ca10 : Nat), cellH h9 ⟨b1, 5, none⟩ = some (.slice a10 la10 ca10) ∧
  RunsTo Tryd.prog (Builtin.append_ #[25, 25] 25 #[.slice none 0 0, .slice a10 la10 ca10]) h9 fun v11 h12 =>
  ∃ (a13 : Option Addr) (la13 ca13 : Nat), v11 = .slice a13 la13 ca13 ∧
  VStore h12 ⟨b1, 5, none⟩ (.slice a13 la13 ca13) fun h14 =>
  ∃ (a15 : Option Addr) (la15 ca15 : Nat), cellH h14 ⟨b1, 6, none⟩ = some (.slice a15 la15 ca15) ∧
  CallsH Tryd.prog 71 #[.slice a15 la15 ca15] h14 fun v16 h17 =>
  ∃ (a18 : Option Addr) (la18 ca18 : Nat), v16 = .slice a18 la18 ca18 ∧
  VStore h17 ⟨b1, 6, none⟩ (.slice a18 la18 ca18) fun h19 =>
  ∃ x20 : Int, cellH h19 ⟨b1, 0, none⟩ = some (.int .i64 x20) ∧
  ∃ x21 : Int, cellH h19 ⟨b1, 1, none⟩ = some (.int .i64 x21) ∧
  ∃ (a22 : Option Addr) (la22 ca22 : Nat), cellH h19 ⟨b1, 2, none⟩ = some (.slice a22 la22 ca22) ∧
  ∃ s23 : ByteArray, cellH h19 ⟨b1, 3, none⟩ = some (.string s23) ∧
  ∃ x24 : Int, cellH h19 ⟨b1, 4, none⟩ = some (.int .i64 x24) ∧
  ∃ (a25 : Option Addr) (la25 ca25 : Nat), cellH h19 ⟨b1, 5, none⟩ = some (.slice a25 la25 ca25) ∧
  ∃ (a26 : Option Addr) (la26 ca26 : Nat), cellH h19 ⟨b1, 6, none⟩ = some (.slice a26 la26 ca26) ∧
  storeL ⟨b3, 0, none⟩ 0 [.int .i64 x20, .int .i64 x21, .slice a22 la22 ca22, .string s23, .int .i64 x24, .slice a25 la25 ca25, .slice a26 la26 ca26] h19 fun h27 =>
  ∃ x28 : Int, cellH h27 ⟨b3, 0, none⟩ = some (.int .i64 x28) ∧
  ∃ x29 : Int, cellH h27 ⟨b3, 1, none⟩ = some (.int .i64 x29) ∧
  ∃ (a30 : Option Addr) (la30 ca30 : Nat), cellH h27 ⟨b3, 2, none⟩ = some (.slice a30 la30 ca30) ∧
  ∃ s31 : ByteArray, cellH h27 ⟨b3, 3, none⟩ = some (.string s31) ∧
  ∃ x32 : Int, cellH h27 ⟨b3, 4, none⟩ = some (.int .i64 x32) ∧
  ∃ (a33 : Option Addr) (la33 ca33 : Nat), cellH h27 ⟨b3, 5, none⟩ = some (.slice a33 la33 ca33) ∧
  ∃ (a34 : Option Addr) (la34 ca34 : Nat), cellH h27 ⟨b3, 6, none⟩ = some (.slice a34 la34 ca34) ∧
  R (.agg #[.int .i64 x28, .int .i64 x29, .slice a30 la30 ca30, .string s31, .int .i64 x32, .slice a33 la33 ca33, .slice a34 la34 ca34]) h27
theorem vf39 (a0o_0 : Int) (a0o_1 : Int) (a0o_2 : Option Addr) (la0o_2 ca0o_2 : Nat) (a0o_3 : ByteArray) (a0o_4 : Int) (a0o_5 : Option Addr) (la0o_5 ca0o_5 : Nat) (a0o_6 : Option Addr) (la0o_6 ca0o_6 : Nat) (h : Heap) (R : KV) (hF : F39 a0o_0 a0o_1 a0o_2 la0o_2 ca0o_2 a0o_3 a0o_4 a0o_5 la0o_5 ca0o_5 a0o_6 la0o_6 ca0o_6 h R) : CallsH Tryd.prog 39 #[.agg #[.int .i64 a0o_0, .int .i64 a0o_1, .slice a0o_2 la0o_2 ca0o_2, .string a0o_3, .int .i64 a0o_4, .slice a0o_5 la0o_5 ca0o_5, .slice a0o_6 la0o_6 ca0o_6]] h R :=
  calls_of_vc (A := an39) (fn := Tryd.f39) (c := c39) (args := [.agg #[.int .i64 a0o_0, .int .i64 a0o_1, .slice a0o_2 la0o_2 ca0o_2, .string a0o_3, .int .i64 a0o_4, .slice a0o_5 la0o_5 ca0o_5, .slice a0o_6 la0o_6 ca0o_6]]) Tryd.func39 (by kernel_rfl) mixed (by kernel_rfl) (Eq.mp (by kernel_rfl : F39 a0o_0 a0o_1 a0o_2 la0o_2 ca0o_2 a0o_3 a0o_4 a0o_5 la0o_5 ca0o_5 a0o_6 la0o_6 ca0o_6 h R = vcF Tryd.prog an39 Tryd.f39 c39 [.agg #[.int .i64 a0o_0, .int .i64 a0o_1, .slice a0o_2 la0o_2 ca0o_2, .string a0o_3, .int .i64 a0o_4, .slice a0o_5 la0o_5 ca0o_5, .slice a0o_6 la0o_6 ca0o_6]] h R) hF)
/-! ### 40 refrain/refrainlaw3.ran -/
noncomputable def c40 : Code := match Tryd.f40.body with | some c => c | none => .skip
noncomputable def an40 : Ann := { loops := fun i => [], draws := fun i => #[], joins := fun i => none }
def F40 (a0o_0 : Int) (a0o_1 : Int) (a0o_2 : Option Addr) (la0o_2 ca0o_2 : Nat) (a0o_3 : ByteArray) (a0o_4 : Int) (a0o_5 : Option Addr) (la0o_5 ca0o_5 : Nat) (a0o_6 : Option Addr) (la0o_6 ca0o_6 : Nat) (h : Heap) (R : KV) : Prop :=
  VNew h (.cells #[.int .i64 a0o_0, .int .i64 a0o_1, .slice a0o_2 la0o_2 ca0o_2, .string a0o_3, .int .i64 a0o_4, .slice a0o_5 la0o_5 ca0o_5, .slice a0o_6 la0o_6 ca0o_6] 71) fun b1 h2 =>
  VNew h2 (.cells #[.slice none 0 0, .int .i64 0, .int .i64 0, .slice none 0 0, .int .i64 0] 75) fun b3 h4 =>
  ∃ x5 : Int, cellH h4 ⟨b1, 0, none⟩ = some (.int .i64 x5) ∧
  cond (x5 == (1 : Int))
  (∃ x6 : Int, cellH h4 ⟨b1, 1, none⟩ = some (.int .i64 x6) ∧
    CallsH Tryd.prog 21 #[.int .i64 x6] h4 fun v7 h8 =>
    ∃ (a9 : Option Addr) (la9 ca9 : Nat), v7 = .slice a9 la9 ca9 ∧
    storeL ⟨b3, 0, none⟩ 0 [.slice a9 la9 ca9, .int .i64 0, .int .i64 0, .slice none 0 0, .int .i64 0] h8 fun h10 =>
    ∃ (a11 : Option Addr) (la11 ca11 : Nat), cellH h10 ⟨b3, 0, none⟩ = some (.slice a11 la11 ca11) ∧
    ∃ x12 : Int, cellH h10 ⟨b3, 1, none⟩ = some (.int .i64 x12) ∧
    ∃ x13 : Int, cellH h10 ⟨b3, 2, none⟩ = some (.int .i64 x13) ∧
    ∃ (a14 : Option Addr) (la14 ca14 : Nat), cellH h10 ⟨b3, 3, none⟩ = some (.slice a14 la14 ca14) ∧
    ∃ x15 : Int, cellH h10 ⟨b3, 4, none⟩ = some (.int .i64 x15) ∧
    R (.agg #[.slice a11 la11 ca11, .int .i64 x12, .int .i64 x13, .slice a14 la14 ca14, .int .i64 x15]) h10)
  (cond (x5 == (2 : Int))
    (∃ (a16 : Option Addr) (la16 ca16 : Nat), cellH h4 ⟨b1, 2, none⟩ = some (.slice a16 la16 ca16) ∧
      CallsH Tryd.prog 23 #[.slice a16 la16 ca16] h4 fun v17 h18 =>
      ∃ x19 : Int, ∃ x20 : Int, ∃ x21 : Int, v17 = .tuple #[.int .i64 x19, .int .i64 x20, .int .i64 x21] ∧
      storeL ⟨b3, 0, none⟩ 0 [.slice none 0 0, .int .i64 x19, .int .i64 x20, .slice none 0 0, .int .i64 x21] h18 fun h22 =>
      ∃ (a23 : Option Addr) (la23 ca23 : Nat), cellH h22 ⟨b3, 0, none⟩ = some (.slice a23 la23 ca23) ∧
      ∃ x24 : Int, cellH h22 ⟨b3, 1, none⟩ = some (.int .i64 x24) ∧
      ∃ x25 : Int, cellH h22 ⟨b3, 2, none⟩ = some (.int .i64 x25) ∧
      ∃ (a26 : Option Addr) (la26 ca26 : Nat), cellH h22 ⟨b3, 3, none⟩ = some (.slice a26 la26 ca26) ∧
      ∃ x27 : Int, cellH h22 ⟨b3, 4, none⟩ = some (.int .i64 x27) ∧
      R (.agg #[.slice a23 la23 ca23, .int .i64 x24, .int .i64 x25, .slice a26 la26 ca26, .int .i64 x27]) h22)
    (cond (x5 == (3 : Int))
      (∃ s28 : ByteArray, cellH h4 ⟨b1, 3, none⟩ = some (.string s28) ∧
        ∃ x29 : Int, cellH h4 ⟨b1, 4, none⟩ = some (.int .i64 x29) ∧
        ∃ (a30 : Option Addr) (la30 ca30 : Nat), cellH h4 ⟨b1, 5, none⟩ = some (.slice a30 la30 ca30) ∧
        CallsH Tryd.prog 13 #[.agg #[.string s28, .int .i64 x29, .slice a30 la30 ca30]] h4 fun v31 h32 =>
        ∃ (a33 : Option Addr) (la33 ca33 : Nat), ∃ x34 : Int, v31 = .tuple #[.slice a33 la33 ca33, .int .i64 x34] ∧
        storeL ⟨b3, 0, none⟩ 0 [.slice a33 la33 ca33, .int .i64 0, .int .i64 0, .slice none 0 0, .int .i64 x34] h32 fun h35 =>
        ∃ (a36 : Option Addr) (la36 ca36 : Nat), cellH h35 ⟨b3, 0, none⟩ = some (.slice a36 la36 ca36) ∧
        ∃ x37 : Int, cellH h35 ⟨b3, 1, none⟩ = some (.int .i64 x37) ∧
        ∃ x38 : Int, cellH h35 ⟨b3, 2, none⟩ = some (.int .i64 x38) ∧
        ∃ (a39 : Option Addr) (la39 ca39 : Nat), cellH h35 ⟨b3, 3, none⟩ = some (.slice a39 la39 ca39) ∧
        ∃ x40 : Int, cellH h35 ⟨b3, 4, none⟩ = some (.int .i64 x40) ∧
        R (.agg #[.slice a36 la36 ca36, .int .i64 x37, .int .i64 x38, .slice a39 la39 ca39, .int .i64 x40]) h35)
      (cond (x5 == (4 : Int))
        (∃ (a41 : Option Addr) (la41 ca41 : Nat), cellH h4 ⟨b1, 2, none⟩ = some (.slice a41 la41 ca41) ∧
          CallsH Tryd.prog 18 #[.slice a41 la41 ca41] h4 fun v42 h43 =>
          ∃ s44 : ByteArray, ∃ x45 : Int, ∃ (a46 : Option Addr) (la46 ca46 : Nat), ∃ x47 : Int, ∃ x48 : Int, v42 = .tuple #[.agg #[.string s44, .int .i64 x45, .slice a46 la46 ca46], .int .i64 x47, .int .i64 x48] ∧
          VNew h43 (.cells #[.string (ByteArray.mk #[]), .int .i64 0, .slice none 0 0] 27) fun b49 h50 =>
          storeL ⟨b49, 0, none⟩ 0 [.string s44, .int .i64 x45, .slice a46 la46 ca46] h50 fun h51 =>
          ∃ s52 : ByteArray, cellH h51 ⟨b49, 0, none⟩ = some (.string s52) ∧
          ∃ x53 : Int, cellH h51 ⟨b49, 1, none⟩ = some (.int .i64 x53) ∧
          ∃ (a54 : Option Addr) (la54 ca54 : Nat), cellH h51 ⟨b49, 2, none⟩ = some (.slice a54 la54 ca54) ∧
          VNew h51 (.cells #[.string s52, .int .i64 x53, .slice a54 la54 ca54] 27) fun b55 h56 =>
          storeL ⟨b3, 0, none⟩ 0 [.slice none 0 0, .int .i64 0, .int .i64 x47, .slice (some ⟨b55, 0, none⟩) 1 1, .int .i64 x48] h56 fun h57 =>
          ∃ (a58 : Option Addr) (la58 ca58 : Nat), cellH h57 ⟨b3, 0, none⟩ = some (.slice a58 la58 ca58) ∧
          ∃ x59 : Int, cellH h57 ⟨b3, 1, none⟩ = some (.int .i64 x59) ∧
          ∃ x60 : Int, cellH h57 ⟨b3, 2, none⟩ = some (.int .i64 x60) ∧
          ∃ (a61 : Option Addr) (la61 ca61 : Nat), cellH h57 ⟨b3, 3, none⟩ = some (.slice a61 la61 ca61) ∧
          ∃ x62 : Int, cellH h57 ⟨b3, 4, none⟩ = some (.int .i64 x62) ∧
          R (.agg #[.slice a58 la58 ca58, .int .i64 x59, .int .i64 x60, .slice a61 la61 ca61, .int .i64 x62]) h57)
        (cond (x5 == (5 : Int))
          (∃ (a63 : Option Addr) (la63 ca63 : Nat), cellH h4 ⟨b1, 6, none⟩ = some (.slice a63 la63 ca63) ∧
            CallsH Tryd.prog 28 #[.slice a63 la63 ca63] h4 fun v64 h65 =>
            ∃ (a66 : Option Addr) (la66 ca66 : Nat), ∃ x67 : Int, v64 = .tuple #[.slice a66 la66 ca66, .int .i64 x67] ∧
            storeL ⟨b3, 0, none⟩ 0 [.slice a66 la66 ca66, .int .i64 0, .int .i64 0, .slice none 0 0, .int .i64 x67] h65 fun h68 =>
            ∃ (a69 : Option Addr) (la69 ca69 : Nat), cellH h68 ⟨b3, 0, none⟩ = some (.slice a69 la69 ca69) ∧
            ∃ x70 : Int, cellH h68 ⟨b3, 1, none⟩ = some (.int .i64 x70) ∧
            ∃ x71 : Int, cellH h68 ⟨b3, 2, none⟩ = some (.int .i64 x71) ∧
            ∃ (a72 : Option Addr) (la72 ca72 : Nat), cellH h68 ⟨b3, 3, none⟩ = some (.slice a72 la72 ca72) ∧
            ∃ x73 : Int, cellH h68 ⟨b3, 4, none⟩ = some (.int .i64 x73) ∧
            R (.agg #[.slice a69 la69 ca69, .int .i64 x70, .int .i64 x71, .slice a72 la72 ca72, .int .i64 x73]) h68)
          (cond (x5 == (6 : Int))
            (∃ (a74 : Option Addr) (la74 ca74 : Nat), cellH h4 ⟨b1, 2, none⟩ = some (.slice a74 la74 ca74) ∧
              CallsH Tryd.prog 31 #[.slice a74 la74 ca74] h4 fun v75 h76 =>
              ∃ (a77 : Option Addr) (la77 ca77 : Nat), ∃ x78 : Int, v75 = .tuple #[.slice a77 la77 ca77, .int .i64 x78] ∧
              storeL ⟨b3, 0, none⟩ 0 [.slice none 0 0, .int .i64 0, .int .i64 0, .slice a77 la77 ca77, .int .i64 x78] h76 fun h79 =>
              ∃ (a80 : Option Addr) (la80 ca80 : Nat), cellH h79 ⟨b3, 0, none⟩ = some (.slice a80 la80 ca80) ∧
              ∃ x81 : Int, cellH h79 ⟨b3, 1, none⟩ = some (.int .i64 x81) ∧
              ∃ x82 : Int, cellH h79 ⟨b3, 2, none⟩ = some (.int .i64 x82) ∧
              ∃ (a83 : Option Addr) (la83 ca83 : Nat), cellH h79 ⟨b3, 3, none⟩ = some (.slice a83 la83 ca83) ∧
              ∃ x84 : Int, cellH h79 ⟨b3, 4, none⟩ = some (.int .i64 x84) ∧
              R (.agg #[.slice a80 la80 ca80, .int .i64 x81, .int .i64 x82, .slice a83 la83 ca83, .int .i64 x84]) h79)
            (storeL ⟨b3, 0, none⟩ 0 [.slice none 0 0, .int .i64 0, .int .i64 0, .slice none 0 0, .int .i64 0] h4 fun h85 =>
              ∃ (a86 : Option Addr) (la86 ca86 : Nat), cellH h85 ⟨b3, 0, none⟩ = some (.slice a86 la86 ca86) ∧
              ∃ x87 : Int, cellH h85 ⟨b3, 1, none⟩ = some (.int .i64 x87) ∧
              ∃ x88 : Int, cellH h85 ⟨b3, 2, none⟩ = some (.int .i64 x88) ∧
              ∃ (a89 : Option Addr) (la89 ca89 : Nat), cellH h85 ⟨b3, 3, none⟩ = some (.slice a89 la89 ca89) ∧
              ∃ x90 : Int, cellH h85 ⟨b3, 4, none⟩ = some (.int .i64 x90) ∧
              R (.agg #[.slice a86 la86 ca86, .int .i64 x87, .int .i64 x88, .slice a89 la89 ca89, .int .i64 x90]) h85))))))
theorem vf40 (a0o_0 : Int) (a0o_1 : Int) (a0o_2 : Option Addr) (la0o_2 ca0o_2 : Nat) (a0o_3 : ByteArray) (a0o_4 : Int) (a0o_5 : Option Addr) (la0o_5 ca0o_5 : Nat) (a0o_6 : Option Addr) (la0o_6 ca0o_6 : Nat) (h : Heap) (R : KV) (hF : F40 a0o_0 a0o_1 a0o_2 la0o_2 ca0o_2 a0o_3 a0o_4 a0o_5 la0o_5 ca0o_5 a0o_6 la0o_6 ca0o_6 h R) : CallsH Tryd.prog 40 #[.agg #[.int .i64 a0o_0, .int .i64 a0o_1, .slice a0o_2 la0o_2 ca0o_2, .string a0o_3, .int .i64 a0o_4, .slice a0o_5 la0o_5 ca0o_5, .slice a0o_6 la0o_6 ca0o_6]] h R :=
  calls_of_vc (A := an40) (fn := Tryd.f40) (c := c40) (args := [.agg #[.int .i64 a0o_0, .int .i64 a0o_1, .slice a0o_2 la0o_2 ca0o_2, .string a0o_3, .int .i64 a0o_4, .slice a0o_5 la0o_5 ca0o_5, .slice a0o_6 la0o_6 ca0o_6]]) Tryd.func40 (by kernel_rfl) mixed (by kernel_rfl) (Eq.mp (by kernel_rfl : F40 a0o_0 a0o_1 a0o_2 la0o_2 ca0o_2 a0o_3 a0o_4 a0o_5 la0o_5 ca0o_5 a0o_6 la0o_6 ca0o_6 h R = vcF Tryd.prog an40 Tryd.f40 c40 [.agg #[.int .i64 a0o_0, .int .i64 a0o_1, .slice a0o_2 la0o_2 ca0o_2, .string a0o_3, .int .i64 a0o_4, .slice a0o_5 la0o_5 ca0o_5, .slice a0o_6 la0o_6 ca0o_6]] h R) hF)
/-! ### 41 refrain/refrainlaw3.meant -/
noncomputable def c41 : Code := match Tryd.f41.body with | some c => c | none => .skip
noncomputable def an41 : Ann := { loops := fun i => [], draws := fun i => #[], joins := fun i => none }
def F41 (a0x_0 : Int) (a0x_1 : Int) (a0x_2 : Option Addr) (la0x_2 ca0x_2 : Nat) (a0x_3 : ByteArray) (a0x_4 : Int) (a0x_5 : Option Addr) (la0x_5 ca0x_5 : Nat) (a0x_6 : Option Addr) (la0x_6 ca0x_6 : Nat) (h : Heap) (R : KV) : Prop :=
  VNew h (.cells #[.int .i64 a0x_0, .int .i64 a0x_1, .slice a0x_2 la0x_2 ca0x_2, .string a0x_3, .int .i64 a0x_4, .slice a0x_5 la0x_5 ca0x_5, .slice a0x_6 la0x_6 ca0x_6] 71) fun b1 h2 =>
  VNew h2 (.cells #[.slice none 0 0, .int .i64 0, .int .i64 0, .slice none 0 0, .int .i64 0] 75) fun b3 h4 =>
  ∃ x5 : Int, cellH h4 ⟨b1, 0, none⟩ = some (.int .i64 x5) ∧
  ∃ x6 : Int, cellH h4 ⟨b1, 1, none⟩ = some (.int .i64 x6) ∧
  ∃ (a7 : Option Addr) (la7 ca7 : Nat), cellH h4 ⟨b1, 2, none⟩ = some (.slice a7 la7 ca7) ∧
  ∃ s8 : ByteArray, cellH h4 ⟨b1, 3, none⟩ = some (.string s8) ∧
  ∃ x9 : Int, cellH h4 ⟨b1, 4, none⟩ = some (.int .i64 x9) ∧
  ∃ (a10 : Option Addr) (la10 ca10 : Nat), cellH h4 ⟨b1, 5, none⟩ = some (.slice a10 la10 ca10) ∧
  ∃ (a11 : Option Addr) (la11 ca11 : Nat), cellH h4 ⟨b1, 6, none⟩ = some (.slice a11 la11 ca11) ∧
  CallsH Tryd.prog 39 #[.agg #[.int .i64 x5, .int .i64 x6, .slice a7 la7 ca7, .string s8, .int .i64 x9, .slice a10 la10 ca10, .slice a11 la11 ca11]] h4 fun v12 h13 =>
  ∃ x14 : Int, ∃ x15 : Int, ∃ (a16 : Option Addr) (la16 ca16 : Nat), ∃ s17 : ByteArray, ∃ x18 : Int, ∃ (a19 : Option Addr) (la19 ca19 : Nat), ∃ (a20 : Option Addr) (la20 ca20 : Nat), v12 = .agg #[.int .i64 x14, .int .i64 x15, .slice a16 la16 ca16, .string s17, .int .i64 x18, .slice a19 la19 ca19, .slice a20 la20 ca20] ∧
  VNew h13 (.cells #[.int .i64 0, .int .i64 0, .slice none 0 0, .string (ByteArray.mk #[]), .int .i64 0, .slice none 0 0, .slice none 0 0] 71) fun b21 h22 =>
  storeL ⟨b21, 0, none⟩ 0 [.int .i64 x14, .int .i64 x15, .slice a16 la16 ca16, .string s17, .int .i64 x18, .slice a19 la19 ca19, .slice a20 la20 ca20] h22 fun h23 =>
  ∃ x24 : Int, cellH h23 ⟨b21, 0, none⟩ = some (.int .i64 x24) ∧
  cond (x24 == (1 : Int))
  (∃ x25 : Int, cellH h23 ⟨b21, 1, none⟩ = some (.int .i64 x25) ∧
    CallsH Tryd.prog 22 #[.int .i64 x25] h23 fun v26 h27 =>
    ∃ (a28 : Option Addr) (la28 ca28 : Nat), v26 = .slice a28 la28 ca28 ∧
    storeL ⟨b3, 0, none⟩ 0 [.slice a28 la28 ca28, .int .i64 0, .int .i64 0, .slice none 0 0, .int .i64 0] h27 fun h29 =>
    ∃ (a30 : Option Addr) (la30 ca30 : Nat), cellH h29 ⟨b3, 0, none⟩ = some (.slice a30 la30 ca30) ∧
    ∃ x31 : Int, cellH h29 ⟨b3, 1, none⟩ = some (.int .i64 x31) ∧
    ∃ x32 : Int, cellH h29 ⟨b3, 2, none⟩ = some (.int .i64 x32) ∧
    ∃ (a33 : Option Addr) (la33 ca33 : Nat), cellH h29 ⟨b3, 3, none⟩ = some (.slice a33 la33 ca33) ∧
    ∃ x34 : Int, cellH h29 ⟨b3, 4, none⟩ = some (.int .i64 x34) ∧
    R (.agg #[.slice a30 la30 ca30, .int .i64 x31, .int .i64 x32, .slice a33 la33 ca33, .int .i64 x34]) h29)
  (cond (x24 == (2 : Int))
    (∃ (a35 : Option Addr) (la35 ca35 : Nat), cellH h23 ⟨b21, 2, none⟩ = some (.slice a35 la35 ca35) ∧
      CallsH Tryd.prog 24 #[.slice a35 la35 ca35] h23 fun v36 h37 =>
      ∃ x38 : Int, ∃ x39 : Int, ∃ x40 : Int, v36 = .tuple #[.int .i64 x38, .int .i64 x39, .int .i64 x40] ∧
      storeL ⟨b3, 0, none⟩ 0 [.slice none 0 0, .int .i64 x38, .int .i64 x39, .slice none 0 0, .int .i64 x40] h37 fun h41 =>
      ∃ (a42 : Option Addr) (la42 ca42 : Nat), cellH h41 ⟨b3, 0, none⟩ = some (.slice a42 la42 ca42) ∧
      ∃ x43 : Int, cellH h41 ⟨b3, 1, none⟩ = some (.int .i64 x43) ∧
      ∃ x44 : Int, cellH h41 ⟨b3, 2, none⟩ = some (.int .i64 x44) ∧
      ∃ (a45 : Option Addr) (la45 ca45 : Nat), cellH h41 ⟨b3, 3, none⟩ = some (.slice a45 la45 ca45) ∧
      ∃ x46 : Int, cellH h41 ⟨b3, 4, none⟩ = some (.int .i64 x46) ∧
      R (.agg #[.slice a42 la42 ca42, .int .i64 x43, .int .i64 x44, .slice a45 la45 ca45, .int .i64 x46]) h41)
    (cond (x24 == (3 : Int))
      (∃ s47 : ByteArray, cellH h23 ⟨b21, 3, none⟩ = some (.string s47) ∧
        ∃ x48 : Int, cellH h23 ⟨b21, 4, none⟩ = some (.int .i64 x48) ∧
        ∃ (a49 : Option Addr) (la49 ca49 : Nat), cellH h23 ⟨b21, 5, none⟩ = some (.slice a49 la49 ca49) ∧
        CallsH Tryd.prog 14 #[.agg #[.string s47, .int .i64 x48, .slice a49 la49 ca49]] h23 fun v50 h51 =>
        ∃ (a52 : Option Addr) (la52 ca52 : Nat), ∃ x53 : Int, v50 = .tuple #[.slice a52 la52 ca52, .int .i64 x53] ∧
        storeL ⟨b3, 0, none⟩ 0 [.slice a52 la52 ca52, .int .i64 0, .int .i64 0, .slice none 0 0, .int .i64 x53] h51 fun h54 =>
        ∃ (a55 : Option Addr) (la55 ca55 : Nat), cellH h54 ⟨b3, 0, none⟩ = some (.slice a55 la55 ca55) ∧
        ∃ x56 : Int, cellH h54 ⟨b3, 1, none⟩ = some (.int .i64 x56) ∧
        ∃ x57 : Int, cellH h54 ⟨b3, 2, none⟩ = some (.int .i64 x57) ∧
        ∃ (a58 : Option Addr) (la58 ca58 : Nat), cellH h54 ⟨b3, 3, none⟩ = some (.slice a58 la58 ca58) ∧
        ∃ x59 : Int, cellH h54 ⟨b3, 4, none⟩ = some (.int .i64 x59) ∧
        R (.agg #[.slice a55 la55 ca55, .int .i64 x56, .int .i64 x57, .slice a58 la58 ca58, .int .i64 x59]) h54)
      (cond (x24 == (4 : Int))
        (∃ (a60 : Option Addr) (la60 ca60 : Nat), cellH h23 ⟨b21, 2, none⟩ = some (.slice a60 la60 ca60) ∧
          CallsH Tryd.prog 19 #[.slice a60 la60 ca60] h23 fun v61 h62 =>
          ∃ s63 : ByteArray, ∃ x64 : Int, ∃ (a65 : Option Addr) (la65 ca65 : Nat), ∃ x66 : Int, ∃ x67 : Int, v61 = .tuple #[.agg #[.string s63, .int .i64 x64, .slice a65 la65 ca65], .int .i64 x66, .int .i64 x67] ∧
          VNew h62 (.cells #[.string (ByteArray.mk #[]), .int .i64 0, .slice none 0 0] 27) fun b68 h69 =>
          storeL ⟨b68, 0, none⟩ 0 [.string s63, .int .i64 x64, .slice a65 la65 ca65] h69 fun h70 =>
          ∃ s71 : ByteArray, cellH h70 ⟨b68, 0, none⟩ = some (.string s71) ∧
          ∃ x72 : Int, cellH h70 ⟨b68, 1, none⟩ = some (.int .i64 x72) ∧
          ∃ (a73 : Option Addr) (la73 ca73 : Nat), cellH h70 ⟨b68, 2, none⟩ = some (.slice a73 la73 ca73) ∧
          VNew h70 (.cells #[.string s71, .int .i64 x72, .slice a73 la73 ca73] 27) fun b74 h75 =>
          storeL ⟨b3, 0, none⟩ 0 [.slice none 0 0, .int .i64 0, .int .i64 x66, .slice (some ⟨b74, 0, none⟩) 1 1, .int .i64 x67] h75 fun h76 =>
          ∃ (a77 : Option Addr) (la77 ca77 : Nat), cellH h76 ⟨b3, 0, none⟩ = some (.slice a77 la77 ca77) ∧
          ∃ x78 : Int, cellH h76 ⟨b3, 1, none⟩ = some (.int .i64 x78) ∧
          ∃ x79 : Int, cellH h76 ⟨b3, 2, none⟩ = some (.int .i64 x79) ∧
          ∃ (a80 : Option Addr) (la80 ca80 : Nat), cellH h76 ⟨b3, 3, none⟩ = some (.slice a80 la80 ca80) ∧
          ∃ x81 : Int, cellH h76 ⟨b3, 4, none⟩ = some (.int .i64 x81) ∧
          R (.agg #[.slice a77 la77 ca77, .int .i64 x78, .int .i64 x79, .slice a80 la80 ca80, .int .i64 x81]) h76)
        (cond (x24 == (5 : Int))
          (∃ (a82 : Option Addr) (la82 ca82 : Nat), cellH h23 ⟨b21, 6, none⟩ = some (.slice a82 la82 ca82) ∧
            CallsH Tryd.prog 29 #[.slice a82 la82 ca82] h23 fun v83 h84 =>
            ∃ (a85 : Option Addr) (la85 ca85 : Nat), ∃ x86 : Int, v83 = .tuple #[.slice a85 la85 ca85, .int .i64 x86] ∧
            storeL ⟨b3, 0, none⟩ 0 [.slice a85 la85 ca85, .int .i64 0, .int .i64 0, .slice none 0 0, .int .i64 x86] h84 fun h87 =>
            ∃ (a88 : Option Addr) (la88 ca88 : Nat), cellH h87 ⟨b3, 0, none⟩ = some (.slice a88 la88 ca88) ∧
            ∃ x89 : Int, cellH h87 ⟨b3, 1, none⟩ = some (.int .i64 x89) ∧
            ∃ x90 : Int, cellH h87 ⟨b3, 2, none⟩ = some (.int .i64 x90) ∧
            ∃ (a91 : Option Addr) (la91 ca91 : Nat), cellH h87 ⟨b3, 3, none⟩ = some (.slice a91 la91 ca91) ∧
            ∃ x92 : Int, cellH h87 ⟨b3, 4, none⟩ = some (.int .i64 x92) ∧
            R (.agg #[.slice a88 la88 ca88, .int .i64 x89, .int .i64 x90, .slice a91 la91 ca91, .int .i64 x92]) h87)
          (cond (x24 == (6 : Int))
            (∃ (a93 : Option Addr) (la93 ca93 : Nat), cellH h23 ⟨b21, 2, none⟩ = some (.slice a93 la93 ca93) ∧
              CallsH Tryd.prog 32 #[.slice a93 la93 ca93] h23 fun v94 h95 =>
              ∃ (a96 : Option Addr) (la96 ca96 : Nat), ∃ x97 : Int, v94 = .tuple #[.slice a96 la96 ca96, .int .i64 x97] ∧
              storeL ⟨b3, 0, none⟩ 0 [.slice none 0 0, .int .i64 0, .int .i64 0, .slice a96 la96 ca96, .int .i64 x97] h95 fun h98 =>
              ∃ (a99 : Option Addr) (la99 ca99 : Nat), cellH h98 ⟨b3, 0, none⟩ = some (.slice a99 la99 ca99) ∧
              ∃ x100 : Int, cellH h98 ⟨b3, 1, none⟩ = some (.int .i64 x100) ∧
              ∃ x101 : Int, cellH h98 ⟨b3, 2, none⟩ = some (.int .i64 x101) ∧
              ∃ (a102 : Option Addr) (la102 ca102 : Nat), cellH h98 ⟨b3, 3, none⟩ = some (.slice a102 la102 ca102) ∧
              ∃ x103 : Int, cellH h98 ⟨b3, 4, none⟩ = some (.int .i64 x103) ∧
              R (.agg #[.slice a99 la99 ca99, .int .i64 x100, .int .i64 x101, .slice a102 la102 ca102, .int .i64 x103]) h98)
            (storeL ⟨b3, 0, none⟩ 0 [.slice none 0 0, .int .i64 0, .int .i64 0, .slice none 0 0, .int .i64 0] h23 fun h104 =>
              ∃ (a105 : Option Addr) (la105 ca105 : Nat), cellH h104 ⟨b3, 0, none⟩ = some (.slice a105 la105 ca105) ∧
              ∃ x106 : Int, cellH h104 ⟨b3, 1, none⟩ = some (.int .i64 x106) ∧
              ∃ x107 : Int, cellH h104 ⟨b3, 2, none⟩ = some (.int .i64 x107) ∧
              ∃ (a108 : Option Addr) (la108 ca108 : Nat), cellH h104 ⟨b3, 3, none⟩ = some (.slice a108 la108 ca108) ∧
              ∃ x109 : Int, cellH h104 ⟨b3, 4, none⟩ = some (.int .i64 x109) ∧
              R (.agg #[.slice a105 la105 ca105, .int .i64 x106, .int .i64 x107, .slice a108 la108 ca108, .int .i64 x109]) h104))))))
theorem vf41 (a0x_0 : Int) (a0x_1 : Int) (a0x_2 : Option Addr) (la0x_2 ca0x_2 : Nat) (a0x_3 : ByteArray) (a0x_4 : Int) (a0x_5 : Option Addr) (la0x_5 ca0x_5 : Nat) (a0x_6 : Option Addr) (la0x_6 ca0x_6 : Nat) (h : Heap) (R : KV) (hF : F41 a0x_0 a0x_1 a0x_2 la0x_2 ca0x_2 a0x_3 a0x_4 a0x_5 la0x_5 ca0x_5 a0x_6 la0x_6 ca0x_6 h R) : CallsH Tryd.prog 41 #[.agg #[.int .i64 a0x_0, .int .i64 a0x_1, .slice a0x_2 la0x_2 ca0x_2, .string a0x_3, .int .i64 a0x_4, .slice a0x_5 la0x_5 ca0x_5, .slice a0x_6 la0x_6 ca0x_6]] h R :=
  calls_of_vc (A := an41) (fn := Tryd.f41) (c := c41) (args := [.agg #[.int .i64 a0x_0, .int .i64 a0x_1, .slice a0x_2 la0x_2 ca0x_2, .string a0x_3, .int .i64 a0x_4, .slice a0x_5 la0x_5 ca0x_5, .slice a0x_6 la0x_6 ca0x_6]]) Tryd.func41 (by kernel_rfl) mixed (by kernel_rfl) (Eq.mp (by kernel_rfl : F41 a0x_0 a0x_1 a0x_2 la0x_2 ca0x_2 a0x_3 a0x_4 a0x_5 la0x_5 ca0x_5 a0x_6 la0x_6 ca0x_6 h R = vcF Tryd.prog an41 Tryd.f41 c41 [.agg #[.int .i64 a0x_0, .int .i64 a0x_1, .slice a0x_2 la0x_2 ca0x_2, .string a0x_3, .int .i64 a0x_4, .slice a0x_5 la0x_5 ca0x_5, .slice a0x_6 la0x_6 ca0x_6]] h R) hF)
/-! ### 42 refrain/refrainlaw3.agree -/
noncomputable def c42 : Code := match Tryd.f42.body with | some c => c | none => .skip
noncomputable def an42 : Ann := { loops := fun i => [], draws := fun i => #[], joins := fun i => none }
def F42 (a0a_0 : Option Addr) (la0a_0 ca0a_0 : Nat) (a0a_1 : Int) (a0a_2 : Int) (a0a_3 : Option Addr) (la0a_3 ca0a_3 : Nat) (a0a_4 : Int) (a1b_0 : Option Addr) (la1b_0 ca1b_0 : Nat) (a1b_1 : Int) (a1b_2 : Int) (a1b_3 : Option Addr) (la1b_3 ca1b_3 : Nat) (a1b_4 : Int) (h : Heap) (R : KV) : Prop :=
  VNew h (.cells #[.slice a0a_0 la0a_0 ca0a_0, .int .i64 a0a_1, .int .i64 a0a_2, .slice a0a_3 la0a_3 ca0a_3, .int .i64 a0a_4] 75) fun b1 h2 =>
  VNew h2 (.cells #[.slice a1b_0 la1b_0 ca1b_0, .int .i64 a1b_1, .int .i64 a1b_2, .slice a1b_3 la1b_3 ca1b_3, .int .i64 a1b_4] 75) fun b3 h4 =>
  ∃ x5 : Int, cellH h4 ⟨b1, 1, none⟩ = some (.int .i64 x5) ∧
  ∃ x6 : Int, cellH h4 ⟨b3, 1, none⟩ = some (.int .i64 x6) ∧
  cond (x5 == x6) (∃ x7 : Int, cellH h4 ⟨b1, 2, none⟩ = some (.int .i64 x7) ∧
    ∃ x8 : Int, cellH h4 ⟨b3, 2, none⟩ = some (.int .i64 x8) ∧
    cond (x7 == x8) (∃ x9 : Int, cellH h4 ⟨b1, 4, none⟩ = some (.int .i64 x9) ∧
      ∃ x10 : Int, cellH h4 ⟨b3, 4, none⟩ = some (.int .i64 x10) ∧
      cond (x9 == x10) (∃ (a11 : Option Addr) (la11 ca11 : Nat), cellH h4 ⟨b1, 0, none⟩ = some (.slice a11 la11 ca11) ∧
        ∃ (a12 : Option Addr) (la12 ca12 : Nat), cellH h4 ⟨b3, 0, none⟩ = some (.slice a12 la12 ca12) ∧
        CallsH Tryd.prog 15 #[.slice a11 la11 ca11, .slice a12 la12 ca12] h4 fun v13 h14 =>
        ∃ b15 : Bool, v13 = .bool b15 ∧
        cond b15 (∃ (a16 : Option Addr) (la16 ca16 : Nat), cellH h14 ⟨b1, 3, none⟩ = some (.slice a16 la16 ca16) ∧
          ∃ (a17 : Option Addr) (la17 ca17 : Nat), cellH h14 ⟨b3, 3, none⟩ = some (.slice a17 la17 ca17) ∧
          CallsH Tryd.prog 33 #[.slice a16 la16 ca16, .slice a17 la17 ca17] h14 fun v18 h19 =>
          ∃ b20 : Bool, v18 = .bool b20 ∧
          R (.bool b20) h19) (R (.bool false) h14)) (R (.bool false) h4)) (R (.bool false) h4)) (R (.bool false) h4)
theorem vf42 (a0a_0 : Option Addr) (la0a_0 ca0a_0 : Nat) (a0a_1 : Int) (a0a_2 : Int) (a0a_3 : Option Addr) (la0a_3 ca0a_3 : Nat) (a0a_4 : Int) (a1b_0 : Option Addr) (la1b_0 ca1b_0 : Nat) (a1b_1 : Int) (a1b_2 : Int) (a1b_3 : Option Addr) (la1b_3 ca1b_3 : Nat) (a1b_4 : Int) (h : Heap) (R : KV) (hF : F42 a0a_0 la0a_0 ca0a_0 a0a_1 a0a_2 a0a_3 la0a_3 ca0a_3 a0a_4 a1b_0 la1b_0 ca1b_0 a1b_1 a1b_2 a1b_3 la1b_3 ca1b_3 a1b_4 h R) : CallsH Tryd.prog 42 #[.agg #[.slice a0a_0 la0a_0 ca0a_0, .int .i64 a0a_1, .int .i64 a0a_2, .slice a0a_3 la0a_3 ca0a_3, .int .i64 a0a_4], .agg #[.slice a1b_0 la1b_0 ca1b_0, .int .i64 a1b_1, .int .i64 a1b_2, .slice a1b_3 la1b_3 ca1b_3, .int .i64 a1b_4]] h R :=
  calls_of_vc (A := an42) (fn := Tryd.f42) (c := c42) (args := [.agg #[.slice a0a_0 la0a_0 ca0a_0, .int .i64 a0a_1, .int .i64 a0a_2, .slice a0a_3 la0a_3 ca0a_3, .int .i64 a0a_4], .agg #[.slice a1b_0 la1b_0 ca1b_0, .int .i64 a1b_1, .int .i64 a1b_2, .slice a1b_3 la1b_3 ca1b_3, .int .i64 a1b_4]]) Tryd.func42 (by kernel_rfl) mixed (by kernel_rfl) (Eq.mp (by kernel_rfl : F42 a0a_0 la0a_0 ca0a_0 a0a_1 a0a_2 a0a_3 la0a_3 ca0a_3 a0a_4 a1b_0 la1b_0 ca1b_0 a1b_1 a1b_2 a1b_3 la1b_3 ca1b_3 a1b_4 h R = vcF Tryd.prog an42 Tryd.f42 c42 [.agg #[.slice a0a_0 la0a_0 ca0a_0, .int .i64 a0a_1, .int .i64 a0a_2, .slice a0a_3 la0a_3 ca0a_3, .int .i64 a0a_4], .agg #[.slice a1b_0 la1b_0 ca1b_0, .int .i64 a1b_1, .int .i64 a1b_2, .slice a1b_3 la1b_3 ca1b_3, .int .i64 a1b_4]] h R) hF)
/-! ### 43 refrain/refrainlaw3.weight -/
noncomputable def c43 : Code := match Tryd.f43.body with | some c => c | none => .skip
noncomputable def an43 : Ann := { loops := fun i => match i with | 3 => [(3, .int .i64), (4, .int .i64)] | _ => [], draws := fun i => #[], joins := fun i => none }
def F43 (a0a_0 : Option Addr) (la0a_0 ca0a_0 : Nat) (a0a_1 : Int) (a0a_2 : Int) (a0a_3 : Option Addr) (la0a_3 ca0a_3 : Nat) (a0a_4 : Int) (h : Heap) (R : KV) : Prop :=
  VNew h (.cells #[.slice a0a_0 la0a_0 ca0a_0, .int .i64 a0a_1, .int .i64 a0a_2, .slice a0a_3 la0a_3 ca0a_3, .int .i64 a0a_4] 75) fun b1 h2 =>
  ∃ (a3 : Option Addr) (la3 ca3 : Nat), cellH h2 ⟨b1, 0, none⟩ = some (.slice a3 la3 ca3) ∧
  ∃ I4 : Nat → Heap → Int → Int → Prop, (∃ n5, I4 n5 h2 (IntKind.i64.wrap (1600 + (IntKind.i64.wrap (2 * (la3 : Int))))) 0) ∧
  ∀ (n5 : Nat) (h6 : Heap) (g7 : Env) (n_8 : Int) (i_9 : Int), I4 n5 h6 n_8 i_9 →
  ∃ (a11 : Option Addr) (la11 ca11 : Nat), cellH h6 ⟨b1, 3, none⟩ = some (.slice a11 la11 ca11) ∧
  cond (decide (i_9 < (la11 : Int)))
  (∃ (a12 : Option Addr) (la12 ca12 : Nat), cellH h6 ⟨b1, 3, none⟩ = some (.slice a12 la12 ca12) ∧
    VIdx a12 la12 i_9 3 fun a13 =>
    ∃ (a14 : Option Addr) (la14 ca14 : Nat), cellH h6 ⟨a13.block, a13.off + 2, none⟩ = some (.slice a14 la14 ca14) ∧
    ∃ m10, m10 < n5 ∧ I4 m10 h6 (IntKind.i64.wrap ((IntKind.i64.wrap (n_8 + 1000)) + (IntKind.i64.wrap (90 * (la14 : Int))))) (IntKind.i64.wrap (i_9 + 1)))
  (R (.int .i64 n_8) h6)
theorem vf43 (a0a_0 : Option Addr) (la0a_0 ca0a_0 : Nat) (a0a_1 : Int) (a0a_2 : Int) (a0a_3 : Option Addr) (la0a_3 ca0a_3 : Nat) (a0a_4 : Int) (h : Heap) (R : KV) (hF : F43 a0a_0 la0a_0 ca0a_0 a0a_1 a0a_2 a0a_3 la0a_3 ca0a_3 a0a_4 h R) : CallsH Tryd.prog 43 #[.agg #[.slice a0a_0 la0a_0 ca0a_0, .int .i64 a0a_1, .int .i64 a0a_2, .slice a0a_3 la0a_3 ca0a_3, .int .i64 a0a_4]] h R :=
  calls_of_vc (A := an43) (fn := Tryd.f43) (c := c43) (args := [.agg #[.slice a0a_0 la0a_0 ca0a_0, .int .i64 a0a_1, .int .i64 a0a_2, .slice a0a_3 la0a_3 ca0a_3, .int .i64 a0a_4]]) Tryd.func43 (by kernel_rfl) mixed (by kernel_rfl) (Eq.mp (by kernel_rfl : F43 a0a_0 la0a_0 ca0a_0 a0a_1 a0a_2 a0a_3 la0a_3 ca0a_3 a0a_4 h R = vcF Tryd.prog an43 Tryd.f43 c43 [.agg #[.slice a0a_0 la0a_0 ca0a_0, .int .i64 a0a_1, .int .i64 a0a_2, .slice a0a_3 la0a_3 ca0a_3, .int .i64 a0a_4]] h R) hF)
/-! ### 62 (refrain/refrainlaw3.Book).fillBytes -/
noncomputable def c62 : Code := match Tryd.f62.body with | some c => c | none => .skip
noncomputable def an62 : Ann := { loops := fun i => match i with | 2 => [(5, .int .i64)] | _ => [], draws := fun i => #[], joins := fun i => none }
def F62 (a0b : Option Addr) (a1l : Option Addr) (la1l ca1l : Nat) (h : Heap) (R : KV) : Prop :=
  VSome a0b fun a1 =>
  ∃ (a2 : Option Addr) (la2 ca2 : Nat), cellH h a1 = some (.slice a2 la2 ca2) ∧
  (2 : Int) ≠ (0 : Int) ∧
  ∃ I3 : Nat → Heap → Int → Prop, (∃ n4, I3 n4 h 0) ∧
  ∀ (n4 : Nat) (h5 : Heap) (g6 : Env) (i_7 : Int), I3 n4 h5 i_7 →
  cond (decide (i_7 < (la1l : Int)))
  (CallsH Tryd.prog 64 #[.int .i64 (IntKind.i64.wrap (1 + (IntKind.i64.wrap (Int.tdiv (la2 : Int) 2)))), .int .i64 i_7] h5 fun v9 h10 =>
    ∃ x11 : Int, v9 = .int .u8 x11 ∧
    VIdx a1l la1l i_7 1 fun a12 =>
    VStore h10 a12 (.int .u8 x11) fun h13 =>
    ∃ m8, m8 < n4 ∧ I3 m8 h13 (IntKind.i64.wrap (i_7 + 1)))
  (VSome a0b fun a14 =>
    ∃ x15 : Int, cellH h5 ⟨a14.block, a14.off + 3, none⟩ = some (.int .i64 x15) ∧
    VSome a0b fun a16 =>
    VStore h5 ⟨a16.block, a16.off + 3, none⟩ (.int .i64 (IntKind.i64.wrap ((IntKind.i64.wrap (x15 + 800)) + (IntKind.i64.wrap (2 * (la1l : Int)))))) fun h17 =>
    VSome a0b fun a18 =>
    ∃ x19 : Int, cellH h17 ⟨a18.block, a18.off + 3, none⟩ = some (.int .i64 x19) ∧
    cond (decide (x19 ≤ (33554432 : Int)))
    (VSome a0b fun a20 =>
      ∃ (a21 : Option Addr) (la21 ca21 : Nat), cellH h17 a20 = some (.slice a21 la21 ca21) ∧
      VNew h17 (.cells #[.slice a1l la1l ca1l, .slice none 0 0] 30) fun b22 h23 =>
      RunsTo Tryd.prog (Builtin.append_ #[23, 23] 23 #[.slice a21 la21 ca21, .slice (some ⟨b22, 0, none⟩) 2 2]) h23 fun v24 h25 =>
      ∃ (a26 : Option Addr) (la26 ca26 : Nat), v24 = .slice a26 la26 ca26 ∧
      VSome a0b fun a27 =>
      VStore h25 a27 (.slice a26 la26 ca26) fun h28 =>
      R (.tuple #[]) h28)
    (R (.tuple #[]) h17))
theorem vf62 (a0b : Option Addr) (a1l : Option Addr) (la1l ca1l : Nat) (h : Heap) (R : KV) (hF : F62 a0b a1l la1l ca1l h R) : CallsH Tryd.prog 62 #[.pointer a0b, .slice a1l la1l ca1l] h R :=
  calls_of_vc (A := an62) (fn := Tryd.f62) (c := c62) (args := [.pointer a0b, .slice a1l la1l ca1l]) Tryd.func62 (by kernel_rfl) mixed (by kernel_rfl) (Eq.mp (by kernel_rfl : F62 a0b a1l la1l ca1l h R = vcF Tryd.prog an62 Tryd.f62 c62 [.pointer a0b, .slice a1l la1l ca1l] h R) hF)
/-! ### 63 (refrain/refrainlaw3.Book).grow -/
noncomputable def c63 : Code := match Tryd.f63.body with | some c => c | none => .skip
noncomputable def an63 : Ann := { loops := fun i => match i with | 1 => [(2, .int .i64)] | 5 => [(3, .slc), (4, .int .i64)] | 10 => [(5, .int .i64)] | 14 => [(6, .slc), (7, .int .i64)] | 19 => [(8, .int .i64)] | 23 => [(9, .slc), (10, .int .i64)] | _ => [], draws := fun i => match i with | 5 => #[0, 0, 2, 6, 14, 0, 62, 126, 254, 0, 512, 1536, 3584, 0, 15872, 32256, 65024, 131070, 262142, 524287] | 14 => #[0, 0, 2, 6, 14, 0, 62, 126, 254, 0, 512, 1536, 3584, 0, 15872, 32256, 65024, 131070, 262142, 524287] | 23 => #[0, 0, 2, 6, 14, 0, 62, 126, 254, 0, 512, 1536, 3584, 0, 15872, 32256, 65024, 131070, 262142, 524287] | 27 => #[0, 0, 2, 6, 14, 30, 0, 64, 192, 448, 960, 0, 2048, 6144, 14336, 30720, 65534, 131071, 262143, 524287] | _ => #[], joins := fun i => none }
def F63 (a0b : Option Addr) (h : Heap) (R : KV) : Prop :=
  VSome a0b fun a1 =>
  VIdx (some ⟨a1.block, a1.off + 4, none⟩) 3 0 1 fun a2 =>
  ∃ x3 : Int, cellH h a2 = some (.int .i64 x3) ∧
  ∃ I4 : Nat → Heap → Int → Prop, (∃ n5, I4 n5 h x3) ∧
  ∀ (n5 : Nat) (h6 : Heap) (g7 : Env) (i_8 : Int), I4 n5 h6 i_8 →
  VSome a0b fun a10 =>
  ∃ (a11 : Option Addr) (la11 ca11 : Nat), cellH h6 a10 = some (.slice a11 la11 ca11) ∧
  cond (decide (i_8 < (la11 : Int)))
  (VSome a0b fun a12 =>
    ∃ (a13 : Option Addr) (la13 ca13 : Nat), cellH h6 a12 = some (.slice a13 la13 ca13) ∧
    VIdx a13 la13 i_8 1 fun a14 =>
    ∃ (a15 : Option Addr) (la15 ca15 : Nat), cellH h6 a14 = some (.slice a15 la15 ca15) ∧
    ∃ I16 : Nat → Heap → Option Addr → Nat → Nat → Int → Prop, (∃ n17, I16 n17 h6 a15 la15 ca15 0) ∧
    ∀ (n17 : Nat) (h18 : Heap) (g19 : Env) (g_20 : Option Addr) (lg_20 cg_20 : Nat) (j_21 : Int), I16 n17 h18 g_20 lg_20 cg_20 j_21 →
    VSome a0b fun a23 =>
    ∃ (a24 : Option Addr) (la24 ca24 : Nat), cellH h18 a23 = some (.slice a24 la24 ca24) ∧
    VIdx a24 la24 i_8 1 fun a25 =>
    ∃ (a26 : Option Addr) (la26 ca26 : Nat), cellH h18 a25 = some (.slice a26 la26 ca26) ∧
    VSome a0b fun a27 =>
    ∃ (a28 : Option Addr) (la28 ca28 : Nat), cellH h18 a27 = some (.slice a28 la28 ca28) ∧
    VIdx a28 la28 i_8 1 fun a29 =>
    ∃ (a30 : Option Addr) (la30 ca30 : Nat), cellH h18 a29 = some (.slice a30 la30 ca30) ∧
    CallsH Tryd.prog 82 #[.int .i64 (IntKind.i64.wrap ((ca26 : Int) - (la30 : Int)))] h18 fun v31 h32 =>
    ∃ x33 : Int, v31 = .int .i64 x33 ∧
    cond (decide (j_21 < x33))
    ((2 : Int) ≠ (0 : Int) ∧
      CallsH Tryd.prog 64 #[.int .i64 (IntKind.i64.wrap (1 + (IntKind.i64.wrap (Int.tdiv i_8 2)))), .int .i64 (lg_20 : Int)] h32 fun v34 h35 =>
      ∃ x36 : Int, v34 = .int .u8 x36 ∧
      VNew h35 (.cells #[.int .u8 x36] 5) fun b37 h38 =>
      RunsTo Tryd.prog (Builtin.append_ #[30, 30] 30 #[.slice g_20 lg_20 cg_20, .slice (some ⟨b37, 0, none⟩) 1 1]) h38 fun v39 h40 =>
      ∃ (a41 : Option Addr) (la41 ca41 : Nat), v39 = .slice a41 la41 ca41 ∧
      ∃ m22, m22 < n17 ∧ I16 m22 h40 a41 la41 ca41 (IntKind.i64.wrap (j_21 + 1)))
    (VSome a0b fun a42 =>
      ∃ (a43 : Option Addr) (la43 ca43 : Nat), cellH h32 a42 = some (.slice a43 la43 ca43) ∧
      VIdx a43 la43 (IntKind.i64.wrap (i_8 + 1)) 1 fun a44 =>
      VStore h32 a44 (.slice g_20 lg_20 cg_20) fun h45 =>
      ∃ m9, m9 < n5 ∧ I4 m9 h45 (IntKind.i64.wrap (i_8 + 2))))
  (VSome a0b fun a46 =>
    VIdx (some ⟨a46.block, a46.off + 4, none⟩) 3 1 1 fun a47 =>
    ∃ x48 : Int, cellH h6 a47 = some (.int .i64 x48) ∧
    ∃ I49 : Nat → Heap → Int → Prop, (∃ n50, I49 n50 h6 x48) ∧
    ∀ (n50 : Nat) (h51 : Heap) (g52 : Env) (i_53 : Int), I49 n50 h51 i_53 →
    VSome a0b fun a55 =>
    ∃ (a56 : Option Addr) (la56 ca56 : Nat), cellH h51 ⟨a55.block, a55.off + 1, none⟩ = some (.slice a56 la56 ca56) ∧
    cond (decide (i_53 < (la56 : Int)))
    (VSome a0b fun a57 =>
      ∃ (a58 : Option Addr) (la58 ca58 : Nat), cellH h51 ⟨a57.block, a57.off + 1, none⟩ = some (.slice a58 la58 ca58) ∧
      VIdx a58 la58 i_53 1 fun a59 =>
      ∃ (a60 : Option Addr) (la60 ca60 : Nat), cellH h51 a59 = some (.slice a60 la60 ca60) ∧
      ∃ I61 : Nat → Heap → Option Addr → Nat → Nat → Int → Prop, (∃ n62, I61 n62 h51 a60 la60 ca60 0) ∧
      ∀ (n62 : Nat) (h63 : Heap) (g64 : Env) (g_65 : Option Addr) (lg_65 cg_65 : Nat) (j_66 : Int), I61 n62 h63 g_65 lg_65 cg_65 j_66 →
      VSome a0b fun a68 =>
      ∃ (a69 : Option Addr) (la69 ca69 : Nat), cellH h63 ⟨a68.block, a68.off + 1, none⟩ = some (.slice a69 la69 ca69) ∧
      VIdx a69 la69 i_53 1 fun a70 =>
      ∃ (a71 : Option Addr) (la71 ca71 : Nat), cellH h63 a70 = some (.slice a71 la71 ca71) ∧
      VSome a0b fun a72 =>
      ∃ (a73 : Option Addr) (la73 ca73 : Nat), cellH h63 ⟨a72.block, a72.off + 1, none⟩ = some (.slice a73 la73 ca73) ∧
      VIdx a73 la73 i_53 1 fun a74 =>
      ∃ (a75 : Option Addr) (la75 ca75 : Nat), cellH h63 a74 = some (.slice a75 la75 ca75) ∧
      CallsH Tryd.prog 82 #[.int .i64 (IntKind.i64.wrap ((ca71 : Int) - (la75 : Int)))] h63 fun v76 h77 =>
      ∃ x78 : Int, v76 = .int .i64 x78 ∧
      cond (decide (j_66 < x78))
      ((2 : Int) ≠ (0 : Int) ∧
        CallsH Tryd.prog 65 #[.int .i64 (IntKind.i64.wrap (1 + (IntKind.i64.wrap (Int.tdiv i_53 2))))] h77 fun v79 h80 =>
        ∃ x81 : Int, ∃ x82 : Int, ∃ s83 : ByteArray, ∃ b84 : Bool, v79 = .agg #[.int .i64 x81, .int .i64 x82, .string s83, .bool b84] ∧
        VNew h80 (.cells #[.int .i64 x81, .int .i64 x82, .string s83, .bool b84] 83) fun b85 h86 =>
        RunsTo Tryd.prog (Builtin.append_ #[25, 25] 25 #[.slice g_65 lg_65 cg_65, .slice (some ⟨b85, 0, none⟩) 1 1]) h86 fun v87 h88 =>
        ∃ (a89 : Option Addr) (la89 ca89 : Nat), v87 = .slice a89 la89 ca89 ∧
        ∃ m67, m67 < n62 ∧ I61 m67 h88 a89 la89 ca89 (IntKind.i64.wrap (j_66 + 1)))
      (VSome a0b fun a90 =>
        ∃ (a91 : Option Addr) (la91 ca91 : Nat), cellH h77 ⟨a90.block, a90.off + 1, none⟩ = some (.slice a91 la91 ca91) ∧
        VIdx a91 la91 (IntKind.i64.wrap (i_53 + 1)) 1 fun a92 =>
        VStore h77 a92 (.slice g_65 lg_65 cg_65) fun h93 =>
        ∃ m54, m54 < n50 ∧ I49 m54 h93 (IntKind.i64.wrap (i_53 + 2))))
    (VSome a0b fun a94 =>
      VIdx (some ⟨a94.block, a94.off + 4, none⟩) 3 2 1 fun a95 =>
      ∃ x96 : Int, cellH h51 a95 = some (.int .i64 x96) ∧
      ∃ I97 : Nat → Heap → Int → Prop, (∃ n98, I97 n98 h51 x96) ∧
      ∀ (n98 : Nat) (h99 : Heap) (g100 : Env) (i_101 : Int), I97 n98 h99 i_101 →
      VSome a0b fun a103 =>
      ∃ (a104 : Option Addr) (la104 ca104 : Nat), cellH h99 ⟨a103.block, a103.off + 2, none⟩ = some (.slice a104 la104 ca104) ∧
      cond (decide (i_101 < (la104 : Int)))
      (VSome a0b fun a105 =>
        ∃ (a106 : Option Addr) (la106 ca106 : Nat), cellH h99 ⟨a105.block, a105.off + 2, none⟩ = some (.slice a106 la106 ca106) ∧
        VIdx a106 la106 i_101 1 fun a107 =>
        ∃ (a108 : Option Addr) (la108 ca108 : Nat), cellH h99 a107 = some (.slice a108 la108 ca108) ∧
        ∃ I109 : Nat → Heap → Option Addr → Nat → Nat → Int → Prop, (∃ n110, I109 n110 h99 a108 la108 ca108 0) ∧
        ∀ (n110 : Nat) (h111 : Heap) (g112 : Env) (g_113 : Option Addr) (lg_113 cg_113 : Nat) (j_114 : Int), I109 n110 h111 g_113 lg_113 cg_113 j_114 →
        VSome a0b fun a116 =>
        ∃ (a117 : Option Addr) (la117 ca117 : Nat), cellH h111 ⟨a116.block, a116.off + 2, none⟩ = some (.slice a117 la117 ca117) ∧
        VIdx a117 la117 i_101 1 fun a118 =>
        ∃ (a119 : Option Addr) (la119 ca119 : Nat), cellH h111 a118 = some (.slice a119 la119 ca119) ∧
        VSome a0b fun a120 =>
        ∃ (a121 : Option Addr) (la121 ca121 : Nat), cellH h111 ⟨a120.block, a120.off + 2, none⟩ = some (.slice a121 la121 ca121) ∧
        VIdx a121 la121 i_101 1 fun a122 =>
        ∃ (a123 : Option Addr) (la123 ca123 : Nat), cellH h111 a122 = some (.slice a123 la123 ca123) ∧
        CallsH Tryd.prog 82 #[.int .i64 (IntKind.i64.wrap ((ca119 : Int) - (la123 : Int)))] h111 fun v124 h125 =>
        ∃ x126 : Int, v124 = .int .i64 x126 ∧
        cond (decide (j_114 < x126))
        ((2 : Int) ≠ (0 : Int) ∧
          VNew h125 (.cells #[.string (ByteArray.mk #[]), .int .i64 (IntKind.i64.wrap (1 + (IntKind.i64.wrap (Int.tdiv i_101 2)))), .slice none 0 0] 27) fun b127 h128 =>
          RunsTo Tryd.prog (Builtin.append_ #[22, 22] 22 #[.slice g_113 lg_113 cg_113, .slice (some ⟨b127, 0, none⟩) 1 1]) h128 fun v129 h130 =>
          ∃ (a131 : Option Addr) (la131 ca131 : Nat), v129 = .slice a131 la131 ca131 ∧
          ∃ m115, m115 < n110 ∧ I109 m115 h130 a131 la131 ca131 (IntKind.i64.wrap (j_114 + 1)))
        (VSome a0b fun a132 =>
          ∃ (a133 : Option Addr) (la133 ca133 : Nat), cellH h125 ⟨a132.block, a132.off + 2, none⟩ = some (.slice a133 la133 ca133) ∧
          VIdx a133 la133 (IntKind.i64.wrap (i_101 + 1)) 1 fun a134 =>
          VStore h125 a134 (.slice g_113 lg_113 cg_113) fun h135 =>
          ∃ m102, m102 < n98 ∧ I97 m102 h135 (IntKind.i64.wrap (i_101 + 2))))
      (VSome a0b fun a136 =>
        ∃ (a137 : Option Addr) (la137 ca137 : Nat), cellH h99 a136 = some (.slice a137 la137 ca137) ∧
        VSome a0b fun a138 =>
        ∃ (a139 : Option Addr) (la139 ca139 : Nat), cellH h99 ⟨a138.block, a138.off + 1, none⟩ = some (.slice a139 la139 ca139) ∧
        VSome a0b fun a140 =>
        ∃ (a141 : Option Addr) (la141 ca141 : Nat), cellH h99 ⟨a140.block, a140.off + 2, none⟩ = some (.slice a141 la141 ca141) ∧
        VSome a0b fun a142 =>
        storeL ⟨a142.block, a142.off + 4, none⟩ 0 [.int .i64 (la137 : Int), .int .i64 (la139 : Int), .int .i64 (la141 : Int)] h99 fun h143 =>
        R (.tuple #[]) h143)))
theorem vf63 (a0b : Option Addr) (h : Heap) (R : KV) (hF : F63 a0b h R) : CallsH Tryd.prog 63 #[.pointer a0b] h R :=
  calls_of_vc (A := an63) (fn := Tryd.f63) (c := c63) (args := [.pointer a0b]) Tryd.func63 (by kernel_rfl) mixed (by kernel_rfl) (Eq.mp (by kernel_rfl : F63 a0b h R = vcF Tryd.prog an63 Tryd.f63 c63 [.pointer a0b] h R) hF)
/-! ### 66 (refrain/refrainlaw3.Book).fillEvents -/
noncomputable def c66 : Code := match Tryd.f66.body with | some c => c | none => .skip
noncomputable def an66 : Ann := { loops := fun i => match i with | 1 => [(4, .int .i64)] | 6 => [(7, .int .i64)] | 14 => [(9, .int .i64)] | _ => [], draws := fun i => #[], joins := fun i => match i with | 2 => some [(5, .slc), (6, .int .i64), (7, .int .i64)] | _ => none }
def F66 (a0b : Option Addr) (a1l : Option Addr) (la1l ca1l : Nat) (h : Heap) (R : KV) : Prop :=
  ∃ I1 : Nat → Heap → Int → Prop, (∃ n2, I1 n2 h 0) ∧
  ∀ (n2 : Nat) (h3 : Heap) (g4 : Env) (i_5 : Int), I1 n2 h3 i_5 →
  cond (decide (i_5 < (la1l : Int)))
  (∃ J7 : Heap → Option Addr → Nat → Nat → Int → Int → Prop, (VIdx a1l la1l i_5 3 fun a8 =>
      ∃ (a9 : Option Addr) (la9 ca9 : Nat), cellH h3 ⟨a8.block, a8.off + 2, none⟩ = some (.slice a9 la9 ca9) ∧
      VSome a0b fun a10 =>
      ∃ (a11 : Option Addr) (la11 ca11 : Nat), cellH h3 ⟨a10.block, a10.off + 1, none⟩ = some (.slice a11 la11 ca11) ∧
      (2 : Int) ≠ (0 : Int) ∧
      ∃ I12 : Nat → Heap → Int → Prop, (∃ n13, I12 n13 h3 0) ∧
      ∀ (n13 : Nat) (h14 : Heap) (g15 : Env) (j_16 : Int), I12 n13 h14 j_16 →
      cond (decide (j_16 < (la9 : Int)))
      (CallsH Tryd.prog 65 #[.int .i64 (IntKind.i64.wrap (1 + (IntKind.i64.wrap (Int.tdiv (la11 : Int) 2))))] h14 fun v18 h19 =>
        ∃ x20 : Int, ∃ x21 : Int, ∃ s22 : ByteArray, ∃ b23 : Bool, v18 = .agg #[.int .i64 x20, .int .i64 x21, .string s22, .bool b23] ∧
        VIdx a9 la9 j_16 4 fun a24 =>
        storeL a24 0 [.int .i64 x20, .int .i64 x21, .string s22, .bool b23] h19 fun h25 =>
        ∃ m17, m17 < n13 ∧ I12 m17 h25 (IntKind.i64.wrap (j_16 + 1)))
      (VSome a0b fun a26 =>
        ∃ x27 : Int, cellH h14 ⟨a26.block, a26.off + 3, none⟩ = some (.int .i64 x27) ∧
        VSome a0b fun a28 =>
        VStore h14 ⟨a28.block, a28.off + 3, none⟩ (.int .i64 (IntKind.i64.wrap ((IntKind.i64.wrap (x27 + 800)) + (IntKind.i64.wrap (90 * (la9 : Int)))))) fun h29 =>
        VSome a0b fun a30 =>
        ∃ x31 : Int, cellH h29 ⟨a30.block, a30.off + 3, none⟩ = some (.int .i64 x31) ∧
        cond (decide (x31 ≤ (33554432 : Int)))
        (VSome a0b fun a32 =>
          ∃ (a33 : Option Addr) (la33 ca33 : Nat), cellH h29 ⟨a32.block, a32.off + 1, none⟩ = some (.slice a33 la33 ca33) ∧
          VNew h29 (.cells #[.slice a9 la9 ca9, .slice none 0 0] 25) fun b34 h35 =>
          RunsTo Tryd.prog (Builtin.append_ #[49, 49] 49 #[.slice a33 la33 ca33, .slice (some ⟨b34, 0, none⟩) 2 2]) h35 fun v36 h37 =>
          ∃ (a38 : Option Addr) (la38 ca38 : Nat), v36 = .slice a38 la38 ca38 ∧
          VSome a0b fun a39 =>
          VStore h37 ⟨a39.block, a39.off + 1, none⟩ (.slice a38 la38 ca38) fun h40 =>
          J7 h40 a9 la9 ca9 (IntKind.i64.wrap (1 + (IntKind.i64.wrap (Int.tdiv (la11 : Int) 2)))) j_16)
        (J7 h29 a9 la9 ca9 (IntKind.i64.wrap (1 + (IntKind.i64.wrap (Int.tdiv (la11 : Int) 2)))) j_16))) ∧
    ∀ (h41 : Heap) (g42 : Env) (v_43 : Option Addr) (lv_43 cv_43 : Nat) (m_44 : Int) (j_45 : Int), J7 h41 v_43 lv_43 cv_43 m_44 j_45 →
    ∃ m6, m6 < n2 ∧ I1 m6 h41 (IntKind.i64.wrap (i_5 + 1)))
  (VSome a0b fun a46 =>
    ∃ (a47 : Option Addr) (la47 ca47 : Nat), cellH h3 ⟨a46.block, a46.off + 2, none⟩ = some (.slice a47 la47 ca47) ∧
    (2 : Int) ≠ (0 : Int) ∧
    ∃ I48 : Nat → Heap → Int → Prop, (∃ n49, I48 n49 h3 0) ∧
    ∀ (n49 : Nat) (h50 : Heap) (g51 : Env) (i_52 : Int), I48 n49 h50 i_52 →
    cond (decide (i_52 < (la1l : Int)))
    (VIdx a1l la1l i_52 3 fun a54 =>
      storeL a54 0 [.string (ByteArray.mk #[]), .int .i64 (IntKind.i64.wrap (1 + (IntKind.i64.wrap (Int.tdiv (la47 : Int) 2)))), .slice none 0 0] h50 fun h55 =>
      ∃ m53, m53 < n49 ∧ I48 m53 h55 (IntKind.i64.wrap (i_52 + 1)))
    (VSome a0b fun a56 =>
      ∃ x57 : Int, cellH h50 ⟨a56.block, a56.off + 3, none⟩ = some (.int .i64 x57) ∧
      VSome a0b fun a58 =>
      VStore h50 ⟨a58.block, a58.off + 3, none⟩ (.int .i64 (IntKind.i64.wrap ((IntKind.i64.wrap (x57 + 800)) + (IntKind.i64.wrap (100 * (la1l : Int)))))) fun h59 =>
      VSome a0b fun a60 =>
      ∃ x61 : Int, cellH h59 ⟨a60.block, a60.off + 3, none⟩ = some (.int .i64 x61) ∧
      cond (decide (x61 ≤ (33554432 : Int)))
      (VSome a0b fun a62 =>
        ∃ (a63 : Option Addr) (la63 ca63 : Nat), cellH h59 ⟨a62.block, a62.off + 2, none⟩ = some (.slice a63 la63 ca63) ∧
        VNew h59 (.cells #[.slice a1l la1l ca1l, .slice none 0 0] 22) fun b64 h65 =>
        RunsTo Tryd.prog (Builtin.append_ #[48, 48] 48 #[.slice a63 la63 ca63, .slice (some ⟨b64, 0, none⟩) 2 2]) h65 fun v66 h67 =>
        ∃ (a68 : Option Addr) (la68 ca68 : Nat), v66 = .slice a68 la68 ca68 ∧
        VSome a0b fun a69 =>
        VStore h67 ⟨a69.block, a69.off + 2, none⟩ (.slice a68 la68 ca68) fun h70 =>
        R (.tuple #[]) h70)
      (R (.tuple #[]) h59)))
theorem vf66 (a0b : Option Addr) (a1l : Option Addr) (la1l ca1l : Nat) (h : Heap) (R : KV) (hF : F66 a0b a1l la1l ca1l h R) : CallsH Tryd.prog 66 #[.pointer a0b, .slice a1l la1l ca1l] h R :=
  calls_of_vc (A := an66) (fn := Tryd.f66) (c := c66) (args := [.pointer a0b, .slice a1l la1l ca1l]) Tryd.func66 (by kernel_rfl) mixed (by kernel_rfl) (Eq.mp (by kernel_rfl : F66 a0b a1l la1l ca1l h R = vcF Tryd.prog an66 Tryd.f66 c66 [.pointer a0b, .slice a1l la1l ca1l] h R) hF)
/-! ### 67 (refrain/refrainlaw3.Kept).bytes -/
noncomputable def c67 : Code := match Tryd.f67.body with | some c => c | none => .skip
noncomputable def an67 : Ann := { loops := fun i => [], draws := fun i => match i with | 3 => #[0, 0, 2, 6, 14, 0, 32, 96, 254, 511, 1023, 2047] | _ => #[], joins := fun i => none }
def F67 (a0k : Option Addr) (a1l : Option Addr) (la1l ca1l : Nat) (h : Heap) (R : KV) : Prop :=
  VSome a0k fun a1 =>
  ∃ x2 : Int, cellH h ⟨a1.block, a1.off + 4, none⟩ = some (.int .i64 x2) ∧
  VSome a0k fun a3 =>
  VStore h ⟨a3.block, a3.off + 4, none⟩ (.int .i64 (IntKind.i64.wrap ((IntKind.i64.wrap (x2 + 800)) + (IntKind.i64.wrap (2 * (la1l : Int)))))) fun h4 =>
  VSome a0k fun a5 =>
  ∃ x6 : Int, cellH h4 ⟨a5.block, a5.off + 4, none⟩ = some (.int .i64 x6) ∧
  cond (decide (x6 ≤ (33554432 : Int)))
  (VSome a0k fun a7 =>
    ∃ (a8 : Option Addr) (la8 ca8 : Nat), cellH h4 a7 = some (.slice a8 la8 ca8) ∧
    VNew h4 (.cells #[.slice a1l la1l ca1l] 30) fun b9 h10 =>
    RunsTo Tryd.prog (Builtin.append_ #[23, 23] 23 #[.slice a8 la8 ca8, .slice (some ⟨b9, 0, none⟩) 1 1]) h10 fun v11 h12 =>
    ∃ (a13 : Option Addr) (la13 ca13 : Nat), v11 = .slice a13 la13 ca13 ∧
    VSome a0k fun a14 =>
    VStore h12 a14 (.slice a13 la13 ca13) fun h15 =>
    VSome a0k fun a16 =>
    ∃ (a17 : Option Addr) (la17 ca17 : Nat), cellH h15 ⟨a16.block, a16.off + 1, none⟩ = some (.slice a17 la17 ca17) ∧
    RunsTo Tryd.prog (Builtin.append_ #[30, 30] 30 #[.slice none 0 0, .slice a1l la1l ca1l]) h15 fun v18 h19 =>
    ∃ (a20 : Option Addr) (la20 ca20 : Nat), v18 = .slice a20 la20 ca20 ∧
    (cellH h19 ⟨a16.block, a16.off + 1, none⟩ = some (.slice a17 la17 ca17)) ∧
    VNew h19 (.cells #[.slice a20 la20 ca20] 30) fun b21 h22 =>
    (cellH h22 ⟨a16.block, a16.off + 1, none⟩ = some (.slice a17 la17 ca17)) ∧
    RunsTo Tryd.prog (Builtin.append_ #[23, 23] 23 #[.slice a17 la17 ca17, .slice (some ⟨b21, 0, none⟩) 1 1]) h22 fun v23 h24 =>
    ∃ (a25 : Option Addr) (la25 ca25 : Nat), v23 = .slice a25 la25 ca25 ∧
    VSome a0k fun a26 =>
    VStore h24 ⟨a26.block, a26.off + 1, none⟩ (.slice a25 la25 ca25) fun h27 =>
    R (.tuple #[]) h27)
  (R (.tuple #[]) h4)
theorem vf67 (a0k : Option Addr) (a1l : Option Addr) (la1l ca1l : Nat) (h : Heap) (R : KV) (hF : F67 a0k a1l la1l ca1l h R) : CallsH Tryd.prog 67 #[.pointer a0k, .slice a1l la1l ca1l] h R :=
  calls_of_vc (A := an67) (fn := Tryd.f67) (c := c67) (args := [.pointer a0k, .slice a1l la1l ca1l]) Tryd.func67 (by kernel_rfl) mixed (by kernel_rfl) (Eq.mp (by kernel_rfl : F67 a0k a1l la1l ca1l h R = vcF Tryd.prog an67 Tryd.f67 c67 [.pointer a0k, .slice a1l la1l ca1l] h R) hF)
/-! ### 68 (refrain/refrainlaw3.Kept).events -/
noncomputable def c68 : Code := match Tryd.f68.body with | some c => c | none => .skip
noncomputable def an68 : Ann := { loops := fun i => match i with | 2 => [(4, .int .i64)] | _ => [], draws := fun i => match i with | 4 => #[0, 0, 2, 6, 14, 30, 0, 0, 192, 448, 960, 1984, 4032, 8190, 16383, 32767, 65535] | 7 => #[0, 0, 2, 6, 14, 0, 32, 96, 254, 511, 1023, 2047] | _ => #[], joins := fun i => none }
def F68 (a0k : Option Addr) (a1l : Option Addr) (la1l ca1l : Nat) (h : Heap) (R : KV) : Prop :=
  VSome a0k fun a1 =>
  ∃ x2 : Int, cellH h ⟨a1.block, a1.off + 4, none⟩ = some (.int .i64 x2) ∧
  VSome a0k fun a3 =>
  VStore h ⟨a3.block, a3.off + 4, none⟩ (.int .i64 (IntKind.i64.wrap (x2 + 800))) fun h4 =>
  ∃ I5 : Nat → Heap → Int → Prop, (∃ n6, I5 n6 h4 0) ∧
  ∀ (n6 : Nat) (h7 : Heap) (g8 : Env) (i_9 : Int), I5 n6 h7 i_9 →
  cond (decide (i_9 < (la1l : Int)))
  (VSome a0k fun a11 =>
    ∃ x12 : Int, cellH h7 ⟨a11.block, a11.off + 4, none⟩ = some (.int .i64 x12) ∧
    VIdx a1l la1l i_9 3 fun a13 =>
    ∃ (a14 : Option Addr) (la14 ca14 : Nat), cellH h7 ⟨a13.block, a13.off + 2, none⟩ = some (.slice a14 la14 ca14) ∧
    VSome a0k fun a15 =>
    VStore h7 ⟨a15.block, a15.off + 4, none⟩ (.int .i64 (IntKind.i64.wrap ((IntKind.i64.wrap (x12 + 1000)) + (IntKind.i64.wrap (90 * (la14 : Int)))))) fun h16 =>
    ∃ m10, m10 < n6 ∧ I5 m10 h16 (IntKind.i64.wrap (i_9 + 1)))
  (VSome a0k fun a17 =>
    ∃ x18 : Int, cellH h7 ⟨a17.block, a17.off + 4, none⟩ = some (.int .i64 x18) ∧
    cond (decide (x18 ≤ (33554432 : Int)))
    (VSome a0k fun a19 =>
      ∃ (a20 : Option Addr) (la20 ca20 : Nat), cellH h7 ⟨a19.block, a19.off + 2, none⟩ = some (.slice a20 la20 ca20) ∧
      VNew h7 (.cells #[.slice a1l la1l ca1l] 22) fun b21 h22 =>
      RunsTo Tryd.prog (Builtin.append_ #[48, 48] 48 #[.slice a20 la20 ca20, .slice (some ⟨b21, 0, none⟩) 1 1]) h22 fun v23 h24 =>
      ∃ (a25 : Option Addr) (la25 ca25 : Nat), v23 = .slice a25 la25 ca25 ∧
      VSome a0k fun a26 =>
      VStore h24 ⟨a26.block, a26.off + 2, none⟩ (.slice a25 la25 ca25) fun h27 =>
      VSome a0k fun a28 =>
      ∃ (a29 : Option Addr) (la29 ca29 : Nat), cellH h27 ⟨a28.block, a28.off + 3, none⟩ = some (.slice a29 la29 ca29) ∧
      CallsH Tryd.prog 71 #[.slice a1l la1l ca1l] h27 fun v30 h31 =>
      ∃ (a32 : Option Addr) (la32 ca32 : Nat), v30 = .slice a32 la32 ca32 ∧
      (cellH h31 ⟨a28.block, a28.off + 3, none⟩ = some (.slice a29 la29 ca29)) ∧
      VNew h31 (.cells #[.slice a32 la32 ca32] 22) fun b33 h34 =>
      (cellH h34 ⟨a28.block, a28.off + 3, none⟩ = some (.slice a29 la29 ca29)) ∧
      RunsTo Tryd.prog (Builtin.append_ #[48, 48] 48 #[.slice a29 la29 ca29, .slice (some ⟨b33, 0, none⟩) 1 1]) h34 fun v35 h36 =>
      ∃ (a37 : Option Addr) (la37 ca37 : Nat), v35 = .slice a37 la37 ca37 ∧
      VSome a0k fun a38 =>
      VStore h36 ⟨a38.block, a38.off + 3, none⟩ (.slice a37 la37 ca37) fun h39 =>
      R (.tuple #[]) h39)
    (R (.tuple #[]) h7))
theorem vf68 (a0k : Option Addr) (a1l : Option Addr) (la1l ca1l : Nat) (h : Heap) (R : KV) (hF : F68 a0k a1l la1l ca1l h R) : CallsH Tryd.prog 68 #[.pointer a0k, .slice a1l la1l ca1l] h R :=
  calls_of_vc (A := an68) (fn := Tryd.f68) (c := c68) (args := [.pointer a0k, .slice a1l la1l ca1l]) Tryd.func68 (by kernel_rfl) mixed (by kernel_rfl) (Eq.mp (by kernel_rfl : F68 a0k a1l la1l ca1l h R = vcF Tryd.prog an68 Tryd.f68 c68 [.pointer a0k, .slice a1l la1l ca1l] h R) hF)
/-! ### 69 (refrain/refrainlaw3.Kept).ends -/
noncomputable def c69 : Code := match Tryd.f69.body with | some c => c | none => .skip
noncomputable def an69 : Ann := { loops := fun i => match i with | 2 => [(2, .bool), (3, .int .i64)] | 7 => [(2, .bool), (4, .int .i64)] | 13 => [(6, .int .i64)] | 17 => [(7, .int .i64)] | _ => [], draws := fun i => match i with | 4 => #[0, 1, 3, 7, 0, 31, 63, 0, 128, 384, 896, 0, 3968, 8064, 16383, 32767] | 9 => #[0, 1, 3, 7, 0, 31, 63, 0, 128, 384, 896, 0, 3968, 8064, 16383, 32767] | _ => #[], joins := fun i => none }
def F69 (a0k : Option Addr) (h : Heap) (R : KV) : Prop :=
  ∃ I1 : Nat → Heap → Bool → Int → Prop, (∃ n2, I1 n2 h false 0) ∧
  ∀ (n2 : Nat) (h3 : Heap) (g4 : Env) (y_5 : Bool) (i_6 : Int), I1 n2 h3 y_5 i_6 →
  VSome a0k fun a8 =>
  ∃ (a9 : Option Addr) (la9 ca9 : Nat), cellH h3 a8 = some (.slice a9 la9 ca9) ∧
  cond (decide (i_6 < (la9 : Int)))
  (VSome a0k fun a10 =>
    ∃ (a11 : Option Addr) (la11 ca11 : Nat), cellH h3 a10 = some (.slice a11 la11 ca11) ∧
    VIdx a11 la11 i_6 1 fun a12 =>
    ∃ (a13 : Option Addr) (la13 ca13 : Nat), cellH h3 a12 = some (.slice a13 la13 ca13) ∧
    VSome a0k fun a14 =>
    ∃ (a15 : Option Addr) (la15 ca15 : Nat), cellH h3 ⟨a14.block, a14.off + 1, none⟩ = some (.slice a15 la15 ca15) ∧
    VIdx a15 la15 i_6 1 fun a16 =>
    ∃ (a17 : Option Addr) (la17 ca17 : Nat), cellH h3 a16 = some (.slice a17 la17 ca17) ∧
    CallsH Tryd.prog 15 #[.slice a13 la13 ca13, .slice a17 la17 ca17] h3 fun v18 h19 =>
    ∃ b20 : Bool, v18 = .bool b20 ∧
    cond (!b20)
    (R (.bool false) h19)
    (∃ m7, m7 < n2 ∧ I1 m7 h19 y_5 (IntKind.i64.wrap (i_6 + 1))))
  (∃ I21 : Nat → Heap → Bool → Int → Prop, (∃ n22, I21 n22 h3 y_5 0) ∧
    ∀ (n22 : Nat) (h23 : Heap) (g24 : Env) (y_25 : Bool) (i_26 : Int), I21 n22 h23 y_25 i_26 →
    VSome a0k fun a28 =>
    ∃ (a29 : Option Addr) (la29 ca29 : Nat), cellH h23 ⟨a28.block, a28.off + 2, none⟩ = some (.slice a29 la29 ca29) ∧
    cond (decide (i_26 < (la29 : Int)))
    (VSome a0k fun a30 =>
      ∃ (a31 : Option Addr) (la31 ca31 : Nat), cellH h23 ⟨a30.block, a30.off + 2, none⟩ = some (.slice a31 la31 ca31) ∧
      VIdx a31 la31 i_26 1 fun a32 =>
      ∃ (a33 : Option Addr) (la33 ca33 : Nat), cellH h23 a32 = some (.slice a33 la33 ca33) ∧
      VSome a0k fun a34 =>
      ∃ (a35 : Option Addr) (la35 ca35 : Nat), cellH h23 ⟨a34.block, a34.off + 3, none⟩ = some (.slice a35 la35 ca35) ∧
      VIdx a35 la35 i_26 1 fun a36 =>
      ∃ (a37 : Option Addr) (la37 ca37 : Nat), cellH h23 a36 = some (.slice a37 la37 ca37) ∧
      CallsH Tryd.prog 33 #[.slice a33 la33 ca33, .slice a37 la37 ca37] h23 fun v38 h39 =>
      ∃ b40 : Bool, v38 = .bool b40 ∧
      cond (!b40)
      (R (.bool false) h39)
      (∃ m27, m27 < n22 ∧ I21 m27 h39 y_25 (IntKind.i64.wrap (i_26 + 1))))
    (VNew h23 (.cells #[.slice none 0 0, .slice none 0 0, .slice none 0 0, .int .i64 0, .int .i64 0, .int .i64 0, .int .i64 0] 63) fun b41 h42 =>
      ∃ I43 : Nat → Heap → Int → Prop, (∃ n44, I43 n44 h42 0) ∧
      ∀ (n44 : Nat) (h45 : Heap) (g46 : Env) (i_47 : Int), I43 n44 h45 i_47 →
      VSome a0k fun a49 =>
      ∃ (a50 : Option Addr) (la50 ca50 : Nat), cellH h45 a49 = some (.slice a50 la50 ca50) ∧
      cond (decide (i_47 < (la50 : Int)))
      (VSome a0k fun a51 =>
        ∃ (a52 : Option Addr) (la52 ca52 : Nat), cellH h45 a51 = some (.slice a52 la52 ca52) ∧
        VIdx a52 la52 i_47 1 fun a53 =>
        ∃ (a54 : Option Addr) (la54 ca54 : Nat), cellH h45 a53 = some (.slice a54 la54 ca54) ∧
        CallsH Tryd.prog 62 #[.pointer (some ⟨b41, 0, none⟩), .slice a54 la54 ca54] h45 fun v55 h56 =>
        v55 = .tuple #[] ∧
        ∃ m48, m48 < n44 ∧ I43 m48 h56 (IntKind.i64.wrap (i_47 + 1)))
      (∃ I57 : Nat → Heap → Int → Prop, (∃ n58, I57 n58 h45 0) ∧
        ∀ (n58 : Nat) (h59 : Heap) (g60 : Env) (i_61 : Int), I57 n58 h59 i_61 →
        VSome a0k fun a63 =>
        ∃ (a64 : Option Addr) (la64 ca64 : Nat), cellH h59 ⟨a63.block, a63.off + 2, none⟩ = some (.slice a64 la64 ca64) ∧
        cond (decide (i_61 < (la64 : Int)))
        (VSome a0k fun a65 =>
          ∃ (a66 : Option Addr) (la66 ca66 : Nat), cellH h59 ⟨a65.block, a65.off + 2, none⟩ = some (.slice a66 la66 ca66) ∧
          VIdx a66 la66 i_61 1 fun a67 =>
          ∃ (a68 : Option Addr) (la68 ca68 : Nat), cellH h59 a67 = some (.slice a68 la68 ca68) ∧
          CallsH Tryd.prog 66 #[.pointer (some ⟨b41, 0, none⟩), .slice a68 la68 ca68] h59 fun v69 h70 =>
          v69 = .tuple #[] ∧
          ∃ m62, m62 < n58 ∧ I57 m62 h70 (IntKind.i64.wrap (i_61 + 1)))
        (CallsH Tryd.prog 63 #[.pointer (some ⟨b41, 0, none⟩)] h59 fun v71 h72 =>
          v71 = .tuple #[] ∧
          CallsH Tryd.prog 35 #[.pointer (some ⟨b41, 0, none⟩)] h72 fun v73 h74 =>
          ∃ b75 : Bool, v73 = .bool b75 ∧
          R (.bool b75) h74))))
theorem vf69 (a0k : Option Addr) (h : Heap) (R : KV) (hF : F69 a0k h R) : CallsH Tryd.prog 69 #[.pointer a0k] h R :=
  calls_of_vc (A := an69) (fn := Tryd.f69) (c := c69) (args := [.pointer a0k]) Tryd.func69 (by kernel_rfl) mixed (by kernel_rfl) (Eq.mp (by kernel_rfl : F69 a0k h R = vcF Tryd.prog an69 Tryd.f69 c69 [.pointer a0k] h R) hF)
/-! ### 71 refrain/refrainlaw3.copied -/
noncomputable def c71 : Code := match Tryd.f71.body with | some c => c | none => .skip
noncomputable def an71 : Ann := { loops := fun i => match i with | 3 => [(3, .slc), (4, .int .i64)] | _ => [], draws := fun i => #[], joins := fun i => none }
def F71 (a0es : Option Addr) (la0es ca0es : Nat) (h : Heap) (R : KV) : Prop :=
  ∃ I1 : Nat → Heap → Option Addr → Nat → Nat → Int → Prop, (∃ n2, I1 n2 h none 0 0 0) ∧
  ∀ (n2 : Nat) (h3 : Heap) (g4 : Env) (l_5 : Option Addr) (ll_5 cl_5 : Nat) (i_6 : Int), I1 n2 h3 l_5 ll_5 cl_5 i_6 →
  cond (decide (i_6 < (la0es : Int)))
  (VIdx a0es la0es i_6 3 fun a8 =>
    ∃ s9 : ByteArray, cellH h3 a8 = some (.string s9) ∧
    ∃ x10 : Int, cellH h3 ⟨a8.block, a8.off + 1, none⟩ = some (.int .i64 x10) ∧
    ∃ (a11 : Option Addr) (la11 ca11 : Nat), cellH h3 ⟨a8.block, a8.off + 2, none⟩ = some (.slice a11 la11 ca11) ∧
    VNew h3 (.cells #[.string (ByteArray.mk #[]), .int .i64 0, .slice none 0 0] 27) fun b12 h13 =>
    storeL ⟨b12, 0, none⟩ 0 [.string s9, .int .i64 x10, .slice a11 la11 ca11] h13 fun h14 =>
    ∃ (a15 : Option Addr) (la15 ca15 : Nat), cellH h14 ⟨b12, 2, none⟩ = some (.slice a15 la15 ca15) ∧
    RunsTo Tryd.prog (Builtin.append_ #[25, 25] 25 #[.slice none 0 0, .slice a15 la15 ca15]) h14 fun v16 h17 =>
    ∃ (a18 : Option Addr) (la18 ca18 : Nat), v16 = .slice a18 la18 ca18 ∧
    VStore h17 ⟨b12, 2, none⟩ (.slice a18 la18 ca18) fun h19 =>
    ∃ s20 : ByteArray, cellH h19 ⟨b12, 0, none⟩ = some (.string s20) ∧
    ∃ x21 : Int, cellH h19 ⟨b12, 1, none⟩ = some (.int .i64 x21) ∧
    ∃ (a22 : Option Addr) (la22 ca22 : Nat), cellH h19 ⟨b12, 2, none⟩ = some (.slice a22 la22 ca22) ∧
    VNew h19 (.cells #[.string s20, .int .i64 x21, .slice a22 la22 ca22] 27) fun b23 h24 =>
    RunsTo Tryd.prog (Builtin.append_ #[22, 22] 22 #[.slice l_5 ll_5 cl_5, .slice (some ⟨b23, 0, none⟩) 1 1]) h24 fun v25 h26 =>
    ∃ (a27 : Option Addr) (la27 ca27 : Nat), v25 = .slice a27 la27 ca27 ∧
    ∃ m7, m7 < n2 ∧ I1 m7 h26 a27 la27 ca27 (IntKind.i64.wrap (i_6 + 1)))
  (R (.slice l_5 ll_5 cl_5) h3)
theorem vf71 (a0es : Option Addr) (la0es ca0es : Nat) (h : Heap) (R : KV) (hF : F71 a0es la0es ca0es h R) : CallsH Tryd.prog 71 #[.slice a0es la0es ca0es] h R :=
  calls_of_vc (A := an71) (fn := Tryd.f71) (c := c71) (args := [.slice a0es la0es ca0es]) Tryd.func71 (by kernel_rfl) mixed (by kernel_rfl) (Eq.mp (by kernel_rfl : F71 a0es la0es ca0es h R = vcF Tryd.prog an71 Tryd.f71 c71 [.slice a0es la0es ca0es] h R) hF)
end Go.Proofs.YtofaihacmoacjaaDoor.F
