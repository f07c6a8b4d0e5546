/- Printed by gen.py: the conditions of the translated functions, each a plain formula over heaps; the kernel checks that it is the one that the translation gives. Conditions: none. -/
import Derived.Test.YtofaihacmoacjaaDoorV8
import Derived.Test.YtofaihacmoacjaaDoorProg
namespace Go.Proofs.YtofaihacmoacjaaDoor.F
open Go Go.VC Go.Proofs
set_option linter.unusedVariables false
set_option maxRecDepth 100000

theorem mixed : Tryd.prog.follows .mixedOrders = true := by kernel_rfl
/-! ### 11 refrain/refrainlaw3.begun -/
noncomputable def c11 : Code := match Tryd.f11.body with | some c => c | none => .skip
noncomputable def an11 : Ann := { loops := fun i => [], draws := fun i => #[], joins := fun i => none }
def F11  (h : Heap) (R : KV) : Prop :=
  CallsH Tryd.prog 44 #[] h fun v1 h2 =>
  ∃ s3 : ByteArray, ∃ x4 : Int, ∃ (a5 : Option Addr) (la5 ca5 : Nat), ∃ (a6 : Option Addr) (la6 ca6 : Nat), v1 = .tuple #[.agg #[.string s3, .int .i64 x4, .slice a5 la5 ca5], .slice a6 la6 ca6] ∧
  VNew h2 (.cells #[.string (ByteArray.mk #[]), .int .i64 0, .slice none 0 0] 27) fun b7 h8 =>
  storeL ⟨b7, 0, none⟩ 0 [.string s3, .int .i64 x4, .slice a5 la5 ca5] h8 fun h9 =>
  ∃ s10 : ByteArray, cellH h9 ⟨b7, 0, none⟩ = some (.string s10) ∧
  ∃ x11 : Int, cellH h9 ⟨b7, 1, none⟩ = some (.int .i64 x11) ∧
  ∃ (a12 : Option Addr) (la12 ca12 : Nat), cellH h9 ⟨b7, 2, none⟩ = some (.slice a12 la12 ca12) ∧
  CallsH Tryd.prog 13 #[.agg #[.string s10, .int .i64 x11, .slice a12 la12 ca12]] h9 fun v13 h14 =>
  ∃ (a15 : Option Addr) (la15 ca15 : Nat), ∃ x16 : Int, v13 = .tuple #[.slice a15 la15 ca15, .int .i64 x16] ∧
  CallsH Tryd.prog 18 #[.slice a6 la6 ca6] h14 fun v17 h18 =>
  ∃ s19 : ByteArray, ∃ x20 : Int, ∃ (a21 : Option Addr) (la21 ca21 : Nat), ∃ x22 : Int, ∃ x23 : Int, v17 = .tuple #[.agg #[.string s19, .int .i64 x20, .slice a21 la21 ca21], .int .i64 x22, .int .i64 x23] ∧
  VNew h18 (.cells #[.string (ByteArray.mk #[]), .int .i64 0, .slice none 0 0] 27) fun b24 h25 =>
  storeL ⟨b24, 0, none⟩ 0 [.string s19, .int .i64 x20, .slice a21 la21 ca21] h25 fun h26 =>
  cond (x16 == (0 : Int)) (CallsH Tryd.prog 15 #[.slice a6 la6 ca6, .slice a15 la15 ca15] h26 fun v27 h28 =>
    ∃ b29 : Bool, v27 = .bool b29 ∧
    cond b29 (cond (x23 == (0 : Int)) (cond (x22 == (la6 : Int)) (∃ s30 : ByteArray, cellH h28 ⟨b24, 0, none⟩ = some (.string s30) ∧
          ∃ x31 : Int, cellH h28 ⟨b24, 1, none⟩ = some (.int .i64 x31) ∧
          ∃ (a32 : Option Addr) (la32 ca32 : Nat), cellH h28 ⟨b24, 2, none⟩ = some (.slice a32 la32 ca32) ∧
          ∃ s33 : ByteArray, cellH h28 ⟨b7, 0, none⟩ = some (.string s33) ∧
          ∃ x34 : Int, cellH h28 ⟨b7, 1, none⟩ = some (.int .i64 x34) ∧
          ∃ (a35 : Option Addr) (la35 ca35 : Nat), cellH h28 ⟨b7, 2, none⟩ = some (.slice a35 la35 ca35) ∧
          CallsH Tryd.prog 20 #[.agg #[.string s30, .int .i64 x31, .slice a32 la32 ca32], .agg #[.string s33, .int .i64 x34, .slice a35 la35 ca35]] h28 fun v36 h37 =>
          ∃ b38 : Bool, v36 = .bool b38 ∧
          R (.bool b38) h37) (R (.bool false) h28)) (R (.bool false) h28)) (R (.bool false) h28)) (R (.bool false) h26)
theorem vf11  (h : Heap) (R : KV) (hF : F11  h R) : CallsH Tryd.prog 11 #[] h R :=
  calls_of_vc (A := an11) (fn := Tryd.f11) (c := c11) (args := []) Tryd.func11 (by kernel_rfl) mixed (by kernel_rfl) (Eq.mp (by kernel_rfl : F11  h R = vcF Tryd.prog an11 Tryd.f11 c11 [] h R) hF)
/-! ### 12 refrain/refrainlaw3.wide -/
noncomputable def c12 : Code := match Tryd.f12.body with | some c => c | none => .skip
noncomputable def an12 : Ann := { loops := fun i => match i with | 4 => [(6, .int .i64)] | _ => [], draws := fun i => #[], joins := fun i => match i with | 5 => some [] | _ => none }
def F12 (a0e_0 : ByteArray) (a0e_1 : Int) (a0e_2 : Option Addr) (la0e_2 ca0e_2 : Nat) (h : Heap) (R : KV) : Prop :=
  VNew h (.cells #[.string a0e_0, .int .i64 a0e_1, .slice a0e_2 la0e_2 ca0e_2] 27) fun b1 h2 =>
  VNew h2 (.cells #[.string (ByteArray.mk #[]), .int .i64 0, .slice none 0 0] 27) fun b3 h4 =>
  ∃ (a5 : Option Addr) (la5 ca5 : Nat), cellH h4 ⟨b1, 2, none⟩ = some (.slice a5 la5 ca5) ∧
  RunsTo Tryd.prog (Instr.makeSlice 25 (.int .i64 (IntKind.i64.wrap ((la5 : Int) + 34))) (.int .i64 (IntKind.i64.wrap ((la5 : Int) + 34)))) h4 fun v6 h7 =>
  ∃ (a8 : Option Addr) (la8 ca8 : Nat), v6 = .slice a8 la8 ca8 ∧
  ∃ I9 : Nat → Heap → Int → Prop, (∃ n10, I9 n10 h7 0) ∧
  ∀ (n10 : Nat) (h11 : Heap) (g12 : Env) (i_13 : Int), I9 n10 h11 i_13 →
  cond (decide (i_13 < (la8 : Int)))
  (∃ J15 : Heap → Prop, (CallsH Tryd.prog 45 #[.int .i64 (IntKind.i64.wrap (i_13 - (la5 : Int)))] h11 fun v16 h17 =>
      ∃ x18 : Int, ∃ x19 : Int, ∃ s20 : ByteArray, ∃ b21 : Bool, v16 = .agg #[.int .i64 x18, .int .i64 x19, .string s20, .bool b21] ∧
      VIdx a8 la8 i_13 4 fun a22 =>
      storeL a22 0 [.int .i64 x18, .int .i64 x19, .string s20, .bool b21] h17 fun h23 =>
      cond (decide (i_13 < (la5 : Int)))
      (∃ (a24 : Option Addr) (la24 ca24 : Nat), cellH h23 ⟨b1, 2, none⟩ = some (.slice a24 la24 ca24) ∧
        VIdx a24 la24 i_13 4 fun a25 =>
        ∃ x26 : Int, cellH h23 a25 = some (.int .i64 x26) ∧
        ∃ x27 : Int, cellH h23 ⟨a25.block, a25.off + 1, none⟩ = some (.int .i64 x27) ∧
        ∃ s28 : ByteArray, cellH h23 ⟨a25.block, a25.off + 2, none⟩ = some (.string s28) ∧
        ∃ b29 : Bool, cellH h23 ⟨a25.block, a25.off + 3, none⟩ = some (.bool b29) ∧
        VIdx a8 la8 i_13 4 fun a30 =>
        storeL a30 0 [.int .i64 x26, .int .i64 x27, .string s28, .bool b29] h23 fun h31 =>
        J15 h31)
      (J15 h23)) ∧
    ∀ (h32 : Heap) (g33 : Env), J15 h32 →
    ∃ m14, m14 < n10 ∧ I9 m14 h32 (IntKind.i64.wrap (i_13 + 1)))
  (VSlice 4 a8 ca8 0 (la5 : Int) (ca8 : Int) fun a34 la34 ca34 =>
    VStore h11 ⟨b1, 2, none⟩ (.slice a34 la34 ca34) fun h35 =>
    ∃ s36 : ByteArray, cellH h35 ⟨b1, 0, none⟩ = some (.string s36) ∧
    ∃ x37 : Int, cellH h35 ⟨b1, 1, none⟩ = some (.int .i64 x37) ∧
    ∃ (a38 : Option Addr) (la38 ca38 : Nat), cellH h35 ⟨b1, 2, none⟩ = some (.slice a38 la38 ca38) ∧
    storeL ⟨b3, 0, none⟩ 0 [.string s36, .int .i64 x37, .slice a38 la38 ca38] h35 fun h39 =>
    ∃ s40 : ByteArray, cellH h39 ⟨b3, 0, none⟩ = some (.string s40) ∧
    ∃ x41 : Int, cellH h39 ⟨b3, 1, none⟩ = some (.int .i64 x41) ∧
    ∃ (a42 : Option Addr) (la42 ca42 : Nat), cellH h39 ⟨b3, 2, none⟩ = some (.slice a42 la42 ca42) ∧
    R (.tuple #[.agg #[.string s40, .int .i64 x41, .slice a42 la42 ca42], .slice a8 la8 ca8]) h39)
theorem vf12 (a0e_0 : ByteArray) (a0e_1 : Int) (a0e_2 : Option Addr) (la0e_2 ca0e_2 : Nat) (h : Heap) (R : KV) (hF : F12 a0e_0 a0e_1 a0e_2 la0e_2 ca0e_2 h R) : CallsH Tryd.prog 12 #[.agg #[.string a0e_0, .int .i64 a0e_1, .slice a0e_2 la0e_2 ca0e_2]] h R :=
  calls_of_vc (A := an12) (fn := Tryd.f12) (c := c12) (args := [.agg #[.string a0e_0, .int .i64 a0e_1, .slice a0e_2 la0e_2 ca0e_2]]) Tryd.func12 (by kernel_rfl) mixed (by kernel_rfl) (Eq.mp (by kernel_rfl : F12 a0e_0 a0e_1 a0e_2 la0e_2 ca0e_2 h R = vcF Tryd.prog an12 Tryd.f12 c12 [.agg #[.string a0e_0, .int .i64 a0e_1, .slice a0e_2 la0e_2 ca0e_2]] h R) hF)
/-! ### 13 refrain/wire.Encode -/
noncomputable def c13 : Code := match Tryd.f13.body with | some c => c | none => .skip
noncomputable def an13 : Ann := { loops := fun i => [], draws := fun i => #[], joins := fun i => none }
def F13 (a0e_0 : ByteArray) (a0e_1 : Int) (a0e_2 : Option Addr) (la0e_2 ca0e_2 : Nat) (h : Heap) (R : KV) : Prop :=
  VNew h (.cells #[.string a0e_0, .int .i64 a0e_1, .slice a0e_2 la0e_2 ca0e_2] 27) fun b1 h2 =>
  ∃ s3 : ByteArray, cellH h2 ⟨b1, 0, none⟩ = some (.string s3) ∧
  ∃ x4 : Int, cellH h2 ⟨b1, 1, none⟩ = some (.int .i64 x4) ∧
  ∃ (a5 : Option Addr) (la5 ca5 : Nat), cellH h2 ⟨b1, 2, none⟩ = some (.slice a5 la5 ca5) ∧
  CallsH Tryd.prog 46 #[.agg #[.string s3, .int .i64 x4, .slice a5 la5 ca5]] h2 fun v6 h7 =>
  ∃ x8 : Int, v6 = .int .i64 x8 ∧
  cond (x8 != (0 : Int))
  (R (.tuple #[.slice none 0 0, .int .i64 x8]) h7)
  (∃ s9 : ByteArray, cellH h7 ⟨b1, 0, none⟩ = some (.string s9) ∧
    ∃ x10 : Int, cellH h7 ⟨b1, 1, none⟩ = some (.int .i64 x10) ∧
    ∃ (a11 : Option Addr) (la11 ca11 : Nat), cellH h7 ⟨b1, 2, none⟩ = some (.slice a11 la11 ca11) ∧
    CallsH Tryd.prog 47 #[.slice none 0 0, .agg #[.string s9, .int .i64 x10, .slice a11 la11 ca11]] h7 fun v12 h13 =>
    ∃ (a14 : Option Addr) (la14 ca14 : Nat), v12 = .slice a14 la14 ca14 ∧
    R (.tuple #[.slice a14 la14 ca14, .int .i64 0]) h13)
theorem vf13 (a0e_0 : ByteArray) (a0e_1 : Int) (a0e_2 : Option Addr) (la0e_2 ca0e_2 : Nat) (h : Heap) (R : KV) (hF : F13 a0e_0 a0e_1 a0e_2 la0e_2 ca0e_2 h R) : CallsH Tryd.prog 13 #[.agg #[.string a0e_0, .int .i64 a0e_1, .slice a0e_2 la0e_2 ca0e_2]] h R :=
  calls_of_vc (A := an13) (fn := Tryd.f13) (c := c13) (args := [.agg #[.string a0e_0, .int .i64 a0e_1, .slice a0e_2 la0e_2 ca0e_2]]) Tryd.func13 (by kernel_rfl) mixed (by kernel_rfl) (Eq.mp (by kernel_rfl : F13 a0e_0 a0e_1 a0e_2 la0e_2 ca0e_2 h R = vcF Tryd.prog an13 Tryd.f13 c13 [.agg #[.string a0e_0, .int .i64 a0e_1, .slice a0e_2 la0e_2 ca0e_2]] h R) hF)
/-! ### 14 refrain/refrainref3.Encode -/
noncomputable def c14 : Code := match Tryd.f14.body with | some c => c | none => .skip
noncomputable def an14 : Ann := { loops := fun i => match i with | 12 => [(2, .slc), (3, .int .i64), (4, .slc), (5, .int .i64)] | _ => [], draws := fun i => #[], joins := fun i => match i with | 13 => some [(2, .slc), (3, .int .i64), (4, .slc), (6, .ptr)] | _ => none }
def F14 (a0e_0 : ByteArray) (a0e_1 : Int) (a0e_2 : Option Addr) (la0e_2 ca0e_2 : Nat) (h : Heap) (R : KV) : Prop :=
  VNew h (.cells #[.string a0e_0, .int .i64 a0e_1, .slice a0e_2 la0e_2 ca0e_2] 27) fun b1 h2 =>
  ∃ s3 : ByteArray, cellH h2 ⟨b1, 0, none⟩ = some (.string s3) ∧
  CallsH Tryd.prog 48 #[.string s3] h2 fun v4 h5 =>
  ∃ b6 : Bool, v4 = .bool b6 ∧
  cond (!b6)
  (R (.tuple #[.slice none 0 0, .int .i64 20]) h5)
  (∃ x7 : Int, cellH h5 ⟨b1, 1, none⟩ = some (.int .i64 x7) ∧
    cond (decide (x7 < (0 : Int))) (R (.tuple #[.slice none 0 0, .int .i64 23]) h5) (∃ x8 : Int, cellH h5 ⟨b1, 1, none⟩ = some (.int .i64 x8) ∧
      cond (decide (x8 > (4611686018427387904 : Int)))
      (R (.tuple #[.slice none 0 0, .int .i64 23]) h5)
      (∃ (a9 : Option Addr) (la9 ca9 : Nat), cellH h5 ⟨b1, 2, none⟩ = some (.slice a9 la9 ca9) ∧
        cond (decide ((la9 : Int) > (16 : Int)))
        (R (.tuple #[.slice none 0 0, .int .i64 2]) h5)
        (∃ s10 : ByteArray, cellH h5 ⟨b1, 0, none⟩ = some (.string s10) ∧
          CallsH Tryd.prog 22 #[.int .i64 (s10.size : Int)] h5 fun v11 h12 =>
          ∃ (a13 : Option Addr) (la13 ca13 : Nat), v11 = .slice a13 la13 ca13 ∧
          ∃ s14 : ByteArray, cellH h12 ⟨b1, 0, none⟩ = some (.string s14) ∧
          RunsTo Tryd.prog (Builtin.append_ #[30, 9] 30 #[.slice a13 la13 ca13, .string s14]) h12 fun v15 h16 =>
          ∃ (a17 : Option Addr) (la17 ca17 : Nat), v15 = .slice a17 la17 ca17 ∧
          ∃ x18 : Int, cellH h16 ⟨b1, 1, none⟩ = some (.int .i64 x18) ∧
          CallsH Tryd.prog 22 #[.int .i64 x18] h16 fun v19 h20 =>
          ∃ (a21 : Option Addr) (la21 ca21 : Nat), v19 = .slice a21 la21 ca21 ∧
          RunsTo Tryd.prog (Builtin.append_ #[30, 30] 30 #[.slice a17 la17 ca17, .slice a21 la21 ca21]) h20 fun v22 h23 =>
          ∃ (a24 : Option Addr) (la24 ca24 : Nat), v22 = .slice a24 la24 ca24 ∧
          ∃ (a25 : Option Addr) (la25 ca25 : Nat), cellH h23 ⟨b1, 2, none⟩ = some (.slice a25 la25 ca25) ∧
          CallsH Tryd.prog 22 #[.int .i64 (la25 : Int)] h23 fun v26 h27 =>
          ∃ (a28 : Option Addr) (la28 ca28 : Nat), v26 = .slice a28 la28 ca28 ∧
          RunsTo Tryd.prog (Builtin.append_ #[30, 30] 30 #[.slice a24 la24 ca24, .slice a28 la28 ca28]) h27 fun v29 h30 =>
          ∃ (a31 : Option Addr) (la31 ca31 : Nat), v29 = .slice a31 la31 ca31 ∧
          ∃ I32 : Nat → Heap → Option Addr → Nat → Nat → Int → Option Addr → Nat → Nat → Int → Prop, (∃ n33, I32 n33 h30 none 0 0 0 a31 la31 ca31 0) ∧
          ∀ (n33 : Nat) (h34 : Heap) (g35 : Env) (y_36 : Option Addr) (ly_36 cy_36 : Nat) (y_37 : Int) (b_38 : Option Addr) (lb_38 cb_38 : Nat) (i_39 : Int), I32 n33 h34 y_36 ly_36 cy_36 y_37 b_38 lb_38 cb_38 i_39 →
          ∃ (a41 : Option Addr) (la41 ca41 : Nat), cellH h34 ⟨b1, 2, none⟩ = some (.slice a41 la41 ca41) ∧
          cond (decide (i_39 < (la41 : Int)))
          (∃ J42 : Heap → Option Addr → Nat → Nat → Int → Option Addr → Nat → Nat → Option Addr → Prop, (∃ (a43 : Option Addr) (la43 ca43 : Nat), cellH h34 ⟨b1, 2, none⟩ = some (.slice a43 la43 ca43) ∧
              VIdx a43 la43 i_39 4 fun a44 =>
              ∃ x45 : Int, cellH h34 a44 = some (.int .i64 x45) ∧
              ∃ x46 : Int, cellH h34 ⟨a44.block, a44.off + 1, none⟩ = some (.int .i64 x46) ∧
              ∃ s47 : ByteArray, cellH h34 ⟨a44.block, a44.off + 2, none⟩ = some (.string s47) ∧
              ∃ b48 : Bool, cellH h34 ⟨a44.block, a44.off + 3, none⟩ = some (.bool b48) ∧
              VNew h34 (.cells #[.int .i64 0, .int .i64 0, .string (ByteArray.mk #[]), .bool false] 83) fun b49 h50 =>
              storeL ⟨b49, 0, none⟩ 0 [.int .i64 x45, .int .i64 x46, .string s47, .bool b48] h50 fun h51 =>
              ∃ x52 : Int, cellH h51 ⟨b49, 0, none⟩ = some (.int .i64 x52) ∧
              ∃ x53 : Int, cellH h51 ⟨b49, 1, none⟩ = some (.int .i64 x53) ∧
              ∃ s54 : ByteArray, cellH h51 ⟨b49, 2, none⟩ = some (.string s54) ∧
              ∃ b55 : Bool, cellH h51 ⟨b49, 3, none⟩ = some (.bool b55) ∧
              CallsH Tryd.prog 49 #[.agg #[.int .i64 x52, .int .i64 x53, .string s54, .bool b55]] h51 fun v56 h57 =>
              ∃ b58 : Bool, v56 = .bool b58 ∧
              cond (!b58)
              (R (.tuple #[.slice none 0 0, .int .i64 12]) h57)
              (∃ x59 : Int, cellH h57 ⟨b49, 0, none⟩ = some (.int .i64 x59) ∧
                VNew h57 (.cells #[.int .u8 (IntKind.u8.wrap x59)] 5) fun b60 h61 =>
                RunsTo Tryd.prog (Builtin.append_ #[30, 30] 30 #[.slice b_38 lb_38 cb_38, .slice (some ⟨b60, 0, none⟩) 1 1]) h61 fun v62 h63 =>
                ∃ (a64 : Option Addr) (la64 ca64 : Nat), v62 = .slice a64 la64 ca64 ∧
                ∃ x65 : Int, cellH h63 ⟨b49, 0, none⟩ = some (.int .i64 x65) ∧
                cond (x65 == (1 : Int))
                (∃ x66 : Int, cellH h63 ⟨b49, 1, none⟩ = some (.int .i64 x66) ∧
                  CallsH Tryd.prog 22 #[.int .i64 x66] h63 fun v67 h68 =>
                  ∃ (a69 : Option Addr) (la69 ca69 : Nat), v67 = .slice a69 la69 ca69 ∧
                  RunsTo Tryd.prog (Builtin.append_ #[30, 30] 30 #[.slice a64 la64 ca64, .slice a69 la69 ca69]) h68 fun v70 h71 =>
                  ∃ (a72 : Option Addr) (la72 ca72 : Nat), v70 = .slice a72 la72 ca72 ∧
                  J42 h71 y_36 ly_36 cy_36 y_37 a72 la72 ca72 (some ⟨b49, 0, none⟩))
                (∃ x73 : Int, cellH h63 ⟨b49, 0, none⟩ = some (.int .i64 x73) ∧
                  cond (x73 == (2 : Int))
                  (∃ s74 : ByteArray, cellH h63 ⟨b49, 2, none⟩ = some (.string s74) ∧
                    CallsH Tryd.prog 22 #[.int .i64 (s74.size : Int)] h63 fun v75 h76 =>
                    ∃ (a77 : Option Addr) (la77 ca77 : Nat), v75 = .slice a77 la77 ca77 ∧
                    RunsTo Tryd.prog (Builtin.append_ #[30, 30] 30 #[.slice a64 la64 ca64, .slice a77 la77 ca77]) h76 fun v78 h79 =>
                    ∃ (a80 : Option Addr) (la80 ca80 : Nat), v78 = .slice a80 la80 ca80 ∧
                    ∃ s81 : ByteArray, cellH h79 ⟨b49, 2, none⟩ = some (.string s81) ∧
                    RunsTo Tryd.prog (Builtin.append_ #[30, 9] 30 #[.slice a80 la80 ca80, .string s81]) h79 fun v82 h83 =>
                    ∃ (a84 : Option Addr) (la84 ca84 : Nat), v82 = .slice a84 la84 ca84 ∧
                    J42 h83 y_36 ly_36 cy_36 y_37 a84 la84 ca84 (some ⟨b49, 0, none⟩))
                  (∃ b85 : Bool, cellH h63 ⟨b49, 3, none⟩ = some (.bool b85) ∧
                    cond b85
                    (VNew h63 (.cells #[.int .u8 1] 5) fun b86 h87 =>
                      RunsTo Tryd.prog (Builtin.append_ #[30, 30] 30 #[.slice a64 la64 ca64, .slice (some ⟨b86, 0, none⟩) 1 1]) h87 fun v88 h89 =>
                      ∃ (a90 : Option Addr) (la90 ca90 : Nat), v88 = .slice a90 la90 ca90 ∧
                      J42 h89 y_36 ly_36 cy_36 y_37 a90 la90 ca90 (some ⟨b49, 0, none⟩))
                    (VNew h63 (.cells #[.int .u8 0] 5) fun b91 h92 =>
                      RunsTo Tryd.prog (Builtin.append_ #[30, 30] 30 #[.slice a64 la64 ca64, .slice (some ⟨b91, 0, none⟩) 1 1]) h92 fun v93 h94 =>
                      ∃ (a95 : Option Addr) (la95 ca95 : Nat), v93 = .slice a95 la95 ca95 ∧
                      J42 h94 y_36 ly_36 cy_36 y_37 a95 la95 ca95 (some ⟨b49, 0, none⟩)))))) ∧
            ∀ (h96 : Heap) (g97 : Env) (y_98 : Option Addr) (ly_98 cy_98 : Nat) (y_99 : Int) (b_100 : Option Addr) (lb_100 cb_100 : Nat) (v_101 : Option Addr), J42 h96 y_98 ly_98 cy_98 y_99 b_100 lb_100 cb_100 v_101 →
            ∃ m40, m40 < n33 ∧ I32 m40 h96 y_98 ly_98 cy_98 y_99 b_100 lb_100 cb_100 (IntKind.i64.wrap (i_39 + 1)))
          (R (.tuple #[.slice b_38 lb_38 cb_38, .int .i64 0]) h34)))))
theorem vf14 (a0e_0 : ByteArray) (a0e_1 : Int) (a0e_2 : Option Addr) (la0e_2 ca0e_2 : Nat) (h : Heap) (R : KV) (hF : F14 a0e_0 a0e_1 a0e_2 la0e_2 ca0e_2 h R) : CallsH Tryd.prog 14 #[.agg #[.string a0e_0, .int .i64 a0e_1, .slice a0e_2 la0e_2 ca0e_2]] h R :=
  calls_of_vc (A := an14) (fn := Tryd.f14) (c := c14) (args := [.agg #[.string a0e_0, .int .i64 a0e_1, .slice a0e_2 la0e_2 ca0e_2]]) Tryd.func14 (by kernel_rfl) mixed (by kernel_rfl) (Eq.mp (by kernel_rfl : F14 a0e_0 a0e_1 a0e_2 la0e_2 ca0e_2 h R = vcF Tryd.prog an14 Tryd.f14 c14 [.agg #[.string a0e_0, .int .i64 a0e_1, .slice a0e_2 la0e_2 ca0e_2]] h R) hF)
/-! ### 15 refrain/refrainlaw3.same -/
noncomputable def c15 : Code := match Tryd.f15.body with | some c => c | none => .skip
noncomputable def an15 : Ann := { loops := fun i => match i with | 4 => [(4, .bool), (5, .int .i64)] | _ => [], draws := fun i => match i with | 6 => #[0, 0, 3, 7, 0, 0, 48, 112, 255] | _ => #[], joins := fun i => none }
def F15 (a0a : Option Addr) (la0a ca0a : Nat) (a1b : Option Addr) (la1b ca1b : Nat) (h : Heap) (R : KV) : Prop :=
  cond ((la0a : Int) != (la1b : Int))
  (R (.bool false) h)
  (∃ I1 : Nat → Heap → Bool → Int → Prop, (∃ n2, I1 n2 h false 0) ∧
    ∀ (n2 : Nat) (h3 : Heap) (g4 : Env) (y_5 : Bool) (i_6 : Int), I1 n2 h3 y_5 i_6 →
    cond (decide (i_6 < (la0a : Int)))
    (VIdx a0a la0a i_6 1 fun a8 =>
      ∃ x9 : Int, cellH h3 a8 = some (.int .u8 x9) ∧
      VIdx a1b la1b i_6 1 fun a10 =>
      ∃ x11 : Int, cellH h3 a10 = some (.int .u8 x11) ∧
      cond (x9 != x11)
      (R (.bool false) h3)
      (∃ m7, m7 < n2 ∧ I1 m7 h3 y_5 (IntKind.i64.wrap (i_6 + 1))))
    (R (.bool true) h3))
theorem vf15 (a0a : Option Addr) (la0a ca0a : Nat) (a1b : Option Addr) (la1b ca1b : Nat) (h : Heap) (R : KV) (hF : F15 a0a la0a ca0a a1b la1b ca1b h R) : CallsH Tryd.prog 15 #[.slice a0a la0a ca0a, .slice a1b la1b ca1b] h R :=
  calls_of_vc (A := an15) (fn := Tryd.f15) (c := c15) (args := [.slice a0a la0a ca0a, .slice a1b la1b ca1b]) Tryd.func15 (by kernel_rfl) mixed (by kernel_rfl) (Eq.mp (by kernel_rfl : F15 a0a la0a ca0a a1b la1b ca1b h R = vcF Tryd.prog an15 Tryd.f15 c15 [.slice a0a la0a ca0a, .slice a1b la1b ca1b] h R) hF)
/-! ### 16 refrain/refrainlaw3.tight -/
noncomputable def c16 : Code := match Tryd.f16.body with | some c => c | none => .skip
noncomputable def an16 : Ann := { loops := fun i => match i with | 5 => [(4, .bool), (6, .int .i64)] | _ => [], draws := fun i => match i with | 2 => #[0, 1, 0, 4, 15, 31, 63, 63, 255, 63, 575, 2047, 4095, 8191] | 7 => #[0, 0, 3, 7, 0, 0, 48, 112, 255] | _ => #[], joins := fun i => none }
def F16 (a0l : Option Addr) (la0l ca0l : Nat) (a1e_0 : ByteArray) (a1e_1 : Int) (a1e_2 : Option Addr) (la1e_2 ca1e_2 : Nat) (h : Heap) (R : KV) : Prop :=
  VNew h (.cells #[.string a1e_0, .int .i64 a1e_1, .slice a1e_2 la1e_2 ca1e_2] 27) fun b1 h2 =>
  ∃ (a3 : Option Addr) (la3 ca3 : Nat), cellH h2 ⟨b1, 2, none⟩ = some (.slice a3 la3 ca3) ∧
  cond ((la0l : Int) != (IntKind.i64.wrap ((la3 : Int) + 34))) (R (.bool false) h2) (VSlice 4 a0l ca0l 0 (la3 : Int) (ca0l : Int) fun a4 la4 ca4 =>
    ∃ (a5 : Option Addr) (la5 ca5 : Nat), cellH h2 ⟨b1, 2, none⟩ = some (.slice a5 la5 ca5) ∧
    CallsH Tryd.prog 50 #[.slice a4 la4 ca4, .slice a5 la5 ca5] h2 fun v6 h7 =>
    ∃ b8 : Bool, v6 = .bool b8 ∧
    cond (!b8)
    (R (.bool false) h7)
    (∃ I9 : Nat → Heap → Bool → Int → Prop, (∃ n10, I9 n10 h7 false (la3 : Int)) ∧
      ∀ (n10 : Nat) (h11 : Heap) (g12 : Env) (y_13 : Bool) (i_14 : Int), I9 n10 h11 y_13 i_14 →
      cond (decide (i_14 < (la0l : Int)))
      (VIdx a0l la0l i_14 4 fun a16 =>
        ∃ x17 : Int, cellH h11 a16 = some (.int .i64 x17) ∧
        ∃ x18 : Int, cellH h11 ⟨a16.block, a16.off + 1, none⟩ = some (.int .i64 x18) ∧
        ∃ s19 : ByteArray, cellH h11 ⟨a16.block, a16.off + 2, none⟩ = some (.string s19) ∧
        ∃ b20 : Bool, cellH h11 ⟨a16.block, a16.off + 3, none⟩ = some (.bool b20) ∧
        CallsH Tryd.prog 45 #[.int .i64 (IntKind.i64.wrap (i_14 - (la3 : Int)))] h11 fun v21 h22 =>
        ∃ x23 : Int, ∃ x24 : Int, ∃ s25 : ByteArray, ∃ b26 : Bool, v21 = .agg #[.int .i64 x23, .int .i64 x24, .string s25, .bool b26] ∧
        (cellH h22 a16 = some (.int .i64 x17) ∧ cellH h22 ⟨a16.block, a16.off + 1, none⟩ = some (.int .i64 x18) ∧ cellH h22 ⟨a16.block, a16.off + 2, none⟩ = some (.string s19) ∧ cellH h22 ⟨a16.block, a16.off + 3, none⟩ = some (.bool b20)) ∧
        PureTo Tryd.prog (do eqGuard .neq 83 (.tmp 34) (.tmp 38) (.agg #[.int .i64 x17, .int .i64 x18, .string s19, .bool b20]) (.agg #[.int .i64 x23, .int .i64 x24, .string s25, .bool b26]); binOp .neq 83 (.agg #[.int .i64 x17, .int .i64 x18, .string s19, .bool b20]) (.agg #[.int .i64 x23, .int .i64 x24, .string s25, .bool b26])) fun v27 =>
        ∃ b28 : Bool, v27 = .bool b28 ∧
        cond b28
        (R (.bool false) h22)
        (∃ m15, m15 < n10 ∧ I9 m15 h22 y_13 (IntKind.i64.wrap (i_14 + 1))))
      (R (.bool true) h11)))
theorem vf16 (a0l : Option Addr) (la0l ca0l : Nat) (a1e_0 : ByteArray) (a1e_1 : Int) (a1e_2 : Option Addr) (la1e_2 ca1e_2 : Nat) (h : Heap) (R : KV) (hF : F16 a0l la0l ca0l a1e_0 a1e_1 a1e_2 la1e_2 ca1e_2 h R) : CallsH Tryd.prog 16 #[.slice a0l la0l ca0l, .agg #[.string a1e_0, .int .i64 a1e_1, .slice a1e_2 la1e_2 ca1e_2]] h R :=
  calls_of_vc (A := an16) (fn := Tryd.f16) (c := c16) (args := [.slice a0l la0l ca0l, .agg #[.string a1e_0, .int .i64 a1e_1, .slice a1e_2 la1e_2 ca1e_2]]) Tryd.func16 (by kernel_rfl) mixed (by kernel_rfl) (Eq.mp (by kernel_rfl : F16 a0l la0l ca0l a1e_0 a1e_1 a1e_2 la1e_2 ca1e_2 h R = vcF Tryd.prog an16 Tryd.f16 c16 [.slice a0l la0l ca0l, .agg #[.string a1e_0, .int .i64 a1e_1, .slice a1e_2 la1e_2 ca1e_2]] h R) hF)
/-! ### 17 refrain/refrainlaw3.roomy -/
noncomputable def c17 : Code := match Tryd.f17.body with | some c => c | none => .skip
noncomputable def an17 : Ann := { loops := fun i => match i with | 4 => [(5, .int .i64)] | _ => [], draws := fun i => #[], joins := fun i => match i with | 5 => some [] | _ => none }
def F17 (a0b : Option Addr) (la0b ca0b : Nat) (h : Heap) (R : KV) : Prop :=
  RunsTo Tryd.prog (Instr.makeSlice 30 (.int .i64 (IntKind.i64.wrap ((la0b : Int) + 66))) (.int .i64 (IntKind.i64.wrap ((la0b : Int) + 66)))) h fun v1 h2 =>
  ∃ (a3 : Option Addr) (la3 ca3 : Nat), v1 = .slice a3 la3 ca3 ∧
  ∃ I4 : Nat → Heap → Int → Prop, (∃ n5, I4 n5 h2 0) ∧
  ∀ (n5 : Nat) (h6 : Heap) (g7 : Env) (i_8 : Int), I4 n5 h6 i_8 →
  cond (decide (i_8 < (la3 : Int)))
  (∃ J10 : Heap → Prop, (VIdx a3 la3 i_8 1 fun a11 =>
      VStore h6 a11 (.int .u8 (IntKind.u8.wrap (IntKind.i64.wrap ((IntKind.i64.wrap (137 + i_8)) - (la0b : Int))))) fun h12 =>
      cond (decide (i_8 < (la0b : Int)))
      (VIdx a0b la0b i_8 1 fun a13 =>
        ∃ x14 : Int, cellH h12 a13 = some (.int .u8 x14) ∧
        VIdx a3 la3 i_8 1 fun a15 =>
        VStore h12 a15 (.int .u8 x14) fun h16 =>
        J10 h16)
      (J10 h12)) ∧
    ∀ (h17 : Heap) (g18 : Env), J10 h17 →
    ∃ m9, m9 < n5 ∧ I4 m9 h17 (IntKind.i64.wrap (i_8 + 1)))
  (R (.slice a3 la3 ca3) h6)
theorem vf17 (a0b : Option Addr) (la0b ca0b : Nat) (h : Heap) (R : KV) (hF : F17 a0b la0b ca0b h R) : CallsH Tryd.prog 17 #[.slice a0b la0b ca0b] h R :=
  calls_of_vc (A := an17) (fn := Tryd.f17) (c := c17) (args := [.slice a0b la0b ca0b]) Tryd.func17 (by kernel_rfl) mixed (by kernel_rfl) (Eq.mp (by kernel_rfl : F17 a0b la0b ca0b h R = vcF Tryd.prog an17 Tryd.f17 c17 [.slice a0b la0b ca0b] h R) hF)
/-! ### 18 refrain/wire.Decode -/
noncomputable def c18 : Code := match Tryd.f18.body with | some c => c | none => .skip
noncomputable def an18 : Ann := { loops := fun i => [], draws := fun i => match i with | 4 => #[0, 0, 2, 6, 14, 1, 33, 127] | 5 => #[0, 0, 2, 6, 14, 1, 63, 127] | _ => #[], joins := fun i => none }
def F18 (a0b : Option Addr) (la0b ca0b : Nat) (h : Heap) (R : KV) : Prop :=
  VNew h (.cells #[.string (ByteArray.mk #[]), .int .i64 0, .slice none 0 0] 27) fun b1 h2 =>
  VNew h2 (.cells #[.slice a0b la0b ca0b, .int .i64 0, .int .i64 0] 92) fun b3 h4 =>
  CallsH Tryd.prog 51 #[.pointer (some ⟨b3, 0, none⟩)] h4 fun v5 h6 =>
  ∃ s7 : ByteArray, ∃ x8 : Int, ∃ (a9 : Option Addr) (la9 ca9 : Nat), v5 = .agg #[.string s7, .int .i64 x8, .slice a9 la9 ca9] ∧
  VNew h6 (.cells #[.string (ByteArray.mk #[]), .int .i64 0, .slice none 0 0] 27) fun b10 h11 =>
  storeL ⟨b10, 0, none⟩ 0 [.string s7, .int .i64 x8, .slice a9 la9 ca9] h11 fun h12 =>
  ∃ x13 : Int, cellH h12 ⟨b3, 2, none⟩ = some (.int .i64 x13) ∧
  cond (x13 != (0 : Int))
  (∃ x14 : Int, cellH h12 ⟨b3, 2, none⟩ = some (.int .i64 x14) ∧
    storeL ⟨b1, 0, none⟩ 0 [.string (ByteArray.mk #[]), .int .i64 0, .slice none 0 0] h12 fun h15 =>
    (cellH h15 ⟨b3, 2, none⟩ = some (.int .i64 x14)) ∧
    ∃ s16 : ByteArray, cellH h15 ⟨b1, 0, none⟩ = some (.string s16) ∧
    ∃ x17 : Int, cellH h15 ⟨b1, 1, none⟩ = some (.int .i64 x17) ∧
    ∃ (a18 : Option Addr) (la18 ca18 : Nat), cellH h15 ⟨b1, 2, none⟩ = some (.slice a18 la18 ca18) ∧
    R (.tuple #[.agg #[.string s16, .int .i64 x17, .slice a18 la18 ca18], .int .i64 0, .int .i64 x14]) h15)
  (∃ s19 : ByteArray, cellH h12 ⟨b10, 0, none⟩ = some (.string s19) ∧
    ∃ x20 : Int, cellH h12 ⟨b10, 1, none⟩ = some (.int .i64 x20) ∧
    ∃ (a21 : Option Addr) (la21 ca21 : Nat), cellH h12 ⟨b10, 2, none⟩ = some (.slice a21 la21 ca21) ∧
    ∃ x22 : Int, cellH h12 ⟨b3, 1, none⟩ = some (.int .i64 x22) ∧
    storeL ⟨b1, 0, none⟩ 0 [.string s19, .int .i64 x20, .slice a21 la21 ca21] h12 fun h23 =>
    (cellH h23 ⟨b3, 1, none⟩ = some (.int .i64 x22)) ∧
    ∃ s24 : ByteArray, cellH h23 ⟨b1, 0, none⟩ = some (.string s24) ∧
    ∃ x25 : Int, cellH h23 ⟨b1, 1, none⟩ = some (.int .i64 x25) ∧
    ∃ (a26 : Option Addr) (la26 ca26 : Nat), cellH h23 ⟨b1, 2, none⟩ = some (.slice a26 la26 ca26) ∧
    R (.tuple #[.agg #[.string s24, .int .i64 x25, .slice a26 la26 ca26], .int .i64 x22, .int .i64 0]) h23)
theorem vf18 (a0b : Option Addr) (la0b ca0b : Nat) (h : Heap) (R : KV) (hF : F18 a0b la0b ca0b h R) : CallsH Tryd.prog 18 #[.slice a0b la0b ca0b] h R :=
  calls_of_vc (A := an18) (fn := Tryd.f18) (c := c18) (args := [.slice a0b la0b ca0b]) Tryd.func18 (by kernel_rfl) mixed (by kernel_rfl) (Eq.mp (by kernel_rfl : F18 a0b la0b ca0b h R = vcF Tryd.prog an18 Tryd.f18 c18 [.slice a0b la0b ca0b] h R) hF)
/-! ### 19 refrain/refrainref3.Decode -/
noncomputable def c19 : Code := match Tryd.f19.body with | some c => c | none => .skip
noncomputable def an19 : Ann := { loops := fun i => match i with | 9 => [(8, .int .i64)] | _ => [], draws := fun i => match i with | 11 => #[0, 1, 0, 4, 12, 31, 63, 127] | 13 => #[0, 0, 2, 6, 14, 1, 33, 127] | 14 => #[0, 0, 2, 6, 14, 1, 63, 127] | _ => #[], joins := fun i => match i with | 6 => some [] | _ => none }
def F19 (a0b : Option Addr) (la0b ca0b : Nat) (h : Heap) (R : KV) : Prop :=
  VNew h (.cells #[.string (ByteArray.mk #[]), .int .i64 0, .slice none 0 0] 27) fun b1 h2 =>
  VNew h2 (.cells #[.slice a0b la0b ca0b, .int .i64 0, .int .i64 0] 96) fun b3 h4 =>
  VNew h4 (.cells #[.string (ByteArray.mk #[]), .int .i64 0, .slice none 0 0] 27) fun b5 h6 =>
  CallsH Tryd.prog 52 #[.pointer (some ⟨b3, 0, none⟩), .int .i64 1, .int .i64 32] h6 fun v7 h8 =>
  ∃ s9 : ByteArray, v7 = .string s9 ∧
  VStore h8 ⟨b5, 0, none⟩ (.string s9) fun h10 =>
  ∃ J11 : Heap → Prop, (∃ x12 : Int, cellH h10 ⟨b3, 2, none⟩ = some (.int .i64 x12) ∧
    cond (x12 == (0 : Int)) (∃ s13 : ByteArray, cellH h10 ⟨b5, 0, none⟩ = some (.string s13) ∧
      CallsH Tryd.prog 48 #[.string s13] h10 fun v14 h15 =>
      ∃ b16 : Bool, v14 = .bool b16 ∧
      cond (!b16)
      (CallsH Tryd.prog 53 #[.pointer (some ⟨b3, 0, none⟩), .int .i64 31] h15 fun v17 h18 =>
        v17 = .tuple #[] ∧
        J11 h18)
      (J11 h15)) (J11 h10)) ∧
  ∀ (h19 : Heap) (g20 : Env), J11 h19 →
  CallsH Tryd.prog 54 #[.pointer (some ⟨b3, 0, none⟩), .int .i64 0, .int .i64 4611686018427387904] h19 fun v21 h22 =>
  ∃ x23 : Int, v21 = .int .i64 x23 ∧
  VStore h22 ⟨b5, 1, none⟩ (.int .i64 x23) fun h24 =>
  CallsH Tryd.prog 54 #[.pointer (some ⟨b3, 0, none⟩), .int .i64 0, .int .i64 16] h24 fun v25 h26 =>
  ∃ x27 : Int, v25 = .int .i64 x27 ∧
  ∃ I28 : Nat → Heap → Int → Prop, (∃ n29, I28 n29 h26 0) ∧
  ∀ (n29 : Nat) (h30 : Heap) (g31 : Env) (i_32 : Int), I28 n29 h30 i_32 →
  cond (decide (i_32 < x27)) (∃ x34 : Int, cellH h30 ⟨b3, 2, none⟩ = some (.int .i64 x34) ∧
    cond (x34 == (0 : Int))
    (∃ (a35 : Option Addr) (la35 ca35 : Nat), cellH h30 ⟨b5, 2, none⟩ = some (.slice a35 la35 ca35) ∧
      CallsH Tryd.prog 55 #[.pointer (some ⟨b3, 0, none⟩)] h30 fun v36 h37 =>
      ∃ x38 : Int, ∃ x39 : Int, ∃ s40 : ByteArray, ∃ b41 : Bool, v36 = .agg #[.int .i64 x38, .int .i64 x39, .string s40, .bool b41] ∧
      (cellH h37 ⟨b5, 2, none⟩ = some (.slice a35 la35 ca35)) ∧
      VNew h37 (.cells #[.int .i64 x38, .int .i64 x39, .string s40, .bool b41] 83) fun b42 h43 =>
      (cellH h43 ⟨b5, 2, none⟩ = some (.slice a35 la35 ca35)) ∧
      RunsTo Tryd.prog (Builtin.append_ #[25, 25] 25 #[.slice a35 la35 ca35, .slice (some ⟨b42, 0, none⟩) 1 1]) h43 fun v44 h45 =>
      ∃ (a46 : Option Addr) (la46 ca46 : Nat), v44 = .slice a46 la46 ca46 ∧
      VStore h45 ⟨b5, 2, none⟩ (.slice a46 la46 ca46) fun h47 =>
      ∃ m33, m33 < n29 ∧ I28 m33 h47 (IntKind.i64.wrap (i_32 + 1)))
    (∃ x48 : Int, cellH h30 ⟨b3, 2, none⟩ = some (.int .i64 x48) ∧
      cond (x48 != (0 : Int))
      (∃ x49 : Int, cellH h30 ⟨b3, 2, none⟩ = some (.int .i64 x49) ∧
        storeL ⟨b1, 0, none⟩ 0 [.string (ByteArray.mk #[]), .int .i64 0, .slice none 0 0] h30 fun h50 =>
        (cellH h50 ⟨b3, 2, none⟩ = some (.int .i64 x49)) ∧
        ∃ s51 : ByteArray, cellH h50 ⟨b1, 0, none⟩ = some (.string s51) ∧
        ∃ x52 : Int, cellH h50 ⟨b1, 1, none⟩ = some (.int .i64 x52) ∧
        ∃ (a53 : Option Addr) (la53 ca53 : Nat), cellH h50 ⟨b1, 2, none⟩ = some (.slice a53 la53 ca53) ∧
        R (.tuple #[.agg #[.string s51, .int .i64 x52, .slice a53 la53 ca53], .int .i64 0, .int .i64 x49]) h50)
      (∃ s54 : ByteArray, cellH h30 ⟨b5, 0, none⟩ = some (.string s54) ∧
        ∃ x55 : Int, cellH h30 ⟨b5, 1, none⟩ = some (.int .i64 x55) ∧
        ∃ (a56 : Option Addr) (la56 ca56 : Nat), cellH h30 ⟨b5, 2, none⟩ = some (.slice a56 la56 ca56) ∧
        ∃ x57 : Int, cellH h30 ⟨b3, 1, none⟩ = some (.int .i64 x57) ∧
        storeL ⟨b1, 0, none⟩ 0 [.string s54, .int .i64 x55, .slice a56 la56 ca56] h30 fun h58 =>
        (cellH h58 ⟨b3, 1, none⟩ = some (.int .i64 x57)) ∧
        ∃ s59 : ByteArray, cellH h58 ⟨b1, 0, none⟩ = some (.string s59) ∧
        ∃ x60 : Int, cellH h58 ⟨b1, 1, none⟩ = some (.int .i64 x60) ∧
        ∃ (a61 : Option Addr) (la61 ca61 : Nat), cellH h58 ⟨b1, 2, none⟩ = some (.slice a61 la61 ca61) ∧
        R (.tuple #[.agg #[.string s59, .int .i64 x60, .slice a61 la61 ca61], .int .i64 x57, .int .i64 0]) h58))) (∃ x62 : Int, cellH h30 ⟨b3, 2, none⟩ = some (.int .i64 x62) ∧
    cond (x62 != (0 : Int))
    (∃ x63 : Int, cellH h30 ⟨b3, 2, none⟩ = some (.int .i64 x63) ∧
      storeL ⟨b1, 0, none⟩ 0 [.string (ByteArray.mk #[]), .int .i64 0, .slice none 0 0] h30 fun h64 =>
      (cellH h64 ⟨b3, 2, none⟩ = some (.int .i64 x63)) ∧
      ∃ s65 : ByteArray, cellH h64 ⟨b1, 0, none⟩ = some (.string s65) ∧
      ∃ x66 : Int, cellH h64 ⟨b1, 1, none⟩ = some (.int .i64 x66) ∧
      ∃ (a67 : Option Addr) (la67 ca67 : Nat), cellH h64 ⟨b1, 2, none⟩ = some (.slice a67 la67 ca67) ∧
      R (.tuple #[.agg #[.string s65, .int .i64 x66, .slice a67 la67 ca67], .int .i64 0, .int .i64 x63]) h64)
    (∃ s68 : ByteArray, cellH h30 ⟨b5, 0, none⟩ = some (.string s68) ∧
      ∃ x69 : Int, cellH h30 ⟨b5, 1, none⟩ = some (.int .i64 x69) ∧
      ∃ (a70 : Option Addr) (la70 ca70 : Nat), cellH h30 ⟨b5, 2, none⟩ = some (.slice a70 la70 ca70) ∧
      ∃ x71 : Int, cellH h30 ⟨b3, 1, none⟩ = some (.int .i64 x71) ∧
      storeL ⟨b1, 0, none⟩ 0 [.string s68, .int .i64 x69, .slice a70 la70 ca70] h30 fun h72 =>
      (cellH h72 ⟨b3, 1, none⟩ = some (.int .i64 x71)) ∧
      ∃ s73 : ByteArray, cellH h72 ⟨b1, 0, none⟩ = some (.string s73) ∧
      ∃ x74 : Int, cellH h72 ⟨b1, 1, none⟩ = some (.int .i64 x74) ∧
      ∃ (a75 : Option Addr) (la75 ca75 : Nat), cellH h72 ⟨b1, 2, none⟩ = some (.slice a75 la75 ca75) ∧
      R (.tuple #[.agg #[.string s73, .int .i64 x74, .slice a75 la75 ca75], .int .i64 x71, .int .i64 0]) h72))
theorem vf19 (a0b : Option Addr) (la0b ca0b : Nat) (h : Heap) (R : KV) (hF : F19 a0b la0b ca0b h R) : CallsH Tryd.prog 19 #[.slice a0b la0b ca0b] h R :=
  calls_of_vc (A := an19) (fn := Tryd.f19) (c := c19) (args := [.slice a0b la0b ca0b]) Tryd.func19 (by kernel_rfl) mixed (by kernel_rfl) (Eq.mp (by kernel_rfl : F19 a0b la0b ca0b h R = vcF Tryd.prog an19 Tryd.f19 c19 [.slice a0b la0b ca0b] h R) hF)
/-! ### 20 refrain/refrainlaw3.events -/
noncomputable def c20 : Code := match Tryd.f20.body with | some c => c | none => .skip
noncomputable def an20 : Ann := { loops := fun i => [], draws := fun i => #[], joins := fun i => none }
def F20 (a0a_0 : ByteArray) (a0a_1 : Int) (a0a_2 : Option Addr) (la0a_2 ca0a_2 : Nat) (a1b_0 : ByteArray) (a1b_1 : Int) (a1b_2 : Option Addr) (la1b_2 ca1b_2 : Nat) (h : Heap) (R : KV) : Prop :=
  VNew h (.cells #[.string a0a_0, .int .i64 a0a_1, .slice a0a_2 la0a_2 ca0a_2] 27) fun b1 h2 =>
  VNew h2 (.cells #[.string a1b_0, .int .i64 a1b_1, .slice a1b_2 la1b_2 ca1b_2] 27) fun b3 h4 =>
  ∃ s5 : ByteArray, cellH h4 ⟨b1, 0, none⟩ = some (.string s5) ∧
  ∃ s6 : ByteArray, cellH h4 ⟨b3, 0, none⟩ = some (.string s6) ∧
  cond (strEq s5 s6) (∃ x7 : Int, cellH h4 ⟨b1, 1, none⟩ = some (.int .i64 x7) ∧
    ∃ x8 : Int, cellH h4 ⟨b3, 1, none⟩ = some (.int .i64 x8) ∧
    cond (x7 == x8) (∃ (a9 : Option Addr) (la9 ca9 : Nat), cellH h4 ⟨b1, 2, none⟩ = some (.slice a9 la9 ca9) ∧
      ∃ (a10 : Option Addr) (la10 ca10 : Nat), cellH h4 ⟨b3, 2, none⟩ = some (.slice a10 la10 ca10) ∧
      CallsH Tryd.prog 50 #[.slice a9 la9 ca9, .slice a10 la10 ca10] h4 fun v11 h12 =>
      ∃ b13 : Bool, v11 = .bool b13 ∧
      R (.bool b13) h12) (R (.bool false) h4)) (R (.bool false) h4)
theorem vf20 (a0a_0 : ByteArray) (a0a_1 : Int) (a0a_2 : Option Addr) (la0a_2 ca0a_2 : Nat) (a1b_0 : ByteArray) (a1b_1 : Int) (a1b_2 : Option Addr) (la1b_2 ca1b_2 : Nat) (h : Heap) (R : KV) (hF : F20 a0a_0 a0a_1 a0a_2 la0a_2 ca0a_2 a1b_0 a1b_1 a1b_2 la1b_2 ca1b_2 h R) : CallsH Tryd.prog 20 #[.agg #[.string a0a_0, .int .i64 a0a_1, .slice a0a_2 la0a_2 ca0a_2], .agg #[.string a1b_0, .int .i64 a1b_1, .slice a1b_2 la1b_2 ca1b_2]] h R :=
  calls_of_vc (A := an20) (fn := Tryd.f20) (c := c20) (args := [.agg #[.string a0a_0, .int .i64 a0a_1, .slice a0a_2 la0a_2 ca0a_2], .agg #[.string a1b_0, .int .i64 a1b_1, .slice a1b_2 la1b_2 ca1b_2]]) Tryd.func20 (by kernel_rfl) mixed (by kernel_rfl) (Eq.mp (by kernel_rfl : F20 a0a_0 a0a_1 a0a_2 la0a_2 ca0a_2 a1b_0 a1b_1 a1b_2 la1b_2 ca1b_2 h R = vcF Tryd.prog an20 Tryd.f20 c20 [.agg #[.string a0a_0, .int .i64 a0a_1, .slice a0a_2 la0a_2 ca0a_2], .agg #[.string a1b_0, .int .i64 a1b_1, .slice a1b_2 la1b_2 ca1b_2]] h R) hF)
/-! ### 21 refrain/wire.PutInt -/
noncomputable def c21 : Code := match Tryd.f21.body with | some c => c | none => .skip
noncomputable def an21 : Ann := { loops := fun i => [], draws := fun i => #[], joins := fun i => none }
def F21 (a0n : Int) (h : Heap) (R : KV) : Prop :=
  CallsH Tryd.prog 56 #[.slice none 0 0, .int .i64 a0n] h fun v1 h2 =>
  ∃ (a3 : Option Addr) (la3 ca3 : Nat), v1 = .slice a3 la3 ca3 ∧
  R (.slice a3 la3 ca3) h2
theorem vf21 (a0n : Int) (h : Heap) (R : KV) (hF : F21 a0n h R) : CallsH Tryd.prog 21 #[.int .i64 a0n] h R :=
  calls_of_vc (A := an21) (fn := Tryd.f21) (c := c21) (args := [.int .i64 a0n]) Tryd.func21 (by kernel_rfl) mixed (by kernel_rfl) (Eq.mp (by kernel_rfl : F21 a0n h R = vcF Tryd.prog an21 Tryd.f21 c21 [.int .i64 a0n] h R) hF)
/-! ### 22 refrain/refrainref3.PutInt -/
noncomputable def c22 : Code := match Tryd.f22.body with | some c => c | none => .skip
noncomputable def an22 : Ann := { loops := fun i => match i with | 5 => [(3, .int .u64), (4, .slc)] | _ => [], draws := fun i => #[], joins := fun i => match i with | 4 => some [(3, .int .u64)] | _ => none }
def F22 (a0n : Int) (h : Heap) (R : KV) : Prop :=
  ∃ J1 : Heap → Int → Prop, (cond (decide (a0n < (0 : Int)))
    (J1 h (IntKind.u64.wrap ((IntKind.u64.wrap (2 * (IntKind.u64.wrap (IntKind.i64.wrap (0 - (IntKind.i64.wrap (a0n + 1))))))) + 1)))
    (J1 h (IntKind.u64.wrap (2 * (IntKind.u64.wrap a0n))))) ∧
  ∀ (h2 : Heap) (g3 : Env) (z_4 : Int), J1 h2 z_4 →
  ∃ I5 : Nat → Heap → Int → Option Addr → Nat → Nat → Prop, (∃ n6, I5 n6 h2 z_4 none 0 0) ∧
  ∀ (n6 : Nat) (h7 : Heap) (g8 : Env) (z_9 : Int) (b_10 : Option Addr) (lb_10 cb_10 : Nat), I5 n6 h7 z_9 b_10 lb_10 cb_10 →
  cond (decide (z_9 ≥ (128 : Int)))
  ((128 : Int) ≠ (0 : Int) ∧
    VNew h7 (.cells #[.int .u8 (IntKind.u8.wrap (IntKind.u64.wrap (128 + (Int.tmod z_9 128))))] 5) fun b12 h13 =>
    RunsTo Tryd.prog (Builtin.append_ #[30, 30] 30 #[.slice b_10 lb_10 cb_10, .slice (some ⟨b12, 0, none⟩) 1 1]) h13 fun v14 h15 =>
    ∃ (a16 : Option Addr) (la16 ca16 : Nat), v14 = .slice a16 la16 ca16 ∧
    (128 : Int) ≠ (0 : Int) ∧
    ∃ m11, m11 < n6 ∧ I5 m11 h15 (IntKind.u64.wrap (Int.tdiv z_9 128)) a16 la16 ca16)
  (VNew h7 (.cells #[.int .u8 (IntKind.u8.wrap z_9)] 5) fun b17 h18 =>
    RunsTo Tryd.prog (Builtin.append_ #[30, 30] 30 #[.slice b_10 lb_10 cb_10, .slice (some ⟨b17, 0, none⟩) 1 1]) h18 fun v19 h20 =>
    ∃ (a21 : Option Addr) (la21 ca21 : Nat), v19 = .slice a21 la21 ca21 ∧
    R (.slice a21 la21 ca21) h20)
theorem vf22 (a0n : Int) (h : Heap) (R : KV) (hF : F22 a0n h R) : CallsH Tryd.prog 22 #[.int .i64 a0n] h R :=
  calls_of_vc (A := an22) (fn := Tryd.f22) (c := c22) (args := [.int .i64 a0n]) Tryd.func22 (by kernel_rfl) mixed (by kernel_rfl) (Eq.mp (by kernel_rfl : F22 a0n h R = vcF Tryd.prog an22 Tryd.f22 c22 [.int .i64 a0n] h R) hF)
/-! ### 23 refrain/wire.Int -/
noncomputable def c23 : Code := match Tryd.f23.body with | some c => c | none => .skip
noncomputable def an23 : Ann := { loops := fun i => match i with | 3 => [(2, .int .i64), (3, .int .i64), (4, .int .i64), (5, .int .u64), (10, .int .i64)] | _ => [], draws := fun i => #[], joins := fun i => none }
def F23 (a0b : Option Addr) (la0b ca0b : Nat) (h : Heap) (R : KV) : Prop :=
  ∃ I1 : Nat → Heap → Int → Int → Int → Int → Int → Prop, (∃ n2, I1 n2 h 0 0 0 0 0) ∧
  ∀ (n2 : Nat) (h3 : Heap) (g4 : Env) (y_5 : Int) (y_6 : Int) (y_7 : Int) (z_8 : Int) (y_9 : Int), I1 n2 h3 y_5 y_6 y_7 z_8 y_9 →
  cond (decide (y_9 < (la0b : Int)))
  (VIdx a0b la0b y_9 1 fun a11 =>
    ∃ x12 : Int, cellH h3 a11 = some (.int .u8 x12) ∧
    cond (y_9 == (9 : Int)) (cond (decide (x12 > (1 : Int)))
      (R (.tuple #[.int .i64 0, .int .i64 0, .int .i64 31]) h3)
      ((0 : Int) ≤ (IntKind.i64.wrap (7 * y_9)) ∧
        cond (decide (x12 ≥ (128 : Int)))
        (∃ m10, m10 < n2 ∧ I1 m10 h3 y_5 y_6 y_7 (bitsOp .or .u64 z_8 (IntKind.u64.wrap ((IntKind.u64.wrap (bitsOp .and .u8 x12 127)) * 2 ^ (min (Int.toNat (IntKind.i64.wrap (7 * y_9))) (IntKind.bits .u64))))) (IntKind.i64.wrap (y_9 + 1)))
        (cond (x12 == (0 : Int)) (cond (decide (y_9 > (0 : Int)))
            (R (.tuple #[.int .i64 0, .int .i64 0, .int .i64 31]) h3)
            ((0 : Int) ≤ 1 ∧
              R (.tuple #[.int .i64 (bitsOp .xor .i64 (IntKind.i64.wrap (Int.fdiv (bitsOp .or .u64 z_8 (IntKind.u64.wrap ((IntKind.u64.wrap (bitsOp .and .u8 x12 127)) * 2 ^ (min (Int.toNat (IntKind.i64.wrap (7 * y_9))) (IntKind.bits .u64))))) (2 ^ (min (Int.toNat 1) (IntKind.bits .u64))))) (IntKind.i64.wrap (0 - (IntKind.i64.wrap (bitsOp .and .u64 (bitsOp .or .u64 z_8 (IntKind.u64.wrap ((IntKind.u64.wrap (bitsOp .and .u8 x12 127)) * 2 ^ (min (Int.toNat (IntKind.i64.wrap (7 * y_9))) (IntKind.bits .u64))))) 1))))), .int .i64 (IntKind.i64.wrap (y_9 + 1)), .int .i64 0]) h3)) ((0 : Int) ≤ 1 ∧
            R (.tuple #[.int .i64 (bitsOp .xor .i64 (IntKind.i64.wrap (Int.fdiv (bitsOp .or .u64 z_8 (IntKind.u64.wrap ((IntKind.u64.wrap (bitsOp .and .u8 x12 127)) * 2 ^ (min (Int.toNat (IntKind.i64.wrap (7 * y_9))) (IntKind.bits .u64))))) (2 ^ (min (Int.toNat 1) (IntKind.bits .u64))))) (IntKind.i64.wrap (0 - (IntKind.i64.wrap (bitsOp .and .u64 (bitsOp .or .u64 z_8 (IntKind.u64.wrap ((IntKind.u64.wrap (bitsOp .and .u8 x12 127)) * 2 ^ (min (Int.toNat (IntKind.i64.wrap (7 * y_9))) (IntKind.bits .u64))))) 1))))), .int .i64 (IntKind.i64.wrap (y_9 + 1)), .int .i64 0]) h3)))) ((0 : Int) ≤ (IntKind.i64.wrap (7 * y_9)) ∧
      cond (decide (x12 ≥ (128 : Int)))
      (∃ m10, m10 < n2 ∧ I1 m10 h3 y_5 y_6 y_7 (bitsOp .or .u64 z_8 (IntKind.u64.wrap ((IntKind.u64.wrap (bitsOp .and .u8 x12 127)) * 2 ^ (min (Int.toNat (IntKind.i64.wrap (7 * y_9))) (IntKind.bits .u64))))) (IntKind.i64.wrap (y_9 + 1)))
      (cond (x12 == (0 : Int)) (cond (decide (y_9 > (0 : Int)))
          (R (.tuple #[.int .i64 0, .int .i64 0, .int .i64 31]) h3)
          ((0 : Int) ≤ 1 ∧
            R (.tuple #[.int .i64 (bitsOp .xor .i64 (IntKind.i64.wrap (Int.fdiv (bitsOp .or .u64 z_8 (IntKind.u64.wrap ((IntKind.u64.wrap (bitsOp .and .u8 x12 127)) * 2 ^ (min (Int.toNat (IntKind.i64.wrap (7 * y_9))) (IntKind.bits .u64))))) (2 ^ (min (Int.toNat 1) (IntKind.bits .u64))))) (IntKind.i64.wrap (0 - (IntKind.i64.wrap (bitsOp .and .u64 (bitsOp .or .u64 z_8 (IntKind.u64.wrap ((IntKind.u64.wrap (bitsOp .and .u8 x12 127)) * 2 ^ (min (Int.toNat (IntKind.i64.wrap (7 * y_9))) (IntKind.bits .u64))))) 1))))), .int .i64 (IntKind.i64.wrap (y_9 + 1)), .int .i64 0]) h3)) ((0 : Int) ≤ 1 ∧
          R (.tuple #[.int .i64 (bitsOp .xor .i64 (IntKind.i64.wrap (Int.fdiv (bitsOp .or .u64 z_8 (IntKind.u64.wrap ((IntKind.u64.wrap (bitsOp .and .u8 x12 127)) * 2 ^ (min (Int.toNat (IntKind.i64.wrap (7 * y_9))) (IntKind.bits .u64))))) (2 ^ (min (Int.toNat 1) (IntKind.bits .u64))))) (IntKind.i64.wrap (0 - (IntKind.i64.wrap (bitsOp .and .u64 (bitsOp .or .u64 z_8 (IntKind.u64.wrap ((IntKind.u64.wrap (bitsOp .and .u8 x12 127)) * 2 ^ (min (Int.toNat (IntKind.i64.wrap (7 * y_9))) (IntKind.bits .u64))))) 1))))), .int .i64 (IntKind.i64.wrap (y_9 + 1)), .int .i64 0]) h3))))
  (R (.tuple #[.int .i64 0, .int .i64 0, .int .i64 30]) h3)
theorem vf23 (a0b : Option Addr) (la0b ca0b : Nat) (h : Heap) (R : KV) (hF : F23 a0b la0b ca0b h R) : CallsH Tryd.prog 23 #[.slice a0b la0b ca0b] h R :=
  calls_of_vc (A := an23) (fn := Tryd.f23) (c := c23) (args := [.slice a0b la0b ca0b]) Tryd.func23 (by kernel_rfl) mixed (by kernel_rfl) (Eq.mp (by kernel_rfl : F23 a0b la0b ca0b h R = vcF Tryd.prog an23 Tryd.f23 c23 [.slice a0b la0b ca0b] h R) hF)
/-! ### 24 refrain/refrainref3.Int -/
noncomputable def c24 : Code := match Tryd.f24.body with | some c => c | none => .skip
noncomputable def an24 : Ann := { loops := fun i => match i with | 2 => [(5, .int .i64)] | 10 => [(6, .int .u64), (7, .int .u64), (8, .int .i64)] | _ => [], draws := fun i => match i with | 17 => #[0, 1, 0, 0, 8, 28, 63, 127] | _ => #[], joins := fun i => match i with | 17 => some [(9, .int .i64)] | _ => none }
def F24 (a0b : Option Addr) (la0b ca0b : Nat) (h : Heap) (R : KV) : Prop :=
  ∃ I1 : Nat → Heap → Int → Prop, (∃ n2, I1 n2 h 0) ∧
  ∀ (n2 : Nat) (h3 : Heap) (g4 : Env) (n_5 : Int), I1 n2 h3 n_5 →
  cond (decide (n_5 < (la0b : Int))) (cond (decide (n_5 < (10 : Int))) (VIdx a0b la0b n_5 1 fun a7 =>
      ∃ x8 : Int, cellH h3 a7 = some (.int .u8 x8) ∧
      cond (decide (x8 ≥ (128 : Int)))
      (∃ m6, m6 < n2 ∧ I1 m6 h3 (IntKind.i64.wrap (n_5 + 1)))
      (cond (n_5 == (10 : Int)) (R (.tuple #[.int .i64 0, .int .i64 0, .int .i64 31]) h3) (cond (n_5 == (9 : Int)) (cond (decide (n_5 < (la0b : Int))) (VIdx a0b la0b 9 1 fun a9 =>
              ∃ x10 : Int, cellH h3 a9 = some (.int .u8 x10) ∧
              cond (decide (x10 > (1 : Int)))
              (R (.tuple #[.int .i64 0, .int .i64 0, .int .i64 31]) h3)
              (cond (n_5 == (la0b : Int))
                (R (.tuple #[.int .i64 0, .int .i64 0, .int .i64 30]) h3)
                (∃ I11 : Nat → Heap → Int → Int → Int → Prop, (∃ n12, I11 n12 h3 0 1 0) ∧
                  ∀ (n12 : Nat) (h13 : Heap) (g14 : Env) (z_15 : Int) (times_16 : Int) (i_17 : Int), I11 n12 h13 z_15 times_16 i_17 →
                  cond (decide (i_17 ≤ n_5))
                  (VIdx a0b la0b i_17 1 fun a19 =>
                    ∃ x20 : Int, cellH h13 a19 = some (.int .u8 x20) ∧
                    (128 : Int) ≠ (0 : Int) ∧
                    ∃ m18, m18 < n12 ∧ I11 m18 h13 (IntKind.u64.wrap (z_15 + (IntKind.u64.wrap ((IntKind.u64.wrap (Int.tmod x20 128)) * times_16)))) (IntKind.u64.wrap (times_16 * 128)) (IntKind.i64.wrap (i_17 + 1)))
                  ((2 : Int) ≠ (0 : Int) ∧
                    ∃ J21 : Heap → Int → Prop, ((2 : Int) ≠ (0 : Int) ∧
                      cond ((Int.tmod z_15 2) == (1 : Int))
                      (J21 h13 (IntKind.i64.wrap ((IntKind.i64.wrap (0 - (IntKind.i64.wrap (IntKind.u64.wrap (Int.tdiv z_15 2))))) - 1)))
                      (J21 h13 (IntKind.i64.wrap (IntKind.u64.wrap (Int.tdiv z_15 2))))) ∧
                    ∀ (h22 : Heap) (g23 : Env) (v_24 : Int), J21 h22 v_24 →
                    VSlice 1 a0b ca0b 0 (IntKind.i64.wrap (n_5 + 1)) (ca0b : Int) fun a25 la25 ca25 =>
                    CallsH Tryd.prog 22 #[.int .i64 v_24] h22 fun v26 h27 =>
                    ∃ (a28 : Option Addr) (la28 ca28 : Nat), v26 = .slice a28 la28 ca28 ∧
                    CallsH Tryd.prog 57 #[.slice a28 la28 ca28, .slice a25 la25 ca25] h27 fun v29 h30 =>
                    ∃ b31 : Bool, v29 = .bool b31 ∧
                    cond (!b31)
                    (R (.tuple #[.int .i64 0, .int .i64 0, .int .i64 31]) h30)
                    (R (.tuple #[.int .i64 v_24, .int .i64 (IntKind.i64.wrap (n_5 + 1)), .int .i64 0]) h30))))) (cond (n_5 == (la0b : Int))
              (R (.tuple #[.int .i64 0, .int .i64 0, .int .i64 30]) h3)
              (∃ I32 : Nat → Heap → Int → Int → Int → Prop, (∃ n33, I32 n33 h3 0 1 0) ∧
                ∀ (n33 : Nat) (h34 : Heap) (g35 : Env) (z_36 : Int) (times_37 : Int) (i_38 : Int), I32 n33 h34 z_36 times_37 i_38 →
                cond (decide (i_38 ≤ n_5))
                (VIdx a0b la0b i_38 1 fun a40 =>
                  ∃ x41 : Int, cellH h34 a40 = some (.int .u8 x41) ∧
                  (128 : Int) ≠ (0 : Int) ∧
                  ∃ m39, m39 < n33 ∧ I32 m39 h34 (IntKind.u64.wrap (z_36 + (IntKind.u64.wrap ((IntKind.u64.wrap (Int.tmod x41 128)) * times_37)))) (IntKind.u64.wrap (times_37 * 128)) (IntKind.i64.wrap (i_38 + 1)))
                ((2 : Int) ≠ (0 : Int) ∧
                  ∃ J42 : Heap → Int → Prop, ((2 : Int) ≠ (0 : Int) ∧
                    cond ((Int.tmod z_36 2) == (1 : Int))
                    (J42 h34 (IntKind.i64.wrap ((IntKind.i64.wrap (0 - (IntKind.i64.wrap (IntKind.u64.wrap (Int.tdiv z_36 2))))) - 1)))
                    (J42 h34 (IntKind.i64.wrap (IntKind.u64.wrap (Int.tdiv z_36 2))))) ∧
                  ∀ (h43 : Heap) (g44 : Env) (v_45 : Int), J42 h43 v_45 →
                  VSlice 1 a0b ca0b 0 (IntKind.i64.wrap (n_5 + 1)) (ca0b : Int) fun a46 la46 ca46 =>
                  CallsH Tryd.prog 22 #[.int .i64 v_45] h43 fun v47 h48 =>
                  ∃ (a49 : Option Addr) (la49 ca49 : Nat), v47 = .slice a49 la49 ca49 ∧
                  CallsH Tryd.prog 57 #[.slice a49 la49 ca49, .slice a46 la46 ca46] h48 fun v50 h51 =>
                  ∃ b52 : Bool, v50 = .bool b52 ∧
                  cond (!b52)
                  (R (.tuple #[.int .i64 0, .int .i64 0, .int .i64 31]) h51)
                  (R (.tuple #[.int .i64 v_45, .int .i64 (IntKind.i64.wrap (n_5 + 1)), .int .i64 0]) h51))))) (cond (n_5 == (la0b : Int))
            (R (.tuple #[.int .i64 0, .int .i64 0, .int .i64 30]) h3)
            (∃ I53 : Nat → Heap → Int → Int → Int → Prop, (∃ n54, I53 n54 h3 0 1 0) ∧
              ∀ (n54 : Nat) (h55 : Heap) (g56 : Env) (z_57 : Int) (times_58 : Int) (i_59 : Int), I53 n54 h55 z_57 times_58 i_59 →
              cond (decide (i_59 ≤ n_5))
              (VIdx a0b la0b i_59 1 fun a61 =>
                ∃ x62 : Int, cellH h55 a61 = some (.int .u8 x62) ∧
                (128 : Int) ≠ (0 : Int) ∧
                ∃ m60, m60 < n54 ∧ I53 m60 h55 (IntKind.u64.wrap (z_57 + (IntKind.u64.wrap ((IntKind.u64.wrap (Int.tmod x62 128)) * times_58)))) (IntKind.u64.wrap (times_58 * 128)) (IntKind.i64.wrap (i_59 + 1)))
              ((2 : Int) ≠ (0 : Int) ∧
                ∃ J63 : Heap → Int → Prop, ((2 : Int) ≠ (0 : Int) ∧
                  cond ((Int.tmod z_57 2) == (1 : Int))
                  (J63 h55 (IntKind.i64.wrap ((IntKind.i64.wrap (0 - (IntKind.i64.wrap (IntKind.u64.wrap (Int.tdiv z_57 2))))) - 1)))
                  (J63 h55 (IntKind.i64.wrap (IntKind.u64.wrap (Int.tdiv z_57 2))))) ∧
                ∀ (h64 : Heap) (g65 : Env) (v_66 : Int), J63 h64 v_66 →
                VSlice 1 a0b ca0b 0 (IntKind.i64.wrap (n_5 + 1)) (ca0b : Int) fun a67 la67 ca67 =>
                CallsH Tryd.prog 22 #[.int .i64 v_66] h64 fun v68 h69 =>
                ∃ (a70 : Option Addr) (la70 ca70 : Nat), v68 = .slice a70 la70 ca70 ∧
                CallsH Tryd.prog 57 #[.slice a70 la70 ca70, .slice a67 la67 ca67] h69 fun v71 h72 =>
                ∃ b73 : Bool, v71 = .bool b73 ∧
                cond (!b73)
                (R (.tuple #[.int .i64 0, .int .i64 0, .int .i64 31]) h72)
                (R (.tuple #[.int .i64 v_66, .int .i64 (IntKind.i64.wrap (n_5 + 1)), .int .i64 0]) h72))))))) (cond (n_5 == (10 : Int)) (R (.tuple #[.int .i64 0, .int .i64 0, .int .i64 31]) h3) (cond (n_5 == (9 : Int)) (cond (decide (n_5 < (la0b : Int))) (VIdx a0b la0b 9 1 fun a74 =>
            ∃ x75 : Int, cellH h3 a74 = some (.int .u8 x75) ∧
            cond (decide (x75 > (1 : Int)))
            (R (.tuple #[.int .i64 0, .int .i64 0, .int .i64 31]) h3)
            (cond (n_5 == (la0b : Int))
              (R (.tuple #[.int .i64 0, .int .i64 0, .int .i64 30]) h3)
              (∃ I76 : Nat → Heap → Int → Int → Int → Prop, (∃ n77, I76 n77 h3 0 1 0) ∧
                ∀ (n77 : Nat) (h78 : Heap) (g79 : Env) (z_80 : Int) (times_81 : Int) (i_82 : Int), I76 n77 h78 z_80 times_81 i_82 →
                cond (decide (i_82 ≤ n_5))
                (VIdx a0b la0b i_82 1 fun a84 =>
                  ∃ x85 : Int, cellH h78 a84 = some (.int .u8 x85) ∧
                  (128 : Int) ≠ (0 : Int) ∧
                  ∃ m83, m83 < n77 ∧ I76 m83 h78 (IntKind.u64.wrap (z_80 + (IntKind.u64.wrap ((IntKind.u64.wrap (Int.tmod x85 128)) * times_81)))) (IntKind.u64.wrap (times_81 * 128)) (IntKind.i64.wrap (i_82 + 1)))
                ((2 : Int) ≠ (0 : Int) ∧
                  ∃ J86 : Heap → Int → Prop, ((2 : Int) ≠ (0 : Int) ∧
                    cond ((Int.tmod z_80 2) == (1 : Int))
                    (J86 h78 (IntKind.i64.wrap ((IntKind.i64.wrap (0 - (IntKind.i64.wrap (IntKind.u64.wrap (Int.tdiv z_80 2))))) - 1)))
                    (J86 h78 (IntKind.i64.wrap (IntKind.u64.wrap (Int.tdiv z_80 2))))) ∧
                  ∀ (h87 : Heap) (g88 : Env) (v_89 : Int), J86 h87 v_89 →
                  VSlice 1 a0b ca0b 0 (IntKind.i64.wrap (n_5 + 1)) (ca0b : Int) fun a90 la90 ca90 =>
                  CallsH Tryd.prog 22 #[.int .i64 v_89] h87 fun v91 h92 =>
                  ∃ (a93 : Option Addr) (la93 ca93 : Nat), v91 = .slice a93 la93 ca93 ∧
                  CallsH Tryd.prog 57 #[.slice a93 la93 ca93, .slice a90 la90 ca90] h92 fun v94 h95 =>
                  ∃ b96 : Bool, v94 = .bool b96 ∧
                  cond (!b96)
                  (R (.tuple #[.int .i64 0, .int .i64 0, .int .i64 31]) h95)
                  (R (.tuple #[.int .i64 v_89, .int .i64 (IntKind.i64.wrap (n_5 + 1)), .int .i64 0]) h95))))) (cond (n_5 == (la0b : Int))
            (R (.tuple #[.int .i64 0, .int .i64 0, .int .i64 30]) h3)
            (∃ I97 : Nat → Heap → Int → Int → Int → Prop, (∃ n98, I97 n98 h3 0 1 0) ∧
              ∀ (n98 : Nat) (h99 : Heap) (g100 : Env) (z_101 : Int) (times_102 : Int) (i_103 : Int), I97 n98 h99 z_101 times_102 i_103 →
              cond (decide (i_103 ≤ n_5))
              (VIdx a0b la0b i_103 1 fun a105 =>
                ∃ x106 : Int, cellH h99 a105 = some (.int .u8 x106) ∧
                (128 : Int) ≠ (0 : Int) ∧
                ∃ m104, m104 < n98 ∧ I97 m104 h99 (IntKind.u64.wrap (z_101 + (IntKind.u64.wrap ((IntKind.u64.wrap (Int.tmod x106 128)) * times_102)))) (IntKind.u64.wrap (times_102 * 128)) (IntKind.i64.wrap (i_103 + 1)))
              ((2 : Int) ≠ (0 : Int) ∧
                ∃ J107 : Heap → Int → Prop, ((2 : Int) ≠ (0 : Int) ∧
                  cond ((Int.tmod z_101 2) == (1 : Int))
                  (J107 h99 (IntKind.i64.wrap ((IntKind.i64.wrap (0 - (IntKind.i64.wrap (IntKind.u64.wrap (Int.tdiv z_101 2))))) - 1)))
                  (J107 h99 (IntKind.i64.wrap (IntKind.u64.wrap (Int.tdiv z_101 2))))) ∧
                ∀ (h108 : Heap) (g109 : Env) (v_110 : Int), J107 h108 v_110 →
                VSlice 1 a0b ca0b 0 (IntKind.i64.wrap (n_5 + 1)) (ca0b : Int) fun a111 la111 ca111 =>
                CallsH Tryd.prog 22 #[.int .i64 v_110] h108 fun v112 h113 =>
                ∃ (a114 : Option Addr) (la114 ca114 : Nat), v112 = .slice a114 la114 ca114 ∧
                CallsH Tryd.prog 57 #[.slice a114 la114 ca114, .slice a111 la111 ca111] h113 fun v115 h116 =>
                ∃ b117 : Bool, v115 = .bool b117 ∧
                cond (!b117)
                (R (.tuple #[.int .i64 0, .int .i64 0, .int .i64 31]) h116)
                (R (.tuple #[.int .i64 v_110, .int .i64 (IntKind.i64.wrap (n_5 + 1)), .int .i64 0]) h116))))) (cond (n_5 == (la0b : Int))
          (R (.tuple #[.int .i64 0, .int .i64 0, .int .i64 30]) h3)
          (∃ I118 : Nat → Heap → Int → Int → Int → Prop, (∃ n119, I118 n119 h3 0 1 0) ∧
            ∀ (n119 : Nat) (h120 : Heap) (g121 : Env) (z_122 : Int) (times_123 : Int) (i_124 : Int), I118 n119 h120 z_122 times_123 i_124 →
            cond (decide (i_124 ≤ n_5))
            (VIdx a0b la0b i_124 1 fun a126 =>
              ∃ x127 : Int, cellH h120 a126 = some (.int .u8 x127) ∧
              (128 : Int) ≠ (0 : Int) ∧
              ∃ m125, m125 < n119 ∧ I118 m125 h120 (IntKind.u64.wrap (z_122 + (IntKind.u64.wrap ((IntKind.u64.wrap (Int.tmod x127 128)) * times_123)))) (IntKind.u64.wrap (times_123 * 128)) (IntKind.i64.wrap (i_124 + 1)))
            ((2 : Int) ≠ (0 : Int) ∧
              ∃ J128 : Heap → Int → Prop, ((2 : Int) ≠ (0 : Int) ∧
                cond ((Int.tmod z_122 2) == (1 : Int))
                (J128 h120 (IntKind.i64.wrap ((IntKind.i64.wrap (0 - (IntKind.i64.wrap (IntKind.u64.wrap (Int.tdiv z_122 2))))) - 1)))
                (J128 h120 (IntKind.i64.wrap (IntKind.u64.wrap (Int.tdiv z_122 2))))) ∧
              ∀ (h129 : Heap) (g130 : Env) (v_131 : Int), J128 h129 v_131 →
              VSlice 1 a0b ca0b 0 (IntKind.i64.wrap (n_5 + 1)) (ca0b : Int) fun a132 la132 ca132 =>
              CallsH Tryd.prog 22 #[.int .i64 v_131] h129 fun v133 h134 =>
              ∃ (a135 : Option Addr) (la135 ca135 : Nat), v133 = .slice a135 la135 ca135 ∧
              CallsH Tryd.prog 57 #[.slice a135 la135 ca135, .slice a132 la132 ca132] h134 fun v136 h137 =>
              ∃ b138 : Bool, v136 = .bool b138 ∧
              cond (!b138)
              (R (.tuple #[.int .i64 0, .int .i64 0, .int .i64 31]) h137)
              (R (.tuple #[.int .i64 v_131, .int .i64 (IntKind.i64.wrap (n_5 + 1)), .int .i64 0]) h137))))))) (cond (n_5 == (10 : Int)) (R (.tuple #[.int .i64 0, .int .i64 0, .int .i64 31]) h3) (cond (n_5 == (9 : Int)) (cond (decide (n_5 < (la0b : Int))) (VIdx a0b la0b 9 1 fun a139 =>
          ∃ x140 : Int, cellH h3 a139 = some (.int .u8 x140) ∧
          cond (decide (x140 > (1 : Int)))
          (R (.tuple #[.int .i64 0, .int .i64 0, .int .i64 31]) h3)
          (cond (n_5 == (la0b : Int))
            (R (.tuple #[.int .i64 0, .int .i64 0, .int .i64 30]) h3)
            (∃ I141 : Nat → Heap → Int → Int → Int → Prop, (∃ n142, I141 n142 h3 0 1 0) ∧
              ∀ (n142 : Nat) (h143 : Heap) (g144 : Env) (z_145 : Int) (times_146 : Int) (i_147 : Int), I141 n142 h143 z_145 times_146 i_147 →
              cond (decide (i_147 ≤ n_5))
              (VIdx a0b la0b i_147 1 fun a149 =>
                ∃ x150 : Int, cellH h143 a149 = some (.int .u8 x150) ∧
                (128 : Int) ≠ (0 : Int) ∧
                ∃ m148, m148 < n142 ∧ I141 m148 h143 (IntKind.u64.wrap (z_145 + (IntKind.u64.wrap ((IntKind.u64.wrap (Int.tmod x150 128)) * times_146)))) (IntKind.u64.wrap (times_146 * 128)) (IntKind.i64.wrap (i_147 + 1)))
              ((2 : Int) ≠ (0 : Int) ∧
                ∃ J151 : Heap → Int → Prop, ((2 : Int) ≠ (0 : Int) ∧
                  cond ((Int.tmod z_145 2) == (1 : Int))
                  (J151 h143 (IntKind.i64.wrap ((IntKind.i64.wrap (0 - (IntKind.i64.wrap (IntKind.u64.wrap (Int.tdiv z_145 2))))) - 1)))
                  (J151 h143 (IntKind.i64.wrap (IntKind.u64.wrap (Int.tdiv z_145 2))))) ∧
                ∀ (h152 : Heap) (g153 : Env) (v_154 : Int), J151 h152 v_154 →
                VSlice 1 a0b ca0b 0 (IntKind.i64.wrap (n_5 + 1)) (ca0b : Int) fun a155 la155 ca155 =>
                CallsH Tryd.prog 22 #[.int .i64 v_154] h152 fun v156 h157 =>
                ∃ (a158 : Option Addr) (la158 ca158 : Nat), v156 = .slice a158 la158 ca158 ∧
                CallsH Tryd.prog 57 #[.slice a158 la158 ca158, .slice a155 la155 ca155] h157 fun v159 h160 =>
                ∃ b161 : Bool, v159 = .bool b161 ∧
                cond (!b161)
                (R (.tuple #[.int .i64 0, .int .i64 0, .int .i64 31]) h160)
                (R (.tuple #[.int .i64 v_154, .int .i64 (IntKind.i64.wrap (n_5 + 1)), .int .i64 0]) h160))))) (cond (n_5 == (la0b : Int))
          (R (.tuple #[.int .i64 0, .int .i64 0, .int .i64 30]) h3)
          (∃ I162 : Nat → Heap → Int → Int → Int → Prop, (∃ n163, I162 n163 h3 0 1 0) ∧
            ∀ (n163 : Nat) (h164 : Heap) (g165 : Env) (z_166 : Int) (times_167 : Int) (i_168 : Int), I162 n163 h164 z_166 times_167 i_168 →
            cond (decide (i_168 ≤ n_5))
            (VIdx a0b la0b i_168 1 fun a170 =>
              ∃ x171 : Int, cellH h164 a170 = some (.int .u8 x171) ∧
              (128 : Int) ≠ (0 : Int) ∧
              ∃ m169, m169 < n163 ∧ I162 m169 h164 (IntKind.u64.wrap (z_166 + (IntKind.u64.wrap ((IntKind.u64.wrap (Int.tmod x171 128)) * times_167)))) (IntKind.u64.wrap (times_167 * 128)) (IntKind.i64.wrap (i_168 + 1)))
            ((2 : Int) ≠ (0 : Int) ∧
              ∃ J172 : Heap → Int → Prop, ((2 : Int) ≠ (0 : Int) ∧
                cond ((Int.tmod z_166 2) == (1 : Int))
                (J172 h164 (IntKind.i64.wrap ((IntKind.i64.wrap (0 - (IntKind.i64.wrap (IntKind.u64.wrap (Int.tdiv z_166 2))))) - 1)))
                (J172 h164 (IntKind.i64.wrap (IntKind.u64.wrap (Int.tdiv z_166 2))))) ∧
              ∀ (h173 : Heap) (g174 : Env) (v_175 : Int), J172 h173 v_175 →
              VSlice 1 a0b ca0b 0 (IntKind.i64.wrap (n_5 + 1)) (ca0b : Int) fun a176 la176 ca176 =>
              CallsH Tryd.prog 22 #[.int .i64 v_175] h173 fun v177 h178 =>
              ∃ (a179 : Option Addr) (la179 ca179 : Nat), v177 = .slice a179 la179 ca179 ∧
              CallsH Tryd.prog 57 #[.slice a179 la179 ca179, .slice a176 la176 ca176] h178 fun v180 h181 =>
              ∃ b182 : Bool, v180 = .bool b182 ∧
              cond (!b182)
              (R (.tuple #[.int .i64 0, .int .i64 0, .int .i64 31]) h181)
              (R (.tuple #[.int .i64 v_175, .int .i64 (IntKind.i64.wrap (n_5 + 1)), .int .i64 0]) h181))))) (cond (n_5 == (la0b : Int))
        (R (.tuple #[.int .i64 0, .int .i64 0, .int .i64 30]) h3)
        (∃ I183 : Nat → Heap → Int → Int → Int → Prop, (∃ n184, I183 n184 h3 0 1 0) ∧
          ∀ (n184 : Nat) (h185 : Heap) (g186 : Env) (z_187 : Int) (times_188 : Int) (i_189 : Int), I183 n184 h185 z_187 times_188 i_189 →
          cond (decide (i_189 ≤ n_5))
          (VIdx a0b la0b i_189 1 fun a191 =>
            ∃ x192 : Int, cellH h185 a191 = some (.int .u8 x192) ∧
            (128 : Int) ≠ (0 : Int) ∧
            ∃ m190, m190 < n184 ∧ I183 m190 h185 (IntKind.u64.wrap (z_187 + (IntKind.u64.wrap ((IntKind.u64.wrap (Int.tmod x192 128)) * times_188)))) (IntKind.u64.wrap (times_188 * 128)) (IntKind.i64.wrap (i_189 + 1)))
          ((2 : Int) ≠ (0 : Int) ∧
            ∃ J193 : Heap → Int → Prop, ((2 : Int) ≠ (0 : Int) ∧
              cond ((Int.tmod z_187 2) == (1 : Int))
              (J193 h185 (IntKind.i64.wrap ((IntKind.i64.wrap (0 - (IntKind.i64.wrap (IntKind.u64.wrap (Int.tdiv z_187 2))))) - 1)))
              (J193 h185 (IntKind.i64.wrap (IntKind.u64.wrap (Int.tdiv z_187 2))))) ∧
            ∀ (h194 : Heap) (g195 : Env) (v_196 : Int), J193 h194 v_196 →
            VSlice 1 a0b ca0b 0 (IntKind.i64.wrap (n_5 + 1)) (ca0b : Int) fun a197 la197 ca197 =>
            CallsH Tryd.prog 22 #[.int .i64 v_196] h194 fun v198 h199 =>
            ∃ (a200 : Option Addr) (la200 ca200 : Nat), v198 = .slice a200 la200 ca200 ∧
            CallsH Tryd.prog 57 #[.slice a200 la200 ca200, .slice a197 la197 ca197] h199 fun v201 h202 =>
            ∃ b203 : Bool, v201 = .bool b203 ∧
            cond (!b203)
            (R (.tuple #[.int .i64 0, .int .i64 0, .int .i64 31]) h202)
            (R (.tuple #[.int .i64 v_196, .int .i64 (IntKind.i64.wrap (n_5 + 1)), .int .i64 0]) h202))))))
theorem vf24 (a0b : Option Addr) (la0b ca0b : Nat) (h : Heap) (R : KV) (hF : F24 a0b la0b ca0b h R) : CallsH Tryd.prog 24 #[.slice a0b la0b ca0b] h R :=
  calls_of_vc (A := an24) (fn := Tryd.f24) (c := c24) (args := [.slice a0b la0b ca0b]) Tryd.func24 (by kernel_rfl) mixed (by kernel_rfl) (Eq.mp (by kernel_rfl : F24 a0b la0b ca0b h R = vcF Tryd.prog an24 Tryd.f24 c24 [.slice a0b la0b ca0b] h R) hF)
/-! ### 25 refrain/refrainlaw3.front -/
noncomputable def c25 : Code := match Tryd.f25.body with | some c => c | none => .skip
noncomputable def an25 : Ann := { loops := fun i => match i with | 10 => [(2, .bool), (8, .int .i64)] | _ => [], draws := fun i => #[], joins := fun i => none }
def F25 (a0b : Option Addr) (la0b ca0b : Nat) (h : Heap) (R : KV) : Prop :=
  CallsH Tryd.prog 18 #[.slice a0b la0b ca0b] h fun v1 h2 =>
  ∃ s3 : ByteArray, ∃ x4 : Int, ∃ (a5 : Option Addr) (la5 ca5 : Nat), ∃ x6 : Int, ∃ x7 : Int, v1 = .tuple #[.agg #[.string s3, .int .i64 x4, .slice a5 la5 ca5], .int .i64 x6, .int .i64 x7] ∧
  VNew h2 (.cells #[.string (ByteArray.mk #[]), .int .i64 0, .slice none 0 0] 27) fun b8 h9 =>
  storeL ⟨b8, 0, none⟩ 0 [.string s3, .int .i64 x4, .slice a5 la5 ca5] h9 fun h10 =>
  cond (x7 != (0 : Int))
  (R (.bool true) h10)
  (cond (decide (x6 < (1 : Int))) (R (.bool false) h10) (cond (decide (x6 > (la0b : Int)))
      (R (.bool false) h10)
      (∃ s11 : ByteArray, cellH h10 ⟨b8, 0, none⟩ = some (.string s11) ∧
        ∃ x12 : Int, cellH h10 ⟨b8, 1, none⟩ = some (.int .i64 x12) ∧
        ∃ (a13 : Option Addr) (la13 ca13 : Nat), cellH h10 ⟨b8, 2, none⟩ = some (.slice a13 la13 ca13) ∧
        CallsH Tryd.prog 13 #[.agg #[.string s11, .int .i64 x12, .slice a13 la13 ca13]] h10 fun v14 h15 =>
        ∃ (a16 : Option Addr) (la16 ca16 : Nat), ∃ x17 : Int, v14 = .tuple #[.slice a16 la16 ca16, .int .i64 x17] ∧
        cond (x17 != (0 : Int)) (R (.bool false) h15) (VSlice 1 a0b ca0b 0 x6 (ca0b : Int) fun a18 la18 ca18 =>
          CallsH Tryd.prog 15 #[.slice a16 la16 ca16, .slice a18 la18 ca18] h15 fun v19 h20 =>
          ∃ b21 : Bool, v19 = .bool b21 ∧
          cond (!b21)
          (R (.bool false) h20)
          (∃ I22 : Nat → Heap → Bool → Int → Prop, (∃ n23, I22 n23 h20 false 0) ∧
            ∀ (n23 : Nat) (h24 : Heap) (g25 : Env) (y_26 : Bool) (i_27 : Int), I22 n23 h24 y_26 i_27 →
            cond (decide (i_27 < x6))
            (VSlice 1 a0b ca0b 0 i_27 (ca0b : Int) fun a29 la29 ca29 =>
              CallsH Tryd.prog 18 #[.slice a29 la29 ca29] h24 fun v30 h31 =>
              ∃ s32 : ByteArray, ∃ x33 : Int, ∃ (a34 : Option Addr) (la34 ca34 : Nat), ∃ x35 : Int, ∃ x36 : Int, v30 = .tuple #[.agg #[.string s32, .int .i64 x33, .slice a34 la34 ca34], .int .i64 x35, .int .i64 x36] ∧
              VNew h31 (.cells #[.string (ByteArray.mk #[]), .int .i64 0, .slice none 0 0] 27) fun b37 h38 =>
              storeL ⟨b37, 0, none⟩ 0 [.string s32, .int .i64 x33, .slice a34 la34 ca34] h38 fun h39 =>
              cond (x36 != (30 : Int))
              (R (.bool false) h39)
              (∃ m28, m28 < n23 ∧ I22 m28 h39 y_26 (IntKind.i64.wrap (i_27 + 1))))
            (R (.bool true) h24))))))
theorem vf25 (a0b : Option Addr) (la0b ca0b : Nat) (h : Heap) (R : KV) (hF : F25 a0b la0b ca0b h R) : CallsH Tryd.prog 25 #[.slice a0b la0b ca0b] h R :=
  calls_of_vc (A := an25) (fn := Tryd.f25) (c := c25) (args := [.slice a0b la0b ca0b]) Tryd.func25 (by kernel_rfl) mixed (by kernel_rfl) (Eq.mp (by kernel_rfl : F25 a0b la0b ca0b h R = vcF Tryd.prog an25 Tryd.f25 c25 [.slice a0b la0b ca0b] h R) hF)
/-! ### 26 refrain/refrainlaw3.number -/
noncomputable def c26 : Code := match Tryd.f26.body with | some c => c | none => .skip
noncomputable def an26 : Ann := { loops := fun i => match i with | 7 => [(2, .bool), (6, .int .i64)] | _ => [], draws := fun i => match i with | 4 => #[0, 1, 3, 7, 7, 23, 63, 127, 255, 511, 1023, 511, 511, 6655, 16383, 32767, 65535] | _ => #[], joins := fun i => none }
def F26 (a0b : Option Addr) (la0b ca0b : Nat) (h : Heap) (R : KV) : Prop :=
  CallsH Tryd.prog 23 #[.slice a0b la0b ca0b] h fun v1 h2 =>
  ∃ x3 : Int, ∃ x4 : Int, ∃ x5 : Int, v1 = .tuple #[.int .i64 x3, .int .i64 x4, .int .i64 x5] ∧
  cond (x5 != (0 : Int))
  (R (.bool true) h2)
  (cond (decide (x4 < (1 : Int))) (R (.bool false) h2) (cond (decide (x4 > (la0b : Int))) (R (.bool false) h2) (VSlice 1 a0b ca0b 0 x4 (ca0b : Int) fun a6 la6 ca6 =>
        CallsH Tryd.prog 21 #[.int .i64 x3] h2 fun v7 h8 =>
        ∃ (a9 : Option Addr) (la9 ca9 : Nat), v7 = .slice a9 la9 ca9 ∧
        CallsH Tryd.prog 15 #[.slice a9 la9 ca9, .slice a6 la6 ca6] h8 fun v10 h11 =>
        ∃ b12 : Bool, v10 = .bool b12 ∧
        cond (!b12)
        (R (.bool false) h11)
        (∃ I13 : Nat → Heap → Bool → Int → Prop, (∃ n14, I13 n14 h11 false 0) ∧
          ∀ (n14 : Nat) (h15 : Heap) (g16 : Env) (y_17 : Bool) (i_18 : Int), I13 n14 h15 y_17 i_18 →
          cond (decide (i_18 < x4))
          (VSlice 1 a0b ca0b 0 i_18 (ca0b : Int) fun a20 la20 ca20 =>
            CallsH Tryd.prog 23 #[.slice a20 la20 ca20] h15 fun v21 h22 =>
            ∃ x23 : Int, ∃ x24 : Int, ∃ x25 : Int, v21 = .tuple #[.int .i64 x23, .int .i64 x24, .int .i64 x25] ∧
            cond (x25 != (30 : Int))
            (R (.bool false) h22)
            (∃ m19, m19 < n14 ∧ I13 m19 h22 y_17 (IntKind.i64.wrap (i_18 + 1))))
          (R (.bool true) h15)))))
theorem vf26 (a0b : Option Addr) (la0b ca0b : Nat) (h : Heap) (R : KV) (hF : F26 a0b la0b ca0b h R) : CallsH Tryd.prog 26 #[.slice a0b la0b ca0b] h R :=
  calls_of_vc (A := an26) (fn := Tryd.f26) (c := c26) (args := [.slice a0b la0b ca0b]) Tryd.func26 (by kernel_rfl) mixed (by kernel_rfl) (Eq.mp (by kernel_rfl : F26 a0b la0b ca0b h R = vcF Tryd.prog an26 Tryd.f26 c26 [.slice a0b la0b ca0b] h R) hF)
/-! ### 27 refrain/refrainlaw3.given -/
noncomputable def c27 : Code := match Tryd.f27.body with | some c => c | none => .skip
noncomputable def an27 : Ann := { loops := fun i => match i with | 5 => [(6, .slc), (7, .int .i64)] | _ => [], draws := fun i => #[], joins := fun i => match i with | 6 => some [(6, .slc)] | _ => none }
def F27 (a0es : Option Addr) (la0es ca0es : Nat) (h : Heap) (R : KV) : Prop :=
  RunsTo Tryd.prog (Instr.makeSlice 22 (.int .i64 (IntKind.i64.wrap ((la0es : Int) + 34))) (.int .i64 (IntKind.i64.wrap ((la0es : Int) + 34)))) h fun v1 h2 =>
  ∃ (a3 : Option Addr) (la3 ca3 : Nat), v1 = .slice a3 la3 ca3 ∧
  ∃ I4 : Nat → Heap → Option Addr → Nat → Nat → Int → Prop, (∃ n5, I4 n5 h2 none 0 0 0) ∧
  ∀ (n5 : Nat) (h6 : Heap) (g7 : Env) (rooms_8 : Option Addr) (lrooms_8 crooms_8 : Nat) (i_9 : Int), I4 n5 h6 rooms_8 lrooms_8 crooms_8 i_9 →
  cond (decide (i_9 < (la3 : Int)))
  (∃ J11 : Heap → Option Addr → Nat → Nat → Prop, (VIdx a3 la3 i_9 3 fun a12 =>
      VStore h6 ⟨a12.block, a12.off + 1, none⟩ (.int .i64 (IntKind.i64.wrap ((IntKind.i64.wrap (78 + i_9)) - (la0es : Int)))) fun h13 =>
      cond (decide (i_9 < (la0es : Int)))
      (VIdx a0es la0es i_9 3 fun a14 =>
        ∃ s15 : ByteArray, cellH h13 a14 = some (.string s15) ∧
        ∃ x16 : Int, cellH h13 ⟨a14.block, a14.off + 1, none⟩ = some (.int .i64 x16) ∧
        ∃ (a17 : Option Addr) (la17 ca17 : Nat), cellH h13 ⟨a14.block, a14.off + 2, none⟩ = some (.slice a17 la17 ca17) ∧
        CallsH Tryd.prog 12 #[.agg #[.string s15, .int .i64 x16, .slice a17 la17 ca17]] h13 fun v18 h19 =>
        ∃ s20 : ByteArray, ∃ x21 : Int, ∃ (a22 : Option Addr) (la22 ca22 : Nat), ∃ (a23 : Option Addr) (la23 ca23 : Nat), v18 = .tuple #[.agg #[.string s20, .int .i64 x21, .slice a22 la22 ca22], .slice a23 la23 ca23] ∧
        VNew h19 (.cells #[.string (ByteArray.mk #[]), .int .i64 0, .slice none 0 0] 27) fun b24 h25 =>
        storeL ⟨b24, 0, none⟩ 0 [.string s20, .int .i64 x21, .slice a22 la22 ca22] h25 fun h26 =>
        ∃ s27 : ByteArray, cellH h26 ⟨b24, 0, none⟩ = some (.string s27) ∧
        ∃ x28 : Int, cellH h26 ⟨b24, 1, none⟩ = some (.int .i64 x28) ∧
        ∃ (a29 : Option Addr) (la29 ca29 : Nat), cellH h26 ⟨b24, 2, none⟩ = some (.slice a29 la29 ca29) ∧
        VIdx a3 la3 i_9 3 fun a30 =>
        storeL a30 0 [.string s27, .int .i64 x28, .slice a29 la29 ca29] h26 fun h31 =>
        VNew h31 (.cells #[.slice a23 la23 ca23] 25) fun b32 h33 =>
        RunsTo Tryd.prog (Builtin.append_ #[49, 49] 49 #[.slice rooms_8 lrooms_8 crooms_8, .slice (some ⟨b32, 0, none⟩) 1 1]) h33 fun v34 h35 =>
        ∃ (a36 : Option Addr) (la36 ca36 : Nat), v34 = .slice a36 la36 ca36 ∧
        J11 h35 a36 la36 ca36)
      (J11 h13 rooms_8 lrooms_8 crooms_8)) ∧
    ∀ (h37 : Heap) (g38 : Env) (rooms_39 : Option Addr) (lrooms_39 crooms_39 : Nat), J11 h37 rooms_39 lrooms_39 crooms_39 →
    ∃ m10, m10 < n5 ∧ I4 m10 h37 rooms_39 lrooms_39 crooms_39 (IntKind.i64.wrap (i_9 + 1)))
  (R (.tuple #[.slice a3 la3 ca3, .slice rooms_8 lrooms_8 crooms_8]) h6)
theorem vf27 (a0es : Option Addr) (la0es ca0es : Nat) (h : Heap) (R : KV) (hF : F27 a0es la0es ca0es h R) : CallsH Tryd.prog 27 #[.slice a0es la0es ca0es] h R :=
  calls_of_vc (A := an27) (fn := Tryd.f27) (c := c27) (args := [.slice a0es la0es ca0es]) Tryd.func27 (by kernel_rfl) mixed (by kernel_rfl) (Eq.mp (by kernel_rfl : F27 a0es la0es ca0es h R = vcF Tryd.prog an27 Tryd.f27 c27 [.slice a0es la0es ca0es] h R) hF)
/-! ### 28 refrain/wire.Pack -/
noncomputable def c28 : Code := match Tryd.f28.body with | some c => c | none => .skip
noncomputable def an28 : Ann := { loops := fun i => match i with | 5 => [(2, .slc), (3, .int .i64), (4, .slc), (17, .int .i64)] | _ => [], draws := fun i => #[], joins := fun i => none }
def F28 (a0es : Option Addr) (la0es ca0es : Nat) (h : Heap) (R : KV) : Prop :=
  cond (decide ((la0es : Int) > (1024 : Int)))
  (R (.tuple #[.slice none 0 0, .int .i64 2]) h)
  (CallsH Tryd.prog 56 #[.slice none 0 0, .int .i64 (la0es : Int)] h fun v1 h2 =>
    ∃ (a3 : Option Addr) (la3 ca3 : Nat), v1 = .slice a3 la3 ca3 ∧
    ∃ I4 : Nat → Heap → Option Addr → Nat → Nat → Int → Option Addr → Nat → Nat → Int → Prop, (∃ n5, I4 n5 h2 none 0 0 0 a3 la3 ca3 0) ∧
    ∀ (n5 : Nat) (h6 : Heap) (g7 : Env) (y_8 : Option Addr) (ly_8 cy_8 : Nat) (y_9 : Int) (b_10 : Option Addr) (lb_10 cb_10 : Nat) (y_11 : Int), I4 n5 h6 y_8 ly_8 cy_8 y_9 b_10 lb_10 cb_10 y_11 →
    cond (decide (y_11 < (la0es : Int)))
    (VIdx a0es la0es y_11 3 fun a13 =>
      ∃ s14 : ByteArray, cellH h6 a13 = some (.string s14) ∧
      ∃ x15 : Int, cellH h6 ⟨a13.block, a13.off + 1, none⟩ = some (.int .i64 x15) ∧
      ∃ (a16 : Option Addr) (la16 ca16 : Nat), cellH h6 ⟨a13.block, a13.off + 2, none⟩ = some (.slice a16 la16 ca16) ∧
      VNew h6 (.cells #[.string (ByteArray.mk #[]), .int .i64 0, .slice none 0 0] 27) fun b17 h18 =>
      storeL ⟨b17, 0, none⟩ 0 [.string s14, .int .i64 x15, .slice a16 la16 ca16] h18 fun h19 =>
      ∃ s20 : ByteArray, cellH h19 ⟨b17, 0, none⟩ = some (.string s20) ∧
      ∃ x21 : Int, cellH h19 ⟨b17, 1, none⟩ = some (.int .i64 x21) ∧
      ∃ (a22 : Option Addr) (la22 ca22 : Nat), cellH h19 ⟨b17, 2, none⟩ = some (.slice a22 la22 ca22) ∧
      CallsH Tryd.prog 46 #[.agg #[.string s20, .int .i64 x21, .slice a22 la22 ca22]] h19 fun v23 h24 =>
      ∃ x25 : Int, v23 = .int .i64 x25 ∧
      cond (x25 != (0 : Int))
      (R (.tuple #[.slice none 0 0, .int .i64 x25]) h24)
      (∃ s26 : ByteArray, cellH h24 ⟨b17, 0, none⟩ = some (.string s26) ∧
        ∃ x27 : Int, cellH h24 ⟨b17, 1, none⟩ = some (.int .i64 x27) ∧
        ∃ (a28 : Option Addr) (la28 ca28 : Nat), cellH h24 ⟨b17, 2, none⟩ = some (.slice a28 la28 ca28) ∧
        CallsH Tryd.prog 47 #[.slice b_10 lb_10 cb_10, .agg #[.string s26, .int .i64 x27, .slice a28 la28 ca28]] h24 fun v29 h30 =>
        ∃ (a31 : Option Addr) (la31 ca31 : Nat), v29 = .slice a31 la31 ca31 ∧
        ∃ m12, m12 < n5 ∧ I4 m12 h30 y_8 ly_8 cy_8 y_9 a31 la31 ca31 (IntKind.i64.wrap (y_11 + 1))))
    (cond (decide ((IntKind.i64.wrap ((lb_10 : Int) + 4)) > (1048576 : Int)))
      (R (.tuple #[.slice none 0 0, .int .i64 2]) h6)
      (CallsH Tryd.prog 58 #[.slice b_10 lb_10 cb_10] h6 fun v32 h33 =>
        ∃ x34 : Int, ∃ x35 : Int, ∃ x36 : Int, ∃ x37 : Int, v32 = .agg #[.int .u8 x34, .int .u8 x35, .int .u8 x36, .int .u8 x37] ∧
        VNew h33 (.cells #[.int .u8 0, .int .u8 0, .int .u8 0, .int .u8 0] 104) fun b38 h39 =>
        storeL ⟨b38, 0, none⟩ 0 [.int .u8 x34, .int .u8 x35, .int .u8 x36, .int .u8 x37] h39 fun h40 =>
        VSlice 1 (some ⟨b38, 0, none⟩) 4 0 4 4 fun a41 la41 ca41 =>
        RunsTo Tryd.prog (Builtin.append_ #[30, 30] 30 #[.slice b_10 lb_10 cb_10, .slice a41 la41 ca41]) h40 fun v42 h43 =>
        ∃ (a44 : Option Addr) (la44 ca44 : Nat), v42 = .slice a44 la44 ca44 ∧
        R (.tuple #[.slice a44 la44 ca44, .int .i64 0]) h43)))
theorem vf28 (a0es : Option Addr) (la0es ca0es : Nat) (h : Heap) (R : KV) (hF : F28 a0es la0es ca0es h R) : CallsH Tryd.prog 28 #[.slice a0es la0es ca0es] h R :=
  calls_of_vc (A := an28) (fn := Tryd.f28) (c := c28) (args := [.slice a0es la0es ca0es]) Tryd.func28 (by kernel_rfl) mixed (by kernel_rfl) (Eq.mp (by kernel_rfl : F28 a0es la0es ca0es h R = vcF Tryd.prog an28 Tryd.f28 c28 [.slice a0es la0es ca0es] h R) hF)
/-! ### 29 refrain/refrainref3.Pack -/
noncomputable def c29 : Code := match Tryd.f29.body with | some c => c | none => .skip
noncomputable def an29 : Ann := { loops := fun i => match i with | 5 => [(2, .slc), (3, .int .i64), (4, .slc), (5, .int .i64)] | _ => [], draws := fun i => #[], joins := fun i => none }
def F29 (a0es : Option Addr) (la0es ca0es : Nat) (h : Heap) (R : KV) : Prop :=
  cond (decide ((la0es : Int) > (1024 : Int)))
  (R (.tuple #[.slice none 0 0, .int .i64 2]) h)
  (CallsH Tryd.prog 22 #[.int .i64 (la0es : Int)] h fun v1 h2 =>
    ∃ (a3 : Option Addr) (la3 ca3 : Nat), v1 = .slice a3 la3 ca3 ∧
    ∃ I4 : Nat → Heap → Option Addr → Nat → Nat → Int → Option Addr → Nat → Nat → Int → Prop, (∃ n5, I4 n5 h2 none 0 0 0 a3 la3 ca3 0) ∧
    ∀ (n5 : Nat) (h6 : Heap) (g7 : Env) (y_8 : Option Addr) (ly_8 cy_8 : Nat) (y_9 : Int) (b_10 : Option Addr) (lb_10 cb_10 : Nat) (i_11 : Int), I4 n5 h6 y_8 ly_8 cy_8 y_9 b_10 lb_10 cb_10 i_11 →
    cond (decide (i_11 < (la0es : Int)))
    (VIdx a0es la0es i_11 3 fun a13 =>
      ∃ s14 : ByteArray, cellH h6 a13 = some (.string s14) ∧
      ∃ x15 : Int, cellH h6 ⟨a13.block, a13.off + 1, none⟩ = some (.int .i64 x15) ∧
      ∃ (a16 : Option Addr) (la16 ca16 : Nat), cellH h6 ⟨a13.block, a13.off + 2, none⟩ = some (.slice a16 la16 ca16) ∧
      CallsH Tryd.prog 14 #[.agg #[.string s14, .int .i64 x15, .slice a16 la16 ca16]] h6 fun v17 h18 =>
      ∃ (a19 : Option Addr) (la19 ca19 : Nat), ∃ x20 : Int, v17 = .tuple #[.slice a19 la19 ca19, .int .i64 x20] ∧
      cond (x20 != (0 : Int))
      (R (.tuple #[.slice none 0 0, .int .i64 x20]) h18)
      (RunsTo Tryd.prog (Builtin.append_ #[30, 30] 30 #[.slice b_10 lb_10 cb_10, .slice a19 la19 ca19]) h18 fun v21 h22 =>
        ∃ (a23 : Option Addr) (la23 ca23 : Nat), v21 = .slice a23 la23 ca23 ∧
        ∃ m12, m12 < n5 ∧ I4 m12 h22 y_8 ly_8 cy_8 y_9 a23 la23 ca23 (IntKind.i64.wrap (i_11 + 1))))
    (CallsH Tryd.prog 59 #[.slice b_10 lb_10 cb_10] h6 fun v24 h25 =>
      ∃ (a26 : Option Addr) (la26 ca26 : Nat), v24 = .slice a26 la26 ca26 ∧
      RunsTo Tryd.prog (Builtin.append_ #[30, 30] 30 #[.slice b_10 lb_10 cb_10, .slice a26 la26 ca26]) h25 fun v27 h28 =>
      ∃ (a29 : Option Addr) (la29 ca29 : Nat), v27 = .slice a29 la29 ca29 ∧
      cond (decide ((la29 : Int) > (1048576 : Int)))
      (R (.tuple #[.slice none 0 0, .int .i64 2]) h28)
      (R (.tuple #[.slice a29 la29 ca29, .int .i64 0]) h28)))
theorem vf29 (a0es : Option Addr) (la0es ca0es : Nat) (h : Heap) (R : KV) (hF : F29 a0es la0es ca0es h R) : CallsH Tryd.prog 29 #[.slice a0es la0es ca0es] h R :=
  calls_of_vc (A := an29) (fn := Tryd.f29) (c := c29) (args := [.slice a0es la0es ca0es]) Tryd.func29 (by kernel_rfl) mixed (by kernel_rfl) (Eq.mp (by kernel_rfl : F29 a0es la0es ca0es h R = vcF Tryd.prog an29 Tryd.f29 c29 [.slice a0es la0es ca0es] h R) hF)
/-! ### 30 refrain/refrainlaw3.stands -/
noncomputable def c30 : Code := match Tryd.f30.body with | some c => c | none => .skip
noncomputable def an30 : Ann := { loops := fun i => match i with | 5 => [(6, .bool), (8, .int .i64)] | _ => [], draws := fun i => match i with | 7 => #[0, 0, 3, 7, 15, 15, 63, 127, 15, 15, 783, 1807, 4095, 8191, 16383] | _ => #[], joins := fun i => none }
def F30 (a0in : Option Addr) (la0in ca0in : Nat) (a1rooms : Option Addr) (la1rooms ca1rooms : Nat) (a2es : Option Addr) (la2es ca2es : Nat) (h : Heap) (R : KV) : Prop :=
  cond ((la0in : Int) != (IntKind.i64.wrap ((la2es : Int) + 34))) (R (.bool false) h) (cond ((la1rooms : Int) != (la2es : Int)) (R (.bool false) h) (VSlice 3 a0in ca0in 0 (la2es : Int) (ca0in : Int) fun a1 la1 ca1 =>
      CallsH Tryd.prog 33 #[.slice a1 la1 ca1, .slice a2es la2es ca2es] h fun v2 h3 =>
      ∃ b4 : Bool, v2 = .bool b4 ∧
      cond (!b4)
      (R (.bool false) h3)
      (∃ I5 : Nat → Heap → Bool → Int → Prop, (∃ n6, I5 n6 h3 false 0) ∧
        ∀ (n6 : Nat) (h7 : Heap) (g8 : Env) (y_9 : Bool) (i_10 : Int), I5 n6 h7 y_9 i_10 →
        cond (decide (i_10 < (la0in : Int)))
        (cond (decide (i_10 < (la2es : Int))) (VIdx a1rooms la1rooms i_10 1 fun a12 =>
            ∃ (a13 : Option Addr) (la13 ca13 : Nat), cellH h7 a12 = some (.slice a13 la13 ca13) ∧
            VIdx a2es la2es i_10 3 fun a14 =>
            ∃ s15 : ByteArray, cellH h7 a14 = some (.string s15) ∧
            ∃ x16 : Int, cellH h7 ⟨a14.block, a14.off + 1, none⟩ = some (.int .i64 x16) ∧
            ∃ (a17 : Option Addr) (la17 ca17 : Nat), cellH h7 ⟨a14.block, a14.off + 2, none⟩ = some (.slice a17 la17 ca17) ∧
            CallsH Tryd.prog 16 #[.slice a13 la13 ca13, .agg #[.string s15, .int .i64 x16, .slice a17 la17 ca17]] h7 fun v18 h19 =>
            ∃ b20 : Bool, v18 = .bool b20 ∧
            cond (!b20)
            (R (.bool false) h19)
            (cond (decide (i_10 ≥ (la2es : Int))) (VIdx a0in la0in i_10 3 fun a21 =>
                ∃ s22 : ByteArray, cellH h19 a21 = some (.string s22) ∧
                ∃ x23 : Int, cellH h19 ⟨a21.block, a21.off + 1, none⟩ = some (.int .i64 x23) ∧
                ∃ (a24 : Option Addr) (la24 ca24 : Nat), cellH h19 ⟨a21.block, a21.off + 2, none⟩ = some (.slice a24 la24 ca24) ∧
                CallsH Tryd.prog 20 #[.agg #[.string s22, .int .i64 x23, .slice a24 la24 ca24], .agg #[.string (ByteArray.mk #[]), .int .i64 (IntKind.i64.wrap ((IntKind.i64.wrap (78 + i_10)) - (la2es : Int))), .slice none 0 0]] h19 fun v25 h26 =>
                ∃ b27 : Bool, v25 = .bool b27 ∧
                cond (!b27)
                (R (.bool false) h26)
                (∃ m11, m11 < n6 ∧ I5 m11 h26 y_9 (IntKind.i64.wrap (i_10 + 1)))) (∃ m11, m11 < n6 ∧ I5 m11 h19 y_9 (IntKind.i64.wrap (i_10 + 1))))) (cond (decide (i_10 ≥ (la2es : Int))) (VIdx a0in la0in i_10 3 fun a28 =>
              ∃ s29 : ByteArray, cellH h7 a28 = some (.string s29) ∧
              ∃ x30 : Int, cellH h7 ⟨a28.block, a28.off + 1, none⟩ = some (.int .i64 x30) ∧
              ∃ (a31 : Option Addr) (la31 ca31 : Nat), cellH h7 ⟨a28.block, a28.off + 2, none⟩ = some (.slice a31 la31 ca31) ∧
              CallsH Tryd.prog 20 #[.agg #[.string s29, .int .i64 x30, .slice a31 la31 ca31], .agg #[.string (ByteArray.mk #[]), .int .i64 (IntKind.i64.wrap ((IntKind.i64.wrap (78 + i_10)) - (la2es : Int))), .slice none 0 0]] h7 fun v32 h33 =>
              ∃ b34 : Bool, v32 = .bool b34 ∧
              cond (!b34)
              (R (.bool false) h33)
              (∃ m11, m11 < n6 ∧ I5 m11 h33 y_9 (IntKind.i64.wrap (i_10 + 1)))) (∃ m11, m11 < n6 ∧ I5 m11 h7 y_9 (IntKind.i64.wrap (i_10 + 1)))))
        (R (.bool true) h7))))
theorem vf30 (a0in : Option Addr) (la0in ca0in : Nat) (a1rooms : Option Addr) (la1rooms ca1rooms : Nat) (a2es : Option Addr) (la2es ca2es : Nat) (h : Heap) (R : KV) (hF : F30 a0in la0in ca0in a1rooms la1rooms ca1rooms a2es la2es ca2es h R) : CallsH Tryd.prog 30 #[.slice a0in la0in ca0in, .slice a1rooms la1rooms ca1rooms, .slice a2es la2es ca2es] h R :=
  calls_of_vc (A := an30) (fn := Tryd.f30) (c := c30) (args := [.slice a0in la0in ca0in, .slice a1rooms la1rooms ca1rooms, .slice a2es la2es ca2es]) Tryd.func30 (by kernel_rfl) mixed (by kernel_rfl) (Eq.mp (by kernel_rfl : F30 a0in la0in ca0in a1rooms la1rooms ca1rooms a2es la2es ca2es h R = vcF Tryd.prog an30 Tryd.f30 c30 [.slice a0in la0in ca0in, .slice a1rooms la1rooms ca1rooms, .slice a2es la2es ca2es] h R) hF)
/-! ### 31 refrain/wire.Unpack -/
noncomputable def c31 : Code := match Tryd.f31.body with | some c => c | none => .skip
noncomputable def an31 : Ann := { loops := fun i => match i with | 12 => [(7, .slc), (34, .int .i64)] | _ => [], draws := fun i => match i with | 6 => #[0, 1, 0, 0, 8, 28, 60, 124, 255] | 18 => #[0, 1, 3, 7, 0, 31] | _ => #[], joins := fun i => match i with | 17 => some [] | _ => none }
def F31 (a0b : Option Addr) (la0b ca0b : Nat) (h : Heap) (R : KV) : Prop :=
  cond (decide ((la0b : Int) > (1048576 : Int)))
  (R (.tuple #[.slice none 0 0, .int .i64 2]) h)
  (cond (decide ((la0b : Int) < (5 : Int)))
    (R (.tuple #[.slice none 0 0, .int .i64 30]) h)
    (VSlice 1 a0b ca0b 0 (IntKind.i64.wrap ((la0b : Int) - 4)) (ca0b : Int) fun a1 la1 ca1 =>
      VSlice 1 a0b ca0b (la1 : Int) (la0b : Int) (ca0b : Int) fun a2 la2 ca2 =>
      PureTo Tryd.prog (Instr.arrayAt 104 (.slice a2 la2 ca2)) fun v3 =>
      ∃ p4 : Option Addr, v3 = .pointer p4 ∧
      VSome p4 fun a5 =>
      ∃ x6 : Int, cellH h a5 = some (.int .u8 x6) ∧
      ∃ x7 : Int, cellH h ⟨a5.block, a5.off + 1, none⟩ = some (.int .u8 x7) ∧
      ∃ x8 : Int, cellH h ⟨a5.block, a5.off + 2, none⟩ = some (.int .u8 x8) ∧
      ∃ x9 : Int, cellH h ⟨a5.block, a5.off + 3, none⟩ = some (.int .u8 x9) ∧
      CallsH Tryd.prog 58 #[.slice a1 la1 ca1] h fun v10 h11 =>
      ∃ x12 : Int, ∃ x13 : Int, ∃ x14 : Int, ∃ x15 : Int, v10 = .agg #[.int .u8 x12, .int .u8 x13, .int .u8 x14, .int .u8 x15] ∧
      (cellH h11 a5 = some (.int .u8 x6) ∧ cellH h11 ⟨a5.block, a5.off + 1, none⟩ = some (.int .u8 x7) ∧ cellH h11 ⟨a5.block, a5.off + 2, none⟩ = some (.int .u8 x8) ∧ cellH h11 ⟨a5.block, a5.off + 3, none⟩ = some (.int .u8 x9)) ∧
      PureTo Tryd.prog (do eqGuard .neq 104 (.tmp 20) (.tmp 26) (.agg #[.int .u8 x12, .int .u8 x13, .int .u8 x14, .int .u8 x15]) (.agg #[.int .u8 x6, .int .u8 x7, .int .u8 x8, .int .u8 x9]); binOp .neq 104 (.agg #[.int .u8 x12, .int .u8 x13, .int .u8 x14, .int .u8 x15]) (.agg #[.int .u8 x6, .int .u8 x7, .int .u8 x8, .int .u8 x9])) fun v16 =>
      ∃ b17 : Bool, v16 = .bool b17 ∧
      cond b17
      (R (.tuple #[.slice none 0 0, .int .i64 32]) h11)
      (VNew h11 (.cells #[.slice a1 la1 ca1, .int .i64 0, .int .i64 0] 92) fun b18 h19 =>
        CallsH Tryd.prog 60 #[.pointer (some ⟨b18, 0, none⟩), .int .i64 0, .int .i64 1024] h19 fun v20 h21 =>
        ∃ x22 : Int, v20 = .int .i64 x22 ∧
        ∃ I23 : Nat → Heap → Option Addr → Nat → Nat → Int → Prop, (∃ n24, I23 n24 h21 none 0 0 0) ∧
        ∀ (n24 : Nat) (h25 : Heap) (g26 : Env) (es_27 : Option Addr) (les_27 ces_27 : Nat) (y_28 : Int), I23 n24 h25 es_27 les_27 ces_27 y_28 →
        cond (decide (y_28 < x22))
        (CallsH Tryd.prog 51 #[.pointer (some ⟨b18, 0, none⟩)] h25 fun v30 h31 =>
          ∃ s32 : ByteArray, ∃ x33 : Int, ∃ (a34 : Option Addr) (la34 ca34 : Nat), v30 = .agg #[.string s32, .int .i64 x33, .slice a34 la34 ca34] ∧
          VNew h31 (.cells #[.string s32, .int .i64 x33, .slice a34 la34 ca34] 27) fun b35 h36 =>
          RunsTo Tryd.prog (Builtin.append_ #[22, 22] 22 #[.slice es_27 les_27 ces_27, .slice (some ⟨b35, 0, none⟩) 1 1]) h36 fun v37 h38 =>
          ∃ (a39 : Option Addr) (la39 ca39 : Nat), v37 = .slice a39 la39 ca39 ∧
          ∃ m29, m29 < n24 ∧ I23 m29 h38 a39 la39 ca39 (IntKind.i64.wrap (y_28 + 1)))
        (∃ J40 : Heap → Prop, (∃ x41 : Int, cellH h25 ⟨b18, 1, none⟩ = some (.int .i64 x41) ∧
            cond (decide (x41 < (la1 : Int)))
            (CallsH Tryd.prog 61 #[.pointer (some ⟨b18, 0, none⟩), .int .i64 31] h25 fun v42 h43 =>
              v42 = .tuple #[] ∧
              J40 h43)
            (J40 h25)) ∧
          ∀ (h44 : Heap) (g45 : Env), J40 h44 →
          ∃ x46 : Int, cellH h44 ⟨b18, 2, none⟩ = some (.int .i64 x46) ∧
          cond (x46 != (0 : Int))
          (∃ x47 : Int, cellH h44 ⟨b18, 2, none⟩ = some (.int .i64 x47) ∧
            R (.tuple #[.slice none 0 0, .int .i64 x47]) h44)
          (R (.tuple #[.slice es_27 les_27 ces_27, .int .i64 0]) h44)))))
theorem vf31 (a0b : Option Addr) (la0b ca0b : Nat) (h : Heap) (R : KV) (hF : F31 a0b la0b ca0b h R) : CallsH Tryd.prog 31 #[.slice a0b la0b ca0b] h R :=
  calls_of_vc (A := an31) (fn := Tryd.f31) (c := c31) (args := [.slice a0b la0b ca0b]) Tryd.func31 (by kernel_rfl) mixed (by kernel_rfl) (Eq.mp (by kernel_rfl : F31 a0b la0b ca0b h R = vcF Tryd.prog an31 Tryd.f31 c31 [.slice a0b la0b ca0b] h R) hF)
/-! ### 32 refrain/refrainref3.Unpack -/
noncomputable def c32 : Code := match Tryd.f32.body with | some c => c | none => .skip
noncomputable def an32 : Ann := { loops := fun i => match i with | 15 => [(2, .slc), (3, .int .i64), (6, .int .i64), (8, .slc), (9, .int .i64)] | _ => [], draws := fun i => match i with | 6 => #[0, 1, 0, 0, 8, 24, 60, 127, 255] | _ => #[], joins := fun i => none }
def F32 (a0b : Option Addr) (la0b ca0b : Nat) (h : Heap) (R : KV) : Prop :=
  cond (decide ((la0b : Int) > (1048576 : Int)))
  (R (.tuple #[.slice none 0 0, .int .i64 2]) h)
  (cond (decide ((la0b : Int) < (5 : Int)))
    (R (.tuple #[.slice none 0 0, .int .i64 30]) h)
    (VSlice 1 a0b ca0b 0 (IntKind.i64.wrap ((la0b : Int) - 4)) (ca0b : Int) fun a1 la1 ca1 =>
      VSlice 1 a0b ca0b (IntKind.i64.wrap ((la0b : Int) - 4)) (la0b : Int) (ca0b : Int) fun a2 la2 ca2 =>
      CallsH Tryd.prog 59 #[.slice a1 la1 ca1] h fun v3 h4 =>
      ∃ (a5 : Option Addr) (la5 ca5 : Nat), v3 = .slice a5 la5 ca5 ∧
      CallsH Tryd.prog 57 #[.slice a5 la5 ca5, .slice a2 la2 ca2] h4 fun v6 h7 =>
      ∃ b8 : Bool, v6 = .bool b8 ∧
      cond (!b8)
      (R (.tuple #[.slice none 0 0, .int .i64 32]) h7)
      (CallsH Tryd.prog 24 #[.slice a1 la1 ca1] h7 fun v9 h10 =>
        ∃ x11 : Int, ∃ x12 : Int, ∃ x13 : Int, v9 = .tuple #[.int .i64 x11, .int .i64 x12, .int .i64 x13] ∧
        cond (x13 != (0 : Int))
        (R (.tuple #[.slice none 0 0, .int .i64 x13]) h10)
        (cond (decide (x11 < (0 : Int))) (R (.tuple #[.slice none 0 0, .int .i64 31]) h10) (cond (decide (x11 > (1024 : Int)))
            (R (.tuple #[.slice none 0 0, .int .i64 31]) h10)
            (∃ I14 : Nat → Heap → Option Addr → Nat → Nat → Int → Int → Option Addr → Nat → Nat → Int → Prop, (∃ n15, I14 n15 h10 none 0 0 0 x12 none 0 0 0) ∧
              ∀ (n15 : Nat) (h16 : Heap) (g17 : Env) (y_18 : Option Addr) (ly_18 cy_18 : Nat) (y_19 : Int) (at_20 : Int) (es_21 : Option Addr) (les_21 ces_21 : Nat) (i_22 : Int), I14 n15 h16 y_18 ly_18 cy_18 y_19 at_20 es_21 les_21 ces_21 i_22 →
              cond (decide (i_22 < x11))
              (VSlice 1 a1 ca1 at_20 (la1 : Int) (ca1 : Int) fun a24 la24 ca24 =>
                CallsH Tryd.prog 19 #[.slice a24 la24 ca24] h16 fun v25 h26 =>
                ∃ s27 : ByteArray, ∃ x28 : Int, ∃ (a29 : Option Addr) (la29 ca29 : Nat), ∃ x30 : Int, ∃ x31 : Int, v25 = .tuple #[.agg #[.string s27, .int .i64 x28, .slice a29 la29 ca29], .int .i64 x30, .int .i64 x31] ∧
                VNew h26 (.cells #[.string (ByteArray.mk #[]), .int .i64 0, .slice none 0 0] 27) fun b32 h33 =>
                storeL ⟨b32, 0, none⟩ 0 [.string s27, .int .i64 x28, .slice a29 la29 ca29] h33 fun h34 =>
                cond (x31 != (0 : Int))
                (R (.tuple #[.slice none 0 0, .int .i64 x31]) h34)
                (∃ s35 : ByteArray, cellH h34 ⟨b32, 0, none⟩ = some (.string s35) ∧
                  ∃ x36 : Int, cellH h34 ⟨b32, 1, none⟩ = some (.int .i64 x36) ∧
                  ∃ (a37 : Option Addr) (la37 ca37 : Nat), cellH h34 ⟨b32, 2, none⟩ = some (.slice a37 la37 ca37) ∧
                  VNew h34 (.cells #[.string s35, .int .i64 x36, .slice a37 la37 ca37] 27) fun b38 h39 =>
                  RunsTo Tryd.prog (Builtin.append_ #[22, 22] 22 #[.slice es_21 les_21 ces_21, .slice (some ⟨b38, 0, none⟩) 1 1]) h39 fun v40 h41 =>
                  ∃ (a42 : Option Addr) (la42 ca42 : Nat), v40 = .slice a42 la42 ca42 ∧
                  ∃ m23, m23 < n15 ∧ I14 m23 h41 y_18 ly_18 cy_18 y_19 (IntKind.i64.wrap (at_20 + x30)) a42 la42 ca42 (IntKind.i64.wrap (i_22 + 1))))
              (cond (decide (at_20 < (la1 : Int)))
                (R (.tuple #[.slice none 0 0, .int .i64 31]) h16)
                (R (.tuple #[.slice es_21 les_21 ces_21, .int .i64 0]) h16))))))))
theorem vf32 (a0b : Option Addr) (la0b ca0b : Nat) (h : Heap) (R : KV) (hF : F32 a0b la0b ca0b h R) : CallsH Tryd.prog 32 #[.slice a0b la0b ca0b] h R :=
  calls_of_vc (A := an32) (fn := Tryd.f32) (c := c32) (args := [.slice a0b la0b ca0b]) Tryd.func32 (by kernel_rfl) mixed (by kernel_rfl) (Eq.mp (by kernel_rfl : F32 a0b la0b ca0b h R = vcF Tryd.prog an32 Tryd.f32 c32 [.slice a0b la0b ca0b] h R) hF)
/-! ### 33 refrain/refrainlaw3.lists -/
noncomputable def c33 : Code := match Tryd.f33.body with | some c => c | none => .skip
noncomputable def an33 : Ann := { loops := fun i => match i with | 4 => [(4, .bool), (5, .int .i64)] | _ => [], draws := fun i => match i with | 6 => #[0, 0, 3, 7, 0, 0, 48, 112, 255, 511] | _ => #[], joins := fun i => none }
def F33 (a0a : Option Addr) (la0a ca0a : Nat) (a1b : Option Addr) (la1b ca1b : Nat) (h : Heap) (R : KV) : Prop :=
  cond ((la0a : Int) != (la1b : Int))
  (R (.bool false) h)
  (∃ I1 : Nat → Heap → Bool → Int → Prop, (∃ n2, I1 n2 h false 0) ∧
    ∀ (n2 : Nat) (h3 : Heap) (g4 : Env) (y_5 : Bool) (i_6 : Int), I1 n2 h3 y_5 i_6 →
    cond (decide (i_6 < (la0a : Int)))
    (VIdx a0a la0a i_6 3 fun a8 =>
      ∃ s9 : ByteArray, cellH h3 a8 = some (.string s9) ∧
      ∃ x10 : Int, cellH h3 ⟨a8.block, a8.off + 1, none⟩ = some (.int .i64 x10) ∧
      ∃ (a11 : Option Addr) (la11 ca11 : Nat), cellH h3 ⟨a8.block, a8.off + 2, none⟩ = some (.slice a11 la11 ca11) ∧
      VIdx a1b la1b i_6 3 fun a12 =>
      ∃ s13 : ByteArray, cellH h3 a12 = some (.string s13) ∧
      ∃ x14 : Int, cellH h3 ⟨a12.block, a12.off + 1, none⟩ = some (.int .i64 x14) ∧
      ∃ (a15 : Option Addr) (la15 ca15 : Nat), cellH h3 ⟨a12.block, a12.off + 2, none⟩ = some (.slice a15 la15 ca15) ∧
      CallsH Tryd.prog 20 #[.agg #[.string s9, .int .i64 x10, .slice a11 la11 ca11], .agg #[.string s13, .int .i64 x14, .slice a15 la15 ca15]] h3 fun v16 h17 =>
      ∃ b18 : Bool, v16 = .bool b18 ∧
      cond (!b18)
      (R (.bool false) h17)
      (∃ m7, m7 < n2 ∧ I1 m7 h17 y_5 (IntKind.i64.wrap (i_6 + 1))))
    (R (.bool true) h3))
theorem vf33 (a0a : Option Addr) (la0a ca0a : Nat) (a1b : Option Addr) (la1b ca1b : Nat) (h : Heap) (R : KV) (hF : F33 a0a la0a ca0a a1b la1b ca1b h R) : CallsH Tryd.prog 33 #[.slice a0a la0a ca0a, .slice a1b la1b ca1b] h R :=
  calls_of_vc (A := an33) (fn := Tryd.f33) (c := c33) (args := [.slice a0a la0a ca0a, .slice a1b la1b ca1b]) Tryd.func33 (by kernel_rfl) mixed (by kernel_rfl) (Eq.mp (by kernel_rfl : F33 a0a la0a ca0a a1b la1b ca1b h R = vcF Tryd.prog an33 Tryd.f33 c33 [.slice a0a la0a ca0a, .slice a1b la1b ca1b] h R) hF)
/-! ### 44 refrain/refrainlaw3.tick -/
noncomputable def c44 : Code := match Tryd.f44.body with | some c => c | none => .skip
noncomputable def an44 : Ann := { loops := fun i => [], draws := fun i => #[], joins := fun i => none }
def F44  (h : Heap) (R : KV) : Prop :=
  VNew h (.cells #[.string (ByteArray.mk #[]), .int .i64 0, .slice none 0 0] 27) fun b1 h2 =>
  VNew h2 (.cells #[.int .i64 1, .int .i64 12, .string (ByteArray.mk #[]), .bool false, .int .i64 2, .int .i64 0, .string (ByteArray.mk #[97, 98]), .bool false, .int .i64 3, .int .i64 0, .string (ByteArray.mk #[]), .bool true] 83) fun b3 h4 =>
  VNew h4 (.cells #[.string (ByteArray.mk #[]), .int .i64 0, .slice none 0 0] 27) fun b5 h6 =>
  storeL ⟨b5, 0, none⟩ 0 [.string (ByteArray.mk #[84, 105, 99, 107]), .int .i64 5, .slice (some ⟨b3, 0, none⟩) 3 3] h6 fun h7 =>
  ∃ s8 : ByteArray, cellH h7 ⟨b5, 0, none⟩ = some (.string s8) ∧
  ∃ x9 : Int, cellH h7 ⟨b5, 1, none⟩ = some (.int .i64 x9) ∧
  ∃ (a10 : Option Addr) (la10 ca10 : Nat), cellH h7 ⟨b5, 2, none⟩ = some (.slice a10 la10 ca10) ∧
  VNew h7 (.cells #[.int .u8 8, .int .u8 84, .int .u8 105, .int .u8 99, .int .u8 107, .int .u8 10, .int .u8 6, .int .u8 1, .int .u8 24, .int .u8 2, .int .u8 4, .int .u8 97, .int .u8 98, .int .u8 3, .int .u8 1] 5) fun b11 h12 =>
  storeL ⟨b1, 0, none⟩ 0 [.string s8, .int .i64 x9, .slice a10 la10 ca10] h12 fun h13 =>
  ∃ s14 : ByteArray, cellH h13 ⟨b1, 0, none⟩ = some (.string s14) ∧
  ∃ x15 : Int, cellH h13 ⟨b1, 1, none⟩ = some (.int .i64 x15) ∧
  ∃ (a16 : Option Addr) (la16 ca16 : Nat), cellH h13 ⟨b1, 2, none⟩ = some (.slice a16 la16 ca16) ∧
  R (.tuple #[.agg #[.string s14, .int .i64 x15, .slice a16 la16 ca16], .slice (some ⟨b11, 0, none⟩) 15 15]) h13
theorem vf44  (h : Heap) (R : KV) (hF : F44  h R) : CallsH Tryd.prog 44 #[] h R :=
  calls_of_vc (A := an44) (fn := Tryd.f44) (c := c44) (args := []) Tryd.func44 (by kernel_rfl) mixed (by kernel_rfl) (Eq.mp (by kernel_rfl : F44  h R = vcF Tryd.prog an44 Tryd.f44 c44 [] h R) hF)
/-! ### 45 refrain/refrainlaw3.mark -/
noncomputable def c45 : Code := match Tryd.f45.body with | some c => c | none => .skip
noncomputable def an45 : Ann := { loops := fun i => [], draws := fun i => #[], joins := fun i => none }
def F45 (a0i : Int) (h : Heap) (R : KV) : Prop :=
  VNew h (.cells #[.int .i64 0, .int .i64 0, .string (ByteArray.mk #[]), .bool false] 83) fun b1 h2 =>
  storeL ⟨b1, 0, none⟩ 0 [.int .i64 1, .int .i64 (IntKind.i64.wrap (77 + a0i)), .string (ByteArray.mk #[]), .bool false] h2 fun h3 =>
  ∃ x4 : Int, cellH h3 ⟨b1, 0, none⟩ = some (.int .i64 x4) ∧
  ∃ x5 : Int, cellH h3 ⟨b1, 1, none⟩ = some (.int .i64 x5) ∧
  ∃ s6 : ByteArray, cellH h3 ⟨b1, 2, none⟩ = some (.string s6) ∧
  ∃ b7 : Bool, cellH h3 ⟨b1, 3, none⟩ = some (.bool b7) ∧
  R (.agg #[.int .i64 x4, .int .i64 x5, .string s6, .bool b7]) h3
theorem vf45 (a0i : Int) (h : Heap) (R : KV) (hF : F45 a0i h R) : CallsH Tryd.prog 45 #[.int .i64 a0i] h R :=
  calls_of_vc (A := an45) (fn := Tryd.f45) (c := c45) (args := [.int .i64 a0i]) Tryd.func45 (by kernel_rfl) mixed (by kernel_rfl) (Eq.mp (by kernel_rfl : F45 a0i h R = vcF Tryd.prog an45 Tryd.f45 c45 [.int .i64 a0i] h R) hF)
/-! ### 46 refrain/wire.fault -/
noncomputable def c46 : Code := match Tryd.f46.body with | some c => c | none => .skip
noncomputable def an46 : Ann := { loops := fun i => match i with | 8 => [(2, .int .i64), (27, .int .i64)] | _ => [], draws := fun i => #[], joins := fun i => none }
def F46 (a0e_0 : ByteArray) (a0e_1 : Int) (a0e_2 : Option Addr) (la0e_2 ca0e_2 : Nat) (h : Heap) (R : KV) : Prop :=
  VNew h (.cells #[.string a0e_0, .int .i64 a0e_1, .slice a0e_2 la0e_2 ca0e_2] 27) fun b1 h2 =>
  ∃ s3 : ByteArray, cellH h2 ⟨b1, 0, none⟩ = some (.string s3) ∧
  CallsH Tryd.prog 72 #[.string s3] h2 fun v4 h5 =>
  ∃ b6 : Bool, v4 = .bool b6 ∧
  cond (!b6)
  (R (.int .i64 20) h5)
  (∃ x7 : Int, cellH h5 ⟨b1, 1, none⟩ = some (.int .i64 x7) ∧
    cond (decide (x7 < (0 : Int))) (R (.int .i64 23) h5) (∃ x8 : Int, cellH h5 ⟨b1, 1, none⟩ = some (.int .i64 x8) ∧
      cond (decide (x8 > (4611686018427387904 : Int)))
      (R (.int .i64 23) h5)
      (∃ (a9 : Option Addr) (la9 ca9 : Nat), cellH h5 ⟨b1, 2, none⟩ = some (.slice a9 la9 ca9) ∧
        cond (decide ((la9 : Int) > (16 : Int)))
        (R (.int .i64 2) h5)
        (∃ (a10 : Option Addr) (la10 ca10 : Nat), cellH h5 ⟨b1, 2, none⟩ = some (.slice a10 la10 ca10) ∧
          ∃ I11 : Nat → Heap → Int → Int → Prop, (∃ n12, I11 n12 h5 0 0) ∧
          ∀ (n12 : Nat) (h13 : Heap) (g14 : Env) (y_15 : Int) (y_16 : Int), I11 n12 h13 y_15 y_16 →
          cond (decide (y_16 < (la10 : Int)))
          (VIdx a10 la10 y_16 4 fun a18 =>
            ∃ x19 : Int, cellH h13 a18 = some (.int .i64 x19) ∧
            ∃ x20 : Int, cellH h13 ⟨a18.block, a18.off + 1, none⟩ = some (.int .i64 x20) ∧
            ∃ s21 : ByteArray, cellH h13 ⟨a18.block, a18.off + 2, none⟩ = some (.string s21) ∧
            ∃ b22 : Bool, cellH h13 ⟨a18.block, a18.off + 3, none⟩ = some (.bool b22) ∧
            VNew h13 (.cells #[.int .i64 0, .int .i64 0, .string (ByteArray.mk #[]), .bool false] 83) fun b23 h24 =>
            storeL ⟨b23, 0, none⟩ 0 [.int .i64 x19, .int .i64 x20, .string s21, .bool b22] h24 fun h25 =>
            ∃ x26 : Int, cellH h25 ⟨b23, 0, none⟩ = some (.int .i64 x26) ∧
            ∃ x27 : Int, cellH h25 ⟨b23, 1, none⟩ = some (.int .i64 x27) ∧
            ∃ s28 : ByteArray, cellH h25 ⟨b23, 2, none⟩ = some (.string s28) ∧
            ∃ b29 : Bool, cellH h25 ⟨b23, 3, none⟩ = some (.bool b29) ∧
            CallsH Tryd.prog 73 #[.agg #[.int .i64 x26, .int .i64 x27, .string s28, .bool b29]] h25 fun v30 h31 =>
            ∃ b32 : Bool, v30 = .bool b32 ∧
            cond (!b32)
            (R (.int .i64 12) h31)
            (∃ m17, m17 < n12 ∧ I11 m17 h31 y_15 (IntKind.i64.wrap (y_16 + 1))))
          (R (.int .i64 0) h13)))))
theorem vf46 (a0e_0 : ByteArray) (a0e_1 : Int) (a0e_2 : Option Addr) (la0e_2 ca0e_2 : Nat) (h : Heap) (R : KV) (hF : F46 a0e_0 a0e_1 a0e_2 la0e_2 ca0e_2 h R) : CallsH Tryd.prog 46 #[.agg #[.string a0e_0, .int .i64 a0e_1, .slice a0e_2 la0e_2 ca0e_2]] h R :=
  calls_of_vc (A := an46) (fn := Tryd.f46) (c := c46) (args := [.agg #[.string a0e_0, .int .i64 a0e_1, .slice a0e_2 la0e_2 ca0e_2]]) Tryd.func46 (by kernel_rfl) mixed (by kernel_rfl) (Eq.mp (by kernel_rfl : F46 a0e_0 a0e_1 a0e_2 la0e_2 ca0e_2 h R = vcF Tryd.prog an46 Tryd.f46 c46 [.agg #[.string a0e_0, .int .i64 a0e_1, .slice a0e_2 la0e_2 ca0e_2]] h R) hF)
/-! ### 47 refrain/wire.put -/
noncomputable def c47 : Code := match Tryd.f47.body with | some c => c | none => .skip
noncomputable def an47 : Ann := { loops := fun i => match i with | 4 => [(0, .slc), (22, .int .i64)] | _ => [], draws := fun i => match i with | 1 => #[0, 0, 2, 7, 0, 16, 63, 127] | _ => #[], joins := fun i => none }
def F47 (a0b : Option Addr) (la0b ca0b : Nat) (a1e_0 : ByteArray) (a1e_1 : Int) (a1e_2 : Option Addr) (la1e_2 ca1e_2 : Nat) (h : Heap) (R : KV) : Prop :=
  VNew h (.cells #[.string a1e_0, .int .i64 a1e_1, .slice a1e_2 la1e_2 ca1e_2] 27) fun b1 h2 =>
  ∃ s3 : ByteArray, cellH h2 ⟨b1, 0, none⟩ = some (.string s3) ∧
  ∃ x4 : Int, cellH h2 ⟨b1, 1, none⟩ = some (.int .i64 x4) ∧
  CallsH Tryd.prog 74 #[.slice a0b la0b ca0b, .string s3] h2 fun v5 h6 =>
  ∃ (a7 : Option Addr) (la7 ca7 : Nat), v5 = .slice a7 la7 ca7 ∧
  (cellH h6 ⟨b1, 1, none⟩ = some (.int .i64 x4)) ∧
  CallsH Tryd.prog 56 #[.slice a7 la7 ca7, .int .i64 x4] h6 fun v8 h9 =>
  ∃ (a10 : Option Addr) (la10 ca10 : Nat), v8 = .slice a10 la10 ca10 ∧
  ∃ (a11 : Option Addr) (la11 ca11 : Nat), cellH h9 ⟨b1, 2, none⟩ = some (.slice a11 la11 ca11) ∧
  CallsH Tryd.prog 56 #[.slice a10 la10 ca10, .int .i64 (la11 : Int)] h9 fun v12 h13 =>
  ∃ (a14 : Option Addr) (la14 ca14 : Nat), v12 = .slice a14 la14 ca14 ∧
  ∃ (a15 : Option Addr) (la15 ca15 : Nat), cellH h13 ⟨b1, 2, none⟩ = some (.slice a15 la15 ca15) ∧
  ∃ I16 : Nat → Heap → Option Addr → Nat → Nat → Int → Prop, (∃ n17, I16 n17 h13 a14 la14 ca14 0) ∧
  ∀ (n17 : Nat) (h18 : Heap) (g19 : Env) (b_20 : Option Addr) (lb_20 cb_20 : Nat) (y_21 : Int), I16 n17 h18 b_20 lb_20 cb_20 y_21 →
  cond (decide (y_21 < (la15 : Int)))
  (VIdx a15 la15 y_21 4 fun a23 =>
    ∃ x24 : Int, cellH h18 a23 = some (.int .i64 x24) ∧
    ∃ x25 : Int, cellH h18 ⟨a23.block, a23.off + 1, none⟩ = some (.int .i64 x25) ∧
    ∃ s26 : ByteArray, cellH h18 ⟨a23.block, a23.off + 2, none⟩ = some (.string s26) ∧
    ∃ b27 : Bool, cellH h18 ⟨a23.block, a23.off + 3, none⟩ = some (.bool b27) ∧
    VNew h18 (.cells #[.int .i64 0, .int .i64 0, .string (ByteArray.mk #[]), .bool false] 83) fun b28 h29 =>
    storeL ⟨b28, 0, none⟩ 0 [.int .i64 x24, .int .i64 x25, .string s26, .bool b27] h29 fun h30 =>
    ∃ x31 : Int, cellH h30 ⟨b28, 0, none⟩ = some (.int .i64 x31) ∧
    ∃ x32 : Int, cellH h30 ⟨b28, 1, none⟩ = some (.int .i64 x32) ∧
    ∃ s33 : ByteArray, cellH h30 ⟨b28, 2, none⟩ = some (.string s33) ∧
    ∃ b34 : Bool, cellH h30 ⟨b28, 3, none⟩ = some (.bool b34) ∧
    CallsH Tryd.prog 75 #[.slice b_20 lb_20 cb_20, .agg #[.int .i64 x31, .int .i64 x32, .string s33, .bool b34]] h30 fun v35 h36 =>
    ∃ (a37 : Option Addr) (la37 ca37 : Nat), v35 = .slice a37 la37 ca37 ∧
    ∃ m22, m22 < n17 ∧ I16 m22 h36 a37 la37 ca37 (IntKind.i64.wrap (y_21 + 1)))
  (R (.slice b_20 lb_20 cb_20) h18)
theorem vf47 (a0b : Option Addr) (la0b ca0b : Nat) (a1e_0 : ByteArray) (a1e_1 : Int) (a1e_2 : Option Addr) (la1e_2 ca1e_2 : Nat) (h : Heap) (R : KV) (hF : F47 a0b la0b ca0b a1e_0 a1e_1 a1e_2 la1e_2 ca1e_2 h R) : CallsH Tryd.prog 47 #[.slice a0b la0b ca0b, .agg #[.string a1e_0, .int .i64 a1e_1, .slice a1e_2 la1e_2 ca1e_2]] h R :=
  calls_of_vc (A := an47) (fn := Tryd.f47) (c := c47) (args := [.slice a0b la0b ca0b, .agg #[.string a1e_0, .int .i64 a1e_1, .slice a1e_2 la1e_2 ca1e_2]]) Tryd.func47 (by kernel_rfl) mixed (by kernel_rfl) (Eq.mp (by kernel_rfl : F47 a0b la0b ca0b a1e_0 a1e_1 a1e_2 la1e_2 ca1e_2 h R = vcF Tryd.prog an47 Tryd.f47 c47 [.slice a0b la0b ca0b, .agg #[.string a1e_0, .int .i64 a1e_1, .slice a1e_2 la1e_2 ca1e_2]] h R) hF)
/-! ### 48 refrain/refrainref2.Name -/
noncomputable def c48 : Code := match Tryd.f48.body with | some c => c | none => .skip
noncomputable def an48 : Ann := { loops := fun i => match i with | 4 => [(2, .bool), (3, .int .i64)] | _ => [], draws := fun i => #[], joins := fun i => none }
def F48 (a0s : ByteArray) (h : Heap) (R : KV) : Prop :=
  cond (decide ((a0s.size : Int) < (1 : Int))) (R (.bool false) h) (cond (decide ((a0s.size : Int) > (32 : Int))) (R (.bool false) h) ((0 : Int) ≤ 0 ∧ ∃ u1 : UInt8, a0s[Int.toNat 0]? = some u1 ∧
      CallsH Tryd.prog 76 #[.int .u8 (u1.toNat : Int)] h fun v2 h3 =>
      ∃ b4 : Bool, v2 = .bool b4 ∧
      cond b4 (R (.bool false) h3) (CallsH Tryd.prog 77 #[.string a0s] h3 fun v5 h6 =>
        ∃ b7 : Bool, v5 = .bool b7 ∧
        cond b7
        (R (.bool false) h6)
        (∃ I8 : Nat → Heap → Bool → Int → Prop, (∃ n9, I8 n9 h6 false 0) ∧
          ∀ (n9 : Nat) (h10 : Heap) (g11 : Env) (y_12 : Bool) (i_13 : Int), I8 n9 h10 y_12 i_13 →
          cond (decide (i_13 < (a0s.size : Int)))
          ((0 : Int) ≤ i_13 ∧ ∃ u15 : UInt8, a0s[Int.toNat i_13]? = some u15 ∧
            CallsH Tryd.prog 78 #[.int .u8 (u15.toNat : Int)] h10 fun v16 h17 =>
            ∃ b18 : Bool, v16 = .bool b18 ∧
            cond (!b18)
            (R (.bool false) h17)
            (∃ m14, m14 < n9 ∧ I8 m14 h17 y_12 (IntKind.i64.wrap (i_13 + 1))))
          (R (.bool true) h10)))))
theorem vf48 (a0s : ByteArray) (h : Heap) (R : KV) (hF : F48 a0s h R) : CallsH Tryd.prog 48 #[.string a0s] h R :=
  calls_of_vc (A := an48) (fn := Tryd.f48) (c := c48) (args := [.string a0s]) Tryd.func48 (by kernel_rfl) mixed (by kernel_rfl) (Eq.mp (by kernel_rfl : F48 a0s h R = vcF Tryd.prog an48 Tryd.f48 c48 [.string a0s] h R) hF)
/-! ### 49 refrain/refrainref1.Valid -/
noncomputable def c49 : Code := match Tryd.f49.body with | some c => c | none => .skip
noncomputable def an49 : Ann := { loops := fun i => [], draws := fun i => #[], joins := fun i => none }
def F49 (a0v_0 : Int) (a0v_1 : Int) (a0v_2 : ByteArray) (a0v_3 : Bool) (h : Heap) (R : KV) : Prop :=
  VNew h (.cells #[.int .i64 a0v_0, .int .i64 a0v_1, .string a0v_2, .bool a0v_3] 83) fun b1 h2 =>
  ∃ x3 : Int, cellH h2 ⟨b1, 0, none⟩ = some (.int .i64 x3) ∧
  cond (x3 == (1 : Int))
  (∃ s4 : ByteArray, cellH h2 ⟨b1, 2, none⟩ = some (.string s4) ∧
    cond (strEq s4 (ByteArray.mk #[])) (∃ b5 : Bool, cellH h2 ⟨b1, 3, none⟩ = some (.bool b5) ∧
      R (.bool (!b5)) h2) (R (.bool false) h2))
  (cond (x3 == (2 : Int))
    (∃ x6 : Int, cellH h2 ⟨b1, 1, none⟩ = some (.int .i64 x6) ∧
      cond (x6 == (0 : Int)) (∃ b7 : Bool, cellH h2 ⟨b1, 3, none⟩ = some (.bool b7) ∧
        cond (!b7) (∃ s8 : ByteArray, cellH h2 ⟨b1, 2, none⟩ = some (.string s8) ∧
          R (.bool (decide ((s8.size : Int) ≤ (256 : Int)))) h2) (R (.bool false) h2)) (R (.bool false) h2))
    (cond (x3 == (3 : Int))
      (∃ x9 : Int, cellH h2 ⟨b1, 1, none⟩ = some (.int .i64 x9) ∧
        cond (x9 == (0 : Int)) (∃ s10 : ByteArray, cellH h2 ⟨b1, 2, none⟩ = some (.string s10) ∧
          R (.bool (strEq s10 (ByteArray.mk #[]))) h2) (R (.bool false) h2))
      (R (.bool false) h2)))
theorem vf49 (a0v_0 : Int) (a0v_1 : Int) (a0v_2 : ByteArray) (a0v_3 : Bool) (h : Heap) (R : KV) (hF : F49 a0v_0 a0v_1 a0v_2 a0v_3 h R) : CallsH Tryd.prog 49 #[.agg #[.int .i64 a0v_0, .int .i64 a0v_1, .string a0v_2, .bool a0v_3]] h R :=
  calls_of_vc (A := an49) (fn := Tryd.f49) (c := c49) (args := [.agg #[.int .i64 a0v_0, .int .i64 a0v_1, .string a0v_2, .bool a0v_3]]) Tryd.func49 (by kernel_rfl) mixed (by kernel_rfl) (Eq.mp (by kernel_rfl : F49 a0v_0 a0v_1 a0v_2 a0v_3 h R = vcF Tryd.prog an49 Tryd.f49 c49 [.agg #[.int .i64 a0v_0, .int .i64 a0v_1, .string a0v_2, .bool a0v_3]] h R) hF)
/-! ### 50 refrain/refrainlaw3.vals -/
noncomputable def c50 : Code := match Tryd.f50.body with | some c => c | none => .skip
noncomputable def an50 : Ann := { loops := fun i => match i with | 4 => [(4, .bool), (5, .int .i64)] | _ => [], draws := fun i => match i with | 6 => #[0, 0, 3, 7, 0, 0, 48, 112, 255] | _ => #[], joins := fun i => none }
def F50 (a0a : Option Addr) (la0a ca0a : Nat) (a1b : Option Addr) (la1b ca1b : Nat) (h : Heap) (R : KV) : Prop :=
  cond ((la0a : Int) != (la1b : Int))
  (R (.bool false) h)
  (∃ I1 : Nat → Heap → Bool → Int → Prop, (∃ n2, I1 n2 h false 0) ∧
    ∀ (n2 : Nat) (h3 : Heap) (g4 : Env) (y_5 : Bool) (i_6 : Int), I1 n2 h3 y_5 i_6 →
    cond (decide (i_6 < (la0a : Int)))
    (VIdx a0a la0a i_6 4 fun a8 =>
      ∃ x9 : Int, cellH h3 a8 = some (.int .i64 x9) ∧
      ∃ x10 : Int, cellH h3 ⟨a8.block, a8.off + 1, none⟩ = some (.int .i64 x10) ∧
      ∃ s11 : ByteArray, cellH h3 ⟨a8.block, a8.off + 2, none⟩ = some (.string s11) ∧
      ∃ b12 : Bool, cellH h3 ⟨a8.block, a8.off + 3, none⟩ = some (.bool b12) ∧
      VIdx a1b la1b i_6 4 fun a13 =>
      ∃ x14 : Int, cellH h3 a13 = some (.int .i64 x14) ∧
      ∃ x15 : Int, cellH h3 ⟨a13.block, a13.off + 1, none⟩ = some (.int .i64 x15) ∧
      ∃ s16 : ByteArray, cellH h3 ⟨a13.block, a13.off + 2, none⟩ = some (.string s16) ∧
      ∃ b17 : Bool, cellH h3 ⟨a13.block, a13.off + 3, none⟩ = some (.bool b17) ∧
      PureTo Tryd.prog (do eqGuard .neq 83 (.tmp 20) (.tmp 24) (.agg #[.int .i64 x9, .int .i64 x10, .string s11, .bool b12]) (.agg #[.int .i64 x14, .int .i64 x15, .string s16, .bool b17]); binOp .neq 83 (.agg #[.int .i64 x9, .int .i64 x10, .string s11, .bool b12]) (.agg #[.int .i64 x14, .int .i64 x15, .string s16, .bool b17])) fun v18 =>
      ∃ b19 : Bool, v18 = .bool b19 ∧
      cond b19
      (R (.bool false) h3)
      (∃ m7, m7 < n2 ∧ I1 m7 h3 y_5 (IntKind.i64.wrap (i_6 + 1))))
    (R (.bool true) h3))
theorem vf50 (a0a : Option Addr) (la0a ca0a : Nat) (a1b : Option Addr) (la1b ca1b : Nat) (h : Heap) (R : KV) (hF : F50 a0a la0a ca0a a1b la1b ca1b h R) : CallsH Tryd.prog 50 #[.slice a0a la0a ca0a, .slice a1b la1b ca1b] h R :=
  calls_of_vc (A := an50) (fn := Tryd.f50) (c := c50) (args := [.slice a0a la0a ca0a, .slice a1b la1b ca1b]) Tryd.func50 (by kernel_rfl) mixed (by kernel_rfl) (Eq.mp (by kernel_rfl : F50 a0a la0a ca0a a1b la1b ca1b h R = vcF Tryd.prog an50 Tryd.f50 c50 [.slice a0a la0a ca0a, .slice a1b la1b ca1b] h R) hF)
/-! ### 51 (refrain/wire.reader).event -/
noncomputable def c51 : Code := match Tryd.f51.body with | some c => c | none => .skip
noncomputable def an51 : Ann := { loops := fun i => match i with | 7 => [(20, .int .i64)] | _ => [], draws := fun i => match i with | 8 => #[0, 1, 0, 4, 12, 31, 63, 127] | _ => #[], joins := fun i => match i with | 5 => some [] | _ => none }
def F51 (a0r : Option Addr) (h : Heap) (R : KV) : Prop :=
  VNew h (.cells #[.string (ByteArray.mk #[]), .int .i64 0, .slice none 0 0] 27) fun b1 h2 =>
  VNew h2 (.cells #[.string (ByteArray.mk #[]), .int .i64 0, .slice none 0 0] 27) fun b3 h4 =>
  CallsH Tryd.prog 60 #[.pointer a0r, .int .i64 1, .int .i64 32] h4 fun v5 h6 =>
  ∃ x7 : Int, v5 = .int .i64 x7 ∧
  CallsH Tryd.prog 79 #[.pointer a0r, .int .i64 x7] h6 fun v8 h9 =>
  ∃ s10 : ByteArray, v8 = .string s10 ∧
  VStore h9 ⟨b3, 0, none⟩ (.string s10) fun h11 =>
  ∃ J12 : Heap → Prop, (∃ s13 : ByteArray, cellH h11 ⟨b3, 0, none⟩ = some (.string s13) ∧
    CallsH Tryd.prog 72 #[.string s13] h11 fun v14 h15 =>
    ∃ b16 : Bool, v14 = .bool b16 ∧
    cond (!b16)
    (CallsH Tryd.prog 61 #[.pointer a0r, .int .i64 31] h15 fun v17 h18 =>
      v17 = .tuple #[] ∧
      J12 h18)
    (J12 h15)) ∧
  ∀ (h19 : Heap) (g20 : Env), J12 h19 →
  CallsH Tryd.prog 60 #[.pointer a0r, .int .i64 0, .int .i64 4611686018427387904] h19 fun v21 h22 =>
  ∃ x23 : Int, v21 = .int .i64 x23 ∧
  VStore h22 ⟨b3, 1, none⟩ (.int .i64 x23) fun h24 =>
  CallsH Tryd.prog 60 #[.pointer a0r, .int .i64 0, .int .i64 16] h24 fun v25 h26 =>
  ∃ x27 : Int, v25 = .int .i64 x27 ∧
  ∃ I28 : Nat → Heap → Int → Prop, (∃ n29, I28 n29 h26 0) ∧
  ∀ (n29 : Nat) (h30 : Heap) (g31 : Env) (y_32 : Int), I28 n29 h30 y_32 →
  cond (decide (y_32 < x27))
  (∃ (a34 : Option Addr) (la34 ca34 : Nat), cellH h30 ⟨b3, 2, none⟩ = some (.slice a34 la34 ca34) ∧
    CallsH Tryd.prog 80 #[.pointer a0r] h30 fun v35 h36 =>
    ∃ x37 : Int, ∃ x38 : Int, ∃ s39 : ByteArray, ∃ b40 : Bool, v35 = .agg #[.int .i64 x37, .int .i64 x38, .string s39, .bool b40] ∧
    (cellH h36 ⟨b3, 2, none⟩ = some (.slice a34 la34 ca34)) ∧
    VNew h36 (.cells #[.int .i64 x37, .int .i64 x38, .string s39, .bool b40] 83) fun b41 h42 =>
    (cellH h42 ⟨b3, 2, none⟩ = some (.slice a34 la34 ca34)) ∧
    RunsTo Tryd.prog (Builtin.append_ #[25, 25] 25 #[.slice a34 la34 ca34, .slice (some ⟨b41, 0, none⟩) 1 1]) h42 fun v43 h44 =>
    ∃ (a45 : Option Addr) (la45 ca45 : Nat), v43 = .slice a45 la45 ca45 ∧
    VStore h44 ⟨b3, 2, none⟩ (.slice a45 la45 ca45) fun h46 =>
    ∃ m33, m33 < n29 ∧ I28 m33 h46 (IntKind.i64.wrap (y_32 + 1)))
  (∃ s47 : ByteArray, cellH h30 ⟨b3, 0, none⟩ = some (.string s47) ∧
    ∃ x48 : Int, cellH h30 ⟨b3, 1, none⟩ = some (.int .i64 x48) ∧
    ∃ (a49 : Option Addr) (la49 ca49 : Nat), cellH h30 ⟨b3, 2, none⟩ = some (.slice a49 la49 ca49) ∧
    storeL ⟨b1, 0, none⟩ 0 [.string s47, .int .i64 x48, .slice a49 la49 ca49] h30 fun h50 =>
    ∃ s51 : ByteArray, cellH h50 ⟨b1, 0, none⟩ = some (.string s51) ∧
    ∃ x52 : Int, cellH h50 ⟨b1, 1, none⟩ = some (.int .i64 x52) ∧
    ∃ (a53 : Option Addr) (la53 ca53 : Nat), cellH h50 ⟨b1, 2, none⟩ = some (.slice a53 la53 ca53) ∧
    R (.agg #[.string s51, .int .i64 x52, .slice a53 la53 ca53]) h50)
theorem vf51 (a0r : Option Addr) (h : Heap) (R : KV) (hF : F51 a0r h R) : CallsH Tryd.prog 51 #[.pointer a0r] h R :=
  calls_of_vc (A := an51) (fn := Tryd.f51) (c := c51) (args := [.pointer a0r]) Tryd.func51 (by kernel_rfl) mixed (by kernel_rfl) (Eq.mp (by kernel_rfl : F51 a0r h R = vcF Tryd.prog an51 Tryd.f51 c51 [.pointer a0r] h R) hF)
/-! ### 52 (refrain/refrainref3.Reader).text -/
noncomputable def c52 : Code := match Tryd.f52.body with | some c => c | none => .skip
noncomputable def an52 : Ann := { loops := fun i => [], draws := fun i => match i with | 4 => #[0, 0, 2, 6, 14, 30, 0, 64, 192, 448, 1022, 2047] | 8 => #[0, 1, 3, 7, 0, 16, 48, 112, 0, 496, 0, 1024, 3072, 7168, 16383, 32767, 65535] | _ => #[], joins := fun i => none }
def F52 (a0r : Option Addr) (a1lo : Int) (a2hi : Int) (h : Heap) (R : KV) : Prop :=
  CallsH Tryd.prog 54 #[.pointer a0r, .int .i64 a1lo, .int .i64 a2hi] h fun v1 h2 =>
  ∃ x3 : Int, v1 = .int .i64 x3 ∧
  VSome a0r fun a4 =>
  ∃ x5 : Int, cellH h2 ⟨a4.block, a4.off + 2, none⟩ = some (.int .i64 x5) ∧
  cond (x5 != (0 : Int))
  (R (.string (ByteArray.mk #[])) h2)
  (VSome a0r fun a6 =>
    ∃ (a7 : Option Addr) (la7 ca7 : Nat), cellH h2 a6 = some (.slice a7 la7 ca7) ∧
    VSome a0r fun a8 =>
    ∃ x9 : Int, cellH h2 ⟨a8.block, a8.off + 1, none⟩ = some (.int .i64 x9) ∧
    cond (decide (x3 > (IntKind.i64.wrap ((la7 : Int) - x9))))
    (CallsH Tryd.prog 53 #[.pointer a0r, .int .i64 30] h2 fun v10 h11 =>
      v10 = .tuple #[] ∧
      R (.string (ByteArray.mk #[])) h11)
    (VSome a0r fun a12 =>
      ∃ x13 : Int, cellH h2 ⟨a12.block, a12.off + 1, none⟩ = some (.int .i64 x13) ∧
      VSome a0r fun a14 =>
      VStore h2 ⟨a14.block, a14.off + 1, none⟩ (.int .i64 (IntKind.i64.wrap (x13 + x3))) fun h15 =>
      VSome a0r fun a16 =>
      ∃ (a17 : Option Addr) (la17 ca17 : Nat), cellH h15 a16 = some (.slice a17 la17 ca17) ∧
      VSome a0r fun a18 =>
      ∃ x19 : Int, cellH h15 ⟨a18.block, a18.off + 1, none⟩ = some (.int .i64 x19) ∧
      VSome a0r fun a20 =>
      ∃ x21 : Int, cellH h15 ⟨a20.block, a20.off + 1, none⟩ = some (.int .i64 x21) ∧
      VSlice 1 a17 ca17 (IntKind.i64.wrap (x19 - x3)) x21 (ca17 : Int) fun a22 la22 ca22 =>
      RunsTo Tryd.prog (convert 30 9 (.slice a22 la22 ca22)) h15 fun v23 h24 =>
      ∃ s25 : ByteArray, v23 = .string s25 ∧
      R (.string s25) h24))
theorem vf52 (a0r : Option Addr) (a1lo : Int) (a2hi : Int) (h : Heap) (R : KV) (hF : F52 a0r a1lo a2hi h R) : CallsH Tryd.prog 52 #[.pointer a0r, .int .i64 a1lo, .int .i64 a2hi] h R :=
  calls_of_vc (A := an52) (fn := Tryd.f52) (c := c52) (args := [.pointer a0r, .int .i64 a1lo, .int .i64 a2hi]) Tryd.func52 (by kernel_rfl) mixed (by kernel_rfl) (Eq.mp (by kernel_rfl : F52 a0r a1lo a2hi h R = vcF Tryd.prog an52 Tryd.f52 c52 [.pointer a0r, .int .i64 a1lo, .int .i64 a2hi] h R) hF)
/-! ### 53 (refrain/refrainref3.Reader).fault -/
noncomputable def c53 : Code := match Tryd.f53.body with | some c => c | none => .skip
noncomputable def an53 : Ann := { loops := fun i => [], draws := fun i => #[], joins := fun i => none }
def F53 (a0r : Option Addr) (a1e : Int) (h : Heap) (R : KV) : Prop :=
  VSome a0r fun a1 =>
  ∃ x2 : Int, cellH h ⟨a1.block, a1.off + 2, none⟩ = some (.int .i64 x2) ∧
  cond (x2 == (0 : Int))
  (VSome a0r fun a3 =>
    VStore h ⟨a3.block, a3.off + 2, none⟩ (.int .i64 a1e) fun h4 =>
    R (.tuple #[]) h4)
  (R (.tuple #[]) h)
theorem vf53 (a0r : Option Addr) (a1e : Int) (h : Heap) (R : KV) (hF : F53 a0r a1e h R) : CallsH Tryd.prog 53 #[.pointer a0r, .int .i64 a1e] h R :=
  calls_of_vc (A := an53) (fn := Tryd.f53) (c := c53) (args := [.pointer a0r, .int .i64 a1e]) Tryd.func53 (by kernel_rfl) mixed (by kernel_rfl) (Eq.mp (by kernel_rfl : F53 a0r a1e h R = vcF Tryd.prog an53 Tryd.f53 c53 [.pointer a0r, .int .i64 a1e] h R) hF)
/-! ### 54 (refrain/refrainref3.Reader).number -/
noncomputable def c54 : Code := match Tryd.f54.body with | some c => c | none => .skip
noncomputable def an54 : Ann := { loops := fun i => [], draws := fun i => match i with | 3 => #[0, 1, 3, 7, 0, 16, 48, 112, 255, 511, 1023, 2047, 2047, 2047, 4095, 24575, 65535] | _ => #[], joins := fun i => none }
def F54 (a0r : Option Addr) (a1lo : Int) (a2hi : Int) (h : Heap) (R : KV) : Prop :=
  VSome a0r fun a1 =>
  ∃ x2 : Int, cellH h ⟨a1.block, a1.off + 2, none⟩ = some (.int .i64 x2) ∧
  cond (x2 != (0 : Int))
  (R (.int .i64 0) h)
  (VSome a0r fun a3 =>
    ∃ (a4 : Option Addr) (la4 ca4 : Nat), cellH h a3 = some (.slice a4 la4 ca4) ∧
    VSome a0r fun a5 =>
    ∃ x6 : Int, cellH h ⟨a5.block, a5.off + 1, none⟩ = some (.int .i64 x6) ∧
    VSlice 1 a4 ca4 x6 (la4 : Int) (ca4 : Int) fun a7 la7 ca7 =>
    CallsH Tryd.prog 24 #[.slice a7 la7 ca7] h fun v8 h9 =>
    ∃ x10 : Int, ∃ x11 : Int, ∃ x12 : Int, v8 = .tuple #[.int .i64 x10, .int .i64 x11, .int .i64 x12] ∧
    cond (x12 != (0 : Int))
    (CallsH Tryd.prog 53 #[.pointer a0r, .int .i64 x12] h9 fun v13 h14 =>
      v13 = .tuple #[] ∧
      R (.int .i64 0) h14)
    (VSome a0r fun a15 =>
      ∃ x16 : Int, cellH h9 ⟨a15.block, a15.off + 1, none⟩ = some (.int .i64 x16) ∧
      VSome a0r fun a17 =>
      VStore h9 ⟨a17.block, a17.off + 1, none⟩ (.int .i64 (IntKind.i64.wrap (x16 + x11))) fun h18 =>
      cond (decide (x10 < a1lo)) (CallsH Tryd.prog 53 #[.pointer a0r, .int .i64 31] h18 fun v19 h20 =>
        v19 = .tuple #[] ∧
        R (.int .i64 0) h20) (cond (decide (x10 > a2hi))
        (CallsH Tryd.prog 53 #[.pointer a0r, .int .i64 31] h18 fun v21 h22 =>
          v21 = .tuple #[] ∧
          R (.int .i64 0) h22)
        (R (.int .i64 x10) h18))))
theorem vf54 (a0r : Option Addr) (a1lo : Int) (a2hi : Int) (h : Heap) (R : KV) (hF : F54 a0r a1lo a2hi h R) : CallsH Tryd.prog 54 #[.pointer a0r, .int .i64 a1lo, .int .i64 a2hi] h R :=
  calls_of_vc (A := an54) (fn := Tryd.f54) (c := c54) (args := [.pointer a0r, .int .i64 a1lo, .int .i64 a2hi]) Tryd.func54 (by kernel_rfl) mixed (by kernel_rfl) (Eq.mp (by kernel_rfl : F54 a0r a1lo a2hi h R = vcF Tryd.prog an54 Tryd.f54 c54 [.pointer a0r, .int .i64 a1lo, .int .i64 a2hi] h R) hF)
/-! ### 55 (refrain/refrainref3.Reader).value -/
noncomputable def c55 : Code := match Tryd.f55.body with | some c => c | none => .skip
noncomputable def an55 : Ann := { loops := fun i => [], draws := fun i => #[], joins := fun i => match i with | 16 => some [] | 15 => some [] | _ => none }
def F55 (a0r : Option Addr) (h : Heap) (R : KV) : Prop :=
  VNew h (.cells #[.int .i64 0, .int .i64 0, .string (ByteArray.mk #[]), .bool false] 83) fun b1 h2 =>
  CallsH Tryd.prog 81 #[.pointer a0r] h2 fun v3 h4 =>
  ∃ x5 : Int, v3 = .int .u8 x5 ∧
  VSome a0r fun a6 =>
  ∃ x7 : Int, cellH h4 ⟨a6.block, a6.off + 2, none⟩ = some (.int .i64 x7) ∧
  cond (x7 != (0 : Int))
  (storeL ⟨b1, 0, none⟩ 0 [.int .i64 0, .int .i64 0, .string (ByteArray.mk #[]), .bool false] h4 fun h8 =>
    ∃ x9 : Int, cellH h8 ⟨b1, 0, none⟩ = some (.int .i64 x9) ∧
    ∃ x10 : Int, cellH h8 ⟨b1, 1, none⟩ = some (.int .i64 x10) ∧
    ∃ s11 : ByteArray, cellH h8 ⟨b1, 2, none⟩ = some (.string s11) ∧
    ∃ b12 : Bool, cellH h8 ⟨b1, 3, none⟩ = some (.bool b12) ∧
    R (.agg #[.int .i64 x9, .int .i64 x10, .string s11, .bool b12]) h8)
  (VNew h4 (.cells #[.int .i64 0, .int .i64 0, .string (ByteArray.mk #[]), .bool false] 83) fun b13 h14 =>
    storeL ⟨b13, 0, none⟩ 0 [.int .i64 (IntKind.i64.wrap x5), .int .i64 0, .string (ByteArray.mk #[]), .bool false] h14 fun h15 =>
    ∃ J16 : Heap → Prop, (cond ((IntKind.i64.wrap x5) == (1 : Int))
      (CallsH Tryd.prog 54 #[.pointer a0r, .int .i64 (-9223372036854775808 : Int), .int .i64 9223372036854775807] h15 fun v17 h18 =>
        ∃ x19 : Int, v17 = .int .i64 x19 ∧
        VStore h18 ⟨b13, 1, none⟩ (.int .i64 x19) fun h20 =>
        J16 h20)
      (cond ((IntKind.i64.wrap x5) == (2 : Int))
        (CallsH Tryd.prog 52 #[.pointer a0r, .int .i64 0, .int .i64 256] h15 fun v21 h22 =>
          ∃ s23 : ByteArray, v21 = .string s23 ∧
          VStore h22 ⟨b13, 2, none⟩ (.string s23) fun h24 =>
          J16 h24)
        (cond ((IntKind.i64.wrap x5) == (3 : Int))
          (CallsH Tryd.prog 81 #[.pointer a0r] h15 fun v25 h26 =>
            ∃ x27 : Int, v25 = .int .u8 x27 ∧
            ∃ J28 : Heap → Prop, (cond (decide (x27 > (1 : Int)))
              (CallsH Tryd.prog 53 #[.pointer a0r, .int .i64 31] h26 fun v29 h30 =>
                v29 = .tuple #[] ∧
                J28 h30)
              (J28 h26)) ∧
            ∀ (h31 : Heap) (g32 : Env), J28 h31 →
            VStore h31 ⟨b13, 3, none⟩ (.bool (x27 == (1 : Int))) fun h33 =>
            J16 h33)
          (CallsH Tryd.prog 53 #[.pointer a0r, .int .i64 31] h15 fun v34 h35 =>
            v34 = .tuple #[] ∧
            J16 h35)))) ∧
    ∀ (h36 : Heap) (g37 : Env), J16 h36 →
    ∃ x38 : Int, cellH h36 ⟨b13, 0, none⟩ = some (.int .i64 x38) ∧
    ∃ x39 : Int, cellH h36 ⟨b13, 1, none⟩ = some (.int .i64 x39) ∧
    ∃ s40 : ByteArray, cellH h36 ⟨b13, 2, none⟩ = some (.string s40) ∧
    ∃ b41 : Bool, cellH h36 ⟨b13, 3, none⟩ = some (.bool b41) ∧
    storeL ⟨b1, 0, none⟩ 0 [.int .i64 x38, .int .i64 x39, .string s40, .bool b41] h36 fun h42 =>
    ∃ x43 : Int, cellH h42 ⟨b1, 0, none⟩ = some (.int .i64 x43) ∧
    ∃ x44 : Int, cellH h42 ⟨b1, 1, none⟩ = some (.int .i64 x44) ∧
    ∃ s45 : ByteArray, cellH h42 ⟨b1, 2, none⟩ = some (.string s45) ∧
    ∃ b46 : Bool, cellH h42 ⟨b1, 3, none⟩ = some (.bool b46) ∧
    R (.agg #[.int .i64 x43, .int .i64 x44, .string s45, .bool b46]) h42)
theorem vf55 (a0r : Option Addr) (h : Heap) (R : KV) (hF : F55 a0r h R) : CallsH Tryd.prog 55 #[.pointer a0r] h R :=
  calls_of_vc (A := an55) (fn := Tryd.f55) (c := c55) (args := [.pointer a0r]) Tryd.func55 (by kernel_rfl) mixed (by kernel_rfl) (Eq.mp (by kernel_rfl : F55 a0r h R = vcF Tryd.prog an55 Tryd.f55 c55 [.pointer a0r] h R) hF)
/-! ### 56 refrain/wire.putInt -/
noncomputable def c56 : Code := match Tryd.f56.body with | some c => c | none => .skip
noncomputable def an56 : Ann := { loops := fun i => match i with | 2 => [(0, .slc), (5, .int .u64)] | _ => [], draws := fun i => #[], joins := fun i => none }
def F56 (a0b : Option Addr) (la0b ca0b : Nat) (a1n : Int) (h : Heap) (R : KV) : Prop :=
  (0 : Int) ≤ 1 ∧
  (0 : Int) ≤ 63 ∧
  ∃ I1 : Nat → Heap → Option Addr → Nat → Nat → Int → Prop, (∃ n2, I1 n2 h a0b la0b ca0b (bitsOp .xor .u64 (IntKind.u64.wrap ((IntKind.u64.wrap a1n) * 2 ^ (min (Int.toNat 1) (IntKind.bits .u64)))) (IntKind.u64.wrap (Int.fdiv a1n (2 ^ (min (Int.toNat 63) (IntKind.bits .i64))))))) ∧
  ∀ (n2 : Nat) (h3 : Heap) (g4 : Env) (b_5 : Option Addr) (lb_5 cb_5 : Nat) (z_6 : Int), I1 n2 h3 b_5 lb_5 cb_5 z_6 →
  cond (decide (z_6 ≥ (128 : Int)))
  (VNew h3 (.cells #[.int .u8 (bitsOp .or .u8 (IntKind.u8.wrap z_6) 128)] 5) fun b8 h9 =>
    RunsTo Tryd.prog (Builtin.append_ #[30, 30] 30 #[.slice b_5 lb_5 cb_5, .slice (some ⟨b8, 0, none⟩) 1 1]) h9 fun v10 h11 =>
    ∃ (a12 : Option Addr) (la12 ca12 : Nat), v10 = .slice a12 la12 ca12 ∧
    (0 : Int) ≤ 7 ∧
    ∃ m7, m7 < n2 ∧ I1 m7 h11 a12 la12 ca12 (Int.fdiv z_6 (2 ^ (min (Int.toNat 7) (IntKind.bits .u64)))))
  (VNew h3 (.cells #[.int .u8 (IntKind.u8.wrap z_6)] 5) fun b13 h14 =>
    RunsTo Tryd.prog (Builtin.append_ #[30, 30] 30 #[.slice b_5 lb_5 cb_5, .slice (some ⟨b13, 0, none⟩) 1 1]) h14 fun v15 h16 =>
    ∃ (a17 : Option Addr) (la17 ca17 : Nat), v15 = .slice a17 la17 ca17 ∧
    R (.slice a17 la17 ca17) h16)
theorem vf56 (a0b : Option Addr) (la0b ca0b : Nat) (a1n : Int) (h : Heap) (R : KV) (hF : F56 a0b la0b ca0b a1n h R) : CallsH Tryd.prog 56 #[.slice a0b la0b ca0b, .int .i64 a1n] h R :=
  calls_of_vc (A := an56) (fn := Tryd.f56) (c := c56) (args := [.slice a0b la0b ca0b, .int .i64 a1n]) Tryd.func56 (by kernel_rfl) mixed (by kernel_rfl) (Eq.mp (by kernel_rfl : F56 a0b la0b ca0b a1n h R = vcF Tryd.prog an56 Tryd.f56 c56 [.slice a0b la0b ca0b, .int .i64 a1n] h R) hF)
/-! ### 57 refrain/refrainref3.same -/
noncomputable def c57 : Code := match Tryd.f57.body with | some c => c | none => .skip
noncomputable def an57 : Ann := { loops := fun i => match i with | 4 => [(4, .bool), (5, .int .i64)] | _ => [], draws := fun i => match i with | 6 => #[0, 0, 3, 7, 0, 0, 48, 112, 255] | _ => #[], joins := fun i => none }
def F57 (a0a : Option Addr) (la0a ca0a : Nat) (a1b : Option Addr) (la1b ca1b : Nat) (h : Heap) (R : KV) : Prop :=
  cond ((la0a : Int) != (la1b : Int))
  (R (.bool false) h)
  (∃ I1 : Nat → Heap → Bool → Int → Prop, (∃ n2, I1 n2 h false 0) ∧
    ∀ (n2 : Nat) (h3 : Heap) (g4 : Env) (y_5 : Bool) (i_6 : Int), I1 n2 h3 y_5 i_6 →
    cond (decide (i_6 < (la0a : Int)))
    (VIdx a0a la0a i_6 1 fun a8 =>
      ∃ x9 : Int, cellH h3 a8 = some (.int .u8 x9) ∧
      VIdx a1b la1b i_6 1 fun a10 =>
      ∃ x11 : Int, cellH h3 a10 = some (.int .u8 x11) ∧
      cond (x9 != x11)
      (R (.bool false) h3)
      (∃ m7, m7 < n2 ∧ I1 m7 h3 y_5 (IntKind.i64.wrap (i_6 + 1))))
    (R (.bool true) h3))
theorem vf57 (a0a : Option Addr) (la0a ca0a : Nat) (a1b : Option Addr) (la1b ca1b : Nat) (h : Heap) (R : KV) (hF : F57 a0a la0a ca0a a1b la1b ca1b h R) : CallsH Tryd.prog 57 #[.slice a0a la0a ca0a, .slice a1b la1b ca1b] h R :=
  calls_of_vc (A := an57) (fn := Tryd.f57) (c := c57) (args := [.slice a0a la0a ca0a, .slice a1b la1b ca1b]) Tryd.func57 (by kernel_rfl) mixed (by kernel_rfl) (Eq.mp (by kernel_rfl : F57 a0a la0a ca0a a1b la1b ca1b h R = vcF Tryd.prog an57 Tryd.f57 c57 [.slice a0a la0a ca0a, .slice a1b la1b ca1b] h R) hF)
/-! ### 58 refrain/wire.sum -/
noncomputable def c58 : Code := match Tryd.f58.body with | some c => c | none => .skip
noncomputable def an58 : Ann := { loops := fun i => match i with | 3 => [(3, .int .i64), (4, .int .i64), (9, .int .i64)] | _ => [], draws := fun i => #[], joins := fun i => none }
def F58 (a0b : Option Addr) (la0b ca0b : Nat) (h : Heap) (R : KV) : Prop :=
  VNew h (.cells #[.int .u8 0, .int .u8 0, .int .u8 0, .int .u8 0] 104) fun b1 h2 =>
  ∃ I3 : Nat → Heap → Int → Int → Int → Prop, (∃ n4, I3 n4 h2 1 0 0) ∧
  ∀ (n4 : Nat) (h5 : Heap) (g6 : Env) (p_7 : Int) (q_8 : Int) (y_9 : Int), I3 n4 h5 p_7 q_8 y_9 →
  cond (decide (y_9 < (la0b : Int)))
  (VIdx a0b la0b y_9 1 fun a11 =>
    ∃ x12 : Int, cellH h5 a11 = some (.int .u8 x12) ∧
    (65521 : Int) ≠ (0 : Int) ∧
    (65521 : Int) ≠ (0 : Int) ∧
    ∃ m10, m10 < n4 ∧ I3 m10 h5 (Int.tmod (IntKind.i64.wrap (p_7 + (IntKind.i64.wrap x12))) 65521) (Int.tmod (IntKind.i64.wrap (q_8 + (Int.tmod (IntKind.i64.wrap (p_7 + (IntKind.i64.wrap x12))) 65521))) 65521) (IntKind.i64.wrap (y_9 + 1)))
  ((0 : Int) ≤ 8 ∧
    (0 : Int) ≤ 8 ∧
    storeL ⟨b1, 0, none⟩ 0 [.int .u8 (IntKind.u8.wrap (Int.fdiv q_8 (2 ^ (min (Int.toNat 8) (IntKind.bits .i64))))), .int .u8 (IntKind.u8.wrap q_8), .int .u8 (IntKind.u8.wrap (Int.fdiv p_7 (2 ^ (min (Int.toNat 8) (IntKind.bits .i64))))), .int .u8 (IntKind.u8.wrap p_7)] h5 fun h13 =>
    ∃ x14 : Int, cellH h13 ⟨b1, 0, none⟩ = some (.int .u8 x14) ∧
    ∃ x15 : Int, cellH h13 ⟨b1, 1, none⟩ = some (.int .u8 x15) ∧
    ∃ x16 : Int, cellH h13 ⟨b1, 2, none⟩ = some (.int .u8 x16) ∧
    ∃ x17 : Int, cellH h13 ⟨b1, 3, none⟩ = some (.int .u8 x17) ∧
    R (.agg #[.int .u8 x14, .int .u8 x15, .int .u8 x16, .int .u8 x17]) h13)
theorem vf58 (a0b : Option Addr) (la0b ca0b : Nat) (h : Heap) (R : KV) (hF : F58 a0b la0b ca0b h R) : CallsH Tryd.prog 58 #[.slice a0b la0b ca0b] h R :=
  calls_of_vc (A := an58) (fn := Tryd.f58) (c := c58) (args := [.slice a0b la0b ca0b]) Tryd.func58 (by kernel_rfl) mixed (by kernel_rfl) (Eq.mp (by kernel_rfl : F58 a0b la0b ca0b h R = vcF Tryd.prog an58 Tryd.f58 c58 [.slice a0b la0b ca0b] h R) hF)
/-! ### 59 refrain/refrainref3.Sum -/
noncomputable def c59 : Code := match Tryd.f59.body with | some c => c | none => .skip
noncomputable def an59 : Ann := { loops := fun i => match i with | 3 => [(3, .int .i64), (4, .int .i64), (5, .int .i64)] | _ => [], draws := fun i => #[], joins := fun i => none }
def F59 (a0b : Option Addr) (la0b ca0b : Nat) (h : Heap) (R : KV) : Prop :=
  ∃ I1 : Nat → Heap → Int → Int → Int → Prop, (∃ n2, I1 n2 h 1 0 0) ∧
  ∀ (n2 : Nat) (h3 : Heap) (g4 : Env) (p_5 : Int) (q_6 : Int) (i_7 : Int), I1 n2 h3 p_5 q_6 i_7 →
  cond (decide (i_7 < (la0b : Int)))
  (VIdx a0b la0b i_7 1 fun a9 =>
    ∃ x10 : Int, cellH h3 a9 = some (.int .u8 x10) ∧
    (65521 : Int) ≠ (0 : Int) ∧
    (65521 : Int) ≠ (0 : Int) ∧
    ∃ m8, m8 < n2 ∧ I1 m8 h3 (Int.tmod (IntKind.i64.wrap (p_5 + (IntKind.i64.wrap x10))) 65521) (Int.tmod (IntKind.i64.wrap (q_6 + (Int.tmod (IntKind.i64.wrap (p_5 + (IntKind.i64.wrap x10))) 65521))) 65521) (IntKind.i64.wrap (i_7 + 1)))
  ((256 : Int) ≠ (0 : Int) ∧
    (256 : Int) ≠ (0 : Int) ∧
    (256 : Int) ≠ (0 : Int) ∧
    (256 : Int) ≠ (0 : Int) ∧
    VNew h3 (.cells #[.int .u8 (IntKind.u8.wrap (IntKind.i64.wrap (Int.tdiv q_6 256))), .int .u8 (IntKind.u8.wrap (Int.tmod q_6 256)), .int .u8 (IntKind.u8.wrap (IntKind.i64.wrap (Int.tdiv p_5 256))), .int .u8 (IntKind.u8.wrap (Int.tmod p_5 256))] 5) fun b11 h12 =>
    R (.slice (some ⟨b11, 0, none⟩) 4 4) h12)
theorem vf59 (a0b : Option Addr) (la0b ca0b : Nat) (h : Heap) (R : KV) (hF : F59 a0b la0b ca0b h R) : CallsH Tryd.prog 59 #[.slice a0b la0b ca0b] h R :=
  calls_of_vc (A := an59) (fn := Tryd.f59) (c := c59) (args := [.slice a0b la0b ca0b]) Tryd.func59 (by kernel_rfl) mixed (by kernel_rfl) (Eq.mp (by kernel_rfl : F59 a0b la0b ca0b h R = vcF Tryd.prog an59 Tryd.f59 c59 [.slice a0b la0b ca0b] h R) hF)
/-! ### 60 (refrain/wire.reader).number -/
noncomputable def c60 : Code := match Tryd.f60.body with | some c => c | none => .skip
noncomputable def an60 : Ann := { loops := fun i => [], draws := fun i => match i with | 3 => #[0, 1, 3, 7, 0, 16, 48, 112, 255, 511, 1023, 2047, 2047, 2047, 4095, 24575, 65535] | _ => #[], joins := fun i => none }
def F60 (a0r : Option Addr) (a1lo : Int) (a2hi : Int) (h : Heap) (R : KV) : Prop :=
  VSome a0r fun a1 =>
  ∃ x2 : Int, cellH h ⟨a1.block, a1.off + 2, none⟩ = some (.int .i64 x2) ∧
  cond (x2 != (0 : Int))
  (R (.int .i64 0) h)
  (VSome a0r fun a3 =>
    ∃ (a4 : Option Addr) (la4 ca4 : Nat), cellH h a3 = some (.slice a4 la4 ca4) ∧
    VSome a0r fun a5 =>
    ∃ x6 : Int, cellH h ⟨a5.block, a5.off + 1, none⟩ = some (.int .i64 x6) ∧
    VSlice 1 a4 ca4 x6 (la4 : Int) (ca4 : Int) fun a7 la7 ca7 =>
    CallsH Tryd.prog 23 #[.slice a7 la7 ca7] h fun v8 h9 =>
    ∃ x10 : Int, ∃ x11 : Int, ∃ x12 : Int, v8 = .tuple #[.int .i64 x10, .int .i64 x11, .int .i64 x12] ∧
    cond (x12 != (0 : Int))
    (CallsH Tryd.prog 61 #[.pointer a0r, .int .i64 x12] h9 fun v13 h14 =>
      v13 = .tuple #[] ∧
      R (.int .i64 0) h14)
    (cond (decide (x10 < a1lo)) (CallsH Tryd.prog 61 #[.pointer a0r, .int .i64 31] h9 fun v15 h16 =>
        v15 = .tuple #[] ∧
        R (.int .i64 0) h16) (cond (decide (x10 > a2hi))
        (CallsH Tryd.prog 61 #[.pointer a0r, .int .i64 31] h9 fun v17 h18 =>
          v17 = .tuple #[] ∧
          R (.int .i64 0) h18)
        (VSome a0r fun a19 =>
          ∃ x20 : Int, cellH h9 ⟨a19.block, a19.off + 1, none⟩ = some (.int .i64 x20) ∧
          VSome a0r fun a21 =>
          VStore h9 ⟨a21.block, a21.off + 1, none⟩ (.int .i64 (IntKind.i64.wrap (x20 + x11))) fun h22 =>
          R (.int .i64 x10) h22))))
theorem vf60 (a0r : Option Addr) (a1lo : Int) (a2hi : Int) (h : Heap) (R : KV) (hF : F60 a0r a1lo a2hi h R) : CallsH Tryd.prog 60 #[.pointer a0r, .int .i64 a1lo, .int .i64 a2hi] h R :=
  calls_of_vc (A := an60) (fn := Tryd.f60) (c := c60) (args := [.pointer a0r, .int .i64 a1lo, .int .i64 a2hi]) Tryd.func60 (by kernel_rfl) mixed (by kernel_rfl) (Eq.mp (by kernel_rfl : F60 a0r a1lo a2hi h R = vcF Tryd.prog an60 Tryd.f60 c60 [.pointer a0r, .int .i64 a1lo, .int .i64 a2hi] h R) hF)
/-! ### 61 (refrain/wire.reader).fail -/
noncomputable def c61 : Code := match Tryd.f61.body with | some c => c | none => .skip
noncomputable def an61 : Ann := { loops := fun i => [], draws := fun i => #[], joins := fun i => none }
def F61 (a0r : Option Addr) (a1e : Int) (h : Heap) (R : KV) : Prop :=
  VSome a0r fun a1 =>
  ∃ x2 : Int, cellH h ⟨a1.block, a1.off + 2, none⟩ = some (.int .i64 x2) ∧
  cond (x2 == (0 : Int))
  (VSome a0r fun a3 =>
    VStore h ⟨a3.block, a3.off + 2, none⟩ (.int .i64 a1e) fun h4 =>
    R (.tuple #[]) h4)
  (R (.tuple #[]) h)
theorem vf61 (a0r : Option Addr) (a1e : Int) (h : Heap) (R : KV) (hF : F61 a0r a1e h R) : CallsH Tryd.prog 61 #[.pointer a0r, .int .i64 a1e] h R :=
  calls_of_vc (A := an61) (fn := Tryd.f61) (c := c61) (args := [.pointer a0r, .int .i64 a1e]) Tryd.func61 (by kernel_rfl) mixed (by kernel_rfl) (Eq.mp (by kernel_rfl : F61 a0r a1e h R = vcF Tryd.prog an61 Tryd.f61 c61 [.pointer a0r, .int .i64 a1e] h R) hF)
/-! ### 64 refrain/refrainlaw3.pat -/
noncomputable def c64 : Code := match Tryd.f64.body with | some c => c | none => .skip
noncomputable def an64 : Ann := { loops := fun i => [], draws := fun i => #[], joins := fun i => none }
def F64 (a0m : Int) (a1i : Int) (h : Heap) (R : KV) : Prop :=
  (3 : Int) ≠ (0 : Int) ∧
  (0 : Int) ≤ (IntKind.i64.wrap (8 * (Int.tmod a1i 3))) ∧
  R (.int .u8 (IntKind.u8.wrap (Int.fdiv a0m (2 ^ (min (Int.toNat (IntKind.i64.wrap (8 * (Int.tmod a1i 3)))) (IntKind.bits .i64)))))) h
theorem vf64 (a0m : Int) (a1i : Int) (h : Heap) (R : KV) (hF : F64 a0m a1i h R) : CallsH Tryd.prog 64 #[.int .i64 a0m, .int .i64 a1i] h R :=
  calls_of_vc (A := an64) (fn := Tryd.f64) (c := c64) (args := [.int .i64 a0m, .int .i64 a1i]) Tryd.func64 (by kernel_rfl) mixed (by kernel_rfl) (Eq.mp (by kernel_rfl : F64 a0m a1i h R = vcF Tryd.prog an64 Tryd.f64 c64 [.int .i64 a0m, .int .i64 a1i] h R) hF)
/-! ### 65 refrain/refrainlaw3.valueMark -/
noncomputable def c65 : Code := match Tryd.f65.body with | some c => c | none => .skip
noncomputable def an65 : Ann := { loops := fun i => [], draws := fun i => #[], joins := fun i => none }
def F65 (a0m : Int) (h : Heap) (R : KV) : Prop :=
  VNew h (.cells #[.int .i64 0, .int .i64 0, .string (ByteArray.mk #[]), .bool false] 83) fun b1 h2 =>
  storeL ⟨b1, 0, none⟩ 0 [.int .i64 9, .int .i64 a0m, .string (ByteArray.mk #[]), .bool false] h2 fun h3 =>
  ∃ x4 : Int, cellH h3 ⟨b1, 0, none⟩ = some (.int .i64 x4) ∧
  ∃ x5 : Int, cellH h3 ⟨b1, 1, none⟩ = some (.int .i64 x5) ∧
  ∃ s6 : ByteArray, cellH h3 ⟨b1, 2, none⟩ = some (.string s6) ∧
  ∃ b7 : Bool, cellH h3 ⟨b1, 3, none⟩ = some (.bool b7) ∧
  R (.agg #[.int .i64 x4, .int .i64 x5, .string s6, .bool b7]) h3
theorem vf65 (a0m : Int) (h : Heap) (R : KV) (hF : F65 a0m h R) : CallsH Tryd.prog 65 #[.int .i64 a0m] h R :=
  calls_of_vc (A := an65) (fn := Tryd.f65) (c := c65) (args := [.int .i64 a0m]) Tryd.func65 (by kernel_rfl) mixed (by kernel_rfl) (Eq.mp (by kernel_rfl : F65 a0m h R = vcF Tryd.prog an65 Tryd.f65 c65 [.int .i64 a0m] h R) hF)
/-! ### 70 refrain/refrainlaw3.event -/
noncomputable def c70 : Code := match Tryd.f70.body with | some c => c | none => .skip
noncomputable def an70 : Ann := { loops := fun i => [], draws := fun i => #[], joins := fun i => match i with | 14 => some [] | 11 => some [] | _ => none }
def F70 (a0e_0 : ByteArray) (a0e_1 : Int) (a0e_2 : Option Addr) (la0e_2 ca0e_2 : Nat) (a1k : Int) (h : Heap) (R : KV) : Prop :=
  VNew h (.cells #[.string a0e_0, .int .i64 a0e_1, .slice a0e_2 la0e_2 ca0e_2] 27) fun b1 h2 =>
  VNew h2 (.cells #[.string (ByteArray.mk #[]), .int .i64 0, .slice none 0 0] 27) fun b3 h4 =>
  (4 : Int) ≠ (0 : Int) ∧
  (4 : Int) ≠ (0 : Int) ∧
  ∃ J5 : Heap → Prop, (cond (decide ((Int.tmod a1k 4) < (2 : Int))) (∃ (a6 : Option Addr) (la6 ca6 : Nat), cellH h4 ⟨b1, 2, none⟩ = some (.slice a6 la6 ca6) ∧
      cond (decide ((la6 : Int) > (0 : Int)))
      (∃ (a7 : Option Addr) (la7 ca7 : Nat), cellH h4 ⟨b1, 2, none⟩ = some (.slice a7 la7 ca7) ∧
        (la7 : Int) ≠ (0 : Int) ∧
        ∃ (a8 : Option Addr) (la8 ca8 : Nat), cellH h4 ⟨b1, 2, none⟩ = some (.slice a8 la8 ca8) ∧
        VIdx a8 la8 (Int.tmod (IntKind.i64.wrap (Int.tdiv a1k 4)) (la7 : Int)) 4 fun a9 =>
        ∃ x10 : Int, cellH h4 a9 = some (.int .i64 x10) ∧
        ∃ x11 : Int, cellH h4 ⟨a9.block, a9.off + 1, none⟩ = some (.int .i64 x11) ∧
        ∃ s12 : ByteArray, cellH h4 ⟨a9.block, a9.off + 2, none⟩ = some (.string s12) ∧
        ∃ b13 : Bool, cellH h4 ⟨a9.block, a9.off + 3, none⟩ = some (.bool b13) ∧
        VNew h4 (.cells #[.int .i64 0, .int .i64 0, .string (ByteArray.mk #[]), .bool false] 83) fun b14 h15 =>
        storeL ⟨b14, 0, none⟩ 0 [.int .i64 x10, .int .i64 x11, .string s12, .bool b13] h15 fun h16 =>
        ∃ x17 : Int, cellH h16 ⟨b14, 1, none⟩ = some (.int .i64 x17) ∧
        (5 : Int) ≠ (0 : Int) ∧
        VStore h16 ⟨b14, 1, none⟩ (.int .i64 (bitsOp .xor .i64 x17 (IntKind.i64.wrap (1 + (Int.tmod (IntKind.i64.wrap (Int.tdiv a1k 4)) 5))))) fun h18 =>
        ∃ b19 : Bool, cellH h18 ⟨b14, 3, none⟩ = some (.bool b19) ∧
        VStore h18 ⟨b14, 3, none⟩ (.bool (!b19)) fun h20 =>
        ∃ J21 : Heap → Prop, (∃ s22 : ByteArray, cellH h20 ⟨b14, 2, none⟩ = some (.string s22) ∧
          cond (decide ((s22.size : Int) > (0 : Int)))
          (∃ s23 : ByteArray, cellH h20 ⟨b14, 2, none⟩ = some (.string s23) ∧
            VSliceS s23 1 (s23.size : Int) fun s24 =>
            VStore h20 ⟨b14, 2, none⟩ (.string s24) fun h25 =>
            J21 h25)
          (J21 h20)) ∧
        ∀ (h26 : Heap) (g27 : Env), J21 h26 →
        ∃ (a28 : Option Addr) (la28 ca28 : Nat), cellH h26 ⟨b1, 2, none⟩ = some (.slice a28 la28 ca28) ∧
        ∃ x29 : Int, cellH h26 ⟨b14, 0, none⟩ = some (.int .i64 x29) ∧
        ∃ x30 : Int, cellH h26 ⟨b14, 1, none⟩ = some (.int .i64 x30) ∧
        ∃ s31 : ByteArray, cellH h26 ⟨b14, 2, none⟩ = some (.string s31) ∧
        ∃ b32 : Bool, cellH h26 ⟨b14, 3, none⟩ = some (.bool b32) ∧
        VIdx a28 la28 (Int.tmod (IntKind.i64.wrap (Int.tdiv a1k 4)) (la7 : Int)) 4 fun a33 =>
        storeL a33 0 [.int .i64 x29, .int .i64 x30, .string s31, .bool b32] h26 fun h34 =>
        J5 h34)
      (cond ((Int.tmod a1k 4) == (2 : Int))
        (∃ x35 : Int, cellH h4 ⟨b1, 1, none⟩ = some (.int .i64 x35) ∧
          (9 : Int) ≠ (0 : Int) ∧
          VStore h4 ⟨b1, 1, none⟩ (.int .i64 (bitsOp .xor .i64 x35 (IntKind.i64.wrap (1 + (Int.tmod (IntKind.i64.wrap (Int.tdiv a1k 4)) 9))))) fun h36 =>
          J5 h36)
        (∃ s37 : ByteArray, cellH h4 ⟨b1, 0, none⟩ = some (.string s37) ∧
          ((s37.size + (ByteArray.mk #[120]).size : Nat) : Int) ≤ 9223372036854775807 ∧
          VStore h4 ⟨b1, 0, none⟩ (.string (s37 ++ (ByteArray.mk #[120]))) fun h38 =>
          J5 h38))) (cond ((Int.tmod a1k 4) == (2 : Int))
      (∃ x39 : Int, cellH h4 ⟨b1, 1, none⟩ = some (.int .i64 x39) ∧
        (9 : Int) ≠ (0 : Int) ∧
        VStore h4 ⟨b1, 1, none⟩ (.int .i64 (bitsOp .xor .i64 x39 (IntKind.i64.wrap (1 + (Int.tmod (IntKind.i64.wrap (Int.tdiv a1k 4)) 9))))) fun h40 =>
        J5 h40)
      (∃ s41 : ByteArray, cellH h4 ⟨b1, 0, none⟩ = some (.string s41) ∧
        ((s41.size + (ByteArray.mk #[120]).size : Nat) : Int) ≤ 9223372036854775807 ∧
        VStore h4 ⟨b1, 0, none⟩ (.string (s41 ++ (ByteArray.mk #[120]))) fun h42 =>
        J5 h42))) ∧
  ∀ (h43 : Heap) (g44 : Env), J5 h43 →
  ∃ s45 : ByteArray, cellH h43 ⟨b1, 0, none⟩ = some (.string s45) ∧
  ∃ x46 : Int, cellH h43 ⟨b1, 1, none⟩ = some (.int .i64 x46) ∧
  ∃ (a47 : Option Addr) (la47 ca47 : Nat), cellH h43 ⟨b1, 2, none⟩ = some (.slice a47 la47 ca47) ∧
  storeL ⟨b3, 0, none⟩ 0 [.string s45, .int .i64 x46, .slice a47 la47 ca47] h43 fun h48 =>
  ∃ s49 : ByteArray, cellH h48 ⟨b3, 0, none⟩ = some (.string s49) ∧
  ∃ x50 : Int, cellH h48 ⟨b3, 1, none⟩ = some (.int .i64 x50) ∧
  ∃ (a51 : Option Addr) (la51 ca51 : Nat), cellH h48 ⟨b3, 2, none⟩ = some (.slice a51 la51 ca51) ∧
  R (.agg #[.string s49, .int .i64 x50, .slice a51 la51 ca51]) h48
theorem vf70 (a0e_0 : ByteArray) (a0e_1 : Int) (a0e_2 : Option Addr) (la0e_2 ca0e_2 : Nat) (a1k : Int) (h : Heap) (R : KV) (hF : F70 a0e_0 a0e_1 a0e_2 la0e_2 ca0e_2 a1k h R) : CallsH Tryd.prog 70 #[.agg #[.string a0e_0, .int .i64 a0e_1, .slice a0e_2 la0e_2 ca0e_2], .int .i64 a1k] h R :=
  calls_of_vc (A := an70) (fn := Tryd.f70) (c := c70) (args := [.agg #[.string a0e_0, .int .i64 a0e_1, .slice a0e_2 la0e_2 ca0e_2], .int .i64 a1k]) Tryd.func70 (by kernel_rfl) mixed (by kernel_rfl) (Eq.mp (by kernel_rfl : F70 a0e_0 a0e_1 a0e_2 la0e_2 ca0e_2 a1k h R = vcF Tryd.prog an70 Tryd.f70 c70 [.agg #[.string a0e_0, .int .i64 a0e_1, .slice a0e_2 la0e_2 ca0e_2], .int .i64 a1k] h R) hF)
/-! ### 72 refrain/schema.Name -/
noncomputable def c72 : Code := match Tryd.f72.body with | some c => c | none => .skip
noncomputable def an72 : Ann := { loops := fun i => match i with | 4 => [(2, .bool), (21, .int .i64)] | 10 => [(2, .bool), (31, .int .i64)] | _ => [], draws := fun i => #[], joins := fun i => none }
def F72 (a0s : ByteArray) (h : Heap) (R : KV) : Prop :=
  cond (strEq a0s (ByteArray.mk #[])) (R (.bool false) h) (cond (decide ((a0s.size : Int) > (32 : Int))) (R (.bool false) h) ((0 : Int) ≤ 0 ∧ ∃ u1 : UInt8, a0s[Int.toNat 0]? = some u1 ∧
      CallsH Tryd.prog 83 #[.int .u8 (u1.toNat : Int)] h fun v2 h3 =>
      ∃ b4 : Bool, v2 = .bool b4 ∧
      cond (!b4)
      (R (.bool false) h3)
      (∃ I5 : Nat → Heap → Bool → Int → Prop, (∃ n6, I5 n6 h3 false 0) ∧
        ∀ (n6 : Nat) (h7 : Heap) (g8 : Env) (y_9 : Bool) (y_10 : Int), I5 n6 h7 y_9 y_10 →
        cond (decide (y_10 < (a0s.size : Int)))
        ((0 : Int) ≤ y_10 ∧ ∃ u12 : UInt8, a0s[Int.toNat y_10]? = some u12 ∧
          CallsH Tryd.prog 84 #[.int .u8 (u12.toNat : Int)] h7 fun v13 h14 =>
          ∃ b15 : Bool, v13 = .bool b15 ∧
          cond (!b15)
          (R (.bool false) h14)
          (∃ m11, m11 < n6 ∧ I5 m11 h14 y_9 (IntKind.i64.wrap (y_10 + 1))))
        (∃ s16 : ByteArray, cellH h7 ⟨0, 0, none⟩ = some (.string s16) ∧
          ∃ s17 : ByteArray, cellH h7 ⟨0, 1, none⟩ = some (.string s17) ∧
          ∃ s18 : ByteArray, cellH h7 ⟨0, 2, none⟩ = some (.string s18) ∧
          ∃ s19 : ByteArray, cellH h7 ⟨0, 3, none⟩ = some (.string s19) ∧
          ∃ s20 : ByteArray, cellH h7 ⟨0, 4, none⟩ = some (.string s20) ∧
          ∃ s21 : ByteArray, cellH h7 ⟨0, 5, none⟩ = some (.string s21) ∧
          ∃ s22 : ByteArray, cellH h7 ⟨0, 6, none⟩ = some (.string s22) ∧
          ∃ s23 : ByteArray, cellH h7 ⟨0, 7, none⟩ = some (.string s23) ∧
          ∃ s24 : ByteArray, cellH h7 ⟨0, 8, none⟩ = some (.string s24) ∧
          ∃ s25 : ByteArray, cellH h7 ⟨0, 9, none⟩ = some (.string s25) ∧
          ∃ s26 : ByteArray, cellH h7 ⟨0, 10, none⟩ = some (.string s26) ∧
          ∃ s27 : ByteArray, cellH h7 ⟨0, 11, none⟩ = some (.string s27) ∧
          ∃ s28 : ByteArray, cellH h7 ⟨0, 12, none⟩ = some (.string s28) ∧
          ∃ s29 : ByteArray, cellH h7 ⟨0, 13, none⟩ = some (.string s29) ∧
          ∃ s30 : ByteArray, cellH h7 ⟨0, 14, none⟩ = some (.string s30) ∧
          ∃ s31 : ByteArray, cellH h7 ⟨0, 15, none⟩ = some (.string s31) ∧
          ∃ I32 : Nat → Heap → Bool → Int → Prop, (∃ n33, I32 n33 h7 y_9 0) ∧
          ∀ (n33 : Nat) (h34 : Heap) (g35 : Env) (y_36 : Bool) (y_37 : Int), I32 n33 h34 y_36 y_37 →
          cond (decide (y_37 < (16 : Int)))
          (PureTo Tryd.prog (Instr.index 118 (.agg #[.string s16, .string s17, .string s18, .string s19, .string s20, .string s21, .string s22, .string s23, .string s24, .string s25, .string s26, .string s27, .string s28, .string s29, .string s30, .string s31]) (.int .i64 y_37)) fun v39 =>
            ∃ s40 : ByteArray, v39 = .string s40 ∧
            cond (strEq a0s s40)
            (R (.bool false) h34)
            (∃ m38, m38 < n33 ∧ I32 m38 h34 y_36 (IntKind.i64.wrap (y_37 + 1))))
          (R (.bool true) h34)))))
theorem vf72 (a0s : ByteArray) (h : Heap) (R : KV) (hF : F72 a0s h R) : CallsH Tryd.prog 72 #[.string a0s] h R :=
  calls_of_vc (A := an72) (fn := Tryd.f72) (c := c72) (args := [.string a0s]) Tryd.func72 (by kernel_rfl) mixed (by kernel_rfl) (Eq.mp (by kernel_rfl : F72 a0s h R = vcF Tryd.prog an72 Tryd.f72 c72 [.string a0s] h R) hF)
/-! ### 73 refrain/value.Valid -/
noncomputable def c73 : Code := match Tryd.f73.body with | some c => c | none => .skip
noncomputable def an73 : Ann := { loops := fun i => [], draws := fun i => match i with | 3 => #[0, 0, 2, 6, 15, 31] | 5 => #[0, 0, 2, 6, 15, 31, 63, 127, 255, 511, 1023, 2047] | 7 => #[0, 0, 2, 6, 15, 31] | _ => #[], joins := fun i => none }
def F73 (a0v_0 : Int) (a0v_1 : Int) (a0v_2 : ByteArray) (a0v_3 : Bool) (h : Heap) (R : KV) : Prop :=
  VNew h (.cells #[.int .i64 a0v_0, .int .i64 a0v_1, .string a0v_2, .bool a0v_3] 83) fun b1 h2 =>
  ∃ x3 : Int, cellH h2 ⟨b1, 0, none⟩ = some (.int .i64 x3) ∧
  cond (x3 == (1 : Int))
  (∃ x4 : Int, cellH h2 ⟨b1, 0, none⟩ = some (.int .i64 x4) ∧
    ∃ x5 : Int, cellH h2 ⟨b1, 1, none⟩ = some (.int .i64 x5) ∧
    ∃ s6 : ByteArray, cellH h2 ⟨b1, 2, none⟩ = some (.string s6) ∧
    ∃ b7 : Bool, cellH h2 ⟨b1, 3, none⟩ = some (.bool b7) ∧
    ∃ x8 : Int, cellH h2 ⟨b1, 1, none⟩ = some (.int .i64 x8) ∧
    CallsH Tryd.prog 85 #[.int .i64 x8] h2 fun v9 h10 =>
    ∃ x11 : Int, ∃ x12 : Int, ∃ s13 : ByteArray, ∃ b14 : Bool, v9 = .agg #[.int .i64 x11, .int .i64 x12, .string s13, .bool b14] ∧
    (cellH h10 ⟨b1, 0, none⟩ = some (.int .i64 x4) ∧ cellH h10 ⟨b1, 1, none⟩ = some (.int .i64 x5) ∧ cellH h10 ⟨b1, 2, none⟩ = some (.string s6) ∧ cellH h10 ⟨b1, 3, none⟩ = some (.bool b7)) ∧
    PureTo Tryd.prog (do eqGuard .eql 83 (.tmp 7) (.tmp 10) (.agg #[.int .i64 x4, .int .i64 x5, .string s6, .bool b7]) (.agg #[.int .i64 x11, .int .i64 x12, .string s13, .bool b14]); binOp .eql 83 (.agg #[.int .i64 x4, .int .i64 x5, .string s6, .bool b7]) (.agg #[.int .i64 x11, .int .i64 x12, .string s13, .bool b14])) fun v15 =>
    ∃ b16 : Bool, v15 = .bool b16 ∧
    R (.bool b16) h10)
  (cond (x3 == (2 : Int))
    (∃ x17 : Int, cellH h2 ⟨b1, 0, none⟩ = some (.int .i64 x17) ∧
      ∃ x18 : Int, cellH h2 ⟨b1, 1, none⟩ = some (.int .i64 x18) ∧
      ∃ s19 : ByteArray, cellH h2 ⟨b1, 2, none⟩ = some (.string s19) ∧
      ∃ b20 : Bool, cellH h2 ⟨b1, 3, none⟩ = some (.bool b20) ∧
      ∃ s21 : ByteArray, cellH h2 ⟨b1, 2, none⟩ = some (.string s21) ∧
      CallsH Tryd.prog 86 #[.string s21] h2 fun v22 h23 =>
      ∃ x24 : Int, ∃ x25 : Int, ∃ s26 : ByteArray, ∃ b27 : Bool, v22 = .agg #[.int .i64 x24, .int .i64 x25, .string s26, .bool b27] ∧
      (cellH h23 ⟨b1, 0, none⟩ = some (.int .i64 x17) ∧ cellH h23 ⟨b1, 1, none⟩ = some (.int .i64 x18) ∧ cellH h23 ⟨b1, 2, none⟩ = some (.string s19) ∧ cellH h23 ⟨b1, 3, none⟩ = some (.bool b20)) ∧
      PureTo Tryd.prog (do eqGuard .eql 83 (.tmp 14) (.tmp 17) (.agg #[.int .i64 x17, .int .i64 x18, .string s19, .bool b20]) (.agg #[.int .i64 x24, .int .i64 x25, .string s26, .bool b27]); binOp .eql 83 (.agg #[.int .i64 x17, .int .i64 x18, .string s19, .bool b20]) (.agg #[.int .i64 x24, .int .i64 x25, .string s26, .bool b27])) fun v28 =>
      ∃ b29 : Bool, v28 = .bool b29 ∧
      cond b29 (∃ s30 : ByteArray, cellH h23 ⟨b1, 2, none⟩ = some (.string s30) ∧
        R (.bool (decide ((s30.size : Int) ≤ (256 : Int)))) h23) (R (.bool false) h23))
    (cond (x3 == (3 : Int))
      (∃ x31 : Int, cellH h2 ⟨b1, 0, none⟩ = some (.int .i64 x31) ∧
        ∃ x32 : Int, cellH h2 ⟨b1, 1, none⟩ = some (.int .i64 x32) ∧
        ∃ s33 : ByteArray, cellH h2 ⟨b1, 2, none⟩ = some (.string s33) ∧
        ∃ b34 : Bool, cellH h2 ⟨b1, 3, none⟩ = some (.bool b34) ∧
        ∃ b35 : Bool, cellH h2 ⟨b1, 3, none⟩ = some (.bool b35) ∧
        CallsH Tryd.prog 87 #[.bool b35] h2 fun v36 h37 =>
        ∃ x38 : Int, ∃ x39 : Int, ∃ s40 : ByteArray, ∃ b41 : Bool, v36 = .agg #[.int .i64 x38, .int .i64 x39, .string s40, .bool b41] ∧
        (cellH h37 ⟨b1, 0, none⟩ = some (.int .i64 x31) ∧ cellH h37 ⟨b1, 1, none⟩ = some (.int .i64 x32) ∧ cellH h37 ⟨b1, 2, none⟩ = some (.string s33) ∧ cellH h37 ⟨b1, 3, none⟩ = some (.bool b34)) ∧
        PureTo Tryd.prog (do eqGuard .eql 83 (.tmp 27) (.tmp 30) (.agg #[.int .i64 x31, .int .i64 x32, .string s33, .bool b34]) (.agg #[.int .i64 x38, .int .i64 x39, .string s40, .bool b41]); binOp .eql 83 (.agg #[.int .i64 x31, .int .i64 x32, .string s33, .bool b34]) (.agg #[.int .i64 x38, .int .i64 x39, .string s40, .bool b41])) fun v42 =>
        ∃ b43 : Bool, v42 = .bool b43 ∧
        R (.bool b43) h37)
      (R (.bool false) h2)))
theorem vf73 (a0v_0 : Int) (a0v_1 : Int) (a0v_2 : ByteArray) (a0v_3 : Bool) (h : Heap) (R : KV) (hF : F73 a0v_0 a0v_1 a0v_2 a0v_3 h R) : CallsH Tryd.prog 73 #[.agg #[.int .i64 a0v_0, .int .i64 a0v_1, .string a0v_2, .bool a0v_3]] h R :=
  calls_of_vc (A := an73) (fn := Tryd.f73) (c := c73) (args := [.agg #[.int .i64 a0v_0, .int .i64 a0v_1, .string a0v_2, .bool a0v_3]]) Tryd.func73 (by kernel_rfl) mixed (by kernel_rfl) (Eq.mp (by kernel_rfl : F73 a0v_0 a0v_1 a0v_2 a0v_3 h R = vcF Tryd.prog an73 Tryd.f73 c73 [.agg #[.int .i64 a0v_0, .int .i64 a0v_1, .string a0v_2, .bool a0v_3]] h R) hF)
/-! ### 74 refrain/wire.putStr -/
noncomputable def c74 : Code := match Tryd.f74.body with | some c => c | none => .skip
noncomputable def an74 : Ann := { loops := fun i => [], draws := fun i => #[], joins := fun i => none }
def F74 (a0b : Option Addr) (la0b ca0b : Nat) (a1s : ByteArray) (h : Heap) (R : KV) : Prop :=
  CallsH Tryd.prog 56 #[.slice a0b la0b ca0b, .int .i64 (a1s.size : Int)] h fun v1 h2 =>
  ∃ (a3 : Option Addr) (la3 ca3 : Nat), v1 = .slice a3 la3 ca3 ∧
  RunsTo Tryd.prog (Builtin.append_ #[30, 9] 30 #[.slice a3 la3 ca3, .string a1s]) h2 fun v4 h5 =>
  ∃ (a6 : Option Addr) (la6 ca6 : Nat), v4 = .slice a6 la6 ca6 ∧
  R (.slice a6 la6 ca6) h5
theorem vf74 (a0b : Option Addr) (la0b ca0b : Nat) (a1s : ByteArray) (h : Heap) (R : KV) (hF : F74 a0b la0b ca0b a1s h R) : CallsH Tryd.prog 74 #[.slice a0b la0b ca0b, .string a1s] h R :=
  calls_of_vc (A := an74) (fn := Tryd.f74) (c := c74) (args := [.slice a0b la0b ca0b, .string a1s]) Tryd.func74 (by kernel_rfl) mixed (by kernel_rfl) (Eq.mp (by kernel_rfl : F74 a0b la0b ca0b a1s h R = vcF Tryd.prog an74 Tryd.f74 c74 [.slice a0b la0b ca0b, .string a1s] h R) hF)
/-! ### 75 refrain/wire.putVal -/
noncomputable def c75 : Code := match Tryd.f75.body with | some c => c | none => .skip
noncomputable def an75 : Ann := { loops := fun i => [], draws := fun i => #[], joins := fun i => none }
def F75 (a0b : Option Addr) (la0b ca0b : Nat) (a1v_0 : Int) (a1v_1 : Int) (a1v_2 : ByteArray) (a1v_3 : Bool) (h : Heap) (R : KV) : Prop :=
  VNew h (.cells #[.int .i64 a1v_0, .int .i64 a1v_1, .string a1v_2, .bool a1v_3] 83) fun b1 h2 =>
  ∃ x3 : Int, cellH h2 ⟨b1, 0, none⟩ = some (.int .i64 x3) ∧
  VNew h2 (.cells #[.int .u8 (IntKind.u8.wrap x3)] 5) fun b4 h5 =>
  RunsTo Tryd.prog (Builtin.append_ #[30, 30] 30 #[.slice a0b la0b ca0b, .slice (some ⟨b4, 0, none⟩) 1 1]) h5 fun v6 h7 =>
  ∃ (a8 : Option Addr) (la8 ca8 : Nat), v6 = .slice a8 la8 ca8 ∧
  ∃ x9 : Int, cellH h7 ⟨b1, 0, none⟩ = some (.int .i64 x9) ∧
  cond (x9 == (1 : Int))
  (∃ x10 : Int, cellH h7 ⟨b1, 1, none⟩ = some (.int .i64 x10) ∧
    CallsH Tryd.prog 56 #[.slice a8 la8 ca8, .int .i64 x10] h7 fun v11 h12 =>
    ∃ (a13 : Option Addr) (la13 ca13 : Nat), v11 = .slice a13 la13 ca13 ∧
    R (.slice a13 la13 ca13) h12)
  (cond (x9 == (2 : Int))
    (∃ s14 : ByteArray, cellH h7 ⟨b1, 2, none⟩ = some (.string s14) ∧
      CallsH Tryd.prog 74 #[.slice a8 la8 ca8, .string s14] h7 fun v15 h16 =>
      ∃ (a17 : Option Addr) (la17 ca17 : Nat), v15 = .slice a17 la17 ca17 ∧
      R (.slice a17 la17 ca17) h16)
    (∃ x18 : Int, cellH h7 ⟨b1, 0, none⟩ = some (.int .i64 x18) ∧
      ∃ x19 : Int, cellH h7 ⟨b1, 1, none⟩ = some (.int .i64 x19) ∧
      ∃ s20 : ByteArray, cellH h7 ⟨b1, 2, none⟩ = some (.string s20) ∧
      ∃ b21 : Bool, cellH h7 ⟨b1, 3, none⟩ = some (.bool b21) ∧
      PureTo Tryd.prog (do eqGuard .eql 83 (.tmp 25) (.tmp 26) (.agg #[.int .i64 x18, .int .i64 x19, .string s20, .bool b21]) (.agg #[.int .i64 3, .int .i64 0, .string (ByteArray.mk #[]), .bool false]); binOp .eql 83 (.agg #[.int .i64 x18, .int .i64 x19, .string s20, .bool b21]) (.agg #[.int .i64 3, .int .i64 0, .string (ByteArray.mk #[]), .bool false])) fun v22 =>
      ∃ b23 : Bool, v22 = .bool b23 ∧
      cond b23
      (VNew h7 (.cells #[.int .u8 0] 5) fun b24 h25 =>
        RunsTo Tryd.prog (Builtin.append_ #[30, 30] 30 #[.slice a8 la8 ca8, .slice (some ⟨b24, 0, none⟩) 1 1]) h25 fun v26 h27 =>
        ∃ (a28 : Option Addr) (la28 ca28 : Nat), v26 = .slice a28 la28 ca28 ∧
        R (.slice a28 la28 ca28) h27)
      (VNew h7 (.cells #[.int .u8 1] 5) fun b29 h30 =>
        RunsTo Tryd.prog (Builtin.append_ #[30, 30] 30 #[.slice a8 la8 ca8, .slice (some ⟨b29, 0, none⟩) 1 1]) h30 fun v31 h32 =>
        ∃ (a33 : Option Addr) (la33 ca33 : Nat), v31 = .slice a33 la33 ca33 ∧
        R (.slice a33 la33 ca33) h32)))
theorem vf75 (a0b : Option Addr) (la0b ca0b : Nat) (a1v_0 : Int) (a1v_1 : Int) (a1v_2 : ByteArray) (a1v_3 : Bool) (h : Heap) (R : KV) (hF : F75 a0b la0b ca0b a1v_0 a1v_1 a1v_2 a1v_3 h R) : CallsH Tryd.prog 75 #[.slice a0b la0b ca0b, .agg #[.int .i64 a1v_0, .int .i64 a1v_1, .string a1v_2, .bool a1v_3]] h R :=
  calls_of_vc (A := an75) (fn := Tryd.f75) (c := c75) (args := [.slice a0b la0b ca0b, .agg #[.int .i64 a1v_0, .int .i64 a1v_1, .string a1v_2, .bool a1v_3]]) Tryd.func75 (by kernel_rfl) mixed (by kernel_rfl) (Eq.mp (by kernel_rfl : F75 a0b la0b ca0b a1v_0 a1v_1 a1v_2 a1v_3 h R = vcF Tryd.prog an75 Tryd.f75 c75 [.slice a0b la0b ca0b, .agg #[.int .i64 a1v_0, .int .i64 a1v_1, .string a1v_2, .bool a1v_3]] h R) hF)
/-! ### 76 refrain/refrainref2.digit -/
noncomputable def c76 : Code := match Tryd.f76.body with | some c => c | none => .skip
noncomputable def an76 : Ann := { loops := fun i => [], draws := fun i => #[], joins := fun i => none }
def F76 (a0c : Int) (h : Heap) (R : KV) : Prop :=
  cond (decide (a0c ≥ (48 : Int))) (R (.bool (decide (a0c ≤ (57 : Int)))) h) (R (.bool false) h)
theorem vf76 (a0c : Int) (h : Heap) (R : KV) (hF : F76 a0c h R) : CallsH Tryd.prog 76 #[.int .u8 a0c] h R :=
  calls_of_vc (A := an76) (fn := Tryd.f76) (c := c76) (args := [.int .u8 a0c]) Tryd.func76 (by kernel_rfl) mixed (by kernel_rfl) (Eq.mp (by kernel_rfl : F76 a0c h R = vcF Tryd.prog an76 Tryd.f76 c76 [.int .u8 a0c] h R) hF)
/-! ### 77 refrain/refrainref2.Word -/
noncomputable def c77 : Code := match Tryd.f77.body with | some c => c | none => .skip
noncomputable def an77 : Ann := { loops := fun i => match i with | 3 => [(2, .bool), (4, .int .i64)] | _ => [], draws := fun i => #[], joins := fun i => none }
def F77 (a0s : ByteArray) (h : Heap) (R : KV) : Prop :=
  VNew h (.cells #[.string (ByteArray.mk #[80, 65, 84, 84, 69, 82, 78]), .string (ByteArray.mk #[83, 69, 81]), .string (ByteArray.mk #[80, 65, 82, 84, 73, 84, 73, 79, 78]), .string (ByteArray.mk #[66, 89]), .string (ByteArray.mk #[87, 72, 69, 82, 69]), .string (ByteArray.mk #[87, 73, 84, 72, 73, 78]), .string (ByteArray.mk #[82, 69, 84, 85, 82, 78]), .string (ByteArray.mk #[65, 78, 68]), .string (ByteArray.mk #[79, 82]), .string (ByteArray.mk #[78, 79, 84]), .string (ByteArray.mk #[84, 82, 85, 69]), .string (ByteArray.mk #[70, 65, 76, 83, 69]), .string (ByteArray.mk #[84, 89, 80, 69]), .string (ByteArray.mk #[73, 78, 84]), .string (ByteArray.mk #[83, 84, 82]), .string (ByteArray.mk #[66, 79, 79, 76])] 9) fun b1 h2 =>
  ∃ I3 : Nat → Heap → Bool → Int → Prop, (∃ n4, I3 n4 h2 false 0) ∧
  ∀ (n4 : Nat) (h5 : Heap) (g6 : Env) (y_7 : Bool) (i_8 : Int), I3 n4 h5 y_7 i_8 →
  cond (decide (i_8 < (16 : Int)))
  (VIdx (some ⟨b1, 0, none⟩) 16 i_8 1 fun a10 =>
    ∃ s11 : ByteArray, cellH h5 a10 = some (.string s11) ∧
    cond (strEq s11 a0s)
    (R (.bool true) h5)
    (∃ m9, m9 < n4 ∧ I3 m9 h5 y_7 (IntKind.i64.wrap (i_8 + 1))))
  (R (.bool false) h5)
theorem vf77 (a0s : ByteArray) (h : Heap) (R : KV) (hF : F77 a0s h R) : CallsH Tryd.prog 77 #[.string a0s] h R :=
  calls_of_vc (A := an77) (fn := Tryd.f77) (c := c77) (args := [.string a0s]) Tryd.func77 (by kernel_rfl) mixed (by kernel_rfl) (Eq.mp (by kernel_rfl : F77 a0s h R = vcF Tryd.prog an77 Tryd.f77 c77 [.string a0s] h R) hF)
/-! ### 78 refrain/refrainref2.inWord -/
noncomputable def c78 : Code := match Tryd.f78.body with | some c => c | none => .skip
noncomputable def an78 : Ann := { loops := fun i => [], draws := fun i => #[], joins := fun i => none }
def F78 (a0c : Int) (h : Heap) (R : KV) : Prop :=
  cond (decide (a0c ≥ (97 : Int))) (cond (decide (a0c ≤ (122 : Int))) (R (.bool true) h) (cond (decide (a0c ≥ (65 : Int))) (cond (decide (a0c ≤ (90 : Int))) (R (.bool true) h) (cond (a0c == (95 : Int)) (R (.bool true) h) (CallsH Tryd.prog 76 #[.int .u8 a0c] h fun v1 h2 =>
            ∃ b3 : Bool, v1 = .bool b3 ∧
            R (.bool b3) h2))) (cond (a0c == (95 : Int)) (R (.bool true) h) (CallsH Tryd.prog 76 #[.int .u8 a0c] h fun v4 h5 =>
          ∃ b6 : Bool, v4 = .bool b6 ∧
          R (.bool b6) h5)))) (cond (decide (a0c ≥ (65 : Int))) (cond (decide (a0c ≤ (90 : Int))) (R (.bool true) h) (cond (a0c == (95 : Int)) (R (.bool true) h) (CallsH Tryd.prog 76 #[.int .u8 a0c] h fun v7 h8 =>
          ∃ b9 : Bool, v7 = .bool b9 ∧
          R (.bool b9) h8))) (cond (a0c == (95 : Int)) (R (.bool true) h) (CallsH Tryd.prog 76 #[.int .u8 a0c] h fun v10 h11 =>
        ∃ b12 : Bool, v10 = .bool b12 ∧
        R (.bool b12) h11)))
theorem vf78 (a0c : Int) (h : Heap) (R : KV) (hF : F78 a0c h R) : CallsH Tryd.prog 78 #[.int .u8 a0c] h R :=
  calls_of_vc (A := an78) (fn := Tryd.f78) (c := c78) (args := [.int .u8 a0c]) Tryd.func78 (by kernel_rfl) mixed (by kernel_rfl) (Eq.mp (by kernel_rfl : F78 a0c h R = vcF Tryd.prog an78 Tryd.f78 c78 [.int .u8 a0c] h R) hF)
/-! ### 79 (refrain/wire.reader).bytes -/
noncomputable def c79 : Code := match Tryd.f79.body with | some c => c | none => .skip
noncomputable def an79 : Ann := { loops := fun i => [], draws := fun i => match i with | 1 => #[0, 1, 3, 7, 15, 31, 63, 63, 191, 447, 959, 1983, 63, 4159, 12351, 28735, 65471, 131071, 262143] | 6 => #[0, 1, 3, 7, 0, 16, 48, 112, 0, 496, 0, 1024, 3072, 7168, 16383, 32767, 65535] | _ => #[], joins := fun i => match i with | 3 => some [] | _ => none }
def F79 (a0r : Option Addr) (a1n : Int) (h : Heap) (R : KV) : Prop :=
  ∃ J1 : Heap → Prop, (VSome a0r fun a2 =>
    ∃ x3 : Int, cellH h ⟨a2.block, a2.off + 2, none⟩ = some (.int .i64 x3) ∧
    cond (x3 == (0 : Int)) (VSome a0r fun a4 =>
      ∃ (a5 : Option Addr) (la5 ca5 : Nat), cellH h a4 = some (.slice a5 la5 ca5) ∧
      VSome a0r fun a6 =>
      ∃ x7 : Int, cellH h ⟨a6.block, a6.off + 1, none⟩ = some (.int .i64 x7) ∧
      cond (decide (a1n > (IntKind.i64.wrap ((la5 : Int) - x7))))
      (CallsH Tryd.prog 61 #[.pointer a0r, .int .i64 30] h fun v8 h9 =>
        v8 = .tuple #[] ∧
        J1 h9)
      (J1 h)) (J1 h)) ∧
  ∀ (h10 : Heap) (g11 : Env), J1 h10 →
  VSome a0r fun a12 =>
  ∃ x13 : Int, cellH h10 ⟨a12.block, a12.off + 2, none⟩ = some (.int .i64 x13) ∧
  cond (x13 != (0 : Int))
  (R (.string (ByteArray.mk #[])) h10)
  (VSome a0r fun a14 =>
    ∃ x15 : Int, cellH h10 ⟨a14.block, a14.off + 1, none⟩ = some (.int .i64 x15) ∧
    VSome a0r fun a16 =>
    VStore h10 ⟨a16.block, a16.off + 1, none⟩ (.int .i64 (IntKind.i64.wrap (x15 + a1n))) fun h17 =>
    VSome a0r fun a18 =>
    ∃ (a19 : Option Addr) (la19 ca19 : Nat), cellH h17 a18 = some (.slice a19 la19 ca19) ∧
    VSome a0r fun a20 =>
    ∃ x21 : Int, cellH h17 ⟨a20.block, a20.off + 1, none⟩ = some (.int .i64 x21) ∧
    VSome a0r fun a22 =>
    ∃ x23 : Int, cellH h17 ⟨a22.block, a22.off + 1, none⟩ = some (.int .i64 x23) ∧
    VSlice 1 a19 ca19 (IntKind.i64.wrap (x21 - a1n)) x23 (ca19 : Int) fun a24 la24 ca24 =>
    RunsTo Tryd.prog (convert 30 9 (.slice a24 la24 ca24)) h17 fun v25 h26 =>
    ∃ s27 : ByteArray, v25 = .string s27 ∧
    R (.string s27) h26)
theorem vf79 (a0r : Option Addr) (a1n : Int) (h : Heap) (R : KV) (hF : F79 a0r a1n h R) : CallsH Tryd.prog 79 #[.pointer a0r, .int .i64 a1n] h R :=
  calls_of_vc (A := an79) (fn := Tryd.f79) (c := c79) (args := [.pointer a0r, .int .i64 a1n]) Tryd.func79 (by kernel_rfl) mixed (by kernel_rfl) (Eq.mp (by kernel_rfl : F79 a0r a1n h R = vcF Tryd.prog an79 Tryd.f79 c79 [.pointer a0r, .int .i64 a1n] h R) hF)
/-! ### 80 (refrain/wire.reader).value -/
noncomputable def c80 : Code := match Tryd.f80.body with | some c => c | none => .skip
noncomputable def an80 : Ann := { loops := fun i => [], draws := fun i => #[], joins := fun i => match i with | 10 => some [] | _ => none }
def F80 (a0r : Option Addr) (h : Heap) (R : KV) : Prop :=
  VNew h (.cells #[.int .i64 0, .int .i64 0, .string (ByteArray.mk #[]), .bool false] 83) fun b1 h2 =>
  CallsH Tryd.prog 88 #[.pointer a0r, .int .u8 1, .int .u8 3] h2 fun v3 h4 =>
  ∃ x5 : Int, v3 = .int .u8 x5 ∧
  VNew h4 (.cells #[.int .i64 0, .int .i64 0, .string (ByteArray.mk #[]), .bool false] 83) fun b6 h7 =>
  storeL ⟨b6, 0, none⟩ 0 [.int .i64 (IntKind.i64.wrap x5), .int .i64 0, .string (ByteArray.mk #[]), .bool false] h7 fun h8 =>
  VSome a0r fun a9 =>
  ∃ x10 : Int, cellH h8 ⟨a9.block, a9.off + 2, none⟩ = some (.int .i64 x10) ∧
  cond (x10 != (0 : Int))
  (storeL ⟨b1, 0, none⟩ 0 [.int .i64 0, .int .i64 0, .string (ByteArray.mk #[]), .bool false] h8 fun h11 =>
    ∃ x12 : Int, cellH h11 ⟨b1, 0, none⟩ = some (.int .i64 x12) ∧
    ∃ x13 : Int, cellH h11 ⟨b1, 1, none⟩ = some (.int .i64 x13) ∧
    ∃ s14 : ByteArray, cellH h11 ⟨b1, 2, none⟩ = some (.string s14) ∧
    ∃ b15 : Bool, cellH h11 ⟨b1, 3, none⟩ = some (.bool b15) ∧
    R (.agg #[.int .i64 x12, .int .i64 x13, .string s14, .bool b15]) h11)
  (∃ J16 : Heap → Prop, (∃ x17 : Int, cellH h8 ⟨b6, 0, none⟩ = some (.int .i64 x17) ∧
      cond (x17 == (1 : Int))
      (CallsH Tryd.prog 60 #[.pointer a0r, .int .i64 (-9223372036854775808 : Int), .int .i64 9223372036854775807] h8 fun v18 h19 =>
        ∃ x20 : Int, v18 = .int .i64 x20 ∧
        VStore h19 ⟨b6, 1, none⟩ (.int .i64 x20) fun h21 =>
        J16 h21)
      (cond (x17 == (2 : Int))
        (CallsH Tryd.prog 60 #[.pointer a0r, .int .i64 0, .int .i64 256] h8 fun v22 h23 =>
          ∃ x24 : Int, v22 = .int .i64 x24 ∧
          CallsH Tryd.prog 79 #[.pointer a0r, .int .i64 x24] h23 fun v25 h26 =>
          ∃ s27 : ByteArray, v25 = .string s27 ∧
          VStore h26 ⟨b6, 2, none⟩ (.string s27) fun h28 =>
          J16 h28)
        (CallsH Tryd.prog 88 #[.pointer a0r, .int .u8 0, .int .u8 1] h8 fun v29 h30 =>
          ∃ x31 : Int, v29 = .int .u8 x31 ∧
          VStore h30 ⟨b6, 3, none⟩ (.bool (x31 == (1 : Int))) fun h32 =>
          J16 h32))) ∧
    ∀ (h33 : Heap) (g34 : Env), J16 h33 →
    ∃ x35 : Int, cellH h33 ⟨b6, 0, none⟩ = some (.int .i64 x35) ∧
    ∃ x36 : Int, cellH h33 ⟨b6, 1, none⟩ = some (.int .i64 x36) ∧
    ∃ s37 : ByteArray, cellH h33 ⟨b6, 2, none⟩ = some (.string s37) ∧
    ∃ b38 : Bool, cellH h33 ⟨b6, 3, none⟩ = some (.bool b38) ∧
    storeL ⟨b1, 0, none⟩ 0 [.int .i64 x35, .int .i64 x36, .string s37, .bool b38] h33 fun h39 =>
    ∃ x40 : Int, cellH h39 ⟨b1, 0, none⟩ = some (.int .i64 x40) ∧
    ∃ x41 : Int, cellH h39 ⟨b1, 1, none⟩ = some (.int .i64 x41) ∧
    ∃ s42 : ByteArray, cellH h39 ⟨b1, 2, none⟩ = some (.string s42) ∧
    ∃ b43 : Bool, cellH h39 ⟨b1, 3, none⟩ = some (.bool b43) ∧
    R (.agg #[.int .i64 x40, .int .i64 x41, .string s42, .bool b43]) h39)
theorem vf80 (a0r : Option Addr) (h : Heap) (R : KV) (hF : F80 a0r h R) : CallsH Tryd.prog 80 #[.pointer a0r] h R :=
  calls_of_vc (A := an80) (fn := Tryd.f80) (c := c80) (args := [.pointer a0r]) Tryd.func80 (by kernel_rfl) mixed (by kernel_rfl) (Eq.mp (by kernel_rfl : F80 a0r h R = vcF Tryd.prog an80 Tryd.f80 c80 [.pointer a0r] h R) hF)
/-! ### 81 (refrain/refrainref3.Reader).one -/
noncomputable def c81 : Code := match Tryd.f81.body with | some c => c | none => .skip
noncomputable def an81 : Ann := { loops := fun i => [], draws := fun i => match i with | 3 => #[0, 1, 3, 7, 0, 16, 48, 112, 240, 511] | 7 => #[0, 1, 3, 7, 0, 16, 48, 112, 240, 511, 1023, 2047] | _ => #[], joins := fun i => none }
def F81 (a0r : Option Addr) (h : Heap) (R : KV) : Prop :=
  VSome a0r fun a1 =>
  ∃ x2 : Int, cellH h ⟨a1.block, a1.off + 2, none⟩ = some (.int .i64 x2) ∧
  cond (x2 != (0 : Int))
  (R (.int .u8 0) h)
  (VSome a0r fun a3 =>
    ∃ x4 : Int, cellH h ⟨a3.block, a3.off + 1, none⟩ = some (.int .i64 x4) ∧
    VSome a0r fun a5 =>
    ∃ (a6 : Option Addr) (la6 ca6 : Nat), cellH h a5 = some (.slice a6 la6 ca6) ∧
    cond (x4 == (la6 : Int))
    (CallsH Tryd.prog 53 #[.pointer a0r, .int .i64 30] h fun v7 h8 =>
      v7 = .tuple #[] ∧
      R (.int .u8 0) h8)
    (VSome a0r fun a9 =>
      ∃ x10 : Int, cellH h ⟨a9.block, a9.off + 1, none⟩ = some (.int .i64 x10) ∧
      VSome a0r fun a11 =>
      VStore h ⟨a11.block, a11.off + 1, none⟩ (.int .i64 (IntKind.i64.wrap (x10 + 1))) fun h12 =>
      VSome a0r fun a13 =>
      ∃ (a14 : Option Addr) (la14 ca14 : Nat), cellH h12 a13 = some (.slice a14 la14 ca14) ∧
      VSome a0r fun a15 =>
      ∃ x16 : Int, cellH h12 ⟨a15.block, a15.off + 1, none⟩ = some (.int .i64 x16) ∧
      VIdx a14 la14 (IntKind.i64.wrap (x16 - 1)) 1 fun a17 =>
      ∃ x18 : Int, cellH h12 a17 = some (.int .u8 x18) ∧
      R (.int .u8 x18) h12))
theorem vf81 (a0r : Option Addr) (h : Heap) (R : KV) (hF : F81 a0r h R) : CallsH Tryd.prog 81 #[.pointer a0r] h R :=
  calls_of_vc (A := an81) (fn := Tryd.f81) (c := c81) (args := [.pointer a0r]) Tryd.func81 (by kernel_rfl) mixed (by kernel_rfl) (Eq.mp (by kernel_rfl : F81 a0r h R = vcF Tryd.prog an81 Tryd.f81 c81 [.pointer a0r] h R) hF)
/-! ### 82 refrain/refrainlaw3.far -/
noncomputable def c82 : Code := match Tryd.f82.body with | some c => c | none => .skip
noncomputable def an82 : Ann := { loops := fun i => [], draws := fun i => #[], joins := fun i => none }
def F82 (a0room : Int) (h : Heap) (R : KV) : Prop :=
  R (.int .i64 (minI a0room 70000)) h
theorem vf82 (a0room : Int) (h : Heap) (R : KV) (hF : F82 a0room h R) : CallsH Tryd.prog 82 #[.int .i64 a0room] h R :=
  calls_of_vc (A := an82) (fn := Tryd.f82) (c := c82) (args := [.int .i64 a0room]) Tryd.func82 (by kernel_rfl) mixed (by kernel_rfl) (Eq.mp (by kernel_rfl : F82 a0room h R = vcF Tryd.prog an82 Tryd.f82 c82 [.int .i64 a0room] h R) hF)
/-! ### 83 refrain/schema.letter -/
noncomputable def c83 : Code := match Tryd.f83.body with | some c => c | none => .skip
noncomputable def an83 : Ann := { loops := fun i => [], draws := fun i => #[], joins := fun i => none }
def F83 (a0c : Int) (h : Heap) (R : KV) : Prop :=
  cond (decide (a0c ≥ (97 : Int))) (cond (decide (a0c ≤ (122 : Int))) (R (.bool true) h) (cond (decide (a0c ≥ (65 : Int))) (cond (decide (a0c ≤ (90 : Int))) (R (.bool true) h) (R (.bool (a0c == (95 : Int))) h)) (R (.bool (a0c == (95 : Int))) h))) (cond (decide (a0c ≥ (65 : Int))) (cond (decide (a0c ≤ (90 : Int))) (R (.bool true) h) (R (.bool (a0c == (95 : Int))) h)) (R (.bool (a0c == (95 : Int))) h))
theorem vf83 (a0c : Int) (h : Heap) (R : KV) (hF : F83 a0c h R) : CallsH Tryd.prog 83 #[.int .u8 a0c] h R :=
  calls_of_vc (A := an83) (fn := Tryd.f83) (c := c83) (args := [.int .u8 a0c]) Tryd.func83 (by kernel_rfl) mixed (by kernel_rfl) (Eq.mp (by kernel_rfl : F83 a0c h R = vcF Tryd.prog an83 Tryd.f83 c83 [.int .u8 a0c] h R) hF)
/-! ### 84 refrain/schema.part -/
noncomputable def c84 : Code := match Tryd.f84.body with | some c => c | none => .skip
noncomputable def an84 : Ann := { loops := fun i => [], draws := fun i => #[], joins := fun i => none }
def F84 (a0c : Int) (h : Heap) (R : KV) : Prop :=
  CallsH Tryd.prog 83 #[.int .u8 a0c] h fun v1 h2 =>
  ∃ b3 : Bool, v1 = .bool b3 ∧
  cond b3 (R (.bool true) h2) (cond (decide (a0c ≥ (48 : Int))) (R (.bool (decide (a0c ≤ (57 : Int)))) h2) (R (.bool false) h2))
theorem vf84 (a0c : Int) (h : Heap) (R : KV) (hF : F84 a0c h R) : CallsH Tryd.prog 84 #[.int .u8 a0c] h R :=
  calls_of_vc (A := an84) (fn := Tryd.f84) (c := c84) (args := [.int .u8 a0c]) Tryd.func84 (by kernel_rfl) mixed (by kernel_rfl) (Eq.mp (by kernel_rfl : F84 a0c h R = vcF Tryd.prog an84 Tryd.f84 c84 [.int .u8 a0c] h R) hF)
/-! ### 85 refrain/value.number -/
noncomputable def c85 : Code := match Tryd.f85.body with | some c => c | none => .skip
noncomputable def an85 : Ann := { loops := fun i => [], draws := fun i => #[], joins := fun i => none }
def F85 (a0n : Int) (h : Heap) (R : KV) : Prop :=
  VNew h (.cells #[.int .i64 0, .int .i64 0, .string (ByteArray.mk #[]), .bool false] 83) fun b1 h2 =>
  storeL ⟨b1, 0, none⟩ 0 [.int .i64 1, .int .i64 a0n, .string (ByteArray.mk #[]), .bool false] h2 fun h3 =>
  ∃ x4 : Int, cellH h3 ⟨b1, 0, none⟩ = some (.int .i64 x4) ∧
  ∃ x5 : Int, cellH h3 ⟨b1, 1, none⟩ = some (.int .i64 x5) ∧
  ∃ s6 : ByteArray, cellH h3 ⟨b1, 2, none⟩ = some (.string s6) ∧
  ∃ b7 : Bool, cellH h3 ⟨b1, 3, none⟩ = some (.bool b7) ∧
  R (.agg #[.int .i64 x4, .int .i64 x5, .string s6, .bool b7]) h3
theorem vf85 (a0n : Int) (h : Heap) (R : KV) (hF : F85 a0n h R) : CallsH Tryd.prog 85 #[.int .i64 a0n] h R :=
  calls_of_vc (A := an85) (fn := Tryd.f85) (c := c85) (args := [.int .i64 a0n]) Tryd.func85 (by kernel_rfl) mixed (by kernel_rfl) (Eq.mp (by kernel_rfl : F85 a0n h R = vcF Tryd.prog an85 Tryd.f85 c85 [.int .i64 a0n] h R) hF)
/-! ### 86 refrain/value.text -/
noncomputable def c86 : Code := match Tryd.f86.body with | some c => c | none => .skip
noncomputable def an86 : Ann := { loops := fun i => [], draws := fun i => #[], joins := fun i => none }
def F86 (a0s : ByteArray) (h : Heap) (R : KV) : Prop :=
  VNew h (.cells #[.int .i64 0, .int .i64 0, .string (ByteArray.mk #[]), .bool false] 83) fun b1 h2 =>
  storeL ⟨b1, 0, none⟩ 0 [.int .i64 2, .int .i64 0, .string a0s, .bool false] h2 fun h3 =>
  ∃ x4 : Int, cellH h3 ⟨b1, 0, none⟩ = some (.int .i64 x4) ∧
  ∃ x5 : Int, cellH h3 ⟨b1, 1, none⟩ = some (.int .i64 x5) ∧
  ∃ s6 : ByteArray, cellH h3 ⟨b1, 2, none⟩ = some (.string s6) ∧
  ∃ b7 : Bool, cellH h3 ⟨b1, 3, none⟩ = some (.bool b7) ∧
  R (.agg #[.int .i64 x4, .int .i64 x5, .string s6, .bool b7]) h3
theorem vf86 (a0s : ByteArray) (h : Heap) (R : KV) (hF : F86 a0s h R) : CallsH Tryd.prog 86 #[.string a0s] h R :=
  calls_of_vc (A := an86) (fn := Tryd.f86) (c := c86) (args := [.string a0s]) Tryd.func86 (by kernel_rfl) mixed (by kernel_rfl) (Eq.mp (by kernel_rfl : F86 a0s h R = vcF Tryd.prog an86 Tryd.f86 c86 [.string a0s] h R) hF)
/-! ### 87 refrain/value.truth -/
noncomputable def c87 : Code := match Tryd.f87.body with | some c => c | none => .skip
noncomputable def an87 : Ann := { loops := fun i => [], draws := fun i => #[], joins := fun i => none }
def F87 (a0b : Bool) (h : Heap) (R : KV) : Prop :=
  VNew h (.cells #[.int .i64 0, .int .i64 0, .string (ByteArray.mk #[]), .bool false] 83) fun b1 h2 =>
  storeL ⟨b1, 0, none⟩ 0 [.int .i64 3, .int .i64 0, .string (ByteArray.mk #[]), .bool a0b] h2 fun h3 =>
  ∃ x4 : Int, cellH h3 ⟨b1, 0, none⟩ = some (.int .i64 x4) ∧
  ∃ x5 : Int, cellH h3 ⟨b1, 1, none⟩ = some (.int .i64 x5) ∧
  ∃ s6 : ByteArray, cellH h3 ⟨b1, 2, none⟩ = some (.string s6) ∧
  ∃ b7 : Bool, cellH h3 ⟨b1, 3, none⟩ = some (.bool b7) ∧
  R (.agg #[.int .i64 x4, .int .i64 x5, .string s6, .bool b7]) h3
theorem vf87 (a0b : Bool) (h : Heap) (R : KV) (hF : F87 a0b h R) : CallsH Tryd.prog 87 #[.bool a0b] h R :=
  calls_of_vc (A := an87) (fn := Tryd.f87) (c := c87) (args := [.bool a0b]) Tryd.func87 (by kernel_rfl) mixed (by kernel_rfl) (Eq.mp (by kernel_rfl : F87 a0b h R = vcF Tryd.prog an87 Tryd.f87 c87 [.bool a0b] h R) hF)
/-! ### 88 (refrain/wire.reader).one -/
noncomputable def c88 : Code := match Tryd.f88.body with | some c => c | none => .skip
noncomputable def an88 : Ann := { loops := fun i => [], draws := fun i => #[], joins := fun i => match i with | 6 => some [] | _ => none }
def F88 (a0r : Option Addr) (a1lo : Int) (a2hi : Int) (h : Heap) (R : KV) : Prop :=
  CallsH Tryd.prog 79 #[.pointer a0r, .int .i64 1] h fun v1 h2 =>
  ∃ s3 : ByteArray, v1 = .string s3 ∧
  VSome a0r fun a4 =>
  ∃ x5 : Int, cellH h2 ⟨a4.block, a4.off + 2, none⟩ = some (.int .i64 x5) ∧
  cond (x5 != (0 : Int))
  (R (.int .u8 0) h2)
  (∃ J6 : Heap → Prop, ((0 : Int) ≤ 0 ∧ ∃ u7 : UInt8, s3[Int.toNat 0]? = some u7 ∧
      cond (decide ((u7.toNat : Int) < a1lo)) (CallsH Tryd.prog 61 #[.pointer a0r, .int .i64 31] h2 fun v8 h9 =>
        v8 = .tuple #[] ∧
        J6 h9) ((0 : Int) ≤ 0 ∧ ∃ u10 : UInt8, s3[Int.toNat 0]? = some u10 ∧
        cond (decide ((u10.toNat : Int) > a2hi))
        (CallsH Tryd.prog 61 #[.pointer a0r, .int .i64 31] h2 fun v11 h12 =>
          v11 = .tuple #[] ∧
          J6 h12)
        (J6 h2))) ∧
    ∀ (h13 : Heap) (g14 : Env), J6 h13 →
    (0 : Int) ≤ 0 ∧ ∃ u15 : UInt8, s3[Int.toNat 0]? = some u15 ∧
    R (.int .u8 (u15.toNat : Int)) h13)
theorem vf88 (a0r : Option Addr) (a1lo : Int) (a2hi : Int) (h : Heap) (R : KV) (hF : F88 a0r a1lo a2hi h R) : CallsH Tryd.prog 88 #[.pointer a0r, .int .u8 a1lo, .int .u8 a2hi] h R :=
  calls_of_vc (A := an88) (fn := Tryd.f88) (c := c88) (args := [.pointer a0r, .int .u8 a1lo, .int .u8 a2hi]) Tryd.func88 (by kernel_rfl) mixed (by kernel_rfl) (Eq.mp (by kernel_rfl : F88 a0r a1lo a2hi h R = vcF Tryd.prog an88 Tryd.f88 c88 [.pointer a0r, .int .u8 a1lo, .int .u8 a2hi] h R) hF)
end Go.Proofs.YtofaihacmoacjaaDoor.F
