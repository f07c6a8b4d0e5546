/- Printed by gen.py: the conditions of the translated functions, each a plain formula over heaps; the kernel checks that it is the one that the translation gives. Conditions: none. -/
import Derived.Test.YtgdgebmlcgohhaaGreatDoorV8
import Derived.Test.YtgdgebmlcgohhaaGreatDoorProg
namespace Go.Proofs.YtgdgebmlcgohhaaGreatDoor.F
open Go Go.VC Go.Proofs
set_option linter.unusedVariables false
set_option maxRecDepth 100000

theorem mixed : Tryz.prog.follows .mixedOrders = true := by kernel_rfl
/-! ### 5 refrain/refrainlaw30.begun -/
noncomputable def c5 : Code := match Tryz.f5.body with | some c => c | none => .skip
noncomputable def an5 : Ann := { loops := fun i => [], draws := fun i => #[], joins := fun i => none }
def F5  (h : Heap) (R : KV) : Prop :=
  VNew h (.cells #[.int .u8 97] 5) fun b1 h2 =>
  CallsH Tryz.prog 24 #[.slice (some ⟨b1, 0, none⟩) 1 1] h2 fun v3 h4 =>
  ∃ (a5 : Option Addr) (la5 ca5 : Nat), ∃ x6 : Int, v3 = .tuple #[.slice a5 la5 ca5, .int .i64 x6] ∧
  VNew h4 (.cells #[.int .u8 0, .int .u8 0, .int .u8 0, .int .u8 1, .int .u8 97, .int .u8 0, .int .u8 104, .int .u8 0, .int .u8 99] 5) fun b7 h8 =>
  cond (x6 != (0 : Int)) (R (.bool false) h8) (CallsH Tryz.prog 17 #[.slice a5 la5 ca5, .slice (some ⟨b7, 0, none⟩) 9 9] h8 fun v9 h10 =>
    ∃ b11 : Bool, v9 = .bool b11 ∧
    cond (!b11)
    (R (.bool false) h10)
    (CallsH Tryz.prog 10 #[] h10 fun v12 h13 =>
      ∃ p14 : Option Addr, v12 = .pointer p14 ∧
      cond p14.isNone
      (R (.bool false) h13)
      (CallsH Tryz.prog 12 #[.pointer p14, .slice a5 la5 ca5] h13 fun v15 h16 =>
        ∃ (a17 : Option Addr) (la17 ca17 : Nat), ∃ x18 : Int, v15 = .tuple #[.slice a17 la17 ca17, .int .i64 x18] ∧
        CallsH Tryz.prog 25 #[.agg #[.int .u32 1, .int .i64 8, .string (ByteArray.mk #[113]), .string (ByteArray.mk #[]), .slice none 0 0, .slice none 0 0]] h16 fun v19 h20 =>
        ∃ (a21 : Option Addr) (la21 ca21 : Nat), ∃ x22 : Int, v19 = .tuple #[.slice a21 la21 ca21, .int .i64 x22] ∧
        CallsH Tryz.prog 18 #[.slice a21 la21 ca21] h20 fun v23 h24 =>
        ∃ x25 : Int, ∃ x26 : Int, ∃ s27 : ByteArray, ∃ s28 : ByteArray, ∃ (a29 : Option Addr) (la29 ca29 : Nat), ∃ (a30 : Option Addr) (la30 ca30 : Nat), ∃ x31 : Int, v23 = .tuple #[.agg #[.int .u32 x25, .int .i64 x26, .string s27, .string s28, .slice a29 la29 ca29, .slice a30 la30 ca30], .int .i64 x31] ∧
        VNew h24 (.cells #[.int .u32 0, .int .i64 0, .string (ByteArray.mk #[]), .string (ByteArray.mk #[]), .slice none 0 0, .slice none 0 0] 57) fun b32 h33 =>
        storeL ⟨b32, 0, none⟩ 0 [.int .u32 x25, .int .i64 x26, .string s27, .string s28, .slice a29 la29 ca29, .slice a30 la30 ca30] h33 fun h34 =>
        cond (x18 != (0 : Int)) (R (.bool false) h34) (cond ((la17 : Int) != (1 : Int)) (R (.bool false) h34) (VIdx a17 la17 0 1 fun a35 =>
            ∃ (a36 : Option Addr) (la36 ca36 : Nat), cellH h34 a35 = some (.slice a36 la36 ca36) ∧
            cond ((la36 : Int) != (1 : Int)) (R (.bool false) h34) (VIdx a17 la17 0 1 fun a37 =>
              ∃ (a38 : Option Addr) (la38 ca38 : Nat), cellH h34 a37 = some (.slice a38 la38 ca38) ∧
              VIdx a38 la38 0 1 fun a39 =>
              ∃ x40 : Int, cellH h34 a39 = some (.int .u8 x40) ∧
              cond (x40 != (97 : Int)) (R (.bool false) h34) (cond (x22 != (0 : Int)) (R (.bool false) h34) (cond (x31 != (0 : Int)) (R (.bool false) h34) (cond ((la21 : Int) != (7 : Int))
                    (R (.bool false) h34)
                    (CallsH Tryz.prog 26 #[.agg #[.int .u32 7, .bool false, .int .i64 0, .int .i64 0, .slice none 0 0, .slice none 0 0, .slice none 0 0, .slice none 0 0, .int .i64 0, .int .i64 0, .int .i64 0, .bool false]] h34 fun v41 h42 =>
                      ∃ (a43 : Option Addr) (la43 ca43 : Nat), ∃ x44 : Int, v41 = .tuple #[.slice a43 la43 ca43, .int .i64 x44] ∧
                      CallsH Tryz.prog 19 #[.slice a43 la43 ca43] h42 fun v45 h46 =>
                      ∃ x47 : Int, ∃ b48 : Bool, ∃ x49 : Int, ∃ x50 : Int, ∃ (a51 : Option Addr) (la51 ca51 : Nat), ∃ (a52 : Option Addr) (la52 ca52 : Nat), ∃ (a53 : Option Addr) (la53 ca53 : Nat), ∃ (a54 : Option Addr) (la54 ca54 : Nat), ∃ x55 : Int, ∃ x56 : Int, ∃ x57 : Int, ∃ b58 : Bool, ∃ x59 : Int, v45 = .tuple #[.agg #[.int .u32 x47, .bool b48, .int .i64 x49, .int .i64 x50, .slice a51 la51 ca51, .slice a52 la52 ca52, .slice a53 la53 ca53, .slice a54 la54 ca54, .int .i64 x55, .int .i64 x56, .int .i64 x57, .bool b58], .int .i64 x59] ∧
                      VNew h46 (.cells #[.int .u32 0, .bool false, .int .i64 0, .int .i64 0, .slice none 0 0, .slice none 0 0, .slice none 0 0, .slice none 0 0, .int .i64 0, .int .i64 0, .int .i64 0, .bool false] 65) fun b60 h61 =>
                      storeL ⟨b60, 0, none⟩ 0 [.int .u32 x47, .bool b48, .int .i64 x49, .int .i64 x50, .slice a51 la51 ca51, .slice a52 la52 ca52, .slice a53 la53 ca53, .slice a54 la54 ca54, .int .i64 x55, .int .i64 x56, .int .i64 x57, .bool b58] h61 fun h62 =>
                      ∃ x63 : Int, cellH h62 ⟨b32, 1, none⟩ = some (.int .i64 x63) ∧
                      cond (x63 == (8 : Int)) (∃ s64 : ByteArray, cellH h62 ⟨b32, 2, none⟩ = some (.string s64) ∧
                        cond (strEq s64 (ByteArray.mk #[113])) (∃ x65 : Int, cellH h62 ⟨b32, 0, none⟩ = some (.int .u32 x65) ∧
                          cond (x65 == (1 : Int)) (cond (x44 == (0 : Int)) (cond (x59 == (0 : Int)) (cond ((la43 : Int) == (15 : Int)) (∃ x66 : Int, cellH h62 ⟨b60, 0, none⟩ = some (.int .u32 x66) ∧
                                  R (.bool (x66 == (7 : Int))) h62) (R (.bool false) h62)) (R (.bool false) h62)) (R (.bool false) h62)) (R (.bool false) h62)) (R (.bool false) h62)) (R (.bool false) h62)))))))))))
theorem vf5  (h : Heap) (R : KV) (hF : F5  h R) : CallsH Tryz.prog 5 #[] h R :=
  calls_of_form (A := an5) (fn := Tryz.f5) (c := c5) (args := []) Tryz.func5 (by kernel_rfl) mixed (by kernel_rfl) (by kernel_rfl : F5  h R = vcF Tryz.prog an5 Tryz.f5 c5 [] h R) hF
/-! ### 10 refrain/proto.New -/
noncomputable def c10 : Code := match Tryz.f10.body with | some c => c | none => .skip
noncomputable def an10 : Ann := { loops := fun i => [], draws := fun i => #[], joins := fun i => none }
def F10  (h : Heap) (R : KV) : Prop :=
  VNew h (.cells #[.slice none 0 0, .bool false] 86) fun b1 h2 =>
  R (.pointer (some ⟨b1, 0, none⟩)) h2
theorem vf10  (h : Heap) (R : KV) (hF : F10  h R) : CallsH Tryz.prog 10 #[] h R :=
  calls_of_form (A := an10) (fn := Tryz.f10) (c := c10) (args := []) Tryz.func10 (by kernel_rfl) mixed (by kernel_rfl) (by kernel_rfl : F10  h R = vcF Tryz.prog an10 Tryz.f10 c10 [] h R) hF
/-! ### 11 refrain/refrainlaw30.roomy -/
noncomputable def c11 : Code := match Tryz.f11.body with | some c => c | none => .skip
noncomputable def an11 : Ann := { loops := fun i => match i with | 3 => [(3, .slc), (4, .int .i64)] | _ => [], draws := fun i => #[], joins := fun i => none }
def F11 (a0b : Option Addr) (la0b ca0b : Nat) (h : Heap) (R : KV) : Prop :=
  RunsTo Tryz.prog (Builtin.append_ #[36, 36] 36 #[.slice none 0 0, .slice a0b la0b ca0b]) h fun v1 h2 =>
  ∃ (a3 : Option Addr) (la3 ca3 : Nat), v1 = .slice a3 la3 ca3 ∧
  ∃ I4 : Nat → Heap → Option Addr → Nat → Nat → Int → Prop, (∃ n5, I4 n5 h2 a3 la3 ca3 0) ∧
  ∀ (n5 : Nat) (h6 : Heap) (g7 : Env) (l_8 : Option Addr) (ll_8 cl_8 : Nat) (i_9 : Int), I4 n5 h6 l_8 ll_8 cl_8 i_9 →
  cond (decide (i_9 < (70 : Int)))
  (VNew h6 (.cells #[.int .u8 (IntKind.u8.wrap (IntKind.i64.wrap (181 + i_9)))] 5) fun b11 h12 =>
    RunsTo Tryz.prog (Builtin.append_ #[36, 36] 36 #[.slice l_8 ll_8 cl_8, .slice (some ⟨b11, 0, none⟩) 1 1]) h12 fun v13 h14 =>
    ∃ (a15 : Option Addr) (la15 ca15 : Nat), v13 = .slice a15 la15 ca15 ∧
    ∃ m10, m10 < n5 ∧ I4 m10 h14 a15 la15 ca15 (IntKind.i64.wrap (i_9 + 1)))
  (R (.slice l_8 ll_8 cl_8) h6)
theorem vf11 (a0b : Option Addr) (la0b ca0b : Nat) (h : Heap) (R : KV) (hF : F11 a0b la0b ca0b h R) : CallsH Tryz.prog 11 #[.slice a0b la0b ca0b] h R :=
  calls_of_form (A := an11) (fn := Tryz.f11) (c := c11) (args := [.slice a0b la0b ca0b]) Tryz.func11 (by kernel_rfl) mixed (by kernel_rfl) (by kernel_rfl : F11 a0b la0b ca0b h R = vcF Tryz.prog an11 Tryz.f11 c11 [.slice a0b la0b ca0b] h R) hF
/-! ### 12 (refrain/proto.Stream).Feed -/
noncomputable def c12 : Code := match Tryz.f12.body with | some c => c | none => .skip
noncomputable def an12 : Ann := { loops := fun i => match i with | 6 => [(6, .slc), (7, .slc), (8, .bool)] | _ => [], draws := fun i => #[], joins := fun i => none }
def F12 (a0s : Option Addr) (a1b : Option Addr) (la1b ca1b : Nat) (h : Heap) (R : KV) : Prop :=
  VSome a0s fun a1 =>
  ∃ b2 : Bool, cellH h ⟨a1.block, a1.off + 1, none⟩ = some (.bool b2) ∧
  cond b2
  (R (.tuple #[.slice none 0 0, .int .i64 300]) h)
  (VSome a0s fun a3 =>
    ∃ (a4 : Option Addr) (la4 ca4 : Nat), cellH h a3 = some (.slice a4 la4 ca4) ∧
    CallsH Tryz.prog 38 #[.slice a4 la4 ca4] h fun v5 h6 =>
    ∃ (a7 : Option Addr) (la7 ca7 : Nat), v5 = .slice a7 la7 ca7 ∧
    RunsTo Tryz.prog (Builtin.append_ #[36, 36] 36 #[.slice a7 la7 ca7, .slice a1b la1b ca1b]) h6 fun v8 h9 =>
    ∃ (a10 : Option Addr) (la10 ca10 : Nat), v8 = .slice a10 la10 ca10 ∧
    VSome a0s fun a11 =>
    VStore h9 a11 (.slice a10 la10 ca10) fun h12 =>
    CallsH Tryz.prog 39 #[.pointer a0s] h12 fun v13 h14 =>
    ∃ (a15 : Option Addr) (la15 ca15 : Nat), ∃ b16 : Bool, v13 = .tuple #[.slice a15 la15 ca15, .bool b16] ∧
    ∃ I17 : Nat → Heap → Option Addr → Nat → Nat → Option Addr → Nat → Nat → Bool → Prop, (∃ n18, I17 n18 h14 none 0 0 a15 la15 ca15 b16) ∧
    ∀ (n18 : Nat) (h19 : Heap) (g20 : Env) (out_21 : Option Addr) (lout_21 cout_21 : Nat) (p_22 : Option Addr) (lp_22 cp_22 : Nat) (ok_23 : Bool), I17 n18 h19 out_21 lout_21 cout_21 p_22 lp_22 cp_22 ok_23 →
    cond ok_23
    (VNew h19 (.cells #[.slice p_22 lp_22 cp_22] 36) fun b25 h26 =>
      RunsTo Tryz.prog (Builtin.append_ #[24, 24] 24 #[.slice out_21 lout_21 cout_21, .slice (some ⟨b25, 0, none⟩) 1 1]) h26 fun v27 h28 =>
      ∃ (a29 : Option Addr) (la29 ca29 : Nat), v27 = .slice a29 la29 ca29 ∧
      CallsH Tryz.prog 39 #[.pointer a0s] h28 fun v30 h31 =>
      ∃ (a32 : Option Addr) (la32 ca32 : Nat), ∃ b33 : Bool, v30 = .tuple #[.slice a32 la32 ca32, .bool b33] ∧
      ∃ m24, m24 < n18 ∧ I17 m24 h31 a29 la29 ca29 a32 la32 ca32 b33)
    (VSome a0s fun a34 =>
      ∃ b35 : Bool, cellH h19 ⟨a34.block, a34.off + 1, none⟩ = some (.bool b35) ∧
      cond b35
      (VSome a0s fun a36 =>
        VStore h19 a36 (.slice none 0 0) fun h37 =>
        R (.tuple #[.slice out_21 lout_21 cout_21, .int .i64 300]) h37)
      (R (.tuple #[.slice out_21 lout_21 cout_21, .int .i64 0]) h19)))
theorem vf12 (a0s : Option Addr) (a1b : Option Addr) (la1b ca1b : Nat) (h : Heap) (R : KV) (hF : F12 a0s a1b la1b ca1b h R) : CallsH Tryz.prog 12 #[.pointer a0s, .slice a1b la1b ca1b] h R :=
  calls_of_form (A := an12) (fn := Tryz.f12) (c := c12) (args := [.pointer a0s, .slice a1b la1b ca1b]) Tryz.func12 (by kernel_rfl) mixed (by kernel_rfl) (by kernel_rfl : F12 a0s a1b la1b ca1b h R = vcF Tryz.prog an12 Tryz.f12 c12 [.pointer a0s, .slice a1b la1b ca1b] h R) hF
/-! ### 13 refrain/refrainlaw30.sameLists -/
noncomputable def c13 : Code := match Tryz.f13.body with | some c => c | none => .skip
noncomputable def an13 : Ann := { loops := fun i => match i with | 4 => [(4, .bool), (5, .int .i64)] | _ => [], draws := fun i => match i with | 6 => #[0, 0, 3, 7, 0, 0, 48, 112, 255, 511] | _ => #[], joins := fun i => none }
def F13 (a0a : Option Addr) (la0a ca0a : Nat) (a1b : Option Addr) (la1b ca1b : Nat) (h : Heap) (R : KV) : Prop :=
  cond ((la0a : Int) != (la1b : Int))
  (R (.bool false) h)
  (∃ I1 : Nat → Heap → Bool → Int → Prop, (∃ n2, I1 n2 h false 0) ∧
    ∀ (n2 : Nat) (h3 : Heap) (g4 : Env) (y_5 : Bool) (i_6 : Int), I1 n2 h3 y_5 i_6 →
    cond (decide (i_6 < (la0a : Int)))
    (VIdx a0a la0a i_6 1 fun a8 =>
      ∃ (a9 : Option Addr) (la9 ca9 : Nat), cellH h3 a8 = some (.slice a9 la9 ca9) ∧
      VIdx a1b la1b i_6 1 fun a10 =>
      ∃ (a11 : Option Addr) (la11 ca11 : Nat), cellH h3 a10 = some (.slice a11 la11 ca11) ∧
      CallsH Tryz.prog 17 #[.slice a9 la9 ca9, .slice a11 la11 ca11] h3 fun v12 h13 =>
      ∃ b14 : Bool, v12 = .bool b14 ∧
      cond (!b14)
      (R (.bool false) h13)
      (∃ m7, m7 < n2 ∧ I1 m7 h13 y_5 (IntKind.i64.wrap (i_6 + 1))))
    (R (.bool true) h3))
theorem vf13 (a0a : Option Addr) (la0a ca0a : Nat) (a1b : Option Addr) (la1b ca1b : Nat) (h : Heap) (R : KV) (hF : F13 a0a la0a ca0a a1b la1b ca1b h R) : CallsH Tryz.prog 13 #[.slice a0a la0a ca0a, .slice a1b la1b ca1b] h R :=
  calls_of_form (A := an13) (fn := Tryz.f13) (c := c13) (args := [.slice a0a la0a ca0a, .slice a1b la1b ca1b]) Tryz.func13 (by kernel_rfl) mixed (by kernel_rfl) (by kernel_rfl : F13 a0a la0a ca0a a1b la1b ca1b h R = vcF Tryz.prog an13 Tryz.f13 c13 [.slice a0a la0a ca0a, .slice a1b la1b ca1b] h R) hF
/-! ### 16 (refrain/proto.Stream).Rest -/
noncomputable def c16 : Code := match Tryz.f16.body with | some c => c | none => .skip
noncomputable def an16 : Ann := { loops := fun i => [], draws := fun i => #[], joins := fun i => none }
def F16 (a0s : Option Addr) (h : Heap) (R : KV) : Prop :=
  VSome a0s fun a1 =>
  ∃ (a2 : Option Addr) (la2 ca2 : Nat), cellH h a1 = some (.slice a2 la2 ca2) ∧
  R (.int .i64 (la2 : Int)) h
theorem vf16 (a0s : Option Addr) (h : Heap) (R : KV) (hF : F16 a0s h R) : CallsH Tryz.prog 16 #[.pointer a0s] h R :=
  calls_of_form (A := an16) (fn := Tryz.f16) (c := c16) (args := [.pointer a0s]) Tryz.func16 (by kernel_rfl) mixed (by kernel_rfl) (by kernel_rfl : F16 a0s h R = vcF Tryz.prog an16 Tryz.f16 c16 [.pointer a0s] h R) hF
/-! ### 17 refrain/refrainlaw30.sameBytes -/
noncomputable def c17 : Code := match Tryz.f17.body with | some c => c | none => .skip
noncomputable def an17 : Ann := { loops := fun i => match i with | 4 => [(4, .bool), (5, .int .i64)] | _ => [], draws := fun i => match i with | 6 => #[0, 0, 3, 7, 0, 0, 48, 112, 255] | _ => #[], joins := fun i => none }
def F17 (a0a : Option Addr) (la0a ca0a : Nat) (a1b : Option Addr) (la1b ca1b : Nat) (h : Heap) (R : KV) : Prop :=
  cond ((la0a : Int) != (la1b : Int))
  (R (.bool false) h)
  (∃ I1 : Nat → Heap → Bool → Int → Prop, (∃ n2, I1 n2 h false 0) ∧
    ∀ (n2 : Nat) (h3 : Heap) (g4 : Env) (y_5 : Bool) (i_6 : Int), I1 n2 h3 y_5 i_6 →
    cond (decide (i_6 < (la0a : Int)))
    (VIdx a0a la0a i_6 1 fun a8 =>
      ∃ x9 : Int, cellH h3 a8 = some (.int .u8 x9) ∧
      VIdx a1b la1b i_6 1 fun a10 =>
      ∃ x11 : Int, cellH h3 a10 = some (.int .u8 x11) ∧
      cond (x9 != x11)
      (R (.bool false) h3)
      (∃ m7, m7 < n2 ∧ I1 m7 h3 y_5 (IntKind.i64.wrap (i_6 + 1))))
    (R (.bool true) h3))
theorem vf17 (a0a : Option Addr) (la0a ca0a : Nat) (a1b : Option Addr) (la1b ca1b : Nat) (h : Heap) (R : KV) (hF : F17 a0a la0a ca0a a1b la1b ca1b h R) : CallsH Tryz.prog 17 #[.slice a0a la0a ca0a, .slice a1b la1b ca1b] h R :=
  calls_of_form (A := an17) (fn := Tryz.f17) (c := c17) (args := [.slice a0a la0a ca0a, .slice a1b la1b ca1b]) Tryz.func17 (by kernel_rfl) mixed (by kernel_rfl) (by kernel_rfl : F17 a0a la0a ca0a a1b la1b ca1b h R = vcF Tryz.prog an17 Tryz.f17 c17 [.slice a0a la0a ca0a, .slice a1b la1b ca1b] h R) hF
/-! ### 18 refrain/proto.Asked -/
noncomputable def c18 : Code := match Tryz.f18.body with | some c => c | none => .skip
noncomputable def an18 : Ann := { loops := fun i => match i with | 10 => [(40, .int .i64)] | _ => [], draws := fun i => #[], joins := fun i => none }
def F18 (a0payload : Option Addr) (la0payload ca0payload : Nat) (h : Heap) (R : KV) : Prop :=
  VNew h (.cells #[.int .u32 0, .int .i64 0, .string (ByteArray.mk #[]), .string (ByteArray.mk #[]), .slice none 0 0, .slice none 0 0] 57) fun b1 h2 =>
  cond (decide ((la0payload : Int) > (65528 : Int)))
  (storeL ⟨b1, 0, none⟩ 0 [.int .u32 0, .int .i64 0, .string (ByteArray.mk #[]), .string (ByteArray.mk #[]), .slice none 0 0, .slice none 0 0] h2 fun h3 =>
    ∃ x4 : Int, cellH h3 ⟨b1, 0, none⟩ = some (.int .u32 x4) ∧
    ∃ x5 : Int, cellH h3 ⟨b1, 1, none⟩ = some (.int .i64 x5) ∧
    ∃ s6 : ByteArray, cellH h3 ⟨b1, 2, none⟩ = some (.string s6) ∧
    ∃ s7 : ByteArray, cellH h3 ⟨b1, 3, none⟩ = some (.string s7) ∧
    ∃ (a8 : Option Addr) (la8 ca8 : Nat), cellH h3 ⟨b1, 4, none⟩ = some (.slice a8 la8 ca8) ∧
    ∃ (a9 : Option Addr) (la9 ca9 : Nat), cellH h3 ⟨b1, 5, none⟩ = some (.slice a9 la9 ca9) ∧
    R (.tuple #[.agg #[.int .u32 x4, .int .i64 x5, .string s6, .string s7, .slice a8 la8 ca8, .slice a9 la9 ca9], .int .i64 2]) h3)
  (VNew h2 (.cells #[.slice a0payload la0payload ca0payload, .bool false] 94) fun b10 h11 =>
    CallsH Tryz.prog 43 #[.pointer (some ⟨b10, 0, none⟩)] h11 fun v12 h13 =>
    ∃ x14 : Int, v12 = .int .u8 x14 ∧
    VNew h13 (.cells #[.int .u32 0, .int .i64 0, .string (ByteArray.mk #[]), .string (ByteArray.mk #[]), .slice none 0 0, .slice none 0 0] 57) fun b15 h16 =>
    storeL ⟨b15, 0, none⟩ 0 [.int .u32 0, .int .i64 (IntKind.i64.wrap x14), .string (ByteArray.mk #[]), .string (ByteArray.mk #[]), .slice none 0 0, .slice none 0 0] h16 fun h17 =>
    CallsH Tryz.prog 44 #[.pointer (some ⟨b10, 0, none⟩)] h17 fun v18 h19 =>
    ∃ x20 : Int, v18 = .int .u32 x20 ∧
    VStore h19 ⟨b15, 0, none⟩ (.int .u32 x20) fun h21 =>
    ∃ b22 : Bool, cellH h21 ⟨b10, 1, none⟩ = some (.bool b22) ∧
    cond b22 (storeL ⟨b1, 0, none⟩ 0 [.int .u32 0, .int .i64 0, .string (ByteArray.mk #[]), .string (ByteArray.mk #[]), .slice none 0 0, .slice none 0 0] h21 fun h23 =>
      ∃ x24 : Int, cellH h23 ⟨b1, 0, none⟩ = some (.int .u32 x24) ∧
      ∃ x25 : Int, cellH h23 ⟨b1, 1, none⟩ = some (.int .i64 x25) ∧
      ∃ s26 : ByteArray, cellH h23 ⟨b1, 2, none⟩ = some (.string s26) ∧
      ∃ s27 : ByteArray, cellH h23 ⟨b1, 3, none⟩ = some (.string s27) ∧
      ∃ (a28 : Option Addr) (la28 ca28 : Nat), cellH h23 ⟨b1, 4, none⟩ = some (.slice a28 la28 ca28) ∧
      ∃ (a29 : Option Addr) (la29 ca29 : Nat), cellH h23 ⟨b1, 5, none⟩ = some (.slice a29 la29 ca29) ∧
      R (.tuple #[.agg #[.int .u32 x24, .int .i64 x25, .string s26, .string s27, .slice a28 la28 ca28, .slice a29 la29 ca29], .int .i64 301]) h23) (∃ x30 : Int, cellH h21 ⟨b15, 1, none⟩ = some (.int .i64 x30) ∧
      CallsH Tryz.prog 45 #[.int .i64 x30] h21 fun v31 h32 =>
      ∃ b33 : Bool, v31 = .bool b33 ∧
      cond (!b33)
      (storeL ⟨b1, 0, none⟩ 0 [.int .u32 0, .int .i64 0, .string (ByteArray.mk #[]), .string (ByteArray.mk #[]), .slice none 0 0, .slice none 0 0] h32 fun h34 =>
        ∃ x35 : Int, cellH h34 ⟨b1, 0, none⟩ = some (.int .u32 x35) ∧
        ∃ x36 : Int, cellH h34 ⟨b1, 1, none⟩ = some (.int .i64 x36) ∧
        ∃ s37 : ByteArray, cellH h34 ⟨b1, 2, none⟩ = some (.string s37) ∧
        ∃ s38 : ByteArray, cellH h34 ⟨b1, 3, none⟩ = some (.string s38) ∧
        ∃ (a39 : Option Addr) (la39 ca39 : Nat), cellH h34 ⟨b1, 4, none⟩ = some (.slice a39 la39 ca39) ∧
        ∃ (a40 : Option Addr) (la40 ca40 : Nat), cellH h34 ⟨b1, 5, none⟩ = some (.slice a40 la40 ca40) ∧
        R (.tuple #[.agg #[.int .u32 x35, .int .i64 x36, .string s37, .string s38, .slice a39 la39 ca39, .slice a40 la40 ca40], .int .i64 301]) h34)
      (CallsH Tryz.prog 46 #[] h32 fun v41 h42 =>
        ∃ v43 : Value, ∃ v44 : Value, ∃ v45 : Value, ∃ v46 : Value, ∃ v47 : Value, ∃ v48 : Value, ∃ v49 : Value, ∃ v50 : Value, ∃ v51 : Value, ∃ v52 : Value, ∃ v53 : Value, ∃ v54 : Value, v41 = .agg #[v43, v44, v45, v46, v47, v48, v49, v50, v51, v52, v53, v54] ∧
        VNew h42 (.cells #[.nilFunc, .nilFunc, .nilFunc, .nilFunc, .nilFunc, .nilFunc, .nilFunc, .nilFunc, .nilFunc, .nilFunc, .nilFunc, .nilFunc] 103) fun b55 h56 =>
        storeL ⟨b55, 0, none⟩ 0 [v43, v44, v45, v46, v47, v48, v49, v50, v51, v52, v53, v54] h56 fun h57 =>
        ∃ x58 : Int, cellH h57 ⟨b15, 1, none⟩ = some (.int .i64 x58) ∧
        VIdx (some ⟨0, 0, none⟩) 13 x58 1 fun a59 =>
        ∃ (a60 : Option Addr) (la60 ca60 : Nat), cellH h57 a59 = some (.slice a60 la60 ca60) ∧
        ∃ I61 : Nat → Heap → Int → Prop, (∃ n62, I61 n62 h57 0) ∧
        ∀ (n62 : Nat) (h63 : Heap) (g64 : Env) (y_65 : Int), I61 n62 h63 y_65 →
        cond (decide (y_65 < (la60 : Int)))
        (VIdx a60 la60 y_65 1 fun a67 =>
          ∃ x68 : Int, cellH h63 a67 = some (.int .i64 x68) ∧
          VIdx (some ⟨b55, 0, none⟩) 4 x68 3 fun a69 =>
          ∃ v70 : Value, cellH h63 ⟨a69.block, a69.off + 2, none⟩ = some (v70) ∧
          VInvoke Tryz.prog v70 #[.pointer (some ⟨b10, 0, none⟩), .pointer (some ⟨b15, 0, none⟩)] h63 fun v71 h72 =>
          ∃ m66, m66 < n62 ∧ I61 m66 h72 (IntKind.i64.wrap (y_65 + 1)))
        (∃ b73 : Bool, cellH h63 ⟨b10, 1, none⟩ = some (.bool b73) ∧
          cond b73 (storeL ⟨b1, 0, none⟩ 0 [.int .u32 0, .int .i64 0, .string (ByteArray.mk #[]), .string (ByteArray.mk #[]), .slice none 0 0, .slice none 0 0] h63 fun h74 =>
            ∃ x75 : Int, cellH h74 ⟨b1, 0, none⟩ = some (.int .u32 x75) ∧
            ∃ x76 : Int, cellH h74 ⟨b1, 1, none⟩ = some (.int .i64 x76) ∧
            ∃ s77 : ByteArray, cellH h74 ⟨b1, 2, none⟩ = some (.string s77) ∧
            ∃ s78 : ByteArray, cellH h74 ⟨b1, 3, none⟩ = some (.string s78) ∧
            ∃ (a79 : Option Addr) (la79 ca79 : Nat), cellH h74 ⟨b1, 4, none⟩ = some (.slice a79 la79 ca79) ∧
            ∃ (a80 : Option Addr) (la80 ca80 : Nat), cellH h74 ⟨b1, 5, none⟩ = some (.slice a80 la80 ca80) ∧
            R (.tuple #[.agg #[.int .u32 x75, .int .i64 x76, .string s77, .string s78, .slice a79 la79 ca79, .slice a80 la80 ca80], .int .i64 301]) h74) (∃ (a81 : Option Addr) (la81 ca81 : Nat), cellH h63 ⟨b10, 0, none⟩ = some (.slice a81 la81 ca81) ∧
            cond (decide ((la81 : Int) > (0 : Int)))
            (storeL ⟨b1, 0, none⟩ 0 [.int .u32 0, .int .i64 0, .string (ByteArray.mk #[]), .string (ByteArray.mk #[]), .slice none 0 0, .slice none 0 0] h63 fun h82 =>
              ∃ x83 : Int, cellH h82 ⟨b1, 0, none⟩ = some (.int .u32 x83) ∧
              ∃ x84 : Int, cellH h82 ⟨b1, 1, none⟩ = some (.int .i64 x84) ∧
              ∃ s85 : ByteArray, cellH h82 ⟨b1, 2, none⟩ = some (.string s85) ∧
              ∃ s86 : ByteArray, cellH h82 ⟨b1, 3, none⟩ = some (.string s86) ∧
              ∃ (a87 : Option Addr) (la87 ca87 : Nat), cellH h82 ⟨b1, 4, none⟩ = some (.slice a87 la87 ca87) ∧
              ∃ (a88 : Option Addr) (la88 ca88 : Nat), cellH h82 ⟨b1, 5, none⟩ = some (.slice a88 la88 ca88) ∧
              R (.tuple #[.agg #[.int .u32 x83, .int .i64 x84, .string s85, .string s86, .slice a87 la87 ca87, .slice a88 la88 ca88], .int .i64 301]) h82)
            (∃ x89 : Int, cellH h63 ⟨b15, 0, none⟩ = some (.int .u32 x89) ∧
              ∃ x90 : Int, cellH h63 ⟨b15, 1, none⟩ = some (.int .i64 x90) ∧
              ∃ s91 : ByteArray, cellH h63 ⟨b15, 2, none⟩ = some (.string s91) ∧
              ∃ s92 : ByteArray, cellH h63 ⟨b15, 3, none⟩ = some (.string s92) ∧
              ∃ (a93 : Option Addr) (la93 ca93 : Nat), cellH h63 ⟨b15, 4, none⟩ = some (.slice a93 la93 ca93) ∧
              ∃ (a94 : Option Addr) (la94 ca94 : Nat), cellH h63 ⟨b15, 5, none⟩ = some (.slice a94 la94 ca94) ∧
              storeL ⟨b1, 0, none⟩ 0 [.int .u32 x89, .int .i64 x90, .string s91, .string s92, .slice a93 la93 ca93, .slice a94 la94 ca94] h63 fun h95 =>
              ∃ x96 : Int, cellH h95 ⟨b1, 0, none⟩ = some (.int .u32 x96) ∧
              ∃ x97 : Int, cellH h95 ⟨b1, 1, none⟩ = some (.int .i64 x97) ∧
              ∃ s98 : ByteArray, cellH h95 ⟨b1, 2, none⟩ = some (.string s98) ∧
              ∃ s99 : ByteArray, cellH h95 ⟨b1, 3, none⟩ = some (.string s99) ∧
              ∃ (a100 : Option Addr) (la100 ca100 : Nat), cellH h95 ⟨b1, 4, none⟩ = some (.slice a100 la100 ca100) ∧
              ∃ (a101 : Option Addr) (la101 ca101 : Nat), cellH h95 ⟨b1, 5, none⟩ = some (.slice a101 la101 ca101) ∧
              R (.tuple #[.agg #[.int .u32 x96, .int .i64 x97, .string s98, .string s99, .slice a100 la100 ca100, .slice a101 la101 ca101], .int .i64 0]) h95))))))
theorem vf18 (a0payload : Option Addr) (la0payload ca0payload : Nat) (h : Heap) (R : KV) (hF : F18 a0payload la0payload ca0payload h R) : CallsH Tryz.prog 18 #[.slice a0payload la0payload ca0payload] h R :=
  calls_of_form (A := an18) (fn := Tryz.f18) (c := c18) (args := [.slice a0payload la0payload ca0payload]) Tryz.func18 (by kernel_rfl) mixed (by kernel_rfl) (by kernel_rfl : F18 a0payload la0payload ca0payload h R = vcF Tryz.prog an18 Tryz.f18 c18 [.slice a0payload la0payload ca0payload] h R) hF
/-! ### 19 refrain/proto.Told -/
noncomputable def c19 : Code := match Tryz.f19.body with | some c => c | none => .skip
noncomputable def an19 : Ann := { loops := fun i => [], draws := fun i => #[], joins := fun i => none }
def F19 (a0payload : Option Addr) (la0payload ca0payload : Nat) (h : Heap) (R : KV) : Prop :=
  VNew h (.cells #[.int .u32 0, .bool false, .int .i64 0, .int .i64 0, .slice none 0 0, .slice none 0 0, .slice none 0 0, .slice none 0 0, .int .i64 0, .int .i64 0, .int .i64 0, .bool false] 65) fun b1 h2 =>
  cond (decide ((la0payload : Int) > (65528 : Int)))
  (storeL ⟨b1, 0, none⟩ 0 [.int .u32 0, .bool false, .int .i64 0, .int .i64 0, .slice none 0 0, .slice none 0 0, .slice none 0 0, .slice none 0 0, .int .i64 0, .int .i64 0, .int .i64 0, .bool false] h2 fun h3 =>
    ∃ x4 : Int, cellH h3 ⟨b1, 0, none⟩ = some (.int .u32 x4) ∧
    ∃ b5 : Bool, cellH h3 ⟨b1, 1, none⟩ = some (.bool b5) ∧
    ∃ x6 : Int, cellH h3 ⟨b1, 2, none⟩ = some (.int .i64 x6) ∧
    ∃ x7 : Int, cellH h3 ⟨b1, 3, none⟩ = some (.int .i64 x7) ∧
    ∃ (a8 : Option Addr) (la8 ca8 : Nat), cellH h3 ⟨b1, 4, none⟩ = some (.slice a8 la8 ca8) ∧
    ∃ (a9 : Option Addr) (la9 ca9 : Nat), cellH h3 ⟨b1, 5, none⟩ = some (.slice a9 la9 ca9) ∧
    ∃ (a10 : Option Addr) (la10 ca10 : Nat), cellH h3 ⟨b1, 6, none⟩ = some (.slice a10 la10 ca10) ∧
    ∃ (a11 : Option Addr) (la11 ca11 : Nat), cellH h3 ⟨b1, 7, none⟩ = some (.slice a11 la11 ca11) ∧
    ∃ x12 : Int, cellH h3 ⟨b1, 8, none⟩ = some (.int .i64 x12) ∧
    ∃ x13 : Int, cellH h3 ⟨b1, 9, none⟩ = some (.int .i64 x13) ∧
    ∃ x14 : Int, cellH h3 ⟨b1, 10, none⟩ = some (.int .i64 x14) ∧
    ∃ b15 : Bool, cellH h3 ⟨b1, 11, none⟩ = some (.bool b15) ∧
    R (.tuple #[.agg #[.int .u32 x4, .bool b5, .int .i64 x6, .int .i64 x7, .slice a8 la8 ca8, .slice a9 la9 ca9, .slice a10 la10 ca10, .slice a11 la11 ca11, .int .i64 x12, .int .i64 x13, .int .i64 x14, .bool b15], .int .i64 2]) h3)
  (VNew h2 (.cells #[.slice a0payload la0payload ca0payload, .bool false] 94) fun b16 h17 =>
    VNew h17 (.cells #[.pointer none] 92) fun b18 h19 =>
    VStore h19 ⟨b18, 0, none⟩ (.pointer (some ⟨b16, 0, none⟩)) fun h20 =>
    ∃ p21 : Option Addr, cellH h20 ⟨b18, 0, none⟩ = some (.pointer p21) ∧
    CallsH Tryz.prog 47 #[.pointer p21] h20 fun v22 h23 =>
    ∃ b24 : Bool, v22 = .bool b24 ∧
    VNew h23 (.cells #[.int .u32 0, .bool false, .int .i64 0, .int .i64 0, .slice none 0 0, .slice none 0 0, .slice none 0 0, .slice none 0 0, .int .i64 0, .int .i64 0, .int .i64 0, .bool false] 65) fun b25 h26 =>
    storeL ⟨b25, 0, none⟩ 0 [.int .u32 0, .bool b24, .int .i64 0, .int .i64 0, .slice none 0 0, .slice none 0 0, .slice none 0 0, .slice none 0 0, .int .i64 0, .int .i64 0, .int .i64 0, .bool false] h26 fun h27 =>
    ∃ p28 : Option Addr, cellH h27 ⟨b18, 0, none⟩ = some (.pointer p28) ∧
    CallsH Tryz.prog 44 #[.pointer p28] h27 fun v29 h30 =>
    ∃ x31 : Int, v29 = .int .u32 x31 ∧
    VStore h30 ⟨b25, 0, none⟩ (.int .u32 x31) fun h32 =>
    ∃ p33 : Option Addr, cellH h32 ⟨b18, 0, none⟩ = some (.pointer p33) ∧
    CallsH Tryz.prog 48 #[.pointer p33] h32 fun v34 h35 =>
    ∃ x36 : Int, v34 = .int .i64 x36 ∧
    VStore h35 ⟨b25, 2, none⟩ (.int .i64 x36) fun h37 =>
    ∃ p38 : Option Addr, cellH h37 ⟨b18, 0, none⟩ = some (.pointer p38) ∧
    CallsH Tryz.prog 48 #[.pointer p38] h37 fun v39 h40 =>
    ∃ x41 : Int, v39 = .int .i64 x41 ∧
    VStore h40 ⟨b25, 3, none⟩ (.int .i64 x41) fun h42 =>
    ∃ p43 : Option Addr, cellH h42 ⟨b18, 0, none⟩ = some (.pointer p43) ∧
    CallsH Tryz.prog 49 #[.pointer p43, .func (.func 50) #[] #[.pointer (some ⟨b18, 0, none⟩)]] h42 fun v44 h45 =>
    ∃ (a46 : Option Addr) (la46 ca46 : Nat), v44 = .slice a46 la46 ca46 ∧
    VStore h45 ⟨b25, 4, none⟩ (.slice a46 la46 ca46) fun h47 =>
    ∃ p48 : Option Addr, cellH h47 ⟨b18, 0, none⟩ = some (.pointer p48) ∧
    ∃ p49 : Option Addr, cellH h47 ⟨b18, 0, none⟩ = some (.pointer p49) ∧
    CallsH Tryz.prog 51 #[.pointer p48, .func (.func 52) #[.pointer p49] #[]] h47 fun v50 h51 =>
    ∃ (a52 : Option Addr) (la52 ca52 : Nat), v50 = .slice a52 la52 ca52 ∧
    VStore h51 ⟨b25, 5, none⟩ (.slice a52 la52 ca52) fun h53 =>
    ∃ p54 : Option Addr, cellH h53 ⟨b18, 0, none⟩ = some (.pointer p54) ∧
    ∃ p55 : Option Addr, cellH h53 ⟨b18, 0, none⟩ = some (.pointer p55) ∧
    CallsH Tryz.prog 53 #[.pointer p54, .func (.func 54) #[.pointer p55] #[]] h53 fun v56 h57 =>
    ∃ (a58 : Option Addr) (la58 ca58 : Nat), v56 = .slice a58 la58 ca58 ∧
    VStore h57 ⟨b25, 6, none⟩ (.slice a58 la58 ca58) fun h59 =>
    ∃ p60 : Option Addr, cellH h59 ⟨b18, 0, none⟩ = some (.pointer p60) ∧
    ∃ p61 : Option Addr, cellH h59 ⟨b18, 0, none⟩ = some (.pointer p61) ∧
    CallsH Tryz.prog 55 #[.pointer p60, .func (.func 56) #[.pointer p61] #[]] h59 fun v62 h63 =>
    ∃ (a64 : Option Addr) (la64 ca64 : Nat), v62 = .slice a64 la64 ca64 ∧
    VStore h63 ⟨b25, 7, none⟩ (.slice a64 la64 ca64) fun h65 =>
    ∃ p66 : Option Addr, cellH h65 ⟨b18, 0, none⟩ = some (.pointer p66) ∧
    CallsH Tryz.prog 48 #[.pointer p66] h65 fun v67 h68 =>
    ∃ x69 : Int, v67 = .int .i64 x69 ∧
    VStore h68 ⟨b25, 8, none⟩ (.int .i64 x69) fun h70 =>
    ∃ p71 : Option Addr, cellH h70 ⟨b18, 0, none⟩ = some (.pointer p71) ∧
    CallsH Tryz.prog 48 #[.pointer p71] h70 fun v72 h73 =>
    ∃ x74 : Int, v72 = .int .i64 x74 ∧
    VStore h73 ⟨b25, 9, none⟩ (.int .i64 x74) fun h75 =>
    ∃ p76 : Option Addr, cellH h75 ⟨b18, 0, none⟩ = some (.pointer p76) ∧
    CallsH Tryz.prog 48 #[.pointer p76] h75 fun v77 h78 =>
    ∃ x79 : Int, v77 = .int .i64 x79 ∧
    VStore h78 ⟨b25, 10, none⟩ (.int .i64 x79) fun h80 =>
    ∃ p81 : Option Addr, cellH h80 ⟨b18, 0, none⟩ = some (.pointer p81) ∧
    CallsH Tryz.prog 47 #[.pointer p81] h80 fun v82 h83 =>
    ∃ b84 : Bool, v82 = .bool b84 ∧
    VStore h83 ⟨b25, 11, none⟩ (.bool b84) fun h85 =>
    ∃ p86 : Option Addr, cellH h85 ⟨b18, 0, none⟩ = some (.pointer p86) ∧
    VSome p86 fun a87 =>
    ∃ b88 : Bool, cellH h85 ⟨a87.block, a87.off + 1, none⟩ = some (.bool b88) ∧
    cond b88 (storeL ⟨b1, 0, none⟩ 0 [.int .u32 0, .bool false, .int .i64 0, .int .i64 0, .slice none 0 0, .slice none 0 0, .slice none 0 0, .slice none 0 0, .int .i64 0, .int .i64 0, .int .i64 0, .bool false] h85 fun h89 =>
      ∃ x90 : Int, cellH h89 ⟨b1, 0, none⟩ = some (.int .u32 x90) ∧
      ∃ b91 : Bool, cellH h89 ⟨b1, 1, none⟩ = some (.bool b91) ∧
      ∃ x92 : Int, cellH h89 ⟨b1, 2, none⟩ = some (.int .i64 x92) ∧
      ∃ x93 : Int, cellH h89 ⟨b1, 3, none⟩ = some (.int .i64 x93) ∧
      ∃ (a94 : Option Addr) (la94 ca94 : Nat), cellH h89 ⟨b1, 4, none⟩ = some (.slice a94 la94 ca94) ∧
      ∃ (a95 : Option Addr) (la95 ca95 : Nat), cellH h89 ⟨b1, 5, none⟩ = some (.slice a95 la95 ca95) ∧
      ∃ (a96 : Option Addr) (la96 ca96 : Nat), cellH h89 ⟨b1, 6, none⟩ = some (.slice a96 la96 ca96) ∧
      ∃ (a97 : Option Addr) (la97 ca97 : Nat), cellH h89 ⟨b1, 7, none⟩ = some (.slice a97 la97 ca97) ∧
      ∃ x98 : Int, cellH h89 ⟨b1, 8, none⟩ = some (.int .i64 x98) ∧
      ∃ x99 : Int, cellH h89 ⟨b1, 9, none⟩ = some (.int .i64 x99) ∧
      ∃ x100 : Int, cellH h89 ⟨b1, 10, none⟩ = some (.int .i64 x100) ∧
      ∃ b101 : Bool, cellH h89 ⟨b1, 11, none⟩ = some (.bool b101) ∧
      R (.tuple #[.agg #[.int .u32 x90, .bool b91, .int .i64 x92, .int .i64 x93, .slice a94 la94 ca94, .slice a95 la95 ca95, .slice a96 la96 ca96, .slice a97 la97 ca97, .int .i64 x98, .int .i64 x99, .int .i64 x100, .bool b101], .int .i64 301]) h89) (∃ p102 : Option Addr, cellH h85 ⟨b18, 0, none⟩ = some (.pointer p102) ∧
      VSome p102 fun a103 =>
      ∃ (a104 : Option Addr) (la104 ca104 : Nat), cellH h85 a103 = some (.slice a104 la104 ca104) ∧
      cond (decide ((la104 : Int) > (0 : Int)))
      (storeL ⟨b1, 0, none⟩ 0 [.int .u32 0, .bool false, .int .i64 0, .int .i64 0, .slice none 0 0, .slice none 0 0, .slice none 0 0, .slice none 0 0, .int .i64 0, .int .i64 0, .int .i64 0, .bool false] h85 fun h105 =>
        ∃ x106 : Int, cellH h105 ⟨b1, 0, none⟩ = some (.int .u32 x106) ∧
        ∃ b107 : Bool, cellH h105 ⟨b1, 1, none⟩ = some (.bool b107) ∧
        ∃ x108 : Int, cellH h105 ⟨b1, 2, none⟩ = some (.int .i64 x108) ∧
        ∃ x109 : Int, cellH h105 ⟨b1, 3, none⟩ = some (.int .i64 x109) ∧
        ∃ (a110 : Option Addr) (la110 ca110 : Nat), cellH h105 ⟨b1, 4, none⟩ = some (.slice a110 la110 ca110) ∧
        ∃ (a111 : Option Addr) (la111 ca111 : Nat), cellH h105 ⟨b1, 5, none⟩ = some (.slice a111 la111 ca111) ∧
        ∃ (a112 : Option Addr) (la112 ca112 : Nat), cellH h105 ⟨b1, 6, none⟩ = some (.slice a112 la112 ca112) ∧
        ∃ (a113 : Option Addr) (la113 ca113 : Nat), cellH h105 ⟨b1, 7, none⟩ = some (.slice a113 la113 ca113) ∧
        ∃ x114 : Int, cellH h105 ⟨b1, 8, none⟩ = some (.int .i64 x114) ∧
        ∃ x115 : Int, cellH h105 ⟨b1, 9, none⟩ = some (.int .i64 x115) ∧
        ∃ x116 : Int, cellH h105 ⟨b1, 10, none⟩ = some (.int .i64 x116) ∧
        ∃ b117 : Bool, cellH h105 ⟨b1, 11, none⟩ = some (.bool b117) ∧
        R (.tuple #[.agg #[.int .u32 x106, .bool b107, .int .i64 x108, .int .i64 x109, .slice a110 la110 ca110, .slice a111 la111 ca111, .slice a112 la112 ca112, .slice a113 la113 ca113, .int .i64 x114, .int .i64 x115, .int .i64 x116, .bool b117], .int .i64 301]) h105)
      (∃ x118 : Int, cellH h85 ⟨b25, 0, none⟩ = some (.int .u32 x118) ∧
        ∃ b119 : Bool, cellH h85 ⟨b25, 1, none⟩ = some (.bool b119) ∧
        ∃ x120 : Int, cellH h85 ⟨b25, 2, none⟩ = some (.int .i64 x120) ∧
        ∃ x121 : Int, cellH h85 ⟨b25, 3, none⟩ = some (.int .i64 x121) ∧
        ∃ (a122 : Option Addr) (la122 ca122 : Nat), cellH h85 ⟨b25, 4, none⟩ = some (.slice a122 la122 ca122) ∧
        ∃ (a123 : Option Addr) (la123 ca123 : Nat), cellH h85 ⟨b25, 5, none⟩ = some (.slice a123 la123 ca123) ∧
        ∃ (a124 : Option Addr) (la124 ca124 : Nat), cellH h85 ⟨b25, 6, none⟩ = some (.slice a124 la124 ca124) ∧
        ∃ (a125 : Option Addr) (la125 ca125 : Nat), cellH h85 ⟨b25, 7, none⟩ = some (.slice a125 la125 ca125) ∧
        ∃ x126 : Int, cellH h85 ⟨b25, 8, none⟩ = some (.int .i64 x126) ∧
        ∃ x127 : Int, cellH h85 ⟨b25, 9, none⟩ = some (.int .i64 x127) ∧
        ∃ x128 : Int, cellH h85 ⟨b25, 10, none⟩ = some (.int .i64 x128) ∧
        ∃ b129 : Bool, cellH h85 ⟨b25, 11, none⟩ = some (.bool b129) ∧
        storeL ⟨b1, 0, none⟩ 0 [.int .u32 x118, .bool b119, .int .i64 x120, .int .i64 x121, .slice a122 la122 ca122, .slice a123 la123 ca123, .slice a124 la124 ca124, .slice a125 la125 ca125, .int .i64 x126, .int .i64 x127, .int .i64 x128, .bool b129] h85 fun h130 =>
        ∃ x131 : Int, cellH h130 ⟨b1, 0, none⟩ = some (.int .u32 x131) ∧
        ∃ b132 : Bool, cellH h130 ⟨b1, 1, none⟩ = some (.bool b132) ∧
        ∃ x133 : Int, cellH h130 ⟨b1, 2, none⟩ = some (.int .i64 x133) ∧
        ∃ x134 : Int, cellH h130 ⟨b1, 3, none⟩ = some (.int .i64 x134) ∧
        ∃ (a135 : Option Addr) (la135 ca135 : Nat), cellH h130 ⟨b1, 4, none⟩ = some (.slice a135 la135 ca135) ∧
        ∃ (a136 : Option Addr) (la136 ca136 : Nat), cellH h130 ⟨b1, 5, none⟩ = some (.slice a136 la136 ca136) ∧
        ∃ (a137 : Option Addr) (la137 ca137 : Nat), cellH h130 ⟨b1, 6, none⟩ = some (.slice a137 la137 ca137) ∧
        ∃ (a138 : Option Addr) (la138 ca138 : Nat), cellH h130 ⟨b1, 7, none⟩ = some (.slice a138 la138 ca138) ∧
        ∃ x139 : Int, cellH h130 ⟨b1, 8, none⟩ = some (.int .i64 x139) ∧
        ∃ x140 : Int, cellH h130 ⟨b1, 9, none⟩ = some (.int .i64 x140) ∧
        ∃ x141 : Int, cellH h130 ⟨b1, 10, none⟩ = some (.int .i64 x141) ∧
        ∃ b142 : Bool, cellH h130 ⟨b1, 11, none⟩ = some (.bool b142) ∧
        R (.tuple #[.agg #[.int .u32 x131, .bool b132, .int .i64 x133, .int .i64 x134, .slice a135 la135 ca135, .slice a136 la136 ca136, .slice a137 la137 ca137, .slice a138 la138 ca138, .int .i64 x139, .int .i64 x140, .int .i64 x141, .bool b142], .int .i64 0]) h130)))
theorem vf19 (a0payload : Option Addr) (la0payload ca0payload : Nat) (h : Heap) (R : KV) (hF : F19 a0payload la0payload ca0payload h R) : CallsH Tryz.prog 19 #[.slice a0payload la0payload ca0payload] h R :=
  calls_of_form (A := an19) (fn := Tryz.f19) (c := c19) (args := [.slice a0payload la0payload ca0payload]) Tryz.func19 (by kernel_rfl) mixed (by kernel_rfl) (by kernel_rfl : F19 a0payload la0payload ca0payload h R = vcF Tryz.prog an19 Tryz.f19 c19 [.slice a0payload la0payload ca0payload] h R) hF
/-! ### 20 refrain/refrainlaw30.sameRequest -/
noncomputable def c20 : Code := match Tryz.f20.body with | some c => c | none => .skip
noncomputable def an20 : Ann := { loops := fun i => [], draws := fun i => #[], joins := fun i => none }
def F20 (a0a_0 : Int) (a0a_1 : Int) (a0a_2 : ByteArray) (a0a_3 : ByteArray) (a0a_4 : Option Addr) (la0a_4 ca0a_4 : Nat) (a0a_5 : Option Addr) (la0a_5 ca0a_5 : Nat) (a1b_0 : Int) (a1b_1 : Int) (a1b_2 : ByteArray) (a1b_3 : ByteArray) (a1b_4 : Option Addr) (la1b_4 ca1b_4 : Nat) (a1b_5 : Option Addr) (la1b_5 ca1b_5 : Nat) (h : Heap) (R : KV) : Prop :=
  VNew h (.cells #[.int .u32 a0a_0, .int .i64 a0a_1, .string a0a_2, .string a0a_3, .slice a0a_4 la0a_4 ca0a_4, .slice a0a_5 la0a_5 ca0a_5] 57) fun b1 h2 =>
  VNew h2 (.cells #[.int .u32 a1b_0, .int .i64 a1b_1, .string a1b_2, .string a1b_3, .slice a1b_4 la1b_4 ca1b_4, .slice a1b_5 la1b_5 ca1b_5] 57) fun b3 h4 =>
  ∃ (a5 : Option Addr) (la5 ca5 : Nat), cellH h4 ⟨b1, 4, none⟩ = some (.slice a5 la5 ca5) ∧
  ∃ (a6 : Option Addr) (la6 ca6 : Nat), cellH h4 ⟨b3, 4, none⟩ = some (.slice a6 la6 ca6) ∧
  CallsH Tryz.prog 57 #[.slice a5 la5 ca5, .slice a6 la6 ca6] h4 fun v7 h8 =>
  ∃ b9 : Bool, v7 = .bool b9 ∧
  ∃ (a10 : Option Addr) (la10 ca10 : Nat), cellH h8 ⟨b1, 5, none⟩ = some (.slice a10 la10 ca10) ∧
  ∃ (a11 : Option Addr) (la11 ca11 : Nat), cellH h8 ⟨b3, 5, none⟩ = some (.slice a11 la11 ca11) ∧
  CallsH Tryz.prog 58 #[.slice a10 la10 ca10, .slice a11 la11 ca11] h8 fun v12 h13 =>
  ∃ b14 : Bool, v12 = .bool b14 ∧
  cond b9 (cond b14 (∃ x15 : Int, cellH h13 ⟨b1, 0, none⟩ = some (.int .u32 x15) ∧
      ∃ x16 : Int, cellH h13 ⟨b3, 0, none⟩ = some (.int .u32 x16) ∧
      cond (x15 == x16) (∃ x17 : Int, cellH h13 ⟨b1, 1, none⟩ = some (.int .i64 x17) ∧
        ∃ x18 : Int, cellH h13 ⟨b3, 1, none⟩ = some (.int .i64 x18) ∧
        cond (x17 == x18) (∃ s19 : ByteArray, cellH h13 ⟨b1, 2, none⟩ = some (.string s19) ∧
          ∃ s20 : ByteArray, cellH h13 ⟨b3, 2, none⟩ = some (.string s20) ∧
          cond (strEq s19 s20) (∃ s21 : ByteArray, cellH h13 ⟨b1, 3, none⟩ = some (.string s21) ∧
            ∃ s22 : ByteArray, cellH h13 ⟨b3, 3, none⟩ = some (.string s22) ∧
            R (.bool (strEq s21 s22)) h13) (R (.bool false) h13)) (R (.bool false) h13)) (R (.bool false) h13)) (R (.bool false) h13)) (R (.bool false) h13)
theorem vf20 (a0a_0 : Int) (a0a_1 : Int) (a0a_2 : ByteArray) (a0a_3 : ByteArray) (a0a_4 : Option Addr) (la0a_4 ca0a_4 : Nat) (a0a_5 : Option Addr) (la0a_5 ca0a_5 : Nat) (a1b_0 : Int) (a1b_1 : Int) (a1b_2 : ByteArray) (a1b_3 : ByteArray) (a1b_4 : Option Addr) (la1b_4 ca1b_4 : Nat) (a1b_5 : Option Addr) (la1b_5 ca1b_5 : Nat) (h : Heap) (R : KV) (hF : F20 a0a_0 a0a_1 a0a_2 a0a_3 a0a_4 la0a_4 ca0a_4 a0a_5 la0a_5 ca0a_5 a1b_0 a1b_1 a1b_2 a1b_3 a1b_4 la1b_4 ca1b_4 a1b_5 la1b_5 ca1b_5 h R) : CallsH Tryz.prog 20 #[.agg #[.int .u32 a0a_0, .int .i64 a0a_1, .string a0a_2, .string a0a_3, .slice a0a_4 la0a_4 ca0a_4, .slice a0a_5 la0a_5 ca0a_5], .agg #[.int .u32 a1b_0, .int .i64 a1b_1, .string a1b_2, .string a1b_3, .slice a1b_4 la1b_4 ca1b_4, .slice a1b_5 la1b_5 ca1b_5]] h R :=
  calls_of_form (A := an20) (fn := Tryz.f20) (c := c20) (args := [.agg #[.int .u32 a0a_0, .int .i64 a0a_1, .string a0a_2, .string a0a_3, .slice a0a_4 la0a_4 ca0a_4, .slice a0a_5 la0a_5 ca0a_5], .agg #[.int .u32 a1b_0, .int .i64 a1b_1, .string a1b_2, .string a1b_3, .slice a1b_4 la1b_4 ca1b_4, .slice a1b_5 la1b_5 ca1b_5]]) Tryz.func20 (by kernel_rfl) mixed (by kernel_rfl) (by kernel_rfl : F20 a0a_0 a0a_1 a0a_2 a0a_3 a0a_4 la0a_4 ca0a_4 a0a_5 la0a_5 ca0a_5 a1b_0 a1b_1 a1b_2 a1b_3 a1b_4 la1b_4 ca1b_4 a1b_5 la1b_5 ca1b_5 h R = vcF Tryz.prog an20 Tryz.f20 c20 [.agg #[.int .u32 a0a_0, .int .i64 a0a_1, .string a0a_2, .string a0a_3, .slice a0a_4 la0a_4 ca0a_4, .slice a0a_5 la0a_5 ca0a_5], .agg #[.int .u32 a1b_0, .int .i64 a1b_1, .string a1b_2, .string a1b_3, .slice a1b_4 la1b_4 ca1b_4, .slice a1b_5 la1b_5 ca1b_5]] h R) hF
/-! ### 21 refrain/refrainlaw30.sameReply -/
noncomputable def c21 : Code := match Tryz.f21.body with | some c => c | none => .skip
noncomputable def an21 : Ann := { loops := fun i => match i with | 4 => [(4, .bool), (5, .int .i64)] | 9 => [(4, .bool), (6, .int .i64)] | 15 => [(4, .bool), (8, .int .i64)] | _ => [], draws := fun i => match i with | 6 => #[0, 1, 0, 7, 15, 0, 32, 0, 224, 480, 1023] | 11 => #[0, 1, 0, 7, 15, 31, 0, 64, 0, 448, 960, 1984, 4095, 8191] | 12 => #[0, 1, 3, 7, 15, 7, 63, 127, 255, 7, 519, 7, 3591, 7687, 15879, 32767, 65535] | 17 => #[0, 1, 0, 7, 15, 0, 32, 0, 224, 480, 1023, 2047] | _ => #[], joins := fun i => none }
def F21 (a0a_0 : Int) (a0a_1 : Bool) (a0a_2 : Int) (a0a_3 : Int) (a0a_4 : Option Addr) (la0a_4 ca0a_4 : Nat) (a0a_5 : Option Addr) (la0a_5 ca0a_5 : Nat) (a0a_6 : Option Addr) (la0a_6 ca0a_6 : Nat) (a0a_7 : Option Addr) (la0a_7 ca0a_7 : Nat) (a0a_8 : Int) (a0a_9 : Int) (a0a_10 : Int) (a0a_11 : Bool) (a1b_0 : Int) (a1b_1 : Bool) (a1b_2 : Int) (a1b_3 : Int) (a1b_4 : Option Addr) (la1b_4 ca1b_4 : Nat) (a1b_5 : Option Addr) (la1b_5 ca1b_5 : Nat) (a1b_6 : Option Addr) (la1b_6 ca1b_6 : Nat) (a1b_7 : Option Addr) (la1b_7 ca1b_7 : Nat) (a1b_8 : Int) (a1b_9 : Int) (a1b_10 : Int) (a1b_11 : Bool) (h : Heap) (R : KV) : Prop :=
  VNew h (.cells #[.int .u32 a0a_0, .bool a0a_1, .int .i64 a0a_2, .int .i64 a0a_3, .slice a0a_4 la0a_4 ca0a_4, .slice a0a_5 la0a_5 ca0a_5, .slice a0a_6 la0a_6 ca0a_6, .slice a0a_7 la0a_7 ca0a_7, .int .i64 a0a_8, .int .i64 a0a_9, .int .i64 a0a_10, .bool a0a_11] 65) fun b1 h2 =>
  VNew h2 (.cells #[.int .u32 a1b_0, .bool a1b_1, .int .i64 a1b_2, .int .i64 a1b_3, .slice a1b_4 la1b_4 ca1b_4, .slice a1b_5 la1b_5 ca1b_5, .slice a1b_6 la1b_6 ca1b_6, .slice a1b_7 la1b_7 ca1b_7, .int .i64 a1b_8, .int .i64 a1b_9, .int .i64 a1b_10, .bool a1b_11] 65) fun b3 h4 =>
  ∃ (a5 : Option Addr) (la5 ca5 : Nat), cellH h4 ⟨b1, 4, none⟩ = some (.slice a5 la5 ca5) ∧
  ∃ (a6 : Option Addr) (la6 ca6 : Nat), cellH h4 ⟨b3, 4, none⟩ = some (.slice a6 la6 ca6) ∧
  cond ((la5 : Int) != (la6 : Int)) (R (.bool false) h4) (∃ (a7 : Option Addr) (la7 ca7 : Nat), cellH h4 ⟨b1, 5, none⟩ = some (.slice a7 la7 ca7) ∧
    ∃ (a8 : Option Addr) (la8 ca8 : Nat), cellH h4 ⟨b3, 5, none⟩ = some (.slice a8 la8 ca8) ∧
    cond ((la7 : Int) != (la8 : Int)) (R (.bool false) h4) (∃ (a9 : Option Addr) (la9 ca9 : Nat), cellH h4 ⟨b1, 7, none⟩ = some (.slice a9 la9 ca9) ∧
      ∃ (a10 : Option Addr) (la10 ca10 : Nat), cellH h4 ⟨b3, 7, none⟩ = some (.slice a10 la10 ca10) ∧
      cond ((la9 : Int) != (la10 : Int))
      (R (.bool false) h4)
      (∃ I11 : Nat → Heap → Bool → Int → Prop, (∃ n12, I11 n12 h4 false 0) ∧
        ∀ (n12 : Nat) (h13 : Heap) (g14 : Env) (y_15 : Bool) (i_16 : Int), I11 n12 h13 y_15 i_16 →
        ∃ (a18 : Option Addr) (la18 ca18 : Nat), cellH h13 ⟨b1, 4, none⟩ = some (.slice a18 la18 ca18) ∧
        cond (decide (i_16 < (la18 : Int)))
        (∃ (a19 : Option Addr) (la19 ca19 : Nat), cellH h13 ⟨b1, 4, none⟩ = some (.slice a19 la19 ca19) ∧
          VIdx a19 la19 i_16 1 fun a20 =>
          ∃ x21 : Int, cellH h13 a20 = some (.int .i64 x21) ∧
          ∃ (a22 : Option Addr) (la22 ca22 : Nat), cellH h13 ⟨b3, 4, none⟩ = some (.slice a22 la22 ca22) ∧
          VIdx a22 la22 i_16 1 fun a23 =>
          ∃ x24 : Int, cellH h13 a23 = some (.int .i64 x24) ∧
          cond (x21 != x24)
          (R (.bool false) h13)
          (∃ m17, m17 < n12 ∧ I11 m17 h13 y_15 (IntKind.i64.wrap (i_16 + 1))))
        (∃ I25 : Nat → Heap → Bool → Int → Prop, (∃ n26, I25 n26 h13 y_15 0) ∧
          ∀ (n26 : Nat) (h27 : Heap) (g28 : Env) (y_29 : Bool) (i_30 : Int), I25 n26 h27 y_29 i_30 →
          ∃ (a32 : Option Addr) (la32 ca32 : Nat), cellH h27 ⟨b1, 5, none⟩ = some (.slice a32 la32 ca32) ∧
          cond (decide (i_30 < (la32 : Int)))
          (∃ (a33 : Option Addr) (la33 ca33 : Nat), cellH h27 ⟨b1, 5, none⟩ = some (.slice a33 la33 ca33) ∧
            VIdx a33 la33 i_30 2 fun a34 =>
            ∃ (a35 : Option Addr) (la35 ca35 : Nat), cellH h27 ⟨a34.block, a34.off + 1, none⟩ = some (.slice a35 la35 ca35) ∧
            ∃ (a36 : Option Addr) (la36 ca36 : Nat), cellH h27 ⟨b3, 5, none⟩ = some (.slice a36 la36 ca36) ∧
            VIdx a36 la36 i_30 2 fun a37 =>
            ∃ (a38 : Option Addr) (la38 ca38 : Nat), cellH h27 ⟨a37.block, a37.off + 1, none⟩ = some (.slice a38 la38 ca38) ∧
            CallsH Tryz.prog 59 #[.slice a35 la35 ca35, .slice a38 la38 ca38] h27 fun v39 h40 =>
            ∃ b41 : Bool, v39 = .bool b41 ∧
            cond (!b41) (R (.bool false) h40) (∃ (a42 : Option Addr) (la42 ca42 : Nat), cellH h40 ⟨b1, 5, none⟩ = some (.slice a42 la42 ca42) ∧
              VIdx a42 la42 i_30 2 fun a43 =>
              ∃ s44 : ByteArray, cellH h40 a43 = some (.string s44) ∧
              ∃ (a45 : Option Addr) (la45 ca45 : Nat), cellH h40 ⟨b3, 5, none⟩ = some (.slice a45 la45 ca45) ∧
              VIdx a45 la45 i_30 2 fun a46 =>
              ∃ s47 : ByteArray, cellH h40 a46 = some (.string s47) ∧
              cond (!strEq s44 s47)
              (R (.bool false) h40)
              (∃ m31, m31 < n26 ∧ I25 m31 h40 y_29 (IntKind.i64.wrap (i_30 + 1)))))
          (∃ I48 : Nat → Heap → Bool → Int → Prop, (∃ n49, I48 n49 h27 y_29 0) ∧
            ∀ (n49 : Nat) (h50 : Heap) (g51 : Env) (y_52 : Bool) (i_53 : Int), I48 n49 h50 y_52 i_53 →
            ∃ (a55 : Option Addr) (la55 ca55 : Nat), cellH h50 ⟨b1, 7, none⟩ = some (.slice a55 la55 ca55) ∧
            cond (decide (i_53 < (la55 : Int)))
            (∃ (a56 : Option Addr) (la56 ca56 : Nat), cellH h50 ⟨b1, 7, none⟩ = some (.slice a56 la56 ca56) ∧
              VIdx a56 la56 i_53 1 fun a57 =>
              ∃ (a58 : Option Addr) (la58 ca58 : Nat), cellH h50 a57 = some (.slice a58 la58 ca58) ∧
              ∃ (a59 : Option Addr) (la59 ca59 : Nat), cellH h50 ⟨b3, 7, none⟩ = some (.slice a59 la59 ca59) ∧
              VIdx a59 la59 i_53 1 fun a60 =>
              ∃ (a61 : Option Addr) (la61 ca61 : Nat), cellH h50 a60 = some (.slice a61 la61 ca61) ∧
              CallsH Tryz.prog 59 #[.slice a58 la58 ca58, .slice a61 la61 ca61] h50 fun v62 h63 =>
              ∃ b64 : Bool, v62 = .bool b64 ∧
              cond (!b64)
              (R (.bool false) h63)
              (∃ m54, m54 < n49 ∧ I48 m54 h63 y_52 (IntKind.i64.wrap (i_53 + 1))))
            (∃ (a65 : Option Addr) (la65 ca65 : Nat), cellH h50 ⟨b1, 6, none⟩ = some (.slice a65 la65 ca65) ∧
              ∃ (a66 : Option Addr) (la66 ca66 : Nat), cellH h50 ⟨b3, 6, none⟩ = some (.slice a66 la66 ca66) ∧
              CallsH Tryz.prog 57 #[.slice a65 la65 ca65, .slice a66 la66 ca66] h50 fun v67 h68 =>
              ∃ b69 : Bool, v67 = .bool b69 ∧
              cond b69 (∃ x70 : Int, cellH h68 ⟨b1, 0, none⟩ = some (.int .u32 x70) ∧
                ∃ x71 : Int, cellH h68 ⟨b3, 0, none⟩ = some (.int .u32 x71) ∧
                cond (x70 == x71) (∃ b72 : Bool, cellH h68 ⟨b1, 1, none⟩ = some (.bool b72) ∧
                  ∃ b73 : Bool, cellH h68 ⟨b3, 1, none⟩ = some (.bool b73) ∧
                  cond (b72 == b73) (∃ x74 : Int, cellH h68 ⟨b1, 2, none⟩ = some (.int .i64 x74) ∧
                    ∃ x75 : Int, cellH h68 ⟨b3, 2, none⟩ = some (.int .i64 x75) ∧
                    cond (x74 == x75) (∃ x76 : Int, cellH h68 ⟨b1, 3, none⟩ = some (.int .i64 x76) ∧
                      ∃ x77 : Int, cellH h68 ⟨b3, 3, none⟩ = some (.int .i64 x77) ∧
                      cond (x76 == x77) (∃ x78 : Int, cellH h68 ⟨b1, 8, none⟩ = some (.int .i64 x78) ∧
                        ∃ x79 : Int, cellH h68 ⟨b1, 9, none⟩ = some (.int .i64 x79) ∧
                        ∃ x80 : Int, cellH h68 ⟨b1, 10, none⟩ = some (.int .i64 x80) ∧
                        ∃ b81 : Bool, cellH h68 ⟨b1, 11, none⟩ = some (.bool b81) ∧
                        ∃ x82 : Int, cellH h68 ⟨b3, 8, none⟩ = some (.int .i64 x82) ∧
                        ∃ x83 : Int, cellH h68 ⟨b3, 9, none⟩ = some (.int .i64 x83) ∧
                        ∃ x84 : Int, cellH h68 ⟨b3, 10, none⟩ = some (.int .i64 x84) ∧
                        ∃ b85 : Bool, cellH h68 ⟨b3, 11, none⟩ = some (.bool b85) ∧
                        PureTo Tryz.prog (do eqGuard .eql 63 (.tmp 147) (.tmp 149) (.agg #[.int .i64 x78, .int .i64 x79, .int .i64 x80, .bool b81]) (.agg #[.int .i64 x82, .int .i64 x83, .int .i64 x84, .bool b85]); binOp .eql 63 (.agg #[.int .i64 x78, .int .i64 x79, .int .i64 x80, .bool b81]) (.agg #[.int .i64 x82, .int .i64 x83, .int .i64 x84, .bool b85])) fun v86 =>
                        ∃ b87 : Bool, v86 = .bool b87 ∧
                        R (.bool b87) h68) (R (.bool false) h68)) (R (.bool false) h68)) (R (.bool false) h68)) (R (.bool false) h68)) (R (.bool false) h68)))))))
theorem vf21 (a0a_0 : Int) (a0a_1 : Bool) (a0a_2 : Int) (a0a_3 : Int) (a0a_4 : Option Addr) (la0a_4 ca0a_4 : Nat) (a0a_5 : Option Addr) (la0a_5 ca0a_5 : Nat) (a0a_6 : Option Addr) (la0a_6 ca0a_6 : Nat) (a0a_7 : Option Addr) (la0a_7 ca0a_7 : Nat) (a0a_8 : Int) (a0a_9 : Int) (a0a_10 : Int) (a0a_11 : Bool) (a1b_0 : Int) (a1b_1 : Bool) (a1b_2 : Int) (a1b_3 : Int) (a1b_4 : Option Addr) (la1b_4 ca1b_4 : Nat) (a1b_5 : Option Addr) (la1b_5 ca1b_5 : Nat) (a1b_6 : Option Addr) (la1b_6 ca1b_6 : Nat) (a1b_7 : Option Addr) (la1b_7 ca1b_7 : Nat) (a1b_8 : Int) (a1b_9 : Int) (a1b_10 : Int) (a1b_11 : Bool) (h : Heap) (R : KV) (hF : F21 a0a_0 a0a_1 a0a_2 a0a_3 a0a_4 la0a_4 ca0a_4 a0a_5 la0a_5 ca0a_5 a0a_6 la0a_6 ca0a_6 a0a_7 la0a_7 ca0a_7 a0a_8 a0a_9 a0a_10 a0a_11 a1b_0 a1b_1 a1b_2 a1b_3 a1b_4 la1b_4 ca1b_4 a1b_5 la1b_5 ca1b_5 a1b_6 la1b_6 ca1b_6 a1b_7 la1b_7 ca1b_7 a1b_8 a1b_9 a1b_10 a1b_11 h R) : CallsH Tryz.prog 21 #[.agg #[.int .u32 a0a_0, .bool a0a_1, .int .i64 a0a_2, .int .i64 a0a_3, .slice a0a_4 la0a_4 ca0a_4, .slice a0a_5 la0a_5 ca0a_5, .slice a0a_6 la0a_6 ca0a_6, .slice a0a_7 la0a_7 ca0a_7, .int .i64 a0a_8, .int .i64 a0a_9, .int .i64 a0a_10, .bool a0a_11], .agg #[.int .u32 a1b_0, .bool a1b_1, .int .i64 a1b_2, .int .i64 a1b_3, .slice a1b_4 la1b_4 ca1b_4, .slice a1b_5 la1b_5 ca1b_5, .slice a1b_6 la1b_6 ca1b_6, .slice a1b_7 la1b_7 ca1b_7, .int .i64 a1b_8, .int .i64 a1b_9, .int .i64 a1b_10, .bool a1b_11]] h R :=
  calls_of_form (A := an21) (fn := Tryz.f21) (c := c21) (args := [.agg #[.int .u32 a0a_0, .bool a0a_1, .int .i64 a0a_2, .int .i64 a0a_3, .slice a0a_4 la0a_4 ca0a_4, .slice a0a_5 la0a_5 ca0a_5, .slice a0a_6 la0a_6 ca0a_6, .slice a0a_7 la0a_7 ca0a_7, .int .i64 a0a_8, .int .i64 a0a_9, .int .i64 a0a_10, .bool a0a_11], .agg #[.int .u32 a1b_0, .bool a1b_1, .int .i64 a1b_2, .int .i64 a1b_3, .slice a1b_4 la1b_4 ca1b_4, .slice a1b_5 la1b_5 ca1b_5, .slice a1b_6 la1b_6 ca1b_6, .slice a1b_7 la1b_7 ca1b_7, .int .i64 a1b_8, .int .i64 a1b_9, .int .i64 a1b_10, .bool a1b_11]]) Tryz.func21 (by kernel_rfl) mixed (by kernel_rfl) (by kernel_rfl : F21 a0a_0 a0a_1 a0a_2 a0a_3 a0a_4 la0a_4 ca0a_4 a0a_5 la0a_5 ca0a_5 a0a_6 la0a_6 ca0a_6 a0a_7 la0a_7 ca0a_7 a0a_8 a0a_9 a0a_10 a0a_11 a1b_0 a1b_1 a1b_2 a1b_3 a1b_4 la1b_4 ca1b_4 a1b_5 la1b_5 ca1b_5 a1b_6 la1b_6 ca1b_6 a1b_7 la1b_7 ca1b_7 a1b_8 a1b_9 a1b_10 a1b_11 h R = vcF Tryz.prog an21 Tryz.f21 c21 [.agg #[.int .u32 a0a_0, .bool a0a_1, .int .i64 a0a_2, .int .i64 a0a_3, .slice a0a_4 la0a_4 ca0a_4, .slice a0a_5 la0a_5 ca0a_5, .slice a0a_6 la0a_6 ca0a_6, .slice a0a_7 la0a_7 ca0a_7, .int .i64 a0a_8, .int .i64 a0a_9, .int .i64 a0a_10, .bool a0a_11], .agg #[.int .u32 a1b_0, .bool a1b_1, .int .i64 a1b_2, .int .i64 a1b_3, .slice a1b_4 la1b_4 ca1b_4, .slice a1b_5 la1b_5 ca1b_5, .slice a1b_6 la1b_6 ca1b_6, .slice a1b_7 la1b_7 ca1b_7, .int .i64 a1b_8, .int .i64 a1b_9, .int .i64 a1b_10, .bool a1b_11]] h R) hF
/-! ### 24 refrain/proto.Frame -/
noncomputable def c24 : Code := match Tryz.f24.body with | some c => c | none => .skip
noncomputable def an24 : Ann := { loops := fun i => [], draws := fun i => #[], joins := fun i => none }
def F24 (a0payload : Option Addr) (la0payload ca0payload : Nat) (h : Heap) (R : KV) : Prop :=
  cond (decide ((la0payload : Int) > (65528 : Int)))
  (R (.tuple #[.slice none 0 0, .int .i64 2]) h)
  (CallsH Tryz.prog 63 #[.slice none 0 0, .int .u32 (IntKind.u32.wrap (la0payload : Int))] h fun v1 h2 =>
    ∃ (a3 : Option Addr) (la3 ca3 : Nat), v1 = .slice a3 la3 ca3 ∧
    RunsTo Tryz.prog (Builtin.append_ #[36, 36] 36 #[.slice a3 la3 ca3, .slice a0payload la0payload ca0payload]) h2 fun v4 h5 =>
    ∃ (a6 : Option Addr) (la6 ca6 : Nat), v4 = .slice a6 la6 ca6 ∧
    CallsH Tryz.prog 64 #[.slice a6 la6 ca6] h5 fun v7 h8 =>
    ∃ x9 : Int, v7 = .int .u32 x9 ∧
    CallsH Tryz.prog 63 #[.slice a6 la6 ca6, .int .u32 x9] h8 fun v10 h11 =>
    ∃ (a12 : Option Addr) (la12 ca12 : Nat), v10 = .slice a12 la12 ca12 ∧
    R (.tuple #[.slice a12 la12 ca12, .int .i64 0]) h11)
theorem vf24 (a0payload : Option Addr) (la0payload ca0payload : Nat) (h : Heap) (R : KV) (hF : F24 a0payload la0payload ca0payload h R) : CallsH Tryz.prog 24 #[.slice a0payload la0payload ca0payload] h R :=
  calls_of_form (A := an24) (fn := Tryz.f24) (c := c24) (args := [.slice a0payload la0payload ca0payload]) Tryz.func24 (by kernel_rfl) mixed (by kernel_rfl) (by kernel_rfl : F24 a0payload la0payload ca0payload h R = vcF Tryz.prog an24 Tryz.f24 c24 [.slice a0payload la0payload ca0payload] h R) hF
/-! ### 25 refrain/proto.Ask -/
noncomputable def c25 : Code := match Tryz.f25.body with | some c => c | none => .skip
noncomputable def an25 : Ann := { loops := fun i => match i with | 5 => [(2, .slc), (3, .int .i64), (16, .int .i64)] | 12 => [(46, .int .i64)] | _ => [], draws := fun i => #[], joins := fun i => none }
def F25 (a0q_0 : Int) (a0q_1 : Int) (a0q_2 : ByteArray) (a0q_3 : ByteArray) (a0q_4 : Option Addr) (la0q_4 ca0q_4 : Nat) (a0q_5 : Option Addr) (la0q_5 ca0q_5 : Nat) (h : Heap) (R : KV) : Prop :=
  VNew h (.cells #[.int .u32 a0q_0, .int .i64 a0q_1, .string a0q_2, .string a0q_3, .slice a0q_4 la0q_4 ca0q_4, .slice a0q_5 la0q_5 ca0q_5] 57) fun b1 h2 =>
  ∃ x3 : Int, cellH h2 ⟨b1, 1, none⟩ = some (.int .i64 x3) ∧
  CallsH Tryz.prog 45 #[.int .i64 x3] h2 fun v4 h5 =>
  ∃ b6 : Bool, v4 = .bool b6 ∧
  cond (!b6)
  (R (.tuple #[.slice none 0 0, .int .i64 301]) h5)
  (CallsH Tryz.prog 46 #[] h5 fun v7 h8 =>
    ∃ v9 : Value, ∃ v10 : Value, ∃ v11 : Value, ∃ v12 : Value, ∃ v13 : Value, ∃ v14 : Value, ∃ v15 : Value, ∃ v16 : Value, ∃ v17 : Value, ∃ v18 : Value, ∃ v19 : Value, ∃ v20 : Value, v7 = .agg #[v9, v10, v11, v12, v13, v14, v15, v16, v17, v18, v19, v20] ∧
    VNew h8 (.cells #[.nilFunc, .nilFunc, .nilFunc, .nilFunc, .nilFunc, .nilFunc, .nilFunc, .nilFunc, .nilFunc, .nilFunc, .nilFunc, .nilFunc] 103) fun b21 h22 =>
    storeL ⟨b21, 0, none⟩ 0 [v9, v10, v11, v12, v13, v14, v15, v16, v17, v18, v19, v20] h22 fun h23 =>
    ∃ v24 : Value, cellH h23 ⟨b21, 0, none⟩ = some (v24) ∧
    ∃ v25 : Value, cellH h23 ⟨b21, 1, none⟩ = some (v25) ∧
    ∃ v26 : Value, cellH h23 ⟨b21, 2, none⟩ = some (v26) ∧
    ∃ v27 : Value, cellH h23 ⟨b21, 3, none⟩ = some (v27) ∧
    ∃ v28 : Value, cellH h23 ⟨b21, 4, none⟩ = some (v28) ∧
    ∃ v29 : Value, cellH h23 ⟨b21, 5, none⟩ = some (v29) ∧
    ∃ v30 : Value, cellH h23 ⟨b21, 6, none⟩ = some (v30) ∧
    ∃ v31 : Value, cellH h23 ⟨b21, 7, none⟩ = some (v31) ∧
    ∃ v32 : Value, cellH h23 ⟨b21, 8, none⟩ = some (v32) ∧
    ∃ v33 : Value, cellH h23 ⟨b21, 9, none⟩ = some (v33) ∧
    ∃ v34 : Value, cellH h23 ⟨b21, 10, none⟩ = some (v34) ∧
    ∃ v35 : Value, cellH h23 ⟨b21, 11, none⟩ = some (v35) ∧
    ∃ I36 : Nat → Heap → Option Addr → Nat → Nat → Int → Int → Prop, (∃ n37, I36 n37 h23 none 0 0 0 0) ∧
    ∀ (n37 : Nat) (h38 : Heap) (g39 : Env) (y_40 : Option Addr) (ly_40 cy_40 : Nat) (y_41 : Int) (y_42 : Int), I36 n37 h38 y_40 ly_40 cy_40 y_41 y_42 →
    cond (decide (y_42 < (4 : Int)))
    (PureTo Tryz.prog (Instr.index 103 (.agg #[v24, v25, v26, v27, v28, v29, v30, v31, v32, v33, v34, v35]) (.int .i64 y_42)) fun v44 =>
      ∃ v45 : Value, ∃ v46 : Value, ∃ v47 : Value, v44 = .agg #[v45, v46, v47] ∧
      VNew h38 (.cells #[.nilFunc, .nilFunc, .nilFunc] 102) fun b48 h49 =>
      storeL ⟨b48, 0, none⟩ 0 [v45, v46, v47] h49 fun h50 =>
      ∃ x51 : Int, cellH h50 ⟨b1, 1, none⟩ = some (.int .i64 x51) ∧
      CallsH Tryz.prog 65 #[.int .i64 x51, .int .i64 y_42] h50 fun v52 h53 =>
      ∃ b54 : Bool, v52 = .bool b54 ∧
      cond (!b54) (∃ v55 : Value, cellH h53 ⟨b48, 0, none⟩ = some (v55) ∧
        VInvoke Tryz.prog v55 #[.pointer (some ⟨b1, 0, none⟩)] h53 fun v56 h57 =>
        ∃ b58 : Bool, v56 = .bool b58 ∧
        cond (!b58)
        (R (.tuple #[.slice none 0 0, .int .i64 301]) h57)
        (∃ m43, m43 < n37 ∧ I36 m43 h57 y_40 ly_40 cy_40 y_41 (IntKind.i64.wrap (y_42 + 1)))) (∃ m43, m43 < n37 ∧ I36 m43 h53 y_40 ly_40 cy_40 y_41 (IntKind.i64.wrap (y_42 + 1))))
    (∃ x59 : Int, cellH h38 ⟨b1, 1, none⟩ = some (.int .i64 x59) ∧
      VNew h38 (.cells #[.int .u8 (IntKind.u8.wrap x59)] 5) fun b60 h61 =>
      ∃ x62 : Int, cellH h61 ⟨b1, 0, none⟩ = some (.int .u32 x62) ∧
      CallsH Tryz.prog 63 #[.slice (some ⟨b60, 0, none⟩) 1 1, .int .u32 x62] h61 fun v63 h64 =>
      ∃ (a65 : Option Addr) (la65 ca65 : Nat), v63 = .slice a65 la65 ca65 ∧
      VNew h64 (.cells #[.slice a65 la65 ca65, .int .i64 0] 136) fun b66 h67 =>
      ∃ x68 : Int, cellH h67 ⟨b1, 1, none⟩ = some (.int .i64 x68) ∧
      VIdx (some ⟨0, 0, none⟩) 13 x68 1 fun a69 =>
      ∃ (a70 : Option Addr) (la70 ca70 : Nat), cellH h67 a69 = some (.slice a70 la70 ca70) ∧
      ∃ I71 : Nat → Heap → Int → Prop, (∃ n72, I71 n72 h67 0) ∧
      ∀ (n72 : Nat) (h73 : Heap) (g74 : Env) (y_75 : Int), I71 n72 h73 y_75 →
      cond (decide (y_75 < (la70 : Int)))
      (VIdx a70 la70 y_75 1 fun a77 =>
        ∃ x78 : Int, cellH h73 a77 = some (.int .i64 x78) ∧
        VIdx (some ⟨b21, 0, none⟩) 4 x78 3 fun a79 =>
        ∃ v80 : Value, cellH h73 ⟨a79.block, a79.off + 1, none⟩ = some (v80) ∧
        VInvoke Tryz.prog v80 #[.pointer (some ⟨b66, 0, none⟩), .pointer (some ⟨b1, 0, none⟩)] h73 fun v81 h82 =>
        ∃ m76, m76 < n72 ∧ I71 m76 h82 (IntKind.i64.wrap (y_75 + 1)))
      (CallsH Tryz.prog 66 #[.pointer (some ⟨b66, 0, none⟩)] h73 fun v83 h84 =>
        ∃ (a85 : Option Addr) (la85 ca85 : Nat), ∃ x86 : Int, v83 = .tuple #[.slice a85 la85 ca85, .int .i64 x86] ∧
        R (.tuple #[.slice a85 la85 ca85, .int .i64 x86]) h84)))
theorem vf25 (a0q_0 : Int) (a0q_1 : Int) (a0q_2 : ByteArray) (a0q_3 : ByteArray) (a0q_4 : Option Addr) (la0q_4 ca0q_4 : Nat) (a0q_5 : Option Addr) (la0q_5 ca0q_5 : Nat) (h : Heap) (R : KV) (hF : F25 a0q_0 a0q_1 a0q_2 a0q_3 a0q_4 la0q_4 ca0q_4 a0q_5 la0q_5 ca0q_5 h R) : CallsH Tryz.prog 25 #[.agg #[.int .u32 a0q_0, .int .i64 a0q_1, .string a0q_2, .string a0q_3, .slice a0q_4 la0q_4 ca0q_4, .slice a0q_5 la0q_5 ca0q_5]] h R :=
  calls_of_form (A := an25) (fn := Tryz.f25) (c := c25) (args := [.agg #[.int .u32 a0q_0, .int .i64 a0q_1, .string a0q_2, .string a0q_3, .slice a0q_4 la0q_4 ca0q_4, .slice a0q_5 la0q_5 ca0q_5]]) Tryz.func25 (by kernel_rfl) mixed (by kernel_rfl) (by kernel_rfl : F25 a0q_0 a0q_1 a0q_2 a0q_3 a0q_4 la0q_4 ca0q_4 a0q_5 la0q_5 ca0q_5 h R = vcF Tryz.prog an25 Tryz.f25 c25 [.agg #[.int .u32 a0q_0, .int .i64 a0q_1, .string a0q_2, .string a0q_3, .slice a0q_4 la0q_4 ca0q_4, .slice a0q_5 la0q_5 ca0q_5]] h R) hF
/-! ### 26 refrain/proto.Tell -/
noncomputable def c26 : Code := match Tryz.f26.body with | some c => c | none => .skip
noncomputable def an26 : Ann := { loops := fun i => [], draws := fun i => match i with | 3 => #[0, 0, 2, 6, 14, 0, 32, 126, 255, 511, 1023] | _ => #[], joins := fun i => none }
def F26 (a0p_0 : Int) (a0p_1 : Bool) (a0p_2 : Int) (a0p_3 : Int) (a0p_4 : Option Addr) (la0p_4 ca0p_4 : Nat) (a0p_5 : Option Addr) (la0p_5 ca0p_5 : Nat) (a0p_6 : Option Addr) (la0p_6 ca0p_6 : Nat) (a0p_7 : Option Addr) (la0p_7 ca0p_7 : Nat) (a0p_8 : Int) (a0p_9 : Int) (a0p_10 : Int) (a0p_11 : Bool) (h : Heap) (R : KV) : Prop :=
  VNew h (.cells #[.int .u32 a0p_0, .bool a0p_1, .int .i64 a0p_2, .int .i64 a0p_3, .slice a0p_4 la0p_4 ca0p_4, .slice a0p_5 la0p_5 ca0p_5, .slice a0p_6 la0p_6 ca0p_6, .slice a0p_7 la0p_7 ca0p_7, .int .i64 a0p_8, .int .i64 a0p_9, .int .i64 a0p_10, .bool a0p_11] 65) fun b1 h2 =>
  VNew h2 (.cells #[.slice none 0 0, .int .i64 0] 136) fun b3 h4 =>
  VNew h4 (.cells #[.pointer none] 134) fun b5 h6 =>
  VStore h6 ⟨b5, 0, none⟩ (.pointer (some ⟨b3, 0, none⟩)) fun h7 =>
  ∃ p8 : Option Addr, cellH h7 ⟨b5, 0, none⟩ = some (.pointer p8) ∧
  ∃ b9 : Bool, cellH h7 ⟨b1, 1, none⟩ = some (.bool b9) ∧
  CallsH Tryz.prog 67 #[.pointer p8, .bool b9] h7 fun v10 h11 =>
  v10 = .tuple #[] ∧
  ∃ p12 : Option Addr, cellH h11 ⟨b5, 0, none⟩ = some (.pointer p12) ∧
  ∃ p13 : Option Addr, cellH h11 ⟨b5, 0, none⟩ = some (.pointer p13) ∧
  VSome p13 fun a14 =>
  ∃ (a15 : Option Addr) (la15 ca15 : Nat), cellH h11 a14 = some (.slice a15 la15 ca15) ∧
  ∃ x16 : Int, cellH h11 ⟨b1, 0, none⟩ = some (.int .u32 x16) ∧
  CallsH Tryz.prog 63 #[.slice a15 la15 ca15, .int .u32 x16] h11 fun v17 h18 =>
  ∃ (a19 : Option Addr) (la19 ca19 : Nat), v17 = .slice a19 la19 ca19 ∧
  (cellH h18 ⟨b5, 0, none⟩ = some (.pointer p12)) ∧
  VSome p12 fun a20 =>
  VStore h18 a20 (.slice a19 la19 ca19) fun h21 =>
  ∃ p22 : Option Addr, cellH h21 ⟨b5, 0, none⟩ = some (.pointer p22) ∧
  ∃ x23 : Int, cellH h21 ⟨b1, 2, none⟩ = some (.int .i64 x23) ∧
  CallsH Tryz.prog 68 #[.pointer p22, .int .i64 x23] h21 fun v24 h25 =>
  v24 = .tuple #[] ∧
  ∃ p26 : Option Addr, cellH h25 ⟨b5, 0, none⟩ = some (.pointer p26) ∧
  ∃ x27 : Int, cellH h25 ⟨b1, 3, none⟩ = some (.int .i64 x27) ∧
  CallsH Tryz.prog 68 #[.pointer p26, .int .i64 x27] h25 fun v28 h29 =>
  v28 = .tuple #[] ∧
  ∃ p30 : Option Addr, cellH h29 ⟨b5, 0, none⟩ = some (.pointer p30) ∧
  ∃ (a31 : Option Addr) (la31 ca31 : Nat), cellH h29 ⟨b1, 4, none⟩ = some (.slice a31 la31 ca31) ∧
  CallsH Tryz.prog 69 #[.pointer p30, .slice a31 la31 ca31, .func (.func 70) #[] #[.pointer (some ⟨b5, 0, none⟩)]] h29 fun v32 h33 =>
  v32 = .tuple #[] ∧
  ∃ p34 : Option Addr, cellH h33 ⟨b5, 0, none⟩ = some (.pointer p34) ∧
  ∃ (a35 : Option Addr) (la35 ca35 : Nat), cellH h33 ⟨b1, 5, none⟩ = some (.slice a35 la35 ca35) ∧
  ∃ p36 : Option Addr, cellH h33 ⟨b5, 0, none⟩ = some (.pointer p36) ∧
  CallsH Tryz.prog 71 #[.pointer p34, .slice a35 la35 ca35, .func (.func 72) #[.pointer p36] #[]] h33 fun v37 h38 =>
  v37 = .tuple #[] ∧
  ∃ p39 : Option Addr, cellH h38 ⟨b5, 0, none⟩ = some (.pointer p39) ∧
  ∃ (a40 : Option Addr) (la40 ca40 : Nat), cellH h38 ⟨b1, 6, none⟩ = some (.slice a40 la40 ca40) ∧
  ∃ p41 : Option Addr, cellH h38 ⟨b5, 0, none⟩ = some (.pointer p41) ∧
  CallsH Tryz.prog 73 #[.pointer p39, .slice a40 la40 ca40, .func (.func 74) #[.pointer p41] #[]] h38 fun v42 h43 =>
  v42 = .tuple #[] ∧
  ∃ p44 : Option Addr, cellH h43 ⟨b5, 0, none⟩ = some (.pointer p44) ∧
  ∃ (a45 : Option Addr) (la45 ca45 : Nat), cellH h43 ⟨b1, 7, none⟩ = some (.slice a45 la45 ca45) ∧
  ∃ p46 : Option Addr, cellH h43 ⟨b5, 0, none⟩ = some (.pointer p46) ∧
  CallsH Tryz.prog 75 #[.pointer p44, .slice a45 la45 ca45, .func (.func 76) #[.pointer p46] #[]] h43 fun v47 h48 =>
  v47 = .tuple #[] ∧
  ∃ p49 : Option Addr, cellH h48 ⟨b5, 0, none⟩ = some (.pointer p49) ∧
  ∃ x50 : Int, cellH h48 ⟨b1, 8, none⟩ = some (.int .i64 x50) ∧
  CallsH Tryz.prog 68 #[.pointer p49, .int .i64 x50] h48 fun v51 h52 =>
  v51 = .tuple #[] ∧
  ∃ p53 : Option Addr, cellH h52 ⟨b5, 0, none⟩ = some (.pointer p53) ∧
  ∃ x54 : Int, cellH h52 ⟨b1, 9, none⟩ = some (.int .i64 x54) ∧
  CallsH Tryz.prog 68 #[.pointer p53, .int .i64 x54] h52 fun v55 h56 =>
  v55 = .tuple #[] ∧
  ∃ p57 : Option Addr, cellH h56 ⟨b5, 0, none⟩ = some (.pointer p57) ∧
  ∃ x58 : Int, cellH h56 ⟨b1, 10, none⟩ = some (.int .i64 x58) ∧
  CallsH Tryz.prog 68 #[.pointer p57, .int .i64 x58] h56 fun v59 h60 =>
  v59 = .tuple #[] ∧
  ∃ p61 : Option Addr, cellH h60 ⟨b5, 0, none⟩ = some (.pointer p61) ∧
  ∃ b62 : Bool, cellH h60 ⟨b1, 11, none⟩ = some (.bool b62) ∧
  CallsH Tryz.prog 67 #[.pointer p61, .bool b62] h60 fun v63 h64 =>
  v63 = .tuple #[] ∧
  ∃ p65 : Option Addr, cellH h64 ⟨b5, 0, none⟩ = some (.pointer p65) ∧
  CallsH Tryz.prog 66 #[.pointer p65] h64 fun v66 h67 =>
  ∃ (a68 : Option Addr) (la68 ca68 : Nat), ∃ x69 : Int, v66 = .tuple #[.slice a68 la68 ca68, .int .i64 x69] ∧
  R (.tuple #[.slice a68 la68 ca68, .int .i64 x69]) h67
theorem vf26 (a0p_0 : Int) (a0p_1 : Bool) (a0p_2 : Int) (a0p_3 : Int) (a0p_4 : Option Addr) (la0p_4 ca0p_4 : Nat) (a0p_5 : Option Addr) (la0p_5 ca0p_5 : Nat) (a0p_6 : Option Addr) (la0p_6 ca0p_6 : Nat) (a0p_7 : Option Addr) (la0p_7 ca0p_7 : Nat) (a0p_8 : Int) (a0p_9 : Int) (a0p_10 : Int) (a0p_11 : Bool) (h : Heap) (R : KV) (hF : F26 a0p_0 a0p_1 a0p_2 a0p_3 a0p_4 la0p_4 ca0p_4 a0p_5 la0p_5 ca0p_5 a0p_6 la0p_6 ca0p_6 a0p_7 la0p_7 ca0p_7 a0p_8 a0p_9 a0p_10 a0p_11 h R) : CallsH Tryz.prog 26 #[.agg #[.int .u32 a0p_0, .bool a0p_1, .int .i64 a0p_2, .int .i64 a0p_3, .slice a0p_4 la0p_4 ca0p_4, .slice a0p_5 la0p_5 ca0p_5, .slice a0p_6 la0p_6 ca0p_6, .slice a0p_7 la0p_7 ca0p_7, .int .i64 a0p_8, .int .i64 a0p_9, .int .i64 a0p_10, .bool a0p_11]] h R :=
  calls_of_form (A := an26) (fn := Tryz.f26) (c := c26) (args := [.agg #[.int .u32 a0p_0, .bool a0p_1, .int .i64 a0p_2, .int .i64 a0p_3, .slice a0p_4 la0p_4 ca0p_4, .slice a0p_5 la0p_5 ca0p_5, .slice a0p_6 la0p_6 ca0p_6, .slice a0p_7 la0p_7 ca0p_7, .int .i64 a0p_8, .int .i64 a0p_9, .int .i64 a0p_10, .bool a0p_11]]) Tryz.func26 (by kernel_rfl) mixed (by kernel_rfl) (by kernel_rfl : F26 a0p_0 a0p_1 a0p_2 a0p_3 a0p_4 la0p_4 ca0p_4 a0p_5 la0p_5 ca0p_5 a0p_6 la0p_6 ca0p_6 a0p_7 la0p_7 ca0p_7 a0p_8 a0p_9 a0p_10 a0p_11 h R = vcF Tryz.prog an26 Tryz.f26 c26 [.agg #[.int .u32 a0p_0, .bool a0p_1, .int .i64 a0p_2, .int .i64 a0p_3, .slice a0p_4 la0p_4 ca0p_4, .slice a0p_5 la0p_5 ca0p_5, .slice a0p_6 la0p_6 ca0p_6, .slice a0p_7 la0p_7 ca0p_7, .int .i64 a0p_8, .int .i64 a0p_9, .int .i64 a0p_10, .bool a0p_11]] h R) hF
/-! ### 38 slices.Clone[[]byte,byte] -/
noncomputable def c38 : Code := match Tryz.f38.body with | some c => c | none => .skip
noncomputable def an38 : Ann := { loops := fun i => [], draws := fun i => #[], joins := fun i => none }
def F38 (a0s : Option Addr) (la0s ca0s : Nat) (h : Heap) (R : KV) : Prop :=
  cond a0s.isNone
  (R (.slice none 0 0) h)
  (VNew h (.cells #[] 5) fun b1 h2 =>
    RunsTo Tryz.prog (Builtin.append_ #[36, 36] 36 #[.slice (some ⟨b1, 0, none⟩) 0 0, .slice a0s la0s ca0s]) h2 fun v3 h4 =>
    ∃ (a5 : Option Addr) (la5 ca5 : Nat), v3 = .slice a5 la5 ca5 ∧
    R (.slice a5 la5 ca5) h4)
theorem vf38 (a0s : Option Addr) (la0s ca0s : Nat) (h : Heap) (R : KV) (hF : F38 a0s la0s ca0s h R) : CallsH Tryz.prog 38 #[.slice a0s la0s ca0s] h R :=
  calls_of_form (A := an38) (fn := Tryz.f38) (c := c38) (args := [.slice a0s la0s ca0s]) Tryz.func38 (by kernel_rfl) mixed (by kernel_rfl) (by kernel_rfl : F38 a0s la0s ca0s h R = vcF Tryz.prog an38 Tryz.f38 c38 [.slice a0s la0s ca0s] h R) hF
/-! ### 39 (refrain/proto.Stream).next -/
noncomputable def c39 : Code := match Tryz.f39.body with | some c => c | none => .skip
noncomputable def an39 : Ann := { loops := fun i => [], draws := fun i => match i with | 10 => #[0, 1, 3, 7, 0, 31, 63, 0, 128, 384, 896, 0, 3968, 8191, 16383] | _ => #[], joins := fun i => none }
def F39 (a0s : Option Addr) (h : Heap) (R : KV) : Prop :=
  VSome a0s fun a1 =>
  ∃ (a2 : Option Addr) (la2 ca2 : Nat), cellH h a1 = some (.slice a2 la2 ca2) ∧
  cond (decide ((la2 : Int) < (4 : Int)))
  (R (.tuple #[.slice none 0 0, .bool false]) h)
  (VSome a0s fun a3 =>
    ∃ (a4 : Option Addr) (la4 ca4 : Nat), cellH h a3 = some (.slice a4 la4 ca4) ∧
    CallsH Tryz.prog 97 #[.slice a4 la4 ca4] h fun v5 h6 =>
    ∃ x7 : Int, v5 = .int .u32 x7 ∧
    cond (decide (x7 > (65528 : Int)))
    (VSome a0s fun a8 =>
      VStore h6 ⟨a8.block, a8.off + 1, none⟩ (.bool true) fun h9 =>
      R (.tuple #[.slice none 0 0, .bool false]) h9)
    (VSome a0s fun a10 =>
      ∃ (a11 : Option Addr) (la11 ca11 : Nat), cellH h6 a10 = some (.slice a11 la11 ca11) ∧
      cond (decide ((la11 : Int) < (IntKind.i64.wrap ((IntKind.i64.wrap ((IntKind.i64.wrap x7) + 4)) + 4))))
      (R (.tuple #[.slice none 0 0, .bool false]) h6)
      (VSome a0s fun a12 =>
        ∃ (a13 : Option Addr) (la13 ca13 : Nat), cellH h6 a12 = some (.slice a13 la13 ca13) ∧
        VSlice 1 a13 ca13 0 (IntKind.i64.wrap ((IntKind.i64.wrap x7) + 4)) (ca13 : Int) fun a14 la14 ca14 =>
        VSome a0s fun a15 =>
        ∃ (a16 : Option Addr) (la16 ca16 : Nat), cellH h6 a15 = some (.slice a16 la16 ca16) ∧
        VSlice 1 a16 ca16 (IntKind.i64.wrap ((IntKind.i64.wrap x7) + 4)) (la16 : Int) (ca16 : Int) fun a17 la17 ca17 =>
        CallsH Tryz.prog 64 #[.slice a14 la14 ca14] h6 fun v18 h19 =>
        ∃ x20 : Int, v18 = .int .u32 x20 ∧
        (cellH h19 a15 = some (.slice a16 la16 ca16)) ∧
        CallsH Tryz.prog 97 #[.slice a17 la17 ca17] h19 fun v21 h22 =>
        ∃ x23 : Int, v21 = .int .u32 x23 ∧
        cond (x20 != x23)
        (VSome a0s fun a24 =>
          VStore h22 ⟨a24.block, a24.off + 1, none⟩ (.bool true) fun h25 =>
          R (.tuple #[.slice none 0 0, .bool false]) h25)
        (VSome a0s fun a26 =>
          ∃ (a27 : Option Addr) (la27 ca27 : Nat), cellH h22 a26 = some (.slice a27 la27 ca27) ∧
          VSlice 1 a27 ca27 4 (IntKind.i64.wrap ((IntKind.i64.wrap x7) + 4)) (ca27 : Int) fun a28 la28 ca28 =>
          CallsH Tryz.prog 38 #[.slice a28 la28 ca28] h22 fun v29 h30 =>
          ∃ (a31 : Option Addr) (la31 ca31 : Nat), v29 = .slice a31 la31 ca31 ∧
          VSome a0s fun a32 =>
          ∃ (a33 : Option Addr) (la33 ca33 : Nat), cellH h30 a32 = some (.slice a33 la33 ca33) ∧
          VSlice 1 a33 ca33 (IntKind.i64.wrap ((IntKind.i64.wrap ((IntKind.i64.wrap x7) + 4)) + 4)) (la33 : Int) (ca33 : Int) fun a34 la34 ca34 =>
          VSome a0s fun a35 =>
          VStore h30 a35 (.slice a34 la34 ca34) fun h36 =>
          R (.tuple #[.slice a31 la31 ca31, .bool true]) h36))))
theorem vf39 (a0s : Option Addr) (h : Heap) (R : KV) (hF : F39 a0s h R) : CallsH Tryz.prog 39 #[.pointer a0s] h R :=
  calls_of_form (A := an39) (fn := Tryz.f39) (c := c39) (args := [.pointer a0s]) Tryz.func39 (by kernel_rfl) mixed (by kernel_rfl) (by kernel_rfl : F39 a0s h R = vcF Tryz.prog an39 Tryz.f39 c39 [.pointer a0s] h R) hF
/-! ### 43 (refrain/proto.reader).one -/
noncomputable def c43 : Code := match Tryz.f43.body with | some c => c | none => .skip
noncomputable def an43 : Ann := { loops := fun i => [], draws := fun i => #[], joins := fun i => none }
def F43 (a0r : Option Addr) (h : Heap) (R : KV) : Prop :=
  CallsH Tryz.prog 98 #[.pointer a0r, .int .i64 1] h fun v1 h2 =>
  ∃ (a3 : Option Addr) (la3 ca3 : Nat), v1 = .slice a3 la3 ca3 ∧
  cond ((la3 : Int) == (1 : Int))
  (VIdx a3 la3 0 1 fun a4 =>
    ∃ x5 : Int, cellH h2 a4 = some (.int .u8 x5) ∧
    R (.int .u8 x5) h2)
  (R (.int .u8 0) h2)
theorem vf43 (a0r : Option Addr) (h : Heap) (R : KV) (hF : F43 a0r h R) : CallsH Tryz.prog 43 #[.pointer a0r] h R :=
  calls_of_form (A := an43) (fn := Tryz.f43) (c := c43) (args := [.pointer a0r]) Tryz.func43 (by kernel_rfl) mixed (by kernel_rfl) (by kernel_rfl : F43 a0r h R = vcF Tryz.prog an43 Tryz.f43 c43 [.pointer a0r] h R) hF
/-! ### 44 (refrain/proto.reader).id -/
noncomputable def c44 : Code := match Tryz.f44.body with | some c => c | none => .skip
noncomputable def an44 : Ann := { loops := fun i => [], draws := fun i => #[], joins := fun i => none }
def F44 (a0r : Option Addr) (h : Heap) (R : KV) : Prop :=
  CallsH Tryz.prog 98 #[.pointer a0r, .int .i64 4] h fun v1 h2 =>
  ∃ (a3 : Option Addr) (la3 ca3 : Nat), v1 = .slice a3 la3 ca3 ∧
  cond ((la3 : Int) == (4 : Int))
  (CallsH Tryz.prog 97 #[.slice a3 la3 ca3] h2 fun v4 h5 =>
    ∃ x6 : Int, v4 = .int .u32 x6 ∧
    R (.int .u32 x6) h5)
  (R (.int .u32 0) h2)
theorem vf44 (a0r : Option Addr) (h : Heap) (R : KV) (hF : F44 a0r h R) : CallsH Tryz.prog 44 #[.pointer a0r] h R :=
  calls_of_form (A := an44) (fn := Tryz.f44) (c := c44) (args := [.pointer a0r]) Tryz.func44 (by kernel_rfl) mixed (by kernel_rfl) (by kernel_rfl : F44 a0r h R = vcF Tryz.prog an44 Tryz.f44 c44 [.pointer a0r] h R) hF
/-! ### 45 refrain/proto.known -/
noncomputable def c45 : Code := match Tryz.f45.body with | some c => c | none => .skip
noncomputable def an45 : Ann := { loops := fun i => [], draws := fun i => #[], joins := fun i => none }
def F45 (a0kind : Int) (h : Heap) (R : KV) : Prop :=
  cond (decide (a0kind ≥ (1 : Int))) (R (.bool (decide (a0kind < (13 : Int)))) h) (R (.bool false) h)
theorem vf45 (a0kind : Int) (h : Heap) (R : KV) (hF : F45 a0kind h R) : CallsH Tryz.prog 45 #[.int .i64 a0kind] h R :=
  calls_of_form (A := an45) (fn := Tryz.f45) (c := c45) (args := [.int .i64 a0kind]) Tryz.func45 (by kernel_rfl) mixed (by kernel_rfl) (by kernel_rfl : F45 a0kind h R = vcF Tryz.prog an45 Tryz.f45 c45 [.int .i64 a0kind] h R) hF
/-! ### 46 refrain/proto.fields -/
noncomputable def c46 : Code := match Tryz.f46.body with | some c => c | none => .skip
noncomputable def an46 : Ann := { loops := fun i => [], draws := fun i => #[], joins := fun i => none }
def F46  (h : Heap) (R : KV) : Prop :=
  VNew h (.cells #[.nilFunc, .nilFunc, .nilFunc, .nilFunc, .nilFunc, .nilFunc, .nilFunc, .nilFunc, .nilFunc, .nilFunc, .nilFunc, .nilFunc] 103) fun b1 h2 =>
  storeL ⟨b1, 0, none⟩ 0 [.func (.func 99) #[] #[], .func (.func 100) #[] #[], .func (.func 101) #[] #[], .func (.func 102) #[] #[], .func (.func 103) #[] #[], .func (.func 104) #[] #[], .func (.func 105) #[] #[], .func (.func 106) #[] #[], .func (.func 107) #[] #[], .func (.func 108) #[] #[], .func (.func 109) #[] #[], .func (.func 112) #[] #[]] h2 fun h3 =>
  ∃ v4 : Value, cellH h3 ⟨b1, 0, none⟩ = some (v4) ∧
  ∃ v5 : Value, cellH h3 ⟨b1, 1, none⟩ = some (v5) ∧
  ∃ v6 : Value, cellH h3 ⟨b1, 2, none⟩ = some (v6) ∧
  ∃ v7 : Value, cellH h3 ⟨b1, 3, none⟩ = some (v7) ∧
  ∃ v8 : Value, cellH h3 ⟨b1, 4, none⟩ = some (v8) ∧
  ∃ v9 : Value, cellH h3 ⟨b1, 5, none⟩ = some (v9) ∧
  ∃ v10 : Value, cellH h3 ⟨b1, 6, none⟩ = some (v10) ∧
  ∃ v11 : Value, cellH h3 ⟨b1, 7, none⟩ = some (v11) ∧
  ∃ v12 : Value, cellH h3 ⟨b1, 8, none⟩ = some (v12) ∧
  ∃ v13 : Value, cellH h3 ⟨b1, 9, none⟩ = some (v13) ∧
  ∃ v14 : Value, cellH h3 ⟨b1, 10, none⟩ = some (v14) ∧
  ∃ v15 : Value, cellH h3 ⟨b1, 11, none⟩ = some (v15) ∧
  R (.agg #[v4, v5, v6, v7, v8, v9, v10, v11, v12, v13, v14, v15]) h3
theorem vf46  (h : Heap) (R : KV) (hF : F46  h R) : CallsH Tryz.prog 46 #[] h R :=
  calls_of_form (A := an46) (fn := Tryz.f46) (c := c46) (args := []) Tryz.func46 (by kernel_rfl) mixed (by kernel_rfl) (by kernel_rfl : F46  h R = vcF Tryz.prog an46 Tryz.f46 c46 [] h R) hF
/-! ### 47 (refrain/proto.reader).truth -/
noncomputable def c47 : Code := match Tryz.f47.body with | some c => c | none => .skip
noncomputable def an47 : Ann := { loops := fun i => [], draws := fun i => #[], joins := fun i => none }
def F47 (a0r : Option Addr) (h : Heap) (R : KV) : Prop :=
  CallsH Tryz.prog 43 #[.pointer a0r] h fun v1 h2 =>
  ∃ x3 : Int, v1 = .int .u8 x3 ∧
  VSome a0r fun a4 =>
  ∃ b5 : Bool, cellH h2 ⟨a4.block, a4.off + 1, none⟩ = some (.bool b5) ∧
  cond b5 (VSome a0r fun a6 =>
    VStore h2 ⟨a6.block, a6.off + 1, none⟩ (.bool true) fun h7 =>
    R (.bool (x3 == (1 : Int))) h7) (VSome a0r fun a8 =>
    VStore h2 ⟨a8.block, a8.off + 1, none⟩ (.bool (decide (x3 > (1 : Int)))) fun h9 =>
    R (.bool (x3 == (1 : Int))) h9)
theorem vf47 (a0r : Option Addr) (h : Heap) (R : KV) (hF : F47 a0r h R) : CallsH Tryz.prog 47 #[.pointer a0r] h R :=
  calls_of_form (A := an47) (fn := Tryz.f47) (c := c47) (args := [.pointer a0r]) Tryz.func47 (by kernel_rfl) mixed (by kernel_rfl) (by kernel_rfl : F47 a0r h R = vcF Tryz.prog an47 Tryz.f47 c47 [.pointer a0r] h R) hF
/-! ### 48 (refrain/proto.reader).number -/
noncomputable def c48 : Code := match Tryz.f48.body with | some c => c | none => .skip
noncomputable def an48 : Ann := { loops := fun i => [], draws := fun i => #[], joins := fun i => none }
def F48 (a0r : Option Addr) (h : Heap) (R : KV) : Prop :=
  VSome a0r fun a1 =>
  ∃ b2 : Bool, cellH h ⟨a1.block, a1.off + 1, none⟩ = some (.bool b2) ∧
  cond b2
  (R (.int .i64 0) h)
  (VSome a0r fun a3 =>
    ∃ (a4 : Option Addr) (la4 ca4 : Nat), cellH h a3 = some (.slice a4 la4 ca4) ∧
    CallsH Tryz.prog 115 #[.slice a4 la4 ca4] h fun v5 h6 =>
    ∃ x7 : Int, ∃ x8 : Int, ∃ x9 : Int, v5 = .tuple #[.int .i64 x7, .int .i64 x8, .int .i64 x9] ∧
    cond (x9 != (0 : Int))
    (VSome a0r fun a10 =>
      VStore h6 ⟨a10.block, a10.off + 1, none⟩ (.bool true) fun h11 =>
      R (.int .i64 0) h11)
    (VSome a0r fun a12 =>
      ∃ (a13 : Option Addr) (la13 ca13 : Nat), cellH h6 a12 = some (.slice a13 la13 ca13) ∧
      VSlice 1 a13 ca13 x8 (la13 : Int) (ca13 : Int) fun a14 la14 ca14 =>
      VSome a0r fun a15 =>
      VStore h6 a15 (.slice a14 la14 ca14) fun h16 =>
      R (.int .i64 x7) h16))
theorem vf48 (a0r : Option Addr) (h : Heap) (R : KV) (hF : F48 a0r h R) : CallsH Tryz.prog 48 #[.pointer a0r] h R :=
  calls_of_form (A := an48) (fn := Tryz.f48) (c := c48) (args := [.pointer a0r]) Tryz.func48 (by kernel_rfl) mixed (by kernel_rfl) (by kernel_rfl : F48 a0r h R = vcF Tryz.prog an48 Tryz.f48 c48 [.pointer a0r] h R) hF
/-! ### 49 refrain/proto.readList[refrain/api.Errno] -/
noncomputable def c49 : Code := match Tryz.f49.body with | some c => c | none => .skip
noncomputable def an49 : Ann := { loops := fun i => match i with | 5 => [(5, .int .i64), (6, .slc)] | _ => [], draws := fun i => #[], joins := fun i => match i with | 4 => some [] | _ => none }
def F49 (a0r : Option Addr) (p1c0 : Option Addr) (h : Heap) (R : KV) : Prop :=
  CallsH Tryz.prog 48 #[.pointer a0r] h fun v1 h2 =>
  ∃ x3 : Int, v1 = .int .i64 x3 ∧
  ∃ J4 : Heap → Prop, (cond (decide (x3 < (0 : Int))) (VSome a0r fun a5 =>
      VStore h2 ⟨a5.block, a5.off + 1, none⟩ (.bool true) fun h6 =>
      J4 h6) (VSome a0r fun a7 =>
      ∃ (a8 : Option Addr) (la8 ca8 : Nat), cellH h2 a7 = some (.slice a8 la8 ca8) ∧
      cond (decide (x3 > (la8 : Int)))
      (VSome a0r fun a9 =>
        VStore h2 ⟨a9.block, a9.off + 1, none⟩ (.bool true) fun h10 =>
        J4 h10)
      (J4 h2))) ∧
  ∀ (h11 : Heap) (g12 : Env), J4 h11 →
  ∃ I13 : Nat → Heap → Int → Option Addr → Nat → Nat → Prop, (∃ n14, I13 n14 h11 x3 none 0 0) ∧
  ∀ (n14 : Nat) (h15 : Heap) (g16 : Env) (n_17 : Int) (l_18 : Option Addr) (ll_18 cl_18 : Nat), I13 n14 h15 n_17 l_18 ll_18 cl_18 →
  cond (decide (n_17 > (0 : Int))) (VSome a0r fun a20 =>
    ∃ b21 : Bool, cellH h15 ⟨a20.block, a20.off + 1, none⟩ = some (.bool b21) ∧
    cond (!b21)
    (CallsH Tryz.prog 50 #[.pointer p1c0] h15 fun v22 h23 =>
      ∃ x24 : Int, v22 = .int .i64 x24 ∧
      ∃ x25 : Int, (.int .i64 x24 : Value) = .int .i64 x25 ∧
      VNew h23 (.cells #[.int .i64 x25] 38) fun b26 h27 =>
      RunsTo Tryz.prog (Builtin.append_ #[60, 60] 60 #[.slice l_18 ll_18 cl_18, .slice (some ⟨b26, 0, none⟩) 1 1]) h27 fun v28 h29 =>
      ∃ (a30 : Option Addr) (la30 ca30 : Nat), v28 = .slice a30 la30 ca30 ∧
      ∃ m19, m19 < n14 ∧ I13 m19 h29 (IntKind.i64.wrap (n_17 - 1)) a30 la30 ca30)
    (R (.slice l_18 ll_18 cl_18) h15)) (R (.slice l_18 ll_18 cl_18) h15)
theorem vf49 (a0r : Option Addr) (p1c0 : Option Addr) (h : Heap) (R : KV) (hF : F49 a0r p1c0 h R) : CallsH Tryz.prog 49 #[.pointer a0r, .func (.func 50) #[] #[.pointer p1c0]] h R :=
  calls_of_form (A := an49) (fn := Tryz.f49) (c := c49) (args := [.pointer a0r, .func (.func 50) #[] #[.pointer p1c0]]) Tryz.func49 (by kernel_rfl) mixed (by kernel_rfl) (by kernel_rfl : F49 a0r p1c0 h R = vcF Tryz.prog an49 Tryz.f49 c49 [.pointer a0r, .func (.func 50) #[] #[.pointer p1c0]] h R) hF
/-! ### 50 refrain/proto.Told$1 -/
noncomputable def c50 : Code := match Tryz.f50.body with | some c => c | none => .skip
noncomputable def an50 : Ann := { loops := fun i => [], draws := fun i => #[], joins := fun i => none }
def F50 (k0 : Option Addr) (h : Heap) (R : KV) : Prop :=
  VSome k0 fun a1 =>
  ∃ p2 : Option Addr, cellH h a1 = some (.pointer p2) ∧
  CallsH Tryz.prog 48 #[.pointer p2] h fun v3 h4 =>
  ∃ x5 : Int, v3 = .int .i64 x5 ∧
  R (.int .i64 x5) h4
theorem vf50 (k0 : Option Addr) (h : Heap) (R : KV) (hF : F50 k0 h R) : CallsH Tryz.prog 50 #[.pointer k0] h R :=
  calls_of_form (A := an50) (fn := Tryz.f50) (c := c50) (args := [.pointer k0]) Tryz.func50 (by kernel_rfl) mixed (by kernel_rfl) (by kernel_rfl : F50 k0 h R = vcF Tryz.prog an50 Tryz.f50 c50 [.pointer k0] h R) hF
/-! ### 51 refrain/proto.readList[refrain/api.Hit] -/
noncomputable def c51 : Code := match Tryz.f51.body with | some c => c | none => .skip
noncomputable def an51 : Ann := { loops := fun i => match i with | 5 => [(5, .int .i64), (6, .slc)] | _ => [], draws := fun i => #[], joins := fun i => match i with | 4 => some [] | _ => none }
def F51 (a0r : Option Addr) (p1f0 : Option Addr) (h : Heap) (R : KV) : Prop :=
  CallsH Tryz.prog 48 #[.pointer a0r] h fun v1 h2 =>
  ∃ x3 : Int, v1 = .int .i64 x3 ∧
  ∃ J4 : Heap → Prop, (cond (decide (x3 < (0 : Int))) (VSome a0r fun a5 =>
      VStore h2 ⟨a5.block, a5.off + 1, none⟩ (.bool true) fun h6 =>
      J4 h6) (VSome a0r fun a7 =>
      ∃ (a8 : Option Addr) (la8 ca8 : Nat), cellH h2 a7 = some (.slice a8 la8 ca8) ∧
      cond (decide (x3 > (la8 : Int)))
      (VSome a0r fun a9 =>
        VStore h2 ⟨a9.block, a9.off + 1, none⟩ (.bool true) fun h10 =>
        J4 h10)
      (J4 h2))) ∧
  ∀ (h11 : Heap) (g12 : Env), J4 h11 →
  ∃ I13 : Nat → Heap → Int → Option Addr → Nat → Nat → Prop, (∃ n14, I13 n14 h11 x3 none 0 0) ∧
  ∀ (n14 : Nat) (h15 : Heap) (g16 : Env) (n_17 : Int) (l_18 : Option Addr) (ll_18 cl_18 : Nat), I13 n14 h15 n_17 l_18 ll_18 cl_18 →
  cond (decide (n_17 > (0 : Int))) (VSome a0r fun a20 =>
    ∃ b21 : Bool, cellH h15 ⟨a20.block, a20.off + 1, none⟩ = some (.bool b21) ∧
    cond (!b21)
    (CallsH Tryz.prog 52 #[.pointer p1f0] h15 fun v22 h23 =>
      ∃ s24 : ByteArray, ∃ (a25 : Option Addr) (la25 ca25 : Nat), v22 = .agg #[.string s24, .slice a25 la25 ca25] ∧
      ∃ s26 : ByteArray, ∃ (a27 : Option Addr) (la27 ca27 : Nat), (.agg #[.string s24, .slice a25 la25 ca25] : Value) = .agg #[.string s26, .slice a27 la27 ca27] ∧
      VNew h23 (.cells #[.string s26, .slice a27 la27 ca27] 114) fun b28 h29 =>
      RunsTo Tryz.prog (Builtin.append_ #[61, 61] 61 #[.slice l_18 ll_18 cl_18, .slice (some ⟨b28, 0, none⟩) 1 1]) h29 fun v30 h31 =>
      ∃ (a32 : Option Addr) (la32 ca32 : Nat), v30 = .slice a32 la32 ca32 ∧
      ∃ m19, m19 < n14 ∧ I13 m19 h31 (IntKind.i64.wrap (n_17 - 1)) a32 la32 ca32)
    (R (.slice l_18 ll_18 cl_18) h15)) (R (.slice l_18 ll_18 cl_18) h15)
theorem vf51 (a0r : Option Addr) (p1f0 : Option Addr) (h : Heap) (R : KV) (hF : F51 a0r p1f0 h R) : CallsH Tryz.prog 51 #[.pointer a0r, .func (.func 52) #[.pointer p1f0] #[]] h R :=
  calls_of_form (A := an51) (fn := Tryz.f51) (c := c51) (args := [.pointer a0r, .func (.func 52) #[.pointer p1f0] #[]]) Tryz.func51 (by kernel_rfl) mixed (by kernel_rfl) (by kernel_rfl : F51 a0r p1f0 h R = vcF Tryz.prog an51 Tryz.f51 c51 [.pointer a0r, .func (.func 52) #[.pointer p1f0] #[]] h R) hF
/-! ### 52 (refrain/proto.reader).hit -/
noncomputable def c52 : Code := match Tryz.f52.body with | some c => c | none => .skip
noncomputable def an52 : Ann := { loops := fun i => [], draws := fun i => #[], joins := fun i => none }
def F52 (a0r : Option Addr) (h : Heap) (R : KV) : Prop :=
  VNew h (.cells #[.string (ByteArray.mk #[]), .slice none 0 0] 114) fun b1 h2 =>
  CallsH Tryz.prog 54 #[.pointer a0r] h2 fun v3 h4 =>
  ∃ s5 : ByteArray, v3 = .string s5 ∧
  CallsH Tryz.prog 56 #[.pointer a0r] h4 fun v6 h7 =>
  ∃ (a8 : Option Addr) (la8 ca8 : Nat), v6 = .slice a8 la8 ca8 ∧
  storeL ⟨b1, 0, none⟩ 0 [.string s5, .slice a8 la8 ca8] h7 fun h9 =>
  ∃ s10 : ByteArray, cellH h9 ⟨b1, 0, none⟩ = some (.string s10) ∧
  ∃ (a11 : Option Addr) (la11 ca11 : Nat), cellH h9 ⟨b1, 1, none⟩ = some (.slice a11 la11 ca11) ∧
  R (.agg #[.string s10, .slice a11 la11 ca11]) h9
theorem vf52 (a0r : Option Addr) (h : Heap) (R : KV) (hF : F52 a0r h R) : CallsH Tryz.prog 52 #[.pointer a0r] h R :=
  calls_of_form (A := an52) (fn := Tryz.f52) (c := c52) (args := [.pointer a0r]) Tryz.func52 (by kernel_rfl) mixed (by kernel_rfl) (by kernel_rfl : F52 a0r h R = vcF Tryz.prog an52 Tryz.f52 c52 [.pointer a0r] h R) hF
/-! ### 53 refrain/proto.readList[string] -/
noncomputable def c53 : Code := match Tryz.f53.body with | some c => c | none => .skip
noncomputable def an53 : Ann := { loops := fun i => match i with | 5 => [(5, .int .i64), (6, .slc)] | _ => [], draws := fun i => #[], joins := fun i => match i with | 4 => some [] | _ => none }
def F53 (a0r : Option Addr) (p1f0 : Option Addr) (h : Heap) (R : KV) : Prop :=
  CallsH Tryz.prog 48 #[.pointer a0r] h fun v1 h2 =>
  ∃ x3 : Int, v1 = .int .i64 x3 ∧
  ∃ J4 : Heap → Prop, (cond (decide (x3 < (0 : Int))) (VSome a0r fun a5 =>
      VStore h2 ⟨a5.block, a5.off + 1, none⟩ (.bool true) fun h6 =>
      J4 h6) (VSome a0r fun a7 =>
      ∃ (a8 : Option Addr) (la8 ca8 : Nat), cellH h2 a7 = some (.slice a8 la8 ca8) ∧
      cond (decide (x3 > (la8 : Int)))
      (VSome a0r fun a9 =>
        VStore h2 ⟨a9.block, a9.off + 1, none⟩ (.bool true) fun h10 =>
        J4 h10)
      (J4 h2))) ∧
  ∀ (h11 : Heap) (g12 : Env), J4 h11 →
  ∃ I13 : Nat → Heap → Int → Option Addr → Nat → Nat → Prop, (∃ n14, I13 n14 h11 x3 none 0 0) ∧
  ∀ (n14 : Nat) (h15 : Heap) (g16 : Env) (n_17 : Int) (l_18 : Option Addr) (ll_18 cl_18 : Nat), I13 n14 h15 n_17 l_18 ll_18 cl_18 →
  cond (decide (n_17 > (0 : Int))) (VSome a0r fun a20 =>
    ∃ b21 : Bool, cellH h15 ⟨a20.block, a20.off + 1, none⟩ = some (.bool b21) ∧
    cond (!b21)
    (CallsH Tryz.prog 54 #[.pointer p1f0] h15 fun v22 h23 =>
      ∃ s24 : ByteArray, v22 = .string s24 ∧
      ∃ s25 : ByteArray, (.string s24 : Value) = .string s25 ∧
      VNew h23 (.cells #[.string s25] 9) fun b26 h27 =>
      RunsTo Tryz.prog (Builtin.append_ #[54, 54] 54 #[.slice l_18 ll_18 cl_18, .slice (some ⟨b26, 0, none⟩) 1 1]) h27 fun v28 h29 =>
      ∃ (a30 : Option Addr) (la30 ca30 : Nat), v28 = .slice a30 la30 ca30 ∧
      ∃ m19, m19 < n14 ∧ I13 m19 h29 (IntKind.i64.wrap (n_17 - 1)) a30 la30 ca30)
    (R (.slice l_18 ll_18 cl_18) h15)) (R (.slice l_18 ll_18 cl_18) h15)
theorem vf53 (a0r : Option Addr) (p1f0 : Option Addr) (h : Heap) (R : KV) (hF : F53 a0r p1f0 h R) : CallsH Tryz.prog 53 #[.pointer a0r, .func (.func 54) #[.pointer p1f0] #[]] h R :=
  calls_of_form (A := an53) (fn := Tryz.f53) (c := c53) (args := [.pointer a0r, .func (.func 54) #[.pointer p1f0] #[]]) Tryz.func53 (by kernel_rfl) mixed (by kernel_rfl) (by kernel_rfl : F53 a0r p1f0 h R = vcF Tryz.prog an53 Tryz.f53 c53 [.pointer a0r, .func (.func 54) #[.pointer p1f0] #[]] h R) hF
/-! ### 54 (refrain/proto.reader).text -/
noncomputable def c54 : Code := match Tryz.f54.body with | some c => c | none => .skip
noncomputable def an54 : Ann := { loops := fun i => [], draws := fun i => #[], joins := fun i => none }
def F54 (a0r : Option Addr) (h : Heap) (R : KV) : Prop :=
  CallsH Tryz.prog 48 #[.pointer a0r] h fun v1 h2 =>
  ∃ x3 : Int, v1 = .int .i64 x3 ∧
  CallsH Tryz.prog 98 #[.pointer a0r, .int .i64 x3] h2 fun v4 h5 =>
  ∃ (a6 : Option Addr) (la6 ca6 : Nat), v4 = .slice a6 la6 ca6 ∧
  RunsTo Tryz.prog (convert 36 9 (.slice a6 la6 ca6)) h5 fun v7 h8 =>
  ∃ s9 : ByteArray, v7 = .string s9 ∧
  R (.string s9) h8
theorem vf54 (a0r : Option Addr) (h : Heap) (R : KV) (hF : F54 a0r h R) : CallsH Tryz.prog 54 #[.pointer a0r] h R :=
  calls_of_form (A := an54) (fn := Tryz.f54) (c := c54) (args := [.pointer a0r]) Tryz.func54 (by kernel_rfl) mixed (by kernel_rfl) (by kernel_rfl : F54 a0r h R = vcF Tryz.prog an54 Tryz.f54 c54 [.pointer a0r] h R) hF
/-! ### 55 refrain/proto.readList[[]refrain/api.Value] -/
noncomputable def c55 : Code := match Tryz.f55.body with | some c => c | none => .skip
noncomputable def an55 : Ann := { loops := fun i => match i with | 5 => [(5, .int .i64), (6, .slc)] | _ => [], draws := fun i => #[], joins := fun i => match i with | 4 => some [] | _ => none }
def F55 (a0r : Option Addr) (p1f0 : Option Addr) (h : Heap) (R : KV) : Prop :=
  CallsH Tryz.prog 48 #[.pointer a0r] h fun v1 h2 =>
  ∃ x3 : Int, v1 = .int .i64 x3 ∧
  ∃ J4 : Heap → Prop, (cond (decide (x3 < (0 : Int))) (VSome a0r fun a5 =>
      VStore h2 ⟨a5.block, a5.off + 1, none⟩ (.bool true) fun h6 =>
      J4 h6) (VSome a0r fun a7 =>
      ∃ (a8 : Option Addr) (la8 ca8 : Nat), cellH h2 a7 = some (.slice a8 la8 ca8) ∧
      cond (decide (x3 > (la8 : Int)))
      (VSome a0r fun a9 =>
        VStore h2 ⟨a9.block, a9.off + 1, none⟩ (.bool true) fun h10 =>
        J4 h10)
      (J4 h2))) ∧
  ∀ (h11 : Heap) (g12 : Env), J4 h11 →
  ∃ I13 : Nat → Heap → Int → Option Addr → Nat → Nat → Prop, (∃ n14, I13 n14 h11 x3 none 0 0) ∧
  ∀ (n14 : Nat) (h15 : Heap) (g16 : Env) (n_17 : Int) (l_18 : Option Addr) (ll_18 cl_18 : Nat), I13 n14 h15 n_17 l_18 ll_18 cl_18 →
  cond (decide (n_17 > (0 : Int))) (VSome a0r fun a20 =>
    ∃ b21 : Bool, cellH h15 ⟨a20.block, a20.off + 1, none⟩ = some (.bool b21) ∧
    cond (!b21)
    (CallsH Tryz.prog 56 #[.pointer p1f0] h15 fun v22 h23 =>
      ∃ (a24 : Option Addr) (la24 ca24 : Nat), v22 = .slice a24 la24 ca24 ∧
      ∃ (a25 : Option Addr) (la25 ca25 : Nat), (.slice a24 la24 ca24 : Value) = .slice a25 la25 ca25 ∧
      VNew h23 (.cells #[.slice a25 la25 ca25] 112) fun b26 h27 =>
      RunsTo Tryz.prog (Builtin.append_ #[45, 45] 45 #[.slice l_18 ll_18 cl_18, .slice (some ⟨b26, 0, none⟩) 1 1]) h27 fun v28 h29 =>
      ∃ (a30 : Option Addr) (la30 ca30 : Nat), v28 = .slice a30 la30 ca30 ∧
      ∃ m19, m19 < n14 ∧ I13 m19 h29 (IntKind.i64.wrap (n_17 - 1)) a30 la30 ca30)
    (R (.slice l_18 ll_18 cl_18) h15)) (R (.slice l_18 ll_18 cl_18) h15)
theorem vf55 (a0r : Option Addr) (p1f0 : Option Addr) (h : Heap) (R : KV) (hF : F55 a0r p1f0 h R) : CallsH Tryz.prog 55 #[.pointer a0r, .func (.func 56) #[.pointer p1f0] #[]] h R :=
  calls_of_form (A := an55) (fn := Tryz.f55) (c := c55) (args := [.pointer a0r, .func (.func 56) #[.pointer p1f0] #[]]) Tryz.func55 (by kernel_rfl) mixed (by kernel_rfl) (by kernel_rfl : F55 a0r p1f0 h R = vcF Tryz.prog an55 Tryz.f55 c55 [.pointer a0r, .func (.func 56) #[.pointer p1f0] #[]] h R) hF
/-! ### 56 (refrain/proto.reader).row -/
noncomputable def c56 : Code := match Tryz.f56.body with | some c => c | none => .skip
noncomputable def an56 : Ann := { loops := fun i => [], draws := fun i => #[], joins := fun i => none }
def F56 (a0r : Option Addr) (h : Heap) (R : KV) : Prop :=
  CallsH Tryz.prog 116 #[.pointer a0r, .func (.func 117) #[.pointer a0r] #[]] h fun v1 h2 =>
  ∃ (a3 : Option Addr) (la3 ca3 : Nat), v1 = .slice a3 la3 ca3 ∧
  R (.slice a3 la3 ca3) h2
theorem vf56 (a0r : Option Addr) (h : Heap) (R : KV) (hF : F56 a0r h R) : CallsH Tryz.prog 56 #[.pointer a0r] h R :=
  calls_of_form (A := an56) (fn := Tryz.f56) (c := c56) (args := [.pointer a0r]) Tryz.func56 (by kernel_rfl) mixed (by kernel_rfl) (by kernel_rfl : F56 a0r h R = vcF Tryz.prog an56 Tryz.f56 c56 [.pointer a0r] h R) hF
/-! ### 57 refrain/refrainlaw30.sameTexts -/
noncomputable def c57 : Code := match Tryz.f57.body with | some c => c | none => .skip
noncomputable def an57 : Ann := { loops := fun i => match i with | 4 => [(4, .bool), (5, .int .i64)] | _ => [], draws := fun i => match i with | 6 => #[0, 0, 3, 7, 0, 0, 48, 112, 255] | _ => #[], joins := fun i => none }
def F57 (a0a : Option Addr) (la0a ca0a : Nat) (a1b : Option Addr) (la1b ca1b : Nat) (h : Heap) (R : KV) : Prop :=
  cond ((la0a : Int) != (la1b : Int))
  (R (.bool false) h)
  (∃ I1 : Nat → Heap → Bool → Int → Prop, (∃ n2, I1 n2 h false 0) ∧
    ∀ (n2 : Nat) (h3 : Heap) (g4 : Env) (y_5 : Bool) (i_6 : Int), I1 n2 h3 y_5 i_6 →
    cond (decide (i_6 < (la0a : Int)))
    (VIdx a0a la0a i_6 1 fun a8 =>
      ∃ s9 : ByteArray, cellH h3 a8 = some (.string s9) ∧
      VIdx a1b la1b i_6 1 fun a10 =>
      ∃ s11 : ByteArray, cellH h3 a10 = some (.string s11) ∧
      cond (!strEq s9 s11)
      (R (.bool false) h3)
      (∃ m7, m7 < n2 ∧ I1 m7 h3 y_5 (IntKind.i64.wrap (i_6 + 1))))
    (R (.bool true) h3))
theorem vf57 (a0a : Option Addr) (la0a ca0a : Nat) (a1b : Option Addr) (la1b ca1b : Nat) (h : Heap) (R : KV) (hF : F57 a0a la0a ca0a a1b la1b ca1b h R) : CallsH Tryz.prog 57 #[.slice a0a la0a ca0a, .slice a1b la1b ca1b] h R :=
  calls_of_form (A := an57) (fn := Tryz.f57) (c := c57) (args := [.slice a0a la0a ca0a, .slice a1b la1b ca1b]) Tryz.func57 (by kernel_rfl) mixed (by kernel_rfl) (by kernel_rfl : F57 a0a la0a ca0a a1b la1b ca1b h R = vcF Tryz.prog an57 Tryz.f57 c57 [.slice a0a la0a ca0a, .slice a1b la1b ca1b] h R) hF
/-! ### 58 refrain/refrainlaw30.sameEvents -/
noncomputable def c58 : Code := match Tryz.f58.body with | some c => c | none => .skip
noncomputable def an58 : Ann := { loops := fun i => match i with | 4 => [(4, .bool), (5, .int .i64)] | _ => [], draws := fun i => match i with | 6 => #[0, 0, 3, 7, 15, 0, 0, 96, 224, 480, 1023, 2047] | 7 => #[0, 1, 3, 7, 7, 31, 63, 127, 7, 7, 775, 1799, 3847, 8191, 16383, 32767, 65535, 65535, 262143, 524287, 1048575, 65535, 65535, 6356991, 14745599, 31522815, 67108863, 134217727] | _ => #[], joins := fun i => none }
def F58 (a0a : Option Addr) (la0a ca0a : Nat) (a1b : Option Addr) (la1b ca1b : Nat) (h : Heap) (R : KV) : Prop :=
  cond ((la0a : Int) != (la1b : Int))
  (R (.bool false) h)
  (∃ I1 : Nat → Heap → Bool → Int → Prop, (∃ n2, I1 n2 h false 0) ∧
    ∀ (n2 : Nat) (h3 : Heap) (g4 : Env) (y_5 : Bool) (i_6 : Int), I1 n2 h3 y_5 i_6 →
    cond (decide (i_6 < (la0a : Int)))
    (VIdx a0a la0a i_6 3 fun a8 =>
      ∃ (a9 : Option Addr) (la9 ca9 : Nat), cellH h3 ⟨a8.block, a8.off + 2, none⟩ = some (.slice a9 la9 ca9) ∧
      VIdx a1b la1b i_6 3 fun a10 =>
      ∃ (a11 : Option Addr) (la11 ca11 : Nat), cellH h3 ⟨a10.block, a10.off + 2, none⟩ = some (.slice a11 la11 ca11) ∧
      CallsH Tryz.prog 59 #[.slice a9 la9 ca9, .slice a11 la11 ca11] h3 fun v12 h13 =>
      ∃ b14 : Bool, v12 = .bool b14 ∧
      cond (!b14) (R (.bool false) h13) (VIdx a0a la0a i_6 3 fun a15 =>
        ∃ s16 : ByteArray, cellH h13 a15 = some (.string s16) ∧
        VIdx a1b la1b i_6 3 fun a17 =>
        ∃ s18 : ByteArray, cellH h13 a17 = some (.string s18) ∧
        cond (!strEq s16 s18) (R (.bool false) h13) (VIdx a0a la0a i_6 3 fun a19 =>
          ∃ x20 : Int, cellH h13 ⟨a19.block, a19.off + 1, none⟩ = some (.int .i64 x20) ∧
          VIdx a1b la1b i_6 3 fun a21 =>
          ∃ x22 : Int, cellH h13 ⟨a21.block, a21.off + 1, none⟩ = some (.int .i64 x22) ∧
          cond (x20 != x22)
          (R (.bool false) h13)
          (∃ m7, m7 < n2 ∧ I1 m7 h13 y_5 (IntKind.i64.wrap (i_6 + 1))))))
    (R (.bool true) h3))
theorem vf58 (a0a : Option Addr) (la0a ca0a : Nat) (a1b : Option Addr) (la1b ca1b : Nat) (h : Heap) (R : KV) (hF : F58 a0a la0a ca0a a1b la1b ca1b h R) : CallsH Tryz.prog 58 #[.slice a0a la0a ca0a, .slice a1b la1b ca1b] h R :=
  calls_of_form (A := an58) (fn := Tryz.f58) (c := c58) (args := [.slice a0a la0a ca0a, .slice a1b la1b ca1b]) Tryz.func58 (by kernel_rfl) mixed (by kernel_rfl) (by kernel_rfl : F58 a0a la0a ca0a a1b la1b ca1b h R = vcF Tryz.prog an58 Tryz.f58 c58 [.slice a0a la0a ca0a, .slice a1b la1b ca1b] h R) hF
/-! ### 59 refrain/refrainlaw30.sameVals -/
noncomputable def c59 : Code := match Tryz.f59.body with | some c => c | none => .skip
noncomputable def an59 : Ann := { loops := fun i => match i with | 4 => [(4, .bool), (5, .int .i64)] | _ => [], draws := fun i => match i with | 6 => #[0, 0, 3, 7, 0, 0, 48, 112, 255] | _ => #[], joins := fun i => none }
def F59 (a0a : Option Addr) (la0a ca0a : Nat) (a1b : Option Addr) (la1b ca1b : Nat) (h : Heap) (R : KV) : Prop :=
  cond ((la0a : Int) != (la1b : Int))
  (R (.bool false) h)
  (∃ I1 : Nat → Heap → Bool → Int → Prop, (∃ n2, I1 n2 h false 0) ∧
    ∀ (n2 : Nat) (h3 : Heap) (g4 : Env) (y_5 : Bool) (i_6 : Int), I1 n2 h3 y_5 i_6 →
    cond (decide (i_6 < (la0a : Int)))
    (VIdx a0a la0a i_6 4 fun a8 =>
      ∃ x9 : Int, cellH h3 a8 = some (.int .i64 x9) ∧
      ∃ x10 : Int, cellH h3 ⟨a8.block, a8.off + 1, none⟩ = some (.int .i64 x10) ∧
      ∃ s11 : ByteArray, cellH h3 ⟨a8.block, a8.off + 2, none⟩ = some (.string s11) ∧
      ∃ b12 : Bool, cellH h3 ⟨a8.block, a8.off + 3, none⟩ = some (.bool b12) ∧
      VIdx a1b la1b i_6 4 fun a13 =>
      ∃ x14 : Int, cellH h3 a13 = some (.int .i64 x14) ∧
      ∃ x15 : Int, cellH h3 ⟨a13.block, a13.off + 1, none⟩ = some (.int .i64 x15) ∧
      ∃ s16 : ByteArray, cellH h3 ⟨a13.block, a13.off + 2, none⟩ = some (.string s16) ∧
      ∃ b17 : Bool, cellH h3 ⟨a13.block, a13.off + 3, none⟩ = some (.bool b17) ∧
      PureTo Tryz.prog (do eqGuard .neq 127 (.tmp 20) (.tmp 24) (.agg #[.int .i64 x9, .int .i64 x10, .string s11, .bool b12]) (.agg #[.int .i64 x14, .int .i64 x15, .string s16, .bool b17]); binOp .neq 127 (.agg #[.int .i64 x9, .int .i64 x10, .string s11, .bool b12]) (.agg #[.int .i64 x14, .int .i64 x15, .string s16, .bool b17])) fun v18 =>
      ∃ b19 : Bool, v18 = .bool b19 ∧
      cond b19
      (R (.bool false) h3)
      (∃ m7, m7 < n2 ∧ I1 m7 h3 y_5 (IntKind.i64.wrap (i_6 + 1))))
    (R (.bool true) h3))
theorem vf59 (a0a : Option Addr) (la0a ca0a : Nat) (a1b : Option Addr) (la1b ca1b : Nat) (h : Heap) (R : KV) (hF : F59 a0a la0a ca0a a1b la1b ca1b h R) : CallsH Tryz.prog 59 #[.slice a0a la0a ca0a, .slice a1b la1b ca1b] h R :=
  calls_of_form (A := an59) (fn := Tryz.f59) (c := c59) (args := [.slice a0a la0a ca0a, .slice a1b la1b ca1b]) Tryz.func59 (by kernel_rfl) mixed (by kernel_rfl) (by kernel_rfl : F59 a0a la0a ca0a a1b la1b ca1b h R = vcF Tryz.prog an59 Tryz.f59 c59 [.slice a0a la0a ca0a, .slice a1b la1b ca1b] h R) hF
/-! ### 63 refrain/proto.four -/
noncomputable def c63 : Code := match Tryz.f63.body with | some c => c | none => .skip
noncomputable def an63 : Ann := { loops := fun i => [], draws := fun i => #[], joins := fun i => none }
def F63 (a0b : Option Addr) (la0b ca0b : Nat) (a1n : Int) (h : Heap) (R : KV) : Prop :=
  (0 : Int) ≤ 24 ∧
  (0 : Int) ≤ 16 ∧
  (0 : Int) ≤ 8 ∧
  VNew h (.cells #[.int .u8 (IntKind.u8.wrap (Int.fdiv a1n (2 ^ (min (Int.toNat 24) (IntKind.bits .u32))))), .int .u8 (IntKind.u8.wrap (Int.fdiv a1n (2 ^ (min (Int.toNat 16) (IntKind.bits .u32))))), .int .u8 (IntKind.u8.wrap (Int.fdiv a1n (2 ^ (min (Int.toNat 8) (IntKind.bits .u32))))), .int .u8 (IntKind.u8.wrap a1n)] 5) fun b1 h2 =>
  RunsTo Tryz.prog (Builtin.append_ #[36, 36] 36 #[.slice a0b la0b ca0b, .slice (some ⟨b1, 0, none⟩) 4 4]) h2 fun v3 h4 =>
  ∃ (a5 : Option Addr) (la5 ca5 : Nat), v3 = .slice a5 la5 ca5 ∧
  R (.slice a5 la5 ca5) h4
theorem vf63 (a0b : Option Addr) (la0b ca0b : Nat) (a1n : Int) (h : Heap) (R : KV) (hF : F63 a0b la0b ca0b a1n h R) : CallsH Tryz.prog 63 #[.slice a0b la0b ca0b, .int .u32 a1n] h R :=
  calls_of_form (A := an63) (fn := Tryz.f63) (c := c63) (args := [.slice a0b la0b ca0b, .int .u32 a1n]) Tryz.func63 (by kernel_rfl) mixed (by kernel_rfl) (by kernel_rfl : F63 a0b la0b ca0b a1n h R = vcF Tryz.prog an63 Tryz.f63 c63 [.slice a0b la0b ca0b, .int .u32 a1n] h R) hF
/-! ### 64 refrain/proto.sum -/
noncomputable def c64 : Code := match Tryz.f64.body with | some c => c | none => .skip
noncomputable def an64 : Ann := { loops := fun i => match i with | 3 => [(3, .int .u32), (4, .int .u32), (9, .int .i64)] | _ => [], draws := fun i => #[], joins := fun i => none }
def F64 (a0b : Option Addr) (la0b ca0b : Nat) (h : Heap) (R : KV) : Prop :=
  ∃ I1 : Nat → Heap → Int → Int → Int → Prop, (∃ n2, I1 n2 h 1 0 0) ∧
  ∀ (n2 : Nat) (h3 : Heap) (g4 : Env) (p_5 : Int) (q_6 : Int) (y_7 : Int), I1 n2 h3 p_5 q_6 y_7 →
  cond (decide (y_7 < (la0b : Int)))
  (VIdx a0b la0b y_7 1 fun a9 =>
    ∃ x10 : Int, cellH h3 a9 = some (.int .u8 x10) ∧
    (65521 : Int) ≠ (0 : Int) ∧
    (65521 : Int) ≠ (0 : Int) ∧
    ∃ m8, m8 < n2 ∧ I1 m8 h3 (Int.tmod (IntKind.u32.wrap (p_5 + (IntKind.u32.wrap x10))) 65521) (Int.tmod (IntKind.u32.wrap (q_6 + (Int.tmod (IntKind.u32.wrap (p_5 + (IntKind.u32.wrap x10))) 65521))) 65521) (IntKind.i64.wrap (y_7 + 1)))
  ((0 : Int) ≤ 16 ∧
    R (.int .u32 (bitsOp .or .u32 (IntKind.u32.wrap (q_6 * 2 ^ (min (Int.toNat 16) (IntKind.bits .u32)))) p_5)) h3)
theorem vf64 (a0b : Option Addr) (la0b ca0b : Nat) (h : Heap) (R : KV) (hF : F64 a0b la0b ca0b h R) : CallsH Tryz.prog 64 #[.slice a0b la0b ca0b] h R :=
  calls_of_form (A := an64) (fn := Tryz.f64) (c := c64) (args := [.slice a0b la0b ca0b]) Tryz.func64 (by kernel_rfl) mixed (by kernel_rfl) (by kernel_rfl : F64 a0b la0b ca0b h R = vcF Tryz.prog an64 Tryz.f64 c64 [.slice a0b la0b ca0b] h R) hF
/-! ### 65 refrain/proto.speaks -/
noncomputable def c65 : Code := match Tryz.f65.body with | some c => c | none => .skip
noncomputable def an65 : Ann := { loops := fun i => match i with | 2 => [(4, .bool), (11, .int .i64)] | _ => [], draws := fun i => #[], joins := fun i => none }
def F65 (a0kind : Int) (a1at : Int) (h : Heap) (R : KV) : Prop :=
  VIdx (some ⟨0, 0, none⟩) 13 a0kind 1 fun a1 =>
  ∃ (a2 : Option Addr) (la2 ca2 : Nat), cellH h a1 = some (.slice a2 la2 ca2) ∧
  ∃ I3 : Nat → Heap → Bool → Int → Prop, (∃ n4, I3 n4 h false 0) ∧
  ∀ (n4 : Nat) (h5 : Heap) (g6 : Env) (y_7 : Bool) (y_8 : Int), I3 n4 h5 y_7 y_8 →
  cond (decide (y_8 < (la2 : Int)))
  (VIdx a2 la2 y_8 1 fun a10 =>
    ∃ x11 : Int, cellH h5 a10 = some (.int .i64 x11) ∧
    cond (x11 == a1at)
    (R (.bool true) h5)
    (∃ m9, m9 < n4 ∧ I3 m9 h5 y_7 (IntKind.i64.wrap (y_8 + 1))))
  (R (.bool false) h5)
theorem vf65 (a0kind : Int) (a1at : Int) (h : Heap) (R : KV) (hF : F65 a0kind a1at h R) : CallsH Tryz.prog 65 #[.int .i64 a0kind, .int .i64 a1at] h R :=
  calls_of_form (A := an65) (fn := Tryz.f65) (c := c65) (args := [.int .i64 a0kind, .int .i64 a1at]) Tryz.func65 (by kernel_rfl) mixed (by kernel_rfl) (by kernel_rfl : F65 a0kind a1at h R = vcF Tryz.prog an65 Tryz.f65 c65 [.int .i64 a0kind, .int .i64 a1at] h R) hF
/-! ### 66 (refrain/proto.writer).done -/
noncomputable def c66 : Code := match Tryz.f66.body with | some c => c | none => .skip
noncomputable def an66 : Ann := { loops := fun i => [], draws := fun i => match i with | 2 => #[0, 1, 3, 7, 0, 31] | _ => #[], joins := fun i => none }
def F66 (a0w : Option Addr) (h : Heap) (R : KV) : Prop :=
  VSome a0w fun a1 =>
  ∃ x2 : Int, cellH h ⟨a1.block, a1.off + 1, none⟩ = some (.int .i64 x2) ∧
  cond (x2 != (0 : Int))
  (VSome a0w fun a3 =>
    ∃ x4 : Int, cellH h ⟨a3.block, a3.off + 1, none⟩ = some (.int .i64 x4) ∧
    R (.tuple #[.slice none 0 0, .int .i64 x4]) h)
  (VSome a0w fun a5 =>
    ∃ (a6 : Option Addr) (la6 ca6 : Nat), cellH h a5 = some (.slice a6 la6 ca6) ∧
    cond (decide ((la6 : Int) > (65528 : Int)))
    (R (.tuple #[.slice none 0 0, .int .i64 2]) h)
    (VSome a0w fun a7 =>
      ∃ (a8 : Option Addr) (la8 ca8 : Nat), cellH h a7 = some (.slice a8 la8 ca8) ∧
      R (.tuple #[.slice a8 la8 ca8, .int .i64 0]) h))
theorem vf66 (a0w : Option Addr) (h : Heap) (R : KV) (hF : F66 a0w h R) : CallsH Tryz.prog 66 #[.pointer a0w] h R :=
  calls_of_form (A := an66) (fn := Tryz.f66) (c := c66) (args := [.pointer a0w]) Tryz.func66 (by kernel_rfl) mixed (by kernel_rfl) (by kernel_rfl : F66 a0w h R = vcF Tryz.prog an66 Tryz.f66 c66 [.pointer a0w] h R) hF
/-! ### 67 (refrain/proto.writer).truth -/
noncomputable def c67 : Code := match Tryz.f67.body with | some c => c | none => .skip
noncomputable def an67 : Ann := { loops := fun i => [], draws := fun i => #[], joins := fun i => none }
def F67 (a0w : Option Addr) (a1t : Bool) (h : Heap) (R : KV) : Prop :=
  cond a1t
  (VSome a0w fun a1 =>
    ∃ (a2 : Option Addr) (la2 ca2 : Nat), cellH h a1 = some (.slice a2 la2 ca2) ∧
    VNew h (.cells #[.int .u8 1] 5) fun b3 h4 =>
    RunsTo Tryz.prog (Builtin.append_ #[36, 36] 36 #[.slice a2 la2 ca2, .slice (some ⟨b3, 0, none⟩) 1 1]) h4 fun v5 h6 =>
    ∃ (a7 : Option Addr) (la7 ca7 : Nat), v5 = .slice a7 la7 ca7 ∧
    VSome a0w fun a8 =>
    VStore h6 a8 (.slice a7 la7 ca7) fun h9 =>
    R (.tuple #[]) h9)
  (VSome a0w fun a10 =>
    ∃ (a11 : Option Addr) (la11 ca11 : Nat), cellH h a10 = some (.slice a11 la11 ca11) ∧
    VNew h (.cells #[.int .u8 0] 5) fun b12 h13 =>
    RunsTo Tryz.prog (Builtin.append_ #[36, 36] 36 #[.slice a11 la11 ca11, .slice (some ⟨b12, 0, none⟩) 1 1]) h13 fun v14 h15 =>
    ∃ (a16 : Option Addr) (la16 ca16 : Nat), v14 = .slice a16 la16 ca16 ∧
    VSome a0w fun a17 =>
    VStore h15 a17 (.slice a16 la16 ca16) fun h18 =>
    R (.tuple #[]) h18)
theorem vf67 (a0w : Option Addr) (a1t : Bool) (h : Heap) (R : KV) (hF : F67 a0w a1t h R) : CallsH Tryz.prog 67 #[.pointer a0w, .bool a1t] h R :=
  calls_of_form (A := an67) (fn := Tryz.f67) (c := c67) (args := [.pointer a0w, .bool a1t]) Tryz.func67 (by kernel_rfl) mixed (by kernel_rfl) (by kernel_rfl : F67 a0w a1t h R = vcF Tryz.prog an67 Tryz.f67 c67 [.pointer a0w, .bool a1t] h R) hF
/-! ### 68 (refrain/proto.writer).number -/
noncomputable def c68 : Code := match Tryz.f68.body with | some c => c | none => .skip
noncomputable def an68 : Ann := { loops := fun i => [], draws := fun i => match i with | 0 => #[0, 0, 2, 6, 14, 0, 32, 126, 255, 511, 1023] | _ => #[], joins := fun i => none }
def F68 (a0w : Option Addr) (a1n : Int) (h : Heap) (R : KV) : Prop :=
  VSome a0w fun a1 =>
  ∃ (a2 : Option Addr) (la2 ca2 : Nat), cellH h a1 = some (.slice a2 la2 ca2) ∧
  CallsH Tryz.prog 118 #[.int .i64 a1n] h fun v3 h4 =>
  ∃ (a5 : Option Addr) (la5 ca5 : Nat), v3 = .slice a5 la5 ca5 ∧
  (cellH h4 a1 = some (.slice a2 la2 ca2)) ∧
  RunsTo Tryz.prog (Builtin.append_ #[36, 36] 36 #[.slice a2 la2 ca2, .slice a5 la5 ca5]) h4 fun v6 h7 =>
  ∃ (a8 : Option Addr) (la8 ca8 : Nat), v6 = .slice a8 la8 ca8 ∧
  VSome a0w fun a9 =>
  VStore h7 a9 (.slice a8 la8 ca8) fun h10 =>
  R (.tuple #[]) h10
theorem vf68 (a0w : Option Addr) (a1n : Int) (h : Heap) (R : KV) (hF : F68 a0w a1n h R) : CallsH Tryz.prog 68 #[.pointer a0w, .int .i64 a1n] h R :=
  calls_of_form (A := an68) (fn := Tryz.f68) (c := c68) (args := [.pointer a0w, .int .i64 a1n]) Tryz.func68 (by kernel_rfl) mixed (by kernel_rfl) (by kernel_rfl : F68 a0w a1n h R = vcF Tryz.prog an68 Tryz.f68 c68 [.pointer a0w, .int .i64 a1n] h R) hF
/-! ### 69 refrain/proto.writeList[refrain/api.Errno] -/
noncomputable def c69 : Code := match Tryz.f69.body with | some c => c | none => .skip
noncomputable def an69 : Ann := { loops := fun i => match i with | 2 => [(14, .int .i64)] | _ => [], draws := fun i => #[], joins := fun i => none }
def F69 (a0w : Option Addr) (a1l : Option Addr) (la1l ca1l : Nat) (p2c0 : Option Addr) (h : Heap) (R : KV) : Prop :=
  CallsH Tryz.prog 68 #[.pointer a0w, .int .i64 (la1l : Int)] h fun v1 h2 =>
  v1 = .tuple #[] ∧
  ∃ I3 : Nat → Heap → Int → Prop, (∃ n4, I3 n4 h2 0) ∧
  ∀ (n4 : Nat) (h5 : Heap) (g6 : Env) (y_7 : Int), I3 n4 h5 y_7 →
  cond (decide (y_7 < (la1l : Int)))
  (VIdx a1l la1l y_7 1 fun a9 =>
    ∃ x10 : Int, cellH h5 a9 = some (.int .i64 x10) ∧
    CallsH Tryz.prog 70 #[.int .i64 x10, .pointer p2c0] h5 fun v11 h12 =>
    v11 = .tuple #[] ∧
    ∃ m8, m8 < n4 ∧ I3 m8 h12 (IntKind.i64.wrap (y_7 + 1)))
  (R (.tuple #[]) h5)
theorem vf69 (a0w : Option Addr) (a1l : Option Addr) (la1l ca1l : Nat) (p2c0 : Option Addr) (h : Heap) (R : KV) (hF : F69 a0w a1l la1l ca1l p2c0 h R) : CallsH Tryz.prog 69 #[.pointer a0w, .slice a1l la1l ca1l, .func (.func 70) #[] #[.pointer p2c0]] h R :=
  calls_of_form (A := an69) (fn := Tryz.f69) (c := c69) (args := [.pointer a0w, .slice a1l la1l ca1l, .func (.func 70) #[] #[.pointer p2c0]]) Tryz.func69 (by kernel_rfl) mixed (by kernel_rfl) (by kernel_rfl : F69 a0w a1l la1l ca1l p2c0 h R = vcF Tryz.prog an69 Tryz.f69 c69 [.pointer a0w, .slice a1l la1l ca1l, .func (.func 70) #[] #[.pointer p2c0]] h R) hF
/-! ### 70 refrain/proto.Tell$1 -/
noncomputable def c70 : Code := match Tryz.f70.body with | some c => c | none => .skip
noncomputable def an70 : Ann := { loops := fun i => [], draws := fun i => #[], joins := fun i => none }
def F70 (a0e : Int) (k0 : Option Addr) (h : Heap) (R : KV) : Prop :=
  VSome k0 fun a1 =>
  ∃ p2 : Option Addr, cellH h a1 = some (.pointer p2) ∧
  CallsH Tryz.prog 68 #[.pointer p2, .int .i64 a0e] h fun v3 h4 =>
  v3 = .tuple #[] ∧
  R (.tuple #[]) h4
theorem vf70 (a0e : Int) (k0 : Option Addr) (h : Heap) (R : KV) (hF : F70 a0e k0 h R) : CallsH Tryz.prog 70 #[.int .i64 a0e, .pointer k0] h R :=
  calls_of_form (A := an70) (fn := Tryz.f70) (c := c70) (args := [.int .i64 a0e, .pointer k0]) Tryz.func70 (by kernel_rfl) mixed (by kernel_rfl) (by kernel_rfl : F70 a0e k0 h R = vcF Tryz.prog an70 Tryz.f70 c70 [.int .i64 a0e, .pointer k0] h R) hF
/-! ### 71 refrain/proto.writeList[refrain/api.Hit] -/
noncomputable def c71 : Code := match Tryz.f71.body with | some c => c | none => .skip
noncomputable def an71 : Ann := { loops := fun i => match i with | 2 => [(14, .int .i64)] | _ => [], draws := fun i => #[], joins := fun i => none }
def F71 (a0w : Option Addr) (a1l : Option Addr) (la1l ca1l : Nat) (p2f0 : Option Addr) (h : Heap) (R : KV) : Prop :=
  CallsH Tryz.prog 68 #[.pointer a0w, .int .i64 (la1l : Int)] h fun v1 h2 =>
  v1 = .tuple #[] ∧
  ∃ I3 : Nat → Heap → Int → Prop, (∃ n4, I3 n4 h2 0) ∧
  ∀ (n4 : Nat) (h5 : Heap) (g6 : Env) (y_7 : Int), I3 n4 h5 y_7 →
  cond (decide (y_7 < (la1l : Int)))
  (VIdx a1l la1l y_7 2 fun a9 =>
    ∃ s10 : ByteArray, cellH h5 a9 = some (.string s10) ∧
    ∃ (a11 : Option Addr) (la11 ca11 : Nat), cellH h5 ⟨a9.block, a9.off + 1, none⟩ = some (.slice a11 la11 ca11) ∧
    VNew h5 (.cells #[.string (ByteArray.mk #[]), .slice none 0 0] 114) fun b12 h13 =>
    storeL ⟨b12, 0, none⟩ 0 [.string s10, .slice a11 la11 ca11] h13 fun h14 =>
    ∃ s15 : ByteArray, cellH h14 ⟨b12, 0, none⟩ = some (.string s15) ∧
    ∃ (a16 : Option Addr) (la16 ca16 : Nat), cellH h14 ⟨b12, 1, none⟩ = some (.slice a16 la16 ca16) ∧
    CallsH Tryz.prog 72 #[.pointer p2f0, .agg #[.string s15, .slice a16 la16 ca16]] h14 fun v17 h18 =>
    v17 = .tuple #[] ∧
    ∃ m8, m8 < n4 ∧ I3 m8 h18 (IntKind.i64.wrap (y_7 + 1)))
  (R (.tuple #[]) h5)
theorem vf71 (a0w : Option Addr) (a1l : Option Addr) (la1l ca1l : Nat) (p2f0 : Option Addr) (h : Heap) (R : KV) (hF : F71 a0w a1l la1l ca1l p2f0 h R) : CallsH Tryz.prog 71 #[.pointer a0w, .slice a1l la1l ca1l, .func (.func 72) #[.pointer p2f0] #[]] h R :=
  calls_of_form (A := an71) (fn := Tryz.f71) (c := c71) (args := [.pointer a0w, .slice a1l la1l ca1l, .func (.func 72) #[.pointer p2f0] #[]]) Tryz.func71 (by kernel_rfl) mixed (by kernel_rfl) (by kernel_rfl : F71 a0w a1l la1l ca1l p2f0 h R = vcF Tryz.prog an71 Tryz.f71 c71 [.pointer a0w, .slice a1l la1l ca1l, .func (.func 72) #[.pointer p2f0] #[]] h R) hF
/-! ### 72 (refrain/proto.writer).hit -/
noncomputable def c72 : Code := match Tryz.f72.body with | some c => c | none => .skip
noncomputable def an72 : Ann := { loops := fun i => [], draws := fun i => #[], joins := fun i => none }
def F72 (a0w : Option Addr) (a1x_0 : ByteArray) (a1x_1 : Option Addr) (la1x_1 ca1x_1 : Nat) (h : Heap) (R : KV) : Prop :=
  VNew h (.cells #[.string a1x_0, .slice a1x_1 la1x_1 ca1x_1] 114) fun b1 h2 =>
  ∃ s3 : ByteArray, cellH h2 ⟨b1, 0, none⟩ = some (.string s3) ∧
  CallsH Tryz.prog 74 #[.pointer a0w, .string s3] h2 fun v4 h5 =>
  v4 = .tuple #[] ∧
  ∃ (a6 : Option Addr) (la6 ca6 : Nat), cellH h5 ⟨b1, 1, none⟩ = some (.slice a6 la6 ca6) ∧
  CallsH Tryz.prog 76 #[.pointer a0w, .slice a6 la6 ca6] h5 fun v7 h8 =>
  v7 = .tuple #[] ∧
  R (.tuple #[]) h8
theorem vf72 (a0w : Option Addr) (a1x_0 : ByteArray) (a1x_1 : Option Addr) (la1x_1 ca1x_1 : Nat) (h : Heap) (R : KV) (hF : F72 a0w a1x_0 a1x_1 la1x_1 ca1x_1 h R) : CallsH Tryz.prog 72 #[.pointer a0w, .agg #[.string a1x_0, .slice a1x_1 la1x_1 ca1x_1]] h R :=
  calls_of_form (A := an72) (fn := Tryz.f72) (c := c72) (args := [.pointer a0w, .agg #[.string a1x_0, .slice a1x_1 la1x_1 ca1x_1]]) Tryz.func72 (by kernel_rfl) mixed (by kernel_rfl) (by kernel_rfl : F72 a0w a1x_0 a1x_1 la1x_1 ca1x_1 h R = vcF Tryz.prog an72 Tryz.f72 c72 [.pointer a0w, .agg #[.string a1x_0, .slice a1x_1 la1x_1 ca1x_1]] h R) hF
/-! ### 73 refrain/proto.writeList[string] -/
noncomputable def c73 : Code := match Tryz.f73.body with | some c => c | none => .skip
noncomputable def an73 : Ann := { loops := fun i => match i with | 2 => [(14, .int .i64)] | _ => [], draws := fun i => #[], joins := fun i => none }
def F73 (a0w : Option Addr) (a1l : Option Addr) (la1l ca1l : Nat) (p2f0 : Option Addr) (h : Heap) (R : KV) : Prop :=
  CallsH Tryz.prog 68 #[.pointer a0w, .int .i64 (la1l : Int)] h fun v1 h2 =>
  v1 = .tuple #[] ∧
  ∃ I3 : Nat → Heap → Int → Prop, (∃ n4, I3 n4 h2 0) ∧
  ∀ (n4 : Nat) (h5 : Heap) (g6 : Env) (y_7 : Int), I3 n4 h5 y_7 →
  cond (decide (y_7 < (la1l : Int)))
  (VIdx a1l la1l y_7 1 fun a9 =>
    ∃ s10 : ByteArray, cellH h5 a9 = some (.string s10) ∧
    CallsH Tryz.prog 74 #[.pointer p2f0, .string s10] h5 fun v11 h12 =>
    v11 = .tuple #[] ∧
    ∃ m8, m8 < n4 ∧ I3 m8 h12 (IntKind.i64.wrap (y_7 + 1)))
  (R (.tuple #[]) h5)
theorem vf73 (a0w : Option Addr) (a1l : Option Addr) (la1l ca1l : Nat) (p2f0 : Option Addr) (h : Heap) (R : KV) (hF : F73 a0w a1l la1l ca1l p2f0 h R) : CallsH Tryz.prog 73 #[.pointer a0w, .slice a1l la1l ca1l, .func (.func 74) #[.pointer p2f0] #[]] h R :=
  calls_of_form (A := an73) (fn := Tryz.f73) (c := c73) (args := [.pointer a0w, .slice a1l la1l ca1l, .func (.func 74) #[.pointer p2f0] #[]]) Tryz.func73 (by kernel_rfl) mixed (by kernel_rfl) (by kernel_rfl : F73 a0w a1l la1l ca1l p2f0 h R = vcF Tryz.prog an73 Tryz.f73 c73 [.pointer a0w, .slice a1l la1l ca1l, .func (.func 74) #[.pointer p2f0] #[]] h R) hF
/-! ### 74 (refrain/proto.writer).text -/
noncomputable def c74 : Code := match Tryz.f74.body with | some c => c | none => .skip
noncomputable def an74 : Ann := { loops := fun i => [], draws := fun i => #[], joins := fun i => none }
def F74 (a0w : Option Addr) (a1s : ByteArray) (h : Heap) (R : KV) : Prop :=
  CallsH Tryz.prog 68 #[.pointer a0w, .int .i64 (a1s.size : Int)] h fun v1 h2 =>
  v1 = .tuple #[] ∧
  VSome a0w fun a3 =>
  ∃ (a4 : Option Addr) (la4 ca4 : Nat), cellH h2 a3 = some (.slice a4 la4 ca4) ∧
  RunsTo Tryz.prog (Builtin.append_ #[36, 9] 36 #[.slice a4 la4 ca4, .string a1s]) h2 fun v5 h6 =>
  ∃ (a7 : Option Addr) (la7 ca7 : Nat), v5 = .slice a7 la7 ca7 ∧
  VSome a0w fun a8 =>
  VStore h6 a8 (.slice a7 la7 ca7) fun h9 =>
  R (.tuple #[]) h9
theorem vf74 (a0w : Option Addr) (a1s : ByteArray) (h : Heap) (R : KV) (hF : F74 a0w a1s h R) : CallsH Tryz.prog 74 #[.pointer a0w, .string a1s] h R :=
  calls_of_form (A := an74) (fn := Tryz.f74) (c := c74) (args := [.pointer a0w, .string a1s]) Tryz.func74 (by kernel_rfl) mixed (by kernel_rfl) (by kernel_rfl : F74 a0w a1s h R = vcF Tryz.prog an74 Tryz.f74 c74 [.pointer a0w, .string a1s] h R) hF
/-! ### 75 refrain/proto.writeList[[]refrain/api.Value] -/
noncomputable def c75 : Code := match Tryz.f75.body with | some c => c | none => .skip
noncomputable def an75 : Ann := { loops := fun i => match i with | 2 => [(14, .int .i64)] | _ => [], draws := fun i => #[], joins := fun i => none }
def F75 (a0w : Option Addr) (a1l : Option Addr) (la1l ca1l : Nat) (p2f0 : Option Addr) (h : Heap) (R : KV) : Prop :=
  CallsH Tryz.prog 68 #[.pointer a0w, .int .i64 (la1l : Int)] h fun v1 h2 =>
  v1 = .tuple #[] ∧
  ∃ I3 : Nat → Heap → Int → Prop, (∃ n4, I3 n4 h2 0) ∧
  ∀ (n4 : Nat) (h5 : Heap) (g6 : Env) (y_7 : Int), I3 n4 h5 y_7 →
  cond (decide (y_7 < (la1l : Int)))
  (VIdx a1l la1l y_7 1 fun a9 =>
    ∃ (a10 : Option Addr) (la10 ca10 : Nat), cellH h5 a9 = some (.slice a10 la10 ca10) ∧
    CallsH Tryz.prog 76 #[.pointer p2f0, .slice a10 la10 ca10] h5 fun v11 h12 =>
    v11 = .tuple #[] ∧
    ∃ m8, m8 < n4 ∧ I3 m8 h12 (IntKind.i64.wrap (y_7 + 1)))
  (R (.tuple #[]) h5)
theorem vf75 (a0w : Option Addr) (a1l : Option Addr) (la1l ca1l : Nat) (p2f0 : Option Addr) (h : Heap) (R : KV) (hF : F75 a0w a1l la1l ca1l p2f0 h R) : CallsH Tryz.prog 75 #[.pointer a0w, .slice a1l la1l ca1l, .func (.func 76) #[.pointer p2f0] #[]] h R :=
  calls_of_form (A := an75) (fn := Tryz.f75) (c := c75) (args := [.pointer a0w, .slice a1l la1l ca1l, .func (.func 76) #[.pointer p2f0] #[]]) Tryz.func75 (by kernel_rfl) mixed (by kernel_rfl) (by kernel_rfl : F75 a0w a1l la1l ca1l p2f0 h R = vcF Tryz.prog an75 Tryz.f75 c75 [.pointer a0w, .slice a1l la1l ca1l, .func (.func 76) #[.pointer p2f0] #[]] h R) hF
/-! ### 76 (refrain/proto.writer).row -/
noncomputable def c76 : Code := match Tryz.f76.body with | some c => c | none => .skip
noncomputable def an76 : Ann := { loops := fun i => [], draws := fun i => #[], joins := fun i => none }
def F76 (a0w : Option Addr) (a1l : Option Addr) (la1l ca1l : Nat) (h : Heap) (R : KV) : Prop :=
  CallsH Tryz.prog 119 #[.pointer a0w, .slice a1l la1l ca1l, .func (.func 120) #[.pointer a0w] #[]] h fun v1 h2 =>
  v1 = .tuple #[] ∧
  R (.tuple #[]) h2
theorem vf76 (a0w : Option Addr) (a1l : Option Addr) (la1l ca1l : Nat) (h : Heap) (R : KV) (hF : F76 a0w a1l la1l ca1l h R) : CallsH Tryz.prog 76 #[.pointer a0w, .slice a1l la1l ca1l] h R :=
  calls_of_form (A := an76) (fn := Tryz.f76) (c := c76) (args := [.pointer a0w, .slice a1l la1l ca1l]) Tryz.func76 (by kernel_rfl) mixed (by kernel_rfl) (by kernel_rfl : F76 a0w a1l la1l ca1l h R = vcF Tryz.prog an76 Tryz.f76 c76 [.pointer a0w, .slice a1l la1l ca1l] h R) hF
/-! ### 78 refrain/refrainref30.four -/
noncomputable def c78 : Code := match Tryz.f78.body with | some c => c | none => .skip
noncomputable def an78 : Ann := { loops := fun i => [], draws := fun i => #[], joins := fun i => none }
def F78 (a0n : Int) (h : Heap) (R : KV) : Prop :=
  (16777216 : Int) ≠ (0 : Int) ∧
  (65536 : Int) ≠ (0 : Int) ∧
  (256 : Int) ≠ (0 : Int) ∧
  (256 : Int) ≠ (0 : Int) ∧
  (256 : Int) ≠ (0 : Int) ∧
  (256 : Int) ≠ (0 : Int) ∧
  VNew h (.cells #[.int .u8 (IntKind.u8.wrap (IntKind.i64.wrap (Int.tdiv a0n 16777216))), .int .u8 (IntKind.u8.wrap (Int.tmod (IntKind.i64.wrap (Int.tdiv a0n 65536)) 256)), .int .u8 (IntKind.u8.wrap (Int.tmod (IntKind.i64.wrap (Int.tdiv a0n 256)) 256)), .int .u8 (IntKind.u8.wrap (Int.tmod a0n 256))] 5) fun b1 h2 =>
  R (.slice (some ⟨b1, 0, none⟩) 4 4) h2
theorem vf78 (a0n : Int) (h : Heap) (R : KV) (hF : F78 a0n h R) : CallsH Tryz.prog 78 #[.int .i64 a0n] h R :=
  calls_of_form (A := an78) (fn := Tryz.f78) (c := c78) (args := [.int .i64 a0n]) Tryz.func78 (by kernel_rfl) mixed (by kernel_rfl) (by kernel_rfl : F78 a0n h R = vcF Tryz.prog an78 Tryz.f78 c78 [.int .i64 a0n] h R) hF
/-! ### 97 refrain/proto.fourth -/
noncomputable def c97 : Code := match Tryz.f97.body with | some c => c | none => .skip
noncomputable def an97 : Ann := { loops := fun i => [], draws := fun i => match i with | 1 => #[0, 1, 3, 7, 15, 0, 32, 96, 224, 480, 1023, 0, 2048, 6144, 14336, 30720, 65535, 0, 131072, 393216, 917504, 2097151, 4194303] | _ => #[], joins := fun i => none }
def F97 (a0b : Option Addr) (la0b ca0b : Nat) (h : Heap) (R : KV) : Prop :=
  VIdx a0b la0b 0 1 fun a1 =>
  ∃ x2 : Int, cellH h a1 = some (.int .u8 x2) ∧
  (0 : Int) ≤ 24 ∧
  VIdx a0b la0b 1 1 fun a3 =>
  ∃ x4 : Int, cellH h a3 = some (.int .u8 x4) ∧
  (0 : Int) ≤ 16 ∧
  VIdx a0b la0b 2 1 fun a5 =>
  ∃ x6 : Int, cellH h a5 = some (.int .u8 x6) ∧
  (0 : Int) ≤ 8 ∧
  VIdx a0b la0b 3 1 fun a7 =>
  ∃ x8 : Int, cellH h a7 = some (.int .u8 x8) ∧
  R (.int .u32 (bitsOp .or .u32 (bitsOp .or .u32 (bitsOp .or .u32 (IntKind.u32.wrap ((IntKind.u32.wrap x2) * 2 ^ (min (Int.toNat 24) (IntKind.bits .u32)))) (IntKind.u32.wrap ((IntKind.u32.wrap x4) * 2 ^ (min (Int.toNat 16) (IntKind.bits .u32))))) (IntKind.u32.wrap ((IntKind.u32.wrap x6) * 2 ^ (min (Int.toNat 8) (IntKind.bits .u32))))) (IntKind.u32.wrap x8))) h
theorem vf97 (a0b : Option Addr) (la0b ca0b : Nat) (h : Heap) (R : KV) (hF : F97 a0b la0b ca0b h R) : CallsH Tryz.prog 97 #[.slice a0b la0b ca0b] h R :=
  calls_of_form (A := an97) (fn := Tryz.f97) (c := c97) (args := [.slice a0b la0b ca0b]) Tryz.func97 (by kernel_rfl) mixed (by kernel_rfl) (by kernel_rfl : F97 a0b la0b ca0b h R = vcF Tryz.prog an97 Tryz.f97 c97 [.slice a0b la0b ca0b] h R) hF
/-! ### 98 (refrain/proto.reader).bytes -/
noncomputable def c98 : Code := match Tryz.f98.body with | some c => c | none => .skip
noncomputable def an98 : Ann := { loops := fun i => [], draws := fun i => #[], joins := fun i => none }
def F98 (a0r : Option Addr) (a1n : Int) (h : Heap) (R : KV) : Prop :=
  VSome a0r fun a1 =>
  ∃ b2 : Bool, cellH h ⟨a1.block, a1.off + 1, none⟩ = some (.bool b2) ∧
  cond b2 (VSome a0r fun a3 =>
    VStore h ⟨a3.block, a3.off + 1, none⟩ (.bool true) fun h4 =>
    R (.slice none 0 0) h4) (cond (decide (a1n < (0 : Int))) (VSome a0r fun a5 =>
      VStore h ⟨a5.block, a5.off + 1, none⟩ (.bool true) fun h6 =>
      R (.slice none 0 0) h6) (VSome a0r fun a7 =>
      ∃ (a8 : Option Addr) (la8 ca8 : Nat), cellH h a7 = some (.slice a8 la8 ca8) ∧
      cond (decide (a1n > (la8 : Int)))
      (VSome a0r fun a9 =>
        VStore h ⟨a9.block, a9.off + 1, none⟩ (.bool true) fun h10 =>
        R (.slice none 0 0) h10)
      (VSome a0r fun a11 =>
        ∃ (a12 : Option Addr) (la12 ca12 : Nat), cellH h a11 = some (.slice a12 la12 ca12) ∧
        VSlice 1 a12 ca12 0 a1n (ca12 : Int) fun a13 la13 ca13 =>
        VSome a0r fun a14 =>
        ∃ (a15 : Option Addr) (la15 ca15 : Nat), cellH h a14 = some (.slice a15 la15 ca15) ∧
        VSlice 1 a15 ca15 a1n (la15 : Int) (ca15 : Int) fun a16 la16 ca16 =>
        VSome a0r fun a17 =>
        VStore h a17 (.slice a16 la16 ca16) fun h18 =>
        R (.slice a13 la13 ca13) h18)))
theorem vf98 (a0r : Option Addr) (a1n : Int) (h : Heap) (R : KV) (hF : F98 a0r a1n h R) : CallsH Tryz.prog 98 #[.pointer a0r, .int .i64 a1n] h R :=
  calls_of_form (A := an98) (fn := Tryz.f98) (c := c98) (args := [.pointer a0r, .int .i64 a1n]) Tryz.func98 (by kernel_rfl) mixed (by kernel_rfl) (by kernel_rfl : F98 a0r a1n h R = vcF Tryz.prog an98 Tryz.f98 c98 [.pointer a0r, .int .i64 a1n] h R) hF
/-! ### 99 refrain/proto.fields$1 -/
noncomputable def c99 : Code := match Tryz.f99.body with | some c => c | none => .skip
noncomputable def an99 : Ann := { loops := fun i => [], draws := fun i => #[], joins := fun i => none }
def F99 (a0q : Option Addr) (h : Heap) (R : KV) : Prop :=
  VSome a0q fun a1 =>
  ∃ s2 : ByteArray, cellH h ⟨a1.block, a1.off + 2, none⟩ = some (.string s2) ∧
  R (.bool (strEq s2 (ByteArray.mk #[]))) h
theorem vf99 (a0q : Option Addr) (h : Heap) (R : KV) (hF : F99 a0q h R) : CallsH Tryz.prog 99 #[.pointer a0q] h R :=
  calls_of_form (A := an99) (fn := Tryz.f99) (c := c99) (args := [.pointer a0q]) Tryz.func99 (by kernel_rfl) mixed (by kernel_rfl) (by kernel_rfl : F99 a0q h R = vcF Tryz.prog an99 Tryz.f99 c99 [.pointer a0q] h R) hF
/-! ### 100 refrain/proto.fields$2 -/
noncomputable def c100 : Code := match Tryz.f100.body with | some c => c | none => .skip
noncomputable def an100 : Ann := { loops := fun i => [], draws := fun i => #[], joins := fun i => none }
def F100 (a0w : Option Addr) (a1q : Option Addr) (h : Heap) (R : KV) : Prop :=
  VSome a1q fun a1 =>
  ∃ s2 : ByteArray, cellH h ⟨a1.block, a1.off + 2, none⟩ = some (.string s2) ∧
  CallsH Tryz.prog 74 #[.pointer a0w, .string s2] h fun v3 h4 =>
  v3 = .tuple #[] ∧
  R (.tuple #[]) h4
theorem vf100 (a0w : Option Addr) (a1q : Option Addr) (h : Heap) (R : KV) (hF : F100 a0w a1q h R) : CallsH Tryz.prog 100 #[.pointer a0w, .pointer a1q] h R :=
  calls_of_form (A := an100) (fn := Tryz.f100) (c := c100) (args := [.pointer a0w, .pointer a1q]) Tryz.func100 (by kernel_rfl) mixed (by kernel_rfl) (by kernel_rfl : F100 a0w a1q h R = vcF Tryz.prog an100 Tryz.f100 c100 [.pointer a0w, .pointer a1q] h R) hF
/-! ### 101 refrain/proto.fields$3 -/
noncomputable def c101 : Code := match Tryz.f101.body with | some c => c | none => .skip
noncomputable def an101 : Ann := { loops := fun i => [], draws := fun i => #[], joins := fun i => none }
def F101 (a0r : Option Addr) (a1q : Option Addr) (h : Heap) (R : KV) : Prop :=
  CallsH Tryz.prog 54 #[.pointer a0r] h fun v1 h2 =>
  ∃ s3 : ByteArray, v1 = .string s3 ∧
  VSome a1q fun a4 =>
  VStore h2 ⟨a4.block, a4.off + 2, none⟩ (.string s3) fun h5 =>
  R (.tuple #[]) h5
theorem vf101 (a0r : Option Addr) (a1q : Option Addr) (h : Heap) (R : KV) (hF : F101 a0r a1q h R) : CallsH Tryz.prog 101 #[.pointer a0r, .pointer a1q] h R :=
  calls_of_form (A := an101) (fn := Tryz.f101) (c := c101) (args := [.pointer a0r, .pointer a1q]) Tryz.func101 (by kernel_rfl) mixed (by kernel_rfl) (by kernel_rfl : F101 a0r a1q h R = vcF Tryz.prog an101 Tryz.f101 c101 [.pointer a0r, .pointer a1q] h R) hF
/-! ### 102 refrain/proto.fields$4 -/
noncomputable def c102 : Code := match Tryz.f102.body with | some c => c | none => .skip
noncomputable def an102 : Ann := { loops := fun i => [], draws := fun i => #[], joins := fun i => none }
def F102 (a0q : Option Addr) (h : Heap) (R : KV) : Prop :=
  VSome a0q fun a1 =>
  ∃ s2 : ByteArray, cellH h ⟨a1.block, a1.off + 3, none⟩ = some (.string s2) ∧
  R (.bool (strEq s2 (ByteArray.mk #[]))) h
theorem vf102 (a0q : Option Addr) (h : Heap) (R : KV) (hF : F102 a0q h R) : CallsH Tryz.prog 102 #[.pointer a0q] h R :=
  calls_of_form (A := an102) (fn := Tryz.f102) (c := c102) (args := [.pointer a0q]) Tryz.func102 (by kernel_rfl) mixed (by kernel_rfl) (by kernel_rfl : F102 a0q h R = vcF Tryz.prog an102 Tryz.f102 c102 [.pointer a0q] h R) hF
/-! ### 103 refrain/proto.fields$5 -/
noncomputable def c103 : Code := match Tryz.f103.body with | some c => c | none => .skip
noncomputable def an103 : Ann := { loops := fun i => [], draws := fun i => #[], joins := fun i => none }
def F103 (a0w : Option Addr) (a1q : Option Addr) (h : Heap) (R : KV) : Prop :=
  VSome a1q fun a1 =>
  ∃ s2 : ByteArray, cellH h ⟨a1.block, a1.off + 3, none⟩ = some (.string s2) ∧
  CallsH Tryz.prog 74 #[.pointer a0w, .string s2] h fun v3 h4 =>
  v3 = .tuple #[] ∧
  R (.tuple #[]) h4
theorem vf103 (a0w : Option Addr) (a1q : Option Addr) (h : Heap) (R : KV) (hF : F103 a0w a1q h R) : CallsH Tryz.prog 103 #[.pointer a0w, .pointer a1q] h R :=
  calls_of_form (A := an103) (fn := Tryz.f103) (c := c103) (args := [.pointer a0w, .pointer a1q]) Tryz.func103 (by kernel_rfl) mixed (by kernel_rfl) (by kernel_rfl : F103 a0w a1q h R = vcF Tryz.prog an103 Tryz.f103 c103 [.pointer a0w, .pointer a1q] h R) hF
/-! ### 104 refrain/proto.fields$6 -/
noncomputable def c104 : Code := match Tryz.f104.body with | some c => c | none => .skip
noncomputable def an104 : Ann := { loops := fun i => [], draws := fun i => #[], joins := fun i => none }
def F104 (a0r : Option Addr) (a1q : Option Addr) (h : Heap) (R : KV) : Prop :=
  CallsH Tryz.prog 54 #[.pointer a0r] h fun v1 h2 =>
  ∃ s3 : ByteArray, v1 = .string s3 ∧
  VSome a1q fun a4 =>
  VStore h2 ⟨a4.block, a4.off + 3, none⟩ (.string s3) fun h5 =>
  R (.tuple #[]) h5
theorem vf104 (a0r : Option Addr) (a1q : Option Addr) (h : Heap) (R : KV) (hF : F104 a0r a1q h R) : CallsH Tryz.prog 104 #[.pointer a0r, .pointer a1q] h R :=
  calls_of_form (A := an104) (fn := Tryz.f104) (c := c104) (args := [.pointer a0r, .pointer a1q]) Tryz.func104 (by kernel_rfl) mixed (by kernel_rfl) (by kernel_rfl : F104 a0r a1q h R = vcF Tryz.prog an104 Tryz.f104 c104 [.pointer a0r, .pointer a1q] h R) hF
/-! ### 105 refrain/proto.fields$7 -/
noncomputable def c105 : Code := match Tryz.f105.body with | some c => c | none => .skip
noncomputable def an105 : Ann := { loops := fun i => [], draws := fun i => #[], joins := fun i => none }
def F105 (a0q : Option Addr) (h : Heap) (R : KV) : Prop :=
  VSome a0q fun a1 =>
  ∃ (a2 : Option Addr) (la2 ca2 : Nat), cellH h ⟨a1.block, a1.off + 4, none⟩ = some (.slice a2 la2 ca2) ∧
  R (.bool ((la2 : Int) == (0 : Int))) h
theorem vf105 (a0q : Option Addr) (h : Heap) (R : KV) (hF : F105 a0q h R) : CallsH Tryz.prog 105 #[.pointer a0q] h R :=
  calls_of_form (A := an105) (fn := Tryz.f105) (c := c105) (args := [.pointer a0q]) Tryz.func105 (by kernel_rfl) mixed (by kernel_rfl) (by kernel_rfl : F105 a0q h R = vcF Tryz.prog an105 Tryz.f105 c105 [.pointer a0q] h R) hF
/-! ### 106 refrain/proto.fields$8 -/
noncomputable def c106 : Code := match Tryz.f106.body with | some c => c | none => .skip
noncomputable def an106 : Ann := { loops := fun i => [], draws := fun i => #[], joins := fun i => none }
def F106 (a0w : Option Addr) (a1q : Option Addr) (h : Heap) (R : KV) : Prop :=
  VSome a1q fun a1 =>
  ∃ (a2 : Option Addr) (la2 ca2 : Nat), cellH h ⟨a1.block, a1.off + 4, none⟩ = some (.slice a2 la2 ca2) ∧
  CallsH Tryz.prog 73 #[.pointer a0w, .slice a2 la2 ca2, .func (.func 74) #[.pointer a0w] #[]] h fun v3 h4 =>
  v3 = .tuple #[] ∧
  R (.tuple #[]) h4
theorem vf106 (a0w : Option Addr) (a1q : Option Addr) (h : Heap) (R : KV) (hF : F106 a0w a1q h R) : CallsH Tryz.prog 106 #[.pointer a0w, .pointer a1q] h R :=
  calls_of_form (A := an106) (fn := Tryz.f106) (c := c106) (args := [.pointer a0w, .pointer a1q]) Tryz.func106 (by kernel_rfl) mixed (by kernel_rfl) (by kernel_rfl : F106 a0w a1q h R = vcF Tryz.prog an106 Tryz.f106 c106 [.pointer a0w, .pointer a1q] h R) hF
/-! ### 107 refrain/proto.fields$9 -/
noncomputable def c107 : Code := match Tryz.f107.body with | some c => c | none => .skip
noncomputable def an107 : Ann := { loops := fun i => [], draws := fun i => #[], joins := fun i => none }
def F107 (a0r : Option Addr) (a1q : Option Addr) (h : Heap) (R : KV) : Prop :=
  CallsH Tryz.prog 53 #[.pointer a0r, .func (.func 54) #[.pointer a0r] #[]] h fun v1 h2 =>
  ∃ (a3 : Option Addr) (la3 ca3 : Nat), v1 = .slice a3 la3 ca3 ∧
  VSome a1q fun a4 =>
  VStore h2 ⟨a4.block, a4.off + 4, none⟩ (.slice a3 la3 ca3) fun h5 =>
  R (.tuple #[]) h5
theorem vf107 (a0r : Option Addr) (a1q : Option Addr) (h : Heap) (R : KV) (hF : F107 a0r a1q h R) : CallsH Tryz.prog 107 #[.pointer a0r, .pointer a1q] h R :=
  calls_of_form (A := an107) (fn := Tryz.f107) (c := c107) (args := [.pointer a0r, .pointer a1q]) Tryz.func107 (by kernel_rfl) mixed (by kernel_rfl) (by kernel_rfl : F107 a0r a1q h R = vcF Tryz.prog an107 Tryz.f107 c107 [.pointer a0r, .pointer a1q] h R) hF
/-! ### 108 refrain/proto.fields$10 -/
noncomputable def c108 : Code := match Tryz.f108.body with | some c => c | none => .skip
noncomputable def an108 : Ann := { loops := fun i => [], draws := fun i => #[], joins := fun i => none }
def F108 (a0q : Option Addr) (h : Heap) (R : KV) : Prop :=
  VSome a0q fun a1 =>
  ∃ (a2 : Option Addr) (la2 ca2 : Nat), cellH h ⟨a1.block, a1.off + 5, none⟩ = some (.slice a2 la2 ca2) ∧
  R (.bool ((la2 : Int) == (0 : Int))) h
theorem vf108 (a0q : Option Addr) (h : Heap) (R : KV) (hF : F108 a0q h R) : CallsH Tryz.prog 108 #[.pointer a0q] h R :=
  calls_of_form (A := an108) (fn := Tryz.f108) (c := c108) (args := [.pointer a0q]) Tryz.func108 (by kernel_rfl) mixed (by kernel_rfl) (by kernel_rfl : F108 a0q h R = vcF Tryz.prog an108 Tryz.f108 c108 [.pointer a0q] h R) hF
/-! ### 109 refrain/proto.fields$11 -/
noncomputable def c109 : Code := match Tryz.f109.body with | some c => c | none => .skip
noncomputable def an109 : Ann := { loops := fun i => [], draws := fun i => #[], joins := fun i => none }
def F109 (a0w : Option Addr) (a1q : Option Addr) (h : Heap) (R : KV) : Prop :=
  VSome a1q fun a1 =>
  ∃ (a2 : Option Addr) (la2 ca2 : Nat), cellH h ⟨a1.block, a1.off + 5, none⟩ = some (.slice a2 la2 ca2) ∧
  CallsH Tryz.prog 110 #[.pointer a0w, .slice a2 la2 ca2, .func (.func 111) #[.pointer a0w] #[]] h fun v3 h4 =>
  v3 = .tuple #[] ∧
  R (.tuple #[]) h4
theorem vf109 (a0w : Option Addr) (a1q : Option Addr) (h : Heap) (R : KV) (hF : F109 a0w a1q h R) : CallsH Tryz.prog 109 #[.pointer a0w, .pointer a1q] h R :=
  calls_of_form (A := an109) (fn := Tryz.f109) (c := c109) (args := [.pointer a0w, .pointer a1q]) Tryz.func109 (by kernel_rfl) mixed (by kernel_rfl) (by kernel_rfl : F109 a0w a1q h R = vcF Tryz.prog an109 Tryz.f109 c109 [.pointer a0w, .pointer a1q] h R) hF
/-! ### 110 refrain/proto.writeList[refrain/api.Event] -/
noncomputable def c110 : Code := match Tryz.f110.body with | some c => c | none => .skip
noncomputable def an110 : Ann := { loops := fun i => match i with | 2 => [(14, .int .i64)] | _ => [], draws := fun i => #[], joins := fun i => none }
def F110 (a0w : Option Addr) (a1l : Option Addr) (la1l ca1l : Nat) (p2f0 : Option Addr) (h : Heap) (R : KV) : Prop :=
  CallsH Tryz.prog 68 #[.pointer a0w, .int .i64 (la1l : Int)] h fun v1 h2 =>
  v1 = .tuple #[] ∧
  ∃ I3 : Nat → Heap → Int → Prop, (∃ n4, I3 n4 h2 0) ∧
  ∀ (n4 : Nat) (h5 : Heap) (g6 : Env) (y_7 : Int), I3 n4 h5 y_7 →
  cond (decide (y_7 < (la1l : Int)))
  (VIdx a1l la1l y_7 3 fun a9 =>
    ∃ s10 : ByteArray, cellH h5 a9 = some (.string s10) ∧
    ∃ x11 : Int, cellH h5 ⟨a9.block, a9.off + 1, none⟩ = some (.int .i64 x11) ∧
    ∃ (a12 : Option Addr) (la12 ca12 : Nat), cellH h5 ⟨a9.block, a9.off + 2, none⟩ = some (.slice a12 la12 ca12) ∧
    VNew h5 (.cells #[.string (ByteArray.mk #[]), .int .i64 0, .slice none 0 0] 125) fun b13 h14 =>
    storeL ⟨b13, 0, none⟩ 0 [.string s10, .int .i64 x11, .slice a12 la12 ca12] h14 fun h15 =>
    ∃ s16 : ByteArray, cellH h15 ⟨b13, 0, none⟩ = some (.string s16) ∧
    ∃ x17 : Int, cellH h15 ⟨b13, 1, none⟩ = some (.int .i64 x17) ∧
    ∃ (a18 : Option Addr) (la18 ca18 : Nat), cellH h15 ⟨b13, 2, none⟩ = some (.slice a18 la18 ca18) ∧
    CallsH Tryz.prog 111 #[.pointer p2f0, .agg #[.string s16, .int .i64 x17, .slice a18 la18 ca18]] h15 fun v19 h20 =>
    v19 = .tuple #[] ∧
    ∃ m8, m8 < n4 ∧ I3 m8 h20 (IntKind.i64.wrap (y_7 + 1)))
  (R (.tuple #[]) h5)
theorem vf110 (a0w : Option Addr) (a1l : Option Addr) (la1l ca1l : Nat) (p2f0 : Option Addr) (h : Heap) (R : KV) (hF : F110 a0w a1l la1l ca1l p2f0 h R) : CallsH Tryz.prog 110 #[.pointer a0w, .slice a1l la1l ca1l, .func (.func 111) #[.pointer p2f0] #[]] h R :=
  calls_of_form (A := an110) (fn := Tryz.f110) (c := c110) (args := [.pointer a0w, .slice a1l la1l ca1l, .func (.func 111) #[.pointer p2f0] #[]]) Tryz.func110 (by kernel_rfl) mixed (by kernel_rfl) (by kernel_rfl : F110 a0w a1l la1l ca1l p2f0 h R = vcF Tryz.prog an110 Tryz.f110 c110 [.pointer a0w, .slice a1l la1l ca1l, .func (.func 111) #[.pointer p2f0] #[]] h R) hF
/-! ### 111 (refrain/proto.writer).event -/
noncomputable def c111 : Code := match Tryz.f111.body with | some c => c | none => .skip
noncomputable def an111 : Ann := { loops := fun i => [], draws := fun i => #[], joins := fun i => match i with | 4 => some [] | _ => none }
def F111 (a0w : Option Addr) (a1e_0 : ByteArray) (a1e_1 : Int) (a1e_2 : Option Addr) (la1e_2 ca1e_2 : Nat) (h : Heap) (R : KV) : Prop :=
  VNew h (.cells #[.string a1e_0, .int .i64 a1e_1, .slice a1e_2 la1e_2 ca1e_2] 125) fun b1 h2 =>
  ∃ s3 : ByteArray, cellH h2 ⟨b1, 0, none⟩ = some (.string s3) ∧
  ∃ x4 : Int, cellH h2 ⟨b1, 1, none⟩ = some (.int .i64 x4) ∧
  ∃ (a5 : Option Addr) (la5 ca5 : Nat), cellH h2 ⟨b1, 2, none⟩ = some (.slice a5 la5 ca5) ∧
  CallsH Tryz.prog 128 #[.agg #[.string s3, .int .i64 x4, .slice a5 la5 ca5]] h2 fun v6 h7 =>
  ∃ (a8 : Option Addr) (la8 ca8 : Nat), ∃ x9 : Int, v6 = .tuple #[.slice a8 la8 ca8, .int .i64 x9] ∧
  ∃ J10 : Heap → Prop, (cond (x9 != (0 : Int))
    (CallsH Tryz.prog 129 #[.pointer a0w, .int .i64 x9] h7 fun v11 h12 =>
      v11 = .tuple #[] ∧
      J10 h12)
    (J10 h7)) ∧
  ∀ (h13 : Heap) (g14 : Env), J10 h13 →
  VSome a0w fun a15 =>
  ∃ (a16 : Option Addr) (la16 ca16 : Nat), cellH h13 a15 = some (.slice a16 la16 ca16) ∧
  RunsTo Tryz.prog (Builtin.append_ #[36, 36] 36 #[.slice a16 la16 ca16, .slice a8 la8 ca8]) h13 fun v17 h18 =>
  ∃ (a19 : Option Addr) (la19 ca19 : Nat), v17 = .slice a19 la19 ca19 ∧
  VSome a0w fun a20 =>
  VStore h18 a20 (.slice a19 la19 ca19) fun h21 =>
  R (.tuple #[]) h21
theorem vf111 (a0w : Option Addr) (a1e_0 : ByteArray) (a1e_1 : Int) (a1e_2 : Option Addr) (la1e_2 ca1e_2 : Nat) (h : Heap) (R : KV) (hF : F111 a0w a1e_0 a1e_1 a1e_2 la1e_2 ca1e_2 h R) : CallsH Tryz.prog 111 #[.pointer a0w, .agg #[.string a1e_0, .int .i64 a1e_1, .slice a1e_2 la1e_2 ca1e_2]] h R :=
  calls_of_form (A := an111) (fn := Tryz.f111) (c := c111) (args := [.pointer a0w, .agg #[.string a1e_0, .int .i64 a1e_1, .slice a1e_2 la1e_2 ca1e_2]]) Tryz.func111 (by kernel_rfl) mixed (by kernel_rfl) (by kernel_rfl : F111 a0w a1e_0 a1e_1 a1e_2 la1e_2 ca1e_2 h R = vcF Tryz.prog an111 Tryz.f111 c111 [.pointer a0w, .agg #[.string a1e_0, .int .i64 a1e_1, .slice a1e_2 la1e_2 ca1e_2]] h R) hF
/-! ### 112 refrain/proto.fields$12 -/
noncomputable def c112 : Code := match Tryz.f112.body with | some c => c | none => .skip
noncomputable def an112 : Ann := { loops := fun i => [], draws := fun i => #[], joins := fun i => none }
def F112 (a0r : Option Addr) (a1q : Option Addr) (h : Heap) (R : KV) : Prop :=
  CallsH Tryz.prog 113 #[.pointer a0r, .func (.func 114) #[.pointer a0r] #[]] h fun v1 h2 =>
  ∃ (a3 : Option Addr) (la3 ca3 : Nat), v1 = .slice a3 la3 ca3 ∧
  VSome a1q fun a4 =>
  VStore h2 ⟨a4.block, a4.off + 5, none⟩ (.slice a3 la3 ca3) fun h5 =>
  R (.tuple #[]) h5
theorem vf112 (a0r : Option Addr) (a1q : Option Addr) (h : Heap) (R : KV) (hF : F112 a0r a1q h R) : CallsH Tryz.prog 112 #[.pointer a0r, .pointer a1q] h R :=
  calls_of_form (A := an112) (fn := Tryz.f112) (c := c112) (args := [.pointer a0r, .pointer a1q]) Tryz.func112 (by kernel_rfl) mixed (by kernel_rfl) (by kernel_rfl : F112 a0r a1q h R = vcF Tryz.prog an112 Tryz.f112 c112 [.pointer a0r, .pointer a1q] h R) hF
/-! ### 113 refrain/proto.readList[refrain/api.Event] -/
noncomputable def c113 : Code := match Tryz.f113.body with | some c => c | none => .skip
noncomputable def an113 : Ann := { loops := fun i => match i with | 5 => [(5, .int .i64), (6, .slc)] | _ => [], draws := fun i => #[], joins := fun i => match i with | 4 => some [] | _ => none }
def F113 (a0r : Option Addr) (p1f0 : Option Addr) (h : Heap) (R : KV) : Prop :=
  CallsH Tryz.prog 48 #[.pointer a0r] h fun v1 h2 =>
  ∃ x3 : Int, v1 = .int .i64 x3 ∧
  ∃ J4 : Heap → Prop, (cond (decide (x3 < (0 : Int))) (VSome a0r fun a5 =>
      VStore h2 ⟨a5.block, a5.off + 1, none⟩ (.bool true) fun h6 =>
      J4 h6) (VSome a0r fun a7 =>
      ∃ (a8 : Option Addr) (la8 ca8 : Nat), cellH h2 a7 = some (.slice a8 la8 ca8) ∧
      cond (decide (x3 > (la8 : Int)))
      (VSome a0r fun a9 =>
        VStore h2 ⟨a9.block, a9.off + 1, none⟩ (.bool true) fun h10 =>
        J4 h10)
      (J4 h2))) ∧
  ∀ (h11 : Heap) (g12 : Env), J4 h11 →
  ∃ I13 : Nat → Heap → Int → Option Addr → Nat → Nat → Prop, (∃ n14, I13 n14 h11 x3 none 0 0) ∧
  ∀ (n14 : Nat) (h15 : Heap) (g16 : Env) (n_17 : Int) (l_18 : Option Addr) (ll_18 cl_18 : Nat), I13 n14 h15 n_17 l_18 ll_18 cl_18 →
  cond (decide (n_17 > (0 : Int))) (VSome a0r fun a20 =>
    ∃ b21 : Bool, cellH h15 ⟨a20.block, a20.off + 1, none⟩ = some (.bool b21) ∧
    cond (!b21)
    (CallsH Tryz.prog 114 #[.pointer p1f0] h15 fun v22 h23 =>
      ∃ s24 : ByteArray, ∃ x25 : Int, ∃ (a26 : Option Addr) (la26 ca26 : Nat), v22 = .agg #[.string s24, .int .i64 x25, .slice a26 la26 ca26] ∧
      ∃ s27 : ByteArray, ∃ x28 : Int, ∃ (a29 : Option Addr) (la29 ca29 : Nat), (.agg #[.string s24, .int .i64 x25, .slice a26 la26 ca26] : Value) = .agg #[.string s27, .int .i64 x28, .slice a29 la29 ca29] ∧
      VNew h23 (.cells #[.string s27, .int .i64 x28, .slice a29 la29 ca29] 125) fun b30 h31 =>
      RunsTo Tryz.prog (Builtin.append_ #[55, 55] 55 #[.slice l_18 ll_18 cl_18, .slice (some ⟨b30, 0, none⟩) 1 1]) h31 fun v32 h33 =>
      ∃ (a34 : Option Addr) (la34 ca34 : Nat), v32 = .slice a34 la34 ca34 ∧
      ∃ m19, m19 < n14 ∧ I13 m19 h33 (IntKind.i64.wrap (n_17 - 1)) a34 la34 ca34)
    (R (.slice l_18 ll_18 cl_18) h15)) (R (.slice l_18 ll_18 cl_18) h15)
theorem vf113 (a0r : Option Addr) (p1f0 : Option Addr) (h : Heap) (R : KV) (hF : F113 a0r p1f0 h R) : CallsH Tryz.prog 113 #[.pointer a0r, .func (.func 114) #[.pointer p1f0] #[]] h R :=
  calls_of_form (A := an113) (fn := Tryz.f113) (c := c113) (args := [.pointer a0r, .func (.func 114) #[.pointer p1f0] #[]]) Tryz.func113 (by kernel_rfl) mixed (by kernel_rfl) (by kernel_rfl : F113 a0r p1f0 h R = vcF Tryz.prog an113 Tryz.f113 c113 [.pointer a0r, .func (.func 114) #[.pointer p1f0] #[]] h R) hF
/-! ### 114 (refrain/proto.reader).event -/
noncomputable def c114 : Code := match Tryz.f114.body with | some c => c | none => .skip
noncomputable def an114 : Ann := { loops := fun i => [], draws := fun i => #[], joins := fun i => none }
def F114 (a0r : Option Addr) (h : Heap) (R : KV) : Prop :=
  VNew h (.cells #[.string (ByteArray.mk #[]), .int .i64 0, .slice none 0 0] 125) fun b1 h2 =>
  VSome a0r fun a3 =>
  ∃ b4 : Bool, cellH h2 ⟨a3.block, a3.off + 1, none⟩ = some (.bool b4) ∧
  cond b4
  (storeL ⟨b1, 0, none⟩ 0 [.string (ByteArray.mk #[]), .int .i64 0, .slice none 0 0] h2 fun h5 =>
    ∃ s6 : ByteArray, cellH h5 ⟨b1, 0, none⟩ = some (.string s6) ∧
    ∃ x7 : Int, cellH h5 ⟨b1, 1, none⟩ = some (.int .i64 x7) ∧
    ∃ (a8 : Option Addr) (la8 ca8 : Nat), cellH h5 ⟨b1, 2, none⟩ = some (.slice a8 la8 ca8) ∧
    R (.agg #[.string s6, .int .i64 x7, .slice a8 la8 ca8]) h5)
  (VSome a0r fun a9 =>
    ∃ (a10 : Option Addr) (la10 ca10 : Nat), cellH h2 a9 = some (.slice a10 la10 ca10) ∧
    CallsH Tryz.prog 130 #[.slice a10 la10 ca10] h2 fun v11 h12 =>
    ∃ s13 : ByteArray, ∃ x14 : Int, ∃ (a15 : Option Addr) (la15 ca15 : Nat), ∃ x16 : Int, ∃ x17 : Int, v11 = .tuple #[.agg #[.string s13, .int .i64 x14, .slice a15 la15 ca15], .int .i64 x16, .int .i64 x17] ∧
    VNew h12 (.cells #[.string (ByteArray.mk #[]), .int .i64 0, .slice none 0 0] 125) fun b18 h19 =>
    storeL ⟨b18, 0, none⟩ 0 [.string s13, .int .i64 x14, .slice a15 la15 ca15] h19 fun h20 =>
    cond (x17 != (0 : Int))
    (VSome a0r fun a21 =>
      VStore h20 ⟨a21.block, a21.off + 1, none⟩ (.bool true) fun h22 =>
      storeL ⟨b1, 0, none⟩ 0 [.string (ByteArray.mk #[]), .int .i64 0, .slice none 0 0] h22 fun h23 =>
      ∃ s24 : ByteArray, cellH h23 ⟨b1, 0, none⟩ = some (.string s24) ∧
      ∃ x25 : Int, cellH h23 ⟨b1, 1, none⟩ = some (.int .i64 x25) ∧
      ∃ (a26 : Option Addr) (la26 ca26 : Nat), cellH h23 ⟨b1, 2, none⟩ = some (.slice a26 la26 ca26) ∧
      R (.agg #[.string s24, .int .i64 x25, .slice a26 la26 ca26]) h23)
    (VSome a0r fun a27 =>
      ∃ (a28 : Option Addr) (la28 ca28 : Nat), cellH h20 a27 = some (.slice a28 la28 ca28) ∧
      VSlice 1 a28 ca28 x16 (la28 : Int) (ca28 : Int) fun a29 la29 ca29 =>
      VSome a0r fun a30 =>
      VStore h20 a30 (.slice a29 la29 ca29) fun h31 =>
      ∃ s32 : ByteArray, cellH h31 ⟨b18, 0, none⟩ = some (.string s32) ∧
      ∃ x33 : Int, cellH h31 ⟨b18, 1, none⟩ = some (.int .i64 x33) ∧
      ∃ (a34 : Option Addr) (la34 ca34 : Nat), cellH h31 ⟨b18, 2, none⟩ = some (.slice a34 la34 ca34) ∧
      storeL ⟨b1, 0, none⟩ 0 [.string s32, .int .i64 x33, .slice a34 la34 ca34] h31 fun h35 =>
      ∃ s36 : ByteArray, cellH h35 ⟨b1, 0, none⟩ = some (.string s36) ∧
      ∃ x37 : Int, cellH h35 ⟨b1, 1, none⟩ = some (.int .i64 x37) ∧
      ∃ (a38 : Option Addr) (la38 ca38 : Nat), cellH h35 ⟨b1, 2, none⟩ = some (.slice a38 la38 ca38) ∧
      R (.agg #[.string s36, .int .i64 x37, .slice a38 la38 ca38]) h35))
theorem vf114 (a0r : Option Addr) (h : Heap) (R : KV) (hF : F114 a0r h R) : CallsH Tryz.prog 114 #[.pointer a0r] h R :=
  calls_of_form (A := an114) (fn := Tryz.f114) (c := c114) (args := [.pointer a0r]) Tryz.func114 (by kernel_rfl) mixed (by kernel_rfl) (by kernel_rfl : F114 a0r h R = vcF Tryz.prog an114 Tryz.f114 c114 [.pointer a0r] h R) hF
/-! ### 115 refrain/wire.Int -/
noncomputable def c115 : Code := match Tryz.f115.body with | some c => c | none => .skip
noncomputable def an115 : Ann := { loops := fun i => match i with | 3 => [(2, .int .i64), (3, .int .i64), (4, .int .i64), (5, .int .u64), (10, .int .i64)] | _ => [], draws := fun i => #[], joins := fun i => none }
def F115 (a0b : Option Addr) (la0b ca0b : Nat) (h : Heap) (R : KV) : Prop :=
  ∃ I1 : Nat → Heap → Int → Int → Int → Int → Int → Prop, (∃ n2, I1 n2 h 0 0 0 0 0) ∧
  ∀ (n2 : Nat) (h3 : Heap) (g4 : Env) (y_5 : Int) (y_6 : Int) (y_7 : Int) (z_8 : Int) (y_9 : Int), I1 n2 h3 y_5 y_6 y_7 z_8 y_9 →
  cond (decide (y_9 < (la0b : Int)))
  (VIdx a0b la0b y_9 1 fun a11 =>
    ∃ x12 : Int, cellH h3 a11 = some (.int .u8 x12) ∧
    cond (y_9 == (9 : Int)) (cond (decide (x12 > (1 : Int)))
      (R (.tuple #[.int .i64 0, .int .i64 0, .int .i64 31]) h3)
      ((0 : Int) ≤ (IntKind.i64.wrap (7 * y_9)) ∧
        cond (decide (x12 ≥ (128 : Int)))
        (∃ m10, m10 < n2 ∧ I1 m10 h3 y_5 y_6 y_7 (bitsOp .or .u64 z_8 (IntKind.u64.wrap ((IntKind.u64.wrap (bitsOp .and .u8 x12 127)) * 2 ^ (min (Int.toNat (IntKind.i64.wrap (7 * y_9))) (IntKind.bits .u64))))) (IntKind.i64.wrap (y_9 + 1)))
        (cond (x12 == (0 : Int)) (cond (decide (y_9 > (0 : Int)))
            (R (.tuple #[.int .i64 0, .int .i64 0, .int .i64 31]) h3)
            ((0 : Int) ≤ 1 ∧
              R (.tuple #[.int .i64 (bitsOp .xor .i64 (IntKind.i64.wrap (Int.fdiv (bitsOp .or .u64 z_8 (IntKind.u64.wrap ((IntKind.u64.wrap (bitsOp .and .u8 x12 127)) * 2 ^ (min (Int.toNat (IntKind.i64.wrap (7 * y_9))) (IntKind.bits .u64))))) (2 ^ (min (Int.toNat 1) (IntKind.bits .u64))))) (IntKind.i64.wrap (0 - (IntKind.i64.wrap (bitsOp .and .u64 (bitsOp .or .u64 z_8 (IntKind.u64.wrap ((IntKind.u64.wrap (bitsOp .and .u8 x12 127)) * 2 ^ (min (Int.toNat (IntKind.i64.wrap (7 * y_9))) (IntKind.bits .u64))))) 1))))), .int .i64 (IntKind.i64.wrap (y_9 + 1)), .int .i64 0]) h3)) ((0 : Int) ≤ 1 ∧
            R (.tuple #[.int .i64 (bitsOp .xor .i64 (IntKind.i64.wrap (Int.fdiv (bitsOp .or .u64 z_8 (IntKind.u64.wrap ((IntKind.u64.wrap (bitsOp .and .u8 x12 127)) * 2 ^ (min (Int.toNat (IntKind.i64.wrap (7 * y_9))) (IntKind.bits .u64))))) (2 ^ (min (Int.toNat 1) (IntKind.bits .u64))))) (IntKind.i64.wrap (0 - (IntKind.i64.wrap (bitsOp .and .u64 (bitsOp .or .u64 z_8 (IntKind.u64.wrap ((IntKind.u64.wrap (bitsOp .and .u8 x12 127)) * 2 ^ (min (Int.toNat (IntKind.i64.wrap (7 * y_9))) (IntKind.bits .u64))))) 1))))), .int .i64 (IntKind.i64.wrap (y_9 + 1)), .int .i64 0]) h3)))) ((0 : Int) ≤ (IntKind.i64.wrap (7 * y_9)) ∧
      cond (decide (x12 ≥ (128 : Int)))
      (∃ m10, m10 < n2 ∧ I1 m10 h3 y_5 y_6 y_7 (bitsOp .or .u64 z_8 (IntKind.u64.wrap ((IntKind.u64.wrap (bitsOp .and .u8 x12 127)) * 2 ^ (min (Int.toNat (IntKind.i64.wrap (7 * y_9))) (IntKind.bits .u64))))) (IntKind.i64.wrap (y_9 + 1)))
      (cond (x12 == (0 : Int)) (cond (decide (y_9 > (0 : Int)))
          (R (.tuple #[.int .i64 0, .int .i64 0, .int .i64 31]) h3)
          ((0 : Int) ≤ 1 ∧
            R (.tuple #[.int .i64 (bitsOp .xor .i64 (IntKind.i64.wrap (Int.fdiv (bitsOp .or .u64 z_8 (IntKind.u64.wrap ((IntKind.u64.wrap (bitsOp .and .u8 x12 127)) * 2 ^ (min (Int.toNat (IntKind.i64.wrap (7 * y_9))) (IntKind.bits .u64))))) (2 ^ (min (Int.toNat 1) (IntKind.bits .u64))))) (IntKind.i64.wrap (0 - (IntKind.i64.wrap (bitsOp .and .u64 (bitsOp .or .u64 z_8 (IntKind.u64.wrap ((IntKind.u64.wrap (bitsOp .and .u8 x12 127)) * 2 ^ (min (Int.toNat (IntKind.i64.wrap (7 * y_9))) (IntKind.bits .u64))))) 1))))), .int .i64 (IntKind.i64.wrap (y_9 + 1)), .int .i64 0]) h3)) ((0 : Int) ≤ 1 ∧
          R (.tuple #[.int .i64 (bitsOp .xor .i64 (IntKind.i64.wrap (Int.fdiv (bitsOp .or .u64 z_8 (IntKind.u64.wrap ((IntKind.u64.wrap (bitsOp .and .u8 x12 127)) * 2 ^ (min (Int.toNat (IntKind.i64.wrap (7 * y_9))) (IntKind.bits .u64))))) (2 ^ (min (Int.toNat 1) (IntKind.bits .u64))))) (IntKind.i64.wrap (0 - (IntKind.i64.wrap (bitsOp .and .u64 (bitsOp .or .u64 z_8 (IntKind.u64.wrap ((IntKind.u64.wrap (bitsOp .and .u8 x12 127)) * 2 ^ (min (Int.toNat (IntKind.i64.wrap (7 * y_9))) (IntKind.bits .u64))))) 1))))), .int .i64 (IntKind.i64.wrap (y_9 + 1)), .int .i64 0]) h3))))
  (R (.tuple #[.int .i64 0, .int .i64 0, .int .i64 30]) h3)
theorem vf115 (a0b : Option Addr) (la0b ca0b : Nat) (h : Heap) (R : KV) (hF : F115 a0b la0b ca0b h R) : CallsH Tryz.prog 115 #[.slice a0b la0b ca0b] h R :=
  calls_of_form (A := an115) (fn := Tryz.f115) (c := c115) (args := [.slice a0b la0b ca0b]) Tryz.func115 (by kernel_rfl) mixed (by kernel_rfl) (by kernel_rfl : F115 a0b la0b ca0b h R = vcF Tryz.prog an115 Tryz.f115 c115 [.slice a0b la0b ca0b] h R) hF
/-! ### 116 refrain/proto.readList[refrain/api.Value] -/
noncomputable def c116 : Code := match Tryz.f116.body with | some c => c | none => .skip
noncomputable def an116 : Ann := { loops := fun i => match i with | 5 => [(5, .int .i64), (6, .slc)] | _ => [], draws := fun i => #[], joins := fun i => match i with | 4 => some [] | _ => none }
def F116 (a0r : Option Addr) (p1f0 : Option Addr) (h : Heap) (R : KV) : Prop :=
  CallsH Tryz.prog 48 #[.pointer a0r] h fun v1 h2 =>
  ∃ x3 : Int, v1 = .int .i64 x3 ∧
  ∃ J4 : Heap → Prop, (cond (decide (x3 < (0 : Int))) (VSome a0r fun a5 =>
      VStore h2 ⟨a5.block, a5.off + 1, none⟩ (.bool true) fun h6 =>
      J4 h6) (VSome a0r fun a7 =>
      ∃ (a8 : Option Addr) (la8 ca8 : Nat), cellH h2 a7 = some (.slice a8 la8 ca8) ∧
      cond (decide (x3 > (la8 : Int)))
      (VSome a0r fun a9 =>
        VStore h2 ⟨a9.block, a9.off + 1, none⟩ (.bool true) fun h10 =>
        J4 h10)
      (J4 h2))) ∧
  ∀ (h11 : Heap) (g12 : Env), J4 h11 →
  ∃ I13 : Nat → Heap → Int → Option Addr → Nat → Nat → Prop, (∃ n14, I13 n14 h11 x3 none 0 0) ∧
  ∀ (n14 : Nat) (h15 : Heap) (g16 : Env) (n_17 : Int) (l_18 : Option Addr) (ll_18 cl_18 : Nat), I13 n14 h15 n_17 l_18 ll_18 cl_18 →
  cond (decide (n_17 > (0 : Int))) (VSome a0r fun a20 =>
    ∃ b21 : Bool, cellH h15 ⟨a20.block, a20.off + 1, none⟩ = some (.bool b21) ∧
    cond (!b21)
    (CallsH Tryz.prog 117 #[.pointer p1f0] h15 fun v22 h23 =>
      ∃ x24 : Int, ∃ x25 : Int, ∃ s26 : ByteArray, ∃ b27 : Bool, v22 = .agg #[.int .i64 x24, .int .i64 x25, .string s26, .bool b27] ∧
      ∃ x28 : Int, ∃ x29 : Int, ∃ s30 : ByteArray, ∃ b31 : Bool, (.agg #[.int .i64 x24, .int .i64 x25, .string s26, .bool b27] : Value) = .agg #[.int .i64 x28, .int .i64 x29, .string s30, .bool b31] ∧
      VNew h23 (.cells #[.int .i64 x28, .int .i64 x29, .string s30, .bool b31] 127) fun b32 h33 =>
      RunsTo Tryz.prog (Builtin.append_ #[112, 112] 112 #[.slice l_18 ll_18 cl_18, .slice (some ⟨b32, 0, none⟩) 1 1]) h33 fun v34 h35 =>
      ∃ (a36 : Option Addr) (la36 ca36 : Nat), v34 = .slice a36 la36 ca36 ∧
      ∃ m19, m19 < n14 ∧ I13 m19 h35 (IntKind.i64.wrap (n_17 - 1)) a36 la36 ca36)
    (R (.slice l_18 ll_18 cl_18) h15)) (R (.slice l_18 ll_18 cl_18) h15)
theorem vf116 (a0r : Option Addr) (p1f0 : Option Addr) (h : Heap) (R : KV) (hF : F116 a0r p1f0 h R) : CallsH Tryz.prog 116 #[.pointer a0r, .func (.func 117) #[.pointer p1f0] #[]] h R :=
  calls_of_form (A := an116) (fn := Tryz.f116) (c := c116) (args := [.pointer a0r, .func (.func 117) #[.pointer p1f0] #[]]) Tryz.func116 (by kernel_rfl) mixed (by kernel_rfl) (by kernel_rfl : F116 a0r p1f0 h R = vcF Tryz.prog an116 Tryz.f116 c116 [.pointer a0r, .func (.func 117) #[.pointer p1f0] #[]] h R) hF
/-! ### 117 (refrain/proto.reader).value -/
noncomputable def c117 : Code := match Tryz.f117.body with | some c => c | none => .skip
noncomputable def an117 : Ann := { loops := fun i => [], draws := fun i => #[], joins := fun i => match i with | 9 => some [] | _ => none }
def F117 (a0r : Option Addr) (h : Heap) (R : KV) : Prop :=
  VNew h (.cells #[.int .i64 0, .int .i64 0, .string (ByteArray.mk #[]), .bool false] 127) fun b1 h2 =>
  CallsH Tryz.prog 43 #[.pointer a0r] h2 fun v3 h4 =>
  ∃ x5 : Int, v3 = .int .u8 x5 ∧
  VNew h4 (.cells #[.int .i64 0, .int .i64 0, .string (ByteArray.mk #[]), .bool false] 127) fun b6 h7 =>
  storeL ⟨b6, 0, none⟩ 0 [.int .i64 (IntKind.i64.wrap x5), .int .i64 0, .string (ByteArray.mk #[]), .bool false] h7 fun h8 =>
  ∃ J9 : Heap → Prop, (∃ x10 : Int, cellH h8 ⟨b6, 0, none⟩ = some (.int .i64 x10) ∧
    cond (x10 == (1 : Int))
    (CallsH Tryz.prog 48 #[.pointer a0r] h8 fun v11 h12 =>
      ∃ x13 : Int, v11 = .int .i64 x13 ∧
      VStore h12 ⟨b6, 1, none⟩ (.int .i64 x13) fun h14 =>
      J9 h14)
    (cond (x10 == (2 : Int))
      (CallsH Tryz.prog 54 #[.pointer a0r] h8 fun v15 h16 =>
        ∃ s17 : ByteArray, v15 = .string s17 ∧
        VStore h16 ⟨b6, 2, none⟩ (.string s17) fun h18 =>
        J9 h18)
      (cond (x10 == (3 : Int))
        (CallsH Tryz.prog 47 #[.pointer a0r] h8 fun v19 h20 =>
          ∃ b21 : Bool, v19 = .bool b21 ∧
          VStore h20 ⟨b6, 3, none⟩ (.bool b21) fun h22 =>
          J9 h22)
        (J9 h8)))) ∧
  ∀ (h23 : Heap) (g24 : Env), J9 h23 →
  VSome a0r fun a25 =>
  ∃ b26 : Bool, cellH h23 ⟨a25.block, a25.off + 1, none⟩ = some (.bool b26) ∧
  cond b26 (VSome a0r fun a27 =>
    VStore h23 ⟨a27.block, a27.off + 1, none⟩ (.bool true) fun h28 =>
    ∃ x29 : Int, cellH h28 ⟨b6, 0, none⟩ = some (.int .i64 x29) ∧
    ∃ x30 : Int, cellH h28 ⟨b6, 1, none⟩ = some (.int .i64 x30) ∧
    ∃ s31 : ByteArray, cellH h28 ⟨b6, 2, none⟩ = some (.string s31) ∧
    ∃ b32 : Bool, cellH h28 ⟨b6, 3, none⟩ = some (.bool b32) ∧
    storeL ⟨b1, 0, none⟩ 0 [.int .i64 x29, .int .i64 x30, .string s31, .bool b32] h28 fun h33 =>
    ∃ x34 : Int, cellH h33 ⟨b1, 0, none⟩ = some (.int .i64 x34) ∧
    ∃ x35 : Int, cellH h33 ⟨b1, 1, none⟩ = some (.int .i64 x35) ∧
    ∃ s36 : ByteArray, cellH h33 ⟨b1, 2, none⟩ = some (.string s36) ∧
    ∃ b37 : Bool, cellH h33 ⟨b1, 3, none⟩ = some (.bool b37) ∧
    R (.agg #[.int .i64 x34, .int .i64 x35, .string s36, .bool b37]) h33) (∃ x38 : Int, cellH h23 ⟨b6, 0, none⟩ = some (.int .i64 x38) ∧
    ∃ x39 : Int, cellH h23 ⟨b6, 1, none⟩ = some (.int .i64 x39) ∧
    ∃ s40 : ByteArray, cellH h23 ⟨b6, 2, none⟩ = some (.string s40) ∧
    ∃ b41 : Bool, cellH h23 ⟨b6, 3, none⟩ = some (.bool b41) ∧
    CallsH Tryz.prog 131 #[.agg #[.int .i64 x38, .int .i64 x39, .string s40, .bool b41]] h23 fun v42 h43 =>
    ∃ b44 : Bool, v42 = .bool b44 ∧
    VSome a0r fun a45 =>
    VStore h43 ⟨a45.block, a45.off + 1, none⟩ (.bool (!b44)) fun h46 =>
    ∃ x47 : Int, cellH h46 ⟨b6, 0, none⟩ = some (.int .i64 x47) ∧
    ∃ x48 : Int, cellH h46 ⟨b6, 1, none⟩ = some (.int .i64 x48) ∧
    ∃ s49 : ByteArray, cellH h46 ⟨b6, 2, none⟩ = some (.string s49) ∧
    ∃ b50 : Bool, cellH h46 ⟨b6, 3, none⟩ = some (.bool b50) ∧
    storeL ⟨b1, 0, none⟩ 0 [.int .i64 x47, .int .i64 x48, .string s49, .bool b50] h46 fun h51 =>
    ∃ x52 : Int, cellH h51 ⟨b1, 0, none⟩ = some (.int .i64 x52) ∧
    ∃ x53 : Int, cellH h51 ⟨b1, 1, none⟩ = some (.int .i64 x53) ∧
    ∃ s54 : ByteArray, cellH h51 ⟨b1, 2, none⟩ = some (.string s54) ∧
    ∃ b55 : Bool, cellH h51 ⟨b1, 3, none⟩ = some (.bool b55) ∧
    R (.agg #[.int .i64 x52, .int .i64 x53, .string s54, .bool b55]) h51)
theorem vf117 (a0r : Option Addr) (h : Heap) (R : KV) (hF : F117 a0r h R) : CallsH Tryz.prog 117 #[.pointer a0r] h R :=
  calls_of_form (A := an117) (fn := Tryz.f117) (c := c117) (args := [.pointer a0r]) Tryz.func117 (by kernel_rfl) mixed (by kernel_rfl) (by kernel_rfl : F117 a0r h R = vcF Tryz.prog an117 Tryz.f117 c117 [.pointer a0r] h R) hF
/-! ### 118 refrain/wire.PutInt -/
noncomputable def c118 : Code := match Tryz.f118.body with | some c => c | none => .skip
noncomputable def an118 : Ann := { loops := fun i => [], draws := fun i => #[], joins := fun i => none }
def F118 (a0n : Int) (h : Heap) (R : KV) : Prop :=
  CallsH Tryz.prog 132 #[.slice none 0 0, .int .i64 a0n] h fun v1 h2 =>
  ∃ (a3 : Option Addr) (la3 ca3 : Nat), v1 = .slice a3 la3 ca3 ∧
  R (.slice a3 la3 ca3) h2
theorem vf118 (a0n : Int) (h : Heap) (R : KV) (hF : F118 a0n h R) : CallsH Tryz.prog 118 #[.int .i64 a0n] h R :=
  calls_of_form (A := an118) (fn := Tryz.f118) (c := c118) (args := [.int .i64 a0n]) Tryz.func118 (by kernel_rfl) mixed (by kernel_rfl) (by kernel_rfl : F118 a0n h R = vcF Tryz.prog an118 Tryz.f118 c118 [.int .i64 a0n] h R) hF
/-! ### 119 refrain/proto.writeList[refrain/api.Value] -/
noncomputable def c119 : Code := match Tryz.f119.body with | some c => c | none => .skip
noncomputable def an119 : Ann := { loops := fun i => match i with | 2 => [(14, .int .i64)] | _ => [], draws := fun i => #[], joins := fun i => none }
def F119 (a0w : Option Addr) (a1l : Option Addr) (la1l ca1l : Nat) (p2f0 : Option Addr) (h : Heap) (R : KV) : Prop :=
  CallsH Tryz.prog 68 #[.pointer a0w, .int .i64 (la1l : Int)] h fun v1 h2 =>
  v1 = .tuple #[] ∧
  ∃ I3 : Nat → Heap → Int → Prop, (∃ n4, I3 n4 h2 0) ∧
  ∀ (n4 : Nat) (h5 : Heap) (g6 : Env) (y_7 : Int), I3 n4 h5 y_7 →
  cond (decide (y_7 < (la1l : Int)))
  (VIdx a1l la1l y_7 4 fun a9 =>
    ∃ x10 : Int, cellH h5 a9 = some (.int .i64 x10) ∧
    ∃ x11 : Int, cellH h5 ⟨a9.block, a9.off + 1, none⟩ = some (.int .i64 x11) ∧
    ∃ s12 : ByteArray, cellH h5 ⟨a9.block, a9.off + 2, none⟩ = some (.string s12) ∧
    ∃ b13 : Bool, cellH h5 ⟨a9.block, a9.off + 3, none⟩ = some (.bool b13) ∧
    VNew h5 (.cells #[.int .i64 0, .int .i64 0, .string (ByteArray.mk #[]), .bool false] 127) fun b14 h15 =>
    storeL ⟨b14, 0, none⟩ 0 [.int .i64 x10, .int .i64 x11, .string s12, .bool b13] h15 fun h16 =>
    ∃ x17 : Int, cellH h16 ⟨b14, 0, none⟩ = some (.int .i64 x17) ∧
    ∃ x18 : Int, cellH h16 ⟨b14, 1, none⟩ = some (.int .i64 x18) ∧
    ∃ s19 : ByteArray, cellH h16 ⟨b14, 2, none⟩ = some (.string s19) ∧
    ∃ b20 : Bool, cellH h16 ⟨b14, 3, none⟩ = some (.bool b20) ∧
    CallsH Tryz.prog 120 #[.pointer p2f0, .agg #[.int .i64 x17, .int .i64 x18, .string s19, .bool b20]] h16 fun v21 h22 =>
    v21 = .tuple #[] ∧
    ∃ m8, m8 < n4 ∧ I3 m8 h22 (IntKind.i64.wrap (y_7 + 1)))
  (R (.tuple #[]) h5)
theorem vf119 (a0w : Option Addr) (a1l : Option Addr) (la1l ca1l : Nat) (p2f0 : Option Addr) (h : Heap) (R : KV) (hF : F119 a0w a1l la1l ca1l p2f0 h R) : CallsH Tryz.prog 119 #[.pointer a0w, .slice a1l la1l ca1l, .func (.func 120) #[.pointer p2f0] #[]] h R :=
  calls_of_form (A := an119) (fn := Tryz.f119) (c := c119) (args := [.pointer a0w, .slice a1l la1l ca1l, .func (.func 120) #[.pointer p2f0] #[]]) Tryz.func119 (by kernel_rfl) mixed (by kernel_rfl) (by kernel_rfl : F119 a0w a1l la1l ca1l p2f0 h R = vcF Tryz.prog an119 Tryz.f119 c119 [.pointer a0w, .slice a1l la1l ca1l, .func (.func 120) #[.pointer p2f0] #[]] h R) hF
/-! ### 120 (refrain/proto.writer).value -/
noncomputable def c120 : Code := match Tryz.f120.body with | some c => c | none => .skip
noncomputable def an120 : Ann := { loops := fun i => [], draws := fun i => match i with | 3 => #[0, 0, 2, 6, 14, 0, 32, 96, 224, 510, 1023, 2047, 4095] | _ => #[], joins := fun i => match i with | 3 => some [] | _ => none }
def F120 (a0w : Option Addr) (a1v_0 : Int) (a1v_1 : Int) (a1v_2 : ByteArray) (a1v_3 : Bool) (h : Heap) (R : KV) : Prop :=
  VNew h (.cells #[.int .i64 a1v_0, .int .i64 a1v_1, .string a1v_2, .bool a1v_3] 127) fun b1 h2 =>
  ∃ J3 : Heap → Prop, (∃ x4 : Int, cellH h2 ⟨b1, 0, none⟩ = some (.int .i64 x4) ∧
    ∃ x5 : Int, cellH h2 ⟨b1, 1, none⟩ = some (.int .i64 x5) ∧
    ∃ s6 : ByteArray, cellH h2 ⟨b1, 2, none⟩ = some (.string s6) ∧
    ∃ b7 : Bool, cellH h2 ⟨b1, 3, none⟩ = some (.bool b7) ∧
    CallsH Tryz.prog 131 #[.agg #[.int .i64 x4, .int .i64 x5, .string s6, .bool b7]] h2 fun v8 h9 =>
    ∃ b10 : Bool, v8 = .bool b10 ∧
    cond (!b10)
    (CallsH Tryz.prog 129 #[.pointer a0w, .int .i64 12] h9 fun v11 h12 =>
      v11 = .tuple #[] ∧
      J3 h12)
    (J3 h9)) ∧
  ∀ (h13 : Heap) (g14 : Env), J3 h13 →
  VSome a0w fun a15 =>
  ∃ (a16 : Option Addr) (la16 ca16 : Nat), cellH h13 a15 = some (.slice a16 la16 ca16) ∧
  ∃ x17 : Int, cellH h13 ⟨b1, 0, none⟩ = some (.int .i64 x17) ∧
  VNew h13 (.cells #[.int .u8 (IntKind.u8.wrap x17)] 5) fun b18 h19 =>
  (cellH h19 a15 = some (.slice a16 la16 ca16)) ∧
  RunsTo Tryz.prog (Builtin.append_ #[36, 36] 36 #[.slice a16 la16 ca16, .slice (some ⟨b18, 0, none⟩) 1 1]) h19 fun v20 h21 =>
  ∃ (a22 : Option Addr) (la22 ca22 : Nat), v20 = .slice a22 la22 ca22 ∧
  VSome a0w fun a23 =>
  VStore h21 a23 (.slice a22 la22 ca22) fun h24 =>
  ∃ x25 : Int, cellH h24 ⟨b1, 0, none⟩ = some (.int .i64 x25) ∧
  cond (x25 == (1 : Int))
  (∃ x26 : Int, cellH h24 ⟨b1, 1, none⟩ = some (.int .i64 x26) ∧
    CallsH Tryz.prog 68 #[.pointer a0w, .int .i64 x26] h24 fun v27 h28 =>
    v27 = .tuple #[] ∧
    R (.tuple #[]) h28)
  (cond (x25 == (2 : Int))
    (∃ s29 : ByteArray, cellH h24 ⟨b1, 2, none⟩ = some (.string s29) ∧
      CallsH Tryz.prog 74 #[.pointer a0w, .string s29] h24 fun v30 h31 =>
      v30 = .tuple #[] ∧
      R (.tuple #[]) h31)
    (∃ b32 : Bool, cellH h24 ⟨b1, 3, none⟩ = some (.bool b32) ∧
      CallsH Tryz.prog 67 #[.pointer a0w, .bool b32] h24 fun v33 h34 =>
      v33 = .tuple #[] ∧
      R (.tuple #[]) h34))
theorem vf120 (a0w : Option Addr) (a1v_0 : Int) (a1v_1 : Int) (a1v_2 : ByteArray) (a1v_3 : Bool) (h : Heap) (R : KV) (hF : F120 a0w a1v_0 a1v_1 a1v_2 a1v_3 h R) : CallsH Tryz.prog 120 #[.pointer a0w, .agg #[.int .i64 a1v_0, .int .i64 a1v_1, .string a1v_2, .bool a1v_3]] h R :=
  calls_of_form (A := an120) (fn := Tryz.f120) (c := c120) (args := [.pointer a0w, .agg #[.int .i64 a1v_0, .int .i64 a1v_1, .string a1v_2, .bool a1v_3]]) Tryz.func120 (by kernel_rfl) mixed (by kernel_rfl) (by kernel_rfl : F120 a0w a1v_0 a1v_1 a1v_2 a1v_3 h R = vcF Tryz.prog an120 Tryz.f120 c120 [.pointer a0w, .agg #[.int .i64 a1v_0, .int .i64 a1v_1, .string a1v_2, .bool a1v_3]] h R) hF
/-! ### 124 refrain/refrainref30.of -/
noncomputable def c124 : Code := match Tryz.f124.body with | some c => c | none => .skip
noncomputable def an124 : Ann := { loops := fun i => match i with | 3 => [(5, .int .i64), (6, .int .i64)] | _ => [], draws := fun i => #[], joins := fun i => none }
def F124 (a0b : Option Addr) (la0b ca0b : Nat) (a1at : Int) (h : Heap) (R : KV) : Prop :=
  ∃ I1 : Nat → Heap → Int → Int → Prop, (∃ n2, I1 n2 h 0 0) ∧
  ∀ (n2 : Nat) (h3 : Heap) (g4 : Env) (n_5 : Int) (i_6 : Int), I1 n2 h3 n_5 i_6 →
  cond (decide (i_6 < (4 : Int)))
  (VIdx a0b la0b (IntKind.i64.wrap (a1at + i_6)) 1 fun a8 =>
    ∃ x9 : Int, cellH h3 a8 = some (.int .u8 x9) ∧
    ∃ m7, m7 < n2 ∧ I1 m7 h3 (IntKind.i64.wrap ((IntKind.i64.wrap (n_5 * 256)) + (IntKind.i64.wrap x9))) (IntKind.i64.wrap (i_6 + 1)))
  (R (.int .i64 n_5) h3)
theorem vf124 (a0b : Option Addr) (la0b ca0b : Nat) (a1at : Int) (h : Heap) (R : KV) (hF : F124 a0b la0b ca0b a1at h R) : CallsH Tryz.prog 124 #[.slice a0b la0b ca0b, .int .i64 a1at] h R :=
  calls_of_form (A := an124) (fn := Tryz.f124) (c := c124) (args := [.slice a0b la0b ca0b, .int .i64 a1at]) Tryz.func124 (by kernel_rfl) mixed (by kernel_rfl) (by kernel_rfl : F124 a0b la0b ca0b a1at h R = vcF Tryz.prog an124 Tryz.f124 c124 [.slice a0b la0b ca0b, .int .i64 a1at] h R) hF
/-! ### 128 refrain/wire.Encode -/
noncomputable def c128 : Code := match Tryz.f128.body with | some c => c | none => .skip
noncomputable def an128 : Ann := { loops := fun i => [], draws := fun i => #[], joins := fun i => none }
def F128 (a0e_0 : ByteArray) (a0e_1 : Int) (a0e_2 : Option Addr) (la0e_2 ca0e_2 : Nat) (h : Heap) (R : KV) : Prop :=
  VNew h (.cells #[.string a0e_0, .int .i64 a0e_1, .slice a0e_2 la0e_2 ca0e_2] 125) fun b1 h2 =>
  ∃ s3 : ByteArray, cellH h2 ⟨b1, 0, none⟩ = some (.string s3) ∧
  ∃ x4 : Int, cellH h2 ⟨b1, 1, none⟩ = some (.int .i64 x4) ∧
  ∃ (a5 : Option Addr) (la5 ca5 : Nat), cellH h2 ⟨b1, 2, none⟩ = some (.slice a5 la5 ca5) ∧
  CallsH Tryz.prog 141 #[.agg #[.string s3, .int .i64 x4, .slice a5 la5 ca5]] h2 fun v6 h7 =>
  ∃ x8 : Int, v6 = .int .i64 x8 ∧
  cond (x8 != (0 : Int))
  (R (.tuple #[.slice none 0 0, .int .i64 x8]) h7)
  (∃ s9 : ByteArray, cellH h7 ⟨b1, 0, none⟩ = some (.string s9) ∧
    ∃ x10 : Int, cellH h7 ⟨b1, 1, none⟩ = some (.int .i64 x10) ∧
    ∃ (a11 : Option Addr) (la11 ca11 : Nat), cellH h7 ⟨b1, 2, none⟩ = some (.slice a11 la11 ca11) ∧
    CallsH Tryz.prog 142 #[.slice none 0 0, .agg #[.string s9, .int .i64 x10, .slice a11 la11 ca11]] h7 fun v12 h13 =>
    ∃ (a14 : Option Addr) (la14 ca14 : Nat), v12 = .slice a14 la14 ca14 ∧
    R (.tuple #[.slice a14 la14 ca14, .int .i64 0]) h13)
theorem vf128 (a0e_0 : ByteArray) (a0e_1 : Int) (a0e_2 : Option Addr) (la0e_2 ca0e_2 : Nat) (h : Heap) (R : KV) (hF : F128 a0e_0 a0e_1 a0e_2 la0e_2 ca0e_2 h R) : CallsH Tryz.prog 128 #[.agg #[.string a0e_0, .int .i64 a0e_1, .slice a0e_2 la0e_2 ca0e_2]] h R :=
  calls_of_form (A := an128) (fn := Tryz.f128) (c := c128) (args := [.agg #[.string a0e_0, .int .i64 a0e_1, .slice a0e_2 la0e_2 ca0e_2]]) Tryz.func128 (by kernel_rfl) mixed (by kernel_rfl) (by kernel_rfl : F128 a0e_0 a0e_1 a0e_2 la0e_2 ca0e_2 h R = vcF Tryz.prog an128 Tryz.f128 c128 [.agg #[.string a0e_0, .int .i64 a0e_1, .slice a0e_2 la0e_2 ca0e_2]] h R) hF
/-! ### 129 (refrain/proto.writer).fail -/
noncomputable def c129 : Code := match Tryz.f129.body with | some c => c | none => .skip
noncomputable def an129 : Ann := { loops := fun i => [], draws := fun i => #[], joins := fun i => none }
def F129 (a0w : Option Addr) (a1e : Int) (h : Heap) (R : KV) : Prop :=
  VSome a0w fun a1 =>
  ∃ x2 : Int, cellH h ⟨a1.block, a1.off + 1, none⟩ = some (.int .i64 x2) ∧
  cond (x2 == (0 : Int))
  (VSome a0w fun a3 =>
    VStore h ⟨a3.block, a3.off + 1, none⟩ (.int .i64 a1e) fun h4 =>
    R (.tuple #[]) h4)
  (R (.tuple #[]) h)
theorem vf129 (a0w : Option Addr) (a1e : Int) (h : Heap) (R : KV) (hF : F129 a0w a1e h R) : CallsH Tryz.prog 129 #[.pointer a0w, .int .i64 a1e] h R :=
  calls_of_form (A := an129) (fn := Tryz.f129) (c := c129) (args := [.pointer a0w, .int .i64 a1e]) Tryz.func129 (by kernel_rfl) mixed (by kernel_rfl) (by kernel_rfl : F129 a0w a1e h R = vcF Tryz.prog an129 Tryz.f129 c129 [.pointer a0w, .int .i64 a1e] h R) hF
/-! ### 130 refrain/wire.Decode -/
noncomputable def c130 : Code := match Tryz.f130.body with | some c => c | none => .skip
noncomputable def an130 : Ann := { loops := fun i => [], draws := fun i => match i with | 4 => #[0, 0, 2, 6, 14, 1, 33, 127] | 5 => #[0, 0, 2, 6, 14, 1, 63, 127] | _ => #[], joins := fun i => none }
def F130 (a0b : Option Addr) (la0b ca0b : Nat) (h : Heap) (R : KV) : Prop :=
  VNew h (.cells #[.string (ByteArray.mk #[]), .int .i64 0, .slice none 0 0] 125) fun b1 h2 =>
  VNew h2 (.cells #[.slice a0b la0b ca0b, .int .i64 0, .int .i64 0] 193) fun b3 h4 =>
  CallsH Tryz.prog 143 #[.pointer (some ⟨b3, 0, none⟩)] h4 fun v5 h6 =>
  ∃ s7 : ByteArray, ∃ x8 : Int, ∃ (a9 : Option Addr) (la9 ca9 : Nat), v5 = .agg #[.string s7, .int .i64 x8, .slice a9 la9 ca9] ∧
  VNew h6 (.cells #[.string (ByteArray.mk #[]), .int .i64 0, .slice none 0 0] 125) fun b10 h11 =>
  storeL ⟨b10, 0, none⟩ 0 [.string s7, .int .i64 x8, .slice a9 la9 ca9] h11 fun h12 =>
  ∃ x13 : Int, cellH h12 ⟨b3, 2, none⟩ = some (.int .i64 x13) ∧
  cond (x13 != (0 : Int))
  (∃ x14 : Int, cellH h12 ⟨b3, 2, none⟩ = some (.int .i64 x14) ∧
    storeL ⟨b1, 0, none⟩ 0 [.string (ByteArray.mk #[]), .int .i64 0, .slice none 0 0] h12 fun h15 =>
    (cellH h15 ⟨b3, 2, none⟩ = some (.int .i64 x14)) ∧
    ∃ s16 : ByteArray, cellH h15 ⟨b1, 0, none⟩ = some (.string s16) ∧
    ∃ x17 : Int, cellH h15 ⟨b1, 1, none⟩ = some (.int .i64 x17) ∧
    ∃ (a18 : Option Addr) (la18 ca18 : Nat), cellH h15 ⟨b1, 2, none⟩ = some (.slice a18 la18 ca18) ∧
    R (.tuple #[.agg #[.string s16, .int .i64 x17, .slice a18 la18 ca18], .int .i64 0, .int .i64 x14]) h15)
  (∃ s19 : ByteArray, cellH h12 ⟨b10, 0, none⟩ = some (.string s19) ∧
    ∃ x20 : Int, cellH h12 ⟨b10, 1, none⟩ = some (.int .i64 x20) ∧
    ∃ (a21 : Option Addr) (la21 ca21 : Nat), cellH h12 ⟨b10, 2, none⟩ = some (.slice a21 la21 ca21) ∧
    ∃ x22 : Int, cellH h12 ⟨b3, 1, none⟩ = some (.int .i64 x22) ∧
    storeL ⟨b1, 0, none⟩ 0 [.string s19, .int .i64 x20, .slice a21 la21 ca21] h12 fun h23 =>
    (cellH h23 ⟨b3, 1, none⟩ = some (.int .i64 x22)) ∧
    ∃ s24 : ByteArray, cellH h23 ⟨b1, 0, none⟩ = some (.string s24) ∧
    ∃ x25 : Int, cellH h23 ⟨b1, 1, none⟩ = some (.int .i64 x25) ∧
    ∃ (a26 : Option Addr) (la26 ca26 : Nat), cellH h23 ⟨b1, 2, none⟩ = some (.slice a26 la26 ca26) ∧
    R (.tuple #[.agg #[.string s24, .int .i64 x25, .slice a26 la26 ca26], .int .i64 x22, .int .i64 0]) h23)
theorem vf130 (a0b : Option Addr) (la0b ca0b : Nat) (h : Heap) (R : KV) (hF : F130 a0b la0b ca0b h R) : CallsH Tryz.prog 130 #[.slice a0b la0b ca0b] h R :=
  calls_of_form (A := an130) (fn := Tryz.f130) (c := c130) (args := [.slice a0b la0b ca0b]) Tryz.func130 (by kernel_rfl) mixed (by kernel_rfl) (by kernel_rfl : F130 a0b la0b ca0b h R = vcF Tryz.prog an130 Tryz.f130 c130 [.slice a0b la0b ca0b] h R) hF
/-! ### 131 refrain/value.Valid -/
noncomputable def c131 : Code := match Tryz.f131.body with | some c => c | none => .skip
noncomputable def an131 : Ann := { loops := fun i => [], draws := fun i => match i with | 3 => #[0, 0, 2, 6, 15, 31] | 5 => #[0, 0, 2, 6, 15, 31, 63, 127, 255, 511, 1023, 2047] | 7 => #[0, 0, 2, 6, 15, 31] | _ => #[], joins := fun i => none }
def F131 (a0v_0 : Int) (a0v_1 : Int) (a0v_2 : ByteArray) (a0v_3 : Bool) (h : Heap) (R : KV) : Prop :=
  VNew h (.cells #[.int .i64 a0v_0, .int .i64 a0v_1, .string a0v_2, .bool a0v_3] 127) fun b1 h2 =>
  ∃ x3 : Int, cellH h2 ⟨b1, 0, none⟩ = some (.int .i64 x3) ∧
  cond (x3 == (1 : Int))
  (∃ x4 : Int, cellH h2 ⟨b1, 0, none⟩ = some (.int .i64 x4) ∧
    ∃ x5 : Int, cellH h2 ⟨b1, 1, none⟩ = some (.int .i64 x5) ∧
    ∃ s6 : ByteArray, cellH h2 ⟨b1, 2, none⟩ = some (.string s6) ∧
    ∃ b7 : Bool, cellH h2 ⟨b1, 3, none⟩ = some (.bool b7) ∧
    ∃ x8 : Int, cellH h2 ⟨b1, 1, none⟩ = some (.int .i64 x8) ∧
    CallsH Tryz.prog 144 #[.int .i64 x8] h2 fun v9 h10 =>
    ∃ x11 : Int, ∃ x12 : Int, ∃ s13 : ByteArray, ∃ b14 : Bool, v9 = .agg #[.int .i64 x11, .int .i64 x12, .string s13, .bool b14] ∧
    (cellH h10 ⟨b1, 0, none⟩ = some (.int .i64 x4) ∧ cellH h10 ⟨b1, 1, none⟩ = some (.int .i64 x5) ∧ cellH h10 ⟨b1, 2, none⟩ = some (.string s6) ∧ cellH h10 ⟨b1, 3, none⟩ = some (.bool b7)) ∧
    PureTo Tryz.prog (do eqGuard .eql 127 (.tmp 7) (.tmp 10) (.agg #[.int .i64 x4, .int .i64 x5, .string s6, .bool b7]) (.agg #[.int .i64 x11, .int .i64 x12, .string s13, .bool b14]); binOp .eql 127 (.agg #[.int .i64 x4, .int .i64 x5, .string s6, .bool b7]) (.agg #[.int .i64 x11, .int .i64 x12, .string s13, .bool b14])) fun v15 =>
    ∃ b16 : Bool, v15 = .bool b16 ∧
    R (.bool b16) h10)
  (cond (x3 == (2 : Int))
    (∃ x17 : Int, cellH h2 ⟨b1, 0, none⟩ = some (.int .i64 x17) ∧
      ∃ x18 : Int, cellH h2 ⟨b1, 1, none⟩ = some (.int .i64 x18) ∧
      ∃ s19 : ByteArray, cellH h2 ⟨b1, 2, none⟩ = some (.string s19) ∧
      ∃ b20 : Bool, cellH h2 ⟨b1, 3, none⟩ = some (.bool b20) ∧
      ∃ s21 : ByteArray, cellH h2 ⟨b1, 2, none⟩ = some (.string s21) ∧
      CallsH Tryz.prog 145 #[.string s21] h2 fun v22 h23 =>
      ∃ x24 : Int, ∃ x25 : Int, ∃ s26 : ByteArray, ∃ b27 : Bool, v22 = .agg #[.int .i64 x24, .int .i64 x25, .string s26, .bool b27] ∧
      (cellH h23 ⟨b1, 0, none⟩ = some (.int .i64 x17) ∧ cellH h23 ⟨b1, 1, none⟩ = some (.int .i64 x18) ∧ cellH h23 ⟨b1, 2, none⟩ = some (.string s19) ∧ cellH h23 ⟨b1, 3, none⟩ = some (.bool b20)) ∧
      PureTo Tryz.prog (do eqGuard .eql 127 (.tmp 14) (.tmp 17) (.agg #[.int .i64 x17, .int .i64 x18, .string s19, .bool b20]) (.agg #[.int .i64 x24, .int .i64 x25, .string s26, .bool b27]); binOp .eql 127 (.agg #[.int .i64 x17, .int .i64 x18, .string s19, .bool b20]) (.agg #[.int .i64 x24, .int .i64 x25, .string s26, .bool b27])) fun v28 =>
      ∃ b29 : Bool, v28 = .bool b29 ∧
      cond b29 (∃ s30 : ByteArray, cellH h23 ⟨b1, 2, none⟩ = some (.string s30) ∧
        R (.bool (decide ((s30.size : Int) ≤ (256 : Int)))) h23) (R (.bool false) h23))
    (cond (x3 == (3 : Int))
      (∃ x31 : Int, cellH h2 ⟨b1, 0, none⟩ = some (.int .i64 x31) ∧
        ∃ x32 : Int, cellH h2 ⟨b1, 1, none⟩ = some (.int .i64 x32) ∧
        ∃ s33 : ByteArray, cellH h2 ⟨b1, 2, none⟩ = some (.string s33) ∧
        ∃ b34 : Bool, cellH h2 ⟨b1, 3, none⟩ = some (.bool b34) ∧
        ∃ b35 : Bool, cellH h2 ⟨b1, 3, none⟩ = some (.bool b35) ∧
        CallsH Tryz.prog 146 #[.bool b35] h2 fun v36 h37 =>
        ∃ x38 : Int, ∃ x39 : Int, ∃ s40 : ByteArray, ∃ b41 : Bool, v36 = .agg #[.int .i64 x38, .int .i64 x39, .string s40, .bool b41] ∧
        (cellH h37 ⟨b1, 0, none⟩ = some (.int .i64 x31) ∧ cellH h37 ⟨b1, 1, none⟩ = some (.int .i64 x32) ∧ cellH h37 ⟨b1, 2, none⟩ = some (.string s33) ∧ cellH h37 ⟨b1, 3, none⟩ = some (.bool b34)) ∧
        PureTo Tryz.prog (do eqGuard .eql 127 (.tmp 27) (.tmp 30) (.agg #[.int .i64 x31, .int .i64 x32, .string s33, .bool b34]) (.agg #[.int .i64 x38, .int .i64 x39, .string s40, .bool b41]); binOp .eql 127 (.agg #[.int .i64 x31, .int .i64 x32, .string s33, .bool b34]) (.agg #[.int .i64 x38, .int .i64 x39, .string s40, .bool b41])) fun v42 =>
        ∃ b43 : Bool, v42 = .bool b43 ∧
        R (.bool b43) h37)
      (R (.bool false) h2)))
theorem vf131 (a0v_0 : Int) (a0v_1 : Int) (a0v_2 : ByteArray) (a0v_3 : Bool) (h : Heap) (R : KV) (hF : F131 a0v_0 a0v_1 a0v_2 a0v_3 h R) : CallsH Tryz.prog 131 #[.agg #[.int .i64 a0v_0, .int .i64 a0v_1, .string a0v_2, .bool a0v_3]] h R :=
  calls_of_form (A := an131) (fn := Tryz.f131) (c := c131) (args := [.agg #[.int .i64 a0v_0, .int .i64 a0v_1, .string a0v_2, .bool a0v_3]]) Tryz.func131 (by kernel_rfl) mixed (by kernel_rfl) (by kernel_rfl : F131 a0v_0 a0v_1 a0v_2 a0v_3 h R = vcF Tryz.prog an131 Tryz.f131 c131 [.agg #[.int .i64 a0v_0, .int .i64 a0v_1, .string a0v_2, .bool a0v_3]] h R) hF
/-! ### 132 refrain/wire.putInt -/
noncomputable def c132 : Code := match Tryz.f132.body with | some c => c | none => .skip
noncomputable def an132 : Ann := { loops := fun i => match i with | 2 => [(0, .slc), (5, .int .u64)] | _ => [], draws := fun i => #[], joins := fun i => none }
def F132 (a0b : Option Addr) (la0b ca0b : Nat) (a1n : Int) (h : Heap) (R : KV) : Prop :=
  (0 : Int) ≤ 1 ∧
  (0 : Int) ≤ 63 ∧
  ∃ I1 : Nat → Heap → Option Addr → Nat → Nat → Int → Prop, (∃ n2, I1 n2 h a0b la0b ca0b (bitsOp .xor .u64 (IntKind.u64.wrap ((IntKind.u64.wrap a1n) * 2 ^ (min (Int.toNat 1) (IntKind.bits .u64)))) (IntKind.u64.wrap (Int.fdiv a1n (2 ^ (min (Int.toNat 63) (IntKind.bits .i64))))))) ∧
  ∀ (n2 : Nat) (h3 : Heap) (g4 : Env) (b_5 : Option Addr) (lb_5 cb_5 : Nat) (z_6 : Int), I1 n2 h3 b_5 lb_5 cb_5 z_6 →
  cond (decide (z_6 ≥ (128 : Int)))
  (VNew h3 (.cells #[.int .u8 (bitsOp .or .u8 (IntKind.u8.wrap z_6) 128)] 5) fun b8 h9 =>
    RunsTo Tryz.prog (Builtin.append_ #[36, 36] 36 #[.slice b_5 lb_5 cb_5, .slice (some ⟨b8, 0, none⟩) 1 1]) h9 fun v10 h11 =>
    ∃ (a12 : Option Addr) (la12 ca12 : Nat), v10 = .slice a12 la12 ca12 ∧
    (0 : Int) ≤ 7 ∧
    ∃ m7, m7 < n2 ∧ I1 m7 h11 a12 la12 ca12 (Int.fdiv z_6 (2 ^ (min (Int.toNat 7) (IntKind.bits .u64)))))
  (VNew h3 (.cells #[.int .u8 (IntKind.u8.wrap z_6)] 5) fun b13 h14 =>
    RunsTo Tryz.prog (Builtin.append_ #[36, 36] 36 #[.slice b_5 lb_5 cb_5, .slice (some ⟨b13, 0, none⟩) 1 1]) h14 fun v15 h16 =>
    ∃ (a17 : Option Addr) (la17 ca17 : Nat), v15 = .slice a17 la17 ca17 ∧
    R (.slice a17 la17 ca17) h16)
theorem vf132 (a0b : Option Addr) (la0b ca0b : Nat) (a1n : Int) (h : Heap) (R : KV) (hF : F132 a0b la0b ca0b a1n h R) : CallsH Tryz.prog 132 #[.slice a0b la0b ca0b, .int .i64 a1n] h R :=
  calls_of_form (A := an132) (fn := Tryz.f132) (c := c132) (args := [.slice a0b la0b ca0b, .int .i64 a1n]) Tryz.func132 (by kernel_rfl) mixed (by kernel_rfl) (by kernel_rfl : F132 a0b la0b ca0b a1n h R = vcF Tryz.prog an132 Tryz.f132 c132 [.slice a0b la0b ca0b, .int .i64 a1n] h R) hF
/-! ### 141 refrain/wire.fault -/
noncomputable def c141 : Code := match Tryz.f141.body with | some c => c | none => .skip
noncomputable def an141 : Ann := { loops := fun i => match i with | 8 => [(2, .int .i64), (27, .int .i64)] | _ => [], draws := fun i => #[], joins := fun i => none }
def F141 (a0e_0 : ByteArray) (a0e_1 : Int) (a0e_2 : Option Addr) (la0e_2 ca0e_2 : Nat) (h : Heap) (R : KV) : Prop :=
  VNew h (.cells #[.string a0e_0, .int .i64 a0e_1, .slice a0e_2 la0e_2 ca0e_2] 125) fun b1 h2 =>
  ∃ s3 : ByteArray, cellH h2 ⟨b1, 0, none⟩ = some (.string s3) ∧
  CallsH Tryz.prog 148 #[.string s3] h2 fun v4 h5 =>
  ∃ b6 : Bool, v4 = .bool b6 ∧
  cond (!b6)
  (R (.int .i64 20) h5)
  (∃ x7 : Int, cellH h5 ⟨b1, 1, none⟩ = some (.int .i64 x7) ∧
    cond (decide (x7 < (0 : Int))) (R (.int .i64 23) h5) (∃ x8 : Int, cellH h5 ⟨b1, 1, none⟩ = some (.int .i64 x8) ∧
      cond (decide (x8 > (4611686018427387904 : Int)))
      (R (.int .i64 23) h5)
      (∃ (a9 : Option Addr) (la9 ca9 : Nat), cellH h5 ⟨b1, 2, none⟩ = some (.slice a9 la9 ca9) ∧
        cond (decide ((la9 : Int) > (16 : Int)))
        (R (.int .i64 2) h5)
        (∃ (a10 : Option Addr) (la10 ca10 : Nat), cellH h5 ⟨b1, 2, none⟩ = some (.slice a10 la10 ca10) ∧
          ∃ I11 : Nat → Heap → Int → Int → Prop, (∃ n12, I11 n12 h5 0 0) ∧
          ∀ (n12 : Nat) (h13 : Heap) (g14 : Env) (y_15 : Int) (y_16 : Int), I11 n12 h13 y_15 y_16 →
          cond (decide (y_16 < (la10 : Int)))
          (VIdx a10 la10 y_16 4 fun a18 =>
            ∃ x19 : Int, cellH h13 a18 = some (.int .i64 x19) ∧
            ∃ x20 : Int, cellH h13 ⟨a18.block, a18.off + 1, none⟩ = some (.int .i64 x20) ∧
            ∃ s21 : ByteArray, cellH h13 ⟨a18.block, a18.off + 2, none⟩ = some (.string s21) ∧
            ∃ b22 : Bool, cellH h13 ⟨a18.block, a18.off + 3, none⟩ = some (.bool b22) ∧
            VNew h13 (.cells #[.int .i64 0, .int .i64 0, .string (ByteArray.mk #[]), .bool false] 127) fun b23 h24 =>
            storeL ⟨b23, 0, none⟩ 0 [.int .i64 x19, .int .i64 x20, .string s21, .bool b22] h24 fun h25 =>
            ∃ x26 : Int, cellH h25 ⟨b23, 0, none⟩ = some (.int .i64 x26) ∧
            ∃ x27 : Int, cellH h25 ⟨b23, 1, none⟩ = some (.int .i64 x27) ∧
            ∃ s28 : ByteArray, cellH h25 ⟨b23, 2, none⟩ = some (.string s28) ∧
            ∃ b29 : Bool, cellH h25 ⟨b23, 3, none⟩ = some (.bool b29) ∧
            CallsH Tryz.prog 131 #[.agg #[.int .i64 x26, .int .i64 x27, .string s28, .bool b29]] h25 fun v30 h31 =>
            ∃ b32 : Bool, v30 = .bool b32 ∧
            cond (!b32)
            (R (.int .i64 12) h31)
            (∃ m17, m17 < n12 ∧ I11 m17 h31 y_15 (IntKind.i64.wrap (y_16 + 1))))
          (R (.int .i64 0) h13)))))
theorem vf141 (a0e_0 : ByteArray) (a0e_1 : Int) (a0e_2 : Option Addr) (la0e_2 ca0e_2 : Nat) (h : Heap) (R : KV) (hF : F141 a0e_0 a0e_1 a0e_2 la0e_2 ca0e_2 h R) : CallsH Tryz.prog 141 #[.agg #[.string a0e_0, .int .i64 a0e_1, .slice a0e_2 la0e_2 ca0e_2]] h R :=
  calls_of_form (A := an141) (fn := Tryz.f141) (c := c141) (args := [.agg #[.string a0e_0, .int .i64 a0e_1, .slice a0e_2 la0e_2 ca0e_2]]) Tryz.func141 (by kernel_rfl) mixed (by kernel_rfl) (by kernel_rfl : F141 a0e_0 a0e_1 a0e_2 la0e_2 ca0e_2 h R = vcF Tryz.prog an141 Tryz.f141 c141 [.agg #[.string a0e_0, .int .i64 a0e_1, .slice a0e_2 la0e_2 ca0e_2]] h R) hF
/-! ### 142 refrain/wire.put -/
noncomputable def c142 : Code := match Tryz.f142.body with | some c => c | none => .skip
noncomputable def an142 : Ann := { loops := fun i => match i with | 4 => [(0, .slc), (22, .int .i64)] | _ => [], draws := fun i => match i with | 1 => #[0, 0, 2, 7, 0, 16, 63, 127] | _ => #[], joins := fun i => none }
def F142 (a0b : Option Addr) (la0b ca0b : Nat) (a1e_0 : ByteArray) (a1e_1 : Int) (a1e_2 : Option Addr) (la1e_2 ca1e_2 : Nat) (h : Heap) (R : KV) : Prop :=
  VNew h (.cells #[.string a1e_0, .int .i64 a1e_1, .slice a1e_2 la1e_2 ca1e_2] 125) fun b1 h2 =>
  ∃ s3 : ByteArray, cellH h2 ⟨b1, 0, none⟩ = some (.string s3) ∧
  ∃ x4 : Int, cellH h2 ⟨b1, 1, none⟩ = some (.int .i64 x4) ∧
  CallsH Tryz.prog 149 #[.slice a0b la0b ca0b, .string s3] h2 fun v5 h6 =>
  ∃ (a7 : Option Addr) (la7 ca7 : Nat), v5 = .slice a7 la7 ca7 ∧
  (cellH h6 ⟨b1, 1, none⟩ = some (.int .i64 x4)) ∧
  CallsH Tryz.prog 132 #[.slice a7 la7 ca7, .int .i64 x4] h6 fun v8 h9 =>
  ∃ (a10 : Option Addr) (la10 ca10 : Nat), v8 = .slice a10 la10 ca10 ∧
  ∃ (a11 : Option Addr) (la11 ca11 : Nat), cellH h9 ⟨b1, 2, none⟩ = some (.slice a11 la11 ca11) ∧
  CallsH Tryz.prog 132 #[.slice a10 la10 ca10, .int .i64 (la11 : Int)] h9 fun v12 h13 =>
  ∃ (a14 : Option Addr) (la14 ca14 : Nat), v12 = .slice a14 la14 ca14 ∧
  ∃ (a15 : Option Addr) (la15 ca15 : Nat), cellH h13 ⟨b1, 2, none⟩ = some (.slice a15 la15 ca15) ∧
  ∃ I16 : Nat → Heap → Option Addr → Nat → Nat → Int → Prop, (∃ n17, I16 n17 h13 a14 la14 ca14 0) ∧
  ∀ (n17 : Nat) (h18 : Heap) (g19 : Env) (b_20 : Option Addr) (lb_20 cb_20 : Nat) (y_21 : Int), I16 n17 h18 b_20 lb_20 cb_20 y_21 →
  cond (decide (y_21 < (la15 : Int)))
  (VIdx a15 la15 y_21 4 fun a23 =>
    ∃ x24 : Int, cellH h18 a23 = some (.int .i64 x24) ∧
    ∃ x25 : Int, cellH h18 ⟨a23.block, a23.off + 1, none⟩ = some (.int .i64 x25) ∧
    ∃ s26 : ByteArray, cellH h18 ⟨a23.block, a23.off + 2, none⟩ = some (.string s26) ∧
    ∃ b27 : Bool, cellH h18 ⟨a23.block, a23.off + 3, none⟩ = some (.bool b27) ∧
    VNew h18 (.cells #[.int .i64 0, .int .i64 0, .string (ByteArray.mk #[]), .bool false] 127) fun b28 h29 =>
    storeL ⟨b28, 0, none⟩ 0 [.int .i64 x24, .int .i64 x25, .string s26, .bool b27] h29 fun h30 =>
    ∃ x31 : Int, cellH h30 ⟨b28, 0, none⟩ = some (.int .i64 x31) ∧
    ∃ x32 : Int, cellH h30 ⟨b28, 1, none⟩ = some (.int .i64 x32) ∧
    ∃ s33 : ByteArray, cellH h30 ⟨b28, 2, none⟩ = some (.string s33) ∧
    ∃ b34 : Bool, cellH h30 ⟨b28, 3, none⟩ = some (.bool b34) ∧
    CallsH Tryz.prog 150 #[.slice b_20 lb_20 cb_20, .agg #[.int .i64 x31, .int .i64 x32, .string s33, .bool b34]] h30 fun v35 h36 =>
    ∃ (a37 : Option Addr) (la37 ca37 : Nat), v35 = .slice a37 la37 ca37 ∧
    ∃ m22, m22 < n17 ∧ I16 m22 h36 a37 la37 ca37 (IntKind.i64.wrap (y_21 + 1)))
  (R (.slice b_20 lb_20 cb_20) h18)
theorem vf142 (a0b : Option Addr) (la0b ca0b : Nat) (a1e_0 : ByteArray) (a1e_1 : Int) (a1e_2 : Option Addr) (la1e_2 ca1e_2 : Nat) (h : Heap) (R : KV) (hF : F142 a0b la0b ca0b a1e_0 a1e_1 a1e_2 la1e_2 ca1e_2 h R) : CallsH Tryz.prog 142 #[.slice a0b la0b ca0b, .agg #[.string a1e_0, .int .i64 a1e_1, .slice a1e_2 la1e_2 ca1e_2]] h R :=
  calls_of_form (A := an142) (fn := Tryz.f142) (c := c142) (args := [.slice a0b la0b ca0b, .agg #[.string a1e_0, .int .i64 a1e_1, .slice a1e_2 la1e_2 ca1e_2]]) Tryz.func142 (by kernel_rfl) mixed (by kernel_rfl) (by kernel_rfl : F142 a0b la0b ca0b a1e_0 a1e_1 a1e_2 la1e_2 ca1e_2 h R = vcF Tryz.prog an142 Tryz.f142 c142 [.slice a0b la0b ca0b, .agg #[.string a1e_0, .int .i64 a1e_1, .slice a1e_2 la1e_2 ca1e_2]] h R) hF
/-! ### 143 (refrain/wire.reader).event -/
noncomputable def c143 : Code := match Tryz.f143.body with | some c => c | none => .skip
noncomputable def an143 : Ann := { loops := fun i => match i with | 7 => [(20, .int .i64)] | _ => [], draws := fun i => match i with | 8 => #[0, 1, 0, 4, 12, 31, 63, 127] | _ => #[], joins := fun i => match i with | 5 => some [] | _ => none }
def F143 (a0r : Option Addr) (h : Heap) (R : KV) : Prop :=
  VNew h (.cells #[.string (ByteArray.mk #[]), .int .i64 0, .slice none 0 0] 125) fun b1 h2 =>
  VNew h2 (.cells #[.string (ByteArray.mk #[]), .int .i64 0, .slice none 0 0] 125) fun b3 h4 =>
  CallsH Tryz.prog 152 #[.pointer a0r, .int .i64 1, .int .i64 32] h4 fun v5 h6 =>
  ∃ x7 : Int, v5 = .int .i64 x7 ∧
  CallsH Tryz.prog 151 #[.pointer a0r, .int .i64 x7] h6 fun v8 h9 =>
  ∃ s10 : ByteArray, v8 = .string s10 ∧
  VStore h9 ⟨b3, 0, none⟩ (.string s10) fun h11 =>
  ∃ J12 : Heap → Prop, (∃ s13 : ByteArray, cellH h11 ⟨b3, 0, none⟩ = some (.string s13) ∧
    CallsH Tryz.prog 148 #[.string s13] h11 fun v14 h15 =>
    ∃ b16 : Bool, v14 = .bool b16 ∧
    cond (!b16)
    (CallsH Tryz.prog 153 #[.pointer a0r, .int .i64 31] h15 fun v17 h18 =>
      v17 = .tuple #[] ∧
      J12 h18)
    (J12 h15)) ∧
  ∀ (h19 : Heap) (g20 : Env), J12 h19 →
  CallsH Tryz.prog 152 #[.pointer a0r, .int .i64 0, .int .i64 4611686018427387904] h19 fun v21 h22 =>
  ∃ x23 : Int, v21 = .int .i64 x23 ∧
  VStore h22 ⟨b3, 1, none⟩ (.int .i64 x23) fun h24 =>
  CallsH Tryz.prog 152 #[.pointer a0r, .int .i64 0, .int .i64 16] h24 fun v25 h26 =>
  ∃ x27 : Int, v25 = .int .i64 x27 ∧
  ∃ I28 : Nat → Heap → Int → Prop, (∃ n29, I28 n29 h26 0) ∧
  ∀ (n29 : Nat) (h30 : Heap) (g31 : Env) (y_32 : Int), I28 n29 h30 y_32 →
  cond (decide (y_32 < x27))
  (∃ (a34 : Option Addr) (la34 ca34 : Nat), cellH h30 ⟨b3, 2, none⟩ = some (.slice a34 la34 ca34) ∧
    CallsH Tryz.prog 154 #[.pointer a0r] h30 fun v35 h36 =>
    ∃ x37 : Int, ∃ x38 : Int, ∃ s39 : ByteArray, ∃ b40 : Bool, v35 = .agg #[.int .i64 x37, .int .i64 x38, .string s39, .bool b40] ∧
    (cellH h36 ⟨b3, 2, none⟩ = some (.slice a34 la34 ca34)) ∧
    VNew h36 (.cells #[.int .i64 x37, .int .i64 x38, .string s39, .bool b40] 127) fun b41 h42 =>
    (cellH h42 ⟨b3, 2, none⟩ = some (.slice a34 la34 ca34)) ∧
    RunsTo Tryz.prog (Builtin.append_ #[112, 112] 112 #[.slice a34 la34 ca34, .slice (some ⟨b41, 0, none⟩) 1 1]) h42 fun v43 h44 =>
    ∃ (a45 : Option Addr) (la45 ca45 : Nat), v43 = .slice a45 la45 ca45 ∧
    VStore h44 ⟨b3, 2, none⟩ (.slice a45 la45 ca45) fun h46 =>
    ∃ m33, m33 < n29 ∧ I28 m33 h46 (IntKind.i64.wrap (y_32 + 1)))
  (∃ s47 : ByteArray, cellH h30 ⟨b3, 0, none⟩ = some (.string s47) ∧
    ∃ x48 : Int, cellH h30 ⟨b3, 1, none⟩ = some (.int .i64 x48) ∧
    ∃ (a49 : Option Addr) (la49 ca49 : Nat), cellH h30 ⟨b3, 2, none⟩ = some (.slice a49 la49 ca49) ∧
    storeL ⟨b1, 0, none⟩ 0 [.string s47, .int .i64 x48, .slice a49 la49 ca49] h30 fun h50 =>
    ∃ s51 : ByteArray, cellH h50 ⟨b1, 0, none⟩ = some (.string s51) ∧
    ∃ x52 : Int, cellH h50 ⟨b1, 1, none⟩ = some (.int .i64 x52) ∧
    ∃ (a53 : Option Addr) (la53 ca53 : Nat), cellH h50 ⟨b1, 2, none⟩ = some (.slice a53 la53 ca53) ∧
    R (.agg #[.string s51, .int .i64 x52, .slice a53 la53 ca53]) h50)
theorem vf143 (a0r : Option Addr) (h : Heap) (R : KV) (hF : F143 a0r h R) : CallsH Tryz.prog 143 #[.pointer a0r] h R :=
  calls_of_form (A := an143) (fn := Tryz.f143) (c := c143) (args := [.pointer a0r]) Tryz.func143 (by kernel_rfl) mixed (by kernel_rfl) (by kernel_rfl : F143 a0r h R = vcF Tryz.prog an143 Tryz.f143 c143 [.pointer a0r] h R) hF
/-! ### 144 refrain/value.number -/
noncomputable def c144 : Code := match Tryz.f144.body with | some c => c | none => .skip
noncomputable def an144 : Ann := { loops := fun i => [], draws := fun i => #[], joins := fun i => none }
def F144 (a0n : Int) (h : Heap) (R : KV) : Prop :=
  VNew h (.cells #[.int .i64 0, .int .i64 0, .string (ByteArray.mk #[]), .bool false] 127) fun b1 h2 =>
  storeL ⟨b1, 0, none⟩ 0 [.int .i64 1, .int .i64 a0n, .string (ByteArray.mk #[]), .bool false] h2 fun h3 =>
  ∃ x4 : Int, cellH h3 ⟨b1, 0, none⟩ = some (.int .i64 x4) ∧
  ∃ x5 : Int, cellH h3 ⟨b1, 1, none⟩ = some (.int .i64 x5) ∧
  ∃ s6 : ByteArray, cellH h3 ⟨b1, 2, none⟩ = some (.string s6) ∧
  ∃ b7 : Bool, cellH h3 ⟨b1, 3, none⟩ = some (.bool b7) ∧
  R (.agg #[.int .i64 x4, .int .i64 x5, .string s6, .bool b7]) h3
theorem vf144 (a0n : Int) (h : Heap) (R : KV) (hF : F144 a0n h R) : CallsH Tryz.prog 144 #[.int .i64 a0n] h R :=
  calls_of_form (A := an144) (fn := Tryz.f144) (c := c144) (args := [.int .i64 a0n]) Tryz.func144 (by kernel_rfl) mixed (by kernel_rfl) (by kernel_rfl : F144 a0n h R = vcF Tryz.prog an144 Tryz.f144 c144 [.int .i64 a0n] h R) hF
/-! ### 145 refrain/value.text -/
noncomputable def c145 : Code := match Tryz.f145.body with | some c => c | none => .skip
noncomputable def an145 : Ann := { loops := fun i => [], draws := fun i => #[], joins := fun i => none }
def F145 (a0s : ByteArray) (h : Heap) (R : KV) : Prop :=
  VNew h (.cells #[.int .i64 0, .int .i64 0, .string (ByteArray.mk #[]), .bool false] 127) fun b1 h2 =>
  storeL ⟨b1, 0, none⟩ 0 [.int .i64 2, .int .i64 0, .string a0s, .bool false] h2 fun h3 =>
  ∃ x4 : Int, cellH h3 ⟨b1, 0, none⟩ = some (.int .i64 x4) ∧
  ∃ x5 : Int, cellH h3 ⟨b1, 1, none⟩ = some (.int .i64 x5) ∧
  ∃ s6 : ByteArray, cellH h3 ⟨b1, 2, none⟩ = some (.string s6) ∧
  ∃ b7 : Bool, cellH h3 ⟨b1, 3, none⟩ = some (.bool b7) ∧
  R (.agg #[.int .i64 x4, .int .i64 x5, .string s6, .bool b7]) h3
theorem vf145 (a0s : ByteArray) (h : Heap) (R : KV) (hF : F145 a0s h R) : CallsH Tryz.prog 145 #[.string a0s] h R :=
  calls_of_form (A := an145) (fn := Tryz.f145) (c := c145) (args := [.string a0s]) Tryz.func145 (by kernel_rfl) mixed (by kernel_rfl) (by kernel_rfl : F145 a0s h R = vcF Tryz.prog an145 Tryz.f145 c145 [.string a0s] h R) hF
/-! ### 146 refrain/value.truth -/
noncomputable def c146 : Code := match Tryz.f146.body with | some c => c | none => .skip
noncomputable def an146 : Ann := { loops := fun i => [], draws := fun i => #[], joins := fun i => none }
def F146 (a0b : Bool) (h : Heap) (R : KV) : Prop :=
  VNew h (.cells #[.int .i64 0, .int .i64 0, .string (ByteArray.mk #[]), .bool false] 127) fun b1 h2 =>
  storeL ⟨b1, 0, none⟩ 0 [.int .i64 3, .int .i64 0, .string (ByteArray.mk #[]), .bool a0b] h2 fun h3 =>
  ∃ x4 : Int, cellH h3 ⟨b1, 0, none⟩ = some (.int .i64 x4) ∧
  ∃ x5 : Int, cellH h3 ⟨b1, 1, none⟩ = some (.int .i64 x5) ∧
  ∃ s6 : ByteArray, cellH h3 ⟨b1, 2, none⟩ = some (.string s6) ∧
  ∃ b7 : Bool, cellH h3 ⟨b1, 3, none⟩ = some (.bool b7) ∧
  R (.agg #[.int .i64 x4, .int .i64 x5, .string s6, .bool b7]) h3
theorem vf146 (a0b : Bool) (h : Heap) (R : KV) (hF : F146 a0b h R) : CallsH Tryz.prog 146 #[.bool a0b] h R :=
  calls_of_form (A := an146) (fn := Tryz.f146) (c := c146) (args := [.bool a0b]) Tryz.func146 (by kernel_rfl) mixed (by kernel_rfl) (by kernel_rfl : F146 a0b h R = vcF Tryz.prog an146 Tryz.f146 c146 [.bool a0b] h R) hF
/-! ### 148 refrain/schema.Name -/
noncomputable def c148 : Code := match Tryz.f148.body with | some c => c | none => .skip
noncomputable def an148 : Ann := { loops := fun i => match i with | 4 => [(2, .bool), (21, .int .i64)] | 10 => [(2, .bool), (31, .int .i64)] | _ => [], draws := fun i => #[], joins := fun i => none }
def F148 (a0s : ByteArray) (h : Heap) (R : KV) : Prop :=
  cond (strEq a0s (ByteArray.mk #[])) (R (.bool false) h) (cond (decide ((a0s.size : Int) > (32 : Int))) (R (.bool false) h) ((0 : Int) ≤ 0 ∧ ∃ u1 : UInt8, a0s[Int.toNat 0]? = some u1 ∧
      CallsH Tryz.prog 155 #[.int .u8 (u1.toNat : Int)] h fun v2 h3 =>
      ∃ b4 : Bool, v2 = .bool b4 ∧
      cond (!b4)
      (R (.bool false) h3)
      (∃ I5 : Nat → Heap → Bool → Int → Prop, (∃ n6, I5 n6 h3 false 0) ∧
        ∀ (n6 : Nat) (h7 : Heap) (g8 : Env) (y_9 : Bool) (y_10 : Int), I5 n6 h7 y_9 y_10 →
        cond (decide (y_10 < (a0s.size : Int)))
        ((0 : Int) ≤ y_10 ∧ ∃ u12 : UInt8, a0s[Int.toNat y_10]? = some u12 ∧
          CallsH Tryz.prog 156 #[.int .u8 (u12.toNat : Int)] h7 fun v13 h14 =>
          ∃ b15 : Bool, v13 = .bool b15 ∧
          cond (!b15)
          (R (.bool false) h14)
          (∃ m11, m11 < n6 ∧ I5 m11 h14 y_9 (IntKind.i64.wrap (y_10 + 1))))
        (∃ s16 : ByteArray, cellH h7 ⟨1, 0, none⟩ = some (.string s16) ∧
          ∃ s17 : ByteArray, cellH h7 ⟨1, 1, none⟩ = some (.string s17) ∧
          ∃ s18 : ByteArray, cellH h7 ⟨1, 2, none⟩ = some (.string s18) ∧
          ∃ s19 : ByteArray, cellH h7 ⟨1, 3, none⟩ = some (.string s19) ∧
          ∃ s20 : ByteArray, cellH h7 ⟨1, 4, none⟩ = some (.string s20) ∧
          ∃ s21 : ByteArray, cellH h7 ⟨1, 5, none⟩ = some (.string s21) ∧
          ∃ s22 : ByteArray, cellH h7 ⟨1, 6, none⟩ = some (.string s22) ∧
          ∃ s23 : ByteArray, cellH h7 ⟨1, 7, none⟩ = some (.string s23) ∧
          ∃ s24 : ByteArray, cellH h7 ⟨1, 8, none⟩ = some (.string s24) ∧
          ∃ s25 : ByteArray, cellH h7 ⟨1, 9, none⟩ = some (.string s25) ∧
          ∃ s26 : ByteArray, cellH h7 ⟨1, 10, none⟩ = some (.string s26) ∧
          ∃ s27 : ByteArray, cellH h7 ⟨1, 11, none⟩ = some (.string s27) ∧
          ∃ s28 : ByteArray, cellH h7 ⟨1, 12, none⟩ = some (.string s28) ∧
          ∃ s29 : ByteArray, cellH h7 ⟨1, 13, none⟩ = some (.string s29) ∧
          ∃ s30 : ByteArray, cellH h7 ⟨1, 14, none⟩ = some (.string s30) ∧
          ∃ s31 : ByteArray, cellH h7 ⟨1, 15, none⟩ = some (.string s31) ∧
          ∃ I32 : Nat → Heap → Bool → Int → Prop, (∃ n33, I32 n33 h7 y_9 0) ∧
          ∀ (n33 : Nat) (h34 : Heap) (g35 : Env) (y_36 : Bool) (y_37 : Int), I32 n33 h34 y_36 y_37 →
          cond (decide (y_37 < (16 : Int)))
          (PureTo Tryz.prog (Instr.index 198 (.agg #[.string s16, .string s17, .string s18, .string s19, .string s20, .string s21, .string s22, .string s23, .string s24, .string s25, .string s26, .string s27, .string s28, .string s29, .string s30, .string s31]) (.int .i64 y_37)) fun v39 =>
            ∃ s40 : ByteArray, v39 = .string s40 ∧
            cond (strEq a0s s40)
            (R (.bool false) h34)
            (∃ m38, m38 < n33 ∧ I32 m38 h34 y_36 (IntKind.i64.wrap (y_37 + 1))))
          (R (.bool true) h34)))))
theorem vf148 (a0s : ByteArray) (h : Heap) (R : KV) (hF : F148 a0s h R) : CallsH Tryz.prog 148 #[.string a0s] h R :=
  calls_of_form (A := an148) (fn := Tryz.f148) (c := c148) (args := [.string a0s]) Tryz.func148 (by kernel_rfl) mixed (by kernel_rfl) (by kernel_rfl : F148 a0s h R = vcF Tryz.prog an148 Tryz.f148 c148 [.string a0s] h R) hF
/-! ### 149 refrain/wire.putStr -/
noncomputable def c149 : Code := match Tryz.f149.body with | some c => c | none => .skip
noncomputable def an149 : Ann := { loops := fun i => [], draws := fun i => #[], joins := fun i => none }
def F149 (a0b : Option Addr) (la0b ca0b : Nat) (a1s : ByteArray) (h : Heap) (R : KV) : Prop :=
  CallsH Tryz.prog 132 #[.slice a0b la0b ca0b, .int .i64 (a1s.size : Int)] h fun v1 h2 =>
  ∃ (a3 : Option Addr) (la3 ca3 : Nat), v1 = .slice a3 la3 ca3 ∧
  RunsTo Tryz.prog (Builtin.append_ #[36, 9] 36 #[.slice a3 la3 ca3, .string a1s]) h2 fun v4 h5 =>
  ∃ (a6 : Option Addr) (la6 ca6 : Nat), v4 = .slice a6 la6 ca6 ∧
  R (.slice a6 la6 ca6) h5
theorem vf149 (a0b : Option Addr) (la0b ca0b : Nat) (a1s : ByteArray) (h : Heap) (R : KV) (hF : F149 a0b la0b ca0b a1s h R) : CallsH Tryz.prog 149 #[.slice a0b la0b ca0b, .string a1s] h R :=
  calls_of_form (A := an149) (fn := Tryz.f149) (c := c149) (args := [.slice a0b la0b ca0b, .string a1s]) Tryz.func149 (by kernel_rfl) mixed (by kernel_rfl) (by kernel_rfl : F149 a0b la0b ca0b a1s h R = vcF Tryz.prog an149 Tryz.f149 c149 [.slice a0b la0b ca0b, .string a1s] h R) hF
/-! ### 150 refrain/wire.putVal -/
noncomputable def c150 : Code := match Tryz.f150.body with | some c => c | none => .skip
noncomputable def an150 : Ann := { loops := fun i => [], draws := fun i => #[], joins := fun i => none }
def F150 (a0b : Option Addr) (la0b ca0b : Nat) (a1v_0 : Int) (a1v_1 : Int) (a1v_2 : ByteArray) (a1v_3 : Bool) (h : Heap) (R : KV) : Prop :=
  VNew h (.cells #[.int .i64 a1v_0, .int .i64 a1v_1, .string a1v_2, .bool a1v_3] 127) fun b1 h2 =>
  ∃ x3 : Int, cellH h2 ⟨b1, 0, none⟩ = some (.int .i64 x3) ∧
  VNew h2 (.cells #[.int .u8 (IntKind.u8.wrap x3)] 5) fun b4 h5 =>
  RunsTo Tryz.prog (Builtin.append_ #[36, 36] 36 #[.slice a0b la0b ca0b, .slice (some ⟨b4, 0, none⟩) 1 1]) h5 fun v6 h7 =>
  ∃ (a8 : Option Addr) (la8 ca8 : Nat), v6 = .slice a8 la8 ca8 ∧
  ∃ x9 : Int, cellH h7 ⟨b1, 0, none⟩ = some (.int .i64 x9) ∧
  cond (x9 == (1 : Int))
  (∃ x10 : Int, cellH h7 ⟨b1, 1, none⟩ = some (.int .i64 x10) ∧
    CallsH Tryz.prog 132 #[.slice a8 la8 ca8, .int .i64 x10] h7 fun v11 h12 =>
    ∃ (a13 : Option Addr) (la13 ca13 : Nat), v11 = .slice a13 la13 ca13 ∧
    R (.slice a13 la13 ca13) h12)
  (cond (x9 == (2 : Int))
    (∃ s14 : ByteArray, cellH h7 ⟨b1, 2, none⟩ = some (.string s14) ∧
      CallsH Tryz.prog 149 #[.slice a8 la8 ca8, .string s14] h7 fun v15 h16 =>
      ∃ (a17 : Option Addr) (la17 ca17 : Nat), v15 = .slice a17 la17 ca17 ∧
      R (.slice a17 la17 ca17) h16)
    (∃ x18 : Int, cellH h7 ⟨b1, 0, none⟩ = some (.int .i64 x18) ∧
      ∃ x19 : Int, cellH h7 ⟨b1, 1, none⟩ = some (.int .i64 x19) ∧
      ∃ s20 : ByteArray, cellH h7 ⟨b1, 2, none⟩ = some (.string s20) ∧
      ∃ b21 : Bool, cellH h7 ⟨b1, 3, none⟩ = some (.bool b21) ∧
      PureTo Tryz.prog (do eqGuard .eql 127 (.tmp 25) (.tmp 26) (.agg #[.int .i64 x18, .int .i64 x19, .string s20, .bool b21]) (.agg #[.int .i64 3, .int .i64 0, .string (ByteArray.mk #[]), .bool false]); binOp .eql 127 (.agg #[.int .i64 x18, .int .i64 x19, .string s20, .bool b21]) (.agg #[.int .i64 3, .int .i64 0, .string (ByteArray.mk #[]), .bool false])) fun v22 =>
      ∃ b23 : Bool, v22 = .bool b23 ∧
      cond b23
      (VNew h7 (.cells #[.int .u8 0] 5) fun b24 h25 =>
        RunsTo Tryz.prog (Builtin.append_ #[36, 36] 36 #[.slice a8 la8 ca8, .slice (some ⟨b24, 0, none⟩) 1 1]) h25 fun v26 h27 =>
        ∃ (a28 : Option Addr) (la28 ca28 : Nat), v26 = .slice a28 la28 ca28 ∧
        R (.slice a28 la28 ca28) h27)
      (VNew h7 (.cells #[.int .u8 1] 5) fun b29 h30 =>
        RunsTo Tryz.prog (Builtin.append_ #[36, 36] 36 #[.slice a8 la8 ca8, .slice (some ⟨b29, 0, none⟩) 1 1]) h30 fun v31 h32 =>
        ∃ (a33 : Option Addr) (la33 ca33 : Nat), v31 = .slice a33 la33 ca33 ∧
        R (.slice a33 la33 ca33) h32)))
theorem vf150 (a0b : Option Addr) (la0b ca0b : Nat) (a1v_0 : Int) (a1v_1 : Int) (a1v_2 : ByteArray) (a1v_3 : Bool) (h : Heap) (R : KV) (hF : F150 a0b la0b ca0b a1v_0 a1v_1 a1v_2 a1v_3 h R) : CallsH Tryz.prog 150 #[.slice a0b la0b ca0b, .agg #[.int .i64 a1v_0, .int .i64 a1v_1, .string a1v_2, .bool a1v_3]] h R :=
  calls_of_form (A := an150) (fn := Tryz.f150) (c := c150) (args := [.slice a0b la0b ca0b, .agg #[.int .i64 a1v_0, .int .i64 a1v_1, .string a1v_2, .bool a1v_3]]) Tryz.func150 (by kernel_rfl) mixed (by kernel_rfl) (by kernel_rfl : F150 a0b la0b ca0b a1v_0 a1v_1 a1v_2 a1v_3 h R = vcF Tryz.prog an150 Tryz.f150 c150 [.slice a0b la0b ca0b, .agg #[.int .i64 a1v_0, .int .i64 a1v_1, .string a1v_2, .bool a1v_3]] h R) hF
/-! ### 151 (refrain/wire.reader).bytes -/
noncomputable def c151 : Code := match Tryz.f151.body with | some c => c | none => .skip
noncomputable def an151 : Ann := { loops := fun i => [], draws := fun i => match i with | 1 => #[0, 1, 3, 7, 15, 31, 63, 63, 191, 447, 959, 1983, 63, 4159, 12351, 28735, 65471, 131071, 262143] | 6 => #[0, 1, 3, 7, 0, 16, 48, 112, 0, 496, 0, 1024, 3072, 7168, 16383, 32767, 65535] | _ => #[], joins := fun i => match i with | 3 => some [] | _ => none }
def F151 (a0r : Option Addr) (a1n : Int) (h : Heap) (R : KV) : Prop :=
  ∃ J1 : Heap → Prop, (VSome a0r fun a2 =>
    ∃ x3 : Int, cellH h ⟨a2.block, a2.off + 2, none⟩ = some (.int .i64 x3) ∧
    cond (x3 == (0 : Int)) (VSome a0r fun a4 =>
      ∃ (a5 : Option Addr) (la5 ca5 : Nat), cellH h a4 = some (.slice a5 la5 ca5) ∧
      VSome a0r fun a6 =>
      ∃ x7 : Int, cellH h ⟨a6.block, a6.off + 1, none⟩ = some (.int .i64 x7) ∧
      cond (decide (a1n > (IntKind.i64.wrap ((la5 : Int) - x7))))
      (CallsH Tryz.prog 153 #[.pointer a0r, .int .i64 30] h fun v8 h9 =>
        v8 = .tuple #[] ∧
        J1 h9)
      (J1 h)) (J1 h)) ∧
  ∀ (h10 : Heap) (g11 : Env), J1 h10 →
  VSome a0r fun a12 =>
  ∃ x13 : Int, cellH h10 ⟨a12.block, a12.off + 2, none⟩ = some (.int .i64 x13) ∧
  cond (x13 != (0 : Int))
  (R (.string (ByteArray.mk #[])) h10)
  (VSome a0r fun a14 =>
    ∃ x15 : Int, cellH h10 ⟨a14.block, a14.off + 1, none⟩ = some (.int .i64 x15) ∧
    VSome a0r fun a16 =>
    VStore h10 ⟨a16.block, a16.off + 1, none⟩ (.int .i64 (IntKind.i64.wrap (x15 + a1n))) fun h17 =>
    VSome a0r fun a18 =>
    ∃ (a19 : Option Addr) (la19 ca19 : Nat), cellH h17 a18 = some (.slice a19 la19 ca19) ∧
    VSome a0r fun a20 =>
    ∃ x21 : Int, cellH h17 ⟨a20.block, a20.off + 1, none⟩ = some (.int .i64 x21) ∧
    VSome a0r fun a22 =>
    ∃ x23 : Int, cellH h17 ⟨a22.block, a22.off + 1, none⟩ = some (.int .i64 x23) ∧
    VSlice 1 a19 ca19 (IntKind.i64.wrap (x21 - a1n)) x23 (ca19 : Int) fun a24 la24 ca24 =>
    RunsTo Tryz.prog (convert 36 9 (.slice a24 la24 ca24)) h17 fun v25 h26 =>
    ∃ s27 : ByteArray, v25 = .string s27 ∧
    R (.string s27) h26)
theorem vf151 (a0r : Option Addr) (a1n : Int) (h : Heap) (R : KV) (hF : F151 a0r a1n h R) : CallsH Tryz.prog 151 #[.pointer a0r, .int .i64 a1n] h R :=
  calls_of_form (A := an151) (fn := Tryz.f151) (c := c151) (args := [.pointer a0r, .int .i64 a1n]) Tryz.func151 (by kernel_rfl) mixed (by kernel_rfl) (by kernel_rfl : F151 a0r a1n h R = vcF Tryz.prog an151 Tryz.f151 c151 [.pointer a0r, .int .i64 a1n] h R) hF
/-! ### 152 (refrain/wire.reader).number -/
noncomputable def c152 : Code := match Tryz.f152.body with | some c => c | none => .skip
noncomputable def an152 : Ann := { loops := fun i => [], draws := fun i => match i with | 3 => #[0, 1, 3, 7, 0, 16, 48, 112, 255, 511, 1023, 2047, 2047, 2047, 4095, 24575, 65535] | _ => #[], joins := fun i => none }
def F152 (a0r : Option Addr) (a1lo : Int) (a2hi : Int) (h : Heap) (R : KV) : Prop :=
  VSome a0r fun a1 =>
  ∃ x2 : Int, cellH h ⟨a1.block, a1.off + 2, none⟩ = some (.int .i64 x2) ∧
  cond (x2 != (0 : Int))
  (R (.int .i64 0) h)
  (VSome a0r fun a3 =>
    ∃ (a4 : Option Addr) (la4 ca4 : Nat), cellH h a3 = some (.slice a4 la4 ca4) ∧
    VSome a0r fun a5 =>
    ∃ x6 : Int, cellH h ⟨a5.block, a5.off + 1, none⟩ = some (.int .i64 x6) ∧
    VSlice 1 a4 ca4 x6 (la4 : Int) (ca4 : Int) fun a7 la7 ca7 =>
    CallsH Tryz.prog 115 #[.slice a7 la7 ca7] h fun v8 h9 =>
    ∃ x10 : Int, ∃ x11 : Int, ∃ x12 : Int, v8 = .tuple #[.int .i64 x10, .int .i64 x11, .int .i64 x12] ∧
    cond (x12 != (0 : Int))
    (CallsH Tryz.prog 153 #[.pointer a0r, .int .i64 x12] h9 fun v13 h14 =>
      v13 = .tuple #[] ∧
      R (.int .i64 0) h14)
    (cond (decide (x10 < a1lo)) (CallsH Tryz.prog 153 #[.pointer a0r, .int .i64 31] h9 fun v15 h16 =>
        v15 = .tuple #[] ∧
        R (.int .i64 0) h16) (cond (decide (x10 > a2hi))
        (CallsH Tryz.prog 153 #[.pointer a0r, .int .i64 31] h9 fun v17 h18 =>
          v17 = .tuple #[] ∧
          R (.int .i64 0) h18)
        (VSome a0r fun a19 =>
          ∃ x20 : Int, cellH h9 ⟨a19.block, a19.off + 1, none⟩ = some (.int .i64 x20) ∧
          VSome a0r fun a21 =>
          VStore h9 ⟨a21.block, a21.off + 1, none⟩ (.int .i64 (IntKind.i64.wrap (x20 + x11))) fun h22 =>
          R (.int .i64 x10) h22))))
theorem vf152 (a0r : Option Addr) (a1lo : Int) (a2hi : Int) (h : Heap) (R : KV) (hF : F152 a0r a1lo a2hi h R) : CallsH Tryz.prog 152 #[.pointer a0r, .int .i64 a1lo, .int .i64 a2hi] h R :=
  calls_of_form (A := an152) (fn := Tryz.f152) (c := c152) (args := [.pointer a0r, .int .i64 a1lo, .int .i64 a2hi]) Tryz.func152 (by kernel_rfl) mixed (by kernel_rfl) (by kernel_rfl : F152 a0r a1lo a2hi h R = vcF Tryz.prog an152 Tryz.f152 c152 [.pointer a0r, .int .i64 a1lo, .int .i64 a2hi] h R) hF
/-! ### 153 (refrain/wire.reader).fail -/
noncomputable def c153 : Code := match Tryz.f153.body with | some c => c | none => .skip
noncomputable def an153 : Ann := { loops := fun i => [], draws := fun i => #[], joins := fun i => none }
def F153 (a0r : Option Addr) (a1e : Int) (h : Heap) (R : KV) : Prop :=
  VSome a0r fun a1 =>
  ∃ x2 : Int, cellH h ⟨a1.block, a1.off + 2, none⟩ = some (.int .i64 x2) ∧
  cond (x2 == (0 : Int))
  (VSome a0r fun a3 =>
    VStore h ⟨a3.block, a3.off + 2, none⟩ (.int .i64 a1e) fun h4 =>
    R (.tuple #[]) h4)
  (R (.tuple #[]) h)
theorem vf153 (a0r : Option Addr) (a1e : Int) (h : Heap) (R : KV) (hF : F153 a0r a1e h R) : CallsH Tryz.prog 153 #[.pointer a0r, .int .i64 a1e] h R :=
  calls_of_form (A := an153) (fn := Tryz.f153) (c := c153) (args := [.pointer a0r, .int .i64 a1e]) Tryz.func153 (by kernel_rfl) mixed (by kernel_rfl) (by kernel_rfl : F153 a0r a1e h R = vcF Tryz.prog an153 Tryz.f153 c153 [.pointer a0r, .int .i64 a1e] h R) hF
/-! ### 154 (refrain/wire.reader).value -/
noncomputable def c154 : Code := match Tryz.f154.body with | some c => c | none => .skip
noncomputable def an154 : Ann := { loops := fun i => [], draws := fun i => #[], joins := fun i => match i with | 10 => some [] | _ => none }
def F154 (a0r : Option Addr) (h : Heap) (R : KV) : Prop :=
  VNew h (.cells #[.int .i64 0, .int .i64 0, .string (ByteArray.mk #[]), .bool false] 127) fun b1 h2 =>
  CallsH Tryz.prog 157 #[.pointer a0r, .int .u8 1, .int .u8 3] h2 fun v3 h4 =>
  ∃ x5 : Int, v3 = .int .u8 x5 ∧
  VNew h4 (.cells #[.int .i64 0, .int .i64 0, .string (ByteArray.mk #[]), .bool false] 127) fun b6 h7 =>
  storeL ⟨b6, 0, none⟩ 0 [.int .i64 (IntKind.i64.wrap x5), .int .i64 0, .string (ByteArray.mk #[]), .bool false] h7 fun h8 =>
  VSome a0r fun a9 =>
  ∃ x10 : Int, cellH h8 ⟨a9.block, a9.off + 2, none⟩ = some (.int .i64 x10) ∧
  cond (x10 != (0 : Int))
  (storeL ⟨b1, 0, none⟩ 0 [.int .i64 0, .int .i64 0, .string (ByteArray.mk #[]), .bool false] h8 fun h11 =>
    ∃ x12 : Int, cellH h11 ⟨b1, 0, none⟩ = some (.int .i64 x12) ∧
    ∃ x13 : Int, cellH h11 ⟨b1, 1, none⟩ = some (.int .i64 x13) ∧
    ∃ s14 : ByteArray, cellH h11 ⟨b1, 2, none⟩ = some (.string s14) ∧
    ∃ b15 : Bool, cellH h11 ⟨b1, 3, none⟩ = some (.bool b15) ∧
    R (.agg #[.int .i64 x12, .int .i64 x13, .string s14, .bool b15]) h11)
  (∃ J16 : Heap → Prop, (∃ x17 : Int, cellH h8 ⟨b6, 0, none⟩ = some (.int .i64 x17) ∧
      cond (x17 == (1 : Int))
      (CallsH Tryz.prog 152 #[.pointer a0r, .int .i64 (-9223372036854775808 : Int), .int .i64 9223372036854775807] h8 fun v18 h19 =>
        ∃ x20 : Int, v18 = .int .i64 x20 ∧
        VStore h19 ⟨b6, 1, none⟩ (.int .i64 x20) fun h21 =>
        J16 h21)
      (cond (x17 == (2 : Int))
        (CallsH Tryz.prog 152 #[.pointer a0r, .int .i64 0, .int .i64 256] h8 fun v22 h23 =>
          ∃ x24 : Int, v22 = .int .i64 x24 ∧
          CallsH Tryz.prog 151 #[.pointer a0r, .int .i64 x24] h23 fun v25 h26 =>
          ∃ s27 : ByteArray, v25 = .string s27 ∧
          VStore h26 ⟨b6, 2, none⟩ (.string s27) fun h28 =>
          J16 h28)
        (CallsH Tryz.prog 157 #[.pointer a0r, .int .u8 0, .int .u8 1] h8 fun v29 h30 =>
          ∃ x31 : Int, v29 = .int .u8 x31 ∧
          VStore h30 ⟨b6, 3, none⟩ (.bool (x31 == (1 : Int))) fun h32 =>
          J16 h32))) ∧
    ∀ (h33 : Heap) (g34 : Env), J16 h33 →
    ∃ x35 : Int, cellH h33 ⟨b6, 0, none⟩ = some (.int .i64 x35) ∧
    ∃ x36 : Int, cellH h33 ⟨b6, 1, none⟩ = some (.int .i64 x36) ∧
    ∃ s37 : ByteArray, cellH h33 ⟨b6, 2, none⟩ = some (.string s37) ∧
    ∃ b38 : Bool, cellH h33 ⟨b6, 3, none⟩ = some (.bool b38) ∧
    storeL ⟨b1, 0, none⟩ 0 [.int .i64 x35, .int .i64 x36, .string s37, .bool b38] h33 fun h39 =>
    ∃ x40 : Int, cellH h39 ⟨b1, 0, none⟩ = some (.int .i64 x40) ∧
    ∃ x41 : Int, cellH h39 ⟨b1, 1, none⟩ = some (.int .i64 x41) ∧
    ∃ s42 : ByteArray, cellH h39 ⟨b1, 2, none⟩ = some (.string s42) ∧
    ∃ b43 : Bool, cellH h39 ⟨b1, 3, none⟩ = some (.bool b43) ∧
    R (.agg #[.int .i64 x40, .int .i64 x41, .string s42, .bool b43]) h39)
theorem vf154 (a0r : Option Addr) (h : Heap) (R : KV) (hF : F154 a0r h R) : CallsH Tryz.prog 154 #[.pointer a0r] h R :=
  calls_of_form (A := an154) (fn := Tryz.f154) (c := c154) (args := [.pointer a0r]) Tryz.func154 (by kernel_rfl) mixed (by kernel_rfl) (by kernel_rfl : F154 a0r h R = vcF Tryz.prog an154 Tryz.f154 c154 [.pointer a0r] h R) hF
/-! ### 155 refrain/schema.letter -/
noncomputable def c155 : Code := match Tryz.f155.body with | some c => c | none => .skip
noncomputable def an155 : Ann := { loops := fun i => [], draws := fun i => #[], joins := fun i => none }
def F155 (a0c : Int) (h : Heap) (R : KV) : Prop :=
  cond (decide (a0c ≥ (97 : Int))) (cond (decide (a0c ≤ (122 : Int))) (R (.bool true) h) (cond (decide (a0c ≥ (65 : Int))) (cond (decide (a0c ≤ (90 : Int))) (R (.bool true) h) (R (.bool (a0c == (95 : Int))) h)) (R (.bool (a0c == (95 : Int))) h))) (cond (decide (a0c ≥ (65 : Int))) (cond (decide (a0c ≤ (90 : Int))) (R (.bool true) h) (R (.bool (a0c == (95 : Int))) h)) (R (.bool (a0c == (95 : Int))) h))
theorem vf155 (a0c : Int) (h : Heap) (R : KV) (hF : F155 a0c h R) : CallsH Tryz.prog 155 #[.int .u8 a0c] h R :=
  calls_of_form (A := an155) (fn := Tryz.f155) (c := c155) (args := [.int .u8 a0c]) Tryz.func155 (by kernel_rfl) mixed (by kernel_rfl) (by kernel_rfl : F155 a0c h R = vcF Tryz.prog an155 Tryz.f155 c155 [.int .u8 a0c] h R) hF
/-! ### 156 refrain/schema.part -/
noncomputable def c156 : Code := match Tryz.f156.body with | some c => c | none => .skip
noncomputable def an156 : Ann := { loops := fun i => [], draws := fun i => #[], joins := fun i => none }
def F156 (a0c : Int) (h : Heap) (R : KV) : Prop :=
  CallsH Tryz.prog 155 #[.int .u8 a0c] h fun v1 h2 =>
  ∃ b3 : Bool, v1 = .bool b3 ∧
  cond b3 (R (.bool true) h2) (cond (decide (a0c ≥ (48 : Int))) (R (.bool (decide (a0c ≤ (57 : Int)))) h2) (R (.bool false) h2))
theorem vf156 (a0c : Int) (h : Heap) (R : KV) (hF : F156 a0c h R) : CallsH Tryz.prog 156 #[.int .u8 a0c] h R :=
  calls_of_form (A := an156) (fn := Tryz.f156) (c := c156) (args := [.int .u8 a0c]) Tryz.func156 (by kernel_rfl) mixed (by kernel_rfl) (by kernel_rfl : F156 a0c h R = vcF Tryz.prog an156 Tryz.f156 c156 [.int .u8 a0c] h R) hF
/-! ### 157 (refrain/wire.reader).one -/
noncomputable def c157 : Code := match Tryz.f157.body with | some c => c | none => .skip
noncomputable def an157 : Ann := { loops := fun i => [], draws := fun i => #[], joins := fun i => match i with | 6 => some [] | _ => none }
def F157 (a0r : Option Addr) (a1lo : Int) (a2hi : Int) (h : Heap) (R : KV) : Prop :=
  CallsH Tryz.prog 151 #[.pointer a0r, .int .i64 1] h fun v1 h2 =>
  ∃ s3 : ByteArray, v1 = .string s3 ∧
  VSome a0r fun a4 =>
  ∃ x5 : Int, cellH h2 ⟨a4.block, a4.off + 2, none⟩ = some (.int .i64 x5) ∧
  cond (x5 != (0 : Int))
  (R (.int .u8 0) h2)
  (∃ J6 : Heap → Prop, ((0 : Int) ≤ 0 ∧ ∃ u7 : UInt8, s3[Int.toNat 0]? = some u7 ∧
      cond (decide ((u7.toNat : Int) < a1lo)) (CallsH Tryz.prog 153 #[.pointer a0r, .int .i64 31] h2 fun v8 h9 =>
        v8 = .tuple #[] ∧
        J6 h9) ((0 : Int) ≤ 0 ∧ ∃ u10 : UInt8, s3[Int.toNat 0]? = some u10 ∧
        cond (decide ((u10.toNat : Int) > a2hi))
        (CallsH Tryz.prog 153 #[.pointer a0r, .int .i64 31] h2 fun v11 h12 =>
          v11 = .tuple #[] ∧
          J6 h12)
        (J6 h2))) ∧
    ∀ (h13 : Heap) (g14 : Env), J6 h13 →
    (0 : Int) ≤ 0 ∧ ∃ u15 : UInt8, s3[Int.toNat 0]? = some u15 ∧
    R (.int .u8 (u15.toNat : Int)) h13)
theorem vf157 (a0r : Option Addr) (a1lo : Int) (a2hi : Int) (h : Heap) (R : KV) (hF : F157 a0r a1lo a2hi h R) : CallsH Tryz.prog 157 #[.pointer a0r, .int .u8 a1lo, .int .u8 a2hi] h R :=
  calls_of_form (A := an157) (fn := Tryz.f157) (c := c157) (args := [.pointer a0r, .int .u8 a1lo, .int .u8 a2hi]) Tryz.func157 (by kernel_rfl) mixed (by kernel_rfl) (by kernel_rfl : F157 a0r a1lo a2hi h R = vcF Tryz.prog an157 Tryz.f157 c157 [.pointer a0r, .int .u8 a1lo, .int .u8 a2hi] h R) hF
end Go.Proofs.YtgdgebmlcgohhaaGreatDoor.F
