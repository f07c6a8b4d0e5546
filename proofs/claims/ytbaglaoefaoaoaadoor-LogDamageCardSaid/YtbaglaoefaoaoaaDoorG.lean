/- Printed by gen.py: the conditions of the translated functions, each a plain formula over heaps; the kernel checks that it is the one that the translation gives. Conditions: none. -/
import Derived.Test.YtbaglaoefaoaoaaDoorV8
import Derived.Test.YtbaglaoefaoaoaaDoorProg
namespace Go.Proofs.YtbaglaoefaoaoaaDoor.F
open Go Go.VC Go.Proofs
set_option linter.unusedVariables false
set_option maxRecDepth 100000

theorem mixed : Tryd.prog.follows .mixedOrders = true := by kernel_rfl
/-! ### 3 refrain/refrainlaw23.LogOpens -/
noncomputable def c3 : Code := match Tryd.f3.body with | some c => c | none => .skip
noncomputable def an3 : Ann := { loops := fun i => match i with | 6 => [(2, .bool), (5, .int .i64)] | _ => [], draws := fun i => match i with | 14 => #[0, 1, 3, 7, 15, 7, 7, 103, 231, 487, 1023, 2047, 4095] | _ => #[], joins := fun i => match i with | 7 => some [(2, .bool), (6, .ptr), (7, .ptr), (8, .bool)] | _ => none }
def F3 (a0ds : Option Addr) (la0ds ca0ds : Nat) (h : Heap) (R : KV) : Prop :=
  CallsH Tryd.prog 8 #[] h fun v1 h2 =>
  ∃ b3 : Bool, v1 = .bool b3 ∧
  cond (!b3)
  (R (.bool false) h2)
  (VNew h2 (.cells #[.slice none 0 0, .slice none 0 0] 28) fun b4 h5 =>
    ∃ I6 : Nat → Heap → Bool → Int → Prop, (∃ n7, I6 n7 h5 false 0) ∧
    ∀ (n7 : Nat) (h8 : Heap) (g9 : Env) (y_10 : Bool) (i_11 : Int), I6 n7 h8 y_10 i_11 →
    cond (decide (i_11 < (la0ds : Int)))
    (∃ J13 : Heap → Bool → Option Addr → Option Addr → Bool → Prop, (VIdx a0ds la0ds i_11 1 fun a14 =>
        ∃ (a15 : Option Addr) (la15 ca15 : Nat), cellH h8 a14 = some (.slice a15 la15 ca15) ∧
        CallsH Tryd.prog 9 #[.pointer (some ⟨b4, 0, none⟩), .agg #[.slice a15 la15 ca15]] h8 fun v16 h17 =>
        ∃ p18 : Option Addr, ∃ p19 : Option Addr, ∃ b20 : Bool, v16 = .tuple #[.pointer p18, .pointer p19, .bool b20] ∧
        cond (!b20)
        (R (.bool false) h17)
        (cond p19.isNone
          (J13 h17 y_10 p18 p19 b20)
          (CallsH Tryd.prog 10 #[.pointer p18, .int .i64 1073741824] h17 fun v21 h22 =>
            ∃ (a23 : Option Addr) (la23 ca23 : Nat), v21 = .agg #[.slice a23 la23 ca23] ∧
            VNew h22 (.cells #[.slice none 0 0] 34) fun b24 h25 =>
            VStore h25 ⟨b24, 0, none⟩ (.slice a23 la23 ca23) fun h26 =>
            CallsH Tryd.prog 11 #[.pointer p18] h26 fun v27 h28 =>
            ∃ x29 : Int, v27 = .int .i64 x29 ∧
            cond (x29 != (0 : Int)) (R (.bool false) h28) (∃ (a30 : Option Addr) (la30 ca30 : Nat), cellH h28 ⟨b24, 0, none⟩ = some (.slice a30 la30 ca30) ∧
              VIdx a0ds la0ds i_11 1 fun a31 =>
              ∃ (a32 : Option Addr) (la32 ca32 : Nat), cellH h28 a31 = some (.slice a32 la32 ca32) ∧
              CallsH Tryd.prog 12 #[.slice a30 la30 ca30, .slice a32 la32 ca32] h28 fun v33 h34 =>
              ∃ b35 : Bool, v33 = .bool b35 ∧
              cond (!b35)
              (R (.bool false) h34)
              (J13 h34 y_10 p18 p19 b20))))) ∧
      ∀ (h36 : Heap) (g37 : Env) (y_38 : Bool) (l_39 : Option Addr) (r_40 : Option Addr) (ok_41 : Bool), J13 h36 y_38 l_39 r_40 ok_41 →
      ∃ m12, m12 < n7 ∧ I6 m12 h36 y_38 (IntKind.i64.wrap (i_11 + 1)))
    (R (.bool true) h8))
theorem vf3 (a0ds : Option Addr) (la0ds ca0ds : Nat) (h : Heap) (R : KV) (hF : F3 a0ds la0ds ca0ds h R) : CallsH Tryd.prog 3 #[.slice a0ds la0ds ca0ds] h R :=
  calls_of_vc (A := an3) (fn := Tryd.f3) (c := c3) (args := [.slice a0ds la0ds ca0ds]) Tryd.func3 (by kernel_rfl) mixed (by kernel_rfl) (Eq.mp (by kernel_rfl : F3 a0ds la0ds ca0ds h R = vcF Tryd.prog an3 Tryd.f3 c3 [.slice a0ds la0ds ca0ds] h R) hF)
/-! ### 4 refrain/refrainlaw23.LogPlays -/
noncomputable def c4 : Code := match Tryd.f4.body with | some c => c | none => .skip
noncomputable def an4 : Ann := { loops := fun i => match i with | 12 => [(6, .bool), (7, .bool), (14, .ptr), (15, .ptr), (16, .int .i64)] | _ => [], draws := fun i => #[], joins := fun i => match i with | 13 => some [(6, .bool), (7, .bool), (14, .ptr), (15, .ptr), (17, .ptr)] | 19 => some [(7, .bool)] | 23 => some [] | 27 => some [(6, .bool), (7, .bool), (14, .ptr), (15, .ptr)] | _ => none }
def F4 (a0d_0 : Option Addr) (la0d_0 ca0d_0 : Nat) (a1other_0 : Option Addr) (la1other_0 ca1other_0 : Nat) (a2script : Option Addr) (la2script ca2script : Nat) (h : Heap) (R : KV) : Prop :=
  VNew h (.cells #[.slice a0d_0 la0d_0 ca0d_0] 34) fun b1 h2 =>
  VNew h2 (.cells #[.slice a1other_0 la1other_0 ca1other_0] 34) fun b3 h4 =>
  CallsH Tryd.prog 8 #[] h4 fun v5 h6 =>
  ∃ b7 : Bool, v5 = .bool b7 ∧
  cond (!b7)
  (R (.bool false) h6)
  (RunsTo Tryd.prog (Instr.makeSlice 26 (.int .i64 0) (.int .i64 5000)) h6 fun v8 h9 =>
    ∃ (a10 : Option Addr) (la10 ca10 : Nat), v8 = .slice a10 la10 ca10 ∧
    VNew h9 (.cells #[.slice none 0 0, .slice a10 la10 ca10] 28) fun b11 h12 =>
    ∃ (a13 : Option Addr) (la13 ca13 : Nat), cellH h12 ⟨b1, 0, none⟩ = some (.slice a13 la13 ca13) ∧
    CallsH Tryd.prog 9 #[.pointer (some ⟨b11, 0, none⟩), .agg #[.slice a13 la13 ca13]] h12 fun v14 h15 =>
    ∃ p16 : Option Addr, ∃ p17 : Option Addr, ∃ b18 : Bool, v14 = .tuple #[.pointer p16, .pointer p17, .bool b18] ∧
    ∃ (a19 : Option Addr) (la19 ca19 : Nat), cellH h15 ⟨b3, 0, none⟩ = some (.slice a19 la19 ca19) ∧
    CallsH Tryd.prog 9 #[.pointer (some ⟨b11, 0, none⟩), .agg #[.slice a19 la19 ca19]] h15 fun v20 h21 =>
    ∃ p22 : Option Addr, ∃ p23 : Option Addr, ∃ b24 : Bool, v20 = .tuple #[.pointer p22, .pointer p23, .bool b24] ∧
    cond (!b18) (R (.bool false) h21) (cond (!b24)
      (R (.bool false) h21)
      (∃ I25 : Nat → Heap → Bool → Bool → Option Addr → Option Addr → Int → Prop, (∃ n26, I25 n26 h21 false b18 none none 0) ∧
        ∀ (n26 : Nat) (h27 : Heap) (g28 : Env) (y_29 : Bool) (ok_30 : Bool) (x_31 : Option Addr) (y_32 : Option Addr) (i_33 : Int), I25 n26 h27 y_29 ok_30 x_31 y_32 i_33 →
        cond (decide (i_33 < (la2script : Int)))
        (∃ J35 : Heap → Bool → Bool → Option Addr → Option Addr → Option Addr → Prop, (VIdx a2script la2script i_33 4 fun a36 =>
            ∃ x37 : Int, cellH h27 a36 = some (.int .i64 x37) ∧
            ∃ x38 : Int, cellH h27 ⟨a36.block, a36.off + 1, none⟩ = some (.int .i64 x38) ∧
            ∃ (a39 : Option Addr) (la39 ca39 : Nat), cellH h27 ⟨a36.block, a36.off + 2, none⟩ = some (.slice a39 la39 ca39) ∧
            ∃ x40 : Int, cellH h27 ⟨a36.block, a36.off + 3, none⟩ = some (.int .i64 x40) ∧
            VNew h27 (.cells #[.int .i64 0, .int .i64 0, .slice none 0 0, .int .i64 0] 41) fun b41 h42 =>
            storeL ⟨b41, 0, none⟩ 0 [.int .i64 x37, .int .i64 x38, .slice a39 la39 ca39, .int .i64 x40] h42 fun h43 =>
            ∃ J44 : Heap → Bool → Prop, (∃ x45 : Int, cellH h43 ⟨b41, 1, none⟩ = some (.int .i64 x45) ∧
              cond (x45 == (0 : Int)) (cond (!p17.isNone)
                (∃ x46 : Int, cellH h43 ⟨b41, 0, none⟩ = some (.int .i64 x46) ∧
                  ∃ x47 : Int, cellH h43 ⟨b41, 1, none⟩ = some (.int .i64 x47) ∧
                  ∃ (a48 : Option Addr) (la48 ca48 : Nat), cellH h43 ⟨b41, 2, none⟩ = some (.slice a48 la48 ca48) ∧
                  ∃ x49 : Int, cellH h43 ⟨b41, 3, none⟩ = some (.int .i64 x49) ∧
                  CallsH Tryd.prog 13 #[.pointer (some ⟨b11, 0, none⟩), .pointer p16, .pointer p17, .agg #[.int .i64 x46, .int .i64 x47, .slice a48 la48 ca48, .int .i64 x49]] h43 fun v50 h51 =>
                  ∃ b52 : Bool, v50 = .bool b52 ∧
                  J44 h51 b52)
                (∃ x53 : Int, cellH h43 ⟨b41, 1, none⟩ = some (.int .i64 x53) ∧
                  cond (x53 != (0 : Int)) (cond (!p23.isNone)
                    (∃ x54 : Int, cellH h43 ⟨b41, 0, none⟩ = some (.int .i64 x54) ∧
                      ∃ x55 : Int, cellH h43 ⟨b41, 1, none⟩ = some (.int .i64 x55) ∧
                      ∃ (a56 : Option Addr) (la56 ca56 : Nat), cellH h43 ⟨b41, 2, none⟩ = some (.slice a56 la56 ca56) ∧
                      ∃ x57 : Int, cellH h43 ⟨b41, 3, none⟩ = some (.int .i64 x57) ∧
                      CallsH Tryd.prog 13 #[.pointer (some ⟨b11, 0, none⟩), .pointer p22, .pointer p23, .agg #[.int .i64 x54, .int .i64 x55, .slice a56 la56 ca56, .int .i64 x57]] h43 fun v58 h59 =>
                      ∃ b60 : Bool, v58 = .bool b60 ∧
                      J44 h59 b60)
                    (J44 h43 ok_30)) (J44 h43 ok_30))) (∃ x61 : Int, cellH h43 ⟨b41, 1, none⟩ = some (.int .i64 x61) ∧
                cond (x61 != (0 : Int)) (cond (!p23.isNone)
                  (∃ x62 : Int, cellH h43 ⟨b41, 0, none⟩ = some (.int .i64 x62) ∧
                    ∃ x63 : Int, cellH h43 ⟨b41, 1, none⟩ = some (.int .i64 x63) ∧
                    ∃ (a64 : Option Addr) (la64 ca64 : Nat), cellH h43 ⟨b41, 2, none⟩ = some (.slice a64 la64 ca64) ∧
                    ∃ x65 : Int, cellH h43 ⟨b41, 3, none⟩ = some (.int .i64 x65) ∧
                    CallsH Tryd.prog 13 #[.pointer (some ⟨b11, 0, none⟩), .pointer p22, .pointer p23, .agg #[.int .i64 x62, .int .i64 x63, .slice a64 la64 ca64, .int .i64 x65]] h43 fun v66 h67 =>
                    ∃ b68 : Bool, v66 = .bool b68 ∧
                    J44 h67 b68)
                  (J44 h43 ok_30)) (J44 h43 ok_30))) ∧
            ∀ (h69 : Heap) (g70 : Env) (ok_71 : Bool), J44 h69 ok_71 →
            cond (!ok_71)
            (R (.bool false) h69)
            (∃ J72 : Heap → Prop, ((8 : Int) ≠ (0 : Int) ∧
                cond ((Int.tmod i_33 8) == (7 : Int))
                (CallsH Tryd.prog 14 #[.agg #[.slice none 0 0]] h69 fun v73 h74 =>
                  ∃ p75 : Option Addr, ∃ (a76 : Option Addr) (la76 ca76 : Nat), ∃ x77 : Int, v73 = .tuple #[.pointer p75, .slice a76 la76 ca76, .int .i64 x77] ∧
                  J72 h74)
                (J72 h69)) ∧
              ∀ (h78 : Heap) (g79 : Env), J72 h78 →
              ∃ J80 : Heap → Bool → Bool → Option Addr → Option Addr → Prop, ((2 : Int) ≠ (0 : Int) ∧
                cond (i_33 == (IntKind.i64.wrap (Int.tdiv (la2script : Int) 2)))
                (∃ (a81 : Option Addr) (la81 ca81 : Nat), cellH h78 ⟨b1, 0, none⟩ = some (.slice a81 la81 ca81) ∧
                  CallsH Tryd.prog 9 #[.pointer (some ⟨b11, 0, none⟩), .agg #[.slice a81 la81 ca81]] h78 fun v82 h83 =>
                  ∃ p84 : Option Addr, ∃ p85 : Option Addr, ∃ b86 : Bool, v82 = .tuple #[.pointer p84, .pointer p85, .bool b86] ∧
                  cond (!b86)
                  (R (.bool false) h83)
                  (J80 h83 y_29 b86 p84 p85))
                (J80 h78 y_29 ok_71 x_31 y_32)) ∧
              ∀ (h87 : Heap) (g88 : Env) (y_89 : Bool) (ok_90 : Bool) (x_91 : Option Addr) (y_92 : Option Addr), J80 h87 y_89 ok_90 x_91 y_92 →
              cond (!y_92.isNone) (∃ x93 : Int, cellH h87 ⟨b41, 0, none⟩ = some (.int .i64 x93) ∧
                ∃ x94 : Int, cellH h87 ⟨b41, 1, none⟩ = some (.int .i64 x94) ∧
                ∃ (a95 : Option Addr) (la95 ca95 : Nat), cellH h87 ⟨b41, 2, none⟩ = some (.slice a95 la95 ca95) ∧
                ∃ x96 : Int, cellH h87 ⟨b41, 3, none⟩ = some (.int .i64 x96) ∧
                CallsH Tryd.prog 13 #[.pointer (some ⟨b11, 0, none⟩), .pointer x_91, .pointer y_92, .agg #[.int .i64 x93, .int .i64 x94, .slice a95 la95 ca95, .int .i64 x96]] h87 fun v97 h98 =>
                ∃ b99 : Bool, v97 = .bool b99 ∧
                cond (!b99)
                (R (.bool false) h98)
                (J35 h98 y_89 ok_90 x_91 y_92 (some ⟨b41, 0, none⟩))) (J35 h87 y_89 ok_90 x_91 y_92 (some ⟨b41, 0, none⟩)))) ∧
          ∀ (h100 : Heap) (g101 : Env) (y_102 : Bool) (ok_103 : Bool) (x_104 : Option Addr) (y_105 : Option Addr) (o_106 : Option Addr), J35 h100 y_102 ok_103 x_104 y_105 o_106 →
          ∃ m34, m34 < n26 ∧ I25 m34 h100 y_102 ok_103 x_104 y_105 (IntKind.i64.wrap (i_33 + 1)))
        (R (.bool true) h27))))
theorem vf4 (a0d_0 : Option Addr) (la0d_0 ca0d_0 : Nat) (a1other_0 : Option Addr) (la1other_0 ca1other_0 : Nat) (a2script : Option Addr) (la2script ca2script : Nat) (h : Heap) (R : KV) (hF : F4 a0d_0 la0d_0 ca0d_0 a1other_0 la1other_0 ca1other_0 a2script la2script ca2script h R) : CallsH Tryd.prog 4 #[.agg #[.slice a0d_0 la0d_0 ca0d_0], .agg #[.slice a1other_0 la1other_0 ca1other_0], .slice a2script la2script ca2script] h R :=
  calls_of_vc (A := an4) (fn := Tryd.f4) (c := c4) (args := [.agg #[.slice a0d_0 la0d_0 ca0d_0], .agg #[.slice a1other_0 la1other_0 ca1other_0], .slice a2script la2script ca2script]) Tryd.func4 (by kernel_rfl) mixed (by kernel_rfl) (Eq.mp (by kernel_rfl : F4 a0d_0 la0d_0 ca0d_0 a1other_0 la1other_0 ca1other_0 a2script la2script ca2script h R = vcF Tryd.prog an4 Tryd.f4 c4 [.agg #[.slice a0d_0 la0d_0 ca0d_0], .agg #[.slice a1other_0 la1other_0 ca1other_0], .slice a2script la2script ca2script] h R) hF)
/-! ### 5 refrain/refrainlaw23.LogRecovers -/
noncomputable def c5 : Code := match Tryd.f5.body with | some c => c | none => .skip
noncomputable def an5 : Ann := { loops := fun i => match i with | 9 => [(8, .bool), (9, .bool), (14, .int .i64)] | 21 => [(8, .bool), (9, .bool), (18, .int .i64)] | 30 => [(8, .bool), (20, .int .i64)] | _ => [], draws := fun i => #[], joins := fun i => none }
def F5 (a0before : Option Addr) (la0before ca0before : Nat) (a1crash : Int) (a2script : Option Addr) (la2script ca2script : Nat) (a3keeps : Option Addr) (la3keeps ca3keeps : Nat) (h : Heap) (R : KV) : Prop :=
  CallsH Tryd.prog 8 #[] h fun v1 h2 =>
  ∃ b3 : Bool, v1 = .bool b3 ∧
  cond (!b3)
  (R (.bool false) h2)
  (CallsH Tryd.prog 14 #[.agg #[.slice none 0 0]] h2 fun v4 h5 =>
    ∃ p6 : Option Addr, ∃ (a7 : Option Addr) (la7 ca7 : Nat), ∃ x8 : Int, v4 = .tuple #[.pointer p6, .slice a7 la7 ca7, .int .i64 x8] ∧
    cond (x8 != (0 : Int))
    (R (.bool false) h5)
    (VNew h5 (.cells #[.int .i64 0, .slice none 0 0] 50) fun b9 h10 =>
      VNew h10 (.cells #[.slice (some ⟨b9, 0, none⟩) 1 1] 53) fun b11 h12 =>
      ∃ I13 : Nat → Heap → Bool → Bool → Int → Prop, (∃ n14, I13 n14 h12 false b3 0) ∧
      ∀ (n14 : Nat) (h15 : Heap) (g16 : Env) (y_17 : Bool) (ok_18 : Bool) (i_19 : Int), I13 n14 h15 y_17 ok_18 i_19 →
      cond (decide (i_19 < (la0before : Int))) (cond (decide (i_19 < (25 : Int)))
        (VIdx a0before la0before i_19 4 fun a21 =>
          ∃ x22 : Int, cellH h15 a21 = some (.int .i64 x22) ∧
          ∃ x23 : Int, cellH h15 ⟨a21.block, a21.off + 1, none⟩ = some (.int .i64 x23) ∧
          ∃ (a24 : Option Addr) (la24 ca24 : Nat), cellH h15 ⟨a21.block, a21.off + 2, none⟩ = some (.slice a24 la24 ca24) ∧
          ∃ x25 : Int, cellH h15 ⟨a21.block, a21.off + 3, none⟩ = some (.int .i64 x25) ∧
          CallsH Tryd.prog 15 #[.pointer (some ⟨b11, 0, none⟩), .pointer p6, .agg #[.int .i64 x22, .int .i64 x23, .slice a24 la24 ca24, .int .i64 x25]] h15 fun v26 h27 =>
          ∃ b28 : Bool, v26 = .bool b28 ∧
          cond (!b28)
          (R (.bool false) h27)
          (∃ m20, m20 < n14 ∧ I13 m20 h27 y_17 b28 (IntKind.i64.wrap (i_19 + 1))))
        (CallsH Tryd.prog 10 #[.pointer p6, .int .i64 a1crash] h15 fun v29 h30 =>
          ∃ (a31 : Option Addr) (la31 ca31 : Nat), v29 = .agg #[.slice a31 la31 ca31] ∧
          VNew h30 (.cells #[.slice none 0 0] 34) fun b32 h33 =>
          VStore h33 ⟨b32, 0, none⟩ (.slice a31 la31 ca31) fun h34 =>
          CallsH Tryd.prog 16 #[.pointer (some ⟨b11, 0, none⟩), .int .i64 a1crash] h34 fun v35 h36 =>
          ∃ (a37 : Option Addr) (la37 ca37 : Nat), v35 = .slice a37 la37 ca37 ∧
          ∃ (a38 : Option Addr) (la38 ca38 : Nat), cellH h36 ⟨b32, 0, none⟩ = some (.slice a38 la38 ca38) ∧
          CallsH Tryd.prog 14 #[.agg #[.slice a38 la38 ca38]] h36 fun v39 h40 =>
          ∃ p41 : Option Addr, ∃ (a42 : Option Addr) (la42 ca42 : Nat), ∃ x43 : Int, v39 = .tuple #[.pointer p41, .slice a42 la42 ca42, .int .i64 x43] ∧
          cond p41.isNone (R (.bool false) h40) (cond (x43 != (0 : Int)) (R (.bool false) h40) (CallsH Tryd.prog 12 #[.slice a42 la42 ca42, .slice a37 la37 ca37] h40 fun v44 h45 =>
              ∃ b46 : Bool, v44 = .bool b46 ∧
              cond (!b46)
              (R (.bool false) h45)
              (VNew h45 (.cells #[.int .i64 0, .slice a37 la37 ca37] 50) fun b47 h48 =>
                VNew h48 (.cells #[.slice (some ⟨b47, 0, none⟩) 1 1] 53) fun b49 h50 =>
                ∃ I51 : Nat → Heap → Bool → Bool → Int → Prop, (∃ n52, I51 n52 h50 y_17 ok_18 0) ∧
                ∀ (n52 : Nat) (h53 : Heap) (g54 : Env) (y_55 : Bool) (ok_56 : Bool) (i_57 : Int), I51 n52 h53 y_55 ok_56 i_57 →
                cond (decide (i_57 < (la2script : Int))) (cond (decide (i_57 < (25 : Int)))
                  (VIdx a2script la2script i_57 4 fun a59 =>
                    ∃ x60 : Int, cellH h53 a59 = some (.int .i64 x60) ∧
                    ∃ x61 : Int, cellH h53 ⟨a59.block, a59.off + 1, none⟩ = some (.int .i64 x61) ∧
                    ∃ (a62 : Option Addr) (la62 ca62 : Nat), cellH h53 ⟨a59.block, a59.off + 2, none⟩ = some (.slice a62 la62 ca62) ∧
                    ∃ x63 : Int, cellH h53 ⟨a59.block, a59.off + 3, none⟩ = some (.int .i64 x63) ∧
                    CallsH Tryd.prog 15 #[.pointer (some ⟨b49, 0, none⟩), .pointer p41, .agg #[.int .i64 x60, .int .i64 x61, .slice a62 la62 ca62, .int .i64 x63]] h53 fun v64 h65 =>
                    ∃ b66 : Bool, v64 = .bool b66 ∧
                    cond (!b66)
                    (R (.bool false) h65)
                    (CallsH Tryd.prog 11 #[.pointer p41] h65 fun v67 h68 =>
                      ∃ x69 : Int, v67 = .int .i64 x69 ∧
                      CallsH Tryd.prog 17 #[.pointer (some ⟨b49, 0, none⟩), .pointer p41, .int .i64 x69] h68 fun v70 h71 =>
                      ∃ b72 : Bool, v70 = .bool b72 ∧
                      cond (!b72) (R (.bool false) h71) (CallsH Tryd.prog 17 #[.pointer (some ⟨b49, 0, none⟩), .pointer p41, .int .i64 (IntKind.i64.wrap (x69 - 1))] h71 fun v73 h74 =>
                        ∃ b75 : Bool, v73 = .bool b75 ∧
                        cond (!b75) (R (.bool false) h74) (CallsH Tryd.prog 17 #[.pointer (some ⟨b49, 0, none⟩), .pointer p41, .int .i64 0] h74 fun v76 h77 =>
                          ∃ b78 : Bool, v76 = .bool b78 ∧
                          cond (!b78) (R (.bool false) h77) (CallsH Tryd.prog 17 #[.pointer (some ⟨b49, 0, none⟩), .pointer p41, .int .i64 (-1 : Int)] h77 fun v79 h80 =>
                            ∃ b81 : Bool, v79 = .bool b81 ∧
                            cond (!b81)
                            (R (.bool false) h80)
                            (∃ I82 : Nat → Heap → Bool → Int → Prop, (∃ n83, I82 n83 h80 y_55 0) ∧
                              ∀ (n83 : Nat) (h84 : Heap) (g85 : Env) (y_86 : Bool) (k_87 : Int), I82 n83 h84 y_86 k_87 →
                              cond (decide (k_87 < (la3keeps : Int))) (cond (decide (k_87 < (6 : Int)))
                                (VIdx a3keeps la3keeps k_87 1 fun a89 =>
                                  ∃ x90 : Int, cellH h84 a89 = some (.int .i64 x90) ∧
                                  CallsH Tryd.prog 17 #[.pointer (some ⟨b49, 0, none⟩), .pointer p41, .int .i64 x90] h84 fun v91 h92 =>
                                  ∃ b93 : Bool, v91 = .bool b93 ∧
                                  cond (!b93)
                                  (R (.bool false) h92)
                                  (∃ m88, m88 < n83 ∧ I82 m88 h92 y_86 (IntKind.i64.wrap (k_87 + 1))))
                                (∃ m58, m58 < n52 ∧ I51 m58 h84 y_86 b66 (IntKind.i64.wrap (i_57 + 1)))) (∃ m58, m58 < n52 ∧ I51 m58 h84 y_86 b66 (IntKind.i64.wrap (i_57 + 1)))))))))
                  (R (.bool true) h53)) (R (.bool true) h53)))))) (CallsH Tryd.prog 10 #[.pointer p6, .int .i64 a1crash] h15 fun v94 h95 =>
        ∃ (a96 : Option Addr) (la96 ca96 : Nat), v94 = .agg #[.slice a96 la96 ca96] ∧
        VNew h95 (.cells #[.slice none 0 0] 34) fun b97 h98 =>
        VStore h98 ⟨b97, 0, none⟩ (.slice a96 la96 ca96) fun h99 =>
        CallsH Tryd.prog 16 #[.pointer (some ⟨b11, 0, none⟩), .int .i64 a1crash] h99 fun v100 h101 =>
        ∃ (a102 : Option Addr) (la102 ca102 : Nat), v100 = .slice a102 la102 ca102 ∧
        ∃ (a103 : Option Addr) (la103 ca103 : Nat), cellH h101 ⟨b97, 0, none⟩ = some (.slice a103 la103 ca103) ∧
        CallsH Tryd.prog 14 #[.agg #[.slice a103 la103 ca103]] h101 fun v104 h105 =>
        ∃ p106 : Option Addr, ∃ (a107 : Option Addr) (la107 ca107 : Nat), ∃ x108 : Int, v104 = .tuple #[.pointer p106, .slice a107 la107 ca107, .int .i64 x108] ∧
        cond p106.isNone (R (.bool false) h105) (cond (x108 != (0 : Int)) (R (.bool false) h105) (CallsH Tryd.prog 12 #[.slice a107 la107 ca107, .slice a102 la102 ca102] h105 fun v109 h110 =>
            ∃ b111 : Bool, v109 = .bool b111 ∧
            cond (!b111)
            (R (.bool false) h110)
            (VNew h110 (.cells #[.int .i64 0, .slice a102 la102 ca102] 50) fun b112 h113 =>
              VNew h113 (.cells #[.slice (some ⟨b112, 0, none⟩) 1 1] 53) fun b114 h115 =>
              ∃ I116 : Nat → Heap → Bool → Bool → Int → Prop, (∃ n117, I116 n117 h115 y_17 ok_18 0) ∧
              ∀ (n117 : Nat) (h118 : Heap) (g119 : Env) (y_120 : Bool) (ok_121 : Bool) (i_122 : Int), I116 n117 h118 y_120 ok_121 i_122 →
              cond (decide (i_122 < (la2script : Int))) (cond (decide (i_122 < (25 : Int)))
                (VIdx a2script la2script i_122 4 fun a124 =>
                  ∃ x125 : Int, cellH h118 a124 = some (.int .i64 x125) ∧
                  ∃ x126 : Int, cellH h118 ⟨a124.block, a124.off + 1, none⟩ = some (.int .i64 x126) ∧
                  ∃ (a127 : Option Addr) (la127 ca127 : Nat), cellH h118 ⟨a124.block, a124.off + 2, none⟩ = some (.slice a127 la127 ca127) ∧
                  ∃ x128 : Int, cellH h118 ⟨a124.block, a124.off + 3, none⟩ = some (.int .i64 x128) ∧
                  CallsH Tryd.prog 15 #[.pointer (some ⟨b114, 0, none⟩), .pointer p106, .agg #[.int .i64 x125, .int .i64 x126, .slice a127 la127 ca127, .int .i64 x128]] h118 fun v129 h130 =>
                  ∃ b131 : Bool, v129 = .bool b131 ∧
                  cond (!b131)
                  (R (.bool false) h130)
                  (CallsH Tryd.prog 11 #[.pointer p106] h130 fun v132 h133 =>
                    ∃ x134 : Int, v132 = .int .i64 x134 ∧
                    CallsH Tryd.prog 17 #[.pointer (some ⟨b114, 0, none⟩), .pointer p106, .int .i64 x134] h133 fun v135 h136 =>
                    ∃ b137 : Bool, v135 = .bool b137 ∧
                    cond (!b137) (R (.bool false) h136) (CallsH Tryd.prog 17 #[.pointer (some ⟨b114, 0, none⟩), .pointer p106, .int .i64 (IntKind.i64.wrap (x134 - 1))] h136 fun v138 h139 =>
                      ∃ b140 : Bool, v138 = .bool b140 ∧
                      cond (!b140) (R (.bool false) h139) (CallsH Tryd.prog 17 #[.pointer (some ⟨b114, 0, none⟩), .pointer p106, .int .i64 0] h139 fun v141 h142 =>
                        ∃ b143 : Bool, v141 = .bool b143 ∧
                        cond (!b143) (R (.bool false) h142) (CallsH Tryd.prog 17 #[.pointer (some ⟨b114, 0, none⟩), .pointer p106, .int .i64 (-1 : Int)] h142 fun v144 h145 =>
                          ∃ b146 : Bool, v144 = .bool b146 ∧
                          cond (!b146)
                          (R (.bool false) h145)
                          (∃ I147 : Nat → Heap → Bool → Int → Prop, (∃ n148, I147 n148 h145 y_120 0) ∧
                            ∀ (n148 : Nat) (h149 : Heap) (g150 : Env) (y_151 : Bool) (k_152 : Int), I147 n148 h149 y_151 k_152 →
                            cond (decide (k_152 < (la3keeps : Int))) (cond (decide (k_152 < (6 : Int)))
                              (VIdx a3keeps la3keeps k_152 1 fun a154 =>
                                ∃ x155 : Int, cellH h149 a154 = some (.int .i64 x155) ∧
                                CallsH Tryd.prog 17 #[.pointer (some ⟨b114, 0, none⟩), .pointer p106, .int .i64 x155] h149 fun v156 h157 =>
                                ∃ b158 : Bool, v156 = .bool b158 ∧
                                cond (!b158)
                                (R (.bool false) h157)
                                (∃ m153, m153 < n148 ∧ I147 m153 h157 y_151 (IntKind.i64.wrap (k_152 + 1))))
                              (∃ m123, m123 < n117 ∧ I116 m123 h149 y_151 b131 (IntKind.i64.wrap (i_122 + 1)))) (∃ m123, m123 < n117 ∧ I116 m123 h149 y_151 b131 (IntKind.i64.wrap (i_122 + 1)))))))))
                (R (.bool true) h118)) (R (.bool true) h118)))))))
theorem vf5 (a0before : Option Addr) (la0before ca0before : Nat) (a1crash : Int) (a2script : Option Addr) (la2script ca2script : Nat) (a3keeps : Option Addr) (la3keeps ca3keeps : Nat) (h : Heap) (R : KV) (hF : F5 a0before la0before ca0before a1crash a2script la2script ca2script a3keeps la3keeps ca3keeps h R) : CallsH Tryd.prog 5 #[.slice a0before la0before ca0before, .int .i64 a1crash, .slice a2script la2script ca2script, .slice a3keeps la3keeps ca3keeps] h R :=
  calls_of_vc (A := an5) (fn := Tryd.f5) (c := c5) (args := [.slice a0before la0before ca0before, .int .i64 a1crash, .slice a2script la2script ca2script, .slice a3keeps la3keeps ca3keeps]) Tryd.func5 (by kernel_rfl) mixed (by kernel_rfl) (Eq.mp (by kernel_rfl : F5 a0before la0before ca0before a1crash a2script la2script ca2script a3keeps la3keeps ca3keeps h R = vcF Tryd.prog an5 Tryd.f5 c5 [.slice a0before la0before ca0before, .int .i64 a1crash, .slice a2script la2script ca2script, .slice a3keeps la3keeps ca3keeps] h R) hF)
/-! ### 6 refrain/refrainlaw23.LogDamage -/
noncomputable def c6 : Code := match Tryd.f6.body with | some c => c | none => .skip
noncomputable def an6 : Ann := { loops := fun i => match i with | 6 => [(14, .slc), (15, .int .i64)] | 31 => [(19, .slc), (20, .int .i64), (21, .int .i64)] | _ => [], draws := fun i => match i with | 25 => #[0, 0, 0, 4, 14, 0, 0, 0, 128, 448, 992, 2016, 0, 8160, 16383, 32767] | 47 => #[0, 0, 0, 0, 12, 28, 0, 0, 128, 448, 960, 2046, 4095, 8191] | 48 => #[0, 0, 0, 0, 8, 28, 60, 0, 0, 384, 896, 2046, 4095, 8191] | 49 => #[0, 0, 0, 0, 12, 28, 0, 0, 128, 448, 960, 2046, 4095, 8191] | _ => #[], joins := fun i => match i with | 11 => some [(16, .slc)] | 14 => some [(14, .slc)] | 19 => some [(2, .int .i64)] | 21 => some [(4, .int .i64)] | 23 => some [(5, .int .i64)] | 28 => some [(12, .bool)] | 45 => some [(12, .bool)] | _ => none }
def F6 (a0recs : Option Addr) (la0recs ca0recs : Nat) (a1rolled : Bool) (a2at : Int) (a3by : Int) (a4i : Int) (a5j : Int) (h : Heap) (R : KV) : Prop :=
  CallsH Tryd.prog 8 #[] h fun v1 h2 =>
  ∃ b3 : Bool, v1 = .bool b3 ∧
  cond (!b3)
  (R (.bool false) h2)
  (∃ I4 : Nat → Heap → Option Addr → Nat → Nat → Int → Prop, (∃ n5, I4 n5 h2 none 0 0 0) ∧
    ∀ (n5 : Nat) (h6 : Heap) (g7 : Env) (l_8 : Option Addr) (ll_8 cl_8 : Nat) (k_9 : Int), I4 n5 h6 l_8 ll_8 cl_8 k_9 →
    cond (decide (k_9 < (la0recs : Int))) (cond (decide (k_9 < (12 : Int)))
      (VIdx a0recs la0recs k_9 1 fun a11 =>
        ∃ (a12 : Option Addr) (la12 ca12 : Nat), cellH h6 a11 = some (.slice a12 la12 ca12) ∧
        ∃ J13 : Heap → Option Addr → Nat → Nat → Prop, (cond (decide ((la12 : Int) > (300 : Int)))
          (VSlice 1 a12 ca12 0 300 (ca12 : Int) fun a14 la14 ca14 =>
            J13 h6 a14 la14 ca14)
          (J13 h6 a12 la12 ca12)) ∧
        ∀ (h15 : Heap) (g16 : Env) (r_17 : Option Addr) (lr_17 cr_17 : Nat), J13 h15 r_17 lr_17 cr_17 →
        VNew h15 (.cells #[.slice r_17 lr_17 cr_17] 26) fun b18 h19 =>
        RunsTo Tryd.prog (Builtin.append_ #[25, 25] 25 #[.slice l_8 ll_8 cl_8, .slice (some ⟨b18, 0, none⟩) 1 1]) h19 fun v20 h21 =>
        ∃ (a22 : Option Addr) (la22 ca22 : Nat), v20 = .slice a22 la22 ca22 ∧
        ∃ m10, m10 < n5 ∧ I4 m10 h21 a22 la22 ca22 (IntKind.i64.wrap (k_9 + 1)))
      (∃ J23 : Heap → Option Addr → Nat → Nat → Prop, (cond ((ll_8 : Int) == (0 : Int))
          (VNew h6 (.cells #[.int .u8 1] 5) fun b24 h25 =>
            VNew h25 (.cells #[.slice (some ⟨b24, 0, none⟩) 1 1] 26) fun b26 h27 =>
            RunsTo Tryd.prog (Builtin.append_ #[25, 25] 25 #[.slice l_8 ll_8 cl_8, .slice (some ⟨b26, 0, none⟩) 1 1]) h27 fun v28 h29 =>
            ∃ (a30 : Option Addr) (la30 ca30 : Nat), v28 = .slice a30 la30 ca30 ∧
            J23 h29 a30 la30 ca30)
          (J23 h6 l_8 ll_8 cl_8)) ∧
        ∀ (h31 : Heap) (g32 : Env) (l_33 : Option Addr) (ll_33 cl_33 : Nat), J23 h31 l_33 ll_33 cl_33 →
        CallsH Tryd.prog 18 #[.slice l_33 ll_33 cl_33, .bool a1rolled] h31 fun v34 h35 =>
        ∃ (a36 : Option Addr) (la36 ca36 : Nat), ∃ b37 : Bool, v34 = .tuple #[.slice a36 la36 ca36, .bool b37] ∧
        cond (!b37) (R (.bool false) h35) (cond ((la36 : Int) == (0 : Int))
          (R (.bool false) h35)
          (∃ J38 : Heap → Int → Prop, (cond (decide (a2at < (0 : Int)))
              (J38 h35 (IntKind.i64.wrap ((-1 : Int) - a2at)))
              (J38 h35 a2at)) ∧
            ∀ (h39 : Heap) (g40 : Env) (at_41 : Int), J38 h39 at_41 →
            ∃ J42 : Heap → Int → Prop, (cond (decide (a4i < (0 : Int)))
              (J42 h39 (IntKind.i64.wrap ((-1 : Int) - a4i)))
              (J42 h39 a4i)) ∧
            ∀ (h43 : Heap) (g44 : Env) (i_45 : Int), J42 h43 i_45 →
            ∃ J46 : Heap → Int → Prop, (cond (decide (a5j < (0 : Int)))
              (J46 h43 (IntKind.i64.wrap ((-1 : Int) - a5j)))
              (J46 h43 a5j)) ∧
            ∀ (h47 : Heap) (g48 : Env) (j_49 : Int), J46 h47 j_49 →
            ∃ J50 : Heap → Bool → Prop, (cond (a3by != (0 : Int))
              (RunsTo Tryd.prog (Builtin.append_ #[26, 26] 26 #[.slice none 0 0, .slice a36 la36 ca36]) h47 fun v51 h52 =>
                ∃ (a53 : Option Addr) (la53 ca53 : Nat), v51 = .slice a53 la53 ca53 ∧
                (la53 : Int) ≠ (0 : Int) ∧
                (la53 : Int) ≠ (0 : Int) ∧
                VIdx a53 la53 (Int.tmod at_41 (la53 : Int)) 1 fun a54 =>
                ∃ x55 : Int, cellH h52 a54 = some (.int .u8 x55) ∧
                VIdx a53 la53 (Int.tmod at_41 (la53 : Int)) 1 fun a56 =>
                VStore h52 a56 (.int .u8 (bitsOp .xor .u8 x55 a3by)) fun h57 =>
                CallsH Tryd.prog 19 #[.slice a53 la53 ca53] h57 fun v58 h59 =>
                ∃ b60 : Bool, v58 = .bool b60 ∧
                cond (!b60)
                (R (.bool false) h59)
                (J50 h59 false))
              (J50 h47 false)) ∧
            ∀ (h61 : Heap) (g62 : Env) (y_63 : Bool), J50 h61 y_63 →
            ∃ I64 : Nat → Heap → Option Addr → Nat → Nat → Int → Int → Prop, (∃ n65, I64 n65 h61 none 0 0 12 0) ∧
            ∀ (n65 : Nat) (h66 : Heap) (g67 : Env) (from_68 : Option Addr) (lfrom_68 cfrom_68 : Nat) (n_69 : Int) (k_70 : Int), I64 n65 h66 from_68 lfrom_68 cfrom_68 n_69 k_70 →
            cond (decide (k_70 < (ll_33 : Int)))
            (VNew h66 (.cells #[.int .i64 n_69] 3) fun b72 h73 =>
              RunsTo Tryd.prog (Builtin.append_ #[47, 47] 47 #[.slice from_68 lfrom_68 cfrom_68, .slice (some ⟨b72, 0, none⟩) 1 1]) h73 fun v74 h75 =>
              ∃ (a76 : Option Addr) (la76 ca76 : Nat), v74 = .slice a76 la76 ca76 ∧
              VIdx l_33 ll_33 k_70 1 fun a77 =>
              ∃ (a78 : Option Addr) (la78 ca78 : Nat), cellH h75 a77 = some (.slice a78 la78 ca78) ∧
              ∃ m71, m71 < n65 ∧ I64 m71 h75 a76 la76 ca76 (IntKind.i64.wrap ((IntKind.i64.wrap (n_69 + 12)) + (la78 : Int))) (IntKind.i64.wrap (k_70 + 1)))
            (VNew h66 (.cells #[.int .i64 n_69] 3) fun b79 h80 =>
              RunsTo Tryd.prog (Builtin.append_ #[47, 47] 47 #[.slice from_68 lfrom_68 cfrom_68, .slice (some ⟨b79, 0, none⟩) 1 1]) h80 fun v81 h82 =>
              ∃ (a83 : Option Addr) (la83 ca83 : Nat), v81 = .slice a83 la83 ca83 ∧
              cond (n_69 != (la36 : Int))
              (R (.bool false) h82)
              ((ll_33 : Int) ≠ (0 : Int) ∧
                (ll_33 : Int) ≠ (0 : Int) ∧
                ∃ J84 : Heap → Bool → Prop, (cond (decide ((Int.tmod i_45 (ll_33 : Int)) < (IntKind.i64.wrap ((ll_33 : Int) - 1))))
                  (VIdx a83 la83 (Int.tmod i_45 (ll_33 : Int)) 1 fun a85 =>
                    ∃ x86 : Int, cellH h82 a85 = some (.int .i64 x86) ∧
                    VSlice 1 a36 ca36 0 x86 (ca36 : Int) fun a87 la87 ca87 =>
                    RunsTo Tryd.prog (Builtin.append_ #[26, 26] 26 #[.slice none 0 0, .slice a87 la87 ca87]) h82 fun v88 h89 =>
                    ∃ (a90 : Option Addr) (la90 ca90 : Nat), v88 = .slice a90 la90 ca90 ∧
                    VIdx a83 la83 (IntKind.i64.wrap ((Int.tmod i_45 (ll_33 : Int)) + 1)) 1 fun a91 =>
                    ∃ x92 : Int, cellH h89 a91 = some (.int .i64 x92) ∧
                    VSlice 1 a36 ca36 x92 (la36 : Int) (ca36 : Int) fun a93 la93 ca93 =>
                    RunsTo Tryd.prog (Builtin.append_ #[26, 26] 26 #[.slice a90 la90 ca90, .slice a93 la93 ca93]) h89 fun v94 h95 =>
                    ∃ (a96 : Option Addr) (la96 ca96 : Nat), v94 = .slice a96 la96 ca96 ∧
                    CallsH Tryd.prog 19 #[.slice a96 la96 ca96] h95 fun v97 h98 =>
                    ∃ b99 : Bool, v97 = .bool b99 ∧
                    cond (!b99)
                    (R (.bool false) h98)
                    (J84 h98 y_63))
                  (J84 h82 y_63)) ∧
                ∀ (h100 : Heap) (g101 : Env) (y_102 : Bool), J84 h100 y_102 →
                cond (decide ((Int.tmod i_45 (ll_33 : Int)) < (Int.tmod j_49 (ll_33 : Int))))
                (VIdx a83 la83 (Int.tmod i_45 (ll_33 : Int)) 1 fun a103 =>
                  ∃ x104 : Int, cellH h100 a103 = some (.int .i64 x104) ∧
                  VSlice 1 a36 ca36 0 x104 (ca36 : Int) fun a105 la105 ca105 =>
                  RunsTo Tryd.prog (Builtin.append_ #[26, 26] 26 #[.slice none 0 0, .slice a105 la105 ca105]) h100 fun v106 h107 =>
                  ∃ (a108 : Option Addr) (la108 ca108 : Nat), v106 = .slice a108 la108 ca108 ∧
                  VIdx a83 la83 (Int.tmod j_49 (ll_33 : Int)) 1 fun a109 =>
                  ∃ x110 : Int, cellH h107 a109 = some (.int .i64 x110) ∧
                  VIdx a83 la83 (IntKind.i64.wrap ((Int.tmod j_49 (ll_33 : Int)) + 1)) 1 fun a111 =>
                  ∃ x112 : Int, cellH h107 a111 = some (.int .i64 x112) ∧
                  VSlice 1 a36 ca36 x110 x112 (ca36 : Int) fun a113 la113 ca113 =>
                  RunsTo Tryd.prog (Builtin.append_ #[26, 26] 26 #[.slice a108 la108 ca108, .slice a113 la113 ca113]) h107 fun v114 h115 =>
                  ∃ (a116 : Option Addr) (la116 ca116 : Nat), v114 = .slice a116 la116 ca116 ∧
                  VIdx a83 la83 (IntKind.i64.wrap ((Int.tmod i_45 (ll_33 : Int)) + 1)) 1 fun a117 =>
                  ∃ x118 : Int, cellH h115 a117 = some (.int .i64 x118) ∧
                  VIdx a83 la83 (Int.tmod j_49 (ll_33 : Int)) 1 fun a119 =>
                  ∃ x120 : Int, cellH h115 a119 = some (.int .i64 x120) ∧
                  VSlice 1 a36 ca36 x118 x120 (ca36 : Int) fun a121 la121 ca121 =>
                  RunsTo Tryd.prog (Builtin.append_ #[26, 26] 26 #[.slice a116 la116 ca116, .slice a121 la121 ca121]) h115 fun v122 h123 =>
                  ∃ (a124 : Option Addr) (la124 ca124 : Nat), v122 = .slice a124 la124 ca124 ∧
                  VIdx a83 la83 (Int.tmod i_45 (ll_33 : Int)) 1 fun a125 =>
                  ∃ x126 : Int, cellH h123 a125 = some (.int .i64 x126) ∧
                  VIdx a83 la83 (IntKind.i64.wrap ((Int.tmod i_45 (ll_33 : Int)) + 1)) 1 fun a127 =>
                  ∃ x128 : Int, cellH h123 a127 = some (.int .i64 x128) ∧
                  VSlice 1 a36 ca36 x126 x128 (ca36 : Int) fun a129 la129 ca129 =>
                  RunsTo Tryd.prog (Builtin.append_ #[26, 26] 26 #[.slice a124 la124 ca124, .slice a129 la129 ca129]) h123 fun v130 h131 =>
                  ∃ (a132 : Option Addr) (la132 ca132 : Nat), v130 = .slice a132 la132 ca132 ∧
                  VIdx a83 la83 (IntKind.i64.wrap ((Int.tmod j_49 (ll_33 : Int)) + 1)) 1 fun a133 =>
                  ∃ x134 : Int, cellH h131 a133 = some (.int .i64 x134) ∧
                  VSlice 1 a36 ca36 x134 (la36 : Int) (ca36 : Int) fun a135 la135 ca135 =>
                  RunsTo Tryd.prog (Builtin.append_ #[26, 26] 26 #[.slice a132 la132 ca132, .slice a135 la135 ca135]) h131 fun v136 h137 =>
                  ∃ (a138 : Option Addr) (la138 ca138 : Nat), v136 = .slice a138 la138 ca138 ∧
                  CallsH Tryd.prog 19 #[.slice a138 la138 ca138] h137 fun v139 h140 =>
                  ∃ b141 : Bool, v139 = .bool b141 ∧
                  R (.bool b141) h140)
                (R (.bool true) h100))))))) (∃ J142 : Heap → Option Addr → Nat → Nat → Prop, (cond ((ll_8 : Int) == (0 : Int))
        (VNew h6 (.cells #[.int .u8 1] 5) fun b143 h144 =>
          VNew h144 (.cells #[.slice (some ⟨b143, 0, none⟩) 1 1] 26) fun b145 h146 =>
          RunsTo Tryd.prog (Builtin.append_ #[25, 25] 25 #[.slice l_8 ll_8 cl_8, .slice (some ⟨b145, 0, none⟩) 1 1]) h146 fun v147 h148 =>
          ∃ (a149 : Option Addr) (la149 ca149 : Nat), v147 = .slice a149 la149 ca149 ∧
          J142 h148 a149 la149 ca149)
        (J142 h6 l_8 ll_8 cl_8)) ∧
      ∀ (h150 : Heap) (g151 : Env) (l_152 : Option Addr) (ll_152 cl_152 : Nat), J142 h150 l_152 ll_152 cl_152 →
      CallsH Tryd.prog 18 #[.slice l_152 ll_152 cl_152, .bool a1rolled] h150 fun v153 h154 =>
      ∃ (a155 : Option Addr) (la155 ca155 : Nat), ∃ b156 : Bool, v153 = .tuple #[.slice a155 la155 ca155, .bool b156] ∧
      cond (!b156) (R (.bool false) h154) (cond ((la155 : Int) == (0 : Int))
        (R (.bool false) h154)
        (∃ J157 : Heap → Int → Prop, (cond (decide (a2at < (0 : Int)))
            (J157 h154 (IntKind.i64.wrap ((-1 : Int) - a2at)))
            (J157 h154 a2at)) ∧
          ∀ (h158 : Heap) (g159 : Env) (at_160 : Int), J157 h158 at_160 →
          ∃ J161 : Heap → Int → Prop, (cond (decide (a4i < (0 : Int)))
            (J161 h158 (IntKind.i64.wrap ((-1 : Int) - a4i)))
            (J161 h158 a4i)) ∧
          ∀ (h162 : Heap) (g163 : Env) (i_164 : Int), J161 h162 i_164 →
          ∃ J165 : Heap → Int → Prop, (cond (decide (a5j < (0 : Int)))
            (J165 h162 (IntKind.i64.wrap ((-1 : Int) - a5j)))
            (J165 h162 a5j)) ∧
          ∀ (h166 : Heap) (g167 : Env) (j_168 : Int), J165 h166 j_168 →
          ∃ J169 : Heap → Bool → Prop, (cond (a3by != (0 : Int))
            (RunsTo Tryd.prog (Builtin.append_ #[26, 26] 26 #[.slice none 0 0, .slice a155 la155 ca155]) h166 fun v170 h171 =>
              ∃ (a172 : Option Addr) (la172 ca172 : Nat), v170 = .slice a172 la172 ca172 ∧
              (la172 : Int) ≠ (0 : Int) ∧
              (la172 : Int) ≠ (0 : Int) ∧
              VIdx a172 la172 (Int.tmod at_160 (la172 : Int)) 1 fun a173 =>
              ∃ x174 : Int, cellH h171 a173 = some (.int .u8 x174) ∧
              VIdx a172 la172 (Int.tmod at_160 (la172 : Int)) 1 fun a175 =>
              VStore h171 a175 (.int .u8 (bitsOp .xor .u8 x174 a3by)) fun h176 =>
              CallsH Tryd.prog 19 #[.slice a172 la172 ca172] h176 fun v177 h178 =>
              ∃ b179 : Bool, v177 = .bool b179 ∧
              cond (!b179)
              (R (.bool false) h178)
              (J169 h178 false))
            (J169 h166 false)) ∧
          ∀ (h180 : Heap) (g181 : Env) (y_182 : Bool), J169 h180 y_182 →
          ∃ I183 : Nat → Heap → Option Addr → Nat → Nat → Int → Int → Prop, (∃ n184, I183 n184 h180 none 0 0 12 0) ∧
          ∀ (n184 : Nat) (h185 : Heap) (g186 : Env) (from_187 : Option Addr) (lfrom_187 cfrom_187 : Nat) (n_188 : Int) (k_189 : Int), I183 n184 h185 from_187 lfrom_187 cfrom_187 n_188 k_189 →
          cond (decide (k_189 < (ll_152 : Int)))
          (VNew h185 (.cells #[.int .i64 n_188] 3) fun b191 h192 =>
            RunsTo Tryd.prog (Builtin.append_ #[47, 47] 47 #[.slice from_187 lfrom_187 cfrom_187, .slice (some ⟨b191, 0, none⟩) 1 1]) h192 fun v193 h194 =>
            ∃ (a195 : Option Addr) (la195 ca195 : Nat), v193 = .slice a195 la195 ca195 ∧
            VIdx l_152 ll_152 k_189 1 fun a196 =>
            ∃ (a197 : Option Addr) (la197 ca197 : Nat), cellH h194 a196 = some (.slice a197 la197 ca197) ∧
            ∃ m190, m190 < n184 ∧ I183 m190 h194 a195 la195 ca195 (IntKind.i64.wrap ((IntKind.i64.wrap (n_188 + 12)) + (la197 : Int))) (IntKind.i64.wrap (k_189 + 1)))
          (VNew h185 (.cells #[.int .i64 n_188] 3) fun b198 h199 =>
            RunsTo Tryd.prog (Builtin.append_ #[47, 47] 47 #[.slice from_187 lfrom_187 cfrom_187, .slice (some ⟨b198, 0, none⟩) 1 1]) h199 fun v200 h201 =>
            ∃ (a202 : Option Addr) (la202 ca202 : Nat), v200 = .slice a202 la202 ca202 ∧
            cond (n_188 != (la155 : Int))
            (R (.bool false) h201)
            ((ll_152 : Int) ≠ (0 : Int) ∧
              (ll_152 : Int) ≠ (0 : Int) ∧
              ∃ J203 : Heap → Bool → Prop, (cond (decide ((Int.tmod i_164 (ll_152 : Int)) < (IntKind.i64.wrap ((ll_152 : Int) - 1))))
                (VIdx a202 la202 (Int.tmod i_164 (ll_152 : Int)) 1 fun a204 =>
                  ∃ x205 : Int, cellH h201 a204 = some (.int .i64 x205) ∧
                  VSlice 1 a155 ca155 0 x205 (ca155 : Int) fun a206 la206 ca206 =>
                  RunsTo Tryd.prog (Builtin.append_ #[26, 26] 26 #[.slice none 0 0, .slice a206 la206 ca206]) h201 fun v207 h208 =>
                  ∃ (a209 : Option Addr) (la209 ca209 : Nat), v207 = .slice a209 la209 ca209 ∧
                  VIdx a202 la202 (IntKind.i64.wrap ((Int.tmod i_164 (ll_152 : Int)) + 1)) 1 fun a210 =>
                  ∃ x211 : Int, cellH h208 a210 = some (.int .i64 x211) ∧
                  VSlice 1 a155 ca155 x211 (la155 : Int) (ca155 : Int) fun a212 la212 ca212 =>
                  RunsTo Tryd.prog (Builtin.append_ #[26, 26] 26 #[.slice a209 la209 ca209, .slice a212 la212 ca212]) h208 fun v213 h214 =>
                  ∃ (a215 : Option Addr) (la215 ca215 : Nat), v213 = .slice a215 la215 ca215 ∧
                  CallsH Tryd.prog 19 #[.slice a215 la215 ca215] h214 fun v216 h217 =>
                  ∃ b218 : Bool, v216 = .bool b218 ∧
                  cond (!b218)
                  (R (.bool false) h217)
                  (J203 h217 y_182))
                (J203 h201 y_182)) ∧
              ∀ (h219 : Heap) (g220 : Env) (y_221 : Bool), J203 h219 y_221 →
              cond (decide ((Int.tmod i_164 (ll_152 : Int)) < (Int.tmod j_168 (ll_152 : Int))))
              (VIdx a202 la202 (Int.tmod i_164 (ll_152 : Int)) 1 fun a222 =>
                ∃ x223 : Int, cellH h219 a222 = some (.int .i64 x223) ∧
                VSlice 1 a155 ca155 0 x223 (ca155 : Int) fun a224 la224 ca224 =>
                RunsTo Tryd.prog (Builtin.append_ #[26, 26] 26 #[.slice none 0 0, .slice a224 la224 ca224]) h219 fun v225 h226 =>
                ∃ (a227 : Option Addr) (la227 ca227 : Nat), v225 = .slice a227 la227 ca227 ∧
                VIdx a202 la202 (Int.tmod j_168 (ll_152 : Int)) 1 fun a228 =>
                ∃ x229 : Int, cellH h226 a228 = some (.int .i64 x229) ∧
                VIdx a202 la202 (IntKind.i64.wrap ((Int.tmod j_168 (ll_152 : Int)) + 1)) 1 fun a230 =>
                ∃ x231 : Int, cellH h226 a230 = some (.int .i64 x231) ∧
                VSlice 1 a155 ca155 x229 x231 (ca155 : Int) fun a232 la232 ca232 =>
                RunsTo Tryd.prog (Builtin.append_ #[26, 26] 26 #[.slice a227 la227 ca227, .slice a232 la232 ca232]) h226 fun v233 h234 =>
                ∃ (a235 : Option Addr) (la235 ca235 : Nat), v233 = .slice a235 la235 ca235 ∧
                VIdx a202 la202 (IntKind.i64.wrap ((Int.tmod i_164 (ll_152 : Int)) + 1)) 1 fun a236 =>
                ∃ x237 : Int, cellH h234 a236 = some (.int .i64 x237) ∧
                VIdx a202 la202 (Int.tmod j_168 (ll_152 : Int)) 1 fun a238 =>
                ∃ x239 : Int, cellH h234 a238 = some (.int .i64 x239) ∧
                VSlice 1 a155 ca155 x237 x239 (ca155 : Int) fun a240 la240 ca240 =>
                RunsTo Tryd.prog (Builtin.append_ #[26, 26] 26 #[.slice a235 la235 ca235, .slice a240 la240 ca240]) h234 fun v241 h242 =>
                ∃ (a243 : Option Addr) (la243 ca243 : Nat), v241 = .slice a243 la243 ca243 ∧
                VIdx a202 la202 (Int.tmod i_164 (ll_152 : Int)) 1 fun a244 =>
                ∃ x245 : Int, cellH h242 a244 = some (.int .i64 x245) ∧
                VIdx a202 la202 (IntKind.i64.wrap ((Int.tmod i_164 (ll_152 : Int)) + 1)) 1 fun a246 =>
                ∃ x247 : Int, cellH h242 a246 = some (.int .i64 x247) ∧
                VSlice 1 a155 ca155 x245 x247 (ca155 : Int) fun a248 la248 ca248 =>
                RunsTo Tryd.prog (Builtin.append_ #[26, 26] 26 #[.slice a243 la243 ca243, .slice a248 la248 ca248]) h242 fun v249 h250 =>
                ∃ (a251 : Option Addr) (la251 ca251 : Nat), v249 = .slice a251 la251 ca251 ∧
                VIdx a202 la202 (IntKind.i64.wrap ((Int.tmod j_168 (ll_152 : Int)) + 1)) 1 fun a252 =>
                ∃ x253 : Int, cellH h250 a252 = some (.int .i64 x253) ∧
                VSlice 1 a155 ca155 x253 (la155 : Int) (ca155 : Int) fun a254 la254 ca254 =>
                RunsTo Tryd.prog (Builtin.append_ #[26, 26] 26 #[.slice a251 la251 ca251, .slice a254 la254 ca254]) h250 fun v255 h256 =>
                ∃ (a257 : Option Addr) (la257 ca257 : Nat), v255 = .slice a257 la257 ca257 ∧
                CallsH Tryd.prog 19 #[.slice a257 la257 ca257] h256 fun v258 h259 =>
                ∃ b260 : Bool, v258 = .bool b260 ∧
                R (.bool b260) h259)
              (R (.bool true) h219)))))))
theorem vf6 (a0recs : Option Addr) (la0recs ca0recs : Nat) (a1rolled : Bool) (a2at : Int) (a3by : Int) (a4i : Int) (a5j : Int) (h : Heap) (R : KV) (hF : F6 a0recs la0recs ca0recs a1rolled a2at a3by a4i a5j h R) : CallsH Tryd.prog 6 #[.slice a0recs la0recs ca0recs, .bool a1rolled, .int .i64 a2at, .int .u8 a3by, .int .i64 a4i, .int .i64 a5j] h R :=
  calls_of_vc (A := an6) (fn := Tryd.f6) (c := c6) (args := [.slice a0recs la0recs ca0recs, .bool a1rolled, .int .i64 a2at, .int .u8 a3by, .int .i64 a4i, .int .i64 a5j]) Tryd.func6 (by kernel_rfl) mixed (by kernel_rfl) (Eq.mp (by kernel_rfl : F6 a0recs la0recs ca0recs a1rolled a2at a3by a4i a5j h R = vcF Tryd.prog an6 Tryd.f6 c6 [.slice a0recs la0recs ca0recs, .bool a1rolled, .int .i64 a2at, .int .u8 a3by, .int .i64 a4i, .int .i64 a5j] h R) hF)
/-! ### 7 refrain/refrainlaw23.LogFresh -/
noncomputable def c7 : Code := match Tryd.f7.body with | some c => c | none => .skip
noncomputable def an7 : Ann := { loops := fun i => match i with | 16 => [(4, .bool), (13, .int .i64)] | _ => [], draws := fun i => match i with | 21 => #[0, 0, 2, 7, 0, 0, 32, 127, 255] | 24 => #[0, 0, 2, 7, 0, 0, 32, 127, 255] | _ => #[], joins := fun i => match i with | 17 => some [(4, .bool), (14, .ptr), (15, .ptr), (16, .ptr), (17, .ptr)] | 29 => some [(4, .bool)] | _ => none }
def F7 (a0d_0 : Option Addr) (la0d_0 ca0d_0 : Nat) (a1script : Option Addr) (la1script ca1script : Nat) (h : Heap) (R : KV) : Prop :=
  VNew h (.cells #[.slice a0d_0 la0d_0 ca0d_0] 34) fun b1 h2 =>
  CallsH Tryd.prog 8 #[] h2 fun v3 h4 =>
  ∃ b5 : Bool, v3 = .bool b5 ∧
  cond (!b5)
  (R (.bool false) h4)
  (∃ (a6 : Option Addr) (la6 ca6 : Nat), cellH h4 ⟨b1, 0, none⟩ = some (.slice a6 la6 ca6) ∧
    CallsH Tryd.prog 14 #[.agg #[.slice a6 la6 ca6]] h4 fun v7 h8 =>
    ∃ p9 : Option Addr, ∃ (a10 : Option Addr) (la10 ca10 : Nat), ∃ x11 : Int, v7 = .tuple #[.pointer p9, .slice a10 la10 ca10, .int .i64 x11] ∧
    ∃ (a12 : Option Addr) (la12 ca12 : Nat), cellH h8 ⟨b1, 0, none⟩ = some (.slice a12 la12 ca12) ∧
    CallsH Tryd.prog 14 #[.agg #[.slice a12 la12 ca12]] h8 fun v13 h14 =>
    ∃ p15 : Option Addr, ∃ (a16 : Option Addr) (la16 ca16 : Nat), ∃ x17 : Int, v13 = .tuple #[.pointer p15, .slice a16 la16 ca16, .int .i64 x17] ∧
    cond (x11 != x17) (R (.bool false) h14) (cond (!(p9.isNone == (x11 != (0 : Int)))) (R (.bool false) h14) (cond (!(p15.isNone == (x17 != (0 : Int)))) (R (.bool false) h14) (CallsH Tryd.prog 12 #[.slice a10 la10 ca10, .slice a16 la16 ca16] h14 fun v18 h19 =>
          ∃ b20 : Bool, v18 = .bool b20 ∧
          cond (!b20)
          (R (.bool false) h19)
          (cond p9.isNone (R (.bool true) h19) (cond p15.isNone
              (R (.bool true) h19)
              (∃ (a21 : Option Addr) (la21 ca21 : Nat), cellH h19 ⟨b1, 0, none⟩ = some (.slice a21 la21 ca21) ∧
                CallsH Tryd.prog 20 #[.agg #[.slice a21 la21 ca21], .slice a1script la1script ca1script] h19 fun v22 h23 =>
                ∃ b24 : Bool, v22 = .bool b24 ∧
                cond (!b24)
                (R (.bool false) h23)
                (VNew h23 (.cells #[.slice none 0 0, .slice none 0 0, .int .i64 0] 66) fun b25 h26 =>
                  CallsH Tryd.prog 21 #[.pointer (some ⟨b25, 0, none⟩), .slice a10 la10 ca10] h26 fun v27 h28 =>
                  v27 = .tuple #[] ∧
                  ∃ I29 : Nat → Heap → Bool → Int → Prop, (∃ n30, I29 n30 h28 false 0) ∧
                  ∀ (n30 : Nat) (h31 : Heap) (g32 : Env) (y_33 : Bool) (i_34 : Int), I29 n30 h31 y_33 i_34 →
                  cond (decide (i_34 < (la1script : Int))) (∃ x36 : Int, cellH h31 ⟨b25, 2, none⟩ = some (.int .i64 x36) ∧
                    cond (decide (x36 < (33554432 : Int)))
                    (∃ J37 : Heap → Bool → Option Addr → Option Addr → Option Addr → Option Addr → Prop, (VIdx a1script la1script i_34 4 fun a38 =>
                        ∃ x39 : Int, cellH h31 a38 = some (.int .i64 x39) ∧
                        ∃ x40 : Int, cellH h31 ⟨a38.block, a38.off + 1, none⟩ = some (.int .i64 x40) ∧
                        ∃ (a41 : Option Addr) (la41 ca41 : Nat), cellH h31 ⟨a38.block, a38.off + 2, none⟩ = some (.slice a41 la41 ca41) ∧
                        ∃ x42 : Int, cellH h31 ⟨a38.block, a38.off + 3, none⟩ = some (.int .i64 x42) ∧
                        VNew h31 (.cells #[.int .i64 0, .int .i64 0, .slice none 0 0, .int .i64 0] 41) fun b43 h44 =>
                        storeL ⟨b43, 0, none⟩ 0 [.int .i64 x39, .int .i64 x40, .slice a41 la41 ca41, .int .i64 x42] h44 fun h45 =>
                        ∃ J46 : Heap → Bool → Prop, (∃ x47 : Int, cellH h45 ⟨b43, 0, none⟩ = some (.int .i64 x47) ∧
                          cond (x47 == (1 : Int))
                          (∃ (a48 : Option Addr) (la48 ca48 : Nat), cellH h45 ⟨b43, 2, none⟩ = some (.slice a48 la48 ca48) ∧
                            ∃ (a49 : Option Addr) (la49 ca49 : Nat), cellH h45 ⟨b43, 2, none⟩ = some (.slice a49 la49 ca49) ∧
                            CallsH Tryd.prog 22 #[.pointer p9, .slice a48 la48 ca48] h45 fun v50 h51 =>
                            ∃ x52 : Int, v50 = .int .i64 x52 ∧
                            (cellH h51 ⟨b43, 2, none⟩ = some (.slice a49 la49 ca49)) ∧
                            CallsH Tryd.prog 22 #[.pointer p15, .slice a49 la49 ca49] h51 fun v53 h54 =>
                            ∃ x55 : Int, v53 = .int .i64 x55 ∧
                            cond (x52 != x55)
                            (R (.bool false) h54)
                            (J46 h54 y_33))
                          (cond (x47 == (2 : Int))
                            (∃ (a56 : Option Addr) (la56 ca56 : Nat), cellH h45 ⟨b43, 2, none⟩ = some (.slice a56 la56 ca56) ∧
                              ∃ (a57 : Option Addr) (la57 ca57 : Nat), cellH h45 ⟨b43, 2, none⟩ = some (.slice a57 la57 ca57) ∧
                              CallsH Tryd.prog 23 #[.pointer p9, .slice a56 la56 ca56] h45 fun v58 h59 =>
                              ∃ x60 : Int, v58 = .int .i64 x60 ∧
                              (cellH h59 ⟨b43, 2, none⟩ = some (.slice a57 la57 ca57)) ∧
                              CallsH Tryd.prog 23 #[.pointer p15, .slice a57 la57 ca57] h59 fun v61 h62 =>
                              ∃ x63 : Int, v61 = .int .i64 x63 ∧
                              cond (x60 != x63)
                              (R (.bool false) h62)
                              (J46 h62 y_33))
                            (cond (x47 == (3 : Int))
                              (CallsH Tryd.prog 24 #[.pointer p9] h45 fun v64 h65 =>
                                v64 = .tuple #[] ∧
                                CallsH Tryd.prog 24 #[.pointer p15] h65 fun v66 h67 =>
                                v66 = .tuple #[] ∧
                                J46 h67 y_33)
                              (J46 h45 y_33)))) ∧
                        ∀ (h68 : Heap) (g69 : Env) (y_70 : Bool), J46 h68 y_70 →
                        ∃ x71 : Int, cellH h68 ⟨b43, 3, none⟩ = some (.int .i64 x71) ∧
                        CallsH Tryd.prog 10 #[.pointer p9, .int .i64 x71] h68 fun v72 h73 =>
                        ∃ (a74 : Option Addr) (la74 ca74 : Nat), v72 = .agg #[.slice a74 la74 ca74] ∧
                        VNew h73 (.cells #[.slice none 0 0] 34) fun b75 h76 =>
                        VStore h76 ⟨b75, 0, none⟩ (.slice a74 la74 ca74) fun h77 =>
                        ∃ x78 : Int, cellH h77 ⟨b43, 3, none⟩ = some (.int .i64 x78) ∧
                        CallsH Tryd.prog 10 #[.pointer p15, .int .i64 x78] h77 fun v79 h80 =>
                        ∃ (a81 : Option Addr) (la81 ca81 : Nat), v79 = .agg #[.slice a81 la81 ca81] ∧
                        VNew h80 (.cells #[.slice none 0 0] 34) fun b82 h83 =>
                        VStore h83 ⟨b82, 0, none⟩ (.slice a81 la81 ca81) fun h84 =>
                        ∃ (a85 : Option Addr) (la85 ca85 : Nat), cellH h84 ⟨b75, 0, none⟩ = some (.slice a85 la85 ca85) ∧
                        ∃ (a86 : Option Addr) (la86 ca86 : Nat), cellH h84 ⟨b82, 0, none⟩ = some (.slice a86 la86 ca86) ∧
                        CallsH Tryd.prog 12 #[.slice a85 la85 ca85, .slice a86 la86 ca86] h84 fun v87 h88 =>
                        ∃ b89 : Bool, v87 = .bool b89 ∧
                        cond (!b89) (R (.bool false) h88) (CallsH Tryd.prog 11 #[.pointer p9] h88 fun v90 h91 =>
                          ∃ x92 : Int, v90 = .int .i64 x92 ∧
                          CallsH Tryd.prog 11 #[.pointer p15] h91 fun v93 h94 =>
                          ∃ x95 : Int, v93 = .int .i64 x95 ∧
                          cond (x92 != x95)
                          (R (.bool false) h94)
                          (∃ (a96 : Option Addr) (la96 ca96 : Nat), cellH h94 ⟨b75, 0, none⟩ = some (.slice a96 la96 ca96) ∧
                            CallsH Tryd.prog 21 #[.pointer (some ⟨b25, 0, none⟩), .slice a96 la96 ca96] h94 fun v97 h98 =>
                            v97 = .tuple #[] ∧
                            ∃ x99 : Int, cellH h98 ⟨b43, 3, none⟩ = some (.int .i64 x99) ∧
                            CallsH Tryd.prog 10 #[.pointer p9, .int .i64 x99] h98 fun v100 h101 =>
                            ∃ (a102 : Option Addr) (la102 ca102 : Nat), v100 = .agg #[.slice a102 la102 ca102] ∧
                            VNew h101 (.cells #[.slice none 0 0] 34) fun b103 h104 =>
                            VStore h104 ⟨b103, 0, none⟩ (.slice a102 la102 ca102) fun h105 =>
                            cond (decide (i_34 < (60 : Int))) (CallsH Tryd.prog 25 #[.pointer (some ⟨b25, 0, none⟩)] h105 fun v106 h107 =>
                              ∃ b108 : Bool, v106 = .bool b108 ∧
                              cond (!b108) (R (.bool false) h107) (∃ (a109 : Option Addr) (la109 ca109 : Nat), cellH h107 ⟨b82, 0, none⟩ = some (.slice a109 la109 ca109) ∧
                                ∃ (a110 : Option Addr) (la110 ca110 : Nat), cellH h107 ⟨b103, 0, none⟩ = some (.slice a110 la110 ca110) ∧
                                CallsH Tryd.prog 12 #[.slice a109 la109 ca109, .slice a110 la110 ca110] h107 fun v111 h112 =>
                                ∃ b113 : Bool, v111 = .bool b113 ∧
                                cond (!b113)
                                (R (.bool false) h112)
                                (J37 h112 y_70 (some ⟨b43, 0, none⟩) (some ⟨b75, 0, none⟩) (some ⟨b82, 0, none⟩) (some ⟨b103, 0, none⟩)))) ((64 : Int) ≠ (0 : Int) ∧
                              cond ((Int.tmod i_34 64) == (0 : Int)) (CallsH Tryd.prog 25 #[.pointer (some ⟨b25, 0, none⟩)] h105 fun v114 h115 =>
                                ∃ b116 : Bool, v114 = .bool b116 ∧
                                cond (!b116) (R (.bool false) h115) (∃ (a117 : Option Addr) (la117 ca117 : Nat), cellH h115 ⟨b82, 0, none⟩ = some (.slice a117 la117 ca117) ∧
                                  ∃ (a118 : Option Addr) (la118 ca118 : Nat), cellH h115 ⟨b103, 0, none⟩ = some (.slice a118 la118 ca118) ∧
                                  CallsH Tryd.prog 12 #[.slice a117 la117 ca117, .slice a118 la118 ca118] h115 fun v119 h120 =>
                                  ∃ b121 : Bool, v119 = .bool b121 ∧
                                  cond (!b121)
                                  (R (.bool false) h120)
                                  (J37 h120 y_70 (some ⟨b43, 0, none⟩) (some ⟨b75, 0, none⟩) (some ⟨b82, 0, none⟩) (some ⟨b103, 0, none⟩)))) (∃ (a122 : Option Addr) (la122 ca122 : Nat), cellH h105 ⟨b82, 0, none⟩ = some (.slice a122 la122 ca122) ∧
                                ∃ (a123 : Option Addr) (la123 ca123 : Nat), cellH h105 ⟨b103, 0, none⟩ = some (.slice a123 la123 ca123) ∧
                                CallsH Tryd.prog 12 #[.slice a122 la122 ca122, .slice a123 la123 ca123] h105 fun v124 h125 =>
                                ∃ b126 : Bool, v124 = .bool b126 ∧
                                cond (!b126)
                                (R (.bool false) h125)
                                (J37 h125 y_70 (some ⟨b43, 0, none⟩) (some ⟨b75, 0, none⟩) (some ⟨b82, 0, none⟩) (some ⟨b103, 0, none⟩))))))) ∧
                      ∀ (h127 : Heap) (g128 : Env) (y_129 : Bool) (o_130 : Option Addr) (x_131 : Option Addr) (y_132 : Option Addr) (z_133 : Option Addr), J37 h127 y_129 o_130 x_131 y_132 z_133 →
                      ∃ m35, m35 < n30 ∧ I29 m35 h127 y_129 (IntKind.i64.wrap (i_34 + 1)))
                    (CallsH Tryd.prog 25 #[.pointer (some ⟨b25, 0, none⟩)] h31 fun v134 h135 =>
                      ∃ b136 : Bool, v134 = .bool b136 ∧
                      R (.bool b136) h135)) (CallsH Tryd.prog 25 #[.pointer (some ⟨b25, 0, none⟩)] h31 fun v137 h138 =>
                    ∃ b139 : Bool, v137 = .bool b139 ∧
                    R (.bool b139) h138)))))))))
theorem vf7 (a0d_0 : Option Addr) (la0d_0 ca0d_0 : Nat) (a1script : Option Addr) (la1script ca1script : Nat) (h : Heap) (R : KV) (hF : F7 a0d_0 la0d_0 ca0d_0 a1script la1script ca1script h R) : CallsH Tryd.prog 7 #[.agg #[.slice a0d_0 la0d_0 ca0d_0], .slice a1script la1script ca1script] h R :=
  calls_of_vc (A := an7) (fn := Tryd.f7) (c := c7) (args := [.agg #[.slice a0d_0 la0d_0 ca0d_0], .slice a1script la1script ca1script]) Tryd.func7 (by kernel_rfl) mixed (by kernel_rfl) (Eq.mp (by kernel_rfl : F7 a0d_0 la0d_0 ca0d_0 a1script la1script ca1script h R = vcF Tryd.prog an7 Tryd.f7 c7 [.agg #[.slice a0d_0 la0d_0 ca0d_0], .slice a1script la1script ca1script] h R) hF)
/-! ### 8 refrain/refrainlaw23.begun -/
noncomputable def c8 : Code := match Tryd.f8.body with | some c => c | none => .skip
noncomputable def an8 : Ann := { loops := fun i => [], draws := fun i => #[], joins := fun i => none }
def F8  (h : Heap) (R : KV) : Prop :=
  CallsH Tryd.prog 14 #[.agg #[.slice none 0 0]] h fun v1 h2 =>
  ∃ p3 : Option Addr, ∃ (a4 : Option Addr) (la4 ca4 : Nat), ∃ x5 : Int, v1 = .tuple #[.pointer p3, .slice a4 la4 ca4, .int .i64 x5] ∧
  cond p3.isNone (R (.bool false) h2) (cond (x5 != (0 : Int)) (R (.bool false) h2) (cond ((la4 : Int) != (0 : Int))
      (R (.bool false) h2)
      (VNew h2 (.cells #[.int .u8 97, .int .u8 98] 5) fun b6 h7 =>
        RunsTo Tryd.prog (convert 26 26 (.slice (some ⟨b6, 0, none⟩) 2 2)) h7 fun v8 h9 =>
        ∃ (a10 : Option Addr) (la10 ca10 : Nat), v8 = .slice a10 la10 ca10 ∧
        CallsH Tryd.prog 22 #[.pointer p3, .slice a10 la10 ca10] h9 fun v11 h12 =>
        ∃ x13 : Int, v11 = .int .i64 x13 ∧
        CallsH Tryd.prog 10 #[.pointer p3, .int .i64 99] h12 fun v14 h15 =>
        ∃ (a16 : Option Addr) (la16 ca16 : Nat), v14 = .agg #[.slice a16 la16 ca16] ∧
        VNew h15 (.cells #[.slice none 0 0] 34) fun b17 h18 =>
        VStore h18 ⟨b17, 0, none⟩ (.slice a16 la16 ca16) fun h19 =>
        CallsH Tryd.prog 11 #[.pointer p3] h19 fun v20 h21 =>
        ∃ x22 : Int, v20 = .int .i64 x22 ∧
        ∃ (a23 : Option Addr) (la23 ca23 : Nat), cellH h21 ⟨b17, 0, none⟩ = some (.slice a23 la23 ca23) ∧
        CallsH Tryd.prog 14 #[.agg #[.slice a23 la23 ca23]] h21 fun v24 h25 =>
        ∃ p26 : Option Addr, ∃ (a27 : Option Addr) (la27 ca27 : Nat), ∃ x28 : Int, v24 = .tuple #[.pointer p26, .slice a27 la27 ca27, .int .i64 x28] ∧
        cond (x13 != (0 : Int)) (R (.bool false) h25) (cond (x22 != (26 : Int)) (R (.bool false) h25) (∃ (a29 : Option Addr) (la29 ca29 : Nat), cellH h25 ⟨b17, 0, none⟩ = some (.slice a29 la29 ca29) ∧
            cond ((la29 : Int) != (1 : Int)) (R (.bool false) h25) (∃ (a30 : Option Addr) (la30 ca30 : Nat), cellH h25 ⟨b17, 0, none⟩ = some (.slice a30 la30 ca30) ∧
              VIdx a30 la30 0 1 fun a31 =>
              ∃ (a32 : Option Addr) (la32 ca32 : Nat), cellH h25 a31 = some (.slice a32 la32 ca32) ∧
              cond ((la32 : Int) != (26 : Int)) (R (.bool false) h25) (cond (x28 != (0 : Int)) (R (.bool false) h25) (cond ((la27 : Int) != (1 : Int))
                  (R (.bool false) h25)
                  (VIdx a27 la27 0 1 fun a33 =>
                    ∃ (a34 : Option Addr) (la34 ca34 : Nat), cellH h25 a33 = some (.slice a34 la34 ca34) ∧
                    RunsTo Tryd.prog (convert 26 9 (.slice a34 la34 ca34)) h25 fun v35 h36 =>
                    ∃ s37 : ByteArray, v35 = .string s37 ∧
                    cond (strEq s37 (ByteArray.mk #[97, 98])) (∃ (a38 : Option Addr) (la38 ca38 : Nat), cellH h36 ⟨b17, 0, none⟩ = some (.slice a38 la38 ca38) ∧
                      VIdx a38 la38 0 1 fun a39 =>
                      ∃ (a40 : Option Addr) (la40 ca40 : Nat), cellH h36 a39 = some (.slice a40 la40 ca40) ∧
                      VIdx a40 la40 8 1 fun a41 =>
                      ∃ x42 : Int, cellH h36 a41 = some (.int .u8 x42) ∧
                      cond (x42 == (21 : Int)) (∃ (a43 : Option Addr) (la43 ca43 : Nat), cellH h36 ⟨b17, 0, none⟩ = some (.slice a43 la43 ca43) ∧
                        VIdx a43 la43 0 1 fun a44 =>
                        ∃ (a45 : Option Addr) (la45 ca45 : Nat), cellH h36 a44 = some (.slice a45 la45 ca45) ∧
                        VIdx a45 la45 20 1 fun a46 =>
                        ∃ x47 : Int, cellH h36 a46 = some (.int .u8 x47) ∧
                        R (.bool (x47 == (35 : Int))) h36) (R (.bool false) h36)) (R (.bool false) h36))))))))))
theorem vf8  (h : Heap) (R : KV) (hF : F8  h R) : CallsH Tryd.prog 8 #[] h R :=
  calls_of_vc (A := an8) (fn := Tryd.f8) (c := c8) (args := []) Tryd.func8 (by kernel_rfl) mixed (by kernel_rfl) (Eq.mp (by kernel_rfl : F8  h R = vcF Tryd.prog an8 Tryd.f8 c8 [] h R) hF)
/-! ### 9 (refrain/refrainlaw23.places).opened -/
noncomputable def c9 : Code := match Tryd.f9.body with | some c => c | none => .skip
noncomputable def an9 : Ann := { loops := fun i => match i with | 7 => [(16, .int .i64)] | 10 => [(17, .int .i64)] | _ => [], draws := fun i => #[], joins := fun i => none }
def F9 (a0h : Option Addr) (a1d_0 : Option Addr) (la1d_0 ca1d_0 : Nat) (h : Heap) (R : KV) : Prop :=
  VNew h (.cells #[.slice a1d_0 la1d_0 ca1d_0] 34) fun b1 h2 =>
  ∃ (a3 : Option Addr) (la3 ca3 : Nat), cellH h2 ⟨b1, 0, none⟩ = some (.slice a3 la3 ca3) ∧
  CallsH Tryd.prog 26 #[.pointer a0h, .agg #[.slice a3 la3 ca3]] h2 fun v4 h5 =>
  ∃ (a6 : Option Addr) (la6 ca6 : Nat), ∃ (a7 : Option Addr) (la7 ca7 : Nat), ∃ (a8 : Option Addr) (la8 ca8 : Nat), v4 = .tuple #[.agg #[.slice a6 la6 ca6], .slice a7 la7 ca7, .slice a8 la8 ca8] ∧
  VNew h5 (.cells #[.slice none 0 0] 34) fun b9 h10 =>
  VStore h10 ⟨b9, 0, none⟩ (.slice a6 la6 ca6) fun h11 =>
  ∃ (a12 : Option Addr) (la12 ca12 : Nat), cellH h11 ⟨b9, 0, none⟩ = some (.slice a12 la12 ca12) ∧
  CallsH Tryd.prog 14 #[.agg #[.slice a12 la12 ca12]] h11 fun v13 h14 =>
  ∃ p15 : Option Addr, ∃ (a16 : Option Addr) (la16 ca16 : Nat), ∃ x17 : Int, v13 = .tuple #[.pointer p15, .slice a16 la16 ca16, .int .i64 x17] ∧
  ∃ (a18 : Option Addr) (la18 ca18 : Nat), cellH h14 ⟨b1, 0, none⟩ = some (.slice a18 la18 ca18) ∧
  CallsH Tryd.prog 27 #[.agg #[.slice a18 la18 ca18]] h14 fun v19 h20 =>
  ∃ p21 : Option Addr, ∃ (a22 : Option Addr) (la22 ca22 : Nat), ∃ x23 : Int, v19 = .tuple #[.pointer p21, .slice a22 la22 ca22, .int .i64 x23] ∧
  cond (x17 != x23) (R (.tuple #[.pointer none, .pointer none, .bool false]) h20) (cond (!(p15.isNone == p21.isNone)) (R (.tuple #[.pointer none, .pointer none, .bool false]) h20) (CallsH Tryd.prog 12 #[.slice a16 la16 ca16, .slice a22 la22 ca22] h20 fun v24 h25 =>
      ∃ b26 : Bool, v24 = .bool b26 ∧
      cond (!b26) (R (.tuple #[.pointer none, .pointer none, .bool false]) h25) (∃ (a27 : Option Addr) (la27 ca27 : Nat), cellH h25 ⟨b1, 0, none⟩ = some (.slice a27 la27 ca27) ∧
        CallsH Tryd.prog 28 #[.slice a7 la7 ca7, .slice a8 la8 ca8, .agg #[.slice a27 la27 ca27]] h25 fun v28 h29 =>
        ∃ b30 : Bool, v28 = .bool b30 ∧
        cond (!b30)
        (R (.tuple #[.pointer none, .pointer none, .bool false]) h29)
        (∃ I31 : Nat → Heap → Int → Prop, (∃ n32, I31 n32 h29 0) ∧
          ∀ (n32 : Nat) (h33 : Heap) (g34 : Env) (i_35 : Int), I31 n32 h33 i_35 →
          ∃ (a37 : Option Addr) (la37 ca37 : Nat), cellH h33 ⟨b9, 0, none⟩ = some (.slice a37 la37 ca37) ∧
          cond (decide (i_35 < (la37 : Int)))
          (∃ I38 : Nat → Heap → Int → Prop, (∃ n39, I38 n39 h33 0) ∧
            ∀ (n39 : Nat) (h40 : Heap) (g41 : Env) (k_42 : Int), I38 n39 h40 k_42 →
            ∃ (a44 : Option Addr) (la44 ca44 : Nat), cellH h40 ⟨b9, 0, none⟩ = some (.slice a44 la44 ca44) ∧
            VIdx a44 la44 i_35 1 fun a45 =>
            ∃ (a46 : Option Addr) (la46 ca46 : Nat), cellH h40 a45 = some (.slice a46 la46 ca46) ∧
            cond (decide (k_42 < (la46 : Int)))
            (∃ (a47 : Option Addr) (la47 ca47 : Nat), cellH h40 ⟨b9, 0, none⟩ = some (.slice a47 la47 ca47) ∧
              VIdx a47 la47 i_35 1 fun a48 =>
              ∃ (a49 : Option Addr) (la49 ca49 : Nat), cellH h40 a48 = some (.slice a49 la49 ca49) ∧
              VIdx a49 la49 k_42 1 fun a50 =>
              VStore h40 a50 (.int .u8 238) fun h51 =>
              ∃ m43, m43 < n39 ∧ I38 m43 h51 (IntKind.i64.wrap (k_42 + 1)))
            (∃ m36, m36 < n32 ∧ I31 m36 h40 (IntKind.i64.wrap (i_35 + 1))))
          (R (.tuple #[.pointer p15, .pointer p21, .bool true]) h33)))))
theorem vf9 (a0h : Option Addr) (a1d_0 : Option Addr) (la1d_0 ca1d_0 : Nat) (h : Heap) (R : KV) (hF : F9 a0h a1d_0 la1d_0 ca1d_0 h R) : CallsH Tryd.prog 9 #[.pointer a0h, .agg #[.slice a1d_0 la1d_0 ca1d_0]] h R :=
  calls_of_vc (A := an9) (fn := Tryd.f9) (c := c9) (args := [.pointer a0h, .agg #[.slice a1d_0 la1d_0 ca1d_0]]) Tryd.func9 (by kernel_rfl) mixed (by kernel_rfl) (Eq.mp (by kernel_rfl : F9 a0h a1d_0 la1d_0 ca1d_0 h R = vcF Tryd.prog an9 Tryd.f9 c9 [.pointer a0h, .agg #[.slice a1d_0 la1d_0 ca1d_0]] h R) hF)
/-! ### 10 (refrain/log.Log).Crash -/
noncomputable def c10 : Code := match Tryd.f10.body with | some c => c | none => .skip
noncomputable def an10 : Ann := { loops := fun i => [], draws := fun i => #[], joins := fun i => none }
def F10 (a0l : Option Addr) (a1keep : Int) (h : Heap) (R : KV) : Prop :=
  VNew h (.cells #[.slice none 0 0] 34) fun b1 h2 =>
  CallsH Tryd.prog 29 #[.pointer a0l, .int .i64 (maxI a1keep 0)] h2 fun v3 h4 =>
  ∃ p5 : Option Addr, v3 = .pointer p5 ∧
  VSome p5 fun a6 =>
  ∃ (a7 : Option Addr) (la7 ca7 : Nat), cellH h4 a6 = some (.slice a7 la7 ca7) ∧
  VStore h4 ⟨b1, 0, none⟩ (.slice a7 la7 ca7) fun h8 =>
  ∃ (a9 : Option Addr) (la9 ca9 : Nat), cellH h8 ⟨b1, 0, none⟩ = some (.slice a9 la9 ca9) ∧
  R (.agg #[.slice a9 la9 ca9]) h8
theorem vf10 (a0l : Option Addr) (a1keep : Int) (h : Heap) (R : KV) (hF : F10 a0l a1keep h R) : CallsH Tryd.prog 10 #[.pointer a0l, .int .i64 a1keep] h R :=
  calls_of_vc (A := an10) (fn := Tryd.f10) (c := c10) (args := [.pointer a0l, .int .i64 a1keep]) Tryd.func10 (by kernel_rfl) mixed (by kernel_rfl) (Eq.mp (by kernel_rfl : F10 a0l a1keep h R = vcF Tryd.prog an10 Tryd.f10 c10 [.pointer a0l, .int .i64 a1keep] h R) hF)
/-! ### 11 (refrain/log.Log).Dirty -/
noncomputable def c11 : Code := match Tryd.f11.body with | some c => c | none => .skip
noncomputable def an11 : Ann := { loops := fun i => match i with | 3 => [(3, .int .i64), (11, .int .i64)] | _ => [], draws := fun i => #[], joins := fun i => none }
def F11 (a0l : Option Addr) (h : Heap) (R : KV) : Prop :=
  VSome a0l fun a1 =>
  ∃ (a2 : Option Addr) (la2 ca2 : Nat), cellH h ⟨a1.block, a1.off + 1, none⟩ = some (.slice a2 la2 ca2) ∧
  ∃ I3 : Nat → Heap → Int → Int → Prop, (∃ n4, I3 n4 h 0 0) ∧
  ∀ (n4 : Nat) (h5 : Heap) (g6 : Env) (n_7 : Int) (y_8 : Int), I3 n4 h5 n_7 y_8 →
  cond (decide (y_8 < (la2 : Int)))
  (VIdx a2 la2 y_8 3 fun a10 =>
    ∃ x11 : Int, cellH h5 a10 = some (.int .i64 x11) ∧
    ∃ x12 : Int, cellH h5 ⟨a10.block, a10.off + 1, none⟩ = some (.int .i64 x12) ∧
    ∃ (a13 : Option Addr) (la13 ca13 : Nat), cellH h5 ⟨a10.block, a10.off + 2, none⟩ = some (.slice a13 la13 ca13) ∧
    VNew h5 (.cells #[.int .i64 0, .int .i64 0, .slice none 0 0] 83) fun b14 h15 =>
    storeL ⟨b14, 0, none⟩ 0 [.int .i64 x11, .int .i64 x12, .slice a13 la13 ca13] h15 fun h16 =>
    ∃ (a17 : Option Addr) (la17 ca17 : Nat), cellH h16 ⟨b14, 2, none⟩ = some (.slice a17 la17 ca17) ∧
    ∃ m9, m9 < n4 ∧ I3 m9 h16 (IntKind.i64.wrap (n_7 + (la17 : Int))) (IntKind.i64.wrap (y_8 + 1)))
  (R (.int .i64 n_7) h5)
theorem vf11 (a0l : Option Addr) (h : Heap) (R : KV) (hF : F11 a0l h R) : CallsH Tryd.prog 11 #[.pointer a0l] h R :=
  calls_of_vc (A := an11) (fn := Tryd.f11) (c := c11) (args := [.pointer a0l]) Tryd.func11 (by kernel_rfl) mixed (by kernel_rfl) (Eq.mp (by kernel_rfl : F11 a0l h R = vcF Tryd.prog an11 Tryd.f11 c11 [.pointer a0l] h R) hF)
/-! ### 12 refrain/refrainlaw23.sameLists -/
noncomputable def c12 : Code := match Tryd.f12.body with | some c => c | none => .skip
noncomputable def an12 : Ann := { loops := fun i => match i with | 4 => [(4, .bool), (5, .int .i64)] | _ => [], draws := fun i => match i with | 6 => #[0, 0, 3, 7, 0, 0, 48, 112, 255, 511] | _ => #[], joins := fun i => none }
def F12 (a0a : Option Addr) (la0a ca0a : Nat) (a1b : Option Addr) (la1b ca1b : Nat) (h : Heap) (R : KV) : Prop :=
  cond ((la0a : Int) != (la1b : Int))
  (R (.bool false) h)
  (∃ I1 : Nat → Heap → Bool → Int → Prop, (∃ n2, I1 n2 h false 0) ∧
    ∀ (n2 : Nat) (h3 : Heap) (g4 : Env) (y_5 : Bool) (i_6 : Int), I1 n2 h3 y_5 i_6 →
    cond (decide (i_6 < (la0a : Int)))
    (VIdx a0a la0a i_6 1 fun a8 =>
      ∃ (a9 : Option Addr) (la9 ca9 : Nat), cellH h3 a8 = some (.slice a9 la9 ca9) ∧
      VIdx a1b la1b i_6 1 fun a10 =>
      ∃ (a11 : Option Addr) (la11 ca11 : Nat), cellH h3 a10 = some (.slice a11 la11 ca11) ∧
      CallsH Tryd.prog 30 #[.slice a9 la9 ca9, .slice a11 la11 ca11] h3 fun v12 h13 =>
      ∃ b14 : Bool, v12 = .bool b14 ∧
      cond (!b14)
      (R (.bool false) h13)
      (∃ m7, m7 < n2 ∧ I1 m7 h13 y_5 (IntKind.i64.wrap (i_6 + 1))))
    (R (.bool true) h3))
theorem vf12 (a0a : Option Addr) (la0a ca0a : Nat) (a1b : Option Addr) (la1b ca1b : Nat) (h : Heap) (R : KV) (hF : F12 a0a la0a ca0a a1b la1b ca1b h R) : CallsH Tryd.prog 12 #[.slice a0a la0a ca0a, .slice a1b la1b ca1b] h R :=
  calls_of_vc (A := an12) (fn := Tryd.f12) (c := c12) (args := [.slice a0a la0a ca0a, .slice a1b la1b ca1b]) Tryd.func12 (by kernel_rfl) mixed (by kernel_rfl) (Eq.mp (by kernel_rfl : F12 a0a la0a ca0a a1b la1b ca1b h R = vcF Tryd.prog an12 Tryd.f12 c12 [.slice a0a la0a ca0a, .slice a1b la1b ca1b] h R) hF)
/-! ### 13 (refrain/refrainlaw23.places).plays -/
noncomputable def c13 : Code := match Tryd.f13.body with | some c => c | none => .skip
noncomputable def an13 : Ann := { loops := fun i => match i with | 26 => [(20, .int .i64)] | _ => [], draws := fun i => match i with | 1 => #[0, 0, 2, 6, 14, 30, 0, 64, 192, 510, 1023, 2047, 4095] | _ => #[], joins := fun i => match i with | 24 => some [(10, .bool)] | _ => none }
def F13 (a0h : Option Addr) (a1l : Option Addr) (a2r : Option Addr) (a3o_0 : Int) (a3o_1 : Int) (a3o_2 : Option Addr) (la3o_2 ca3o_2 : Nat) (a3o_3 : Int) (h : Heap) (R : KV) : Prop :=
  VNew h (.cells #[.int .i64 a3o_0, .int .i64 a3o_1, .slice a3o_2 la3o_2 ca3o_2, .int .i64 a3o_3] 41) fun b1 h2 =>
  VSome a0h fun a3 =>
  ∃ (a4 : Option Addr) (la4 ca4 : Nat), cellH h2 ⟨a3.block, a3.off + 1, none⟩ = some (.slice a4 la4 ca4) ∧
  VSlice 1 a4 ca4 0 0 (ca4 : Int) fun a5 la5 ca5 =>
  ∃ (a6 : Option Addr) (la6 ca6 : Nat), cellH h2 ⟨b1, 2, none⟩ = some (.slice a6 la6 ca6) ∧
  CallsH Tryd.prog 31 #[.slice a6 la6 ca6] h2 fun v7 h8 =>
  ∃ (a9 : Option Addr) (la9 ca9 : Nat), v7 = .slice a9 la9 ca9 ∧
  (cellH h8 ⟨a3.block, a3.off + 1, none⟩ = some (.slice a4 la4 ca4)) ∧
  RunsTo Tryd.prog (Builtin.append_ #[26, 26] 26 #[.slice a5 la5 ca5, .slice a9 la9 ca9]) h8 fun v10 h11 =>
  ∃ (a12 : Option Addr) (la12 ca12 : Nat), v10 = .slice a12 la12 ca12 ∧
  VSome a0h fun a13 =>
  VStore h11 ⟨a13.block, a13.off + 1, none⟩ (.slice a12 la12 ca12) fun h14 =>
  VSome a0h fun a15 =>
  ∃ (a16 : Option Addr) (la16 ca16 : Nat), cellH h14 ⟨a15.block, a15.off + 1, none⟩ = some (.slice a16 la16 ca16) ∧
  ∃ J17 : Heap → Bool → Prop, (∃ x18 : Int, cellH h14 ⟨b1, 0, none⟩ = some (.int .i64 x18) ∧
    cond (x18 == (1 : Int))
    (∃ (a19 : Option Addr) (la19 ca19 : Nat), cellH h14 ⟨b1, 2, none⟩ = some (.slice a19 la19 ca19) ∧
      VSlice 1 a16 ca16 0 (la19 : Int) (la16 : Int) fun a20 la20 ca20 =>
      CallsH Tryd.prog 22 #[.pointer a1l, .slice a20 la20 ca20] h14 fun v21 h22 =>
      ∃ x23 : Int, v21 = .int .i64 x23 ∧
      ∃ (a24 : Option Addr) (la24 ca24 : Nat), cellH h22 ⟨b1, 2, none⟩ = some (.slice a24 la24 ca24) ∧
      CallsH Tryd.prog 32 #[.pointer a2r, .slice a24 la24 ca24] h22 fun v25 h26 =>
      ∃ x27 : Int, v25 = .int .i64 x27 ∧
      J17 h26 (x23 == x27))
    (cond (x18 == (2 : Int))
      (∃ (a28 : Option Addr) (la28 ca28 : Nat), cellH h14 ⟨b1, 2, none⟩ = some (.slice a28 la28 ca28) ∧
        VSlice 1 a16 ca16 0 (la28 : Int) (la16 : Int) fun a29 la29 ca29 =>
        CallsH Tryd.prog 23 #[.pointer a1l, .slice a29 la29 ca29] h14 fun v30 h31 =>
        ∃ x32 : Int, v30 = .int .i64 x32 ∧
        ∃ (a33 : Option Addr) (la33 ca33 : Nat), cellH h31 ⟨b1, 2, none⟩ = some (.slice a33 la33 ca33) ∧
        CallsH Tryd.prog 33 #[.pointer a2r, .slice a33 la33 ca33] h31 fun v34 h35 =>
        ∃ x36 : Int, v34 = .int .i64 x36 ∧
        J17 h35 (x32 == x36))
      (cond (x18 == (3 : Int))
        (CallsH Tryd.prog 24 #[.pointer a1l] h14 fun v37 h38 =>
          v37 = .tuple #[] ∧
          CallsH Tryd.prog 34 #[.pointer a2r] h38 fun v39 h40 =>
          v39 = .tuple #[] ∧
          J17 h40 true)
        (cond (x18 == (4 : Int))
          (∃ x41 : Int, cellH h14 ⟨b1, 3, none⟩ = some (.int .i64 x41) ∧
            CallsH Tryd.prog 10 #[.pointer a1l, .int .i64 x41] h14 fun v42 h43 =>
            ∃ (a44 : Option Addr) (la44 ca44 : Nat), v42 = .agg #[.slice a44 la44 ca44] ∧
            VNew h43 (.cells #[.slice none 0 0] 34) fun b45 h46 =>
            VStore h46 ⟨b45, 0, none⟩ (.slice a44 la44 ca44) fun h47 =>
            ∃ x48 : Int, cellH h47 ⟨b1, 3, none⟩ = some (.int .i64 x48) ∧
            CallsH Tryd.prog 35 #[.pointer a2r, .int .i64 x48] h47 fun v49 h50 =>
            ∃ (a51 : Option Addr) (la51 ca51 : Nat), v49 = .agg #[.slice a51 la51 ca51] ∧
            VNew h50 (.cells #[.slice none 0 0] 34) fun b52 h53 =>
            VStore h53 ⟨b52, 0, none⟩ (.slice a51 la51 ca51) fun h54 =>
            ∃ (a55 : Option Addr) (la55 ca55 : Nat), cellH h54 ⟨b45, 0, none⟩ = some (.slice a55 la55 ca55) ∧
            ∃ (a56 : Option Addr) (la56 ca56 : Nat), cellH h54 ⟨b52, 0, none⟩ = some (.slice a56 la56 ca56) ∧
            CallsH Tryd.prog 12 #[.slice a55 la55 ca55, .slice a56 la56 ca56] h54 fun v57 h58 =>
            ∃ b59 : Bool, v57 = .bool b59 ∧
            J17 h58 b59)
          (cond (x18 == (5 : Int))
            (CallsH Tryd.prog 11 #[.pointer a1l] h14 fun v60 h61 =>
              ∃ x62 : Int, v60 = .int .i64 x62 ∧
              CallsH Tryd.prog 36 #[.pointer a2r] h61 fun v63 h64 =>
              ∃ x65 : Int, v63 = .int .i64 x65 ∧
              J17 h64 (x62 == x65))
            (J17 h14 true)))))) ∧
  ∀ (h66 : Heap) (g67 : Env) (ok_68 : Bool), J17 h66 ok_68 →
  ∃ (a69 : Option Addr) (la69 ca69 : Nat), cellH h66 ⟨b1, 2, none⟩ = some (.slice a69 la69 ca69) ∧
  CallsH Tryd.prog 31 #[.slice a69 la69 ca69] h66 fun v70 h71 =>
  ∃ (a72 : Option Addr) (la72 ca72 : Nat), v70 = .slice a72 la72 ca72 ∧
  CallsH Tryd.prog 30 #[.slice a16 la16 ca16, .slice a72 la72 ca72] h71 fun v73 h74 =>
  ∃ b75 : Bool, v73 = .bool b75 ∧
  ∃ I76 : Nat → Heap → Int → Prop, (∃ n77, I76 n77 h74 0) ∧
  ∀ (n77 : Nat) (h78 : Heap) (g79 : Env) (i_80 : Int), I76 n77 h78 i_80 →
  cond (decide (i_80 < (la16 : Int)))
  (VIdx a16 la16 i_80 1 fun a82 =>
    VStore h78 a82 (.int .u8 238) fun h83 =>
    ∃ m81, m81 < n77 ∧ I76 m81 h83 (IntKind.i64.wrap (i_80 + 1)))
  (cond ok_68 (R (.bool b75) h78) (R (.bool false) h78))
theorem vf13 (a0h : Option Addr) (a1l : Option Addr) (a2r : Option Addr) (a3o_0 : Int) (a3o_1 : Int) (a3o_2 : Option Addr) (la3o_2 ca3o_2 : Nat) (a3o_3 : Int) (h : Heap) (R : KV) (hF : F13 a0h a1l a2r a3o_0 a3o_1 a3o_2 la3o_2 ca3o_2 a3o_3 h R) : CallsH Tryd.prog 13 #[.pointer a0h, .pointer a1l, .pointer a2r, .agg #[.int .i64 a3o_0, .int .i64 a3o_1, .slice a3o_2 la3o_2 ca3o_2, .int .i64 a3o_3]] h R :=
  calls_of_vc (A := an13) (fn := Tryd.f13) (c := c13) (args := [.pointer a0h, .pointer a1l, .pointer a2r, .agg #[.int .i64 a3o_0, .int .i64 a3o_1, .slice a3o_2 la3o_2 ca3o_2, .int .i64 a3o_3]]) Tryd.func13 (by kernel_rfl) mixed (by kernel_rfl) (Eq.mp (by kernel_rfl : F13 a0h a1l a2r a3o_0 a3o_1 a3o_2 la3o_2 ca3o_2 a3o_3 h R = vcF Tryd.prog an13 Tryd.f13 c13 [.pointer a0h, .pointer a1l, .pointer a2r, .agg #[.int .i64 a3o_0, .int .i64 a3o_1, .slice a3o_2 la3o_2 ca3o_2, .int .i64 a3o_3]] h R) hF)
/-! ### 14 refrain/log.Open -/
noncomputable def c14 : Code := match Tryd.f14.body with | some c => c | none => .skip
noncomputable def an14 : Ann := { loops := fun i => match i with | 6 => [(2, .ptr), (3, .slc), (4, .int .i64), (6, .slc), (7, .int .u32), (32, .int .i64)] | _ => [], draws := fun i => match i with | 13 => #[0, 0, 0, 0, 0, 0, 32, 0, 128, 384, 896, 0, 2048, 17, 8209, 24593, 57459, 122995, 254067, 518135, 1042423, 2090999, 4194303, 8388607, 16777215] | _ => #[], joins := fun i => match i with | 15 => some [(2, .ptr), (3, .slc), (4, .int .i64), (6, .slc), (7, .int .u32), (8, .int .i64), (9, .slc), (10, .ptr), (11, .bool)] | _ => none }
def F14 (a0d_0 : Option Addr) (la0d_0 ca0d_0 : Nat) (h : Heap) (R : KV) : Prop :=
  VNew h (.cells #[.slice a0d_0 la0d_0 ca0d_0] 34) fun b1 h2 =>
  VNew h2 (.cells #[.slice none 0 0, .slice none 0 0, .int .i64 (-1 : Int), .int .u32 0, .int .u32 0, .int .i64 0] 81) fun b3 h4 =>
  ∃ (a5 : Option Addr) (la5 ca5 : Nat), cellH h4 ⟨b1, 0, none⟩ = some (.slice a5 la5 ca5) ∧
  VNew h4 (.cells #[.slice a5 la5 ca5] 75) fun b6 h7 =>
  CallsH Tryd.prog 37 #[.pointer (some ⟨b6, 0, none⟩)] h7 fun v8 h9 =>
  ∃ p10 : Option Addr, v8 = .pointer p10 ∧
  VSome p10 fun a11 =>
  ∃ (a12 : Option Addr) (la12 ca12 : Nat), cellH h9 a11 = some (.slice a12 la12 ca12) ∧
  VStore h9 ⟨b3, 0, none⟩ (.slice a12 la12 ca12) fun h13 =>
  ∃ (a14 : Option Addr) (la14 ca14 : Nat), cellH h13 ⟨b3, 0, none⟩ = some (.slice a14 la14 ca14) ∧
  ∃ I15 : Nat → Heap → Option Addr → Option Addr → Nat → Nat → Int → Option Addr → Nat → Nat → Int → Int → Prop, (∃ n16, I15 n16 h13 none none 0 0 0 none 0 0 0 0) ∧
  ∀ (n16 : Nat) (h17 : Heap) (g18 : Env) (y_19 : Option Addr) (y_20 : Option Addr) (ly_20 cy_20 : Nat) (y_21 : Int) (recs_22 : Option Addr) (lrecs_22 crecs_22 : Nat) (last_23 : Int) (y_24 : Int), I15 n16 h17 y_19 y_20 ly_20 cy_20 y_21 recs_22 lrecs_22 crecs_22 last_23 y_24 →
  cond (decide (y_24 < (la14 : Int)))
  (∃ J26 : Heap → Option Addr → Option Addr → Nat → Nat → Int → Option Addr → Nat → Nat → Int → Int → Option Addr → Nat → Nat → Option Addr → Bool → Prop, (VIdx a14 la14 y_24 1 fun a27 =>
      ∃ (a28 : Option Addr) (la28 ca28 : Nat), cellH h17 a27 = some (.slice a28 la28 ca28) ∧
      CallsH Tryd.prog 38 #[.slice a28 la28 ca28] h17 fun v29 h30 =>
      ∃ b31 : Bool, ∃ x32 : Int, ∃ (a33 : Option Addr) (la33 ca33 : Nat), ∃ x34 : Int, ∃ b35 : Bool, v29 = .tuple #[.agg #[.bool b31, .int .u32 x32, .slice a33 la33 ca33, .int .i64 x34], .bool b35] ∧
      VNew h30 (.cells #[.bool false, .int .u32 0, .slice none 0 0, .int .i64 0] 88) fun b36 h37 =>
      storeL ⟨b36, 0, none⟩ 0 [.bool b31, .int .u32 x32, .slice a33 la33 ca33, .int .i64 x34] h37 fun h38 =>
      cond (!b35) (R (.tuple #[.pointer none, .slice none 0 0, .int .i64 230]) h38) (∃ (a39 : Option Addr) (la39 ca39 : Nat), cellH h38 ⟨b3, 0, none⟩ = some (.slice a39 la39 ca39) ∧
        cond (decide (y_24 < (IntKind.i64.wrap ((la39 : Int) - 1)))) (∃ (a40 : Option Addr) (la40 ca40 : Nat), cellH h38 ⟨b36, 2, none⟩ = some (.slice a40 la40 ca40) ∧
          cond ((la40 : Int) == (0 : Int)) (R (.tuple #[.pointer none, .slice none 0 0, .int .i64 230]) h38) (∃ b41 : Bool, cellH h38 ⟨b36, 0, none⟩ = some (.bool b41) ∧
            cond (!b41) (cond (decide (y_24 > (0 : Int))) (∃ x42 : Int, cellH h38 ⟨b36, 1, none⟩ = some (.int .u32 x42) ∧
                cond (x42 != (IntKind.u32.wrap (last_23 + 1)))
                (R (.tuple #[.pointer none, .slice none 0 0, .int .i64 230]) h38)
                (∃ x43 : Int, cellH h38 ⟨b36, 1, none⟩ = some (.int .u32 x43) ∧
                  ∃ (a44 : Option Addr) (la44 ca44 : Nat), cellH h38 ⟨b36, 2, none⟩ = some (.slice a44 la44 ca44) ∧
                  cond (decide ((la44 : Int) > (0 : Int)))
                  (∃ x45 : Int, cellH h38 ⟨b36, 1, none⟩ = some (.int .u32 x45) ∧
                    ∃ (a46 : Option Addr) (la46 ca46 : Nat), cellH h38 ⟨b36, 2, none⟩ = some (.slice a46 la46 ca46) ∧
                    ∃ x47 : Int, cellH h38 ⟨b36, 3, none⟩ = some (.int .i64 x47) ∧
                    VStore h38 ⟨b3, 2, none⟩ (.int .i64 y_24) fun h48 =>
                    (cellH h48 ⟨b36, 3, none⟩ = some (.int .i64 x47)) ∧
                    (cellH h48 ⟨b36, 2, none⟩ = some (.slice a46 la46 ca46)) ∧
                    (cellH h48 ⟨b36, 1, none⟩ = some (.int .u32 x45)) ∧
                    VStore h48 ⟨b3, 3, none⟩ (.int .u32 x45) fun h49 =>
                    (cellH h49 ⟨b36, 3, none⟩ = some (.int .i64 x47)) ∧
                    (cellH h49 ⟨b36, 2, none⟩ = some (.slice a46 la46 ca46)) ∧
                    VStore h49 ⟨b3, 4, none⟩ (.int .u32 (IntKind.u32.wrap (la46 : Int))) fun h50 =>
                    (cellH h50 ⟨b36, 3, none⟩ = some (.int .i64 x47)) ∧
                    VStore h50 ⟨b3, 5, none⟩ (.int .i64 x47) fun h51 =>
                    ∃ (a52 : Option Addr) (la52 ca52 : Nat), cellH h51 ⟨b36, 2, none⟩ = some (.slice a52 la52 ca52) ∧
                    J26 h51 y_19 y_20 ly_20 cy_20 y_21 a52 la52 ca52 x43 y_24 a28 la28 ca28 (some ⟨b36, 0, none⟩) b35)
                  (J26 h38 y_19 y_20 ly_20 cy_20 y_21 recs_22 lrecs_22 crecs_22 x43 y_24 a28 la28 ca28 (some ⟨b36, 0, none⟩) b35))) (∃ x53 : Int, cellH h38 ⟨b36, 1, none⟩ = some (.int .u32 x53) ∧
                ∃ (a54 : Option Addr) (la54 ca54 : Nat), cellH h38 ⟨b36, 2, none⟩ = some (.slice a54 la54 ca54) ∧
                cond (decide ((la54 : Int) > (0 : Int)))
                (∃ x55 : Int, cellH h38 ⟨b36, 1, none⟩ = some (.int .u32 x55) ∧
                  ∃ (a56 : Option Addr) (la56 ca56 : Nat), cellH h38 ⟨b36, 2, none⟩ = some (.slice a56 la56 ca56) ∧
                  ∃ x57 : Int, cellH h38 ⟨b36, 3, none⟩ = some (.int .i64 x57) ∧
                  VStore h38 ⟨b3, 2, none⟩ (.int .i64 y_24) fun h58 =>
                  (cellH h58 ⟨b36, 3, none⟩ = some (.int .i64 x57)) ∧
                  (cellH h58 ⟨b36, 2, none⟩ = some (.slice a56 la56 ca56)) ∧
                  (cellH h58 ⟨b36, 1, none⟩ = some (.int .u32 x55)) ∧
                  VStore h58 ⟨b3, 3, none⟩ (.int .u32 x55) fun h59 =>
                  (cellH h59 ⟨b36, 3, none⟩ = some (.int .i64 x57)) ∧
                  (cellH h59 ⟨b36, 2, none⟩ = some (.slice a56 la56 ca56)) ∧
                  VStore h59 ⟨b3, 4, none⟩ (.int .u32 (IntKind.u32.wrap (la56 : Int))) fun h60 =>
                  (cellH h60 ⟨b36, 3, none⟩ = some (.int .i64 x57)) ∧
                  VStore h60 ⟨b3, 5, none⟩ (.int .i64 x57) fun h61 =>
                  ∃ (a62 : Option Addr) (la62 ca62 : Nat), cellH h61 ⟨b36, 2, none⟩ = some (.slice a62 la62 ca62) ∧
                  J26 h61 y_19 y_20 ly_20 cy_20 y_21 a62 la62 ca62 x53 y_24 a28 la28 ca28 (some ⟨b36, 0, none⟩) b35)
                (J26 h38 y_19 y_20 ly_20 cy_20 y_21 recs_22 lrecs_22 crecs_22 x53 y_24 a28 la28 ca28 (some ⟨b36, 0, none⟩) b35))) (∃ x63 : Int, cellH h38 ⟨b36, 1, none⟩ = some (.int .u32 x63) ∧
              ∃ (a64 : Option Addr) (la64 ca64 : Nat), cellH h38 ⟨b36, 2, none⟩ = some (.slice a64 la64 ca64) ∧
              cond (decide ((la64 : Int) > (0 : Int)))
              (∃ x65 : Int, cellH h38 ⟨b36, 1, none⟩ = some (.int .u32 x65) ∧
                ∃ (a66 : Option Addr) (la66 ca66 : Nat), cellH h38 ⟨b36, 2, none⟩ = some (.slice a66 la66 ca66) ∧
                ∃ x67 : Int, cellH h38 ⟨b36, 3, none⟩ = some (.int .i64 x67) ∧
                VStore h38 ⟨b3, 2, none⟩ (.int .i64 y_24) fun h68 =>
                (cellH h68 ⟨b36, 3, none⟩ = some (.int .i64 x67)) ∧
                (cellH h68 ⟨b36, 2, none⟩ = some (.slice a66 la66 ca66)) ∧
                (cellH h68 ⟨b36, 1, none⟩ = some (.int .u32 x65)) ∧
                VStore h68 ⟨b3, 3, none⟩ (.int .u32 x65) fun h69 =>
                (cellH h69 ⟨b36, 3, none⟩ = some (.int .i64 x67)) ∧
                (cellH h69 ⟨b36, 2, none⟩ = some (.slice a66 la66 ca66)) ∧
                VStore h69 ⟨b3, 4, none⟩ (.int .u32 (IntKind.u32.wrap (la66 : Int))) fun h70 =>
                (cellH h70 ⟨b36, 3, none⟩ = some (.int .i64 x67)) ∧
                VStore h70 ⟨b3, 5, none⟩ (.int .i64 x67) fun h71 =>
                ∃ (a72 : Option Addr) (la72 ca72 : Nat), cellH h71 ⟨b36, 2, none⟩ = some (.slice a72 la72 ca72) ∧
                J26 h71 y_19 y_20 ly_20 cy_20 y_21 a72 la72 ca72 x63 y_24 a28 la28 ca28 (some ⟨b36, 0, none⟩) b35)
              (J26 h38 y_19 y_20 ly_20 cy_20 y_21 recs_22 lrecs_22 crecs_22 x63 y_24 a28 la28 ca28 (some ⟨b36, 0, none⟩) b35)))) (∃ b73 : Bool, cellH h38 ⟨b36, 0, none⟩ = some (.bool b73) ∧
          cond (!b73) (cond (decide (y_24 > (0 : Int))) (∃ x74 : Int, cellH h38 ⟨b36, 1, none⟩ = some (.int .u32 x74) ∧
              cond (x74 != (IntKind.u32.wrap (last_23 + 1)))
              (R (.tuple #[.pointer none, .slice none 0 0, .int .i64 230]) h38)
              (∃ x75 : Int, cellH h38 ⟨b36, 1, none⟩ = some (.int .u32 x75) ∧
                ∃ (a76 : Option Addr) (la76 ca76 : Nat), cellH h38 ⟨b36, 2, none⟩ = some (.slice a76 la76 ca76) ∧
                cond (decide ((la76 : Int) > (0 : Int)))
                (∃ x77 : Int, cellH h38 ⟨b36, 1, none⟩ = some (.int .u32 x77) ∧
                  ∃ (a78 : Option Addr) (la78 ca78 : Nat), cellH h38 ⟨b36, 2, none⟩ = some (.slice a78 la78 ca78) ∧
                  ∃ x79 : Int, cellH h38 ⟨b36, 3, none⟩ = some (.int .i64 x79) ∧
                  VStore h38 ⟨b3, 2, none⟩ (.int .i64 y_24) fun h80 =>
                  (cellH h80 ⟨b36, 3, none⟩ = some (.int .i64 x79)) ∧
                  (cellH h80 ⟨b36, 2, none⟩ = some (.slice a78 la78 ca78)) ∧
                  (cellH h80 ⟨b36, 1, none⟩ = some (.int .u32 x77)) ∧
                  VStore h80 ⟨b3, 3, none⟩ (.int .u32 x77) fun h81 =>
                  (cellH h81 ⟨b36, 3, none⟩ = some (.int .i64 x79)) ∧
                  (cellH h81 ⟨b36, 2, none⟩ = some (.slice a78 la78 ca78)) ∧
                  VStore h81 ⟨b3, 4, none⟩ (.int .u32 (IntKind.u32.wrap (la78 : Int))) fun h82 =>
                  (cellH h82 ⟨b36, 3, none⟩ = some (.int .i64 x79)) ∧
                  VStore h82 ⟨b3, 5, none⟩ (.int .i64 x79) fun h83 =>
                  ∃ (a84 : Option Addr) (la84 ca84 : Nat), cellH h83 ⟨b36, 2, none⟩ = some (.slice a84 la84 ca84) ∧
                  J26 h83 y_19 y_20 ly_20 cy_20 y_21 a84 la84 ca84 x75 y_24 a28 la28 ca28 (some ⟨b36, 0, none⟩) b35)
                (J26 h38 y_19 y_20 ly_20 cy_20 y_21 recs_22 lrecs_22 crecs_22 x75 y_24 a28 la28 ca28 (some ⟨b36, 0, none⟩) b35))) (∃ x85 : Int, cellH h38 ⟨b36, 1, none⟩ = some (.int .u32 x85) ∧
              ∃ (a86 : Option Addr) (la86 ca86 : Nat), cellH h38 ⟨b36, 2, none⟩ = some (.slice a86 la86 ca86) ∧
              cond (decide ((la86 : Int) > (0 : Int)))
              (∃ x87 : Int, cellH h38 ⟨b36, 1, none⟩ = some (.int .u32 x87) ∧
                ∃ (a88 : Option Addr) (la88 ca88 : Nat), cellH h38 ⟨b36, 2, none⟩ = some (.slice a88 la88 ca88) ∧
                ∃ x89 : Int, cellH h38 ⟨b36, 3, none⟩ = some (.int .i64 x89) ∧
                VStore h38 ⟨b3, 2, none⟩ (.int .i64 y_24) fun h90 =>
                (cellH h90 ⟨b36, 3, none⟩ = some (.int .i64 x89)) ∧
                (cellH h90 ⟨b36, 2, none⟩ = some (.slice a88 la88 ca88)) ∧
                (cellH h90 ⟨b36, 1, none⟩ = some (.int .u32 x87)) ∧
                VStore h90 ⟨b3, 3, none⟩ (.int .u32 x87) fun h91 =>
                (cellH h91 ⟨b36, 3, none⟩ = some (.int .i64 x89)) ∧
                (cellH h91 ⟨b36, 2, none⟩ = some (.slice a88 la88 ca88)) ∧
                VStore h91 ⟨b3, 4, none⟩ (.int .u32 (IntKind.u32.wrap (la88 : Int))) fun h92 =>
                (cellH h92 ⟨b36, 3, none⟩ = some (.int .i64 x89)) ∧
                VStore h92 ⟨b3, 5, none⟩ (.int .i64 x89) fun h93 =>
                ∃ (a94 : Option Addr) (la94 ca94 : Nat), cellH h93 ⟨b36, 2, none⟩ = some (.slice a94 la94 ca94) ∧
                J26 h93 y_19 y_20 ly_20 cy_20 y_21 a94 la94 ca94 x85 y_24 a28 la28 ca28 (some ⟨b36, 0, none⟩) b35)
              (J26 h38 y_19 y_20 ly_20 cy_20 y_21 recs_22 lrecs_22 crecs_22 x85 y_24 a28 la28 ca28 (some ⟨b36, 0, none⟩) b35))) (∃ x95 : Int, cellH h38 ⟨b36, 1, none⟩ = some (.int .u32 x95) ∧
            ∃ (a96 : Option Addr) (la96 ca96 : Nat), cellH h38 ⟨b36, 2, none⟩ = some (.slice a96 la96 ca96) ∧
            cond (decide ((la96 : Int) > (0 : Int)))
            (∃ x97 : Int, cellH h38 ⟨b36, 1, none⟩ = some (.int .u32 x97) ∧
              ∃ (a98 : Option Addr) (la98 ca98 : Nat), cellH h38 ⟨b36, 2, none⟩ = some (.slice a98 la98 ca98) ∧
              ∃ x99 : Int, cellH h38 ⟨b36, 3, none⟩ = some (.int .i64 x99) ∧
              VStore h38 ⟨b3, 2, none⟩ (.int .i64 y_24) fun h100 =>
              (cellH h100 ⟨b36, 3, none⟩ = some (.int .i64 x99)) ∧
              (cellH h100 ⟨b36, 2, none⟩ = some (.slice a98 la98 ca98)) ∧
              (cellH h100 ⟨b36, 1, none⟩ = some (.int .u32 x97)) ∧
              VStore h100 ⟨b3, 3, none⟩ (.int .u32 x97) fun h101 =>
              (cellH h101 ⟨b36, 3, none⟩ = some (.int .i64 x99)) ∧
              (cellH h101 ⟨b36, 2, none⟩ = some (.slice a98 la98 ca98)) ∧
              VStore h101 ⟨b3, 4, none⟩ (.int .u32 (IntKind.u32.wrap (la98 : Int))) fun h102 =>
              (cellH h102 ⟨b36, 3, none⟩ = some (.int .i64 x99)) ∧
              VStore h102 ⟨b3, 5, none⟩ (.int .i64 x99) fun h103 =>
              ∃ (a104 : Option Addr) (la104 ca104 : Nat), cellH h103 ⟨b36, 2, none⟩ = some (.slice a104 la104 ca104) ∧
              J26 h103 y_19 y_20 ly_20 cy_20 y_21 a104 la104 ca104 x95 y_24 a28 la28 ca28 (some ⟨b36, 0, none⟩) b35)
            (J26 h38 y_19 y_20 ly_20 cy_20 y_21 recs_22 lrecs_22 crecs_22 x95 y_24 a28 la28 ca28 (some ⟨b36, 0, none⟩) b35))))) ∧
    ∀ (h105 : Heap) (g106 : Env) (y_107 : Option Addr) (y_108 : Option Addr) (ly_108 cy_108 : Nat) (y_109 : Int) (recs_110 : Option Addr) (lrecs_110 crecs_110 : Nat) (last_111 : Int) (i_112 : Int) (b_113 : Option Addr) (lb_113 cb_113 : Nat) (s_114 : Option Addr) (ok_115 : Bool), J26 h105 y_107 y_108 ly_108 cy_108 y_109 recs_110 lrecs_110 crecs_110 last_111 i_112 b_113 lb_113 cb_113 s_114 ok_115 →
    ∃ m25, m25 < n16 ∧ I15 m25 h105 y_107 y_108 ly_108 cy_108 y_109 recs_110 lrecs_110 crecs_110 last_111 (IntKind.i64.wrap (y_24 + 1)))
  (R (.tuple #[.pointer (some ⟨b3, 0, none⟩), .slice recs_22 lrecs_22 crecs_22, .int .i64 0]) h17)
theorem vf14 (a0d_0 : Option Addr) (la0d_0 ca0d_0 : Nat) (h : Heap) (R : KV) (hF : F14 a0d_0 la0d_0 ca0d_0 h R) : CallsH Tryd.prog 14 #[.agg #[.slice a0d_0 la0d_0 ca0d_0]] h R :=
  calls_of_vc (A := an14) (fn := Tryd.f14) (c := c14) (args := [.agg #[.slice a0d_0 la0d_0 ca0d_0]]) Tryd.func14 (by kernel_rfl) mixed (by kernel_rfl) (Eq.mp (by kernel_rfl : F14 a0d_0 la0d_0 ca0d_0 h R = vcF Tryd.prog an14 Tryd.f14 c14 [.agg #[.slice a0d_0 la0d_0 ca0d_0]] h R) hF)
/-! ### 15 (refrain/refrainlaw23.Story).step -/
noncomputable def c15 : Code := match Tryd.f15.body with | some c => c | none => .skip
noncomputable def an15 : Ann := { loops := fun i => [], draws := fun i => match i with | 7 => #[0, 1, 3, 7, 15, 31, 63, 127, 63, 319, 1023, 2047, 4095] | 10 => #[0, 0, 2, 6, 14, 0, 32, 0, 224, 480, 1022, 2047, 4095, 8191] | 11 => #[0, 1, 0, 4, 15, 0, 32, 96, 255, 511] | 16 => #[0, 1, 3, 7, 15, 31, 63, 127, 63, 319, 1023, 2047, 4095] | 17 => #[0, 0, 2, 6, 14, 0, 32, 0, 128, 480, 992, 2016, 4064, 8190, 16383, 32767, 65535] | 18 => #[0, 1, 0, 4, 12, 0, 32, 96, 252, 511, 1023] | _ => #[], joins := fun i => none }
def F15 (a0s : Option Addr) (a1l : Option Addr) (a2o_0 : Int) (a2o_1 : Int) (a2o_2 : Option Addr) (la2o_2 ca2o_2 : Nat) (a2o_3 : Int) (h : Heap) (R : KV) : Prop :=
  VNew h (.cells #[.int .i64 a2o_0, .int .i64 a2o_1, .slice a2o_2 la2o_2 ca2o_2, .int .i64 a2o_3] 41) fun b1 h2 =>
  ∃ (a3 : Option Addr) (la3 ca3 : Nat), cellH h2 ⟨b1, 2, none⟩ = some (.slice a3 la3 ca3) ∧
  CallsH Tryd.prog 39 #[.pointer a0s] h2 fun v4 h5 =>
  ∃ x6 : Int, ∃ (a7 : Option Addr) (la7 ca7 : Nat), v4 = .agg #[.int .i64 x6, .slice a7 la7 ca7] ∧
  VNew h5 (.cells #[.int .i64 0, .slice none 0 0] 50) fun b8 h9 =>
  storeL ⟨b8, 0, none⟩ 0 [.int .i64 x6, .slice a7 la7 ca7] h9 fun h10 =>
  ∃ x11 : Int, cellH h10 ⟨b1, 0, none⟩ = some (.int .i64 x11) ∧
  cond (x11 == (1 : Int))
  (∃ (a12 : Option Addr) (la12 ca12 : Nat), cellH h10 ⟨b1, 2, none⟩ = some (.slice a12 la12 ca12) ∧
    CallsH Tryd.prog 22 #[.pointer a1l, .slice a12 la12 ca12] h10 fun v13 h14 =>
    ∃ x15 : Int, v13 = .int .i64 x15 ∧
    cond (decide ((la3 : Int) > (1048576 : Int))) (cond (decide ((la3 : Int) > (1048576 : Int))) (cond (x15 == (2 : Int)) (∃ x16 : Int, cellH h14 ⟨b8, 0, none⟩ = some (.int .i64 x16) ∧
          CallsH Tryd.prog 11 #[.pointer a1l] h14 fun v17 h18 =>
          ∃ x19 : Int, v17 = .int .i64 x19 ∧
          (cellH h18 ⟨b8, 0, none⟩ = some (.int .i64 x16)) ∧
          R (.bool (x19 == x16)) h18) (R (.bool false) h14)) (R (.bool false) h14)) (cond (x15 != (0 : Int))
      (cond (decide ((la3 : Int) > (1048576 : Int))) (cond (x15 == (2 : Int)) (∃ x20 : Int, cellH h14 ⟨b8, 0, none⟩ = some (.int .i64 x20) ∧
            CallsH Tryd.prog 11 #[.pointer a1l] h14 fun v21 h22 =>
            ∃ x23 : Int, v21 = .int .i64 x23 ∧
            (cellH h22 ⟨b8, 0, none⟩ = some (.int .i64 x20)) ∧
            R (.bool (x23 == x20)) h22) (R (.bool false) h14)) (R (.bool false) h14))
      (∃ (a24 : Option Addr) (la24 ca24 : Nat), cellH h14 ⟨b8, 1, none⟩ = some (.slice a24 la24 ca24) ∧
        RunsTo Tryd.prog (Builtin.append_ #[25, 25] 25 #[.slice none 0 0, .slice a24 la24 ca24]) h14 fun v25 h26 =>
        ∃ (a27 : Option Addr) (la27 ca27 : Nat), v25 = .slice a27 la27 ca27 ∧
        ∃ (a28 : Option Addr) (la28 ca28 : Nat), cellH h26 ⟨b1, 2, none⟩ = some (.slice a28 la28 ca28) ∧
        RunsTo Tryd.prog (Builtin.append_ #[26, 26] 26 #[.slice none 0 0, .slice a28 la28 ca28]) h26 fun v29 h30 =>
        ∃ (a31 : Option Addr) (la31 ca31 : Nat), v29 = .slice a31 la31 ca31 ∧
        VNew h30 (.cells #[.slice a31 la31 ca31] 26) fun b32 h33 =>
        RunsTo Tryd.prog (Builtin.append_ #[25, 25] 25 #[.slice a27 la27 ca27, .slice (some ⟨b32, 0, none⟩) 1 1]) h33 fun v34 h35 =>
        ∃ (a36 : Option Addr) (la36 ca36 : Nat), v34 = .slice a36 la36 ca36 ∧
        VSome a0s fun a37 =>
        ∃ (a38 : Option Addr) (la38 ca38 : Nat), cellH h35 a37 = some (.slice a38 la38 ca38) ∧
        CallsH Tryd.prog 11 #[.pointer a1l] h35 fun v39 h40 =>
        ∃ x41 : Int, v39 = .int .i64 x41 ∧
        (cellH h40 a37 = some (.slice a38 la38 ca38)) ∧
        VNew h40 (.cells #[.int .i64 x41, .slice a36 la36 ca36] 50) fun b42 h43 =>
        (cellH h43 a37 = some (.slice a38 la38 ca38)) ∧
        RunsTo Tryd.prog (Builtin.append_ #[51, 51] 51 #[.slice a38 la38 ca38, .slice (some ⟨b42, 0, none⟩) 1 1]) h43 fun v44 h45 =>
        ∃ (a46 : Option Addr) (la46 ca46 : Nat), v44 = .slice a46 la46 ca46 ∧
        VSome a0s fun a47 =>
        VStore h45 a47 (.slice a46 la46 ca46) fun h48 =>
        ∃ x49 : Int, cellH h48 ⟨b8, 0, none⟩ = some (.int .i64 x49) ∧
        ∃ (a50 : Option Addr) (la50 ca50 : Nat), cellH h48 ⟨b1, 2, none⟩ = some (.slice a50 la50 ca50) ∧
        CallsH Tryd.prog 11 #[.pointer a1l] h48 fun v51 h52 =>
        ∃ x53 : Int, v51 = .int .i64 x53 ∧
        (cellH h52 ⟨b1, 2, none⟩ = some (.slice a50 la50 ca50)) ∧
        (cellH h52 ⟨b8, 0, none⟩ = some (.int .i64 x49)) ∧
        cond ((IntKind.i64.wrap ((IntKind.i64.wrap (x53 - x49)) - (la50 : Int))) == (12 : Int)) (R (.bool true) h52) (R (.bool ((IntKind.i64.wrap ((IntKind.i64.wrap (x53 - x49)) - (la50 : Int))) == (24 : Int))) h52))))
  (cond (x11 == (2 : Int))
    (∃ (a54 : Option Addr) (la54 ca54 : Nat), cellH h10 ⟨b1, 2, none⟩ = some (.slice a54 la54 ca54) ∧
      CallsH Tryd.prog 23 #[.pointer a1l, .slice a54 la54 ca54] h10 fun v55 h56 =>
      ∃ x57 : Int, v55 = .int .i64 x57 ∧
      cond (decide ((la3 : Int) > (1048576 : Int))) (cond (decide ((la3 : Int) > (1048576 : Int))) (cond (x57 == (2 : Int)) (∃ x58 : Int, cellH h56 ⟨b8, 0, none⟩ = some (.int .i64 x58) ∧
            CallsH Tryd.prog 11 #[.pointer a1l] h56 fun v59 h60 =>
            ∃ x61 : Int, v59 = .int .i64 x61 ∧
            (cellH h60 ⟨b8, 0, none⟩ = some (.int .i64 x58)) ∧
            R (.bool (x61 == x58)) h60) (R (.bool false) h56)) (R (.bool false) h56)) (cond (x57 != (0 : Int))
        (cond (decide ((la3 : Int) > (1048576 : Int))) (cond (x57 == (2 : Int)) (∃ x62 : Int, cellH h56 ⟨b8, 0, none⟩ = some (.int .i64 x62) ∧
              CallsH Tryd.prog 11 #[.pointer a1l] h56 fun v63 h64 =>
              ∃ x65 : Int, v63 = .int .i64 x65 ∧
              (cellH h64 ⟨b8, 0, none⟩ = some (.int .i64 x62)) ∧
              R (.bool (x65 == x62)) h64) (R (.bool false) h56)) (R (.bool false) h56))
        (VSome a0s fun a66 =>
          ∃ (a67 : Option Addr) (la67 ca67 : Nat), cellH h56 a66 = some (.slice a67 la67 ca67) ∧
          ∃ (a68 : Option Addr) (la68 ca68 : Nat), cellH h56 ⟨b1, 2, none⟩ = some (.slice a68 la68 ca68) ∧
          CallsH Tryd.prog 11 #[.pointer a1l] h56 fun v69 h70 =>
          ∃ x71 : Int, v69 = .int .i64 x71 ∧
          (cellH h70 ⟨b1, 2, none⟩ = some (.slice a68 la68 ca68)) ∧
          (cellH h70 a66 = some (.slice a67 la67 ca67)) ∧
          RunsTo Tryd.prog (Builtin.append_ #[26, 26] 26 #[.slice none 0 0, .slice a68 la68 ca68]) h70 fun v72 h73 =>
          ∃ (a74 : Option Addr) (la74 ca74 : Nat), v72 = .slice a74 la74 ca74 ∧
          (cellH h73 a66 = some (.slice a67 la67 ca67)) ∧
          VNew h73 (.cells #[.slice a74 la74 ca74] 26) fun b75 h76 =>
          (cellH h76 a66 = some (.slice a67 la67 ca67)) ∧
          VNew h76 (.cells #[.int .i64 x71, .slice (some ⟨b75, 0, none⟩) 1 1] 50) fun b77 h78 =>
          (cellH h78 a66 = some (.slice a67 la67 ca67)) ∧
          RunsTo Tryd.prog (Builtin.append_ #[51, 51] 51 #[.slice a67 la67 ca67, .slice (some ⟨b77, 0, none⟩) 1 1]) h78 fun v79 h80 =>
          ∃ (a81 : Option Addr) (la81 ca81 : Nat), v79 = .slice a81 la81 ca81 ∧
          VSome a0s fun a82 =>
          VStore h80 a82 (.slice a81 la81 ca81) fun h83 =>
          ∃ x84 : Int, cellH h83 ⟨b8, 0, none⟩ = some (.int .i64 x84) ∧
          ∃ (a85 : Option Addr) (la85 ca85 : Nat), cellH h83 ⟨b1, 2, none⟩ = some (.slice a85 la85 ca85) ∧
          CallsH Tryd.prog 11 #[.pointer a1l] h83 fun v86 h87 =>
          ∃ x88 : Int, v86 = .int .i64 x88 ∧
          (cellH h87 ⟨b1, 2, none⟩ = some (.slice a85 la85 ca85)) ∧
          (cellH h87 ⟨b8, 0, none⟩ = some (.int .i64 x84)) ∧
          R (.bool (x88 == (IntKind.i64.wrap ((IntKind.i64.wrap (x84 + 24)) + (la85 : Int))))) h87)))
    (cond (x11 == (3 : Int))
      (CallsH Tryd.prog 24 #[.pointer a1l] h10 fun v89 h90 =>
        v89 = .tuple #[] ∧
        ∃ (a91 : Option Addr) (la91 ca91 : Nat), cellH h90 ⟨b8, 1, none⟩ = some (.slice a91 la91 ca91) ∧
        VNew h90 (.cells #[.int .i64 0, .slice a91 la91 ca91] 50) fun b92 h93 =>
        VSome a0s fun a94 =>
        VStore h93 a94 (.slice (some ⟨b92, 0, none⟩) 1 1) fun h95 =>
        CallsH Tryd.prog 11 #[.pointer a1l] h95 fun v96 h97 =>
        ∃ x98 : Int, v96 = .int .i64 x98 ∧
        R (.bool (x98 == (0 : Int))) h97)
      (R (.bool true) h10)))
theorem vf15 (a0s : Option Addr) (a1l : Option Addr) (a2o_0 : Int) (a2o_1 : Int) (a2o_2 : Option Addr) (la2o_2 ca2o_2 : Nat) (a2o_3 : Int) (h : Heap) (R : KV) (hF : F15 a0s a1l a2o_0 a2o_1 a2o_2 la2o_2 ca2o_2 a2o_3 h R) : CallsH Tryd.prog 15 #[.pointer a0s, .pointer a1l, .agg #[.int .i64 a2o_0, .int .i64 a2o_1, .slice a2o_2 la2o_2 ca2o_2, .int .i64 a2o_3]] h R :=
  calls_of_vc (A := an15) (fn := Tryd.f15) (c := c15) (args := [.pointer a0s, .pointer a1l, .agg #[.int .i64 a2o_0, .int .i64 a2o_1, .slice a2o_2 la2o_2 ca2o_2, .int .i64 a2o_3]]) Tryd.func15 (by kernel_rfl) mixed (by kernel_rfl) (Eq.mp (by kernel_rfl : F15 a0s a1l a2o_0 a2o_1 a2o_2 la2o_2 ca2o_2 a2o_3 h R = vcF Tryd.prog an15 Tryd.f15 c15 [.pointer a0s, .pointer a1l, .agg #[.int .i64 a2o_0, .int .i64 a2o_1, .slice a2o_2 la2o_2 ca2o_2, .int .i64 a2o_3]] h R) hF)
/-! ### 16 (refrain/refrainlaw23.Story).when -/
noncomputable def c16 : Code := match Tryd.f16.body with | some c => c | none => .skip
noncomputable def an16 : Ann := { loops := fun i => match i with | 3 => [(5, .slc), (6, .int .i64)] | _ => [], draws := fun i => #[], joins := fun i => match i with | 4 => some [(5, .slc)] | _ => none }
def F16 (a0s : Option Addr) (a1keep : Int) (h : Heap) (R : KV) : Prop :=
  VSome a0s fun a1 =>
  ∃ (a2 : Option Addr) (la2 ca2 : Nat), cellH h a1 = some (.slice a2 la2 ca2) ∧
  VIdx a2 la2 0 2 fun a3 =>
  ∃ (a4 : Option Addr) (la4 ca4 : Nat), cellH h ⟨a3.block, a3.off + 1, none⟩ = some (.slice a4 la4 ca4) ∧
  ∃ I5 : Nat → Heap → Option Addr → Nat → Nat → Int → Prop, (∃ n6, I5 n6 h a4 la4 ca4 1) ∧
  ∀ (n6 : Nat) (h7 : Heap) (g8 : Env) (l_9 : Option Addr) (ll_9 cl_9 : Nat) (i_10 : Int), I5 n6 h7 l_9 ll_9 cl_9 i_10 →
  VSome a0s fun a12 =>
  ∃ (a13 : Option Addr) (la13 ca13 : Nat), cellH h7 a12 = some (.slice a13 la13 ca13) ∧
  cond (decide (i_10 < (la13 : Int)))
  (∃ J14 : Heap → Option Addr → Nat → Nat → Prop, (VSome a0s fun a15 =>
      ∃ (a16 : Option Addr) (la16 ca16 : Nat), cellH h7 a15 = some (.slice a16 la16 ca16) ∧
      VIdx a16 la16 i_10 2 fun a17 =>
      ∃ x18 : Int, cellH h7 a17 = some (.int .i64 x18) ∧
      cond (decide (x18 ≤ a1keep))
      (VSome a0s fun a19 =>
        ∃ (a20 : Option Addr) (la20 ca20 : Nat), cellH h7 a19 = some (.slice a20 la20 ca20) ∧
        VIdx a20 la20 i_10 2 fun a21 =>
        ∃ (a22 : Option Addr) (la22 ca22 : Nat), cellH h7 ⟨a21.block, a21.off + 1, none⟩ = some (.slice a22 la22 ca22) ∧
        J14 h7 a22 la22 ca22)
      (J14 h7 l_9 ll_9 cl_9)) ∧
    ∀ (h23 : Heap) (g24 : Env) (l_25 : Option Addr) (ll_25 cl_25 : Nat), J14 h23 l_25 ll_25 cl_25 →
    ∃ m11, m11 < n6 ∧ I5 m11 h23 l_25 ll_25 cl_25 (IntKind.i64.wrap (i_10 + 1)))
  (R (.slice l_9 ll_9 cl_9) h7)
theorem vf16 (a0s : Option Addr) (a1keep : Int) (h : Heap) (R : KV) (hF : F16 a0s a1keep h R) : CallsH Tryd.prog 16 #[.pointer a0s, .int .i64 a1keep] h R :=
  calls_of_vc (A := an16) (fn := Tryd.f16) (c := c16) (args := [.pointer a0s, .int .i64 a1keep]) Tryd.func16 (by kernel_rfl) mixed (by kernel_rfl) (Eq.mp (by kernel_rfl : F16 a0s a1keep h R = vcF Tryd.prog an16 Tryd.f16 c16 [.pointer a0s, .int .i64 a1keep] h R) hF)
/-! ### 17 (refrain/refrainlaw23.Story).recovers -/
noncomputable def c17 : Code := match Tryd.f17.body with | some c => c | none => .skip
noncomputable def an17 : Ann := { loops := fun i => [], draws := fun i => #[], joins := fun i => none }
def F17 (a0s : Option Addr) (a1l : Option Addr) (a2keep : Int) (h : Heap) (R : KV) : Prop :=
  CallsH Tryd.prog 10 #[.pointer a1l, .int .i64 a2keep] h fun v1 h2 =>
  ∃ (a3 : Option Addr) (la3 ca3 : Nat), v1 = .agg #[.slice a3 la3 ca3] ∧
  CallsH Tryd.prog 14 #[.agg #[.slice a3 la3 ca3]] h2 fun v4 h5 =>
  ∃ p6 : Option Addr, ∃ (a7 : Option Addr) (la7 ca7 : Nat), ∃ x8 : Int, v4 = .tuple #[.pointer p6, .slice a7 la7 ca7, .int .i64 x8] ∧
  cond (x8 == (0 : Int)) (CallsH Tryd.prog 16 #[.pointer a0s, .int .i64 a2keep] h5 fun v9 h10 =>
    ∃ (a11 : Option Addr) (la11 ca11 : Nat), v9 = .slice a11 la11 ca11 ∧
    CallsH Tryd.prog 12 #[.slice a7 la7 ca7, .slice a11 la11 ca11] h10 fun v12 h13 =>
    ∃ b14 : Bool, v12 = .bool b14 ∧
    R (.bool b14) h13) (R (.bool false) h5)
theorem vf17 (a0s : Option Addr) (a1l : Option Addr) (a2keep : Int) (h : Heap) (R : KV) (hF : F17 a0s a1l a2keep h R) : CallsH Tryd.prog 17 #[.pointer a0s, .pointer a1l, .int .i64 a2keep] h R :=
  calls_of_vc (A := an17) (fn := Tryd.f17) (c := c17) (args := [.pointer a0s, .pointer a1l, .int .i64 a2keep]) Tryd.func17 (by kernel_rfl) mixed (by kernel_rfl) (Eq.mp (by kernel_rfl : F17 a0s a1l a2keep h R = vcF Tryd.prog an17 Tryd.f17 c17 [.pointer a0s, .pointer a1l, .int .i64 a2keep] h R) hF)
/-! ### 18 refrain/refrainlaw23.synced -/
noncomputable def c18 : Code := match Tryd.f18.body with | some c => c | none => .skip
noncomputable def an18 : Ann := { loops := fun i => match i with | 9 => [(4, .slc), (5, .bool), (9, .int .i64)] | _ => [], draws := fun i => #[], joins := fun i => match i with | 8 => some [] | _ => none }
def F18 (a0recs : Option Addr) (la0recs ca0recs : Nat) (a1rolled : Bool) (h : Heap) (R : KV) : Prop :=
  CallsH Tryd.prog 14 #[.agg #[.slice none 0 0]] h fun v1 h2 =>
  ∃ p3 : Option Addr, ∃ (a4 : Option Addr) (la4 ca4 : Nat), ∃ x5 : Int, v1 = .tuple #[.pointer p3, .slice a4 la4 ca4, .int .i64 x5] ∧
  cond (x5 != (0 : Int))
  (R (.tuple #[.slice none 0 0, .bool false]) h2)
  (∃ J6 : Heap → Prop, (cond a1rolled
      (VNew h2 (.cells #[.int .u8 111, .int .u8 108, .int .u8 100] 5) fun b7 h8 =>
        RunsTo Tryd.prog (convert 26 26 (.slice (some ⟨b7, 0, none⟩) 3 3)) h8 fun v9 h10 =>
        ∃ (a11 : Option Addr) (la11 ca11 : Nat), v9 = .slice a11 la11 ca11 ∧
        CallsH Tryd.prog 22 #[.pointer p3, .slice a11 la11 ca11] h10 fun v12 h13 =>
        ∃ x14 : Int, v12 = .int .i64 x14 ∧
        VIdx a0recs la0recs 0 1 fun a15 =>
        ∃ (a16 : Option Addr) (la16 ca16 : Nat), cellH h13 a15 = some (.slice a16 la16 ca16) ∧
        CallsH Tryd.prog 23 #[.pointer p3, .slice a16 la16 ca16] h13 fun v17 h18 =>
        ∃ x19 : Int, v17 = .int .i64 x19 ∧
        J6 h18)
      (VIdx a0recs la0recs 0 1 fun a20 =>
        ∃ (a21 : Option Addr) (la21 ca21 : Nat), cellH h2 a20 = some (.slice a21 la21 ca21) ∧
        CallsH Tryd.prog 22 #[.pointer p3, .slice a21 la21 ca21] h2 fun v22 h23 =>
        ∃ x24 : Int, v22 = .int .i64 x24 ∧
        J6 h23)) ∧
    ∀ (h25 : Heap) (g26 : Env), J6 h25 →
    ∃ I27 : Nat → Heap → Option Addr → Nat → Nat → Bool → Int → Prop, (∃ n28, I27 n28 h25 none 0 0 false 1) ∧
    ∀ (n28 : Nat) (h29 : Heap) (g30 : Env) (y_31 : Option Addr) (ly_31 cy_31 : Nat) (y_32 : Bool) (i_33 : Int), I27 n28 h29 y_31 ly_31 cy_31 y_32 i_33 →
    cond (decide (i_33 < (la0recs : Int)))
    (VIdx a0recs la0recs i_33 1 fun a35 =>
      ∃ (a36 : Option Addr) (la36 ca36 : Nat), cellH h29 a35 = some (.slice a36 la36 ca36) ∧
      CallsH Tryd.prog 22 #[.pointer p3, .slice a36 la36 ca36] h29 fun v37 h38 =>
      ∃ x39 : Int, v37 = .int .i64 x39 ∧
      cond (x39 != (0 : Int))
      (R (.tuple #[.slice none 0 0, .bool false]) h38)
      (∃ m34, m34 < n28 ∧ I27 m34 h38 y_31 ly_31 cy_31 y_32 (IntKind.i64.wrap (i_33 + 1))))
    (CallsH Tryd.prog 24 #[.pointer p3] h29 fun v40 h41 =>
      v40 = .tuple #[] ∧
      CallsH Tryd.prog 10 #[.pointer p3, .int .i64 0] h41 fun v42 h43 =>
      ∃ (a44 : Option Addr) (la44 ca44 : Nat), v42 = .agg #[.slice a44 la44 ca44] ∧
      VNew h43 (.cells #[.slice none 0 0] 34) fun b45 h46 =>
      VStore h46 ⟨b45, 0, none⟩ (.slice a44 la44 ca44) fun h47 =>
      ∃ (a48 : Option Addr) (la48 ca48 : Nat), cellH h47 ⟨b45, 0, none⟩ = some (.slice a48 la48 ca48) ∧
      cond ((la48 : Int) != (1 : Int))
      (R (.tuple #[.slice none 0 0, .bool false]) h47)
      (∃ (a49 : Option Addr) (la49 ca49 : Nat), cellH h47 ⟨b45, 0, none⟩ = some (.slice a49 la49 ca49) ∧
        VIdx a49 la49 0 1 fun a50 =>
        ∃ (a51 : Option Addr) (la51 ca51 : Nat), cellH h47 a50 = some (.slice a51 la51 ca51) ∧
        R (.tuple #[.slice a51 la51 ca51, .bool true]) h47)))
theorem vf18 (a0recs : Option Addr) (la0recs ca0recs : Nat) (a1rolled : Bool) (h : Heap) (R : KV) (hF : F18 a0recs la0recs ca0recs a1rolled h R) : CallsH Tryd.prog 18 #[.slice a0recs la0recs ca0recs, .bool a1rolled] h R :=
  calls_of_vc (A := an18) (fn := Tryd.f18) (c := c18) (args := [.slice a0recs la0recs ca0recs, .bool a1rolled]) Tryd.func18 (by kernel_rfl) mixed (by kernel_rfl) (Eq.mp (by kernel_rfl : F18 a0recs la0recs ca0recs a1rolled h R = vcF Tryd.prog an18 Tryd.f18 c18 [.slice a0recs la0recs ca0recs, .bool a1rolled] h R) hF)
/-! ### 19 refrain/refrainlaw23.refused -/
noncomputable def c19 : Code := match Tryd.f19.body with | some c => c | none => .skip
noncomputable def an19 : Ann := { loops := fun i => [], draws := fun i => #[], joins := fun i => none }
def F19 (a0b : Option Addr) (la0b ca0b : Nat) (h : Heap) (R : KV) : Prop :=
  VNew h (.cells #[.slice a0b la0b ca0b] 26) fun b1 h2 =>
  CallsH Tryd.prog 14 #[.agg #[.slice (some ⟨b1, 0, none⟩) 1 1]] h2 fun v3 h4 =>
  ∃ p5 : Option Addr, ∃ (a6 : Option Addr) (la6 ca6 : Nat), ∃ x7 : Int, v3 = .tuple #[.pointer p5, .slice a6 la6 ca6, .int .i64 x7] ∧
  cond p5.isNone (cond ((la6 : Int) == (0 : Int)) (R (.bool (x7 == (230 : Int))) h4) (R (.bool false) h4)) (R (.bool false) h4)
theorem vf19 (a0b : Option Addr) (la0b ca0b : Nat) (h : Heap) (R : KV) (hF : F19 a0b la0b ca0b h R) : CallsH Tryd.prog 19 #[.slice a0b la0b ca0b] h R :=
  calls_of_vc (A := an19) (fn := Tryd.f19) (c := c19) (args := [.slice a0b la0b ca0b]) Tryd.func19 (by kernel_rfl) mixed (by kernel_rfl) (Eq.mp (by kernel_rfl : F19 a0b la0b ca0b h R = vcF Tryd.prog an19 Tryd.f19 c19 [.slice a0b la0b ca0b] h R) hF)
/-! ### 20 refrain/refrainlaw23.unwritten -/
noncomputable def c20 : Code := match Tryd.f20.body with | some c => c | none => .skip
noncomputable def an20 : Ann := { loops := fun i => match i with | 10 => [(5, .slc), (6, .slc), (13, .int .i64), (14, .int .i64)] | 24 => [(13, .int .i64), (18, .int .i64)] | 27 => [(6, .slc)] | 31 => [(4, .bool), (20, .int .i64)] | _ => [], draws := fun i => match i with | 33 => #[0, 0, 3, 7, 0, 0, 48, 112, 255, 511] | _ => #[], joins := fun i => match i with | 20 => some [] | _ => none }
def F20 (a0d_0 : Option Addr) (la0d_0 ca0d_0 : Nat) (a1script : Option Addr) (la1script ca1script : Nat) (h : Heap) (R : KV) : Prop :=
  VNew h (.cells #[.slice a0d_0 la0d_0 ca0d_0] 34) fun b1 h2 =>
  ∃ (a3 : Option Addr) (la3 ca3 : Nat), cellH h2 ⟨b1, 0, none⟩ = some (.slice a3 la3 ca3) ∧
  CallsH Tryd.prog 14 #[.agg #[.slice a3 la3 ca3]] h2 fun v4 h5 =>
  ∃ p6 : Option Addr, ∃ (a7 : Option Addr) (la7 ca7 : Nat), ∃ x8 : Int, v4 = .tuple #[.pointer p6, .slice a7 la7 ca7, .int .i64 x8] ∧
  ∃ (a9 : Option Addr) (la9 ca9 : Nat), cellH h5 ⟨b1, 0, none⟩ = some (.slice a9 la9 ca9) ∧
  CallsH Tryd.prog 14 #[.agg #[.slice a9 la9 ca9]] h5 fun v10 h11 =>
  ∃ p12 : Option Addr, ∃ (a13 : Option Addr) (la13 ca13 : Nat), ∃ x14 : Int, v10 = .tuple #[.pointer p12, .slice a13 la13 ca13, .int .i64 x14] ∧
  cond (x8 != (0 : Int)) (R (.bool false) h11) (cond (x14 != (0 : Int)) (R (.bool false) h11) (cond p6.isNone
      (R (.bool false) h11)
      (VNew h11 (.cells #[.slice a7 la7 ca7, .slice a13 la13 ca13] 25) fun b15 h16 =>
        RunsTo Tryd.prog (Builtin.append_ #[64, 64] 64 #[.slice none 0 0, .slice (some ⟨b15, 0, none⟩) 2 2]) h16 fun v17 h18 =>
        ∃ (a19 : Option Addr) (la19 ca19 : Nat), v17 = .slice a19 la19 ca19 ∧
        ∃ I20 : Nat → Heap → Option Addr → Nat → Nat → Option Addr → Nat → Nat → Int → Int → Prop, (∃ n21, I20 n21 h18 a19 la19 ca19 none 0 0 0 0) ∧
        ∀ (n21 : Nat) (h22 : Heap) (g23 : Env) (kept_24 : Option Addr) (lkept_24 ckept_24 : Nat) (were_25 : Option Addr) (lwere_25 cwere_25 : Nat) (total_26 : Int) (i_27 : Int), I20 n21 h22 kept_24 lkept_24 ckept_24 were_25 lwere_25 cwere_25 total_26 i_27 →
        cond (decide (i_27 < (la1script : Int))) (cond (decide (total_26 < (16777216 : Int)))
          (VIdx a1script la1script i_27 4 fun a29 =>
            ∃ x30 : Int, cellH h22 a29 = some (.int .i64 x30) ∧
            ∃ x31 : Int, cellH h22 ⟨a29.block, a29.off + 1, none⟩ = some (.int .i64 x31) ∧
            ∃ (a32 : Option Addr) (la32 ca32 : Nat), cellH h22 ⟨a29.block, a29.off + 2, none⟩ = some (.slice a32 la32 ca32) ∧
            ∃ x33 : Int, cellH h22 ⟨a29.block, a29.off + 3, none⟩ = some (.int .i64 x33) ∧
            VNew h22 (.cells #[.int .i64 0, .int .i64 0, .slice none 0 0, .int .i64 0] 41) fun b34 h35 =>
            storeL ⟨b34, 0, none⟩ 0 [.int .i64 x30, .int .i64 x31, .slice a32 la32 ca32, .int .i64 x33] h35 fun h36 =>
            ∃ J37 : Heap → Prop, (∃ x38 : Int, cellH h36 ⟨b34, 0, none⟩ = some (.int .i64 x38) ∧
              cond (x38 == (1 : Int))
              (∃ (a39 : Option Addr) (la39 ca39 : Nat), cellH h36 ⟨b34, 2, none⟩ = some (.slice a39 la39 ca39) ∧
                CallsH Tryd.prog 22 #[.pointer p6, .slice a39 la39 ca39] h36 fun v40 h41 =>
                ∃ x42 : Int, v40 = .int .i64 x42 ∧
                J37 h41)
              (cond (x38 == (2 : Int))
                (∃ (a43 : Option Addr) (la43 ca43 : Nat), cellH h36 ⟨b34, 2, none⟩ = some (.slice a43 la43 ca43) ∧
                  CallsH Tryd.prog 23 #[.pointer p6, .slice a43 la43 ca43] h36 fun v44 h45 =>
                  ∃ x46 : Int, v44 = .int .i64 x46 ∧
                  J37 h45)
                (cond (x38 == (3 : Int))
                  (CallsH Tryd.prog 24 #[.pointer p6] h36 fun v47 h48 =>
                    v47 = .tuple #[] ∧
                    J37 h48)
                  (J37 h36)))) ∧
            ∀ (h49 : Heap) (g50 : Env), J37 h49 →
            ∃ x51 : Int, cellH h49 ⟨b34, 3, none⟩ = some (.int .i64 x51) ∧
            CallsH Tryd.prog 10 #[.pointer p6, .int .i64 x51] h49 fun v52 h53 =>
            ∃ (a54 : Option Addr) (la54 ca54 : Nat), v52 = .agg #[.slice a54 la54 ca54] ∧
            VNew h53 (.cells #[.slice none 0 0] 34) fun b55 h56 =>
            VStore h56 ⟨b55, 0, none⟩ (.slice a54 la54 ca54) fun h57 =>
            ∃ x58 : Int, cellH h57 ⟨b34, 3, none⟩ = some (.int .i64 x58) ∧
            CallsH Tryd.prog 10 #[.pointer p6, .int .i64 x58] h57 fun v59 h60 =>
            ∃ (a61 : Option Addr) (la61 ca61 : Nat), v59 = .agg #[.slice a61 la61 ca61] ∧
            VNew h60 (.cells #[.slice none 0 0] 34) fun b62 h63 =>
            VStore h63 ⟨b62, 0, none⟩ (.slice a61 la61 ca61) fun h64 =>
            ∃ (a65 : Option Addr) (la65 ca65 : Nat), cellH h64 ⟨b55, 0, none⟩ = some (.slice a65 la65 ca65) ∧
            ∃ (a66 : Option Addr) (la66 ca66 : Nat), cellH h64 ⟨b62, 0, none⟩ = some (.slice a66 la66 ca66) ∧
            VNew h64 (.cells #[.slice a65 la65 ca65, .slice a66 la66 ca66] 25) fun b67 h68 =>
            RunsTo Tryd.prog (Builtin.append_ #[64, 64] 64 #[.slice kept_24 lkept_24 ckept_24, .slice (some ⟨b67, 0, none⟩) 2 2]) h68 fun v69 h70 =>
            ∃ (a71 : Option Addr) (la71 ca71 : Nat), v69 = .slice a71 la71 ca71 ∧
            ∃ I72 : Nat → Heap → Int → Int → Prop, (∃ n73, I72 n73 h70 total_26 0) ∧
            ∀ (n73 : Nat) (h74 : Heap) (g75 : Env) (total_76 : Int) (k_77 : Int), I72 n73 h74 total_76 k_77 →
            ∃ (a79 : Option Addr) (la79 ca79 : Nat), cellH h74 ⟨b55, 0, none⟩ = some (.slice a79 la79 ca79) ∧
            cond (decide (k_77 < (la79 : Int)))
            (∃ (a80 : Option Addr) (la80 ca80 : Nat), cellH h74 ⟨b55, 0, none⟩ = some (.slice a80 la80 ca80) ∧
              VIdx a80 la80 k_77 1 fun a81 =>
              ∃ (a82 : Option Addr) (la82 ca82 : Nat), cellH h74 a81 = some (.slice a82 la82 ca82) ∧
              ∃ m78, m78 < n73 ∧ I72 m78 h74 (IntKind.i64.wrap ((IntKind.i64.wrap (total_76 + (IntKind.i64.wrap (2 * (la82 : Int))))) + 300)) (IntKind.i64.wrap (k_77 + 1)))
            (∃ I83 : Nat → Heap → Option Addr → Nat → Nat → Prop, (∃ n84, I83 n84 h74 were_25 lwere_25 cwere_25) ∧
              ∀ (n84 : Nat) (h85 : Heap) (g86 : Env) (were_87 : Option Addr) (lwere_87 cwere_87 : Nat), I83 n84 h85 were_87 lwere_87 cwere_87 →
              cond (decide ((lwere_87 : Int) < (la71 : Int)))
              (VIdx a71 la71 (lwere_87 : Int) 1 fun a89 =>
                ∃ (a90 : Option Addr) (la90 ca90 : Nat), cellH h85 a89 = some (.slice a90 la90 ca90) ∧
                CallsH Tryd.prog 40 #[.slice a90 la90 ca90] h85 fun v91 h92 =>
                ∃ (a93 : Option Addr) (la93 ca93 : Nat), v91 = .slice a93 la93 ca93 ∧
                VNew h92 (.cells #[.slice a93 la93 ca93] 25) fun b94 h95 =>
                RunsTo Tryd.prog (Builtin.append_ #[64, 64] 64 #[.slice were_87 lwere_87 cwere_87, .slice (some ⟨b94, 0, none⟩) 1 1]) h95 fun v96 h97 =>
                ∃ (a98 : Option Addr) (la98 ca98 : Nat), v96 = .slice a98 la98 ca98 ∧
                ∃ m88, m88 < n84 ∧ I83 m88 h97 a98 la98 ca98)
              (∃ m28, m28 < n21 ∧ I20 m28 h85 a71 la71 ca71 were_87 lwere_87 cwere_87 total_76 (IntKind.i64.wrap (i_27 + 1)))))
          (VNew h22 (.cells #[.slice none 0 0, .slice none 0 0, .int .i64 0] 66) fun b99 h100 =>
            ∃ I101 : Nat → Heap → Bool → Int → Prop, (∃ n102, I101 n102 h100 false 0) ∧
            ∀ (n102 : Nat) (h103 : Heap) (g104 : Env) (y_105 : Bool) (i_106 : Int), I101 n102 h103 y_105 i_106 →
            cond (decide (i_106 < (lwere_25 : Int)))
            (VIdx kept_24 lkept_24 i_106 1 fun a108 =>
              ∃ (a109 : Option Addr) (la109 ca109 : Nat), cellH h103 a108 = some (.slice a109 la109 ca109) ∧
              VIdx were_25 lwere_25 i_106 1 fun a110 =>
              ∃ (a111 : Option Addr) (la111 ca111 : Nat), cellH h103 a110 = some (.slice a111 la111 ca111) ∧
              CallsH Tryd.prog 12 #[.slice a109 la109 ca109, .slice a111 la111 ca111] h103 fun v112 h113 =>
              ∃ b114 : Bool, v112 = .bool b114 ∧
              cond (!b114)
              (R (.bool false) h113)
              (VIdx kept_24 lkept_24 i_106 1 fun a115 =>
                ∃ (a116 : Option Addr) (la116 ca116 : Nat), cellH h113 a115 = some (.slice a116 la116 ca116) ∧
                CallsH Tryd.prog 21 #[.pointer (some ⟨b99, 0, none⟩), .slice a116 la116 ca116] h113 fun v117 h118 =>
                v117 = .tuple #[] ∧
                ∃ m107, m107 < n102 ∧ I101 m107 h118 y_105 (IntKind.i64.wrap (i_106 + 1))))
            (CallsH Tryd.prog 25 #[.pointer (some ⟨b99, 0, none⟩)] h103 fun v119 h120 =>
              ∃ b121 : Bool, v119 = .bool b121 ∧
              R (.bool b121) h120))) (VNew h22 (.cells #[.slice none 0 0, .slice none 0 0, .int .i64 0] 66) fun b122 h123 =>
          ∃ I124 : Nat → Heap → Bool → Int → Prop, (∃ n125, I124 n125 h123 false 0) ∧
          ∀ (n125 : Nat) (h126 : Heap) (g127 : Env) (y_128 : Bool) (i_129 : Int), I124 n125 h126 y_128 i_129 →
          cond (decide (i_129 < (lwere_25 : Int)))
          (VIdx kept_24 lkept_24 i_129 1 fun a131 =>
            ∃ (a132 : Option Addr) (la132 ca132 : Nat), cellH h126 a131 = some (.slice a132 la132 ca132) ∧
            VIdx were_25 lwere_25 i_129 1 fun a133 =>
            ∃ (a134 : Option Addr) (la134 ca134 : Nat), cellH h126 a133 = some (.slice a134 la134 ca134) ∧
            CallsH Tryd.prog 12 #[.slice a132 la132 ca132, .slice a134 la134 ca134] h126 fun v135 h136 =>
            ∃ b137 : Bool, v135 = .bool b137 ∧
            cond (!b137)
            (R (.bool false) h136)
            (VIdx kept_24 lkept_24 i_129 1 fun a138 =>
              ∃ (a139 : Option Addr) (la139 ca139 : Nat), cellH h136 a138 = some (.slice a139 la139 ca139) ∧
              CallsH Tryd.prog 21 #[.pointer (some ⟨b122, 0, none⟩), .slice a139 la139 ca139] h136 fun v140 h141 =>
              v140 = .tuple #[] ∧
              ∃ m130, m130 < n125 ∧ I124 m130 h141 y_128 (IntKind.i64.wrap (i_129 + 1))))
          (CallsH Tryd.prog 25 #[.pointer (some ⟨b122, 0, none⟩)] h126 fun v142 h143 =>
            ∃ b144 : Bool, v142 = .bool b144 ∧
            R (.bool b144) h143)))))
theorem vf20 (a0d_0 : Option Addr) (la0d_0 ca0d_0 : Nat) (a1script : Option Addr) (la1script ca1script : Nat) (h : Heap) (R : KV) (hF : F20 a0d_0 la0d_0 ca0d_0 a1script la1script ca1script h R) : CallsH Tryd.prog 20 #[.agg #[.slice a0d_0 la0d_0 ca0d_0], .slice a1script la1script ca1script] h R :=
  calls_of_vc (A := an20) (fn := Tryd.f20) (c := c20) (args := [.agg #[.slice a0d_0 la0d_0 ca0d_0], .slice a1script la1script ca1script]) Tryd.func20 (by kernel_rfl) mixed (by kernel_rfl) (Eq.mp (by kernel_rfl : F20 a0d_0 la0d_0 ca0d_0 a1script la1script ca1script h R = vcF Tryd.prog an20 Tryd.f20 c20 [.agg #[.slice a0d_0 la0d_0 ca0d_0], .slice a1script la1script ca1script] h R) hF)
/-! ### 21 (refrain/refrainlaw23.Book).take -/
noncomputable def c21 : Code := match Tryd.f21.body with | some c => c | none => .skip
noncomputable def an21 : Ann := { loops := fun i => match i with | 2 => [(5, .int .i64)] | 5 => [(6, .int .i64)] | 12 => [(8, .int .i64)] | 16 => [(9, .int .i64)] | 21 => [(10, .int .i64)] | 27 => [(12, .slc), (13, .int .i64)] | _ => [], draws := fun i => match i with | 7 => #[0, 0, 3, 7, 0, 0, 32, 96, 224, 480, 0, 2016, 4095, 8191] | 8 => #[0, 0, 2, 6, 14, 0, 0, 96, 224, 480, 1022, 2047, 4095, 8191] | 9 => #[0, 0, 2, 6, 14, 0, 0, 96, 224, 480, 1022, 2046, 4095, 8191, 16383] | 10 => #[0, 1, 3, 7, 15, 31, 0, 64, 192, 448, 960, 2047, 0, 4096, 12288, 28672, 61440, 131071, 262143, 524287] | 18 => #[0, 1, 3, 7, 0, 16, 0, 64, 192, 448, 0, 1984, 4032, 0, 16320, 32767, 65535] | 19 => #[0, 1, 3, 7, 0, 16, 0, 64, 192, 448, 0, 1984, 4032, 0, 16320, 32767, 65535] | 23 => #[0, 1, 3, 7, 0, 16, 0, 64, 192, 448, 0, 1984, 4032, 0, 0, 16384, 49152, 114688, 0, 507904, 1032192, 2080768, 0, 4194304, 12582912, 29360128, 0, 130023424, 264241152, 532676608, 1073725440, 2147467264, 4294967232, 8589934591, 17179869183] | _ => #[], joins := fun i => none }
def F21 (a0b : Option Addr) (a1l : Option Addr) (la1l ca1l : Nat) (h : Heap) (R : KV) : Prop :=
  VSome a0b fun a1 =>
  ∃ (a2 : Option Addr) (la2 ca2 : Nat), cellH h a1 = some (.slice a2 la2 ca2) ∧
  ∃ I3 : Nat → Heap → Int → Prop, (∃ n4, I3 n4 h 0) ∧
  ∀ (n4 : Nat) (h5 : Heap) (g6 : Env) (i_7 : Int), I3 n4 h5 i_7 →
  cond (decide (i_7 < (la1l : Int)))
  (∃ I9 : Nat → Heap → Int → Prop, (∃ n10, I9 n10 h5 0) ∧
    ∀ (n10 : Nat) (h11 : Heap) (g12 : Env) (k_13 : Int), I9 n10 h11 k_13 →
    VIdx a1l la1l i_7 1 fun a15 =>
    ∃ (a16 : Option Addr) (la16 ca16 : Nat), cellH h11 a15 = some (.slice a16 la16 ca16) ∧
    cond (decide (k_13 < (la16 : Int)))
    (VIdx a1l la1l i_7 1 fun a17 =>
      ∃ (a18 : Option Addr) (la18 ca18 : Nat), cellH h11 a17 = some (.slice a18 la18 ca18) ∧
      VSome a0b fun a19 =>
      ∃ (a20 : Option Addr) (la20 ca20 : Nat), cellH h11 a19 = some (.slice a20 la20 ca20) ∧
      CallsH Tryd.prog 41 #[.int .i64 (la20 : Int), .int .i64 k_13] h11 fun v21 h22 =>
      ∃ x23 : Int, v21 = .int .u8 x23 ∧
      (cellH h22 a17 = some (.slice a18 la18 ca18)) ∧
      VIdx a18 la18 k_13 1 fun a24 =>
      VStore h22 a24 (.int .u8 x23) fun h25 =>
      ∃ m14, m14 < n10 ∧ I9 m14 h25 (IntKind.i64.wrap (k_13 + 1)))
    (VSome a0b fun a26 =>
      ∃ (a27 : Option Addr) (la27 ca27 : Nat), cellH h11 a26 = some (.slice a27 la27 ca27) ∧
      VIdx a1l la1l i_7 1 fun a28 =>
      ∃ (a29 : Option Addr) (la29 ca29 : Nat), cellH h11 a28 = some (.slice a29 la29 ca29) ∧
      VNew h11 (.cells #[.slice a29 la29 ca29, .slice none 0 0, .slice none 0 0, .slice none 0 0] 26) fun b30 h31 =>
      (cellH h31 a26 = some (.slice a27 la27 ca27)) ∧
      RunsTo Tryd.prog (Builtin.append_ #[25, 25] 25 #[.slice a27 la27 ca27, .slice (some ⟨b30, 0, none⟩) 4 4]) h31 fun v32 h33 =>
      ∃ (a34 : Option Addr) (la34 ca34 : Nat), v32 = .slice a34 la34 ca34 ∧
      VSome a0b fun a35 =>
      VStore h33 a35 (.slice a34 la34 ca34) fun h36 =>
      VSome a0b fun a37 =>
      ∃ x38 : Int, cellH h36 ⟨a37.block, a37.off + 2, none⟩ = some (.int .i64 x38) ∧
      VIdx a1l la1l i_7 1 fun a39 =>
      ∃ (a40 : Option Addr) (la40 ca40 : Nat), cellH h36 a39 = some (.slice a40 la40 ca40) ∧
      VSome a0b fun a41 =>
      VStore h36 ⟨a41.block, a41.off + 2, none⟩ (.int .i64 (IntKind.i64.wrap ((IntKind.i64.wrap (x38 + (la40 : Int))) + 150))) fun h42 =>
      ∃ m8, m8 < n4 ∧ I3 m8 h42 (IntKind.i64.wrap (i_7 + 1))))
  (VSome a0b fun a43 =>
    ∃ (a44 : Option Addr) (la44 ca44 : Nat), cellH h5 ⟨a43.block, a43.off + 1, none⟩ = some (.slice a44 la44 ca44) ∧
    VSome a0b fun a45 =>
    ∃ (a46 : Option Addr) (la46 ca46 : Nat), cellH h5 ⟨a45.block, a45.off + 1, none⟩ = some (.slice a46 la46 ca46) ∧
    VSome a0b fun a47 =>
    ∃ (a48 : Option Addr) (la48 ca48 : Nat), cellH h5 ⟨a47.block, a47.off + 1, none⟩ = some (.slice a48 la48 ca48) ∧
    CallsH Tryd.prog 41 #[.int .i64 (la44 : Int), .int .i64 0] h5 fun v49 h50 =>
    ∃ x51 : Int, v49 = .int .u8 x51 ∧
    (cellH h50 ⟨a47.block, a47.off + 1, none⟩ = some (.slice a48 la48 ca48)) ∧
    (cellH h50 ⟨a45.block, a45.off + 1, none⟩ = some (.slice a46 la46 ca46)) ∧
    CallsH Tryd.prog 41 #[.int .i64 (la46 : Int), .int .i64 1] h50 fun v52 h53 =>
    ∃ x54 : Int, v52 = .int .u8 x54 ∧
    (cellH h53 ⟨a47.block, a47.off + 1, none⟩ = some (.slice a48 la48 ca48)) ∧
    CallsH Tryd.prog 41 #[.int .i64 (la48 : Int), .int .i64 2] h53 fun v55 h56 =>
    ∃ x57 : Int, v55 = .int .u8 x57 ∧
    VNew h56 (.cells #[.int .u8 x51, .int .u8 x54, .int .u8 x57] 5) fun b58 h59 =>
    ∃ I60 : Nat → Heap → Int → Prop, (∃ n61, I60 n61 h59 0) ∧
    ∀ (n61 : Nat) (h62 : Heap) (g63 : Env) (i_64 : Int), I60 n61 h62 i_64 →
    cond (decide (i_64 < (la1l : Int)))
    (VIdx a1l la1l i_64 1 fun a66 =>
      VStore h62 a66 (.slice (some ⟨b58, 0, none⟩) 3 3) fun h67 =>
      ∃ m65, m65 < n61 ∧ I60 m65 h67 (IntKind.i64.wrap (i_64 + 1)))
    (∃ I68 : Nat → Heap → Int → Prop, (∃ n69, I68 n69 h62 (la2 : Int)) ∧
      ∀ (n69 : Nat) (h70 : Heap) (g71 : Env) (i_72 : Int), I68 n69 h70 i_72 →
      VSome a0b fun a74 =>
      ∃ (a75 : Option Addr) (la75 ca75 : Nat), cellH h70 a74 = some (.slice a75 la75 ca75) ∧
      cond (decide (i_72 < (la75 : Int)))
      (VSome a0b fun a76 =>
        ∃ (a77 : Option Addr) (la77 ca77 : Nat), cellH h70 a76 = some (.slice a77 la77 ca77) ∧
        VSome a0b fun a78 =>
        ∃ (a79 : Option Addr) (la79 ca79 : Nat), cellH h70 a78 = some (.slice a79 la79 ca79) ∧
        VIdx a79 la79 i_72 1 fun a80 =>
        ∃ (a81 : Option Addr) (la81 ca81 : Nat), cellH h70 a80 = some (.slice a81 la81 ca81) ∧
        CallsH Tryd.prog 42 #[.slice a81 la81 ca81, .int .i64 i_72, .int .i64 1] h70 fun v82 h83 =>
        ∃ (a84 : Option Addr) (la84 ca84 : Nat), v82 = .slice a84 la84 ca84 ∧
        (cellH h83 a76 = some (.slice a77 la77 ca77)) ∧
        VIdx a77 la77 (IntKind.i64.wrap (i_72 + 1)) 1 fun a85 =>
        VStore h83 a85 (.slice a84 la84 ca84) fun h86 =>
        VSome a0b fun a87 =>
        ∃ (a88 : Option Addr) (la88 ca88 : Nat), cellH h86 a87 = some (.slice a88 la88 ca88) ∧
        VSome a0b fun a89 =>
        ∃ (a90 : Option Addr) (la90 ca90 : Nat), cellH h86 a89 = some (.slice a90 la90 ca90) ∧
        VIdx a90 la90 i_72 1 fun a91 =>
        ∃ (a92 : Option Addr) (la92 ca92 : Nat), cellH h86 a91 = some (.slice a92 la92 ca92) ∧
        CallsH Tryd.prog 42 #[.slice a92 la92 ca92, .int .i64 i_72, .int .i64 2] h86 fun v93 h94 =>
        ∃ (a95 : Option Addr) (la95 ca95 : Nat), v93 = .slice a95 la95 ca95 ∧
        (cellH h94 a87 = some (.slice a88 la88 ca88)) ∧
        VIdx a88 la88 (IntKind.i64.wrap (i_72 + 2)) 1 fun a96 =>
        VStore h94 a96 (.slice a95 la95 ca95) fun h97 =>
        ∃ m73, m73 < n69 ∧ I68 m73 h97 (IntKind.i64.wrap (i_72 + 4)))
      (∃ I98 : Nat → Heap → Int → Prop, (∃ n99, I98 n99 h70 (la2 : Int)) ∧
        ∀ (n99 : Nat) (h100 : Heap) (g101 : Env) (i_102 : Int), I98 n99 h100 i_102 →
        VSome a0b fun a104 =>
        ∃ (a105 : Option Addr) (la105 ca105 : Nat), cellH h100 a104 = some (.slice a105 la105 ca105) ∧
        cond (decide (i_102 < (la105 : Int)))
        (VSome a0b fun a106 =>
          ∃ (a107 : Option Addr) (la107 ca107 : Nat), cellH h100 a106 = some (.slice a107 la107 ca107) ∧
          VSome a0b fun a108 =>
          ∃ (a109 : Option Addr) (la109 ca109 : Nat), cellH h100 a108 = some (.slice a109 la109 ca109) ∧
          VIdx a109 la109 i_102 1 fun a110 =>
          ∃ (a111 : Option Addr) (la111 ca111 : Nat), cellH h100 a110 = some (.slice a111 la111 ca111) ∧
          VSome a0b fun a112 =>
          ∃ (a113 : Option Addr) (la113 ca113 : Nat), cellH h100 a112 = some (.slice a113 la113 ca113) ∧
          VIdx a113 la113 i_102 1 fun a114 =>
          ∃ (a115 : Option Addr) (la115 ca115 : Nat), cellH h100 a114 = some (.slice a115 la115 ca115) ∧
          VSome a0b fun a116 =>
          ∃ (a117 : Option Addr) (la117 ca117 : Nat), cellH h100 a116 = some (.slice a117 la117 ca117) ∧
          VIdx a117 la117 i_102 1 fun a118 =>
          ∃ (a119 : Option Addr) (la119 ca119 : Nat), cellH h100 a118 = some (.slice a119 la119 ca119) ∧
          CallsH Tryd.prog 43 #[.int .i64 (IntKind.i64.wrap ((ca115 : Int) - (la119 : Int)))] h100 fun v120 h121 =>
          ∃ x122 : Int, v120 = .int .i64 x122 ∧
          (cellH h121 a110 = some (.slice a111 la111 ca111)) ∧
          (cellH h121 a108 = some (.slice a109 la109 ca109)) ∧
          (cellH h121 a106 = some (.slice a107 la107 ca107)) ∧
          CallsH Tryd.prog 42 #[.slice a111 la111 ca111, .int .i64 i_102, .int .i64 x122] h121 fun v123 h124 =>
          ∃ (a125 : Option Addr) (la125 ca125 : Nat), v123 = .slice a125 la125 ca125 ∧
          (cellH h124 a106 = some (.slice a107 la107 ca107)) ∧
          VIdx a107 la107 (IntKind.i64.wrap (i_102 + 3)) 1 fun a126 =>
          VStore h124 a126 (.slice a125 la125 ca125) fun h127 =>
          ∃ m103, m103 < n99 ∧ I98 m103 h127 (IntKind.i64.wrap (i_102 + 4)))
        (VNew h100 (.cells #[.slice (some ⟨b58, 0, none⟩) 3 3] 26) fun b128 h129 =>
          RunsTo Tryd.prog (Builtin.append_ #[25, 25] 25 #[.slice a1l la1l ca1l, .slice (some ⟨b128, 0, none⟩) 1 1]) h129 fun v130 h131 =>
          ∃ (a132 : Option Addr) (la132 ca132 : Nat), v130 = .slice a132 la132 ca132 ∧
          ∃ I133 : Nat → Heap → Option Addr → Nat → Nat → Int → Prop, (∃ n134, I133 n134 h131 a1l la1l ca1l 0) ∧
          ∀ (n134 : Nat) (h135 : Heap) (g136 : Env) (g2_137 : Option Addr) (lg2_137 cg2_137 : Nat) (k_138 : Int), I133 n134 h135 g2_137 lg2_137 cg2_137 k_138 →
          CallsH Tryd.prog 43 #[.int .i64 (IntKind.i64.wrap ((ca1l : Int) - (la1l : Int)))] h135 fun v140 h141 =>
          ∃ x142 : Int, v140 = .int .i64 x142 ∧
          cond (decide (k_138 < x142))
          (VNew h141 (.cells #[.slice (some ⟨b58, 0, none⟩) 3 3] 26) fun b143 h144 =>
            RunsTo Tryd.prog (Builtin.append_ #[25, 25] 25 #[.slice g2_137 lg2_137 cg2_137, .slice (some ⟨b143, 0, none⟩) 1 1]) h144 fun v145 h146 =>
            ∃ (a147 : Option Addr) (la147 ca147 : Nat), v145 = .slice a147 la147 ca147 ∧
            ∃ m139, m139 < n134 ∧ I133 m139 h146 a147 la147 ca147 (IntKind.i64.wrap (k_138 + 1)))
          (VSome a0b fun a148 =>
            ∃ (a149 : Option Addr) (la149 ca149 : Nat), cellH h141 ⟨a148.block, a148.off + 1, none⟩ = some (.slice a149 la149 ca149) ∧
            VNew h141 (.cells #[.slice a1l la1l ca1l, .slice a132 la132 ca132, .slice g2_137 lg2_137 cg2_137, .slice none 0 0] 25) fun b150 h151 =>
            RunsTo Tryd.prog (Builtin.append_ #[64, 64] 64 #[.slice a149 la149 ca149, .slice (some ⟨b150, 0, none⟩) 4 4]) h151 fun v152 h153 =>
            ∃ (a154 : Option Addr) (la154 ca154 : Nat), v152 = .slice a154 la154 ca154 ∧
            VSome a0b fun a155 =>
            VStore h153 ⟨a155.block, a155.off + 1, none⟩ (.slice a154 la154 ca154) fun h156 =>
            R (.tuple #[]) h156)))))
theorem vf21 (a0b : Option Addr) (a1l : Option Addr) (la1l ca1l : Nat) (h : Heap) (R : KV) (hF : F21 a0b a1l la1l ca1l h R) : CallsH Tryd.prog 21 #[.pointer a0b, .slice a1l la1l ca1l] h R :=
  calls_of_vc (A := an21) (fn := Tryd.f21) (c := c21) (args := [.pointer a0b, .slice a1l la1l ca1l]) Tryd.func21 (by kernel_rfl) mixed (by kernel_rfl) (Eq.mp (by kernel_rfl : F21 a0b a1l la1l ca1l h R = vcF Tryd.prog an21 Tryd.f21 c21 [.pointer a0b, .slice a1l la1l ca1l] h R) hF)
/-! ### 22 (refrain/log.Log).Append -/
noncomputable def c22 : Code := match Tryd.f22.body with | some c => c | none => .skip
noncomputable def an22 : Ann := { loops := fun i => [], draws := fun i => match i with | 1 => #[0, 1, 3, 7, 0, 16, 48, 112, 0, 511, 1023] | 3 => #[0, 0, 2, 6, 14, 0, 32, 96, 224, 0, 1023] | _ => #[], joins := fun i => match i with | 8 => some [(4, .int .i64)] | _ => none }
def F22 (a0l : Option Addr) (a1rec : Option Addr) (la1rec ca1rec : Nat) (h : Heap) (R : KV) : Prop :=
  ∃ J1 : Heap → Int → Prop, (cond (decide ((la1rec : Int) > (1048576 : Int)))
    (R (.int .i64 2) h)
    (VSome a0l fun a2 =>
      ∃ x3 : Int, cellH h ⟨a2.block, a2.off + 2, none⟩ = some (.int .i64 x3) ∧
      cond (decide (x3 < (0 : Int)))
      (CallsH Tryd.prog 44 #[.pointer a0l, .int .i64 0, .int .u32 0, .slice a1rec la1rec ca1rec] h fun v4 h5 =>
        v4 = .tuple #[] ∧
        J1 h5 0)
      (VSome a0l fun a6 =>
        ∃ x7 : Int, cellH h ⟨a6.block, a6.off + 3, none⟩ = some (.int .u32 x7) ∧
        VSome a0l fun a8 =>
        ∃ x9 : Int, cellH h ⟨a8.block, a8.off + 4, none⟩ = some (.int .u32 x9) ∧
        CallsH Tryd.prog 45 #[.int .u32 x7, .int .u32 x9, .slice a1rec la1rec ca1rec] h fun v10 h11 =>
        ∃ (a12 : Option Addr) (la12 ca12 : Nat), v10 = .slice a12 la12 ca12 ∧
        VSome a0l fun a13 =>
        ∃ x14 : Int, cellH h11 ⟨a13.block, a13.off + 4, none⟩ = some (.int .u32 x14) ∧
        VSome a0l fun a15 =>
        VStore h11 ⟨a15.block, a15.off + 4, none⟩ (.int .u32 (IntKind.u32.wrap (x14 + 1))) fun h16 =>
        VSome a0l fun a17 =>
        ∃ x18 : Int, cellH h16 ⟨a17.block, a17.off + 2, none⟩ = some (.int .i64 x18) ∧
        VSome a0l fun a19 =>
        ∃ x20 : Int, cellH h16 ⟨a19.block, a19.off + 5, none⟩ = some (.int .i64 x20) ∧
        CallsH Tryd.prog 46 #[.pointer a0l, .int .i64 x18, .int .i64 x20, .slice a12 la12 ca12] h16 fun v21 h22 =>
        v21 = .tuple #[] ∧
        J1 h22 0))) ∧
  ∀ (h23 : Heap) (g24 : Env) (y_25 : Int), J1 h23 y_25 →
  R (.int .i64 0) h23
theorem vf22 (a0l : Option Addr) (a1rec : Option Addr) (la1rec ca1rec : Nat) (h : Heap) (R : KV) (hF : F22 a0l a1rec la1rec ca1rec h R) : CallsH Tryd.prog 22 #[.pointer a0l, .slice a1rec la1rec ca1rec] h R :=
  calls_of_vc (A := an22) (fn := Tryd.f22) (c := c22) (args := [.pointer a0l, .slice a1rec la1rec ca1rec]) Tryd.func22 (by kernel_rfl) mixed (by kernel_rfl) (Eq.mp (by kernel_rfl : F22 a0l a1rec la1rec ca1rec h R = vcF Tryd.prog an22 Tryd.f22 c22 [.pointer a0l, .slice a1rec la1rec ca1rec] h R) hF)
/-! ### 23 (refrain/log.Log).Roll -/
noncomputable def c23 : Code := match Tryd.f23.body with | some c => c | none => .skip
noncomputable def an23 : Ann := { loops := fun i => [], draws := fun i => match i with | 3 => #[0, 0, 2, 6, 14, 30, 0, 64, 192, 448, 960, 0, 4095] | _ => #[], joins := fun i => none }
def F23 (a0l : Option Addr) (a1rec : Option Addr) (la1rec ca1rec : Nat) (h : Heap) (R : KV) : Prop :=
  VSome a0l fun a1 =>
  ∃ x2 : Int, cellH h ⟨a1.block, a1.off + 2, none⟩ = some (.int .i64 x2) ∧
  cond (decide (x2 < (0 : Int))) (CallsH Tryd.prog 22 #[.pointer a0l, .slice a1rec la1rec ca1rec] h fun v3 h4 =>
    ∃ x5 : Int, v3 = .int .i64 x5 ∧
    R (.int .i64 x5) h4) (cond (decide ((la1rec : Int) > (1048576 : Int)))
    (CallsH Tryd.prog 22 #[.pointer a0l, .slice a1rec la1rec ca1rec] h fun v6 h7 =>
      ∃ x8 : Int, v6 = .int .i64 x8 ∧
      R (.int .i64 x8) h7)
    (VSome a0l fun a9 =>
      ∃ x10 : Int, cellH h ⟨a9.block, a9.off + 2, none⟩ = some (.int .i64 x10) ∧
      VSome a0l fun a11 =>
      ∃ x12 : Int, cellH h ⟨a11.block, a11.off + 3, none⟩ = some (.int .u32 x12) ∧
      CallsH Tryd.prog 44 #[.pointer a0l, .int .i64 (IntKind.i64.wrap (x10 + 1)), .int .u32 (IntKind.u32.wrap (x12 + 1)), .slice a1rec la1rec ca1rec] h fun v13 h14 =>
      v13 = .tuple #[] ∧
      R (.int .i64 0) h14))
theorem vf23 (a0l : Option Addr) (a1rec : Option Addr) (la1rec ca1rec : Nat) (h : Heap) (R : KV) (hF : F23 a0l a1rec la1rec ca1rec h R) : CallsH Tryd.prog 23 #[.pointer a0l, .slice a1rec la1rec ca1rec] h R :=
  calls_of_vc (A := an23) (fn := Tryd.f23) (c := c23) (args := [.pointer a0l, .slice a1rec la1rec ca1rec]) Tryd.func23 (by kernel_rfl) mixed (by kernel_rfl) (Eq.mp (by kernel_rfl : F23 a0l a1rec la1rec ca1rec h R = vcF Tryd.prog an23 Tryd.f23 c23 [.pointer a0l, .slice a1rec la1rec ca1rec] h R) hF)
/-! ### 24 (refrain/log.Log).Sync -/
noncomputable def c24 : Code := match Tryd.f24.body with | some c => c | none => .skip
noncomputable def an24 : Ann := { loops := fun i => [], draws := fun i => match i with | 3 => #[0, 0, 2, 6, 14, 30, 0, 64, 192, 448, 1022, 2046, 4095, 8191, 16383, 32767] | _ => #[], joins := fun i => none }
def F24 (a0l : Option Addr) (h : Heap) (R : KV) : Prop :=
  CallsH Tryd.prog 11 #[.pointer a0l] h fun v1 h2 =>
  ∃ x3 : Int, v1 = .int .i64 x3 ∧
  CallsH Tryd.prog 29 #[.pointer a0l, .int .i64 x3] h2 fun v4 h5 =>
  ∃ p6 : Option Addr, v4 = .pointer p6 ∧
  VSome p6 fun a7 =>
  ∃ (a8 : Option Addr) (la8 ca8 : Nat), cellH h5 a7 = some (.slice a8 la8 ca8) ∧
  VSome a0l fun a9 =>
  VStore h5 a9 (.slice a8 la8 ca8) fun h10 =>
  VSome a0l fun a11 =>
  VStore h10 ⟨a11.block, a11.off + 1, none⟩ (.slice none 0 0) fun h12 =>
  VSome a0l fun a13 =>
  ∃ x14 : Int, cellH h12 ⟨a13.block, a13.off + 2, none⟩ = some (.int .i64 x14) ∧
  cond (decide (x14 > (0 : Int)))
  (VSome a0l fun a15 =>
    ∃ (a16 : Option Addr) (la16 ca16 : Nat), cellH h12 a15 = some (.slice a16 la16 ca16) ∧
    VSome a0l fun a17 =>
    ∃ x18 : Int, cellH h12 ⟨a17.block, a17.off + 2, none⟩ = some (.int .i64 x18) ∧
    VSlice 1 a16 ca16 x18 (la16 : Int) (ca16 : Int) fun a19 la19 ca19 =>
    CallsH Tryd.prog 47 #[.slice a19 la19 ca19] h12 fun v20 h21 =>
    ∃ (a22 : Option Addr) (la22 ca22 : Nat), v20 = .slice a22 la22 ca22 ∧
    VSome a0l fun a23 =>
    VStore h21 a23 (.slice a22 la22 ca22) fun h24 =>
    VSome a0l fun a25 =>
    VStore h24 ⟨a25.block, a25.off + 2, none⟩ (.int .i64 0) fun h26 =>
    R (.tuple #[]) h26)
  (R (.tuple #[]) h12)
theorem vf24 (a0l : Option Addr) (h : Heap) (R : KV) (hF : F24 a0l h R) : CallsH Tryd.prog 24 #[.pointer a0l] h R :=
  calls_of_vc (A := an24) (fn := Tryd.f24) (c := c24) (args := [.pointer a0l]) Tryd.func24 (by kernel_rfl) mixed (by kernel_rfl) (Eq.mp (by kernel_rfl : F24 a0l h R = vcF Tryd.prog an24 Tryd.f24 c24 [.pointer a0l] h R) hF)
/-! ### 25 (refrain/refrainlaw23.Book).whole -/
noncomputable def c25 : Code := match Tryd.f25.body with | some c => c | none => .skip
noncomputable def an25 : Ann := { loops := fun i => match i with | 2 => [(2, .bool), (3, .int .i64)] | 5 => [(2, .bool), (4, .int .i64)] | 10 => [(2, .bool), (5, .int .i64)] | 13 => [(2, .bool), (6, .int .i64)] | _ => [], draws := fun i => match i with | 7 => #[0, 1, 3, 7, 0, 31, 63, 0, 255, 511, 0, 0, 3072, 8191] | 16 => #[0, 1, 3, 7, 15, 31, 63, 15, 143, 511, 1023, 2047, 4095, 8191, 16383, 4095, 36863, 131071, 262143, 524287, 1048575, 2097151, 4194303, 1048575, 9437183, 33554431, 67108863] | _ => #[], joins := fun i => none }
def F25 (a0b : Option Addr) (h : Heap) (R : KV) : Prop :=
  ∃ I1 : Nat → Heap → Bool → Int → Prop, (∃ n2, I1 n2 h false 0) ∧
  ∀ (n2 : Nat) (h3 : Heap) (g4 : Env) (y_5 : Bool) (i_6 : Int), I1 n2 h3 y_5 i_6 →
  VSome a0b fun a8 =>
  ∃ (a9 : Option Addr) (la9 ca9 : Nat), cellH h3 a8 = some (.slice a9 la9 ca9) ∧
  cond (decide (i_6 < (la9 : Int)))
  (∃ I10 : Nat → Heap → Bool → Int → Prop, (∃ n11, I10 n11 h3 y_5 0) ∧
    ∀ (n11 : Nat) (h12 : Heap) (g13 : Env) (y_14 : Bool) (k_15 : Int), I10 n11 h12 y_14 k_15 →
    VSome a0b fun a17 =>
    ∃ (a18 : Option Addr) (la18 ca18 : Nat), cellH h12 a17 = some (.slice a18 la18 ca18) ∧
    VIdx a18 la18 i_6 1 fun a19 =>
    ∃ (a20 : Option Addr) (la20 ca20 : Nat), cellH h12 a19 = some (.slice a20 la20 ca20) ∧
    cond (decide (k_15 < (la20 : Int)))
    (VSome a0b fun a21 =>
      ∃ (a22 : Option Addr) (la22 ca22 : Nat), cellH h12 a21 = some (.slice a22 la22 ca22) ∧
      VIdx a22 la22 i_6 1 fun a23 =>
      ∃ (a24 : Option Addr) (la24 ca24 : Nat), cellH h12 a23 = some (.slice a24 la24 ca24) ∧
      VIdx a24 la24 k_15 1 fun a25 =>
      ∃ x26 : Int, cellH h12 a25 = some (.int .u8 x26) ∧
      CallsH Tryd.prog 41 #[.int .i64 i_6, .int .i64 k_15] h12 fun v27 h28 =>
      ∃ x29 : Int, v27 = .int .u8 x29 ∧
      (cellH h28 a25 = some (.int .u8 x26)) ∧
      (cellH h28 a23 = some (.slice a24 la24 ca24)) ∧
      (cellH h28 a21 = some (.slice a22 la22 ca22)) ∧
      cond (x26 != x29)
      (R (.bool false) h28)
      (∃ m16, m16 < n11 ∧ I10 m16 h28 y_14 (IntKind.i64.wrap (k_15 + 1))))
    (∃ m7, m7 < n2 ∧ I1 m7 h12 y_14 (IntKind.i64.wrap (i_6 + 1))))
  (∃ I30 : Nat → Heap → Bool → Int → Prop, (∃ n31, I30 n31 h3 y_5 0) ∧
    ∀ (n31 : Nat) (h32 : Heap) (g33 : Env) (y_34 : Bool) (i_35 : Int), I30 n31 h32 y_34 i_35 →
    VSome a0b fun a37 =>
    ∃ (a38 : Option Addr) (la38 ca38 : Nat), cellH h32 ⟨a37.block, a37.off + 1, none⟩ = some (.slice a38 la38 ca38) ∧
    cond (decide (i_35 < (la38 : Int)))
    (∃ I39 : Nat → Heap → Bool → Int → Prop, (∃ n40, I39 n40 h32 y_34 0) ∧
      ∀ (n40 : Nat) (h41 : Heap) (g42 : Env) (y_43 : Bool) (k_44 : Int), I39 n40 h41 y_43 k_44 →
      VSome a0b fun a46 =>
      ∃ (a47 : Option Addr) (la47 ca47 : Nat), cellH h41 ⟨a46.block, a46.off + 1, none⟩ = some (.slice a47 la47 ca47) ∧
      VIdx a47 la47 i_35 1 fun a48 =>
      ∃ (a49 : Option Addr) (la49 ca49 : Nat), cellH h41 a48 = some (.slice a49 la49 ca49) ∧
      cond (decide (k_44 < (la49 : Int)))
      (VSome a0b fun a50 =>
        ∃ (a51 : Option Addr) (la51 ca51 : Nat), cellH h41 ⟨a50.block, a50.off + 1, none⟩ = some (.slice a51 la51 ca51) ∧
        VIdx a51 la51 i_35 1 fun a52 =>
        ∃ (a53 : Option Addr) (la53 ca53 : Nat), cellH h41 a52 = some (.slice a53 la53 ca53) ∧
        VIdx a53 la53 k_44 1 fun a54 =>
        ∃ (a55 : Option Addr) (la55 ca55 : Nat), cellH h41 a54 = some (.slice a55 la55 ca55) ∧
        cond ((la55 : Int) != (3 : Int)) (R (.bool false) h41) (VIdx a55 la55 0 1 fun a56 =>
          ∃ x57 : Int, cellH h41 a56 = some (.int .u8 x57) ∧
          CallsH Tryd.prog 41 #[.int .i64 i_35, .int .i64 0] h41 fun v58 h59 =>
          ∃ x60 : Int, v58 = .int .u8 x60 ∧
          (cellH h59 a56 = some (.int .u8 x57)) ∧
          cond (x57 != x60) (R (.bool false) h59) (VIdx a55 la55 1 1 fun a61 =>
            ∃ x62 : Int, cellH h59 a61 = some (.int .u8 x62) ∧
            CallsH Tryd.prog 41 #[.int .i64 i_35, .int .i64 1] h59 fun v63 h64 =>
            ∃ x65 : Int, v63 = .int .u8 x65 ∧
            (cellH h64 a61 = some (.int .u8 x62)) ∧
            cond (x62 != x65) (R (.bool false) h64) (VIdx a55 la55 2 1 fun a66 =>
              ∃ x67 : Int, cellH h64 a66 = some (.int .u8 x67) ∧
              CallsH Tryd.prog 41 #[.int .i64 i_35, .int .i64 2] h64 fun v68 h69 =>
              ∃ x70 : Int, v68 = .int .u8 x70 ∧
              (cellH h69 a66 = some (.int .u8 x67)) ∧
              cond (x67 != x70)
              (R (.bool false) h69)
              (∃ m45, m45 < n40 ∧ I39 m45 h69 y_43 (IntKind.i64.wrap (k_44 + 1)))))))
      (∃ m36, m36 < n31 ∧ I30 m36 h41 y_43 (IntKind.i64.wrap (i_35 + 1))))
    (R (.bool true) h32))
theorem vf25 (a0b : Option Addr) (h : Heap) (R : KV) (hF : F25 a0b h R) : CallsH Tryd.prog 25 #[.pointer a0b] h R :=
  calls_of_vc (A := an25) (fn := Tryd.f25) (c := c25) (args := [.pointer a0b]) Tryd.func25 (by kernel_rfl) mixed (by kernel_rfl) (Eq.mp (by kernel_rfl : F25 a0b h R = vcF Tryd.prog an25 Tryd.f25 c25 [.pointer a0b] h R) hF)
/-! ### 26 (refrain/refrainlaw23.places).twin -/
noncomputable def c26 : Code := match Tryd.f26.body with | some c => c | none => .skip
noncomputable def an26 : Ann := { loops := fun i => match i with | 4 => [(7, .slc), (8, .slc), (9, .int .i64)] | 13 => [(7, .slc), (11, .int .i64)] | _ => [], draws := fun i => match i with | 7 => #[0, 0, 2, 6, 14, 0, 32, 126, 255, 511, 1023] | 8 => #[0, 1, 3, 7, 0, 0, 32, 96, 224, 0, 992, 2016, 4064, 0, 8192, 0, 57344, 122880, 253952, 524256, 1048575, 2097151] | _ => #[], joins := fun i => match i with | 8 => some [] | _ => none }
def F26 (a0h : Option Addr) (a1d_0 : Option Addr) (la1d_0 ca1d_0 : Nat) (h : Heap) (R : KV) : Prop :=
  VNew h (.cells #[.slice a1d_0 la1d_0 ca1d_0] 34) fun b1 h2 =>
  VNew h2 (.cells #[.slice none 0 0] 34) fun b3 h4 =>
  ∃ I5 : Nat → Heap → Option Addr → Nat → Nat → Option Addr → Nat → Nat → Int → Prop, (∃ n6, I5 n6 h4 none 0 0 none 0 0 0) ∧
  ∀ (n6 : Nat) (h7 : Heap) (g8 : Env) (list_9 : Option Addr) (llist_9 clist_9 : Nat) (whole_10 : Option Addr) (lwhole_10 cwhole_10 : Nat) (i_11 : Int), I5 n6 h7 list_9 llist_9 clist_9 whole_10 lwhole_10 cwhole_10 i_11 →
  ∃ (a13 : Option Addr) (la13 ca13 : Nat), cellH h7 ⟨b1, 0, none⟩ = some (.slice a13 la13 ca13) ∧
  cond (decide (i_11 < (la13 : Int)))
  (∃ J14 : Heap → Prop, (VSome a0h fun a15 =>
      ∃ (a16 : Option Addr) (la16 ca16 : Nat), cellH h7 a15 = some (.slice a16 la16 ca16) ∧
      cond (i_11 == (la16 : Int))
      (VSome a0h fun a17 =>
        ∃ (a18 : Option Addr) (la18 ca18 : Nat), cellH h7 a17 = some (.slice a18 la18 ca18) ∧
        RunsTo Tryd.prog (Instr.makeSlice 26 (.int .i64 0) (.int .i64 5000)) h7 fun v19 h20 =>
        ∃ (a21 : Option Addr) (la21 ca21 : Nat), v19 = .slice a21 la21 ca21 ∧
        (cellH h20 a17 = some (.slice a18 la18 ca18)) ∧
        VNew h20 (.cells #[.slice a21 la21 ca21] 26) fun b22 h23 =>
        (cellH h23 a17 = some (.slice a18 la18 ca18)) ∧
        RunsTo Tryd.prog (Builtin.append_ #[25, 25] 25 #[.slice a18 la18 ca18, .slice (some ⟨b22, 0, none⟩) 1 1]) h23 fun v24 h25 =>
        ∃ (a26 : Option Addr) (la26 ca26 : Nat), v24 = .slice a26 la26 ca26 ∧
        VSome a0h fun a27 =>
        VStore h25 a27 (.slice a26 la26 ca26) fun h28 =>
        J14 h28)
      (J14 h7)) ∧
    ∀ (h29 : Heap) (g30 : Env), J14 h29 →
    VSome a0h fun a31 =>
    ∃ (a32 : Option Addr) (la32 ca32 : Nat), cellH h29 a31 = some (.slice a32 la32 ca32) ∧
    VSome a0h fun a33 =>
    ∃ (a34 : Option Addr) (la34 ca34 : Nat), cellH h29 a33 = some (.slice a34 la34 ca34) ∧
    VIdx a34 la34 i_11 1 fun a35 =>
    ∃ (a36 : Option Addr) (la36 ca36 : Nat), cellH h29 a35 = some (.slice a36 la36 ca36) ∧
    VSlice 1 a36 ca36 0 0 (ca36 : Int) fun a37 la37 ca37 =>
    ∃ (a38 : Option Addr) (la38 ca38 : Nat), cellH h29 ⟨b1, 0, none⟩ = some (.slice a38 la38 ca38) ∧
    VIdx a38 la38 i_11 1 fun a39 =>
    ∃ (a40 : Option Addr) (la40 ca40 : Nat), cellH h29 a39 = some (.slice a40 la40 ca40) ∧
    CallsH Tryd.prog 31 #[.slice a40 la40 ca40] h29 fun v41 h42 =>
    ∃ (a43 : Option Addr) (la43 ca43 : Nat), v41 = .slice a43 la43 ca43 ∧
    (cellH h42 a35 = some (.slice a36 la36 ca36)) ∧
    (cellH h42 a33 = some (.slice a34 la34 ca34)) ∧
    (cellH h42 a31 = some (.slice a32 la32 ca32)) ∧
    RunsTo Tryd.prog (Builtin.append_ #[26, 26] 26 #[.slice a37 la37 ca37, .slice a43 la43 ca43]) h42 fun v44 h45 =>
    ∃ (a46 : Option Addr) (la46 ca46 : Nat), v44 = .slice a46 la46 ca46 ∧
    (cellH h45 a31 = some (.slice a32 la32 ca32)) ∧
    VIdx a32 la32 i_11 1 fun a47 =>
    VStore h45 a47 (.slice a46 la46 ca46) fun h48 =>
    VSome a0h fun a49 =>
    ∃ (a50 : Option Addr) (la50 ca50 : Nat), cellH h48 a49 = some (.slice a50 la50 ca50) ∧
    VIdx a50 la50 i_11 1 fun a51 =>
    ∃ (a52 : Option Addr) (la52 ca52 : Nat), cellH h48 a51 = some (.slice a52 la52 ca52) ∧
    VNew h48 (.cells #[.slice a52 la52 ca52] 26) fun b53 h54 =>
    RunsTo Tryd.prog (Builtin.append_ #[25, 25] 25 #[.slice whole_10 lwhole_10 cwhole_10, .slice (some ⟨b53, 0, none⟩) 1 1]) h54 fun v55 h56 =>
    ∃ (a57 : Option Addr) (la57 ca57 : Nat), v55 = .slice a57 la57 ca57 ∧
    ∃ (a58 : Option Addr) (la58 ca58 : Nat), cellH h56 ⟨b1, 0, none⟩ = some (.slice a58 la58 ca58) ∧
    VIdx a58 la58 i_11 1 fun a59 =>
    ∃ (a60 : Option Addr) (la60 ca60 : Nat), cellH h56 a59 = some (.slice a60 la60 ca60) ∧
    VSlice 1 a52 ca52 0 (la60 : Int) (la52 : Int) fun a61 la61 ca61 =>
    VNew h56 (.cells #[.slice a61 la61 ca61] 26) fun b62 h63 =>
    RunsTo Tryd.prog (Builtin.append_ #[25, 25] 25 #[.slice list_9 llist_9 clist_9, .slice (some ⟨b62, 0, none⟩) 1 1]) h63 fun v64 h65 =>
    ∃ (a66 : Option Addr) (la66 ca66 : Nat), v64 = .slice a66 la66 ca66 ∧
    ∃ m12, m12 < n6 ∧ I5 m12 h65 a66 la66 ca66 a57 la57 ca57 (IntKind.i64.wrap (i_11 + 1)))
  (∃ I67 : Nat → Heap → Option Addr → Nat → Nat → Int → Prop, (∃ n68, I67 n68 h7 list_9 llist_9 clist_9 0) ∧
    ∀ (n68 : Nat) (h69 : Heap) (g70 : Env) (list_71 : Option Addr) (llist_71 clist_71 : Nat) (i_72 : Int), I67 n68 h69 list_71 llist_71 clist_71 i_72 →
    cond (decide (i_72 < (70 : Int)))
    (VNew h69 (.cells #[.int .u8 204] 5) fun b74 h75 =>
      VNew h75 (.cells #[.slice (some ⟨b74, 0, none⟩) 1 1] 26) fun b76 h77 =>
      RunsTo Tryd.prog (Builtin.append_ #[25, 25] 25 #[.slice list_71 llist_71 clist_71, .slice (some ⟨b76, 0, none⟩) 1 1]) h77 fun v78 h79 =>
      ∃ (a80 : Option Addr) (la80 ca80 : Nat), v78 = .slice a80 la80 ca80 ∧
      ∃ m73, m73 < n68 ∧ I67 m73 h79 a80 la80 ca80 (IntKind.i64.wrap (i_72 + 1)))
    (∃ (a81 : Option Addr) (la81 ca81 : Nat), cellH h69 ⟨b1, 0, none⟩ = some (.slice a81 la81 ca81) ∧
      VSlice 1 list_71 clist_71 0 (la81 : Int) (llist_71 : Int) fun a82 la82 ca82 =>
      VStore h69 ⟨b3, 0, none⟩ (.slice a82 la82 ca82) fun h83 =>
      ∃ (a84 : Option Addr) (la84 ca84 : Nat), cellH h83 ⟨b3, 0, none⟩ = some (.slice a84 la84 ca84) ∧
      R (.tuple #[.agg #[.slice a84 la84 ca84], .slice list_71 llist_71 clist_71, .slice whole_10 lwhole_10 cwhole_10]) h83))
theorem vf26 (a0h : Option Addr) (a1d_0 : Option Addr) (la1d_0 ca1d_0 : Nat) (h : Heap) (R : KV) (hF : F26 a0h a1d_0 la1d_0 ca1d_0 h R) : CallsH Tryd.prog 26 #[.pointer a0h, .agg #[.slice a1d_0 la1d_0 ca1d_0]] h R :=
  calls_of_vc (A := an26) (fn := Tryd.f26) (c := c26) (args := [.pointer a0h, .agg #[.slice a1d_0 la1d_0 ca1d_0]]) Tryd.func26 (by kernel_rfl) mixed (by kernel_rfl) (Eq.mp (by kernel_rfl : F26 a0h a1d_0 la1d_0 ca1d_0 h R = vcF Tryd.prog an26 Tryd.f26 c26 [.pointer a0h, .agg #[.slice a1d_0 la1d_0 ca1d_0]] h R) hF)
/-! ### 27 refrain/refrainref23.Open -/
noncomputable def c27 : Code := match Tryd.f27.body with | some c => c | none => .skip
noncomputable def an27 : Ann := { loops := fun i => match i with | 5 => [(2, .ptr), (3, .slc), (4, .int .i64), (6, .slc), (8, .int .i64)] | _ => [], draws := fun i => #[], joins := fun i => match i with | 6 => some [(2, .ptr), (3, .slc), (4, .int .i64), (6, .slc), (9, .ptr), (10, .bool), (11, .bool)] | 18 => some [(6, .slc)] | _ => none }
def F27 (a0d_0 : Option Addr) (la0d_0 ca0d_0 : Nat) (h : Heap) (R : KV) : Prop :=
  VNew h (.cells #[.slice a0d_0 la0d_0 ca0d_0] 34) fun b1 h2 =>
  ∃ (a3 : Option Addr) (la3 ca3 : Nat), cellH h2 ⟨b1, 0, none⟩ = some (.slice a3 la3 ca3) ∧
  CallsH Tryd.prog 48 #[.slice a3 la3 ca3] h2 fun v4 h5 =>
  ∃ (a6 : Option Addr) (la6 ca6 : Nat), v4 = .slice a6 la6 ca6 ∧
  VNew h5 (.cells #[.slice a6 la6 ca6, .slice none 0 0, .int .i64 (-1 : Int), .int .u32 0, .int .u32 0, .int .i64 0] 101) fun b7 h8 =>
  VNew h8 (.cells #[.bool false, .bool false, .int .u32 0, .slice none 0 0, .int .i64 0] 103) fun b9 h10 =>
  ∃ I11 : Nat → Heap → Option Addr → Option Addr → Nat → Nat → Int → Option Addr → Nat → Nat → Int → Prop, (∃ n12, I11 n12 h10 none none 0 0 0 none 0 0 0) ∧
  ∀ (n12 : Nat) (h13 : Heap) (g14 : Env) (y_15 : Option Addr) (y_16 : Option Addr) (ly_16 cy_16 : Nat) (y_17 : Int) (recs_18 : Option Addr) (lrecs_18 crecs_18 : Nat) (i_19 : Int), I11 n12 h13 y_15 y_16 ly_16 cy_16 y_17 recs_18 lrecs_18 crecs_18 i_19 →
  ∃ (a21 : Option Addr) (la21 ca21 : Nat), cellH h13 ⟨b1, 0, none⟩ = some (.slice a21 la21 ca21) ∧
  cond (decide (i_19 < (la21 : Int)))
  (∃ J22 : Heap → Option Addr → Option Addr → Nat → Nat → Int → Option Addr → Nat → Nat → Option Addr → Bool → Bool → Prop, (∃ (a23 : Option Addr) (la23 ca23 : Nat), cellH h13 ⟨b1, 0, none⟩ = some (.slice a23 la23 ca23) ∧
      VIdx a23 la23 i_19 1 fun a24 =>
      ∃ (a25 : Option Addr) (la25 ca25 : Nat), cellH h13 a24 = some (.slice a25 la25 ca25) ∧
      CallsH Tryd.prog 49 #[.slice a25 la25 ca25] h13 fun v26 h27 =>
      ∃ b28 : Bool, ∃ b29 : Bool, ∃ x30 : Int, ∃ (a31 : Option Addr) (la31 ca31 : Nat), ∃ x32 : Int, v26 = .agg #[.bool b28, .bool b29, .int .u32 x30, .slice a31 la31 ca31, .int .i64 x32] ∧
      VNew h27 (.cells #[.bool false, .bool false, .int .u32 0, .slice none 0 0, .int .i64 0] 103) fun b33 h34 =>
      storeL ⟨b33, 0, none⟩ 0 [.bool b28, .bool b29, .int .u32 x30, .slice a31 la31 ca31, .int .i64 x32] h34 fun h35 =>
      ∃ (a36 : Option Addr) (la36 ca36 : Nat), cellH h35 ⟨b1, 0, none⟩ = some (.slice a36 la36 ca36) ∧
      ∃ (a37 : Option Addr) (la37 ca37 : Nat), cellH h35 ⟨b33, 3, none⟩ = some (.slice a37 la37 ca37) ∧
      ∃ b38 : Bool, cellH h35 ⟨b33, 1, none⟩ = some (.bool b38) ∧
      cond b38 (R (.tuple #[.pointer none, .slice none 0 0, .int .i64 230]) h35) (cond (!(i_19 == (IntKind.i64.wrap ((la36 : Int) - 1)))) (cond (!(decide ((la37 : Int) > (0 : Int)))) (R (.tuple #[.pointer none, .slice none 0 0, .int .i64 230]) h35) (cond (decide (i_19 > (0 : Int))) (∃ b39 : Bool, cellH h35 ⟨b33, 0, none⟩ = some (.bool b39) ∧
              cond (!b39) (∃ x40 : Int, cellH h35 ⟨b33, 2, none⟩ = some (.int .u32 x40) ∧
                ∃ x41 : Int, cellH h35 ⟨b9, 2, none⟩ = some (.int .u32 x41) ∧
                cond (x40 != (IntKind.u32.wrap (x41 + 1)))
                (R (.tuple #[.pointer none, .slice none 0 0, .int .i64 230]) h35)
                (∃ J42 : Heap → Option Addr → Nat → Nat → Prop, (cond (decide ((la37 : Int) > (0 : Int)))
                    (VStore h35 ⟨b7, 2, none⟩ (.int .i64 i_19) fun h43 =>
                      ∃ x44 : Int, cellH h43 ⟨b33, 2, none⟩ = some (.int .u32 x44) ∧
                      VStore h43 ⟨b7, 3, none⟩ (.int .u32 x44) fun h45 =>
                      ∃ (a46 : Option Addr) (la46 ca46 : Nat), cellH h45 ⟨b33, 3, none⟩ = some (.slice a46 la46 ca46) ∧
                      VStore h45 ⟨b7, 4, none⟩ (.int .u32 (IntKind.u32.wrap (la46 : Int))) fun h47 =>
                      ∃ x48 : Int, cellH h47 ⟨b33, 4, none⟩ = some (.int .i64 x48) ∧
                      VStore h47 ⟨b7, 5, none⟩ (.int .i64 x48) fun h49 =>
                      ∃ (a50 : Option Addr) (la50 ca50 : Nat), cellH h49 ⟨b33, 3, none⟩ = some (.slice a50 la50 ca50) ∧
                      J42 h49 a50 la50 ca50)
                    (J42 h35 recs_18 lrecs_18 crecs_18)) ∧
                  ∀ (h51 : Heap) (g52 : Env) (recs_53 : Option Addr) (lrecs_53 crecs_53 : Nat), J42 h51 recs_53 lrecs_53 crecs_53 →
                  ∃ b54 : Bool, cellH h51 ⟨b33, 0, none⟩ = some (.bool b54) ∧
                  ∃ b55 : Bool, cellH h51 ⟨b33, 1, none⟩ = some (.bool b55) ∧
                  ∃ x56 : Int, cellH h51 ⟨b33, 2, none⟩ = some (.int .u32 x56) ∧
                  ∃ (a57 : Option Addr) (la57 ca57 : Nat), cellH h51 ⟨b33, 3, none⟩ = some (.slice a57 la57 ca57) ∧
                  ∃ x58 : Int, cellH h51 ⟨b33, 4, none⟩ = some (.int .i64 x58) ∧
                  storeL ⟨b9, 0, none⟩ 0 [.bool b54, .bool b55, .int .u32 x56, .slice a57 la57 ca57, .int .i64 x58] h51 fun h59 =>
                  J22 h59 y_15 y_16 ly_16 cy_16 y_17 recs_53 lrecs_53 crecs_53 (some ⟨b33, 0, none⟩) (i_19 == (IntKind.i64.wrap ((la36 : Int) - 1))) (decide ((la37 : Int) > (0 : Int))))) (∃ J60 : Heap → Option Addr → Nat → Nat → Prop, (cond (decide ((la37 : Int) > (0 : Int)))
                  (VStore h35 ⟨b7, 2, none⟩ (.int .i64 i_19) fun h61 =>
                    ∃ x62 : Int, cellH h61 ⟨b33, 2, none⟩ = some (.int .u32 x62) ∧
                    VStore h61 ⟨b7, 3, none⟩ (.int .u32 x62) fun h63 =>
                    ∃ (a64 : Option Addr) (la64 ca64 : Nat), cellH h63 ⟨b33, 3, none⟩ = some (.slice a64 la64 ca64) ∧
                    VStore h63 ⟨b7, 4, none⟩ (.int .u32 (IntKind.u32.wrap (la64 : Int))) fun h65 =>
                    ∃ x66 : Int, cellH h65 ⟨b33, 4, none⟩ = some (.int .i64 x66) ∧
                    VStore h65 ⟨b7, 5, none⟩ (.int .i64 x66) fun h67 =>
                    ∃ (a68 : Option Addr) (la68 ca68 : Nat), cellH h67 ⟨b33, 3, none⟩ = some (.slice a68 la68 ca68) ∧
                    J60 h67 a68 la68 ca68)
                  (J60 h35 recs_18 lrecs_18 crecs_18)) ∧
                ∀ (h69 : Heap) (g70 : Env) (recs_71 : Option Addr) (lrecs_71 crecs_71 : Nat), J60 h69 recs_71 lrecs_71 crecs_71 →
                ∃ b72 : Bool, cellH h69 ⟨b33, 0, none⟩ = some (.bool b72) ∧
                ∃ b73 : Bool, cellH h69 ⟨b33, 1, none⟩ = some (.bool b73) ∧
                ∃ x74 : Int, cellH h69 ⟨b33, 2, none⟩ = some (.int .u32 x74) ∧
                ∃ (a75 : Option Addr) (la75 ca75 : Nat), cellH h69 ⟨b33, 3, none⟩ = some (.slice a75 la75 ca75) ∧
                ∃ x76 : Int, cellH h69 ⟨b33, 4, none⟩ = some (.int .i64 x76) ∧
                storeL ⟨b9, 0, none⟩ 0 [.bool b72, .bool b73, .int .u32 x74, .slice a75 la75 ca75, .int .i64 x76] h69 fun h77 =>
                J22 h77 y_15 y_16 ly_16 cy_16 y_17 recs_71 lrecs_71 crecs_71 (some ⟨b33, 0, none⟩) (i_19 == (IntKind.i64.wrap ((la36 : Int) - 1))) (decide ((la37 : Int) > (0 : Int))))) (∃ J78 : Heap → Option Addr → Nat → Nat → Prop, (cond (decide ((la37 : Int) > (0 : Int)))
                (VStore h35 ⟨b7, 2, none⟩ (.int .i64 i_19) fun h79 =>
                  ∃ x80 : Int, cellH h79 ⟨b33, 2, none⟩ = some (.int .u32 x80) ∧
                  VStore h79 ⟨b7, 3, none⟩ (.int .u32 x80) fun h81 =>
                  ∃ (a82 : Option Addr) (la82 ca82 : Nat), cellH h81 ⟨b33, 3, none⟩ = some (.slice a82 la82 ca82) ∧
                  VStore h81 ⟨b7, 4, none⟩ (.int .u32 (IntKind.u32.wrap (la82 : Int))) fun h83 =>
                  ∃ x84 : Int, cellH h83 ⟨b33, 4, none⟩ = some (.int .i64 x84) ∧
                  VStore h83 ⟨b7, 5, none⟩ (.int .i64 x84) fun h85 =>
                  ∃ (a86 : Option Addr) (la86 ca86 : Nat), cellH h85 ⟨b33, 3, none⟩ = some (.slice a86 la86 ca86) ∧
                  J78 h85 a86 la86 ca86)
                (J78 h35 recs_18 lrecs_18 crecs_18)) ∧
              ∀ (h87 : Heap) (g88 : Env) (recs_89 : Option Addr) (lrecs_89 crecs_89 : Nat), J78 h87 recs_89 lrecs_89 crecs_89 →
              ∃ b90 : Bool, cellH h87 ⟨b33, 0, none⟩ = some (.bool b90) ∧
              ∃ b91 : Bool, cellH h87 ⟨b33, 1, none⟩ = some (.bool b91) ∧
              ∃ x92 : Int, cellH h87 ⟨b33, 2, none⟩ = some (.int .u32 x92) ∧
              ∃ (a93 : Option Addr) (la93 ca93 : Nat), cellH h87 ⟨b33, 3, none⟩ = some (.slice a93 la93 ca93) ∧
              ∃ x94 : Int, cellH h87 ⟨b33, 4, none⟩ = some (.int .i64 x94) ∧
              storeL ⟨b9, 0, none⟩ 0 [.bool b90, .bool b91, .int .u32 x92, .slice a93 la93 ca93, .int .i64 x94] h87 fun h95 =>
              J22 h95 y_15 y_16 ly_16 cy_16 y_17 recs_89 lrecs_89 crecs_89 (some ⟨b33, 0, none⟩) (i_19 == (IntKind.i64.wrap ((la36 : Int) - 1))) (decide ((la37 : Int) > (0 : Int)))))) (cond (decide (i_19 > (0 : Int))) (∃ b96 : Bool, cellH h35 ⟨b33, 0, none⟩ = some (.bool b96) ∧
            cond (!b96) (∃ x97 : Int, cellH h35 ⟨b33, 2, none⟩ = some (.int .u32 x97) ∧
              ∃ x98 : Int, cellH h35 ⟨b9, 2, none⟩ = some (.int .u32 x98) ∧
              cond (x97 != (IntKind.u32.wrap (x98 + 1)))
              (R (.tuple #[.pointer none, .slice none 0 0, .int .i64 230]) h35)
              (∃ J99 : Heap → Option Addr → Nat → Nat → Prop, (cond (decide ((la37 : Int) > (0 : Int)))
                  (VStore h35 ⟨b7, 2, none⟩ (.int .i64 i_19) fun h100 =>
                    ∃ x101 : Int, cellH h100 ⟨b33, 2, none⟩ = some (.int .u32 x101) ∧
                    VStore h100 ⟨b7, 3, none⟩ (.int .u32 x101) fun h102 =>
                    ∃ (a103 : Option Addr) (la103 ca103 : Nat), cellH h102 ⟨b33, 3, none⟩ = some (.slice a103 la103 ca103) ∧
                    VStore h102 ⟨b7, 4, none⟩ (.int .u32 (IntKind.u32.wrap (la103 : Int))) fun h104 =>
                    ∃ x105 : Int, cellH h104 ⟨b33, 4, none⟩ = some (.int .i64 x105) ∧
                    VStore h104 ⟨b7, 5, none⟩ (.int .i64 x105) fun h106 =>
                    ∃ (a107 : Option Addr) (la107 ca107 : Nat), cellH h106 ⟨b33, 3, none⟩ = some (.slice a107 la107 ca107) ∧
                    J99 h106 a107 la107 ca107)
                  (J99 h35 recs_18 lrecs_18 crecs_18)) ∧
                ∀ (h108 : Heap) (g109 : Env) (recs_110 : Option Addr) (lrecs_110 crecs_110 : Nat), J99 h108 recs_110 lrecs_110 crecs_110 →
                ∃ b111 : Bool, cellH h108 ⟨b33, 0, none⟩ = some (.bool b111) ∧
                ∃ b112 : Bool, cellH h108 ⟨b33, 1, none⟩ = some (.bool b112) ∧
                ∃ x113 : Int, cellH h108 ⟨b33, 2, none⟩ = some (.int .u32 x113) ∧
                ∃ (a114 : Option Addr) (la114 ca114 : Nat), cellH h108 ⟨b33, 3, none⟩ = some (.slice a114 la114 ca114) ∧
                ∃ x115 : Int, cellH h108 ⟨b33, 4, none⟩ = some (.int .i64 x115) ∧
                storeL ⟨b9, 0, none⟩ 0 [.bool b111, .bool b112, .int .u32 x113, .slice a114 la114 ca114, .int .i64 x115] h108 fun h116 =>
                J22 h116 y_15 y_16 ly_16 cy_16 y_17 recs_110 lrecs_110 crecs_110 (some ⟨b33, 0, none⟩) (i_19 == (IntKind.i64.wrap ((la36 : Int) - 1))) (decide ((la37 : Int) > (0 : Int))))) (∃ J117 : Heap → Option Addr → Nat → Nat → Prop, (cond (decide ((la37 : Int) > (0 : Int)))
                (VStore h35 ⟨b7, 2, none⟩ (.int .i64 i_19) fun h118 =>
                  ∃ x119 : Int, cellH h118 ⟨b33, 2, none⟩ = some (.int .u32 x119) ∧
                  VStore h118 ⟨b7, 3, none⟩ (.int .u32 x119) fun h120 =>
                  ∃ (a121 : Option Addr) (la121 ca121 : Nat), cellH h120 ⟨b33, 3, none⟩ = some (.slice a121 la121 ca121) ∧
                  VStore h120 ⟨b7, 4, none⟩ (.int .u32 (IntKind.u32.wrap (la121 : Int))) fun h122 =>
                  ∃ x123 : Int, cellH h122 ⟨b33, 4, none⟩ = some (.int .i64 x123) ∧
                  VStore h122 ⟨b7, 5, none⟩ (.int .i64 x123) fun h124 =>
                  ∃ (a125 : Option Addr) (la125 ca125 : Nat), cellH h124 ⟨b33, 3, none⟩ = some (.slice a125 la125 ca125) ∧
                  J117 h124 a125 la125 ca125)
                (J117 h35 recs_18 lrecs_18 crecs_18)) ∧
              ∀ (h126 : Heap) (g127 : Env) (recs_128 : Option Addr) (lrecs_128 crecs_128 : Nat), J117 h126 recs_128 lrecs_128 crecs_128 →
              ∃ b129 : Bool, cellH h126 ⟨b33, 0, none⟩ = some (.bool b129) ∧
              ∃ b130 : Bool, cellH h126 ⟨b33, 1, none⟩ = some (.bool b130) ∧
              ∃ x131 : Int, cellH h126 ⟨b33, 2, none⟩ = some (.int .u32 x131) ∧
              ∃ (a132 : Option Addr) (la132 ca132 : Nat), cellH h126 ⟨b33, 3, none⟩ = some (.slice a132 la132 ca132) ∧
              ∃ x133 : Int, cellH h126 ⟨b33, 4, none⟩ = some (.int .i64 x133) ∧
              storeL ⟨b9, 0, none⟩ 0 [.bool b129, .bool b130, .int .u32 x131, .slice a132 la132 ca132, .int .i64 x133] h126 fun h134 =>
              J22 h134 y_15 y_16 ly_16 cy_16 y_17 recs_128 lrecs_128 crecs_128 (some ⟨b33, 0, none⟩) (i_19 == (IntKind.i64.wrap ((la36 : Int) - 1))) (decide ((la37 : Int) > (0 : Int))))) (∃ J135 : Heap → Option Addr → Nat → Nat → Prop, (cond (decide ((la37 : Int) > (0 : Int)))
              (VStore h35 ⟨b7, 2, none⟩ (.int .i64 i_19) fun h136 =>
                ∃ x137 : Int, cellH h136 ⟨b33, 2, none⟩ = some (.int .u32 x137) ∧
                VStore h136 ⟨b7, 3, none⟩ (.int .u32 x137) fun h138 =>
                ∃ (a139 : Option Addr) (la139 ca139 : Nat), cellH h138 ⟨b33, 3, none⟩ = some (.slice a139 la139 ca139) ∧
                VStore h138 ⟨b7, 4, none⟩ (.int .u32 (IntKind.u32.wrap (la139 : Int))) fun h140 =>
                ∃ x141 : Int, cellH h140 ⟨b33, 4, none⟩ = some (.int .i64 x141) ∧
                VStore h140 ⟨b7, 5, none⟩ (.int .i64 x141) fun h142 =>
                ∃ (a143 : Option Addr) (la143 ca143 : Nat), cellH h142 ⟨b33, 3, none⟩ = some (.slice a143 la143 ca143) ∧
                J135 h142 a143 la143 ca143)
              (J135 h35 recs_18 lrecs_18 crecs_18)) ∧
            ∀ (h144 : Heap) (g145 : Env) (recs_146 : Option Addr) (lrecs_146 crecs_146 : Nat), J135 h144 recs_146 lrecs_146 crecs_146 →
            ∃ b147 : Bool, cellH h144 ⟨b33, 0, none⟩ = some (.bool b147) ∧
            ∃ b148 : Bool, cellH h144 ⟨b33, 1, none⟩ = some (.bool b148) ∧
            ∃ x149 : Int, cellH h144 ⟨b33, 2, none⟩ = some (.int .u32 x149) ∧
            ∃ (a150 : Option Addr) (la150 ca150 : Nat), cellH h144 ⟨b33, 3, none⟩ = some (.slice a150 la150 ca150) ∧
            ∃ x151 : Int, cellH h144 ⟨b33, 4, none⟩ = some (.int .i64 x151) ∧
            storeL ⟨b9, 0, none⟩ 0 [.bool b147, .bool b148, .int .u32 x149, .slice a150 la150 ca150, .int .i64 x151] h144 fun h152 =>
            J22 h152 y_15 y_16 ly_16 cy_16 y_17 recs_146 lrecs_146 crecs_146 (some ⟨b33, 0, none⟩) (i_19 == (IntKind.i64.wrap ((la36 : Int) - 1))) (decide ((la37 : Int) > (0 : Int))))))) ∧
    ∀ (h153 : Heap) (g154 : Env) (y_155 : Option Addr) (y_156 : Option Addr) (ly_156 cy_156 : Nat) (y_157 : Int) (recs_158 : Option Addr) (lrecs_158 crecs_158 : Nat) (r_159 : Option Addr) (last_160 : Bool) (begun_161 : Bool), J22 h153 y_155 y_156 ly_156 cy_156 y_157 recs_158 lrecs_158 crecs_158 r_159 last_160 begun_161 →
    ∃ m20, m20 < n12 ∧ I11 m20 h153 y_155 y_156 ly_156 cy_156 y_157 recs_158 lrecs_158 crecs_158 (IntKind.i64.wrap (i_19 + 1)))
  (R (.tuple #[.pointer (some ⟨b7, 0, none⟩), .slice recs_18 lrecs_18 crecs_18, .int .i64 0]) h13)
theorem vf27 (a0d_0 : Option Addr) (la0d_0 ca0d_0 : Nat) (h : Heap) (R : KV) (hF : F27 a0d_0 la0d_0 ca0d_0 h R) : CallsH Tryd.prog 27 #[.agg #[.slice a0d_0 la0d_0 ca0d_0]] h R :=
  calls_of_vc (A := an27) (fn := Tryd.f27) (c := c27) (args := [.agg #[.slice a0d_0 la0d_0 ca0d_0]]) Tryd.func27 (by kernel_rfl) mixed (by kernel_rfl) (Eq.mp (by kernel_rfl : F27 a0d_0 la0d_0 ca0d_0 h R = vcF Tryd.prog an27 Tryd.f27 c27 [.agg #[.slice a0d_0 la0d_0 ca0d_0]] h R) hF)
/-! ### 28 refrain/refrainlaw23.untouched -/
noncomputable def c28 : Code := match Tryd.f28.body with | some c => c | none => .skip
noncomputable def an28 : Ann := { loops := fun i => match i with | 3 => [(6, .bool), (8, .int .i64)] | 8 => [(6, .bool), (9, .int .i64)] | _ => [], draws := fun i => match i with | 10 => #[0, 0, 3, 7, 0, 16, 0, 112, 240, 496, 1023, 2047] | 11 => #[0, 0, 3, 7, 0, 16, 0, 112, 240, 511, 1023] | _ => #[], joins := fun i => none }
def F28 (a0list : Option Addr) (la0list ca0list : Nat) (a1whole : Option Addr) (la1whole ca1whole : Nat) (a2d_0 : Option Addr) (la2d_0 ca2d_0 : Nat) (h : Heap) (R : KV) : Prop :=
  VNew h (.cells #[.slice a2d_0 la2d_0 ca2d_0] 34) fun b1 h2 =>
  ∃ (a3 : Option Addr) (la3 ca3 : Nat), cellH h2 ⟨b1, 0, none⟩ = some (.slice a3 la3 ca3) ∧
  ∃ I4 : Nat → Heap → Bool → Int → Prop, (∃ n5, I4 n5 h2 false 0) ∧
  ∀ (n5 : Nat) (h6 : Heap) (g7 : Env) (y_8 : Bool) (i_9 : Int), I4 n5 h6 y_8 i_9 →
  cond (decide (i_9 < (70 : Int)))
  (VIdx a0list la0list (IntKind.i64.wrap ((la3 : Int) + i_9)) 1 fun a11 =>
    ∃ (a12 : Option Addr) (la12 ca12 : Nat), cellH h6 a11 = some (.slice a12 la12 ca12) ∧
    cond ((la12 : Int) != (1 : Int)) (R (.bool false) h6) (VIdx a0list la0list (IntKind.i64.wrap ((la3 : Int) + i_9)) 1 fun a13 =>
      ∃ (a14 : Option Addr) (la14 ca14 : Nat), cellH h6 a13 = some (.slice a14 la14 ca14) ∧
      VIdx a14 la14 0 1 fun a15 =>
      ∃ x16 : Int, cellH h6 a15 = some (.int .u8 x16) ∧
      cond (x16 != (204 : Int))
      (R (.bool false) h6)
      (∃ m10, m10 < n5 ∧ I4 m10 h6 y_8 (IntKind.i64.wrap (i_9 + 1)))))
  (∃ I17 : Nat → Heap → Bool → Int → Prop, (∃ n18, I17 n18 h6 y_8 0) ∧
    ∀ (n18 : Nat) (h19 : Heap) (g20 : Env) (y_21 : Bool) (i_22 : Int), I17 n18 h19 y_21 i_22 →
    cond (decide (i_22 < (la3 : Int)))
    (VIdx a1whole la1whole i_22 1 fun a24 =>
      ∃ (a25 : Option Addr) (la25 ca25 : Nat), cellH h19 a24 = some (.slice a25 la25 ca25) ∧
      ∃ (a26 : Option Addr) (la26 ca26 : Nat), cellH h19 ⟨b1, 0, none⟩ = some (.slice a26 la26 ca26) ∧
      VIdx a26 la26 i_22 1 fun a27 =>
      ∃ (a28 : Option Addr) (la28 ca28 : Nat), cellH h19 a27 = some (.slice a28 la28 ca28) ∧
      CallsH Tryd.prog 31 #[.slice a28 la28 ca28] h19 fun v29 h30 =>
      ∃ (a31 : Option Addr) (la31 ca31 : Nat), v29 = .slice a31 la31 ca31 ∧
      (cellH h30 a24 = some (.slice a25 la25 ca25)) ∧
      CallsH Tryd.prog 30 #[.slice a25 la25 ca25, .slice a31 la31 ca31] h30 fun v32 h33 =>
      ∃ b34 : Bool, v32 = .bool b34 ∧
      VIdx a0list la0list i_22 1 fun a35 =>
      ∃ (a36 : Option Addr) (la36 ca36 : Nat), cellH h33 a35 = some (.slice a36 la36 ca36) ∧
      ∃ (a37 : Option Addr) (la37 ca37 : Nat), cellH h33 ⟨b1, 0, none⟩ = some (.slice a37 la37 ca37) ∧
      VIdx a37 la37 i_22 1 fun a38 =>
      ∃ (a39 : Option Addr) (la39 ca39 : Nat), cellH h33 a38 = some (.slice a39 la39 ca39) ∧
      CallsH Tryd.prog 30 #[.slice a36 la36 ca36, .slice a39 la39 ca39] h33 fun v40 h41 =>
      ∃ b42 : Bool, v40 = .bool b42 ∧
      cond (!b34) (R (.bool false) h41) (cond (!b42)
        (R (.bool false) h41)
        (∃ m23, m23 < n18 ∧ I17 m23 h41 y_21 (IntKind.i64.wrap (i_22 + 1)))))
    (R (.bool true) h19))
theorem vf28 (a0list : Option Addr) (la0list ca0list : Nat) (a1whole : Option Addr) (la1whole ca1whole : Nat) (a2d_0 : Option Addr) (la2d_0 ca2d_0 : Nat) (h : Heap) (R : KV) (hF : F28 a0list la0list ca0list a1whole la1whole ca1whole a2d_0 la2d_0 ca2d_0 h R) : CallsH Tryd.prog 28 #[.slice a0list la0list ca0list, .slice a1whole la1whole ca1whole, .agg #[.slice a2d_0 la2d_0 ca2d_0]] h R :=
  calls_of_vc (A := an28) (fn := Tryd.f28) (c := c28) (args := [.slice a0list la0list ca0list, .slice a1whole la1whole ca1whole, .agg #[.slice a2d_0 la2d_0 ca2d_0]]) Tryd.func28 (by kernel_rfl) mixed (by kernel_rfl) (Eq.mp (by kernel_rfl : F28 a0list la0list ca0list a1whole la1whole ca1whole a2d_0 la2d_0 ca2d_0 h R = vcF Tryd.prog an28 Tryd.f28 c28 [.slice a0list la0list ca0list, .slice a1whole la1whole ca1whole, .agg #[.slice a2d_0 la2d_0 ca2d_0]] h R) hF)
/-! ### 29 (refrain/log.Log).down -/
noncomputable def c29 : Code := match Tryd.f29.body with | some c => c | none => .skip
noncomputable def an29 : Ann := { loops := fun i => match i with | 3 => [(1, .int .i64), (18, .int .i64)] | _ => [], draws := fun i => #[], joins := fun i => none }
def F29 (a0l : Option Addr) (a1keep : Int) (h : Heap) (R : KV) : Prop :=
  VSome a0l fun a1 =>
  CallsH Tryd.prog 37 #[.pointer (some a1)] h fun v2 h3 =>
  ∃ p4 : Option Addr, v2 = .pointer p4 ∧
  VSome a0l fun a5 =>
  ∃ (a6 : Option Addr) (la6 ca6 : Nat), cellH h3 ⟨a5.block, a5.off + 1, none⟩ = some (.slice a6 la6 ca6) ∧
  ∃ I7 : Nat → Heap → Int → Int → Prop, (∃ n8, I7 n8 h3 a1keep 0) ∧
  ∀ (n8 : Nat) (h9 : Heap) (g10 : Env) (keep_11 : Int) (y_12 : Int), I7 n8 h9 keep_11 y_12 →
  cond (decide (y_12 < (la6 : Int)))
  (VIdx a6 la6 y_12 3 fun a14 =>
    ∃ x15 : Int, cellH h9 a14 = some (.int .i64 x15) ∧
    ∃ x16 : Int, cellH h9 ⟨a14.block, a14.off + 1, none⟩ = some (.int .i64 x16) ∧
    ∃ (a17 : Option Addr) (la17 ca17 : Nat), cellH h9 ⟨a14.block, a14.off + 2, none⟩ = some (.slice a17 la17 ca17) ∧
    VNew h9 (.cells #[.int .i64 0, .int .i64 0, .slice none 0 0] 83) fun b18 h19 =>
    storeL ⟨b18, 0, none⟩ 0 [.int .i64 x15, .int .i64 x16, .slice a17 la17 ca17] h19 fun h20 =>
    ∃ (a21 : Option Addr) (la21 ca21 : Nat), cellH h20 ⟨b18, 2, none⟩ = some (.slice a21 la21 ca21) ∧
    ∃ x22 : Int, cellH h20 ⟨b18, 0, none⟩ = some (.int .i64 x22) ∧
    ∃ x23 : Int, cellH h20 ⟨b18, 1, none⟩ = some (.int .i64 x23) ∧
    ∃ (a24 : Option Addr) (la24 ca24 : Nat), cellH h20 ⟨b18, 2, none⟩ = some (.slice a24 la24 ca24) ∧
    CallsH Tryd.prog 50 #[.pointer p4, .agg #[.int .i64 x22, .int .i64 x23, .slice a24 la24 ca24], .int .i64 (minI keep_11 (la21 : Int))] h20 fun v25 h26 =>
    v25 = .tuple #[] ∧
    ∃ m13, m13 < n8 ∧ I7 m13 h26 (IntKind.i64.wrap (keep_11 - (minI keep_11 (la21 : Int)))) (IntKind.i64.wrap (y_12 + 1)))
  (R (.pointer p4) h9)
theorem vf29 (a0l : Option Addr) (a1keep : Int) (h : Heap) (R : KV) (hF : F29 a0l a1keep h R) : CallsH Tryd.prog 29 #[.pointer a0l, .int .i64 a1keep] h R :=
  calls_of_vc (A := an29) (fn := Tryd.f29) (c := c29) (args := [.pointer a0l, .int .i64 a1keep]) Tryd.func29 (by kernel_rfl) mixed (by kernel_rfl) (Eq.mp (by kernel_rfl : F29 a0l a1keep h R = vcF Tryd.prog an29 Tryd.f29 c29 [.pointer a0l, .int .i64 a1keep] h R) hF)
/-! ### 30 refrain/refrainlaw23.sameBytes -/
noncomputable def c30 : Code := match Tryd.f30.body with | some c => c | none => .skip
noncomputable def an30 : Ann := { loops := fun i => match i with | 4 => [(4, .bool), (5, .int .i64)] | _ => [], draws := fun i => match i with | 6 => #[0, 0, 3, 7, 0, 0, 48, 112, 255] | _ => #[], joins := fun i => none }
def F30 (a0a : Option Addr) (la0a ca0a : Nat) (a1b : Option Addr) (la1b ca1b : Nat) (h : Heap) (R : KV) : Prop :=
  cond ((la0a : Int) != (la1b : Int))
  (R (.bool false) h)
  (∃ I1 : Nat → Heap → Bool → Int → Prop, (∃ n2, I1 n2 h false 0) ∧
    ∀ (n2 : Nat) (h3 : Heap) (g4 : Env) (y_5 : Bool) (i_6 : Int), I1 n2 h3 y_5 i_6 →
    cond (decide (i_6 < (la0a : Int)))
    (VIdx a0a la0a i_6 1 fun a8 =>
      ∃ x9 : Int, cellH h3 a8 = some (.int .u8 x9) ∧
      VIdx a1b la1b i_6 1 fun a10 =>
      ∃ x11 : Int, cellH h3 a10 = some (.int .u8 x11) ∧
      cond (x9 != x11)
      (R (.bool false) h3)
      (∃ m7, m7 < n2 ∧ I1 m7 h3 y_5 (IntKind.i64.wrap (i_6 + 1))))
    (R (.bool true) h3))
theorem vf30 (a0a : Option Addr) (la0a ca0a : Nat) (a1b : Option Addr) (la1b ca1b : Nat) (h : Heap) (R : KV) (hF : F30 a0a la0a ca0a a1b la1b ca1b h R) : CallsH Tryd.prog 30 #[.slice a0a la0a ca0a, .slice a1b la1b ca1b] h R :=
  calls_of_vc (A := an30) (fn := Tryd.f30) (c := c30) (args := [.slice a0a la0a ca0a, .slice a1b la1b ca1b]) Tryd.func30 (by kernel_rfl) mixed (by kernel_rfl) (Eq.mp (by kernel_rfl : F30 a0a la0a ca0a a1b la1b ca1b h R = vcF Tryd.prog an30 Tryd.f30 c30 [.slice a0a la0a ca0a, .slice a1b la1b ca1b] h R) hF)
/-! ### 31 refrain/refrainlaw23.roomy -/
noncomputable def c31 : Code := match Tryd.f31.body with | some c => c | none => .skip
noncomputable def an31 : Ann := { loops := fun i => match i with | 3 => [(3, .slc), (4, .int .i64)] | _ => [], draws := fun i => #[], joins := fun i => none }
def F31 (a0b : Option Addr) (la0b ca0b : Nat) (h : Heap) (R : KV) : Prop :=
  RunsTo Tryd.prog (Builtin.append_ #[26, 26] 26 #[.slice none 0 0, .slice a0b la0b ca0b]) h fun v1 h2 =>
  ∃ (a3 : Option Addr) (la3 ca3 : Nat), v1 = .slice a3 la3 ca3 ∧
  ∃ I4 : Nat → Heap → Option Addr → Nat → Nat → Int → Prop, (∃ n5, I4 n5 h2 a3 la3 ca3 0) ∧
  ∀ (n5 : Nat) (h6 : Heap) (g7 : Env) (l_8 : Option Addr) (ll_8 cl_8 : Nat) (i_9 : Int), I4 n5 h6 l_8 ll_8 cl_8 i_9 →
  cond (decide (i_9 < (70 : Int)))
  (VNew h6 (.cells #[.int .u8 (IntKind.u8.wrap (IntKind.i64.wrap (181 + i_9)))] 5) fun b11 h12 =>
    RunsTo Tryd.prog (Builtin.append_ #[26, 26] 26 #[.slice l_8 ll_8 cl_8, .slice (some ⟨b11, 0, none⟩) 1 1]) h12 fun v13 h14 =>
    ∃ (a15 : Option Addr) (la15 ca15 : Nat), v13 = .slice a15 la15 ca15 ∧
    ∃ m10, m10 < n5 ∧ I4 m10 h14 a15 la15 ca15 (IntKind.i64.wrap (i_9 + 1)))
  (R (.slice l_8 ll_8 cl_8) h6)
theorem vf31 (a0b : Option Addr) (la0b ca0b : Nat) (h : Heap) (R : KV) (hF : F31 a0b la0b ca0b h R) : CallsH Tryd.prog 31 #[.slice a0b la0b ca0b] h R :=
  calls_of_vc (A := an31) (fn := Tryd.f31) (c := c31) (args := [.slice a0b la0b ca0b]) Tryd.func31 (by kernel_rfl) mixed (by kernel_rfl) (Eq.mp (by kernel_rfl : F31 a0b la0b ca0b h R = vcF Tryd.prog an31 Tryd.f31 c31 [.slice a0b la0b ca0b] h R) hF)
/-! ### 32 (refrain/refrainref23.Log).Append -/
noncomputable def c32 : Code := match Tryd.f32.body with | some c => c | none => .skip
noncomputable def an32 : Ann := { loops := fun i => [], draws := fun i => match i with | 6 => #[0, 1, 3, 7, 0, 16, 48, 112, 0, 511, 1023] | 7 => #[0, 0, 2, 6, 14, 0, 32, 96, 224, 0, 512, 1536, 3584, 0, 16352, 32736, 65534, 131071, 262143, 524287] | _ => #[], joins := fun i => none }
def F32 (a0l : Option Addr) (a1rec : Option Addr) (la1rec ca1rec : Nat) (h : Heap) (R : KV) : Prop :=
  cond (decide ((la1rec : Int) > (1048576 : Int)))
  (R (.int .i64 2) h)
  (VSome a0l fun a1 =>
    ∃ x2 : Int, cellH h ⟨a1.block, a1.off + 2, none⟩ = some (.int .i64 x2) ∧
    cond (decide (x2 < (0 : Int)))
    (CallsH Tryd.prog 51 #[.pointer a0l, .int .i64 0, .int .u32 0, .slice a1rec la1rec ca1rec] h fun v3 h4 =>
      v3 = .tuple #[] ∧
      R (.int .i64 0) h4)
    (VSome a0l fun a5 =>
      ∃ x6 : Int, cellH h ⟨a5.block, a5.off + 3, none⟩ = some (.int .u32 x6) ∧
      VSome a0l fun a7 =>
      ∃ x8 : Int, cellH h ⟨a7.block, a7.off + 4, none⟩ = some (.int .u32 x8) ∧
      CallsH Tryd.prog 52 #[.int .u32 x6, .int .u32 x8, .slice a1rec la1rec ca1rec] h fun v9 h10 =>
      ∃ (a11 : Option Addr) (la11 ca11 : Nat), v9 = .slice a11 la11 ca11 ∧
      VSome a0l fun a12 =>
      ∃ (a13 : Option Addr) (la13 ca13 : Nat), cellH h10 ⟨a12.block, a12.off + 1, none⟩ = some (.slice a13 la13 ca13) ∧
      VSome a0l fun a14 =>
      ∃ x15 : Int, cellH h10 ⟨a14.block, a14.off + 2, none⟩ = some (.int .i64 x15) ∧
      VSome a0l fun a16 =>
      ∃ x17 : Int, cellH h10 ⟨a16.block, a16.off + 5, none⟩ = some (.int .i64 x17) ∧
      VNew h10 (.cells #[.int .i64 x15, .int .i64 x17, .slice a11 la11 ca11] 107) fun b18 h19 =>
      (cellH h19 ⟨a12.block, a12.off + 1, none⟩ = some (.slice a13 la13 ca13)) ∧
      RunsTo Tryd.prog (Builtin.append_ #[99, 99] 99 #[.slice a13 la13 ca13, .slice (some ⟨b18, 0, none⟩) 1 1]) h19 fun v20 h21 =>
      ∃ (a22 : Option Addr) (la22 ca22 : Nat), v20 = .slice a22 la22 ca22 ∧
      VSome a0l fun a23 =>
      VStore h21 ⟨a23.block, a23.off + 1, none⟩ (.slice a22 la22 ca22) fun h24 =>
      VSome a0l fun a25 =>
      ∃ x26 : Int, cellH h24 ⟨a25.block, a25.off + 4, none⟩ = some (.int .u32 x26) ∧
      VSome a0l fun a27 =>
      VStore h24 ⟨a27.block, a27.off + 4, none⟩ (.int .u32 (IntKind.u32.wrap (x26 + 1))) fun h28 =>
      VSome a0l fun a29 =>
      ∃ x30 : Int, cellH h28 ⟨a29.block, a29.off + 5, none⟩ = some (.int .i64 x30) ∧
      VSome a0l fun a31 =>
      VStore h28 ⟨a31.block, a31.off + 5, none⟩ (.int .i64 (IntKind.i64.wrap (x30 + (la11 : Int)))) fun h32 =>
      R (.int .i64 0) h32))
theorem vf32 (a0l : Option Addr) (a1rec : Option Addr) (la1rec ca1rec : Nat) (h : Heap) (R : KV) (hF : F32 a0l a1rec la1rec ca1rec h R) : CallsH Tryd.prog 32 #[.pointer a0l, .slice a1rec la1rec ca1rec] h R :=
  calls_of_vc (A := an32) (fn := Tryd.f32) (c := c32) (args := [.pointer a0l, .slice a1rec la1rec ca1rec]) Tryd.func32 (by kernel_rfl) mixed (by kernel_rfl) (Eq.mp (by kernel_rfl : F32 a0l a1rec la1rec ca1rec h R = vcF Tryd.prog an32 Tryd.f32 c32 [.pointer a0l, .slice a1rec la1rec ca1rec] h R) hF)
/-! ### 33 (refrain/refrainref23.Log).Roll -/
noncomputable def c33 : Code := match Tryd.f33.body with | some c => c | none => .skip
noncomputable def an33 : Ann := { loops := fun i => [], draws := fun i => match i with | 6 => #[0, 0, 2, 6, 14, 30, 0, 64, 192, 448, 960, 0, 4095] | _ => #[], joins := fun i => none }
def F33 (a0l : Option Addr) (a1rec : Option Addr) (la1rec ca1rec : Nat) (h : Heap) (R : KV) : Prop :=
  cond (decide ((la1rec : Int) > (1048576 : Int)))
  (R (.int .i64 2) h)
  (VSome a0l fun a1 =>
    ∃ x2 : Int, cellH h ⟨a1.block, a1.off + 2, none⟩ = some (.int .i64 x2) ∧
    cond (decide (x2 < (0 : Int)))
    (CallsH Tryd.prog 51 #[.pointer a0l, .int .i64 0, .int .u32 0, .slice a1rec la1rec ca1rec] h fun v3 h4 =>
      v3 = .tuple #[] ∧
      R (.int .i64 0) h4)
    (VSome a0l fun a5 =>
      ∃ x6 : Int, cellH h ⟨a5.block, a5.off + 2, none⟩ = some (.int .i64 x6) ∧
      VSome a0l fun a7 =>
      ∃ x8 : Int, cellH h ⟨a7.block, a7.off + 3, none⟩ = some (.int .u32 x8) ∧
      CallsH Tryd.prog 51 #[.pointer a0l, .int .i64 (IntKind.i64.wrap (x6 + 1)), .int .u32 (IntKind.u32.wrap (x8 + 1)), .slice a1rec la1rec ca1rec] h fun v9 h10 =>
      v9 = .tuple #[] ∧
      R (.int .i64 0) h10))
theorem vf33 (a0l : Option Addr) (a1rec : Option Addr) (la1rec ca1rec : Nat) (h : Heap) (R : KV) (hF : F33 a0l a1rec la1rec ca1rec h R) : CallsH Tryd.prog 33 #[.pointer a0l, .slice a1rec la1rec ca1rec] h R :=
  calls_of_vc (A := an33) (fn := Tryd.f33) (c := c33) (args := [.pointer a0l, .slice a1rec la1rec ca1rec]) Tryd.func33 (by kernel_rfl) mixed (by kernel_rfl) (Eq.mp (by kernel_rfl : F33 a0l a1rec la1rec ca1rec h R = vcF Tryd.prog an33 Tryd.f33 c33 [.pointer a0l, .slice a1rec la1rec ca1rec] h R) hF)
/-! ### 34 (refrain/refrainref23.Log).Sync -/
noncomputable def c34 : Code := match Tryd.f34.body with | some c => c | none => .skip
noncomputable def an34 : Ann := { loops := fun i => [], draws := fun i => match i with | 4 => #[0, 0, 2, 6, 14, 0, 32, 96, 224, 510, 1023, 2047, 4095] | _ => #[], joins := fun i => none }
def F34 (a0l : Option Addr) (h : Heap) (R : KV) : Prop :=
  CallsH Tryd.prog 36 #[.pointer a0l] h fun v1 h2 =>
  ∃ x3 : Int, v1 = .int .i64 x3 ∧
  CallsH Tryd.prog 53 #[.pointer a0l, .int .i64 x3] h2 fun v4 h5 =>
  ∃ (a6 : Option Addr) (la6 ca6 : Nat), v4 = .slice a6 la6 ca6 ∧
  VSome a0l fun a7 =>
  VStore h5 a7 (.slice a6 la6 ca6) fun h8 =>
  VSome a0l fun a9 =>
  VStore h8 ⟨a9.block, a9.off + 1, none⟩ (.slice none 0 0) fun h10 =>
  VSome a0l fun a11 =>
  ∃ x12 : Int, cellH h10 ⟨a11.block, a11.off + 2, none⟩ = some (.int .i64 x12) ∧
  cond (decide (x12 > (0 : Int)))
  (VSome a0l fun a13 =>
    ∃ (a14 : Option Addr) (la14 ca14 : Nat), cellH h10 a13 = some (.slice a14 la14 ca14) ∧
    VSome a0l fun a15 =>
    ∃ x16 : Int, cellH h10 ⟨a15.block, a15.off + 2, none⟩ = some (.int .i64 x16) ∧
    VSlice 1 a14 ca14 x16 (la14 : Int) (ca14 : Int) fun a17 la17 ca17 =>
    VSome a0l fun a18 =>
    VStore h10 a18 (.slice a17 la17 ca17) fun h19 =>
    VSome a0l fun a20 =>
    VStore h19 ⟨a20.block, a20.off + 2, none⟩ (.int .i64 0) fun h21 =>
    R (.tuple #[]) h21)
  (R (.tuple #[]) h10)
theorem vf34 (a0l : Option Addr) (h : Heap) (R : KV) (hF : F34 a0l h R) : CallsH Tryd.prog 34 #[.pointer a0l] h R :=
  calls_of_vc (A := an34) (fn := Tryd.f34) (c := c34) (args := [.pointer a0l]) Tryd.func34 (by kernel_rfl) mixed (by kernel_rfl) (Eq.mp (by kernel_rfl : F34 a0l h R = vcF Tryd.prog an34 Tryd.f34 c34 [.pointer a0l] h R) hF)
/-! ### 35 (refrain/refrainref23.Log).Crash -/
noncomputable def c35 : Code := match Tryd.f35.body with | some c => c | none => .skip
noncomputable def an35 : Ann := { loops := fun i => [], draws := fun i => #[], joins := fun i => none }
def F35 (a0l : Option Addr) (a1keep : Int) (h : Heap) (R : KV) : Prop :=
  VNew h (.cells #[.slice none 0 0] 34) fun b1 h2 =>
  CallsH Tryd.prog 53 #[.pointer a0l, .int .i64 a1keep] h2 fun v3 h4 =>
  ∃ (a5 : Option Addr) (la5 ca5 : Nat), v3 = .slice a5 la5 ca5 ∧
  VStore h4 ⟨b1, 0, none⟩ (.slice a5 la5 ca5) fun h6 =>
  ∃ (a7 : Option Addr) (la7 ca7 : Nat), cellH h6 ⟨b1, 0, none⟩ = some (.slice a7 la7 ca7) ∧
  R (.agg #[.slice a7 la7 ca7]) h6
theorem vf35 (a0l : Option Addr) (a1keep : Int) (h : Heap) (R : KV) (hF : F35 a0l a1keep h R) : CallsH Tryd.prog 35 #[.pointer a0l, .int .i64 a1keep] h R :=
  calls_of_vc (A := an35) (fn := Tryd.f35) (c := c35) (args := [.pointer a0l, .int .i64 a1keep]) Tryd.func35 (by kernel_rfl) mixed (by kernel_rfl) (Eq.mp (by kernel_rfl : F35 a0l a1keep h R = vcF Tryd.prog an35 Tryd.f35 c35 [.pointer a0l, .int .i64 a1keep] h R) hF)
/-! ### 36 (refrain/refrainref23.Log).Dirty -/
noncomputable def c36 : Code := match Tryd.f36.body with | some c => c | none => .skip
noncomputable def an36 : Ann := { loops := fun i => match i with | 3 => [(3, .int .i64), (4, .int .i64)] | _ => [], draws := fun i => #[], joins := fun i => none }
def F36 (a0l : Option Addr) (h : Heap) (R : KV) : Prop :=
  ∃ I1 : Nat → Heap → Int → Int → Prop, (∃ n2, I1 n2 h 0 0) ∧
  ∀ (n2 : Nat) (h3 : Heap) (g4 : Env) (n_5 : Int) (i_6 : Int), I1 n2 h3 n_5 i_6 →
  VSome a0l fun a8 =>
  ∃ (a9 : Option Addr) (la9 ca9 : Nat), cellH h3 ⟨a8.block, a8.off + 1, none⟩ = some (.slice a9 la9 ca9) ∧
  cond (decide (i_6 < (la9 : Int)))
  (VSome a0l fun a10 =>
    ∃ (a11 : Option Addr) (la11 ca11 : Nat), cellH h3 ⟨a10.block, a10.off + 1, none⟩ = some (.slice a11 la11 ca11) ∧
    VIdx a11 la11 i_6 3 fun a12 =>
    ∃ (a13 : Option Addr) (la13 ca13 : Nat), cellH h3 ⟨a12.block, a12.off + 2, none⟩ = some (.slice a13 la13 ca13) ∧
    ∃ m7, m7 < n2 ∧ I1 m7 h3 (IntKind.i64.wrap (n_5 + (la13 : Int))) (IntKind.i64.wrap (i_6 + 1)))
  (R (.int .i64 n_5) h3)
theorem vf36 (a0l : Option Addr) (h : Heap) (R : KV) (hF : F36 a0l h R) : CallsH Tryd.prog 36 #[.pointer a0l] h R :=
  calls_of_vc (A := an36) (fn := Tryd.f36) (c := c36) (args := [.pointer a0l]) Tryd.func36 (by kernel_rfl) mixed (by kernel_rfl) (Eq.mp (by kernel_rfl : F36 a0l h R = vcF Tryd.prog an36 Tryd.f36 c36 [.pointer a0l] h R) hF)
/-! ### 37 (refrain/log.disk).twin -/
noncomputable def c37 : Code := match Tryd.f37.body with | some c => c | none => .skip
noncomputable def an37 : Ann := { loops := fun i => match i with | 3 => [(13, .int .i64)] | _ => [], draws := fun i => match i with | 5 => #[0, 0, 2, 6, 14, 0, 32, 96, 254, 511, 1023, 2047] | _ => #[], joins := fun i => none }
def F37 (a0d : Option Addr) (h : Heap) (R : KV) : Prop :=
  VNew h (.cells #[.slice none 0 0] 75) fun b1 h2 =>
  VSome a0d fun a3 =>
  ∃ (a4 : Option Addr) (la4 ca4 : Nat), cellH h2 a3 = some (.slice a4 la4 ca4) ∧
  ∃ I5 : Nat → Heap → Int → Prop, (∃ n6, I5 n6 h2 0) ∧
  ∀ (n6 : Nat) (h7 : Heap) (g8 : Env) (y_9 : Int), I5 n6 h7 y_9 →
  cond (decide (y_9 < (la4 : Int)))
  (VIdx a4 la4 y_9 1 fun a11 =>
    ∃ (a12 : Option Addr) (la12 ca12 : Nat), cellH h7 a11 = some (.slice a12 la12 ca12) ∧
    ∃ (a13 : Option Addr) (la13 ca13 : Nat), cellH h7 ⟨b1, 0, none⟩ = some (.slice a13 la13 ca13) ∧
    CallsH Tryd.prog 54 #[.slice a12 la12 ca12] h7 fun v14 h15 =>
    ∃ (a16 : Option Addr) (la16 ca16 : Nat), v14 = .slice a16 la16 ca16 ∧
    (cellH h15 ⟨b1, 0, none⟩ = some (.slice a13 la13 ca13)) ∧
    VNew h15 (.cells #[.slice a16 la16 ca16] 26) fun b17 h18 =>
    (cellH h18 ⟨b1, 0, none⟩ = some (.slice a13 la13 ca13)) ∧
    RunsTo Tryd.prog (Builtin.append_ #[25, 25] 25 #[.slice a13 la13 ca13, .slice (some ⟨b17, 0, none⟩) 1 1]) h18 fun v19 h20 =>
    ∃ (a21 : Option Addr) (la21 ca21 : Nat), v19 = .slice a21 la21 ca21 ∧
    VStore h20 ⟨b1, 0, none⟩ (.slice a21 la21 ca21) fun h22 =>
    ∃ m10, m10 < n6 ∧ I5 m10 h22 (IntKind.i64.wrap (y_9 + 1)))
  (R (.pointer (some ⟨b1, 0, none⟩)) h7)
theorem vf37 (a0d : Option Addr) (h : Heap) (R : KV) (hF : F37 a0d h R) : CallsH Tryd.prog 37 #[.pointer a0d] h R :=
  calls_of_vc (A := an37) (fn := Tryd.f37) (c := c37) (args := [.pointer a0d]) Tryd.func37 (by kernel_rfl) mixed (by kernel_rfl) (Eq.mp (by kernel_rfl : F37 a0d h R = vcF Tryd.prog an37 Tryd.f37 c37 [.pointer a0d] h R) hF)
/-! ### 38 refrain/log.read -/
noncomputable def c38 : Code := match Tryd.f38.body with | some c => c | none => .skip
noncomputable def an38 : Ann := { loops := fun i => match i with | 8 => [(3, .bool)] | _ => [], draws := fun i => match i with | 5 => #[0, 1, 3, 7, 15, 31, 63, 127, 31, 287, 1023, 2047, 4095] | 11 => #[0, 1, 0, 4, 15, 31, 63] | 12 => #[0, 1, 3, 7, 15, 31, 7, 71, 7, 263, 775, 1799, 7, 7, 16383, 32767, 65535] | _ => #[], joins := fun i => none }
def F38 (a0b : Option Addr) (la0b ca0b : Nat) (h : Heap) (R : KV) : Prop :=
  VNew h (.cells #[.bool false, .int .u32 0, .slice none 0 0, .int .i64 0] 88) fun b1 h2 =>
  VNew h2 (.cells #[.bool false, .int .u32 0, .slice none 0 0, .int .i64 0] 88) fun b3 h4 =>
  storeL ⟨b3, 0, none⟩ 0 [.bool false, .int .u32 0, .slice none 0 0, .int .i64 12] h4 fun h5 =>
  cond (decide ((la0b : Int) < (12 : Int)))
  (VStore h5 ⟨b3, 0, none⟩ (.bool true) fun h6 =>
    ∃ b7 : Bool, cellH h6 ⟨b3, 0, none⟩ = some (.bool b7) ∧
    ∃ x8 : Int, cellH h6 ⟨b3, 1, none⟩ = some (.int .u32 x8) ∧
    ∃ (a9 : Option Addr) (la9 ca9 : Nat), cellH h6 ⟨b3, 2, none⟩ = some (.slice a9 la9 ca9) ∧
    ∃ x10 : Int, cellH h6 ⟨b3, 3, none⟩ = some (.int .i64 x10) ∧
    storeL ⟨b1, 0, none⟩ 0 [.bool b7, .int .u32 x8, .slice a9 la9 ca9, .int .i64 x10] h6 fun h11 =>
    ∃ b12 : Bool, cellH h11 ⟨b1, 0, none⟩ = some (.bool b12) ∧
    ∃ x13 : Int, cellH h11 ⟨b1, 1, none⟩ = some (.int .u32 x13) ∧
    ∃ (a14 : Option Addr) (la14 ca14 : Nat), cellH h11 ⟨b1, 2, none⟩ = some (.slice a14 la14 ca14) ∧
    ∃ x15 : Int, cellH h11 ⟨b1, 3, none⟩ = some (.int .i64 x15) ∧
    R (.tuple #[.agg #[.bool b12, .int .u32 x13, .slice a14 la14 ca14, .int .i64 x15], .bool true]) h11)
  (VSlice 1 a0b ca0b 0 4 (ca0b : Int) fun a16 la16 ca16 =>
    RunsTo Tryd.prog (convert 26 9 (.slice a16 la16 ca16)) h5 fun v17 h18 =>
    ∃ s19 : ByteArray, v17 = .string s19 ∧
    cond (!strEq s19 (ByteArray.mk #[114, 108, 111, 103])) (∃ b20 : Bool, cellH h18 ⟨b3, 0, none⟩ = some (.bool b20) ∧
      ∃ x21 : Int, cellH h18 ⟨b3, 1, none⟩ = some (.int .u32 x21) ∧
      ∃ (a22 : Option Addr) (la22 ca22 : Nat), cellH h18 ⟨b3, 2, none⟩ = some (.slice a22 la22 ca22) ∧
      ∃ x23 : Int, cellH h18 ⟨b3, 3, none⟩ = some (.int .i64 x23) ∧
      storeL ⟨b1, 0, none⟩ 0 [.bool b20, .int .u32 x21, .slice a22 la22 ca22, .int .i64 x23] h18 fun h24 =>
      ∃ b25 : Bool, cellH h24 ⟨b1, 0, none⟩ = some (.bool b25) ∧
      ∃ x26 : Int, cellH h24 ⟨b1, 1, none⟩ = some (.int .u32 x26) ∧
      ∃ (a27 : Option Addr) (la27 ca27 : Nat), cellH h24 ⟨b1, 2, none⟩ = some (.slice a27 la27 ca27) ∧
      ∃ x28 : Int, cellH h24 ⟨b1, 3, none⟩ = some (.int .i64 x28) ∧
      R (.tuple #[.agg #[.bool b25, .int .u32 x26, .slice a27 la27 ca27, .int .i64 x28], .bool false]) h24) (VSlice 1 a0b ca0b 8 (la0b : Int) (ca0b : Int) fun a29 la29 ca29 =>
      VSlice 1 a0b ca0b 0 8 (ca0b : Int) fun a30 la30 ca30 =>
      CallsH Tryd.prog 55 #[.slice a29 la29 ca29] h18 fun v31 h32 =>
      ∃ x33 : Int, v31 = .int .u32 x33 ∧
      CallsH Tryd.prog 56 #[.slice a30 la30 ca30] h32 fun v34 h35 =>
      ∃ x36 : Int, v34 = .int .u32 x36 ∧
      cond (x33 != x36)
      (∃ b37 : Bool, cellH h35 ⟨b3, 0, none⟩ = some (.bool b37) ∧
        ∃ x38 : Int, cellH h35 ⟨b3, 1, none⟩ = some (.int .u32 x38) ∧
        ∃ (a39 : Option Addr) (la39 ca39 : Nat), cellH h35 ⟨b3, 2, none⟩ = some (.slice a39 la39 ca39) ∧
        ∃ x40 : Int, cellH h35 ⟨b3, 3, none⟩ = some (.int .i64 x40) ∧
        storeL ⟨b1, 0, none⟩ 0 [.bool b37, .int .u32 x38, .slice a39 la39 ca39, .int .i64 x40] h35 fun h41 =>
        ∃ b42 : Bool, cellH h41 ⟨b1, 0, none⟩ = some (.bool b42) ∧
        ∃ x43 : Int, cellH h41 ⟨b1, 1, none⟩ = some (.int .u32 x43) ∧
        ∃ (a44 : Option Addr) (la44 ca44 : Nat), cellH h41 ⟨b1, 2, none⟩ = some (.slice a44 la44 ca44) ∧
        ∃ x45 : Int, cellH h41 ⟨b1, 3, none⟩ = some (.int .i64 x45) ∧
        R (.tuple #[.agg #[.bool b42, .int .u32 x43, .slice a44 la44 ca44, .int .i64 x45], .bool false]) h41)
      (VSlice 1 a0b ca0b 4 (la0b : Int) (ca0b : Int) fun a46 la46 ca46 =>
        CallsH Tryd.prog 55 #[.slice a46 la46 ca46] h35 fun v47 h48 =>
        ∃ x49 : Int, v47 = .int .u32 x49 ∧
        VStore h48 ⟨b3, 1, none⟩ (.int .u32 x49) fun h50 =>
        ∃ I51 : Nat → Heap → Bool → Prop, (∃ n52, I51 n52 h50 false) ∧
        ∀ (n52 : Nat) (h53 : Heap) (g54 : Env) (y_55 : Bool), I51 n52 h53 y_55 →
        ∃ x57 : Int, cellH h53 ⟨b3, 3, none⟩ = some (.int .i64 x57) ∧
        VSlice 1 a0b ca0b x57 (la0b : Int) (ca0b : Int) fun a58 la58 ca58 =>
        cond (decide ((la58 : Int) < (12 : Int)))
        (∃ b59 : Bool, cellH h53 ⟨b3, 0, none⟩ = some (.bool b59) ∧
          ∃ x60 : Int, cellH h53 ⟨b3, 1, none⟩ = some (.int .u32 x60) ∧
          ∃ (a61 : Option Addr) (la61 ca61 : Nat), cellH h53 ⟨b3, 2, none⟩ = some (.slice a61 la61 ca61) ∧
          ∃ x62 : Int, cellH h53 ⟨b3, 3, none⟩ = some (.int .i64 x62) ∧
          storeL ⟨b1, 0, none⟩ 0 [.bool b59, .int .u32 x60, .slice a61 la61 ca61, .int .i64 x62] h53 fun h63 =>
          ∃ b64 : Bool, cellH h63 ⟨b1, 0, none⟩ = some (.bool b64) ∧
          ∃ x65 : Int, cellH h63 ⟨b1, 1, none⟩ = some (.int .u32 x65) ∧
          ∃ (a66 : Option Addr) (la66 ca66 : Nat), cellH h63 ⟨b1, 2, none⟩ = some (.slice a66 la66 ca66) ∧
          ∃ x67 : Int, cellH h63 ⟨b1, 3, none⟩ = some (.int .i64 x67) ∧
          R (.tuple #[.agg #[.bool b64, .int .u32 x65, .slice a66 la66 ca66, .int .i64 x67], .bool true]) h63)
        (VSlice 1 a58 ca58 4 (la58 : Int) (ca58 : Int) fun a68 la68 ca68 =>
          CallsH Tryd.prog 55 #[.slice a58 la58 ca58] h53 fun v69 h70 =>
          ∃ x71 : Int, v69 = .int .u32 x71 ∧
          CallsH Tryd.prog 55 #[.slice a68 la68 ca68] h70 fun v72 h73 =>
          ∃ x74 : Int, v72 = .int .u32 x74 ∧
          cond (decide (x71 > (1048576 : Int))) (∃ b75 : Bool, cellH h73 ⟨b3, 0, none⟩ = some (.bool b75) ∧
            ∃ x76 : Int, cellH h73 ⟨b3, 1, none⟩ = some (.int .u32 x76) ∧
            ∃ (a77 : Option Addr) (la77 ca77 : Nat), cellH h73 ⟨b3, 2, none⟩ = some (.slice a77 la77 ca77) ∧
            ∃ x78 : Int, cellH h73 ⟨b3, 3, none⟩ = some (.int .i64 x78) ∧
            storeL ⟨b1, 0, none⟩ 0 [.bool b75, .int .u32 x76, .slice a77 la77 ca77, .int .i64 x78] h73 fun h79 =>
            ∃ b80 : Bool, cellH h79 ⟨b1, 0, none⟩ = some (.bool b80) ∧
            ∃ x81 : Int, cellH h79 ⟨b1, 1, none⟩ = some (.int .u32 x81) ∧
            ∃ (a82 : Option Addr) (la82 ca82 : Nat), cellH h79 ⟨b1, 2, none⟩ = some (.slice a82 la82 ca82) ∧
            ∃ x83 : Int, cellH h79 ⟨b1, 3, none⟩ = some (.int .i64 x83) ∧
            R (.tuple #[.agg #[.bool b80, .int .u32 x81, .slice a82 la82 ca82, .int .i64 x83], .bool false]) h79) (VSlice 1 a58 ca58 8 (la58 : Int) (ca58 : Int) fun a84 la84 ca84 =>
            ∃ x85 : Int, cellH h73 ⟨b3, 1, none⟩ = some (.int .u32 x85) ∧
            ∃ (a86 : Option Addr) (la86 ca86 : Nat), cellH h73 ⟨b3, 2, none⟩ = some (.slice a86 la86 ca86) ∧
            CallsH Tryd.prog 55 #[.slice a84 la84 ca84] h73 fun v87 h88 =>
            ∃ x89 : Int, v87 = .int .u32 x89 ∧
            (cellH h88 ⟨b3, 2, none⟩ = some (.slice a86 la86 ca86)) ∧
            (cellH h88 ⟨b3, 1, none⟩ = some (.int .u32 x85)) ∧
            CallsH Tryd.prog 57 #[.int .u32 x85, .int .u32 (IntKind.u32.wrap (la86 : Int)), .int .u32 x71, .int .u32 x74] h88 fun v90 h91 =>
            ∃ x92 : Int, v90 = .int .u32 x92 ∧
            cond (x89 != x92)
            (∃ b93 : Bool, cellH h91 ⟨b3, 0, none⟩ = some (.bool b93) ∧
              ∃ x94 : Int, cellH h91 ⟨b3, 1, none⟩ = some (.int .u32 x94) ∧
              ∃ (a95 : Option Addr) (la95 ca95 : Nat), cellH h91 ⟨b3, 2, none⟩ = some (.slice a95 la95 ca95) ∧
              ∃ x96 : Int, cellH h91 ⟨b3, 3, none⟩ = some (.int .i64 x96) ∧
              storeL ⟨b1, 0, none⟩ 0 [.bool b93, .int .u32 x94, .slice a95 la95 ca95, .int .i64 x96] h91 fun h97 =>
              ∃ b98 : Bool, cellH h97 ⟨b1, 0, none⟩ = some (.bool b98) ∧
              ∃ x99 : Int, cellH h97 ⟨b1, 1, none⟩ = some (.int .u32 x99) ∧
              ∃ (a100 : Option Addr) (la100 ca100 : Nat), cellH h97 ⟨b1, 2, none⟩ = some (.slice a100 la100 ca100) ∧
              ∃ x101 : Int, cellH h97 ⟨b1, 3, none⟩ = some (.int .i64 x101) ∧
              R (.tuple #[.agg #[.bool b98, .int .u32 x99, .slice a100 la100 ca100, .int .i64 x101], .bool false]) h97)
            (cond (decide ((IntKind.u64.wrap (la58 : Int)) < (IntKind.u64.wrap (12 + (IntKind.u64.wrap x71)))))
              (∃ b102 : Bool, cellH h91 ⟨b3, 0, none⟩ = some (.bool b102) ∧
                ∃ x103 : Int, cellH h91 ⟨b3, 1, none⟩ = some (.int .u32 x103) ∧
                ∃ (a104 : Option Addr) (la104 ca104 : Nat), cellH h91 ⟨b3, 2, none⟩ = some (.slice a104 la104 ca104) ∧
                ∃ x105 : Int, cellH h91 ⟨b3, 3, none⟩ = some (.int .i64 x105) ∧
                storeL ⟨b1, 0, none⟩ 0 [.bool b102, .int .u32 x103, .slice a104 la104 ca104, .int .i64 x105] h91 fun h106 =>
                ∃ b107 : Bool, cellH h106 ⟨b1, 0, none⟩ = some (.bool b107) ∧
                ∃ x108 : Int, cellH h106 ⟨b1, 1, none⟩ = some (.int .u32 x108) ∧
                ∃ (a109 : Option Addr) (la109 ca109 : Nat), cellH h106 ⟨b1, 2, none⟩ = some (.slice a109 la109 ca109) ∧
                ∃ x110 : Int, cellH h106 ⟨b1, 3, none⟩ = some (.int .i64 x110) ∧
                R (.tuple #[.agg #[.bool b107, .int .u32 x108, .slice a109 la109 ca109, .int .i64 x110], .bool true]) h106)
              (VSlice 1 a58 ca58 12 (IntKind.u32.wrap (12 + x71)) (ca58 : Int) fun a111 la111 ca111 =>
                CallsH Tryd.prog 54 #[.slice a111 la111 ca111] h91 fun v112 h113 =>
                ∃ (a114 : Option Addr) (la114 ca114 : Nat), v112 = .slice a114 la114 ca114 ∧
                CallsH Tryd.prog 56 #[.slice a114 la114 ca114] h113 fun v115 h116 =>
                ∃ x117 : Int, v115 = .int .u32 x117 ∧
                cond (x117 != x74)
                (∃ b118 : Bool, cellH h116 ⟨b3, 0, none⟩ = some (.bool b118) ∧
                  ∃ x119 : Int, cellH h116 ⟨b3, 1, none⟩ = some (.int .u32 x119) ∧
                  ∃ (a120 : Option Addr) (la120 ca120 : Nat), cellH h116 ⟨b3, 2, none⟩ = some (.slice a120 la120 ca120) ∧
                  ∃ x121 : Int, cellH h116 ⟨b3, 3, none⟩ = some (.int .i64 x121) ∧
                  storeL ⟨b1, 0, none⟩ 0 [.bool b118, .int .u32 x119, .slice a120 la120 ca120, .int .i64 x121] h116 fun h122 =>
                  ∃ b123 : Bool, cellH h122 ⟨b1, 0, none⟩ = some (.bool b123) ∧
                  ∃ x124 : Int, cellH h122 ⟨b1, 1, none⟩ = some (.int .u32 x124) ∧
                  ∃ (a125 : Option Addr) (la125 ca125 : Nat), cellH h122 ⟨b1, 2, none⟩ = some (.slice a125 la125 ca125) ∧
                  ∃ x126 : Int, cellH h122 ⟨b1, 3, none⟩ = some (.int .i64 x126) ∧
                  R (.tuple #[.agg #[.bool b123, .int .u32 x124, .slice a125 la125 ca125, .int .i64 x126], .bool false]) h122)
                (∃ (a127 : Option Addr) (la127 ca127 : Nat), cellH h116 ⟨b3, 2, none⟩ = some (.slice a127 la127 ca127) ∧
                  VNew h116 (.cells #[.slice a114 la114 ca114] 26) fun b128 h129 =>
                  RunsTo Tryd.prog (Builtin.append_ #[25, 25] 25 #[.slice a127 la127 ca127, .slice (some ⟨b128, 0, none⟩) 1 1]) h129 fun v130 h131 =>
                  ∃ (a132 : Option Addr) (la132 ca132 : Nat), v130 = .slice a132 la132 ca132 ∧
                  VStore h131 ⟨b3, 2, none⟩ (.slice a132 la132 ca132) fun h133 =>
                  ∃ x134 : Int, cellH h133 ⟨b3, 3, none⟩ = some (.int .i64 x134) ∧
                  VStore h133 ⟨b3, 3, none⟩ (.int .i64 (IntKind.i64.wrap (x134 + (IntKind.i64.wrap (12 + (IntKind.i64.wrap x71)))))) fun h135 =>
                  ∃ m56, m56 < n52 ∧ I51 m56 h135 y_55))))))))
theorem vf38 (a0b : Option Addr) (la0b ca0b : Nat) (h : Heap) (R : KV) (hF : F38 a0b la0b ca0b h R) : CallsH Tryd.prog 38 #[.slice a0b la0b ca0b] h R :=
  calls_of_vc (A := an38) (fn := Tryd.f38) (c := c38) (args := [.slice a0b la0b ca0b]) Tryd.func38 (by kernel_rfl) mixed (by kernel_rfl) (Eq.mp (by kernel_rfl : F38 a0b la0b ca0b h R = vcF Tryd.prog an38 Tryd.f38 c38 [.slice a0b la0b ca0b] h R) hF)
/-! ### 39 (refrain/refrainlaw23.Story).last -/
noncomputable def c39 : Code := match Tryd.f39.body with | some c => c | none => .skip
noncomputable def an39 : Ann := { loops := fun i => [], draws := fun i => match i with | 1 => #[0, 1, 3, 7, 0, 16, 48, 112, 240, 496, 1023, 2047, 4095] | _ => #[], joins := fun i => none }
def F39 (a0s : Option Addr) (h : Heap) (R : KV) : Prop :=
  VNew h (.cells #[.int .i64 0, .slice none 0 0] 50) fun b1 h2 =>
  VSome a0s fun a3 =>
  ∃ (a4 : Option Addr) (la4 ca4 : Nat), cellH h2 a3 = some (.slice a4 la4 ca4) ∧
  VSome a0s fun a5 =>
  ∃ (a6 : Option Addr) (la6 ca6 : Nat), cellH h2 a5 = some (.slice a6 la6 ca6) ∧
  VIdx a4 la4 (IntKind.i64.wrap ((la6 : Int) - 1)) 2 fun a7 =>
  ∃ x8 : Int, cellH h2 a7 = some (.int .i64 x8) ∧
  ∃ (a9 : Option Addr) (la9 ca9 : Nat), cellH h2 ⟨a7.block, a7.off + 1, none⟩ = some (.slice a9 la9 ca9) ∧
  storeL ⟨b1, 0, none⟩ 0 [.int .i64 x8, .slice a9 la9 ca9] h2 fun h10 =>
  ∃ x11 : Int, cellH h10 ⟨b1, 0, none⟩ = some (.int .i64 x11) ∧
  ∃ (a12 : Option Addr) (la12 ca12 : Nat), cellH h10 ⟨b1, 1, none⟩ = some (.slice a12 la12 ca12) ∧
  R (.agg #[.int .i64 x11, .slice a12 la12 ca12]) h10
theorem vf39 (a0s : Option Addr) (h : Heap) (R : KV) (hF : F39 a0s h R) : CallsH Tryd.prog 39 #[.pointer a0s] h R :=
  calls_of_vc (A := an39) (fn := Tryd.f39) (c := c39) (args := [.pointer a0s]) Tryd.func39 (by kernel_rfl) mixed (by kernel_rfl) (Eq.mp (by kernel_rfl : F39 a0s h R = vcF Tryd.prog an39 Tryd.f39 c39 [.pointer a0s] h R) hF)
/-! ### 40 refrain/refrainlaw23.over -/
noncomputable def c40 : Code := match Tryd.f40.body with | some c => c | none => .skip
noncomputable def an40 : Ann := { loops := fun i => match i with | 3 => [(3, .slc), (4, .int .i64)] | _ => [], draws := fun i => #[], joins := fun i => none }
def F40 (a0l : Option Addr) (la0l ca0l : Nat) (h : Heap) (R : KV) : Prop :=
  ∃ I1 : Nat → Heap → Option Addr → Nat → Nat → Int → Prop, (∃ n2, I1 n2 h none 0 0 0) ∧
  ∀ (n2 : Nat) (h3 : Heap) (g4 : Env) (m_5 : Option Addr) (lm_5 cm_5 : Nat) (i_6 : Int), I1 n2 h3 m_5 lm_5 cm_5 i_6 →
  cond (decide (i_6 < (la0l : Int)))
  (VIdx a0l la0l i_6 1 fun a8 =>
    ∃ (a9 : Option Addr) (la9 ca9 : Nat), cellH h3 a8 = some (.slice a9 la9 ca9) ∧
    RunsTo Tryd.prog (Builtin.append_ #[26, 26] 26 #[.slice none 0 0, .slice a9 la9 ca9]) h3 fun v10 h11 =>
    ∃ (a12 : Option Addr) (la12 ca12 : Nat), v10 = .slice a12 la12 ca12 ∧
    VNew h11 (.cells #[.slice a12 la12 ca12] 26) fun b13 h14 =>
    RunsTo Tryd.prog (Builtin.append_ #[25, 25] 25 #[.slice m_5 lm_5 cm_5, .slice (some ⟨b13, 0, none⟩) 1 1]) h14 fun v15 h16 =>
    ∃ (a17 : Option Addr) (la17 ca17 : Nat), v15 = .slice a17 la17 ca17 ∧
    ∃ m7, m7 < n2 ∧ I1 m7 h16 a17 la17 ca17 (IntKind.i64.wrap (i_6 + 1)))
  (R (.slice m_5 lm_5 cm_5) h3)
theorem vf40 (a0l : Option Addr) (la0l ca0l : Nat) (h : Heap) (R : KV) (hF : F40 a0l la0l ca0l h R) : CallsH Tryd.prog 40 #[.slice a0l la0l ca0l] h R :=
  calls_of_vc (A := an40) (fn := Tryd.f40) (c := c40) (args := [.slice a0l la0l ca0l]) Tryd.func40 (by kernel_rfl) mixed (by kernel_rfl) (Eq.mp (by kernel_rfl : F40 a0l la0l ca0l h R = vcF Tryd.prog an40 Tryd.f40 c40 [.slice a0l la0l ca0l] h R) hF)
/-! ### 41 refrain/refrainlaw23.mark -/
noncomputable def c41 : Code := match Tryd.f41.body with | some c => c | none => .skip
noncomputable def an41 : Ann := { loops := fun i => [], draws := fun i => #[], joins := fun i => none }
def F41 (a0i : Int) (a1k : Int) (h : Heap) (R : KV) : Prop :=
  (4 : Int) ≠ (0 : Int) ∧
  (3 : Int) ≠ (0 : Int) ∧
  (0 : Int) ≤ (IntKind.i64.wrap (8 * (Int.tmod a1k 3))) ∧
  R (.int .u8 (IntKind.u8.wrap (Int.fdiv (IntKind.i64.wrap (1 + (IntKind.i64.wrap (Int.tdiv a0i 4)))) (2 ^ (min (Int.toNat (IntKind.i64.wrap (8 * (Int.tmod a1k 3)))) (IntKind.bits .i64)))))) h
theorem vf41 (a0i : Int) (a1k : Int) (h : Heap) (R : KV) (hF : F41 a0i a1k h R) : CallsH Tryd.prog 41 #[.int .i64 a0i, .int .i64 a1k] h R :=
  calls_of_vc (A := an41) (fn := Tryd.f41) (c := c41) (args := [.int .i64 a0i, .int .i64 a1k]) Tryd.func41 (by kernel_rfl) mixed (by kernel_rfl) (Eq.mp (by kernel_rfl : F41 a0i a1k h R = vcF Tryd.prog an41 Tryd.f41 c41 [.int .i64 a0i, .int .i64 a1k] h R) hF)
/-! ### 42 refrain/refrainlaw23.longer -/
noncomputable def c42 : Code := match Tryd.f42.body with | some c => c | none => .skip
noncomputable def an42 : Ann := { loops := fun i => match i with | 2 => [(0, .slc), (7, .int .i64)] | _ => [], draws := fun i => #[], joins := fun i => none }
def F42 (a0l : Option Addr) (la0l ca0l : Nat) (a1i : Int) (a2n : Int) (h : Heap) (R : KV) : Prop :=
  ∃ I1 : Nat → Heap → Option Addr → Nat → Nat → Int → Prop, (∃ n2, I1 n2 h a0l la0l ca0l 0) ∧
  ∀ (n2 : Nat) (h3 : Heap) (g4 : Env) (l_5 : Option Addr) (ll_5 cl_5 : Nat) (k_6 : Int), I1 n2 h3 l_5 ll_5 cl_5 k_6 →
  cond (decide (k_6 < a2n))
  (CallsH Tryd.prog 41 #[.int .i64 a1i, .int .i64 (ll_5 : Int)] h3 fun v8 h9 =>
    ∃ x10 : Int, v8 = .int .u8 x10 ∧
    VNew h9 (.cells #[.int .u8 x10] 5) fun b11 h12 =>
    RunsTo Tryd.prog (Builtin.append_ #[26, 26] 26 #[.slice l_5 ll_5 cl_5, .slice (some ⟨b11, 0, none⟩) 1 1]) h12 fun v13 h14 =>
    ∃ (a15 : Option Addr) (la15 ca15 : Nat), v13 = .slice a15 la15 ca15 ∧
    ∃ m7, m7 < n2 ∧ I1 m7 h14 a15 la15 ca15 (IntKind.i64.wrap (k_6 + 1)))
  (R (.slice l_5 ll_5 cl_5) h3)
theorem vf42 (a0l : Option Addr) (la0l ca0l : Nat) (a1i : Int) (a2n : Int) (h : Heap) (R : KV) (hF : F42 a0l la0l ca0l a1i a2n h R) : CallsH Tryd.prog 42 #[.slice a0l la0l ca0l, .int .i64 a1i, .int .i64 a2n] h R :=
  calls_of_vc (A := an42) (fn := Tryd.f42) (c := c42) (args := [.slice a0l la0l ca0l, .int .i64 a1i, .int .i64 a2n]) Tryd.func42 (by kernel_rfl) mixed (by kernel_rfl) (Eq.mp (by kernel_rfl : F42 a0l la0l ca0l a1i a2n h R = vcF Tryd.prog an42 Tryd.f42 c42 [.slice a0l la0l ca0l, .int .i64 a1i, .int .i64 a2n] h R) hF)
/-! ### 43 refrain/refrainlaw23.room -/
noncomputable def c43 : Code := match Tryd.f43.body with | some c => c | none => .skip
noncomputable def an43 : Ann := { loops := fun i => [], draws := fun i => #[], joins := fun i => none }
def F43 (a0n : Int) (h : Heap) (R : KV) : Prop :=
  R (.int .i64 (minI a0n 70000)) h
theorem vf43 (a0n : Int) (h : Heap) (R : KV) (hF : F43 a0n h R) : CallsH Tryd.prog 43 #[.int .i64 a0n] h R :=
  calls_of_vc (A := an43) (fn := Tryd.f43) (c := c43) (args := [.int .i64 a0n]) Tryd.func43 (by kernel_rfl) mixed (by kernel_rfl) (Eq.mp (by kernel_rfl : F43 a0n h R = vcF Tryd.prog an43 Tryd.f43 c43 [.int .i64 a0n] h R) hF)
/-! ### 44 (refrain/log.Log).begin -/
noncomputable def c44 : Code := match Tryd.f44.body with | some c => c | none => .skip
noncomputable def an44 : Ann := { loops := fun i => [], draws := fun i => #[], joins := fun i => none }
def F44 (a0l : Option Addr) (a1seg : Int) (a2number : Int) (a3rec : Option Addr) (la3rec ca3rec : Nat) (h : Heap) (R : KV) : Prop :=
  VSome a0l fun a1 =>
  VStore h ⟨a1.block, a1.off + 3, none⟩ (.int .u32 a2number) fun h2 =>
  VSome a0l fun a3 =>
  VStore h2 ⟨a3.block, a3.off + 4, none⟩ (.int .u32 1) fun h4 =>
  CallsH Tryd.prog 58 #[.int .u32 a2number] h4 fun v5 h6 =>
  ∃ (a7 : Option Addr) (la7 ca7 : Nat), v5 = .slice a7 la7 ca7 ∧
  CallsH Tryd.prog 45 #[.int .u32 a2number, .int .u32 0, .slice a3rec la3rec ca3rec] h6 fun v8 h9 =>
  ∃ (a10 : Option Addr) (la10 ca10 : Nat), v8 = .slice a10 la10 ca10 ∧
  RunsTo Tryd.prog (Builtin.append_ #[26, 26] 26 #[.slice a7 la7 ca7, .slice a10 la10 ca10]) h9 fun v11 h12 =>
  ∃ (a13 : Option Addr) (la13 ca13 : Nat), v11 = .slice a13 la13 ca13 ∧
  CallsH Tryd.prog 46 #[.pointer a0l, .int .i64 a1seg, .int .i64 0, .slice a13 la13 ca13] h12 fun v14 h15 =>
  v14 = .tuple #[] ∧
  R (.tuple #[]) h15
theorem vf44 (a0l : Option Addr) (a1seg : Int) (a2number : Int) (a3rec : Option Addr) (la3rec ca3rec : Nat) (h : Heap) (R : KV) (hF : F44 a0l a1seg a2number a3rec la3rec ca3rec h R) : CallsH Tryd.prog 44 #[.pointer a0l, .int .i64 a1seg, .int .u32 a2number, .slice a3rec la3rec ca3rec] h R :=
  calls_of_vc (A := an44) (fn := Tryd.f44) (c := c44) (args := [.pointer a0l, .int .i64 a1seg, .int .u32 a2number, .slice a3rec la3rec ca3rec]) Tryd.func44 (by kernel_rfl) mixed (by kernel_rfl) (Eq.mp (by kernel_rfl : F44 a0l a1seg a2number a3rec la3rec ca3rec h R = vcF Tryd.prog an44 Tryd.f44 c44 [.pointer a0l, .int .i64 a1seg, .int .u32 a2number, .slice a3rec la3rec ca3rec] h R) hF)
/-! ### 45 refrain/log.frame -/
noncomputable def c45 : Code := match Tryd.f45.body with | some c => c | none => .skip
noncomputable def an45 : Ann := { loops := fun i => [], draws := fun i => #[], joins := fun i => none }
def F45 (a0seg : Int) (a1at : Int) (a2rec : Option Addr) (la2rec ca2rec : Nat) (h : Heap) (R : KV) : Prop :=
  CallsH Tryd.prog 56 #[.slice a2rec la2rec ca2rec] h fun v1 h2 =>
  ∃ x3 : Int, v1 = .int .u32 x3 ∧
  CallsH Tryd.prog 57 #[.int .u32 a0seg, .int .u32 a1at, .int .u32 (IntKind.u32.wrap (la2rec : Int)), .int .u32 x3] h2 fun v4 h5 =>
  ∃ x6 : Int, v4 = .int .u32 x6 ∧
  VNew h5 (.cells #[.int .u32 (IntKind.u32.wrap (la2rec : Int)), .int .u32 x3, .int .u32 x6] 79) fun b7 h8 =>
  CallsH Tryd.prog 59 #[.slice none 0 0, .slice (some ⟨b7, 0, none⟩) 3 3] h8 fun v9 h10 =>
  ∃ (a11 : Option Addr) (la11 ca11 : Nat), v9 = .slice a11 la11 ca11 ∧
  RunsTo Tryd.prog (Builtin.append_ #[26, 26] 26 #[.slice a11 la11 ca11, .slice a2rec la2rec ca2rec]) h10 fun v12 h13 =>
  ∃ (a14 : Option Addr) (la14 ca14 : Nat), v12 = .slice a14 la14 ca14 ∧
  R (.slice a14 la14 ca14) h13
theorem vf45 (a0seg : Int) (a1at : Int) (a2rec : Option Addr) (la2rec ca2rec : Nat) (h : Heap) (R : KV) (hF : F45 a0seg a1at a2rec la2rec ca2rec h R) : CallsH Tryd.prog 45 #[.int .u32 a0seg, .int .u32 a1at, .slice a2rec la2rec ca2rec] h R :=
  calls_of_vc (A := an45) (fn := Tryd.f45) (c := c45) (args := [.int .u32 a0seg, .int .u32 a1at, .slice a2rec la2rec ca2rec]) Tryd.func45 (by kernel_rfl) mixed (by kernel_rfl) (Eq.mp (by kernel_rfl : F45 a0seg a1at a2rec la2rec ca2rec h R = vcF Tryd.prog an45 Tryd.f45 c45 [.int .u32 a0seg, .int .u32 a1at, .slice a2rec la2rec ca2rec] h R) hF)
/-! ### 46 (refrain/log.Log).put -/
noncomputable def c46 : Code := match Tryd.f46.body with | some c => c | none => .skip
noncomputable def an46 : Ann := { loops := fun i => [], draws := fun i => #[], joins := fun i => none }
def F46 (a0l : Option Addr) (a1seg : Int) (a2at : Int) (a3b : Option Addr) (la3b ca3b : Nat) (h : Heap) (R : KV) : Prop :=
  VSome a0l fun a1 =>
  ∃ (a2 : Option Addr) (la2 ca2 : Nat), cellH h ⟨a1.block, a1.off + 1, none⟩ = some (.slice a2 la2 ca2) ∧
  VNew h (.cells #[.int .i64 a1seg, .int .i64 a2at, .slice a3b la3b ca3b] 83) fun b3 h4 =>
  RunsTo Tryd.prog (Builtin.append_ #[78, 78] 78 #[.slice a2 la2 ca2, .slice (some ⟨b3, 0, none⟩) 1 1]) h4 fun v5 h6 =>
  ∃ (a7 : Option Addr) (la7 ca7 : Nat), v5 = .slice a7 la7 ca7 ∧
  VSome a0l fun a8 =>
  VStore h6 ⟨a8.block, a8.off + 1, none⟩ (.slice a7 la7 ca7) fun h9 =>
  VSome a0l fun a10 =>
  VStore h9 ⟨a10.block, a10.off + 2, none⟩ (.int .i64 a1seg) fun h11 =>
  VSome a0l fun a12 =>
  VStore h11 ⟨a12.block, a12.off + 5, none⟩ (.int .i64 (IntKind.i64.wrap (a2at + (la3b : Int)))) fun h13 =>
  R (.tuple #[]) h13
theorem vf46 (a0l : Option Addr) (a1seg : Int) (a2at : Int) (a3b : Option Addr) (la3b ca3b : Nat) (h : Heap) (R : KV) (hF : F46 a0l a1seg a2at a3b la3b ca3b h R) : CallsH Tryd.prog 46 #[.pointer a0l, .int .i64 a1seg, .int .i64 a2at, .slice a3b la3b ca3b] h R :=
  calls_of_vc (A := an46) (fn := Tryd.f46) (c := c46) (args := [.pointer a0l, .int .i64 a1seg, .int .i64 a2at, .slice a3b la3b ca3b]) Tryd.func46 (by kernel_rfl) mixed (by kernel_rfl) (Eq.mp (by kernel_rfl : F46 a0l a1seg a2at a3b la3b ca3b h R = vcF Tryd.prog an46 Tryd.f46 c46 [.pointer a0l, .int .i64 a1seg, .int .i64 a2at, .slice a3b la3b ca3b] h R) hF)
/-! ### 47 slices.Clone[[][]byte,[]byte] -/
noncomputable def c47 : Code := match Tryd.f47.body with | some c => c | none => .skip
noncomputable def an47 : Ann := { loops := fun i => [], draws := fun i => #[], joins := fun i => none }
def F47 (a0s : Option Addr) (la0s ca0s : Nat) (h : Heap) (R : KV) : Prop :=
  cond a0s.isNone
  (R (.slice none 0 0) h)
  (VNew h (.cells #[] 26) fun b1 h2 =>
    RunsTo Tryd.prog (Builtin.append_ #[25, 25] 25 #[.slice (some ⟨b1, 0, none⟩) 0 0, .slice a0s la0s ca0s]) h2 fun v3 h4 =>
    ∃ (a5 : Option Addr) (la5 ca5 : Nat), v3 = .slice a5 la5 ca5 ∧
    R (.slice a5 la5 ca5) h4)
theorem vf47 (a0s : Option Addr) (la0s ca0s : Nat) (h : Heap) (R : KV) (hF : F47 a0s la0s ca0s h R) : CallsH Tryd.prog 47 #[.slice a0s la0s ca0s] h R :=
  calls_of_vc (A := an47) (fn := Tryd.f47) (c := c47) (args := [.slice a0s la0s ca0s]) Tryd.func47 (by kernel_rfl) mixed (by kernel_rfl) (Eq.mp (by kernel_rfl : F47 a0s la0s ca0s h R = vcF Tryd.prog an47 Tryd.f47 c47 [.slice a0s la0s ca0s] h R) hF)
/-! ### 48 refrain/refrainref23.clone -/
noncomputable def c48 : Code := match Tryd.f48.body with | some c => c | none => .skip
noncomputable def an48 : Ann := { loops := fun i => match i with | 3 => [(3, .slc), (4, .int .i64)] | _ => [], draws := fun i => #[], joins := fun i => none }
def F48 (a0l : Option Addr) (la0l ca0l : Nat) (h : Heap) (R : KV) : Prop :=
  ∃ I1 : Nat → Heap → Option Addr → Nat → Nat → Int → Prop, (∃ n2, I1 n2 h none 0 0 0) ∧
  ∀ (n2 : Nat) (h3 : Heap) (g4 : Env) (m_5 : Option Addr) (lm_5 cm_5 : Nat) (i_6 : Int), I1 n2 h3 m_5 lm_5 cm_5 i_6 →
  cond (decide (i_6 < (la0l : Int)))
  (VIdx a0l la0l i_6 1 fun a8 =>
    ∃ (a9 : Option Addr) (la9 ca9 : Nat), cellH h3 a8 = some (.slice a9 la9 ca9) ∧
    RunsTo Tryd.prog (Builtin.append_ #[26, 26] 26 #[.slice none 0 0, .slice a9 la9 ca9]) h3 fun v10 h11 =>
    ∃ (a12 : Option Addr) (la12 ca12 : Nat), v10 = .slice a12 la12 ca12 ∧
    VNew h11 (.cells #[.slice a12 la12 ca12] 26) fun b13 h14 =>
    RunsTo Tryd.prog (Builtin.append_ #[25, 25] 25 #[.slice m_5 lm_5 cm_5, .slice (some ⟨b13, 0, none⟩) 1 1]) h14 fun v15 h16 =>
    ∃ (a17 : Option Addr) (la17 ca17 : Nat), v15 = .slice a17 la17 ca17 ∧
    ∃ m7, m7 < n2 ∧ I1 m7 h16 a17 la17 ca17 (IntKind.i64.wrap (i_6 + 1)))
  (R (.slice m_5 lm_5 cm_5) h3)
theorem vf48 (a0l : Option Addr) (la0l ca0l : Nat) (h : Heap) (R : KV) (hF : F48 a0l la0l ca0l h R) : CallsH Tryd.prog 48 #[.slice a0l la0l ca0l] h R :=
  calls_of_vc (A := an48) (fn := Tryd.f48) (c := c48) (args := [.slice a0l la0l ca0l]) Tryd.func48 (by kernel_rfl) mixed (by kernel_rfl) (Eq.mp (by kernel_rfl : F48 a0l la0l ca0l h R = vcF Tryd.prog an48 Tryd.f48 c48 [.slice a0l la0l ca0l] h R) hF)
/-! ### 49 refrain/refrainref23.read -/
noncomputable def c49 : Code := match Tryd.f49.body with | some c => c | none => .skip
noncomputable def an49 : Ann := { loops := fun i => match i with | 6 => [] | _ => [], draws := fun i => match i with | 3 => #[0, 1, 3, 7, 15, 31, 63, 127, 255, 511, 1023, 2047, 4095, 8191, 16383, 32767, 65535, 131071, 262143, 524287, 1048575, 2097151, 4194303, 8388607, 16777215, 8388607, 41943039, 134217727, 268435455, 536870911] | 9 => #[0, 1, 3, 7, 7, 23, 55, 127, 7, 263, 7, 1031, 3079, 7175, 7, 7, 65535, 131071, 262143] | _ => #[], joins := fun i => none }
def F49 (a0b : Option Addr) (la0b ca0b : Nat) (h : Heap) (R : KV) : Prop :=
  VNew h (.cells #[.bool false, .bool false, .int .u32 0, .slice none 0 0, .int .i64 0] 103) fun b1 h2 =>
  cond (decide ((la0b : Int) < (12 : Int)))
  (storeL ⟨b1, 0, none⟩ 0 [.bool true, .bool false, .int .u32 0, .slice none 0 0, .int .i64 0] h2 fun h3 =>
    ∃ b4 : Bool, cellH h3 ⟨b1, 0, none⟩ = some (.bool b4) ∧
    ∃ b5 : Bool, cellH h3 ⟨b1, 1, none⟩ = some (.bool b5) ∧
    ∃ x6 : Int, cellH h3 ⟨b1, 2, none⟩ = some (.int .u32 x6) ∧
    ∃ (a7 : Option Addr) (la7 ca7 : Nat), cellH h3 ⟨b1, 3, none⟩ = some (.slice a7 la7 ca7) ∧
    ∃ x8 : Int, cellH h3 ⟨b1, 4, none⟩ = some (.int .i64 x8) ∧
    R (.agg #[.bool b4, .bool b5, .int .u32 x6, .slice a7 la7 ca7, .int .i64 x8]) h3)
  (VIdx a0b la0b 0 1 fun a9 =>
    ∃ x10 : Int, cellH h2 a9 = some (.int .u8 x10) ∧
    cond (x10 != (114 : Int)) (storeL ⟨b1, 0, none⟩ 0 [.bool false, .bool true, .int .u32 0, .slice none 0 0, .int .i64 0] h2 fun h11 =>
      ∃ b12 : Bool, cellH h11 ⟨b1, 0, none⟩ = some (.bool b12) ∧
      ∃ b13 : Bool, cellH h11 ⟨b1, 1, none⟩ = some (.bool b13) ∧
      ∃ x14 : Int, cellH h11 ⟨b1, 2, none⟩ = some (.int .u32 x14) ∧
      ∃ (a15 : Option Addr) (la15 ca15 : Nat), cellH h11 ⟨b1, 3, none⟩ = some (.slice a15 la15 ca15) ∧
      ∃ x16 : Int, cellH h11 ⟨b1, 4, none⟩ = some (.int .i64 x16) ∧
      R (.agg #[.bool b12, .bool b13, .int .u32 x14, .slice a15 la15 ca15, .int .i64 x16]) h11) (VIdx a0b la0b 1 1 fun a17 =>
      ∃ x18 : Int, cellH h2 a17 = some (.int .u8 x18) ∧
      cond (x18 != (108 : Int)) (storeL ⟨b1, 0, none⟩ 0 [.bool false, .bool true, .int .u32 0, .slice none 0 0, .int .i64 0] h2 fun h19 =>
        ∃ b20 : Bool, cellH h19 ⟨b1, 0, none⟩ = some (.bool b20) ∧
        ∃ b21 : Bool, cellH h19 ⟨b1, 1, none⟩ = some (.bool b21) ∧
        ∃ x22 : Int, cellH h19 ⟨b1, 2, none⟩ = some (.int .u32 x22) ∧
        ∃ (a23 : Option Addr) (la23 ca23 : Nat), cellH h19 ⟨b1, 3, none⟩ = some (.slice a23 la23 ca23) ∧
        ∃ x24 : Int, cellH h19 ⟨b1, 4, none⟩ = some (.int .i64 x24) ∧
        R (.agg #[.bool b20, .bool b21, .int .u32 x22, .slice a23 la23 ca23, .int .i64 x24]) h19) (VIdx a0b la0b 2 1 fun a25 =>
        ∃ x26 : Int, cellH h2 a25 = some (.int .u8 x26) ∧
        cond (x26 != (111 : Int)) (storeL ⟨b1, 0, none⟩ 0 [.bool false, .bool true, .int .u32 0, .slice none 0 0, .int .i64 0] h2 fun h27 =>
          ∃ b28 : Bool, cellH h27 ⟨b1, 0, none⟩ = some (.bool b28) ∧
          ∃ b29 : Bool, cellH h27 ⟨b1, 1, none⟩ = some (.bool b29) ∧
          ∃ x30 : Int, cellH h27 ⟨b1, 2, none⟩ = some (.int .u32 x30) ∧
          ∃ (a31 : Option Addr) (la31 ca31 : Nat), cellH h27 ⟨b1, 3, none⟩ = some (.slice a31 la31 ca31) ∧
          ∃ x32 : Int, cellH h27 ⟨b1, 4, none⟩ = some (.int .i64 x32) ∧
          R (.agg #[.bool b28, .bool b29, .int .u32 x30, .slice a31 la31 ca31, .int .i64 x32]) h27) (VIdx a0b la0b 3 1 fun a33 =>
          ∃ x34 : Int, cellH h2 a33 = some (.int .u8 x34) ∧
          cond (x34 != (103 : Int)) (storeL ⟨b1, 0, none⟩ 0 [.bool false, .bool true, .int .u32 0, .slice none 0 0, .int .i64 0] h2 fun h35 =>
            ∃ b36 : Bool, cellH h35 ⟨b1, 0, none⟩ = some (.bool b36) ∧
            ∃ b37 : Bool, cellH h35 ⟨b1, 1, none⟩ = some (.bool b37) ∧
            ∃ x38 : Int, cellH h35 ⟨b1, 2, none⟩ = some (.int .u32 x38) ∧
            ∃ (a39 : Option Addr) (la39 ca39 : Nat), cellH h35 ⟨b1, 3, none⟩ = some (.slice a39 la39 ca39) ∧
            ∃ x40 : Int, cellH h35 ⟨b1, 4, none⟩ = some (.int .i64 x40) ∧
            R (.agg #[.bool b36, .bool b37, .int .u32 x38, .slice a39 la39 ca39, .int .i64 x40]) h35) (VSlice 1 a0b ca0b 0 8 (ca0b : Int) fun a41 la41 ca41 =>
            CallsH Tryd.prog 60 #[.slice a0b la0b ca0b, .int .i64 8] h2 fun v42 h43 =>
            ∃ x44 : Int, v42 = .int .u32 x44 ∧
            CallsH Tryd.prog 61 #[.slice a41 la41 ca41] h43 fun v45 h46 =>
            ∃ x47 : Int, v45 = .int .u32 x47 ∧
            cond (x44 != x47)
            (storeL ⟨b1, 0, none⟩ 0 [.bool false, .bool true, .int .u32 0, .slice none 0 0, .int .i64 0] h46 fun h48 =>
              ∃ b49 : Bool, cellH h48 ⟨b1, 0, none⟩ = some (.bool b49) ∧
              ∃ b50 : Bool, cellH h48 ⟨b1, 1, none⟩ = some (.bool b50) ∧
              ∃ x51 : Int, cellH h48 ⟨b1, 2, none⟩ = some (.int .u32 x51) ∧
              ∃ (a52 : Option Addr) (la52 ca52 : Nat), cellH h48 ⟨b1, 3, none⟩ = some (.slice a52 la52 ca52) ∧
              ∃ x53 : Int, cellH h48 ⟨b1, 4, none⟩ = some (.int .i64 x53) ∧
              R (.agg #[.bool b49, .bool b50, .int .u32 x51, .slice a52 la52 ca52, .int .i64 x53]) h48)
            (CallsH Tryd.prog 60 #[.slice a0b la0b ca0b, .int .i64 4] h46 fun v54 h55 =>
              ∃ x56 : Int, v54 = .int .u32 x56 ∧
              VNew h55 (.cells #[.bool false, .bool false, .int .u32 0, .slice none 0 0, .int .i64 0] 103) fun b57 h58 =>
              storeL ⟨b57, 0, none⟩ 0 [.bool false, .bool false, .int .u32 x56, .slice none 0 0, .int .i64 12] h58 fun h59 =>
              ∃ I60 : Nat → Heap → Prop, (∃ n61, I60 n61 h59) ∧
              ∀ (n61 : Nat) (h62 : Heap) (g63 : Env), I60 n61 h62 →
              ∃ x65 : Int, cellH h62 ⟨b57, 4, none⟩ = some (.int .i64 x65) ∧
              cond (decide ((IntKind.i64.wrap ((la0b : Int) - x65)) ≥ (12 : Int)))
              (∃ x66 : Int, cellH h62 ⟨b57, 4, none⟩ = some (.int .i64 x66) ∧
                CallsH Tryd.prog 60 #[.slice a0b la0b ca0b, .int .i64 x66] h62 fun v67 h68 =>
                ∃ x69 : Int, v67 = .int .u32 x69 ∧
                ∃ x70 : Int, cellH h68 ⟨b57, 4, none⟩ = some (.int .i64 x70) ∧
                CallsH Tryd.prog 60 #[.slice a0b la0b ca0b, .int .i64 (IntKind.i64.wrap (x70 + 4))] h68 fun v71 h72 =>
                ∃ x73 : Int, v71 = .int .u32 x73 ∧
                cond (decide (x69 > (1048576 : Int))) (storeL ⟨b1, 0, none⟩ 0 [.bool false, .bool true, .int .u32 0, .slice none 0 0, .int .i64 0] h72 fun h74 =>
                  ∃ b75 : Bool, cellH h74 ⟨b1, 0, none⟩ = some (.bool b75) ∧
                  ∃ b76 : Bool, cellH h74 ⟨b1, 1, none⟩ = some (.bool b76) ∧
                  ∃ x77 : Int, cellH h74 ⟨b1, 2, none⟩ = some (.int .u32 x77) ∧
                  ∃ (a78 : Option Addr) (la78 ca78 : Nat), cellH h74 ⟨b1, 3, none⟩ = some (.slice a78 la78 ca78) ∧
                  ∃ x79 : Int, cellH h74 ⟨b1, 4, none⟩ = some (.int .i64 x79) ∧
                  R (.agg #[.bool b75, .bool b76, .int .u32 x77, .slice a78 la78 ca78, .int .i64 x79]) h74) (∃ x80 : Int, cellH h72 ⟨b57, 4, none⟩ = some (.int .i64 x80) ∧
                  ∃ x81 : Int, cellH h72 ⟨b57, 2, none⟩ = some (.int .u32 x81) ∧
                  ∃ (a82 : Option Addr) (la82 ca82 : Nat), cellH h72 ⟨b57, 3, none⟩ = some (.slice a82 la82 ca82) ∧
                  CallsH Tryd.prog 60 #[.slice a0b la0b ca0b, .int .i64 (IntKind.i64.wrap (x80 + 8))] h72 fun v83 h84 =>
                  ∃ x85 : Int, v83 = .int .u32 x85 ∧
                  (cellH h84 ⟨b57, 3, none⟩ = some (.slice a82 la82 ca82)) ∧
                  (cellH h84 ⟨b57, 2, none⟩ = some (.int .u32 x81)) ∧
                  CallsH Tryd.prog 62 #[.int .u32 x81, .int .u32 (IntKind.u32.wrap (la82 : Int)), .int .u32 x69, .int .u32 x73] h84 fun v86 h87 =>
                  ∃ x88 : Int, v86 = .int .u32 x88 ∧
                  cond (x85 != x88)
                  (storeL ⟨b1, 0, none⟩ 0 [.bool false, .bool true, .int .u32 0, .slice none 0 0, .int .i64 0] h87 fun h89 =>
                    ∃ b90 : Bool, cellH h89 ⟨b1, 0, none⟩ = some (.bool b90) ∧
                    ∃ b91 : Bool, cellH h89 ⟨b1, 1, none⟩ = some (.bool b91) ∧
                    ∃ x92 : Int, cellH h89 ⟨b1, 2, none⟩ = some (.int .u32 x92) ∧
                    ∃ (a93 : Option Addr) (la93 ca93 : Nat), cellH h89 ⟨b1, 3, none⟩ = some (.slice a93 la93 ca93) ∧
                    ∃ x94 : Int, cellH h89 ⟨b1, 4, none⟩ = some (.int .i64 x94) ∧
                    R (.agg #[.bool b90, .bool b91, .int .u32 x92, .slice a93 la93 ca93, .int .i64 x94]) h89)
                  (∃ x95 : Int, cellH h87 ⟨b57, 4, none⟩ = some (.int .i64 x95) ∧
                    cond (decide ((IntKind.i64.wrap ((la0b : Int) - (IntKind.i64.wrap (x95 + 12)))) < (IntKind.i64.wrap x69)))
                    (∃ b96 : Bool, cellH h87 ⟨b57, 0, none⟩ = some (.bool b96) ∧
                      ∃ b97 : Bool, cellH h87 ⟨b57, 1, none⟩ = some (.bool b97) ∧
                      ∃ x98 : Int, cellH h87 ⟨b57, 2, none⟩ = some (.int .u32 x98) ∧
                      ∃ (a99 : Option Addr) (la99 ca99 : Nat), cellH h87 ⟨b57, 3, none⟩ = some (.slice a99 la99 ca99) ∧
                      ∃ x100 : Int, cellH h87 ⟨b57, 4, none⟩ = some (.int .i64 x100) ∧
                      storeL ⟨b1, 0, none⟩ 0 [.bool b96, .bool b97, .int .u32 x98, .slice a99 la99 ca99, .int .i64 x100] h87 fun h101 =>
                      ∃ b102 : Bool, cellH h101 ⟨b1, 0, none⟩ = some (.bool b102) ∧
                      ∃ b103 : Bool, cellH h101 ⟨b1, 1, none⟩ = some (.bool b103) ∧
                      ∃ x104 : Int, cellH h101 ⟨b1, 2, none⟩ = some (.int .u32 x104) ∧
                      ∃ (a105 : Option Addr) (la105 ca105 : Nat), cellH h101 ⟨b1, 3, none⟩ = some (.slice a105 la105 ca105) ∧
                      ∃ x106 : Int, cellH h101 ⟨b1, 4, none⟩ = some (.int .i64 x106) ∧
                      R (.agg #[.bool b102, .bool b103, .int .u32 x104, .slice a105 la105 ca105, .int .i64 x106]) h101)
                    (VSlice 1 a0b ca0b (IntKind.i64.wrap (x95 + 12)) (IntKind.i64.wrap ((IntKind.i64.wrap (x95 + 12)) + (IntKind.i64.wrap x69))) (ca0b : Int) fun a107 la107 ca107 =>
                      RunsTo Tryd.prog (Builtin.append_ #[26, 26] 26 #[.slice none 0 0, .slice a107 la107 ca107]) h87 fun v108 h109 =>
                      ∃ (a110 : Option Addr) (la110 ca110 : Nat), v108 = .slice a110 la110 ca110 ∧
                      CallsH Tryd.prog 61 #[.slice a110 la110 ca110] h109 fun v111 h112 =>
                      ∃ x113 : Int, v111 = .int .u32 x113 ∧
                      cond (x113 != x73)
                      (storeL ⟨b1, 0, none⟩ 0 [.bool false, .bool true, .int .u32 0, .slice none 0 0, .int .i64 0] h112 fun h114 =>
                        ∃ b115 : Bool, cellH h114 ⟨b1, 0, none⟩ = some (.bool b115) ∧
                        ∃ b116 : Bool, cellH h114 ⟨b1, 1, none⟩ = some (.bool b116) ∧
                        ∃ x117 : Int, cellH h114 ⟨b1, 2, none⟩ = some (.int .u32 x117) ∧
                        ∃ (a118 : Option Addr) (la118 ca118 : Nat), cellH h114 ⟨b1, 3, none⟩ = some (.slice a118 la118 ca118) ∧
                        ∃ x119 : Int, cellH h114 ⟨b1, 4, none⟩ = some (.int .i64 x119) ∧
                        R (.agg #[.bool b115, .bool b116, .int .u32 x117, .slice a118 la118 ca118, .int .i64 x119]) h114)
                      (∃ (a120 : Option Addr) (la120 ca120 : Nat), cellH h112 ⟨b57, 3, none⟩ = some (.slice a120 la120 ca120) ∧
                        VNew h112 (.cells #[.slice a110 la110 ca110] 26) fun b121 h122 =>
                        RunsTo Tryd.prog (Builtin.append_ #[25, 25] 25 #[.slice a120 la120 ca120, .slice (some ⟨b121, 0, none⟩) 1 1]) h122 fun v123 h124 =>
                        ∃ (a125 : Option Addr) (la125 ca125 : Nat), v123 = .slice a125 la125 ca125 ∧
                        VStore h124 ⟨b57, 3, none⟩ (.slice a125 la125 ca125) fun h126 =>
                        VStore h126 ⟨b57, 4, none⟩ (.int .i64 (IntKind.i64.wrap ((IntKind.i64.wrap (x95 + 12)) + (IntKind.i64.wrap x69)))) fun h127 =>
                        ∃ m64, m64 < n61 ∧ I60 m64 h127)))))
              (∃ b128 : Bool, cellH h62 ⟨b57, 0, none⟩ = some (.bool b128) ∧
                ∃ b129 : Bool, cellH h62 ⟨b57, 1, none⟩ = some (.bool b129) ∧
                ∃ x130 : Int, cellH h62 ⟨b57, 2, none⟩ = some (.int .u32 x130) ∧
                ∃ (a131 : Option Addr) (la131 ca131 : Nat), cellH h62 ⟨b57, 3, none⟩ = some (.slice a131 la131 ca131) ∧
                ∃ x132 : Int, cellH h62 ⟨b57, 4, none⟩ = some (.int .i64 x132) ∧
                storeL ⟨b1, 0, none⟩ 0 [.bool b128, .bool b129, .int .u32 x130, .slice a131 la131 ca131, .int .i64 x132] h62 fun h133 =>
                ∃ b134 : Bool, cellH h133 ⟨b1, 0, none⟩ = some (.bool b134) ∧
                ∃ b135 : Bool, cellH h133 ⟨b1, 1, none⟩ = some (.bool b135) ∧
                ∃ x136 : Int, cellH h133 ⟨b1, 2, none⟩ = some (.int .u32 x136) ∧
                ∃ (a137 : Option Addr) (la137 ca137 : Nat), cellH h133 ⟨b1, 3, none⟩ = some (.slice a137 la137 ca137) ∧
                ∃ x138 : Int, cellH h133 ⟨b1, 4, none⟩ = some (.int .i64 x138) ∧
                R (.agg #[.bool b134, .bool b135, .int .u32 x136, .slice a137 la137 ca137, .int .i64 x138]) h133)))))))
theorem vf49 (a0b : Option Addr) (la0b ca0b : Nat) (h : Heap) (R : KV) (hF : F49 a0b la0b ca0b h R) : CallsH Tryd.prog 49 #[.slice a0b la0b ca0b] h R :=
  calls_of_vc (A := an49) (fn := Tryd.f49) (c := c49) (args := [.slice a0b la0b ca0b]) Tryd.func49 (by kernel_rfl) mixed (by kernel_rfl) (Eq.mp (by kernel_rfl : F49 a0b la0b ca0b h R = vcF Tryd.prog an49 Tryd.f49 c49 [.slice a0b la0b ca0b] h R) hF)
/-! ### 50 (refrain/log.disk).get -/
noncomputable def c50 : Code := match Tryd.f50.body with | some c => c | none => .skip
noncomputable def an50 : Ann := { loops := fun i => match i with | 2 => [] | _ => [], draws := fun i => match i with | 2 => #[0, 1, 3, 7, 15, 0, 32, 127] | 4 => #[0, 0, 2, 6, 14, 0, 32, 96, 254, 511, 1023, 2047] | 5 => #[0, 1, 3, 7, 0, 16, 63, 127] | 6 => #[0, 0, 2, 6, 0, 16, 0, 64, 254, 0, 512, 0, 3584, 8190, 16383, 32767] | _ => #[], joins := fun i => none }
def F50 (a0d : Option Addr) (a1w_0 : Int) (a1w_1 : Int) (a1w_2 : Option Addr) (la1w_2 ca1w_2 : Nat) (a2n : Int) (h : Heap) (R : KV) : Prop :=
  VNew h (.cells #[.int .i64 a1w_0, .int .i64 a1w_1, .slice a1w_2 la1w_2 ca1w_2] 83) fun b1 h2 =>
  cond (a2n == (0 : Int))
  (R (.tuple #[]) h2)
  (∃ I3 : Nat → Heap → Prop, (∃ n4, I3 n4 h2) ∧
    ∀ (n4 : Nat) (h5 : Heap) (g6 : Env), I3 n4 h5 →
    VSome a0d fun a8 =>
    ∃ (a9 : Option Addr) (la9 ca9 : Nat), cellH h5 a8 = some (.slice a9 la9 ca9) ∧
    ∃ x10 : Int, cellH h5 ⟨b1, 0, none⟩ = some (.int .i64 x10) ∧
    cond (decide ((la9 : Int) ≤ x10))
    (VSome a0d fun a11 =>
      ∃ (a12 : Option Addr) (la12 ca12 : Nat), cellH h5 a11 = some (.slice a12 la12 ca12) ∧
      VNew h5 (.cells #[.slice none 0 0] 26) fun b13 h14 =>
      RunsTo Tryd.prog (Builtin.append_ #[25, 25] 25 #[.slice a12 la12 ca12, .slice (some ⟨b13, 0, none⟩) 1 1]) h14 fun v15 h16 =>
      ∃ (a17 : Option Addr) (la17 ca17 : Nat), v15 = .slice a17 la17 ca17 ∧
      VSome a0d fun a18 =>
      VStore h16 a18 (.slice a17 la17 ca17) fun h19 =>
      ∃ m7, m7 < n4 ∧ I3 m7 h19)
    (VSome a0d fun a20 =>
      ∃ (a21 : Option Addr) (la21 ca21 : Nat), cellH h5 a20 = some (.slice a21 la21 ca21) ∧
      ∃ x22 : Int, cellH h5 ⟨b1, 0, none⟩ = some (.int .i64 x22) ∧
      VSlice 1 a21 ca21 0 (IntKind.i64.wrap (x22 + 1)) (ca21 : Int) fun a23 la23 ca23 =>
      VSome a0d fun a24 =>
      VStore h5 a24 (.slice a23 la23 ca23) fun h25 =>
      VSome a0d fun a26 =>
      ∃ (a27 : Option Addr) (la27 ca27 : Nat), cellH h25 a26 = some (.slice a27 la27 ca27) ∧
      ∃ x28 : Int, cellH h25 ⟨b1, 0, none⟩ = some (.int .i64 x28) ∧
      VIdx a27 la27 x28 1 fun a29 =>
      ∃ (a30 : Option Addr) (la30 ca30 : Nat), cellH h25 a29 = some (.slice a30 la30 ca30) ∧
      ∃ x31 : Int, cellH h25 ⟨b1, 1, none⟩ = some (.int .i64 x31) ∧
      ∃ x32 : Int, cellH h25 ⟨b1, 1, none⟩ = some (.int .i64 x32) ∧
      VSlice 1 a30 ca30 0 x31 x32 fun a33 la33 ca33 =>
      ∃ (a34 : Option Addr) (la34 ca34 : Nat), cellH h25 ⟨b1, 2, none⟩ = some (.slice a34 la34 ca34) ∧
      VSlice 1 a34 ca34 0 a2n (ca34 : Int) fun a35 la35 ca35 =>
      RunsTo Tryd.prog (Builtin.append_ #[26, 26] 26 #[.slice a33 la33 ca33, .slice a35 la35 ca35]) h25 fun v36 h37 =>
      ∃ (a38 : Option Addr) (la38 ca38 : Nat), v36 = .slice a38 la38 ca38 ∧
      VStore h37 a29 (.slice a38 la38 ca38) fun h39 =>
      R (.tuple #[]) h39))
theorem vf50 (a0d : Option Addr) (a1w_0 : Int) (a1w_1 : Int) (a1w_2 : Option Addr) (la1w_2 ca1w_2 : Nat) (a2n : Int) (h : Heap) (R : KV) (hF : F50 a0d a1w_0 a1w_1 a1w_2 la1w_2 ca1w_2 a2n h R) : CallsH Tryd.prog 50 #[.pointer a0d, .agg #[.int .i64 a1w_0, .int .i64 a1w_1, .slice a1w_2 la1w_2 ca1w_2], .int .i64 a2n] h R :=
  calls_of_vc (A := an50) (fn := Tryd.f50) (c := c50) (args := [.pointer a0d, .agg #[.int .i64 a1w_0, .int .i64 a1w_1, .slice a1w_2 la1w_2 ca1w_2], .int .i64 a2n]) Tryd.func50 (by kernel_rfl) mixed (by kernel_rfl) (Eq.mp (by kernel_rfl : F50 a0d a1w_0 a1w_1 a1w_2 la1w_2 ca1w_2 a2n h R = vcF Tryd.prog an50 Tryd.f50 c50 [.pointer a0d, .agg #[.int .i64 a1w_0, .int .i64 a1w_1, .slice a1w_2 la1w_2 ca1w_2], .int .i64 a2n] h R) hF)
/-! ### 51 (refrain/refrainref23.Log).first -/
noncomputable def c51 : Code := match Tryd.f51.body with | some c => c | none => .skip
noncomputable def an51 : Ann := { loops := fun i => [], draws := fun i => #[], joins := fun i => none }
def F51 (a0l : Option Addr) (a1seg : Int) (a2num : Int) (a3rec : Option Addr) (la3rec ca3rec : Nat) (h : Heap) (R : KV) : Prop :=
  CallsH Tryd.prog 63 #[.int .u32 a2num] h fun v1 h2 =>
  ∃ (a3 : Option Addr) (la3 ca3 : Nat), v1 = .slice a3 la3 ca3 ∧
  CallsH Tryd.prog 52 #[.int .u32 a2num, .int .u32 0, .slice a3rec la3rec ca3rec] h2 fun v4 h5 =>
  ∃ (a6 : Option Addr) (la6 ca6 : Nat), v4 = .slice a6 la6 ca6 ∧
  RunsTo Tryd.prog (Builtin.append_ #[26, 26] 26 #[.slice a3 la3 ca3, .slice a6 la6 ca6]) h5 fun v7 h8 =>
  ∃ (a9 : Option Addr) (la9 ca9 : Nat), v7 = .slice a9 la9 ca9 ∧
  VSome a0l fun a10 =>
  ∃ (a11 : Option Addr) (la11 ca11 : Nat), cellH h8 ⟨a10.block, a10.off + 1, none⟩ = some (.slice a11 la11 ca11) ∧
  VNew h8 (.cells #[.int .i64 a1seg, .int .i64 0, .slice a9 la9 ca9] 107) fun b12 h13 =>
  RunsTo Tryd.prog (Builtin.append_ #[99, 99] 99 #[.slice a11 la11 ca11, .slice (some ⟨b12, 0, none⟩) 1 1]) h13 fun v14 h15 =>
  ∃ (a16 : Option Addr) (la16 ca16 : Nat), v14 = .slice a16 la16 ca16 ∧
  VSome a0l fun a17 =>
  VStore h15 ⟨a17.block, a17.off + 1, none⟩ (.slice a16 la16 ca16) fun h18 =>
  VSome a0l fun a19 =>
  VStore h18 ⟨a19.block, a19.off + 2, none⟩ (.int .i64 a1seg) fun h20 =>
  VSome a0l fun a21 =>
  VStore h20 ⟨a21.block, a21.off + 3, none⟩ (.int .u32 a2num) fun h22 =>
  VSome a0l fun a23 =>
  VStore h22 ⟨a23.block, a23.off + 4, none⟩ (.int .u32 1) fun h24 =>
  VSome a0l fun a25 =>
  VStore h24 ⟨a25.block, a25.off + 5, none⟩ (.int .i64 (la9 : Int)) fun h26 =>
  R (.tuple #[]) h26
theorem vf51 (a0l : Option Addr) (a1seg : Int) (a2num : Int) (a3rec : Option Addr) (la3rec ca3rec : Nat) (h : Heap) (R : KV) (hF : F51 a0l a1seg a2num a3rec la3rec ca3rec h R) : CallsH Tryd.prog 51 #[.pointer a0l, .int .i64 a1seg, .int .u32 a2num, .slice a3rec la3rec ca3rec] h R :=
  calls_of_vc (A := an51) (fn := Tryd.f51) (c := c51) (args := [.pointer a0l, .int .i64 a1seg, .int .u32 a2num, .slice a3rec la3rec ca3rec]) Tryd.func51 (by kernel_rfl) mixed (by kernel_rfl) (Eq.mp (by kernel_rfl : F51 a0l a1seg a2num a3rec la3rec ca3rec h R = vcF Tryd.prog an51 Tryd.f51 c51 [.pointer a0l, .int .i64 a1seg, .int .u32 a2num, .slice a3rec la3rec ca3rec] h R) hF)
/-! ### 52 refrain/refrainref23.frame -/
noncomputable def c52 : Code := match Tryd.f52.body with | some c => c | none => .skip
noncomputable def an52 : Ann := { loops := fun i => [], draws := fun i => #[], joins := fun i => none }
def F52 (a0seg : Int) (a1num : Int) (a2rec : Option Addr) (la2rec ca2rec : Nat) (h : Heap) (R : KV) : Prop :=
  CallsH Tryd.prog 61 #[.slice a2rec la2rec ca2rec] h fun v1 h2 =>
  ∃ x3 : Int, v1 = .int .u32 x3 ∧
  CallsH Tryd.prog 64 #[.int .u32 (IntKind.u32.wrap (la2rec : Int))] h2 fun v4 h5 =>
  ∃ (a6 : Option Addr) (la6 ca6 : Nat), v4 = .slice a6 la6 ca6 ∧
  CallsH Tryd.prog 64 #[.int .u32 x3] h5 fun v7 h8 =>
  ∃ (a9 : Option Addr) (la9 ca9 : Nat), v7 = .slice a9 la9 ca9 ∧
  RunsTo Tryd.prog (Builtin.append_ #[26, 26] 26 #[.slice a6 la6 ca6, .slice a9 la9 ca9]) h8 fun v10 h11 =>
  ∃ (a12 : Option Addr) (la12 ca12 : Nat), v10 = .slice a12 la12 ca12 ∧
  CallsH Tryd.prog 62 #[.int .u32 a0seg, .int .u32 a1num, .int .u32 (IntKind.u32.wrap (la2rec : Int)), .int .u32 x3] h11 fun v13 h14 =>
  ∃ x15 : Int, v13 = .int .u32 x15 ∧
  CallsH Tryd.prog 64 #[.int .u32 x15] h14 fun v16 h17 =>
  ∃ (a18 : Option Addr) (la18 ca18 : Nat), v16 = .slice a18 la18 ca18 ∧
  RunsTo Tryd.prog (Builtin.append_ #[26, 26] 26 #[.slice a12 la12 ca12, .slice a18 la18 ca18]) h17 fun v19 h20 =>
  ∃ (a21 : Option Addr) (la21 ca21 : Nat), v19 = .slice a21 la21 ca21 ∧
  RunsTo Tryd.prog (Builtin.append_ #[26, 26] 26 #[.slice a21 la21 ca21, .slice a2rec la2rec ca2rec]) h20 fun v22 h23 =>
  ∃ (a24 : Option Addr) (la24 ca24 : Nat), v22 = .slice a24 la24 ca24 ∧
  R (.slice a24 la24 ca24) h23
theorem vf52 (a0seg : Int) (a1num : Int) (a2rec : Option Addr) (la2rec ca2rec : Nat) (h : Heap) (R : KV) (hF : F52 a0seg a1num a2rec la2rec ca2rec h R) : CallsH Tryd.prog 52 #[.int .u32 a0seg, .int .u32 a1num, .slice a2rec la2rec ca2rec] h R :=
  calls_of_vc (A := an52) (fn := Tryd.f52) (c := c52) (args := [.int .u32 a0seg, .int .u32 a1num, .slice a2rec la2rec ca2rec]) Tryd.func52 (by kernel_rfl) mixed (by kernel_rfl) (Eq.mp (by kernel_rfl : F52 a0seg a1num a2rec la2rec ca2rec h R = vcF Tryd.prog an52 Tryd.f52 c52 [.int .u32 a0seg, .int .u32 a1num, .slice a2rec la2rec ca2rec] h R) hF)
/-! ### 53 (refrain/refrainref23.Log).lies -/
noncomputable def c53 : Code := match Tryd.f53.body with | some c => c | none => .skip
noncomputable def an53 : Ann := { loops := fun i => match i with | 3 => [(1, .int .i64), (5, .slc), (6, .int .i64)] | 12 => [(9, .slc), (10, .int .i64)] | _ => [], draws := fun i => match i with | 17 => #[0, 0, 0, 4, 14, 30, 0, 64, 254, 511, 1023] | _ => #[], joins := fun i => match i with | 9 => some [(8, .int .i64)] | 18 => some [(11, .slc)] | _ => none }
def F53 (a0l : Option Addr) (a1keep : Int) (h : Heap) (R : KV) : Prop :=
  VSome a0l fun a1 =>
  ∃ (a2 : Option Addr) (la2 ca2 : Nat), cellH h a1 = some (.slice a2 la2 ca2) ∧
  CallsH Tryd.prog 48 #[.slice a2 la2 ca2] h fun v3 h4 =>
  ∃ (a5 : Option Addr) (la5 ca5 : Nat), v3 = .slice a5 la5 ca5 ∧
  ∃ I6 : Nat → Heap → Int → Option Addr → Nat → Nat → Int → Prop, (∃ n7, I6 n7 h4 a1keep a5 la5 ca5 0) ∧
  ∀ (n7 : Nat) (h8 : Heap) (g9 : Env) (keep_10 : Int) (d_11 : Option Addr) (ld_11 cd_11 : Nat) (i_12 : Int), I6 n7 h8 keep_10 d_11 ld_11 cd_11 i_12 →
  VSome a0l fun a14 =>
  ∃ (a15 : Option Addr) (la15 ca15 : Nat), cellH h8 ⟨a14.block, a14.off + 1, none⟩ = some (.slice a15 la15 ca15) ∧
  cond (decide (i_12 < (la15 : Int))) (cond (decide (keep_10 > (0 : Int)))
    (VSome a0l fun a16 =>
      ∃ (a17 : Option Addr) (la17 ca17 : Nat), cellH h8 ⟨a16.block, a16.off + 1, none⟩ = some (.slice a17 la17 ca17) ∧
      VIdx a17 la17 i_12 3 fun a18 =>
      ∃ x19 : Int, cellH h8 a18 = some (.int .i64 x19) ∧
      ∃ x20 : Int, cellH h8 ⟨a18.block, a18.off + 1, none⟩ = some (.int .i64 x20) ∧
      ∃ (a21 : Option Addr) (la21 ca21 : Nat), cellH h8 ⟨a18.block, a18.off + 2, none⟩ = some (.slice a21 la21 ca21) ∧
      VNew h8 (.cells #[.int .i64 0, .int .i64 0, .slice none 0 0] 107) fun b22 h23 =>
      storeL ⟨b22, 0, none⟩ 0 [.int .i64 x19, .int .i64 x20, .slice a21 la21 ca21] h23 fun h24 =>
      ∃ (a25 : Option Addr) (la25 ca25 : Nat), cellH h24 ⟨b22, 2, none⟩ = some (.slice a25 la25 ca25) ∧
      ∃ J26 : Heap → Int → Prop, (cond (decide ((la25 : Int) > keep_10))
        (J26 h24 keep_10)
        (J26 h24 (la25 : Int))) ∧
      ∀ (h27 : Heap) (g28 : Env) (n_29 : Int), J26 h27 n_29 →
      ∃ I30 : Nat → Heap → Option Addr → Nat → Nat → Int → Prop, (∃ n31, I30 n31 h27 none 0 0 0) ∧
      ∀ (n31 : Nat) (h32 : Heap) (g33 : Env) (m_34 : Option Addr) (lm_34 cm_34 : Nat) (k_35 : Int), I30 n31 h32 m_34 lm_34 cm_34 k_35 →
      ∃ x37 : Int, cellH h32 ⟨b22, 0, none⟩ = some (.int .i64 x37) ∧
      cond (decide (k_35 < x37))
      (VIdx d_11 ld_11 k_35 1 fun a38 =>
        ∃ (a39 : Option Addr) (la39 ca39 : Nat), cellH h32 a38 = some (.slice a39 la39 ca39) ∧
        VNew h32 (.cells #[.slice a39 la39 ca39] 26) fun b40 h41 =>
        RunsTo Tryd.prog (Builtin.append_ #[25, 25] 25 #[.slice m_34 lm_34 cm_34, .slice (some ⟨b40, 0, none⟩) 1 1]) h41 fun v42 h43 =>
        ∃ (a44 : Option Addr) (la44 ca44 : Nat), v42 = .slice a44 la44 ca44 ∧
        ∃ m36, m36 < n31 ∧ I30 m36 h43 a44 la44 ca44 (IntKind.i64.wrap (k_35 + 1)))
      (∃ J45 : Heap → Option Addr → Nat → Nat → Prop, (∃ x46 : Int, cellH h32 ⟨b22, 0, none⟩ = some (.int .i64 x46) ∧
          cond (decide (x46 < (ld_11 : Int)))
          (∃ x47 : Int, cellH h32 ⟨b22, 0, none⟩ = some (.int .i64 x47) ∧
            VIdx d_11 ld_11 x47 1 fun a48 =>
            ∃ (a49 : Option Addr) (la49 ca49 : Nat), cellH h32 a48 = some (.slice a49 la49 ca49) ∧
            ∃ x50 : Int, cellH h32 ⟨b22, 1, none⟩ = some (.int .i64 x50) ∧
            VSlice 1 a49 ca49 0 x50 (ca49 : Int) fun a51 la51 ca51 =>
            RunsTo Tryd.prog (Builtin.append_ #[26, 26] 26 #[.slice none 0 0, .slice a51 la51 ca51]) h32 fun v52 h53 =>
            ∃ (a54 : Option Addr) (la54 ca54 : Nat), v52 = .slice a54 la54 ca54 ∧
            J45 h53 a54 la54 ca54)
          (J45 h32 none 0 0)) ∧
        ∀ (h55 : Heap) (g56 : Env) (s_57 : Option Addr) (ls_57 cs_57 : Nat), J45 h55 s_57 ls_57 cs_57 →
        ∃ (a58 : Option Addr) (la58 ca58 : Nat), cellH h55 ⟨b22, 2, none⟩ = some (.slice a58 la58 ca58) ∧
        VSlice 1 a58 ca58 0 n_29 (ca58 : Int) fun a59 la59 ca59 =>
        RunsTo Tryd.prog (Builtin.append_ #[26, 26] 26 #[.slice s_57 ls_57 cs_57, .slice a59 la59 ca59]) h55 fun v60 h61 =>
        ∃ (a62 : Option Addr) (la62 ca62 : Nat), v60 = .slice a62 la62 ca62 ∧
        VNew h61 (.cells #[.slice a62 la62 ca62] 26) fun b63 h64 =>
        RunsTo Tryd.prog (Builtin.append_ #[25, 25] 25 #[.slice m_34 lm_34 cm_34, .slice (some ⟨b63, 0, none⟩) 1 1]) h64 fun v65 h66 =>
        ∃ (a67 : Option Addr) (la67 ca67 : Nat), v65 = .slice a67 la67 ca67 ∧
        ∃ m13, m13 < n7 ∧ I6 m13 h66 (IntKind.i64.wrap (keep_10 - n_29)) a67 la67 ca67 (IntKind.i64.wrap (i_12 + 1))))
    (R (.slice d_11 ld_11 cd_11) h8)) (R (.slice d_11 ld_11 cd_11) h8)
theorem vf53 (a0l : Option Addr) (a1keep : Int) (h : Heap) (R : KV) (hF : F53 a0l a1keep h R) : CallsH Tryd.prog 53 #[.pointer a0l, .int .i64 a1keep] h R :=
  calls_of_vc (A := an53) (fn := Tryd.f53) (c := c53) (args := [.pointer a0l, .int .i64 a1keep]) Tryd.func53 (by kernel_rfl) mixed (by kernel_rfl) (Eq.mp (by kernel_rfl : F53 a0l a1keep h R = vcF Tryd.prog an53 Tryd.f53 c53 [.pointer a0l, .int .i64 a1keep] h R) hF)
/-! ### 54 slices.Clone[[]byte,byte] -/
noncomputable def c54 : Code := match Tryd.f54.body with | some c => c | none => .skip
noncomputable def an54 : Ann := { loops := fun i => [], draws := fun i => #[], joins := fun i => none }
def F54 (a0s : Option Addr) (la0s ca0s : Nat) (h : Heap) (R : KV) : Prop :=
  cond a0s.isNone
  (R (.slice none 0 0) h)
  (VNew h (.cells #[] 5) fun b1 h2 =>
    RunsTo Tryd.prog (Builtin.append_ #[26, 26] 26 #[.slice (some ⟨b1, 0, none⟩) 0 0, .slice a0s la0s ca0s]) h2 fun v3 h4 =>
    ∃ (a5 : Option Addr) (la5 ca5 : Nat), v3 = .slice a5 la5 ca5 ∧
    R (.slice a5 la5 ca5) h4)
theorem vf54 (a0s : Option Addr) (la0s ca0s : Nat) (h : Heap) (R : KV) (hF : F54 a0s la0s ca0s h R) : CallsH Tryd.prog 54 #[.slice a0s la0s ca0s] h R :=
  calls_of_vc (A := an54) (fn := Tryd.f54) (c := c54) (args := [.slice a0s la0s ca0s]) Tryd.func54 (by kernel_rfl) mixed (by kernel_rfl) (Eq.mp (by kernel_rfl : F54 a0s la0s ca0s h R = vcF Tryd.prog an54 Tryd.f54 c54 [.slice a0s la0s ca0s] h R) hF)
/-! ### 55 refrain/log.number -/
noncomputable def c55 : Code := match Tryd.f55.body with | some c => c | none => .skip
noncomputable def an55 : Ann := { loops := fun i => [], draws := fun i => #[], joins := fun i => none }
def F55 (a0b : Option Addr) (la0b ca0b : Nat) (h : Heap) (R : KV) : Prop :=
  CallsH Tryd.prog 65 #[.slice a0b la0b ca0b] h fun v1 h2 =>
  ∃ x3 : Int, v1 = .int .u32 x3 ∧
  R (.int .u32 x3) h2
theorem vf55 (a0b : Option Addr) (la0b ca0b : Nat) (h : Heap) (R : KV) (hF : F55 a0b la0b ca0b h R) : CallsH Tryd.prog 55 #[.slice a0b la0b ca0b] h R :=
  calls_of_vc (A := an55) (fn := Tryd.f55) (c := c55) (args := [.slice a0b la0b ca0b]) Tryd.func55 (by kernel_rfl) mixed (by kernel_rfl) (Eq.mp (by kernel_rfl : F55 a0b la0b ca0b h R = vcF Tryd.prog an55 Tryd.f55 c55 [.slice a0b la0b ca0b] h R) hF)
/-! ### 56 refrain/log.sum -/
noncomputable def c56 : Code := match Tryd.f56.body with | some c => c | none => .skip
noncomputable def an56 : Ann := { loops := fun i => match i with | 3 => [(3, .int .u32), (8, .int .i64)] | _ => [], draws := fun i => #[], joins := fun i => none }
def F56 (a0b : Option Addr) (la0b ca0b : Nat) (h : Heap) (R : KV) : Prop :=
  ∃ I1 : Nat → Heap → Int → Int → Prop, (∃ n2, I1 n2 h 4294967295 0) ∧
  ∀ (n2 : Nat) (h3 : Heap) (g4 : Env) (r_5 : Int) (y_6 : Int), I1 n2 h3 r_5 y_6 →
  cond (decide (y_6 < (la0b : Int)))
  (VIdx a0b la0b y_6 1 fun a8 =>
    ∃ x9 : Int, cellH h3 a8 = some (.int .u8 x9) ∧
    (0 : Int) ≤ 4 ∧
    VIdx (some ⟨0, 0, none⟩) 16 (bitsOp .and .u32 (bitsOp .xor .u32 r_5 (IntKind.u32.wrap x9)) 15) 1 fun a10 =>
    ∃ x11 : Int, cellH h3 a10 = some (.int .u32 x11) ∧
    (0 : Int) ≤ 4 ∧
    VIdx (some ⟨0, 0, none⟩) 16 (bitsOp .and .u32 (bitsOp .xor .u32 (Int.fdiv (bitsOp .xor .u32 r_5 (IntKind.u32.wrap x9)) (2 ^ (min (Int.toNat 4) (IntKind.bits .u32)))) x11) 15) 1 fun a12 =>
    ∃ x13 : Int, cellH h3 a12 = some (.int .u32 x13) ∧
    ∃ m7, m7 < n2 ∧ I1 m7 h3 (bitsOp .xor .u32 (Int.fdiv (bitsOp .xor .u32 (Int.fdiv (bitsOp .xor .u32 r_5 (IntKind.u32.wrap x9)) (2 ^ (min (Int.toNat 4) (IntKind.bits .u32)))) x11) (2 ^ (min (Int.toNat 4) (IntKind.bits .u32)))) x13) (IntKind.i64.wrap (y_6 + 1)))
  (R (.int .u32 (bitsOp .xor .u32 (4294967295) r_5)) h3)
theorem vf56 (a0b : Option Addr) (la0b ca0b : Nat) (h : Heap) (R : KV) (hF : F56 a0b la0b ca0b h R) : CallsH Tryd.prog 56 #[.slice a0b la0b ca0b] h R :=
  calls_of_vc (A := an56) (fn := Tryd.f56) (c := c56) (args := [.slice a0b la0b ca0b]) Tryd.func56 (by kernel_rfl) mixed (by kernel_rfl) (Eq.mp (by kernel_rfl : F56 a0b la0b ca0b h R = vcF Tryd.prog an56 Tryd.f56 c56 [.slice a0b la0b ca0b] h R) hF)
/-! ### 57 refrain/log.third -/
noncomputable def c57 : Code := match Tryd.f57.body with | some c => c | none => .skip
noncomputable def an57 : Ann := { loops := fun i => [], draws := fun i => #[], joins := fun i => none }
def F57 (a0seg : Int) (a1frame : Int) (a2size : Int) (a3rec : Int) (h : Heap) (R : KV) : Prop :=
  VNew h (.cells #[.int .u32 a0seg, .int .u32 a1frame, .int .u32 a2size, .int .u32 a3rec] 79) fun b1 h2 =>
  CallsH Tryd.prog 59 #[.slice none 0 0, .slice (some ⟨b1, 0, none⟩) 4 4] h2 fun v3 h4 =>
  ∃ (a5 : Option Addr) (la5 ca5 : Nat), v3 = .slice a5 la5 ca5 ∧
  CallsH Tryd.prog 56 #[.slice a5 la5 ca5] h4 fun v6 h7 =>
  ∃ x8 : Int, v6 = .int .u32 x8 ∧
  R (.int .u32 x8) h7
theorem vf57 (a0seg : Int) (a1frame : Int) (a2size : Int) (a3rec : Int) (h : Heap) (R : KV) (hF : F57 a0seg a1frame a2size a3rec h R) : CallsH Tryd.prog 57 #[.int .u32 a0seg, .int .u32 a1frame, .int .u32 a2size, .int .u32 a3rec] h R :=
  calls_of_vc (A := an57) (fn := Tryd.f57) (c := c57) (args := [.int .u32 a0seg, .int .u32 a1frame, .int .u32 a2size, .int .u32 a3rec]) Tryd.func57 (by kernel_rfl) mixed (by kernel_rfl) (Eq.mp (by kernel_rfl : F57 a0seg a1frame a2size a3rec h R = vcF Tryd.prog an57 Tryd.f57 c57 [.int .u32 a0seg, .int .u32 a1frame, .int .u32 a2size, .int .u32 a3rec] h R) hF)
/-! ### 58 refrain/log.head -/
noncomputable def c58 : Code := match Tryd.f58.body with | some c => c | none => .skip
noncomputable def an58 : Ann := { loops := fun i => [], draws := fun i => #[], joins := fun i => none }
def F58 (a0n : Int) (h : Heap) (R : KV) : Prop :=
  VNew h (.cells #[.int .u8 114, .int .u8 108, .int .u8 111, .int .u8 103] 5) fun b1 h2 =>
  RunsTo Tryd.prog (convert 26 26 (.slice (some ⟨b1, 0, none⟩) 4 4)) h2 fun v3 h4 =>
  ∃ (a5 : Option Addr) (la5 ca5 : Nat), v3 = .slice a5 la5 ca5 ∧
  VNew h4 (.cells #[.int .u32 a0n] 79) fun b6 h7 =>
  CallsH Tryd.prog 59 #[.slice a5 la5 ca5, .slice (some ⟨b6, 0, none⟩) 1 1] h7 fun v8 h9 =>
  ∃ (a10 : Option Addr) (la10 ca10 : Nat), v8 = .slice a10 la10 ca10 ∧
  CallsH Tryd.prog 56 #[.slice a10 la10 ca10] h9 fun v11 h12 =>
  ∃ x13 : Int, v11 = .int .u32 x13 ∧
  VNew h12 (.cells #[.int .u32 x13] 79) fun b14 h15 =>
  CallsH Tryd.prog 59 #[.slice a10 la10 ca10, .slice (some ⟨b14, 0, none⟩) 1 1] h15 fun v16 h17 =>
  ∃ (a18 : Option Addr) (la18 ca18 : Nat), v16 = .slice a18 la18 ca18 ∧
  R (.slice a18 la18 ca18) h17
theorem vf58 (a0n : Int) (h : Heap) (R : KV) (hF : F58 a0n h R) : CallsH Tryd.prog 58 #[.int .u32 a0n] h R :=
  calls_of_vc (A := an58) (fn := Tryd.f58) (c := c58) (args := [.int .u32 a0n]) Tryd.func58 (by kernel_rfl) mixed (by kernel_rfl) (Eq.mp (by kernel_rfl : F58 a0n h R = vcF Tryd.prog an58 Tryd.f58 c58 [.int .u32 a0n] h R) hF)
/-! ### 59 refrain/log.add -/
noncomputable def c59 : Code := match Tryd.f59.body with | some c => c | none => .skip
noncomputable def an59 : Ann := { loops := fun i => match i with | 2 => [(0, .slc), (9, .int .i64)] | _ => [], draws := fun i => #[], joins := fun i => none }
def F59 (a0b : Option Addr) (la0b ca0b : Nat) (a1ns : Option Addr) (la1ns ca1ns : Nat) (h : Heap) (R : KV) : Prop :=
  ∃ I1 : Nat → Heap → Option Addr → Nat → Nat → Int → Prop, (∃ n2, I1 n2 h a0b la0b ca0b 0) ∧
  ∀ (n2 : Nat) (h3 : Heap) (g4 : Env) (b_5 : Option Addr) (lb_5 cb_5 : Nat) (y_6 : Int), I1 n2 h3 b_5 lb_5 cb_5 y_6 →
  cond (decide (y_6 < (la1ns : Int)))
  (VIdx a1ns la1ns y_6 1 fun a8 =>
    ∃ x9 : Int, cellH h3 a8 = some (.int .u32 x9) ∧
    CallsH Tryd.prog 66 #[.slice b_5 lb_5 cb_5, .int .u32 x9] h3 fun v10 h11 =>
    ∃ (a12 : Option Addr) (la12 ca12 : Nat), v10 = .slice a12 la12 ca12 ∧
    ∃ m7, m7 < n2 ∧ I1 m7 h11 a12 la12 ca12 (IntKind.i64.wrap (y_6 + 1)))
  (R (.slice b_5 lb_5 cb_5) h3)
theorem vf59 (a0b : Option Addr) (la0b ca0b : Nat) (a1ns : Option Addr) (la1ns ca1ns : Nat) (h : Heap) (R : KV) (hF : F59 a0b la0b ca0b a1ns la1ns ca1ns h R) : CallsH Tryd.prog 59 #[.slice a0b la0b ca0b, .slice a1ns la1ns ca1ns] h R :=
  calls_of_vc (A := an59) (fn := Tryd.f59) (c := c59) (args := [.slice a0b la0b ca0b, .slice a1ns la1ns ca1ns]) Tryd.func59 (by kernel_rfl) mixed (by kernel_rfl) (Eq.mp (by kernel_rfl : F59 a0b la0b ca0b a1ns la1ns ca1ns h R = vcF Tryd.prog an59 Tryd.f59 c59 [.slice a0b la0b ca0b, .slice a1ns la1ns ca1ns] h R) hF)
/-! ### 60 refrain/refrainref23.of -/
noncomputable def c60 : Code := match Tryd.f60.body with | some c => c | none => .skip
noncomputable def an60 : Ann := { loops := fun i => match i with | 3 => [(5, .int .u32), (6, .int .i64)] | _ => [], draws := fun i => #[], joins := fun i => none }
def F60 (a0b : Option Addr) (la0b ca0b : Nat) (a1at : Int) (h : Heap) (R : KV) : Prop :=
  ∃ I1 : Nat → Heap → Int → Int → Prop, (∃ n2, I1 n2 h 0 0) ∧
  ∀ (n2 : Nat) (h3 : Heap) (g4 : Env) (n_5 : Int) (i_6 : Int), I1 n2 h3 n_5 i_6 →
  cond (decide (i_6 < (4 : Int)))
  (VIdx a0b la0b (IntKind.i64.wrap (a1at + i_6)) 1 fun a8 =>
    ∃ x9 : Int, cellH h3 a8 = some (.int .u8 x9) ∧
    ∃ m7, m7 < n2 ∧ I1 m7 h3 (IntKind.u32.wrap ((IntKind.u32.wrap (n_5 * 256)) + (IntKind.u32.wrap x9))) (IntKind.i64.wrap (i_6 + 1)))
  (R (.int .u32 n_5) h3)
theorem vf60 (a0b : Option Addr) (la0b ca0b : Nat) (a1at : Int) (h : Heap) (R : KV) (hF : F60 a0b la0b ca0b a1at h R) : CallsH Tryd.prog 60 #[.slice a0b la0b ca0b, .int .i64 a1at] h R :=
  calls_of_vc (A := an60) (fn := Tryd.f60) (c := c60) (args := [.slice a0b la0b ca0b, .int .i64 a1at]) Tryd.func60 (by kernel_rfl) mixed (by kernel_rfl) (Eq.mp (by kernel_rfl : F60 a0b la0b ca0b a1at h R = vcF Tryd.prog an60 Tryd.f60 c60 [.slice a0b la0b ca0b, .int .i64 a1at] h R) hF)
/-! ### 61 refrain/refrainref23.sum -/
noncomputable def c61 : Code := match Tryd.f61.body with | some c => c | none => .skip
noncomputable def an61 : Ann := { loops := fun i => match i with | 3 => [(3, .int .u32), (4, .int .i64)] | 7 => [(3, .int .u32), (5, .int .i64)] | _ => [], draws := fun i => #[], joins := fun i => match i with | 8 => some [(3, .int .u32)] | _ => none }
def F61 (a0b : Option Addr) (la0b ca0b : Nat) (h : Heap) (R : KV) : Prop :=
  ∃ I1 : Nat → Heap → Int → Int → Prop, (∃ n2, I1 n2 h 4294967295 0) ∧
  ∀ (n2 : Nat) (h3 : Heap) (g4 : Env) (r_5 : Int) (i_6 : Int), I1 n2 h3 r_5 i_6 →
  cond (decide (i_6 < (la0b : Int)))
  (VIdx a0b la0b i_6 1 fun a8 =>
    ∃ x9 : Int, cellH h3 a8 = some (.int .u8 x9) ∧
    ∃ I10 : Nat → Heap → Int → Int → Prop, (∃ n11, I10 n11 h3 (bitsOp .xor .u32 r_5 (IntKind.u32.wrap x9)) 0) ∧
    ∀ (n11 : Nat) (h12 : Heap) (g13 : Env) (r_14 : Int) (k_15 : Int), I10 n11 h12 r_14 k_15 →
    cond (decide (k_15 < (8 : Int)))
    (∃ J17 : Heap → Int → Prop, ((2 : Int) ≠ (0 : Int) ∧
        cond ((Int.tmod r_14 2) == (1 : Int))
        ((2 : Int) ≠ (0 : Int) ∧
          J17 h12 (bitsOp .xor .u32 (IntKind.u32.wrap (Int.tdiv r_14 2)) 3988292384))
        ((2 : Int) ≠ (0 : Int) ∧
          J17 h12 (IntKind.u32.wrap (Int.tdiv r_14 2)))) ∧
      ∀ (h18 : Heap) (g19 : Env) (r_20 : Int), J17 h18 r_20 →
      ∃ m16, m16 < n11 ∧ I10 m16 h18 r_20 (IntKind.i64.wrap (k_15 + 1)))
    (∃ m7, m7 < n2 ∧ I1 m7 h12 r_14 (IntKind.i64.wrap (i_6 + 1))))
  (R (.int .u32 (bitsOp .xor .u32 r_5 4294967295)) h3)
theorem vf61 (a0b : Option Addr) (la0b ca0b : Nat) (h : Heap) (R : KV) (hF : F61 a0b la0b ca0b h R) : CallsH Tryd.prog 61 #[.slice a0b la0b ca0b] h R :=
  calls_of_vc (A := an61) (fn := Tryd.f61) (c := c61) (args := [.slice a0b la0b ca0b]) Tryd.func61 (by kernel_rfl) mixed (by kernel_rfl) (Eq.mp (by kernel_rfl : F61 a0b la0b ca0b h R = vcF Tryd.prog an61 Tryd.f61 c61 [.slice a0b la0b ca0b] h R) hF)
/-! ### 62 refrain/refrainref23.third -/
noncomputable def c62 : Code := match Tryd.f62.body with | some c => c | none => .skip
noncomputable def an62 : Ann := { loops := fun i => [], draws := fun i => #[], joins := fun i => none }
def F62 (a0seg : Int) (a1num : Int) (a2n : Int) (a3s : Int) (h : Heap) (R : KV) : Prop :=
  CallsH Tryd.prog 64 #[.int .u32 a0seg] h fun v1 h2 =>
  ∃ (a3 : Option Addr) (la3 ca3 : Nat), v1 = .slice a3 la3 ca3 ∧
  CallsH Tryd.prog 64 #[.int .u32 a1num] h2 fun v4 h5 =>
  ∃ (a6 : Option Addr) (la6 ca6 : Nat), v4 = .slice a6 la6 ca6 ∧
  RunsTo Tryd.prog (Builtin.append_ #[26, 26] 26 #[.slice a3 la3 ca3, .slice a6 la6 ca6]) h5 fun v7 h8 =>
  ∃ (a9 : Option Addr) (la9 ca9 : Nat), v7 = .slice a9 la9 ca9 ∧
  CallsH Tryd.prog 64 #[.int .u32 a2n] h8 fun v10 h11 =>
  ∃ (a12 : Option Addr) (la12 ca12 : Nat), v10 = .slice a12 la12 ca12 ∧
  RunsTo Tryd.prog (Builtin.append_ #[26, 26] 26 #[.slice a9 la9 ca9, .slice a12 la12 ca12]) h11 fun v13 h14 =>
  ∃ (a15 : Option Addr) (la15 ca15 : Nat), v13 = .slice a15 la15 ca15 ∧
  CallsH Tryd.prog 64 #[.int .u32 a3s] h14 fun v16 h17 =>
  ∃ (a18 : Option Addr) (la18 ca18 : Nat), v16 = .slice a18 la18 ca18 ∧
  RunsTo Tryd.prog (Builtin.append_ #[26, 26] 26 #[.slice a15 la15 ca15, .slice a18 la18 ca18]) h17 fun v19 h20 =>
  ∃ (a21 : Option Addr) (la21 ca21 : Nat), v19 = .slice a21 la21 ca21 ∧
  CallsH Tryd.prog 61 #[.slice a21 la21 ca21] h20 fun v22 h23 =>
  ∃ x24 : Int, v22 = .int .u32 x24 ∧
  R (.int .u32 x24) h23
theorem vf62 (a0seg : Int) (a1num : Int) (a2n : Int) (a3s : Int) (h : Heap) (R : KV) (hF : F62 a0seg a1num a2n a3s h R) : CallsH Tryd.prog 62 #[.int .u32 a0seg, .int .u32 a1num, .int .u32 a2n, .int .u32 a3s] h R :=
  calls_of_vc (A := an62) (fn := Tryd.f62) (c := c62) (args := [.int .u32 a0seg, .int .u32 a1num, .int .u32 a2n, .int .u32 a3s]) Tryd.func62 (by kernel_rfl) mixed (by kernel_rfl) (Eq.mp (by kernel_rfl : F62 a0seg a1num a2n a3s h R = vcF Tryd.prog an62 Tryd.f62 c62 [.int .u32 a0seg, .int .u32 a1num, .int .u32 a2n, .int .u32 a3s] h R) hF)
/-! ### 63 refrain/refrainref23.head -/
noncomputable def c63 : Code := match Tryd.f63.body with | some c => c | none => .skip
noncomputable def an63 : Ann := { loops := fun i => [], draws := fun i => #[], joins := fun i => none }
def F63 (a0num : Int) (h : Heap) (R : KV) : Prop :=
  VNew h (.cells #[.int .u8 114, .int .u8 108, .int .u8 111, .int .u8 103] 5) fun b1 h2 =>
  CallsH Tryd.prog 64 #[.int .u32 a0num] h2 fun v3 h4 =>
  ∃ (a5 : Option Addr) (la5 ca5 : Nat), v3 = .slice a5 la5 ca5 ∧
  RunsTo Tryd.prog (Builtin.append_ #[26, 26] 26 #[.slice (some ⟨b1, 0, none⟩) 4 4, .slice a5 la5 ca5]) h4 fun v6 h7 =>
  ∃ (a8 : Option Addr) (la8 ca8 : Nat), v6 = .slice a8 la8 ca8 ∧
  CallsH Tryd.prog 61 #[.slice a8 la8 ca8] h7 fun v9 h10 =>
  ∃ x11 : Int, v9 = .int .u32 x11 ∧
  CallsH Tryd.prog 64 #[.int .u32 x11] h10 fun v12 h13 =>
  ∃ (a14 : Option Addr) (la14 ca14 : Nat), v12 = .slice a14 la14 ca14 ∧
  RunsTo Tryd.prog (Builtin.append_ #[26, 26] 26 #[.slice a8 la8 ca8, .slice a14 la14 ca14]) h13 fun v15 h16 =>
  ∃ (a17 : Option Addr) (la17 ca17 : Nat), v15 = .slice a17 la17 ca17 ∧
  R (.slice a17 la17 ca17) h16
theorem vf63 (a0num : Int) (h : Heap) (R : KV) (hF : F63 a0num h R) : CallsH Tryd.prog 63 #[.int .u32 a0num] h R :=
  calls_of_vc (A := an63) (fn := Tryd.f63) (c := c63) (args := [.int .u32 a0num]) Tryd.func63 (by kernel_rfl) mixed (by kernel_rfl) (Eq.mp (by kernel_rfl : F63 a0num h R = vcF Tryd.prog an63 Tryd.f63 c63 [.int .u32 a0num] h R) hF)
/-! ### 64 refrain/refrainref23.four -/
noncomputable def c64 : Code := match Tryd.f64.body with | some c => c | none => .skip
noncomputable def an64 : Ann := { loops := fun i => [], draws := fun i => #[], joins := fun i => none }
def F64 (a0n : Int) (h : Heap) (R : KV) : Prop :=
  (16777216 : Int) ≠ (0 : Int) ∧
  (65536 : Int) ≠ (0 : Int) ∧
  (256 : Int) ≠ (0 : Int) ∧
  (256 : Int) ≠ (0 : Int) ∧
  (256 : Int) ≠ (0 : Int) ∧
  (256 : Int) ≠ (0 : Int) ∧
  VNew h (.cells #[.int .u8 (IntKind.u8.wrap (IntKind.u32.wrap (Int.tdiv a0n 16777216))), .int .u8 (IntKind.u8.wrap (Int.tmod (IntKind.u32.wrap (Int.tdiv a0n 65536)) 256)), .int .u8 (IntKind.u8.wrap (Int.tmod (IntKind.u32.wrap (Int.tdiv a0n 256)) 256)), .int .u8 (IntKind.u8.wrap (Int.tmod a0n 256))] 5) fun b1 h2 =>
  R (.slice (some ⟨b1, 0, none⟩) 4 4) h2
theorem vf64 (a0n : Int) (h : Heap) (R : KV) (hF : F64 a0n h R) : CallsH Tryd.prog 64 #[.int .u32 a0n] h R :=
  calls_of_vc (A := an64) (fn := Tryd.f64) (c := c64) (args := [.int .u32 a0n]) Tryd.func64 (by kernel_rfl) mixed (by kernel_rfl) (Eq.mp (by kernel_rfl : F64 a0n h R = vcF Tryd.prog an64 Tryd.f64 c64 [.int .u32 a0n] h R) hF)
/-! ### 65 refrain/log.fourth -/
noncomputable def c65 : Code := match Tryd.f65.body with | some c => c | none => .skip
noncomputable def an65 : Ann := { loops := fun i => [], draws := fun i => match i with | 1 => #[0, 1, 3, 7, 15, 0, 32, 96, 224, 480, 1023, 0, 2048, 6144, 14336, 30720, 65535, 0, 131072, 393216, 917504, 2097151, 4194303] | _ => #[], joins := fun i => none }
def F65 (a0b : Option Addr) (la0b ca0b : Nat) (h : Heap) (R : KV) : Prop :=
  VIdx a0b la0b 0 1 fun a1 =>
  ∃ x2 : Int, cellH h a1 = some (.int .u8 x2) ∧
  (0 : Int) ≤ 24 ∧
  VIdx a0b la0b 1 1 fun a3 =>
  ∃ x4 : Int, cellH h a3 = some (.int .u8 x4) ∧
  (0 : Int) ≤ 16 ∧
  VIdx a0b la0b 2 1 fun a5 =>
  ∃ x6 : Int, cellH h a5 = some (.int .u8 x6) ∧
  (0 : Int) ≤ 8 ∧
  VIdx a0b la0b 3 1 fun a7 =>
  ∃ x8 : Int, cellH h a7 = some (.int .u8 x8) ∧
  R (.int .u32 (bitsOp .or .u32 (bitsOp .or .u32 (bitsOp .or .u32 (IntKind.u32.wrap ((IntKind.u32.wrap x2) * 2 ^ (min (Int.toNat 24) (IntKind.bits .u32)))) (IntKind.u32.wrap ((IntKind.u32.wrap x4) * 2 ^ (min (Int.toNat 16) (IntKind.bits .u32))))) (IntKind.u32.wrap ((IntKind.u32.wrap x6) * 2 ^ (min (Int.toNat 8) (IntKind.bits .u32))))) (IntKind.u32.wrap x8))) h
theorem vf65 (a0b : Option Addr) (la0b ca0b : Nat) (h : Heap) (R : KV) (hF : F65 a0b la0b ca0b h R) : CallsH Tryd.prog 65 #[.slice a0b la0b ca0b] h R :=
  calls_of_vc (A := an65) (fn := Tryd.f65) (c := c65) (args := [.slice a0b la0b ca0b]) Tryd.func65 (by kernel_rfl) mixed (by kernel_rfl) (Eq.mp (by kernel_rfl : F65 a0b la0b ca0b h R = vcF Tryd.prog an65 Tryd.f65 c65 [.slice a0b la0b ca0b] h R) hF)
/-! ### 66 refrain/log.four -/
noncomputable def c66 : Code := match Tryd.f66.body with | some c => c | none => .skip
noncomputable def an66 : Ann := { loops := fun i => [], draws := fun i => #[], joins := fun i => none }
def F66 (a0b : Option Addr) (la0b ca0b : Nat) (a1n : Int) (h : Heap) (R : KV) : Prop :=
  (0 : Int) ≤ 24 ∧
  (0 : Int) ≤ 16 ∧
  (0 : Int) ≤ 8 ∧
  VNew h (.cells #[.int .u8 (IntKind.u8.wrap (Int.fdiv a1n (2 ^ (min (Int.toNat 24) (IntKind.bits .u32))))), .int .u8 (IntKind.u8.wrap (Int.fdiv a1n (2 ^ (min (Int.toNat 16) (IntKind.bits .u32))))), .int .u8 (IntKind.u8.wrap (Int.fdiv a1n (2 ^ (min (Int.toNat 8) (IntKind.bits .u32))))), .int .u8 (IntKind.u8.wrap a1n)] 5) fun b1 h2 =>
  RunsTo Tryd.prog (Builtin.append_ #[26, 26] 26 #[.slice a0b la0b ca0b, .slice (some ⟨b1, 0, none⟩) 4 4]) h2 fun v3 h4 =>
  ∃ (a5 : Option Addr) (la5 ca5 : Nat), v3 = .slice a5 la5 ca5 ∧
  R (.slice a5 la5 ca5) h4
theorem vf66 (a0b : Option Addr) (la0b ca0b : Nat) (a1n : Int) (h : Heap) (R : KV) (hF : F66 a0b la0b ca0b a1n h R) : CallsH Tryd.prog 66 #[.slice a0b la0b ca0b, .int .u32 a1n] h R :=
  calls_of_vc (A := an66) (fn := Tryd.f66) (c := c66) (args := [.slice a0b la0b ca0b, .int .u32 a1n]) Tryd.func66 (by kernel_rfl) mixed (by kernel_rfl) (Eq.mp (by kernel_rfl : F66 a0b la0b ca0b a1n h R = vcF Tryd.prog an66 Tryd.f66 c66 [.slice a0b la0b ca0b, .int .u32 a1n] h R) hF)
end Go.Proofs.YtbaglaoefaoaoaaDoor.F
