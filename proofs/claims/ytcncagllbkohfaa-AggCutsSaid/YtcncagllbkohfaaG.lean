/- Printed by gen.py: the conditions of the translated functions, each a plain formula over heaps; the kernel checks that it is the one that the translation gives. Conditions: none. -/
import Derived.Test.YtcncagllbkohfaaV8
import Derived.Test.YtcncagllbkohfaaProg
namespace Go.Proofs.Ytcncagllbkohfaa.F
open Go Go.VC Go.Proofs
set_option linter.unusedVariables false
set_option maxRecDepth 100000

theorem mixed : Try.prog.follows .mixedOrders = true := by kernel_rfl
/-! ### 3 refrain/refrainlaw14.AggAll -/
noncomputable def c3 : Code := match Try.f3.body with | some c => c | none => .skip
noncomputable def an3 : Ann := { loops := fun i => match i with | 7 => [(4, .bool), (8, .int .i64)] | 15 => [(4, .bool), (11, .int .i64)] | _ => [], draws := fun i => match i with | 24 => #[0, 0, 2, 6, 0, 0, 48, 112, 255, 511] | _ => #[], joins := fun i => match i with | 24 => some [(4, .bool)] | _ => none }
def F3 (a0sizes_0 : Int) (a0sizes_1 : Int) (a1ops : Option Addr) (la1ops ca1ops : Nat) (h : Heap) (R : KV) : Prop :=
  VNew h (.cells #[.int .i64 a0sizes_0, .int .i64 a0sizes_1] 22) fun b1 h2 =>
  CallsH Try.prog 6 #[] h2 fun v3 h4 =>
  ∃ b5 : Bool, v3 = .bool b5 ∧
  cond (!b5)
  (R (.bool false) h4)
  (VNew h4 (.cells #[.slice none 0 0] 28) fun b6 h7 =>
    VNew h7 (.cells #[.pointer none, .pointer none, .pointer none, .pointer none, .pointer none, .pointer none, .pointer none, .pointer none, .pointer none, .pointer none, .pointer none, .pointer none, .pointer none, .pointer none, .pointer none, .pointer none] 33) fun b8 h9 =>
    VNew h9 (.cells #[.bool false, .bool false, .bool false, .bool false, .bool false, .bool false, .bool false, .bool false] 34) fun b10 h11 =>
    ∃ I12 : Nat → Heap → Bool → Int → Prop, (∃ n13, I12 n13 h11 false 0) ∧
    ∀ (n13 : Nat) (h14 : Heap) (g15 : Env) (y_16 : Bool) (i_17 : Int), I12 n13 h14 y_16 i_17 →
    cond (decide (i_17 < (2 : Int)))
    (VIdx (some ⟨b1, 0, none⟩) 2 i_17 1 fun a19 =>
      ∃ x20 : Int, cellH h14 a19 = some (.int .i64 x20) ∧
      CallsH Try.prog 7 #[.int .i64 x20] h14 fun v21 h22 =>
      ∃ p23 : Option Addr, ∃ p24 : Option Addr, ∃ b25 : Bool, v21 = .tuple #[.agg #[.pointer p23, .pointer p24], .bool b25] ∧
      VNew h22 (.cells #[.pointer none, .pointer none] 32) fun b26 h27 =>
      storeL ⟨b26, 0, none⟩ 0 [.pointer p23, .pointer p24] h27 fun h28 =>
      cond (!b25)
      (R (.bool false) h28)
      (∃ p29 : Option Addr, cellH h28 ⟨b26, 0, none⟩ = some (.pointer p29) ∧
        ∃ p30 : Option Addr, cellH h28 ⟨b26, 1, none⟩ = some (.pointer p30) ∧
        VIdx (some ⟨b8, 0, none⟩) 8 i_17 2 fun a31 =>
        storeL a31 0 [.pointer p29, .pointer p30] h28 fun h32 =>
        VIdx (some ⟨b10, 0, none⟩) 8 i_17 1 fun a33 =>
        VStore h32 a33 (.bool true) fun h34 =>
        ∃ m18, m18 < n13 ∧ I12 m18 h34 y_16 (IntKind.i64.wrap (i_17 + 1))))
    (∃ I35 : Nat → Heap → Bool → Int → Prop, (∃ n36, I35 n36 h14 y_16 0) ∧
      ∀ (n36 : Nat) (h37 : Heap) (g38 : Env) (y_39 : Bool) (i_40 : Int), I35 n36 h37 y_39 i_40 →
      cond (decide (i_40 < (la1ops : Int)))
      (VIdx a1ops la1ops i_40 12 fun a42 =>
        ∃ x43 : Int, cellH h37 ⟨a42.block, a42.off + 1, none⟩ = some (.int .i64 x43) ∧
        CallsH Try.prog 8 #[.int .i64 x43] h37 fun v44 h45 =>
        ∃ x46 : Int, v44 = .int .i64 x46 ∧
        ∃ J47 : Heap → Bool → Prop, (VIdx a1ops la1ops i_40 12 fun a48 =>
          ∃ x49 : Int, cellH h45 a48 = some (.int .i64 x49) ∧
          cond (x49 == (7 : Int)) ((2 : Int) ≠ (0 : Int) ∧
            VIdx (some ⟨b1, 0, none⟩) 2 (Int.tmod x46 2) 1 fun a50 =>
            ∃ x51 : Int, cellH h45 a50 = some (.int .i64 x51) ∧
            CallsH Try.prog 7 #[.int .i64 x51] h45 fun v52 h53 =>
            ∃ p54 : Option Addr, ∃ p55 : Option Addr, ∃ b56 : Bool, v52 = .tuple #[.agg #[.pointer p54, .pointer p55], .bool b56] ∧
            VNew h53 (.cells #[.pointer none, .pointer none] 32) fun b57 h58 =>
            storeL ⟨b57, 0, none⟩ 0 [.pointer p54, .pointer p55] h58 fun h59 =>
            cond (!b56)
            (R (.bool false) h59)
            (∃ p60 : Option Addr, cellH h59 ⟨b57, 0, none⟩ = some (.pointer p60) ∧
              ∃ p61 : Option Addr, cellH h59 ⟨b57, 1, none⟩ = some (.pointer p61) ∧
              VIdx (some ⟨b8, 0, none⟩) 8 x46 2 fun a62 =>
              storeL a62 0 [.pointer p60, .pointer p61] h59 fun h63 =>
              VIdx (some ⟨b10, 0, none⟩) 8 x46 1 fun a64 =>
              VStore h63 a64 (.bool true) fun h65 =>
              J47 h65 y_39)) (VIdx (some ⟨b10, 0, none⟩) 8 x46 1 fun a66 =>
            ∃ b67 : Bool, cellH h45 a66 = some (.bool b67) ∧
            cond (!b67)
            ((2 : Int) ≠ (0 : Int) ∧
              VIdx (some ⟨b1, 0, none⟩) 2 (Int.tmod x46 2) 1 fun a68 =>
              ∃ x69 : Int, cellH h45 a68 = some (.int .i64 x69) ∧
              CallsH Try.prog 7 #[.int .i64 x69] h45 fun v70 h71 =>
              ∃ p72 : Option Addr, ∃ p73 : Option Addr, ∃ b74 : Bool, v70 = .tuple #[.agg #[.pointer p72, .pointer p73], .bool b74] ∧
              VNew h71 (.cells #[.pointer none, .pointer none] 32) fun b75 h76 =>
              storeL ⟨b75, 0, none⟩ 0 [.pointer p72, .pointer p73] h76 fun h77 =>
              cond (!b74)
              (R (.bool false) h77)
              (∃ p78 : Option Addr, cellH h77 ⟨b75, 0, none⟩ = some (.pointer p78) ∧
                ∃ p79 : Option Addr, cellH h77 ⟨b75, 1, none⟩ = some (.pointer p79) ∧
                VIdx (some ⟨b8, 0, none⟩) 8 x46 2 fun a80 =>
                storeL a80 0 [.pointer p78, .pointer p79] h77 fun h81 =>
                VIdx (some ⟨b10, 0, none⟩) 8 x46 1 fun a82 =>
                VStore h81 a82 (.bool true) fun h83 =>
                J47 h83 y_39))
            (J47 h45 y_39))) ∧
        ∀ (h84 : Heap) (g85 : Env) (y_86 : Bool), J47 h84 y_86 →
        VIdx (some ⟨b8, 0, none⟩) 8 x46 2 fun a87 =>
        ∃ p88 : Option Addr, cellH h84 a87 = some (.pointer p88) ∧
        ∃ p89 : Option Addr, cellH h84 ⟨a87.block, a87.off + 1, none⟩ = some (.pointer p89) ∧
        VIdx a1ops la1ops i_40 12 fun a90 =>
        ∃ x91 : Int, cellH h84 a90 = some (.int .i64 x91) ∧
        ∃ x92 : Int, cellH h84 ⟨a90.block, a90.off + 1, none⟩ = some (.int .i64 x92) ∧
        ∃ x93 : Int, cellH h84 ⟨a90.block, a90.off + 2, none⟩ = some (.int .i64 x93) ∧
        ∃ x94 : Int, cellH h84 ⟨a90.block, a90.off + 3, none⟩ = some (.int .i64 x94) ∧
        ∃ x95 : Int, cellH h84 ⟨a90.block, a90.off + 4, none⟩ = some (.int .i64 x95) ∧
        ∃ x96 : Int, cellH h84 ⟨a90.block, a90.off + 5, none⟩ = some (.int .i64 x96) ∧
        ∃ x97 : Int, cellH h84 ⟨a90.block, a90.off + 6, none⟩ = some (.int .i64 x97) ∧
        ∃ x98 : Int, cellH h84 ⟨a90.block, a90.off + 7, none⟩ = some (.int .i64 x98) ∧
        ∃ x99 : Int, cellH h84 ⟨a90.block, a90.off + 8, none⟩ = some (.int .i64 x99) ∧
        ∃ x100 : Int, cellH h84 ⟨a90.block, a90.off + 9, none⟩ = some (.int .i64 x100) ∧
        ∃ (a101 : Option Addr) (la101 ca101 : Nat), cellH h84 ⟨a90.block, a90.off + 10, none⟩ = some (.slice a101 la101 ca101) ∧
        ∃ x102 : Int, cellH h84 ⟨a90.block, a90.off + 11, none⟩ = some (.int .i64 x102) ∧
        CallsH Try.prog 9 #[.pointer (some ⟨b6, 0, none⟩), .agg #[.pointer p88, .pointer p89], .agg #[.int .i64 x91, .int .i64 x92, .int .i64 x93, .int .i64 x94, .int .i64 x95, .int .i64 x96, .int .i64 x97, .int .i64 x98, .int .i64 x99, .int .i64 x100, .slice a101 la101 ca101, .int .i64 x102]] h84 fun v103 h104 =>
        ∃ b105 : Bool, v103 = .bool b105 ∧
        cond (!b105)
        (R (.bool false) h104)
        (∃ m41, m41 < n36 ∧ I35 m41 h104 y_86 (IntKind.i64.wrap (i_40 + 1))))
      (R (.bool true) h37)))
theorem vf3 (a0sizes_0 : Int) (a0sizes_1 : Int) (a1ops : Option Addr) (la1ops ca1ops : Nat) (h : Heap) (R : KV) (hF : F3 a0sizes_0 a0sizes_1 a1ops la1ops ca1ops h R) : CallsH Try.prog 3 #[.agg #[.int .i64 a0sizes_0, .int .i64 a0sizes_1], .slice a1ops la1ops ca1ops] h R :=
  calls_of_form (A := an3) (fn := Try.f3) (c := c3) (args := [.agg #[.int .i64 a0sizes_0, .int .i64 a0sizes_1], .slice a1ops la1ops ca1ops]) Try.func3 (by kernel_rfl) mixed (by kernel_rfl) (by kernel_rfl : F3 a0sizes_0 a0sizes_1 a1ops la1ops ca1ops h R = vcF Try.prog an3 Try.f3 c3 [.agg #[.int .i64 a0sizes_0, .int .i64 a0sizes_1], .slice a1ops la1ops ca1ops] h R) hF
/-! ### 4 refrain/refrainlaw14.AggCuts -/
noncomputable def c4 : Code := match Try.f4.body with | some c => c | none => .skip
noncomputable def an4 : Ann := { loops := fun i => match i with | 15 => [(13, .slc), (14, .int .i64)] | _ => [], draws := fun i => match i with | 9 => #[0, 0, 0, 6, 15, 0, 63] | 18 => #[0, 0, 3, 7, 15, 15, 63, 127, 255, 511, 511, 2047, 511, 8191, 16383, 32767, 65535, 65535, 262143, 65535, 1048575, 2097151, 4194303, 8388607, 8388607, 33554431, 8388607, 134217727, 268435455] | _ => #[], joins := fun i => match i with | 6 => some [(1, .int .i64)] | 13 => some [] | _ => none }
def F4 (a0ns : Option Addr) (la0ns ca0ns : Nat) (a1cut : Int) (a2turn : Bool) (h : Heap) (R : KV) : Prop :=
  CallsH Try.prog 6 #[] h fun v1 h2 =>
  ∃ b3 : Bool, v1 = .bool b3 ∧
  cond (!b3)
  (R (.bool false) h2)
  (∃ J4 : Heap → Int → Prop, (cond (decide (a1cut < (0 : Int))) ((2 : Int) ≠ (0 : Int) ∧
        J4 h2 (IntKind.i64.wrap (Int.tdiv (la0ns : Int) 2))) (cond (decide (a1cut > (la0ns : Int)))
        ((2 : Int) ≠ (0 : Int) ∧
          J4 h2 (IntKind.i64.wrap (Int.tdiv (la0ns : Int) 2)))
        (J4 h2 a1cut))) ∧
    ∀ (h5 : Heap) (g6 : Env) (cut_7 : Int), J4 h5 cut_7 →
    CallsH Try.prog 10 #[.slice a0ns la0ns ca0ns] h5 fun v8 h9 =>
    ∃ x10 : Int, ∃ x11 : Int, ∃ x12 : Int, ∃ x13 : Int, v8 = .agg #[.int .i64 x10, .int .i64 x11, .int .i64 x12, .int .i64 x13] ∧
    VNew h9 (.cells #[.int .i64 0, .int .i64 0, .int .i64 0, .int .i64 0] 39) fun b14 h15 =>
    storeL ⟨b14, 0, none⟩ 0 [.int .i64 x10, .int .i64 x11, .int .i64 x12, .int .i64 x13] h15 fun h16 =>
    VSlice 1 a0ns ca0ns 0 cut_7 (ca0ns : Int) fun a17 la17 ca17 =>
    CallsH Try.prog 11 #[.agg #[.int .i64 0, .int .i64 0, .int .i64 0, .int .i64 0], .slice a17 la17 ca17] h16 fun v18 h19 =>
    ∃ x20 : Int, ∃ x21 : Int, ∃ x22 : Int, ∃ x23 : Int, v18 = .agg #[.int .i64 x20, .int .i64 x21, .int .i64 x22, .int .i64 x23] ∧
    VNew h19 (.cells #[.int .i64 0, .int .i64 0, .int .i64 0, .int .i64 0] 39) fun b24 h25 =>
    storeL ⟨b24, 0, none⟩ 0 [.int .i64 x20, .int .i64 x21, .int .i64 x22, .int .i64 x23] h25 fun h26 =>
    VSlice 1 a0ns ca0ns cut_7 (la0ns : Int) (ca0ns : Int) fun a27 la27 ca27 =>
    CallsH Try.prog 11 #[.agg #[.int .i64 0, .int .i64 0, .int .i64 0, .int .i64 0], .slice a27 la27 ca27] h26 fun v28 h29 =>
    ∃ x30 : Int, ∃ x31 : Int, ∃ x32 : Int, ∃ x33 : Int, v28 = .agg #[.int .i64 x30, .int .i64 x31, .int .i64 x32, .int .i64 x33] ∧
    VNew h29 (.cells #[.int .i64 0, .int .i64 0, .int .i64 0, .int .i64 0] 39) fun b34 h35 =>
    storeL ⟨b34, 0, none⟩ 0 [.int .i64 x30, .int .i64 x31, .int .i64 x32, .int .i64 x33] h35 fun h36 =>
    ∃ x37 : Int, cellH h36 ⟨b24, 0, none⟩ = some (.int .i64 x37) ∧
    ∃ x38 : Int, cellH h36 ⟨b24, 1, none⟩ = some (.int .i64 x38) ∧
    ∃ x39 : Int, cellH h36 ⟨b24, 2, none⟩ = some (.int .i64 x39) ∧
    ∃ x40 : Int, cellH h36 ⟨b24, 3, none⟩ = some (.int .i64 x40) ∧
    VSlice 1 a0ns ca0ns cut_7 (la0ns : Int) (ca0ns : Int) fun a41 la41 ca41 =>
    (CallsH Try.prog 11 #[.agg #[.int .i64 x37, .int .i64 x38, .int .i64 x39, .int .i64 x40], .slice a41 la41 ca41] h36 fun v42 h43 =>
      ∃ x44 : Int, ∃ x45 : Int, ∃ x46 : Int, ∃ x47 : Int, v42 = .agg #[.int .i64 x44, .int .i64 x45, .int .i64 x46, .int .i64 x47] ∧
      VNew h43 (.cells #[.int .i64 0, .int .i64 0, .int .i64 0, .int .i64 0] 39) fun b48 h49 =>
      storeL ⟨b48, 0, none⟩ 0 [.int .i64 x44, .int .i64 x45, .int .i64 x46, .int .i64 x47] h49 fun h50 =>
      ∃ x51 : Int, cellH h50 ⟨b24, 0, none⟩ = some (.int .i64 x51) ∧
      ∃ x52 : Int, cellH h50 ⟨b24, 1, none⟩ = some (.int .i64 x52) ∧
      ∃ x53 : Int, cellH h50 ⟨b24, 2, none⟩ = some (.int .i64 x53) ∧
      ∃ x54 : Int, cellH h50 ⟨b24, 3, none⟩ = some (.int .i64 x54) ∧
      ∃ x55 : Int, cellH h50 ⟨b34, 0, none⟩ = some (.int .i64 x55) ∧
      ∃ x56 : Int, cellH h50 ⟨b34, 1, none⟩ = some (.int .i64 x56) ∧
      ∃ x57 : Int, cellH h50 ⟨b34, 2, none⟩ = some (.int .i64 x57) ∧
      ∃ x58 : Int, cellH h50 ⟨b34, 3, none⟩ = some (.int .i64 x58) ∧
      CallsH Try.prog 12 #[.agg #[.int .i64 x51, .int .i64 x52, .int .i64 x53, .int .i64 x54], .agg #[.int .i64 x55, .int .i64 x56, .int .i64 x57, .int .i64 x58]] h50 fun v59 h60 =>
      ∃ x61 : Int, ∃ x62 : Int, ∃ x63 : Int, ∃ x64 : Int, v59 = .agg #[.int .i64 x61, .int .i64 x62, .int .i64 x63, .int .i64 x64] ∧
      VNew h60 (.cells #[.int .i64 0, .int .i64 0, .int .i64 0, .int .i64 0] 39) fun b65 h66 =>
      storeL ⟨b65, 0, none⟩ 0 [.int .i64 x61, .int .i64 x62, .int .i64 x63, .int .i64 x64] h66 fun h67 =>
      ∃ J68 : Heap → Prop, (cond a2turn
        (∃ x69 : Int, cellH h67 ⟨b34, 0, none⟩ = some (.int .i64 x69) ∧
          ∃ x70 : Int, cellH h67 ⟨b34, 1, none⟩ = some (.int .i64 x70) ∧
          ∃ x71 : Int, cellH h67 ⟨b34, 2, none⟩ = some (.int .i64 x71) ∧
          ∃ x72 : Int, cellH h67 ⟨b34, 3, none⟩ = some (.int .i64 x72) ∧
          ∃ x73 : Int, cellH h67 ⟨b24, 0, none⟩ = some (.int .i64 x73) ∧
          ∃ x74 : Int, cellH h67 ⟨b24, 1, none⟩ = some (.int .i64 x74) ∧
          ∃ x75 : Int, cellH h67 ⟨b24, 2, none⟩ = some (.int .i64 x75) ∧
          ∃ x76 : Int, cellH h67 ⟨b24, 3, none⟩ = some (.int .i64 x76) ∧
          CallsH Try.prog 12 #[.agg #[.int .i64 x69, .int .i64 x70, .int .i64 x71, .int .i64 x72], .agg #[.int .i64 x73, .int .i64 x74, .int .i64 x75, .int .i64 x76]] h67 fun v77 h78 =>
          ∃ x79 : Int, ∃ x80 : Int, ∃ x81 : Int, ∃ x82 : Int, v77 = .agg #[.int .i64 x79, .int .i64 x80, .int .i64 x81, .int .i64 x82] ∧
          storeL ⟨b65, 0, none⟩ 0 [.int .i64 x79, .int .i64 x80, .int .i64 x81, .int .i64 x82] h78 fun h83 =>
          J68 h83)
        (J68 h67)) ∧
      ∀ (h84 : Heap) (g85 : Env), J68 h84 →
      ∃ I86 : Nat → Heap → Option Addr → Nat → Nat → Int → Prop, (∃ n87, I86 n87 h84 none 0 0 (IntKind.i64.wrap ((la0ns : Int) - 1))) ∧
      ∀ (n87 : Nat) (h88 : Heap) (g89 : Env) (turned_90 : Option Addr) (lturned_90 cturned_90 : Nat) (i_91 : Int), I86 n87 h88 turned_90 lturned_90 cturned_90 i_91 →
      cond (decide (i_91 ≥ (0 : Int)))
      (VIdx a0ns la0ns i_91 1 fun a93 =>
        ∃ x94 : Int, cellH h88 a93 = some (.int .i64 x94) ∧
        VNew h88 (.cells #[.int .i64 x94] 2) fun b95 h96 =>
        RunsTo Try.prog (Builtin.append_ #[26, 26] 26 #[.slice turned_90 lturned_90 cturned_90, .slice (some ⟨b95, 0, none⟩) 1 1]) h96 fun v97 h98 =>
        ∃ (a99 : Option Addr) (la99 ca99 : Nat), v97 = .slice a99 la99 ca99 ∧
        ∃ m92, m92 < n87 ∧ I86 m92 h98 a99 la99 ca99 (IntKind.i64.wrap (i_91 - 1)))
      (∃ x100 : Int, cellH h88 ⟨b48, 0, none⟩ = some (.int .i64 x100) ∧
        ∃ x101 : Int, cellH h88 ⟨b48, 1, none⟩ = some (.int .i64 x101) ∧
        ∃ x102 : Int, cellH h88 ⟨b48, 2, none⟩ = some (.int .i64 x102) ∧
        ∃ x103 : Int, cellH h88 ⟨b48, 3, none⟩ = some (.int .i64 x103) ∧
        ∃ x104 : Int, cellH h88 ⟨b14, 0, none⟩ = some (.int .i64 x104) ∧
        ∃ x105 : Int, cellH h88 ⟨b14, 1, none⟩ = some (.int .i64 x105) ∧
        ∃ x106 : Int, cellH h88 ⟨b14, 2, none⟩ = some (.int .i64 x106) ∧
        ∃ x107 : Int, cellH h88 ⟨b14, 3, none⟩ = some (.int .i64 x107) ∧
        PureTo Try.prog (do eqGuard .neq 39 (.tmp 73) (.tmp 74) (.agg #[.int .i64 x100, .int .i64 x101, .int .i64 x102, .int .i64 x103]) (.agg #[.int .i64 x104, .int .i64 x105, .int .i64 x106, .int .i64 x107]); binOp .neq 39 (.agg #[.int .i64 x100, .int .i64 x101, .int .i64 x102, .int .i64 x103]) (.agg #[.int .i64 x104, .int .i64 x105, .int .i64 x106, .int .i64 x107])) fun v108 =>
        ∃ b109 : Bool, v108 = .bool b109 ∧
        cond b109 (R (.bool false) h88) (∃ x110 : Int, cellH h88 ⟨b65, 0, none⟩ = some (.int .i64 x110) ∧
          ∃ x111 : Int, cellH h88 ⟨b65, 1, none⟩ = some (.int .i64 x111) ∧
          ∃ x112 : Int, cellH h88 ⟨b65, 2, none⟩ = some (.int .i64 x112) ∧
          ∃ x113 : Int, cellH h88 ⟨b65, 3, none⟩ = some (.int .i64 x113) ∧
          ∃ x114 : Int, cellH h88 ⟨b14, 0, none⟩ = some (.int .i64 x114) ∧
          ∃ x115 : Int, cellH h88 ⟨b14, 1, none⟩ = some (.int .i64 x115) ∧
          ∃ x116 : Int, cellH h88 ⟨b14, 2, none⟩ = some (.int .i64 x116) ∧
          ∃ x117 : Int, cellH h88 ⟨b14, 3, none⟩ = some (.int .i64 x117) ∧
          PureTo Try.prog (do eqGuard .neq 39 (.tmp 77) (.tmp 78) (.agg #[.int .i64 x110, .int .i64 x111, .int .i64 x112, .int .i64 x113]) (.agg #[.int .i64 x114, .int .i64 x115, .int .i64 x116, .int .i64 x117]); binOp .neq 39 (.agg #[.int .i64 x110, .int .i64 x111, .int .i64 x112, .int .i64 x113]) (.agg #[.int .i64 x114, .int .i64 x115, .int .i64 x116, .int .i64 x117])) fun v118 =>
          ∃ b119 : Bool, v118 = .bool b119 ∧
          cond b119 (R (.bool false) h88) (∃ x120 : Int, cellH h88 ⟨b14, 0, none⟩ = some (.int .i64 x120) ∧
            ∃ x121 : Int, cellH h88 ⟨b14, 1, none⟩ = some (.int .i64 x121) ∧
            ∃ x122 : Int, cellH h88 ⟨b14, 2, none⟩ = some (.int .i64 x122) ∧
            ∃ x123 : Int, cellH h88 ⟨b14, 3, none⟩ = some (.int .i64 x123) ∧
            CallsH Try.prog 11 #[.agg #[.int .i64 0, .int .i64 0, .int .i64 0, .int .i64 0], .slice turned_90 lturned_90 cturned_90] h88 fun v124 h125 =>
            ∃ x126 : Int, ∃ x127 : Int, ∃ x128 : Int, ∃ x129 : Int, v124 = .agg #[.int .i64 x126, .int .i64 x127, .int .i64 x128, .int .i64 x129] ∧
            (cellH h125 ⟨b14, 0, none⟩ = some (.int .i64 x120) ∧ cellH h125 ⟨b14, 1, none⟩ = some (.int .i64 x121) ∧ cellH h125 ⟨b14, 2, none⟩ = some (.int .i64 x122) ∧ cellH h125 ⟨b14, 3, none⟩ = some (.int .i64 x123)) ∧
            PureTo Try.prog (do eqGuard .neq 39 (.tmp 84) (.tmp 85) (.agg #[.int .i64 x126, .int .i64 x127, .int .i64 x128, .int .i64 x129]) (.agg #[.int .i64 x120, .int .i64 x121, .int .i64 x122, .int .i64 x123]); binOp .neq 39 (.agg #[.int .i64 x126, .int .i64 x127, .int .i64 x128, .int .i64 x129]) (.agg #[.int .i64 x120, .int .i64 x121, .int .i64 x122, .int .i64 x123])) fun v130 =>
            ∃ b131 : Bool, v130 = .bool b131 ∧
            cond b131 (R (.bool false) h125) (∃ x132 : Int, cellH h125 ⟨b14, 0, none⟩ = some (.int .i64 x132) ∧
              ∃ x133 : Int, cellH h125 ⟨b14, 1, none⟩ = some (.int .i64 x133) ∧
              ∃ x134 : Int, cellH h125 ⟨b14, 2, none⟩ = some (.int .i64 x134) ∧
              ∃ x135 : Int, cellH h125 ⟨b14, 3, none⟩ = some (.int .i64 x135) ∧
              ∃ x136 : Int, cellH h125 ⟨b14, 0, none⟩ = some (.int .i64 x136) ∧
              ∃ x137 : Int, cellH h125 ⟨b14, 1, none⟩ = some (.int .i64 x137) ∧
              ∃ x138 : Int, cellH h125 ⟨b14, 2, none⟩ = some (.int .i64 x138) ∧
              ∃ x139 : Int, cellH h125 ⟨b14, 3, none⟩ = some (.int .i64 x139) ∧
              CallsH Try.prog 12 #[.agg #[.int .i64 x132, .int .i64 x133, .int .i64 x134, .int .i64 x135], .agg #[.int .i64 0, .int .i64 0, .int .i64 0, .int .i64 0]] h125 fun v140 h141 =>
              ∃ x142 : Int, ∃ x143 : Int, ∃ x144 : Int, ∃ x145 : Int, v140 = .agg #[.int .i64 x142, .int .i64 x143, .int .i64 x144, .int .i64 x145] ∧
              (cellH h141 ⟨b14, 0, none⟩ = some (.int .i64 x136) ∧ cellH h141 ⟨b14, 1, none⟩ = some (.int .i64 x137) ∧ cellH h141 ⟨b14, 2, none⟩ = some (.int .i64 x138) ∧ cellH h141 ⟨b14, 3, none⟩ = some (.int .i64 x139)) ∧
              PureTo Try.prog (do eqGuard .neq 39 (.tmp 91) (.tmp 92) (.agg #[.int .i64 x142, .int .i64 x143, .int .i64 x144, .int .i64 x145]) (.agg #[.int .i64 x136, .int .i64 x137, .int .i64 x138, .int .i64 x139]); binOp .neq 39 (.agg #[.int .i64 x142, .int .i64 x143, .int .i64 x144, .int .i64 x145]) (.agg #[.int .i64 x136, .int .i64 x137, .int .i64 x138, .int .i64 x139])) fun v146 =>
              ∃ b147 : Bool, v146 = .bool b147 ∧
              cond b147 (R (.bool false) h141) (∃ x148 : Int, cellH h141 ⟨b14, 0, none⟩ = some (.int .i64 x148) ∧
                ∃ x149 : Int, cellH h141 ⟨b14, 1, none⟩ = some (.int .i64 x149) ∧
                ∃ x150 : Int, cellH h141 ⟨b14, 2, none⟩ = some (.int .i64 x150) ∧
                ∃ x151 : Int, cellH h141 ⟨b14, 3, none⟩ = some (.int .i64 x151) ∧
                ∃ x152 : Int, cellH h141 ⟨b14, 0, none⟩ = some (.int .i64 x152) ∧
                ∃ x153 : Int, cellH h141 ⟨b14, 1, none⟩ = some (.int .i64 x153) ∧
                ∃ x154 : Int, cellH h141 ⟨b14, 2, none⟩ = some (.int .i64 x154) ∧
                ∃ x155 : Int, cellH h141 ⟨b14, 3, none⟩ = some (.int .i64 x155) ∧
                CallsH Try.prog 12 #[.agg #[.int .i64 0, .int .i64 5, .int .i64 6, .int .i64 0], .agg #[.int .i64 x148, .int .i64 x149, .int .i64 x150, .int .i64 x151]] h141 fun v156 h157 =>
                ∃ x158 : Int, ∃ x159 : Int, ∃ x160 : Int, ∃ x161 : Int, v156 = .agg #[.int .i64 x158, .int .i64 x159, .int .i64 x160, .int .i64 x161] ∧
                (cellH h157 ⟨b14, 0, none⟩ = some (.int .i64 x152) ∧ cellH h157 ⟨b14, 1, none⟩ = some (.int .i64 x153) ∧ cellH h157 ⟨b14, 2, none⟩ = some (.int .i64 x154) ∧ cellH h157 ⟨b14, 3, none⟩ = some (.int .i64 x155)) ∧
                PureTo Try.prog (do eqGuard .neq 39 (.tmp 98) (.tmp 99) (.agg #[.int .i64 x158, .int .i64 x159, .int .i64 x160, .int .i64 x161]) (.agg #[.int .i64 x152, .int .i64 x153, .int .i64 x154, .int .i64 x155]); binOp .neq 39 (.agg #[.int .i64 x158, .int .i64 x159, .int .i64 x160, .int .i64 x161]) (.agg #[.int .i64 x152, .int .i64 x153, .int .i64 x154, .int .i64 x155])) fun v162 =>
                ∃ b163 : Bool, v162 = .bool b163 ∧
                cond b163
                (R (.bool false) h157)
                (∃ x164 : Int, cellH h157 ⟨b65, 0, none⟩ = some (.int .i64 x164) ∧
                  ∃ x165 : Int, cellH h157 ⟨b65, 1, none⟩ = some (.int .i64 x165) ∧
                  ∃ x166 : Int, cellH h157 ⟨b65, 2, none⟩ = some (.int .i64 x166) ∧
                  ∃ x167 : Int, cellH h157 ⟨b65, 3, none⟩ = some (.int .i64 x167) ∧
                  CallsH Try.prog 13 #[.agg #[.int .i64 x164, .int .i64 x165, .int .i64 x166, .int .i64 x167], .int .i64 1] h157 fun v168 h169 =>
                  ∃ x170 : Int, ∃ b171 : Bool, v168 = .tuple #[.int .i64 x170, .bool b171] ∧
                  ∃ x172 : Int, cellH h169 ⟨b65, 0, none⟩ = some (.int .i64 x172) ∧
                  ∃ x173 : Int, cellH h169 ⟨b65, 1, none⟩ = some (.int .i64 x173) ∧
                  ∃ x174 : Int, cellH h169 ⟨b65, 2, none⟩ = some (.int .i64 x174) ∧
                  ∃ x175 : Int, cellH h169 ⟨b65, 3, none⟩ = some (.int .i64 x175) ∧
                  CallsH Try.prog 13 #[.agg #[.int .i64 x172, .int .i64 x173, .int .i64 x174, .int .i64 x175], .int .i64 2] h169 fun v176 h177 =>
                  ∃ x178 : Int, ∃ b179 : Bool, v176 = .tuple #[.int .i64 x178, .bool b179] ∧
                  ∃ x180 : Int, cellH h177 ⟨b65, 0, none⟩ = some (.int .i64 x180) ∧
                  ∃ x181 : Int, cellH h177 ⟨b65, 1, none⟩ = some (.int .i64 x181) ∧
                  ∃ x182 : Int, cellH h177 ⟨b65, 2, none⟩ = some (.int .i64 x182) ∧
                  ∃ x183 : Int, cellH h177 ⟨b65, 3, none⟩ = some (.int .i64 x183) ∧
                  CallsH Try.prog 13 #[.agg #[.int .i64 x180, .int .i64 x181, .int .i64 x182, .int .i64 x183], .int .i64 3] h177 fun v184 h185 =>
                  ∃ x186 : Int, ∃ b187 : Bool, v184 = .tuple #[.int .i64 x186, .bool b187] ∧
                  ∃ x188 : Int, cellH h185 ⟨b65, 0, none⟩ = some (.int .i64 x188) ∧
                  ∃ x189 : Int, cellH h185 ⟨b65, 1, none⟩ = some (.int .i64 x189) ∧
                  ∃ x190 : Int, cellH h185 ⟨b65, 2, none⟩ = some (.int .i64 x190) ∧
                  ∃ x191 : Int, cellH h185 ⟨b65, 3, none⟩ = some (.int .i64 x191) ∧
                  CallsH Try.prog 13 #[.agg #[.int .i64 x188, .int .i64 x189, .int .i64 x190, .int .i64 x191], .int .i64 4] h185 fun v192 h193 =>
                  ∃ x194 : Int, ∃ b195 : Bool, v192 = .tuple #[.int .i64 x194, .bool b195] ∧
                  cond (x170 == (la0ns : Int)) (∃ x196 : Int, cellH h193 ⟨b14, 1, none⟩ = some (.int .i64 x196) ∧
                    cond (x178 == x196) (∃ x197 : Int, cellH h193 ⟨b14, 2, none⟩ = some (.int .i64 x197) ∧
                      cond (x186 == x197) (∃ x198 : Int, cellH h193 ⟨b14, 3, none⟩ = some (.int .i64 x198) ∧
                        cond (x194 == x198) (cond b171 (cond b179 (cond (b187 == (decide ((la0ns : Int) > (0 : Int)))) (R (.bool (b195 == (decide ((la0ns : Int) > (0 : Int))))) h193) (R (.bool false) h193)) (R (.bool false) h193)) (R (.bool false) h193)) (R (.bool false) h193)) (R (.bool false) h193)) (R (.bool false) h193)) (R (.bool false) h193)))))))) ∧
    VNew h36 (.cells #[.int .i64 0, .int .i64 0, .int .i64 0, .int .i64 0] 39) fun b199 h200 =>
    (cellH h200 ⟨b24, 0, none⟩ = some (.int .i64 x37) ∧ cellH h200 ⟨b24, 1, none⟩ = some (.int .i64 x38) ∧ cellH h200 ⟨b24, 2, none⟩ = some (.int .i64 x39) ∧ cellH h200 ⟨b24, 3, none⟩ = some (.int .i64 x40)) ∧
    CallsH Try.prog 11 #[.agg #[.int .i64 x37, .int .i64 x38, .int .i64 x39, .int .i64 x40], .slice a41 la41 ca41] h200 fun v201 h202 =>
    ∃ x203 : Int, ∃ x204 : Int, ∃ x205 : Int, ∃ x206 : Int, v201 = .agg #[.int .i64 x203, .int .i64 x204, .int .i64 x205, .int .i64 x206] ∧
    storeL ⟨b199, 0, none⟩ 0 [.int .i64 x203, .int .i64 x204, .int .i64 x205, .int .i64 x206] h202 fun h207 =>
    ∃ x208 : Int, cellH h207 ⟨b24, 0, none⟩ = some (.int .i64 x208) ∧
    ∃ x209 : Int, cellH h207 ⟨b24, 1, none⟩ = some (.int .i64 x209) ∧
    ∃ x210 : Int, cellH h207 ⟨b24, 2, none⟩ = some (.int .i64 x210) ∧
    ∃ x211 : Int, cellH h207 ⟨b24, 3, none⟩ = some (.int .i64 x211) ∧
    ∃ x212 : Int, cellH h207 ⟨b34, 0, none⟩ = some (.int .i64 x212) ∧
    ∃ x213 : Int, cellH h207 ⟨b34, 1, none⟩ = some (.int .i64 x213) ∧
    ∃ x214 : Int, cellH h207 ⟨b34, 2, none⟩ = some (.int .i64 x214) ∧
    ∃ x215 : Int, cellH h207 ⟨b34, 3, none⟩ = some (.int .i64 x215) ∧
    CallsH Try.prog 12 #[.agg #[.int .i64 x208, .int .i64 x209, .int .i64 x210, .int .i64 x211], .agg #[.int .i64 x212, .int .i64 x213, .int .i64 x214, .int .i64 x215]] h207 fun v216 h217 =>
    ∃ x218 : Int, ∃ x219 : Int, ∃ x220 : Int, ∃ x221 : Int, v216 = .agg #[.int .i64 x218, .int .i64 x219, .int .i64 x220, .int .i64 x221] ∧
    VNew h217 (.cells #[.int .i64 0, .int .i64 0, .int .i64 0, .int .i64 0] 39) fun b222 h223 =>
    storeL ⟨b222, 0, none⟩ 0 [.int .i64 x218, .int .i64 x219, .int .i64 x220, .int .i64 x221] h223 fun h224 =>
    ∃ J225 : Heap → Prop, (cond a2turn
      (∃ x226 : Int, cellH h224 ⟨b34, 0, none⟩ = some (.int .i64 x226) ∧
        ∃ x227 : Int, cellH h224 ⟨b34, 1, none⟩ = some (.int .i64 x227) ∧
        ∃ x228 : Int, cellH h224 ⟨b34, 2, none⟩ = some (.int .i64 x228) ∧
        ∃ x229 : Int, cellH h224 ⟨b34, 3, none⟩ = some (.int .i64 x229) ∧
        ∃ x230 : Int, cellH h224 ⟨b24, 0, none⟩ = some (.int .i64 x230) ∧
        ∃ x231 : Int, cellH h224 ⟨b24, 1, none⟩ = some (.int .i64 x231) ∧
        ∃ x232 : Int, cellH h224 ⟨b24, 2, none⟩ = some (.int .i64 x232) ∧
        ∃ x233 : Int, cellH h224 ⟨b24, 3, none⟩ = some (.int .i64 x233) ∧
        CallsH Try.prog 12 #[.agg #[.int .i64 x226, .int .i64 x227, .int .i64 x228, .int .i64 x229], .agg #[.int .i64 x230, .int .i64 x231, .int .i64 x232, .int .i64 x233]] h224 fun v234 h235 =>
        ∃ x236 : Int, ∃ x237 : Int, ∃ x238 : Int, ∃ x239 : Int, v234 = .agg #[.int .i64 x236, .int .i64 x237, .int .i64 x238, .int .i64 x239] ∧
        storeL ⟨b222, 0, none⟩ 0 [.int .i64 x236, .int .i64 x237, .int .i64 x238, .int .i64 x239] h235 fun h240 =>
        J225 h240)
      (J225 h224)) ∧
    ∀ (h241 : Heap) (g242 : Env), J225 h241 →
    ∃ I243 : Nat → Heap → Option Addr → Nat → Nat → Int → Prop, (∃ n244, I243 n244 h241 none 0 0 (IntKind.i64.wrap ((la0ns : Int) - 1))) ∧
    ∀ (n244 : Nat) (h245 : Heap) (g246 : Env) (turned_247 : Option Addr) (lturned_247 cturned_247 : Nat) (i_248 : Int), I243 n244 h245 turned_247 lturned_247 cturned_247 i_248 →
    cond (decide (i_248 ≥ (0 : Int)))
    (VIdx a0ns la0ns i_248 1 fun a250 =>
      ∃ x251 : Int, cellH h245 a250 = some (.int .i64 x251) ∧
      VNew h245 (.cells #[.int .i64 x251] 2) fun b252 h253 =>
      RunsTo Try.prog (Builtin.append_ #[26, 26] 26 #[.slice turned_247 lturned_247 cturned_247, .slice (some ⟨b252, 0, none⟩) 1 1]) h253 fun v254 h255 =>
      ∃ (a256 : Option Addr) (la256 ca256 : Nat), v254 = .slice a256 la256 ca256 ∧
      ∃ m249, m249 < n244 ∧ I243 m249 h255 a256 la256 ca256 (IntKind.i64.wrap (i_248 - 1)))
    (∃ x257 : Int, cellH h245 ⟨b199, 0, none⟩ = some (.int .i64 x257) ∧
      ∃ x258 : Int, cellH h245 ⟨b199, 1, none⟩ = some (.int .i64 x258) ∧
      ∃ x259 : Int, cellH h245 ⟨b199, 2, none⟩ = some (.int .i64 x259) ∧
      ∃ x260 : Int, cellH h245 ⟨b199, 3, none⟩ = some (.int .i64 x260) ∧
      ∃ x261 : Int, cellH h245 ⟨b14, 0, none⟩ = some (.int .i64 x261) ∧
      ∃ x262 : Int, cellH h245 ⟨b14, 1, none⟩ = some (.int .i64 x262) ∧
      ∃ x263 : Int, cellH h245 ⟨b14, 2, none⟩ = some (.int .i64 x263) ∧
      ∃ x264 : Int, cellH h245 ⟨b14, 3, none⟩ = some (.int .i64 x264) ∧
      PureTo Try.prog (do eqGuard .neq 39 (.tmp 73) (.tmp 74) (.agg #[.int .i64 x257, .int .i64 x258, .int .i64 x259, .int .i64 x260]) (.agg #[.int .i64 x261, .int .i64 x262, .int .i64 x263, .int .i64 x264]); binOp .neq 39 (.agg #[.int .i64 x257, .int .i64 x258, .int .i64 x259, .int .i64 x260]) (.agg #[.int .i64 x261, .int .i64 x262, .int .i64 x263, .int .i64 x264])) fun v265 =>
      ∃ b266 : Bool, v265 = .bool b266 ∧
      cond b266 (R (.bool false) h245) (∃ x267 : Int, cellH h245 ⟨b222, 0, none⟩ = some (.int .i64 x267) ∧
        ∃ x268 : Int, cellH h245 ⟨b222, 1, none⟩ = some (.int .i64 x268) ∧
        ∃ x269 : Int, cellH h245 ⟨b222, 2, none⟩ = some (.int .i64 x269) ∧
        ∃ x270 : Int, cellH h245 ⟨b222, 3, none⟩ = some (.int .i64 x270) ∧
        ∃ x271 : Int, cellH h245 ⟨b14, 0, none⟩ = some (.int .i64 x271) ∧
        ∃ x272 : Int, cellH h245 ⟨b14, 1, none⟩ = some (.int .i64 x272) ∧
        ∃ x273 : Int, cellH h245 ⟨b14, 2, none⟩ = some (.int .i64 x273) ∧
        ∃ x274 : Int, cellH h245 ⟨b14, 3, none⟩ = some (.int .i64 x274) ∧
        PureTo Try.prog (do eqGuard .neq 39 (.tmp 77) (.tmp 78) (.agg #[.int .i64 x267, .int .i64 x268, .int .i64 x269, .int .i64 x270]) (.agg #[.int .i64 x271, .int .i64 x272, .int .i64 x273, .int .i64 x274]); binOp .neq 39 (.agg #[.int .i64 x267, .int .i64 x268, .int .i64 x269, .int .i64 x270]) (.agg #[.int .i64 x271, .int .i64 x272, .int .i64 x273, .int .i64 x274])) fun v275 =>
        ∃ b276 : Bool, v275 = .bool b276 ∧
        cond b276 (R (.bool false) h245) (∃ x277 : Int, cellH h245 ⟨b14, 0, none⟩ = some (.int .i64 x277) ∧
          ∃ x278 : Int, cellH h245 ⟨b14, 1, none⟩ = some (.int .i64 x278) ∧
          ∃ x279 : Int, cellH h245 ⟨b14, 2, none⟩ = some (.int .i64 x279) ∧
          ∃ x280 : Int, cellH h245 ⟨b14, 3, none⟩ = some (.int .i64 x280) ∧
          CallsH Try.prog 11 #[.agg #[.int .i64 0, .int .i64 0, .int .i64 0, .int .i64 0], .slice turned_247 lturned_247 cturned_247] h245 fun v281 h282 =>
          ∃ x283 : Int, ∃ x284 : Int, ∃ x285 : Int, ∃ x286 : Int, v281 = .agg #[.int .i64 x283, .int .i64 x284, .int .i64 x285, .int .i64 x286] ∧
          (cellH h282 ⟨b14, 0, none⟩ = some (.int .i64 x277) ∧ cellH h282 ⟨b14, 1, none⟩ = some (.int .i64 x278) ∧ cellH h282 ⟨b14, 2, none⟩ = some (.int .i64 x279) ∧ cellH h282 ⟨b14, 3, none⟩ = some (.int .i64 x280)) ∧
          PureTo Try.prog (do eqGuard .neq 39 (.tmp 84) (.tmp 85) (.agg #[.int .i64 x283, .int .i64 x284, .int .i64 x285, .int .i64 x286]) (.agg #[.int .i64 x277, .int .i64 x278, .int .i64 x279, .int .i64 x280]); binOp .neq 39 (.agg #[.int .i64 x283, .int .i64 x284, .int .i64 x285, .int .i64 x286]) (.agg #[.int .i64 x277, .int .i64 x278, .int .i64 x279, .int .i64 x280])) fun v287 =>
          ∃ b288 : Bool, v287 = .bool b288 ∧
          cond b288 (R (.bool false) h282) (∃ x289 : Int, cellH h282 ⟨b14, 0, none⟩ = some (.int .i64 x289) ∧
            ∃ x290 : Int, cellH h282 ⟨b14, 1, none⟩ = some (.int .i64 x290) ∧
            ∃ x291 : Int, cellH h282 ⟨b14, 2, none⟩ = some (.int .i64 x291) ∧
            ∃ x292 : Int, cellH h282 ⟨b14, 3, none⟩ = some (.int .i64 x292) ∧
            ∃ x293 : Int, cellH h282 ⟨b14, 0, none⟩ = some (.int .i64 x293) ∧
            ∃ x294 : Int, cellH h282 ⟨b14, 1, none⟩ = some (.int .i64 x294) ∧
            ∃ x295 : Int, cellH h282 ⟨b14, 2, none⟩ = some (.int .i64 x295) ∧
            ∃ x296 : Int, cellH h282 ⟨b14, 3, none⟩ = some (.int .i64 x296) ∧
            CallsH Try.prog 12 #[.agg #[.int .i64 x289, .int .i64 x290, .int .i64 x291, .int .i64 x292], .agg #[.int .i64 0, .int .i64 0, .int .i64 0, .int .i64 0]] h282 fun v297 h298 =>
            ∃ x299 : Int, ∃ x300 : Int, ∃ x301 : Int, ∃ x302 : Int, v297 = .agg #[.int .i64 x299, .int .i64 x300, .int .i64 x301, .int .i64 x302] ∧
            (cellH h298 ⟨b14, 0, none⟩ = some (.int .i64 x293) ∧ cellH h298 ⟨b14, 1, none⟩ = some (.int .i64 x294) ∧ cellH h298 ⟨b14, 2, none⟩ = some (.int .i64 x295) ∧ cellH h298 ⟨b14, 3, none⟩ = some (.int .i64 x296)) ∧
            PureTo Try.prog (do eqGuard .neq 39 (.tmp 91) (.tmp 92) (.agg #[.int .i64 x299, .int .i64 x300, .int .i64 x301, .int .i64 x302]) (.agg #[.int .i64 x293, .int .i64 x294, .int .i64 x295, .int .i64 x296]); binOp .neq 39 (.agg #[.int .i64 x299, .int .i64 x300, .int .i64 x301, .int .i64 x302]) (.agg #[.int .i64 x293, .int .i64 x294, .int .i64 x295, .int .i64 x296])) fun v303 =>
            ∃ b304 : Bool, v303 = .bool b304 ∧
            cond b304 (R (.bool false) h298) (∃ x305 : Int, cellH h298 ⟨b14, 0, none⟩ = some (.int .i64 x305) ∧
              ∃ x306 : Int, cellH h298 ⟨b14, 1, none⟩ = some (.int .i64 x306) ∧
              ∃ x307 : Int, cellH h298 ⟨b14, 2, none⟩ = some (.int .i64 x307) ∧
              ∃ x308 : Int, cellH h298 ⟨b14, 3, none⟩ = some (.int .i64 x308) ∧
              ∃ x309 : Int, cellH h298 ⟨b14, 0, none⟩ = some (.int .i64 x309) ∧
              ∃ x310 : Int, cellH h298 ⟨b14, 1, none⟩ = some (.int .i64 x310) ∧
              ∃ x311 : Int, cellH h298 ⟨b14, 2, none⟩ = some (.int .i64 x311) ∧
              ∃ x312 : Int, cellH h298 ⟨b14, 3, none⟩ = some (.int .i64 x312) ∧
              CallsH Try.prog 12 #[.agg #[.int .i64 0, .int .i64 5, .int .i64 6, .int .i64 0], .agg #[.int .i64 x305, .int .i64 x306, .int .i64 x307, .int .i64 x308]] h298 fun v313 h314 =>
              ∃ x315 : Int, ∃ x316 : Int, ∃ x317 : Int, ∃ x318 : Int, v313 = .agg #[.int .i64 x315, .int .i64 x316, .int .i64 x317, .int .i64 x318] ∧
              (cellH h314 ⟨b14, 0, none⟩ = some (.int .i64 x309) ∧ cellH h314 ⟨b14, 1, none⟩ = some (.int .i64 x310) ∧ cellH h314 ⟨b14, 2, none⟩ = some (.int .i64 x311) ∧ cellH h314 ⟨b14, 3, none⟩ = some (.int .i64 x312)) ∧
              PureTo Try.prog (do eqGuard .neq 39 (.tmp 98) (.tmp 99) (.agg #[.int .i64 x315, .int .i64 x316, .int .i64 x317, .int .i64 x318]) (.agg #[.int .i64 x309, .int .i64 x310, .int .i64 x311, .int .i64 x312]); binOp .neq 39 (.agg #[.int .i64 x315, .int .i64 x316, .int .i64 x317, .int .i64 x318]) (.agg #[.int .i64 x309, .int .i64 x310, .int .i64 x311, .int .i64 x312])) fun v319 =>
              ∃ b320 : Bool, v319 = .bool b320 ∧
              cond b320
              (R (.bool false) h314)
              (∃ x321 : Int, cellH h314 ⟨b222, 0, none⟩ = some (.int .i64 x321) ∧
                ∃ x322 : Int, cellH h314 ⟨b222, 1, none⟩ = some (.int .i64 x322) ∧
                ∃ x323 : Int, cellH h314 ⟨b222, 2, none⟩ = some (.int .i64 x323) ∧
                ∃ x324 : Int, cellH h314 ⟨b222, 3, none⟩ = some (.int .i64 x324) ∧
                CallsH Try.prog 13 #[.agg #[.int .i64 x321, .int .i64 x322, .int .i64 x323, .int .i64 x324], .int .i64 1] h314 fun v325 h326 =>
                ∃ x327 : Int, ∃ b328 : Bool, v325 = .tuple #[.int .i64 x327, .bool b328] ∧
                ∃ x329 : Int, cellH h326 ⟨b222, 0, none⟩ = some (.int .i64 x329) ∧
                ∃ x330 : Int, cellH h326 ⟨b222, 1, none⟩ = some (.int .i64 x330) ∧
                ∃ x331 : Int, cellH h326 ⟨b222, 2, none⟩ = some (.int .i64 x331) ∧
                ∃ x332 : Int, cellH h326 ⟨b222, 3, none⟩ = some (.int .i64 x332) ∧
                CallsH Try.prog 13 #[.agg #[.int .i64 x329, .int .i64 x330, .int .i64 x331, .int .i64 x332], .int .i64 2] h326 fun v333 h334 =>
                ∃ x335 : Int, ∃ b336 : Bool, v333 = .tuple #[.int .i64 x335, .bool b336] ∧
                ∃ x337 : Int, cellH h334 ⟨b222, 0, none⟩ = some (.int .i64 x337) ∧
                ∃ x338 : Int, cellH h334 ⟨b222, 1, none⟩ = some (.int .i64 x338) ∧
                ∃ x339 : Int, cellH h334 ⟨b222, 2, none⟩ = some (.int .i64 x339) ∧
                ∃ x340 : Int, cellH h334 ⟨b222, 3, none⟩ = some (.int .i64 x340) ∧
                CallsH Try.prog 13 #[.agg #[.int .i64 x337, .int .i64 x338, .int .i64 x339, .int .i64 x340], .int .i64 3] h334 fun v341 h342 =>
                ∃ x343 : Int, ∃ b344 : Bool, v341 = .tuple #[.int .i64 x343, .bool b344] ∧
                ∃ x345 : Int, cellH h342 ⟨b222, 0, none⟩ = some (.int .i64 x345) ∧
                ∃ x346 : Int, cellH h342 ⟨b222, 1, none⟩ = some (.int .i64 x346) ∧
                ∃ x347 : Int, cellH h342 ⟨b222, 2, none⟩ = some (.int .i64 x347) ∧
                ∃ x348 : Int, cellH h342 ⟨b222, 3, none⟩ = some (.int .i64 x348) ∧
                CallsH Try.prog 13 #[.agg #[.int .i64 x345, .int .i64 x346, .int .i64 x347, .int .i64 x348], .int .i64 4] h342 fun v349 h350 =>
                ∃ x351 : Int, ∃ b352 : Bool, v349 = .tuple #[.int .i64 x351, .bool b352] ∧
                cond (x327 == (la0ns : Int)) (∃ x353 : Int, cellH h350 ⟨b14, 1, none⟩ = some (.int .i64 x353) ∧
                  cond (x335 == x353) (∃ x354 : Int, cellH h350 ⟨b14, 2, none⟩ = some (.int .i64 x354) ∧
                    cond (x343 == x354) (∃ x355 : Int, cellH h350 ⟨b14, 3, none⟩ = some (.int .i64 x355) ∧
                      cond (x351 == x355) (cond b328 (cond b336 (cond (b344 == (decide ((la0ns : Int) > (0 : Int)))) (R (.bool (b352 == (decide ((la0ns : Int) > (0 : Int))))) h350) (R (.bool false) h350)) (R (.bool false) h350)) (R (.bool false) h350)) (R (.bool false) h350)) (R (.bool false) h350)) (R (.bool false) h350)) (R (.bool false) h350))))))))
theorem vf4 (a0ns : Option Addr) (la0ns ca0ns : Nat) (a1cut : Int) (a2turn : Bool) (h : Heap) (R : KV) (hF : F4 a0ns la0ns ca0ns a1cut a2turn h R) : CallsH Try.prog 4 #[.slice a0ns la0ns ca0ns, .int .i64 a1cut, .bool a2turn] h R :=
  calls_of_form (A := an4) (fn := Try.f4) (c := c4) (args := [.slice a0ns la0ns ca0ns, .int .i64 a1cut, .bool a2turn]) Try.func4 (by kernel_rfl) mixed (by kernel_rfl) (by kernel_rfl : F4 a0ns la0ns ca0ns a1cut a2turn h R = vcF Try.prog an4 Try.f4 c4 [.slice a0ns la0ns ca0ns, .int .i64 a1cut, .bool a2turn] h R) hF
/-! ### 5 refrain/refrainlaw14.AggLast -/
noncomputable def c5 : Code := match Try.f5.body with | some c => c | none => .skip
noncomputable def an5 : Ann := { loops := fun i => match i with | 10 => [(6, .bool), (9, .slc), (10, .int .i64)] | 19 => [(6, .bool), (9, .slc), (11, .int .i64)] | 30 => [(6, .bool), (9, .slc)] | _ => [], draws := fun i => #[], joins := fun i => match i with | 5 => some [(0, .int .i64)] | 16 => some [(9, .slc)] | 19 => some [(11, .int .i64)] | 20 => some [(6, .bool), (9, .slc), (12, .int .i64)] | _ => none }
def F5 (a0size : Int) (a1ns : Option Addr) (la1ns ca1ns : Nat) (a2pops : Option Addr) (la2pops ca2pops : Nat) (h : Heap) (R : KV) : Prop :=
  CallsH Try.prog 6 #[] h fun v1 h2 =>
  ∃ b3 : Bool, v1 = .bool b3 ∧
  cond (!b3)
  (R (.bool false) h2)
  (∃ J4 : Heap → Int → Prop, (cond (decide (a0size < (1 : Int))) (J4 h2 3) (cond (decide (a0size > (4096 : Int)))
        (J4 h2 3)
        (J4 h2 a0size))) ∧
    ∀ (h5 : Heap) (g6 : Env) (size_7 : Int), J4 h5 size_7 →
    CallsH Try.prog 14 #[.int .i64 size_7] h5 fun v8 h9 =>
    ∃ p10 : Option Addr, ∃ x11 : Int, v8 = .tuple #[.pointer p10, .int .i64 x11] ∧
    cond (x11 != (0 : Int)) (R (.bool false) h9) (cond p10.isNone
      (R (.bool false) h9)
      (∃ I12 : Nat → Heap → Bool → Option Addr → Nat → Nat → Int → Prop, (∃ n13, I12 n13 h9 false none 0 0 0) ∧
        ∀ (n13 : Nat) (h14 : Heap) (g15 : Env) (y_16 : Bool) (held_17 : Option Addr) (lheld_17 cheld_17 : Nat) (i_18 : Int), I12 n13 h14 y_16 held_17 lheld_17 cheld_17 i_18 →
        cond (decide (i_18 < (la1ns : Int)))
        (VIdx a1ns la1ns i_18 1 fun a20 =>
          ∃ x21 : Int, cellH h14 a20 = some (.int .i64 x21) ∧
          CallsH Try.prog 15 #[.pointer p10, .int .i64 x21] h14 fun v22 h23 =>
          v22 = .tuple #[] ∧
          VIdx a1ns la1ns i_18 1 fun a24 =>
          ∃ x25 : Int, cellH h23 a24 = some (.int .i64 x25) ∧
          VNew h23 (.cells #[.int .i64 x25] 2) fun b26 h27 =>
          RunsTo Try.prog (Builtin.append_ #[26, 26] 26 #[.slice held_17 lheld_17 cheld_17, .slice (some ⟨b26, 0, none⟩) 1 1]) h27 fun v28 h29 =>
          ∃ (a30 : Option Addr) (la30 ca30 : Nat), v28 = .slice a30 la30 ca30 ∧
          ∃ J31 : Heap → Option Addr → Nat → Nat → Prop, (cond (decide ((la30 : Int) > size_7))
            (VSlice 1 a30 ca30 1 (la30 : Int) (ca30 : Int) fun a32 la32 ca32 =>
              J31 h29 a32 la32 ca32)
            (J31 h29 a30 la30 ca30)) ∧
          ∀ (h33 : Heap) (g34 : Env) (held_35 : Option Addr) (lheld_35 cheld_35 : Nat), J31 h33 held_35 lheld_35 cheld_35 →
          ∃ J36 : Heap → Int → Prop, (cond (decide (i_18 < (la2pops : Int)))
            (VIdx a2pops la2pops i_18 1 fun a37 =>
              ∃ x38 : Int, cellH h33 a37 = some (.int .u8 x38) ∧
              (4 : Int) ≠ (0 : Int) ∧
              J36 h33 (Int.tmod (IntKind.i64.wrap x38) 4))
            (J36 h33 0)) ∧
          ∀ (h39 : Heap) (g40 : Env) (k_41 : Int), J36 h39 k_41 →
          ∃ I42 : Nat → Heap → Bool → Option Addr → Nat → Nat → Int → Prop, (∃ n43, I42 n43 h39 y_16 held_35 lheld_35 cheld_35 k_41) ∧
          ∀ (n43 : Nat) (h44 : Heap) (g45 : Env) (y_46 : Bool) (held_47 : Option Addr) (lheld_47 cheld_47 : Nat) (k_48 : Int), I42 n43 h44 y_46 held_47 lheld_47 cheld_47 k_48 →
          cond (decide (k_48 > (1 : Int)))
          (∃ J50 : Heap → Bool → Option Addr → Nat → Nat → Int → Prop, (CallsH Try.prog 16 #[.pointer p10] h44 fun v51 h52 =>
              ∃ x53 : Int, v51 = .int .i64 x53 ∧
              cond ((lheld_47 : Int) == (0 : Int))
              (cond (x53 != (3 : Int))
                (R (.bool false) h52)
                (J50 h52 y_46 held_47 lheld_47 cheld_47 x53))
              (VSlice 1 held_47 cheld_47 1 (lheld_47 : Int) (cheld_47 : Int) fun a54 la54 ca54 =>
                cond (x53 != (0 : Int))
                (R (.bool false) h52)
                (J50 h52 y_46 a54 la54 ca54 x53))) ∧
            ∀ (h55 : Heap) (g56 : Env) (y_57 : Bool) (held_58 : Option Addr) (lheld_58 cheld_58 : Nat) (f_59 : Int), J50 h55 y_57 held_58 lheld_58 cheld_58 f_59 →
            ∃ m49, m49 < n43 ∧ I42 m49 h55 y_57 held_58 lheld_58 cheld_58 (IntKind.i64.wrap (k_48 - 1)))
          (CallsH Try.prog 17 #[.pointer p10] h44 fun v60 h61 =>
            ∃ x62 : Int, ∃ x63 : Int, ∃ x64 : Int, ∃ x65 : Int, v60 = .agg #[.int .i64 x62, .int .i64 x63, .int .i64 x64, .int .i64 x65] ∧
            CallsH Try.prog 10 #[.slice held_47 lheld_47 cheld_47] h61 fun v66 h67 =>
            ∃ x68 : Int, ∃ x69 : Int, ∃ x70 : Int, ∃ x71 : Int, v66 = .agg #[.int .i64 x68, .int .i64 x69, .int .i64 x70, .int .i64 x71] ∧
            PureTo Try.prog (do eqGuard .neq 39 (.tmp 83) (.tmp 85) (.agg #[.int .i64 x62, .int .i64 x63, .int .i64 x64, .int .i64 x65]) (.agg #[.int .i64 x68, .int .i64 x69, .int .i64 x70, .int .i64 x71]); binOp .neq 39 (.agg #[.int .i64 x62, .int .i64 x63, .int .i64 x64, .int .i64 x65]) (.agg #[.int .i64 x68, .int .i64 x69, .int .i64 x70, .int .i64 x71])) fun v72 =>
            ∃ b73 : Bool, v72 = .bool b73 ∧
            cond b73
            (R (.bool false) h67)
            (∃ m19, m19 < n13 ∧ I12 m19 h67 y_46 held_47 lheld_47 cheld_47 (IntKind.i64.wrap (i_18 + 1)))))
        (∃ I74 : Nat → Heap → Bool → Option Addr → Nat → Nat → Prop, (∃ n75, I74 n75 h14 y_16 held_17 lheld_17 cheld_17) ∧
          ∀ (n75 : Nat) (h76 : Heap) (g77 : Env) (y_78 : Bool) (held_79 : Option Addr) (lheld_79 cheld_79 : Nat), I74 n75 h76 y_78 held_79 lheld_79 cheld_79 →
          cond (decide ((lheld_79 : Int) > (0 : Int)))
          (CallsH Try.prog 17 #[.pointer p10] h76 fun v81 h82 =>
            ∃ x83 : Int, ∃ x84 : Int, ∃ x85 : Int, ∃ x86 : Int, v81 = .agg #[.int .i64 x83, .int .i64 x84, .int .i64 x85, .int .i64 x86] ∧
            CallsH Try.prog 10 #[.slice held_79 lheld_79 cheld_79] h82 fun v87 h88 =>
            ∃ x89 : Int, ∃ x90 : Int, ∃ x91 : Int, ∃ x92 : Int, v87 = .agg #[.int .i64 x89, .int .i64 x90, .int .i64 x91, .int .i64 x92] ∧
            PureTo Try.prog (do eqGuard .neq 39 (.tmp 91) (.tmp 93) (.agg #[.int .i64 x83, .int .i64 x84, .int .i64 x85, .int .i64 x86]) (.agg #[.int .i64 x89, .int .i64 x90, .int .i64 x91, .int .i64 x92]); binOp .neq 39 (.agg #[.int .i64 x83, .int .i64 x84, .int .i64 x85, .int .i64 x86]) (.agg #[.int .i64 x89, .int .i64 x90, .int .i64 x91, .int .i64 x92])) fun v93 =>
            ∃ b94 : Bool, v93 = .bool b94 ∧
            cond b94 (R (.bool false) h88) (CallsH Try.prog 16 #[.pointer p10] h88 fun v95 h96 =>
              ∃ x97 : Int, v95 = .int .i64 x97 ∧
              cond (x97 != (0 : Int))
              (R (.bool false) h96)
              (VSlice 1 held_79 cheld_79 1 (lheld_79 : Int) (cheld_79 : Int) fun a98 la98 ca98 =>
                ∃ m80, m80 < n75 ∧ I74 m80 h96 y_78 a98 la98 ca98)))
          (CallsH Try.prog 16 #[.pointer p10] h76 fun v99 h100 =>
            ∃ x101 : Int, v99 = .int .i64 x101 ∧
            cond (x101 == (3 : Int)) (CallsH Try.prog 17 #[.pointer p10] h100 fun v102 h103 =>
              ∃ x104 : Int, ∃ x105 : Int, ∃ x106 : Int, ∃ x107 : Int, v102 = .agg #[.int .i64 x104, .int .i64 x105, .int .i64 x106, .int .i64 x107] ∧
              PureTo Try.prog (do eqGuard .eql 39 (.tmp 107) (.tmp 108) (.agg #[.int .i64 x104, .int .i64 x105, .int .i64 x106, .int .i64 x107]) (.agg #[.int .i64 0, .int .i64 0, .int .i64 0, .int .i64 0]); binOp .eql 39 (.agg #[.int .i64 x104, .int .i64 x105, .int .i64 x106, .int .i64 x107]) (.agg #[.int .i64 0, .int .i64 0, .int .i64 0, .int .i64 0])) fun v108 =>
              ∃ b109 : Bool, v108 = .bool b109 ∧
              R (.bool b109) h103) (R (.bool false) h100))))))
theorem vf5 (a0size : Int) (a1ns : Option Addr) (la1ns ca1ns : Nat) (a2pops : Option Addr) (la2pops ca2pops : Nat) (h : Heap) (R : KV) (hF : F5 a0size a1ns la1ns ca1ns a2pops la2pops ca2pops h R) : CallsH Try.prog 5 #[.int .i64 a0size, .slice a1ns la1ns ca1ns, .slice a2pops la2pops ca2pops] h R :=
  calls_of_form (A := an5) (fn := Try.f5) (c := c5) (args := [.int .i64 a0size, .slice a1ns la1ns ca1ns, .slice a2pops la2pops ca2pops]) Try.func5 (by kernel_rfl) mixed (by kernel_rfl) (by kernel_rfl : F5 a0size a1ns la1ns ca1ns a2pops la2pops ca2pops h R = vcF Try.prog an5 Try.f5 c5 [.int .i64 a0size, .slice a1ns la1ns ca1ns, .slice a2pops la2pops ca2pops] h R) hF
/-! ### 6 refrain/refrainlaw14.begun -/
noncomputable def c6 : Code := match Try.f6.body with | some c => c | none => .skip
noncomputable def an6 : Ann := { loops := fun i => [], draws := fun i => #[], joins := fun i => none }
def F6  (h : Heap) (R : KV) : Prop :=
  CallsH Try.prog 14 #[.int .i64 2] h fun v1 h2 =>
  ∃ p3 : Option Addr, ∃ x4 : Int, v1 = .tuple #[.pointer p3, .int .i64 x4] ∧
  cond p3.isNone (R (.bool false) h2) (cond (x4 != (0 : Int))
    (R (.bool false) h2)
    (CallsH Try.prog 15 #[.pointer p3, .int .i64 5] h2 fun v5 h6 =>
      v5 = .tuple #[] ∧
      CallsH Try.prog 15 #[.pointer p3, .int .i64 3] h6 fun v7 h8 =>
      v7 = .tuple #[] ∧
      CallsH Try.prog 15 #[.pointer p3, .int .i64 9] h8 fun v9 h10 =>
      v9 = .tuple #[] ∧
      CallsH Try.prog 13 #[.agg #[.int .i64 2, .int .i64 5, .int .i64 1, .int .i64 4], .int .i64 3] h10 fun v11 h12 =>
      ∃ x13 : Int, ∃ b14 : Bool, v11 = .tuple #[.int .i64 x13, .bool b14] ∧
      CallsH Try.prog 17 #[.pointer p3] h12 fun v15 h16 =>
      ∃ x17 : Int, ∃ x18 : Int, ∃ x19 : Int, ∃ x20 : Int, v15 = .agg #[.int .i64 x17, .int .i64 x18, .int .i64 x19, .int .i64 x20] ∧
      PureTo Try.prog (do eqGuard .eql 39 (.tmp 27) (.tmp 28) (.agg #[.int .i64 x17, .int .i64 x18, .int .i64 x19, .int .i64 x20]) (.agg #[.int .i64 2, .int .i64 12, .int .i64 3, .int .i64 9]); binOp .eql 39 (.agg #[.int .i64 x17, .int .i64 x18, .int .i64 x19, .int .i64 x20]) (.agg #[.int .i64 2, .int .i64 12, .int .i64 3, .int .i64 9])) fun v21 =>
      ∃ b22 : Bool, v21 = .bool b22 ∧
      cond b22 (VNew h16 (.cells #[.int .i64 3, .int .i64 (-1 : Int)] 2) fun b23 h24 =>
        CallsH Try.prog 11 #[.agg #[.int .i64 0, .int .i64 0, .int .i64 0, .int .i64 0], .slice (some ⟨b23, 0, none⟩) 2 2] h24 fun v25 h26 =>
        ∃ x27 : Int, ∃ x28 : Int, ∃ x29 : Int, ∃ x30 : Int, v25 = .agg #[.int .i64 x27, .int .i64 x28, .int .i64 x29, .int .i64 x30] ∧
        PureTo Try.prog (do eqGuard .eql 39 (.tmp 33) (.tmp 34) (.agg #[.int .i64 x27, .int .i64 x28, .int .i64 x29, .int .i64 x30]) (.agg #[.int .i64 2, .int .i64 2, .int .i64 (-1 : Int), .int .i64 3]); binOp .eql 39 (.agg #[.int .i64 x27, .int .i64 x28, .int .i64 x29, .int .i64 x30]) (.agg #[.int .i64 2, .int .i64 2, .int .i64 (-1 : Int), .int .i64 3])) fun v31 =>
        ∃ b32 : Bool, v31 = .bool b32 ∧
        cond b32 (cond (x13 == (1 : Int)) (R (.bool b14) h26) (R (.bool false) h26)) (R (.bool false) h26)) (R (.bool false) h16)))
theorem vf6  (h : Heap) (R : KV) (hF : F6  h R) : CallsH Try.prog 6 #[] h R :=
  calls_of_form (A := an6) (fn := Try.f6) (c := c6) (args := []) Try.func6 (by kernel_rfl) mixed (by kernel_rfl) (by kernel_rfl : F6  h R = vcF Try.prog an6 Try.f6 c6 [] h R) hF
/-! ### 7 refrain/refrainlaw14.made -/
noncomputable def c7 : Code := match Try.f7.body with | some c => c | none => .skip
noncomputable def an7 : Ann := { loops := fun i => [], draws := fun i => #[], joins := fun i => none }
def F7 (a0size : Int) (h : Heap) (R : KV) : Prop :=
  VNew h (.cells #[.pointer none, .pointer none] 32) fun b1 h2 =>
  CallsH Try.prog 14 #[.int .i64 a0size] h2 fun v3 h4 =>
  ∃ p5 : Option Addr, ∃ x6 : Int, v3 = .tuple #[.pointer p5, .int .i64 x6] ∧
  CallsH Try.prog 18 #[.int .i64 a0size] h4 fun v7 h8 =>
  ∃ p9 : Option Addr, ∃ x10 : Int, v7 = .tuple #[.pointer p9, .int .i64 x10] ∧
  cond (x6 == x10) (storeL ⟨b1, 0, none⟩ 0 [.pointer p5, .pointer p9] h8 fun h11 =>
    ∃ p12 : Option Addr, cellH h11 ⟨b1, 0, none⟩ = some (.pointer p12) ∧
    ∃ p13 : Option Addr, cellH h11 ⟨b1, 1, none⟩ = some (.pointer p13) ∧
    R (.tuple #[.agg #[.pointer p12, .pointer p13], .bool (p5.isNone == p9.isNone)]) h11) (storeL ⟨b1, 0, none⟩ 0 [.pointer p5, .pointer p9] h8 fun h14 =>
    ∃ p15 : Option Addr, cellH h14 ⟨b1, 0, none⟩ = some (.pointer p15) ∧
    ∃ p16 : Option Addr, cellH h14 ⟨b1, 1, none⟩ = some (.pointer p16) ∧
    R (.tuple #[.agg #[.pointer p15, .pointer p16], .bool false]) h14)
theorem vf7 (a0size : Int) (h : Heap) (R : KV) (hF : F7 a0size h R) : CallsH Try.prog 7 #[.int .i64 a0size] h R :=
  calls_of_form (A := an7) (fn := Try.f7) (c := c7) (args := [.int .i64 a0size]) Try.func7 (by kernel_rfl) mixed (by kernel_rfl) (by kernel_rfl : F7 a0size h R = vcF Try.prog an7 Try.f7 c7 [.int .i64 a0size] h R) hF
/-! ### 8 refrain/refrainlaw14.slot -/
noncomputable def c8 : Code := match Try.f8.body with | some c => c | none => .skip
noncomputable def an8 : Ann := { loops := fun i => [], draws := fun i => #[], joins := fun i => match i with | 3 => some [(0, .int .i64)] | _ => none }
def F8 (a0k : Int) (h : Heap) (R : KV) : Prop :=
  ∃ J1 : Heap → Int → Prop, (cond (decide (a0k < (0 : Int)))
    (J1 h (IntKind.i64.wrap ((-1 : Int) - a0k)))
    (J1 h a0k)) ∧
  ∀ (h2 : Heap) (g3 : Env) (k_4 : Int), J1 h2 k_4 →
  (8 : Int) ≠ (0 : Int) ∧
  R (.int .i64 (Int.tmod k_4 8)) h2
theorem vf8 (a0k : Int) (h : Heap) (R : KV) (hF : F8 a0k h R) : CallsH Try.prog 8 #[.int .i64 a0k] h R :=
  calls_of_form (A := an8) (fn := Try.f8) (c := c8) (args := [.int .i64 a0k]) Try.func8 (by kernel_rfl) mixed (by kernel_rfl) (by kernel_rfl : F8 a0k h R = vcF Try.prog an8 Try.f8 c8 [.int .i64 a0k] h R) hF
/-! ### 9 refrain/refrainlaw14.plays -/
noncomputable def c9 : Code := match Try.f9.body with | some c => c | none => .skip
noncomputable def an9 : Ann := { loops := fun i => match i with | 17 => [(13, .int .i64)] | _ => [], draws := fun i => match i with | 3 => #[0, 1, 0, 0, 8, 28, 63, 0, 255] | 5 => #[0, 1, 3, 3, 11, 3, 35, 123, 255, 511, 1023] | 7 => #[0, 1, 0, 4, 15, 0, 32, 0, 128, 511, 1023, 2047] | 19 => #[0, 1, 0, 4, 0, 28, 60, 127] | 20 => #[0, 1, 0, 4, 0, 28, 60, 127] | 22 => #[0, 1, 3, 0, 8, 31, 63, 127] | 24 => #[0, 1, 3, 0, 8, 31, 63, 127] | _ => #[], joins := fun i => match i with | 25 => some [(6, .bool)] | _ => none }
def F9 (a0h : Option Addr) (a1r_0 : Option Addr) (a1r_1 : Option Addr) (a2o_0 : Int) (a2o_1 : Int) (a2o_2 : Int) (a2o_3 : Int) (a2o_4 : Int) (a2o_5 : Int) (a2o_6 : Int) (a2o_7 : Int) (a2o_8 : Int) (a2o_9 : Int) (a2o_10 : Option Addr) (la2o_10 ca2o_10 : Nat) (a2o_11 : Int) (h : Heap) (R : KV) : Prop :=
  VNew h (.cells #[.pointer a1r_0, .pointer a1r_1] 32) fun b1 h2 =>
  VNew h2 (.cells #[.int .i64 a2o_0, .int .i64 a2o_1, .int .i64 a2o_2, .int .i64 a2o_3, .int .i64 a2o_4, .int .i64 a2o_5, .int .i64 a2o_6, .int .i64 a2o_7, .int .i64 a2o_8, .int .i64 a2o_9, .slice a2o_10 la2o_10 ca2o_10, .int .i64 a2o_11] 41) fun b3 h4 =>
  ∃ x5 : Int, cellH h4 ⟨b3, 0, none⟩ = some (.int .i64 x5) ∧
  cond (x5 == (1 : Int))
  (∃ x6 : Int, cellH h4 ⟨b3, 2, none⟩ = some (.int .i64 x6) ∧
    ∃ x7 : Int, cellH h4 ⟨b3, 3, none⟩ = some (.int .i64 x7) ∧
    ∃ x8 : Int, cellH h4 ⟨b3, 4, none⟩ = some (.int .i64 x8) ∧
    ∃ x9 : Int, cellH h4 ⟨b3, 5, none⟩ = some (.int .i64 x9) ∧
    ∃ (a10 : Option Addr) (la10 ca10 : Nat), cellH h4 ⟨b3, 10, none⟩ = some (.slice a10 la10 ca10) ∧
    (CallsH Try.prog 19 #[.pointer a0h, .slice a10 la10 ca10] h4 fun v11 h12 =>
      ∃ (a13 : Option Addr) (la13 ca13 : Nat), v11 = .slice a13 la13 ca13 ∧
      (cellH h12 ⟨b3, 2, none⟩ = some (.int .i64 x6) ∧ cellH h12 ⟨b3, 3, none⟩ = some (.int .i64 x7) ∧ cellH h12 ⟨b3, 4, none⟩ = some (.int .i64 x8) ∧ cellH h12 ⟨b3, 5, none⟩ = some (.int .i64 x9)) ∧
      (CallsH Try.prog 11 #[.agg #[.int .i64 x6, .int .i64 x7, .int .i64 x8, .int .i64 x9], .slice a13 la13 ca13] h12 fun v14 h15 =>
        ∃ x16 : Int, ∃ x17 : Int, ∃ x18 : Int, ∃ x19 : Int, v14 = .agg #[.int .i64 x16, .int .i64 x17, .int .i64 x18, .int .i64 x19] ∧
        VNew h15 (.cells #[.int .i64 0, .int .i64 0, .int .i64 0, .int .i64 0] 39) fun b20 h21 =>
        storeL ⟨b20, 0, none⟩ 0 [.int .i64 x16, .int .i64 x17, .int .i64 x18, .int .i64 x19] h21 fun h22 =>
        ∃ (a23 : Option Addr) (la23 ca23 : Nat), cellH h22 ⟨b3, 10, none⟩ = some (.slice a23 la23 ca23) ∧
        CallsH Try.prog 20 #[.pointer a0h, .slice a23 la23 ca23] h22 fun v24 h25 =>
        ∃ b26 : Bool, v24 = .bool b26 ∧
        cond b26 (∃ x27 : Int, cellH h25 ⟨b20, 0, none⟩ = some (.int .i64 x27) ∧
          ∃ x28 : Int, cellH h25 ⟨b20, 1, none⟩ = some (.int .i64 x28) ∧
          ∃ x29 : Int, cellH h25 ⟨b20, 2, none⟩ = some (.int .i64 x29) ∧
          ∃ x30 : Int, cellH h25 ⟨b20, 3, none⟩ = some (.int .i64 x30) ∧
          ∃ x31 : Int, cellH h25 ⟨b3, 2, none⟩ = some (.int .i64 x31) ∧
          ∃ x32 : Int, cellH h25 ⟨b3, 3, none⟩ = some (.int .i64 x32) ∧
          ∃ x33 : Int, cellH h25 ⟨b3, 4, none⟩ = some (.int .i64 x33) ∧
          ∃ x34 : Int, cellH h25 ⟨b3, 5, none⟩ = some (.int .i64 x34) ∧
          ∃ (a35 : Option Addr) (la35 ca35 : Nat), cellH h25 ⟨b3, 10, none⟩ = some (.slice a35 la35 ca35) ∧
          CallsH Try.prog 21 #[.agg #[.int .i64 x31, .int .i64 x32, .int .i64 x33, .int .i64 x34], .slice a35 la35 ca35] h25 fun v36 h37 =>
          ∃ x38 : Int, ∃ x39 : Int, ∃ x40 : Int, ∃ x41 : Int, v36 = .agg #[.int .i64 x38, .int .i64 x39, .int .i64 x40, .int .i64 x41] ∧
          (cellH h37 ⟨b20, 0, none⟩ = some (.int .i64 x27) ∧ cellH h37 ⟨b20, 1, none⟩ = some (.int .i64 x28) ∧ cellH h37 ⟨b20, 2, none⟩ = some (.int .i64 x29) ∧ cellH h37 ⟨b20, 3, none⟩ = some (.int .i64 x30)) ∧
          PureTo Try.prog (do eqGuard .eql 39 (.tmp 31) (.tmp 36) (.agg #[.int .i64 x27, .int .i64 x28, .int .i64 x29, .int .i64 x30]) (.agg #[.int .i64 x38, .int .i64 x39, .int .i64 x40, .int .i64 x41]); binOp .eql 39 (.agg #[.int .i64 x27, .int .i64 x28, .int .i64 x29, .int .i64 x30]) (.agg #[.int .i64 x38, .int .i64 x39, .int .i64 x40, .int .i64 x41])) fun v42 =>
          ∃ b43 : Bool, v42 = .bool b43 ∧
          R (.bool b43) h37) (R (.bool false) h25)) ∧
      VNew h12 (.cells #[.int .i64 0, .int .i64 0, .int .i64 0, .int .i64 0] 39) fun b44 h45 =>
      (cellH h45 ⟨b3, 2, none⟩ = some (.int .i64 x6) ∧ cellH h45 ⟨b3, 3, none⟩ = some (.int .i64 x7) ∧ cellH h45 ⟨b3, 4, none⟩ = some (.int .i64 x8) ∧ cellH h45 ⟨b3, 5, none⟩ = some (.int .i64 x9)) ∧
      CallsH Try.prog 11 #[.agg #[.int .i64 x6, .int .i64 x7, .int .i64 x8, .int .i64 x9], .slice a13 la13 ca13] h45 fun v46 h47 =>
      ∃ x48 : Int, ∃ x49 : Int, ∃ x50 : Int, ∃ x51 : Int, v46 = .agg #[.int .i64 x48, .int .i64 x49, .int .i64 x50, .int .i64 x51] ∧
      storeL ⟨b44, 0, none⟩ 0 [.int .i64 x48, .int .i64 x49, .int .i64 x50, .int .i64 x51] h47 fun h52 =>
      ∃ (a53 : Option Addr) (la53 ca53 : Nat), cellH h52 ⟨b3, 10, none⟩ = some (.slice a53 la53 ca53) ∧
      CallsH Try.prog 20 #[.pointer a0h, .slice a53 la53 ca53] h52 fun v54 h55 =>
      ∃ b56 : Bool, v54 = .bool b56 ∧
      cond b56 (∃ x57 : Int, cellH h55 ⟨b44, 0, none⟩ = some (.int .i64 x57) ∧
        ∃ x58 : Int, cellH h55 ⟨b44, 1, none⟩ = some (.int .i64 x58) ∧
        ∃ x59 : Int, cellH h55 ⟨b44, 2, none⟩ = some (.int .i64 x59) ∧
        ∃ x60 : Int, cellH h55 ⟨b44, 3, none⟩ = some (.int .i64 x60) ∧
        ∃ x61 : Int, cellH h55 ⟨b3, 2, none⟩ = some (.int .i64 x61) ∧
        ∃ x62 : Int, cellH h55 ⟨b3, 3, none⟩ = some (.int .i64 x62) ∧
        ∃ x63 : Int, cellH h55 ⟨b3, 4, none⟩ = some (.int .i64 x63) ∧
        ∃ x64 : Int, cellH h55 ⟨b3, 5, none⟩ = some (.int .i64 x64) ∧
        ∃ (a65 : Option Addr) (la65 ca65 : Nat), cellH h55 ⟨b3, 10, none⟩ = some (.slice a65 la65 ca65) ∧
        CallsH Try.prog 21 #[.agg #[.int .i64 x61, .int .i64 x62, .int .i64 x63, .int .i64 x64], .slice a65 la65 ca65] h55 fun v66 h67 =>
        ∃ x68 : Int, ∃ x69 : Int, ∃ x70 : Int, ∃ x71 : Int, v66 = .agg #[.int .i64 x68, .int .i64 x69, .int .i64 x70, .int .i64 x71] ∧
        (cellH h67 ⟨b44, 0, none⟩ = some (.int .i64 x57) ∧ cellH h67 ⟨b44, 1, none⟩ = some (.int .i64 x58) ∧ cellH h67 ⟨b44, 2, none⟩ = some (.int .i64 x59) ∧ cellH h67 ⟨b44, 3, none⟩ = some (.int .i64 x60)) ∧
        PureTo Try.prog (do eqGuard .eql 39 (.tmp 31) (.tmp 36) (.agg #[.int .i64 x57, .int .i64 x58, .int .i64 x59, .int .i64 x60]) (.agg #[.int .i64 x68, .int .i64 x69, .int .i64 x70, .int .i64 x71]); binOp .eql 39 (.agg #[.int .i64 x57, .int .i64 x58, .int .i64 x59, .int .i64 x60]) (.agg #[.int .i64 x68, .int .i64 x69, .int .i64 x70, .int .i64 x71])) fun v72 =>
        ∃ b73 : Bool, v72 = .bool b73 ∧
        R (.bool b73) h67) (R (.bool false) h55)) ∧
    VNew h4 (.cells #[.int .i64 0, .int .i64 0, .int .i64 0, .int .i64 0] 39) fun b74 h75 =>
    (cellH h75 ⟨b3, 10, none⟩ = some (.slice a10 la10 ca10)) ∧
    (cellH h75 ⟨b3, 2, none⟩ = some (.int .i64 x6) ∧ cellH h75 ⟨b3, 3, none⟩ = some (.int .i64 x7) ∧ cellH h75 ⟨b3, 4, none⟩ = some (.int .i64 x8) ∧ cellH h75 ⟨b3, 5, none⟩ = some (.int .i64 x9)) ∧
    CallsH Try.prog 19 #[.pointer a0h, .slice a10 la10 ca10] h75 fun v76 h77 =>
    ∃ (a78 : Option Addr) (la78 ca78 : Nat), v76 = .slice a78 la78 ca78 ∧
    (cellH h77 ⟨b3, 2, none⟩ = some (.int .i64 x6) ∧ cellH h77 ⟨b3, 3, none⟩ = some (.int .i64 x7) ∧ cellH h77 ⟨b3, 4, none⟩ = some (.int .i64 x8) ∧ cellH h77 ⟨b3, 5, none⟩ = some (.int .i64 x9)) ∧
    CallsH Try.prog 11 #[.agg #[.int .i64 x6, .int .i64 x7, .int .i64 x8, .int .i64 x9], .slice a78 la78 ca78] h77 fun v79 h80 =>
    ∃ x81 : Int, ∃ x82 : Int, ∃ x83 : Int, ∃ x84 : Int, v79 = .agg #[.int .i64 x81, .int .i64 x82, .int .i64 x83, .int .i64 x84] ∧
    storeL ⟨b74, 0, none⟩ 0 [.int .i64 x81, .int .i64 x82, .int .i64 x83, .int .i64 x84] h80 fun h85 =>
    ∃ (a86 : Option Addr) (la86 ca86 : Nat), cellH h85 ⟨b3, 10, none⟩ = some (.slice a86 la86 ca86) ∧
    CallsH Try.prog 20 #[.pointer a0h, .slice a86 la86 ca86] h85 fun v87 h88 =>
    ∃ b89 : Bool, v87 = .bool b89 ∧
    cond b89 (∃ x90 : Int, cellH h88 ⟨b74, 0, none⟩ = some (.int .i64 x90) ∧
      ∃ x91 : Int, cellH h88 ⟨b74, 1, none⟩ = some (.int .i64 x91) ∧
      ∃ x92 : Int, cellH h88 ⟨b74, 2, none⟩ = some (.int .i64 x92) ∧
      ∃ x93 : Int, cellH h88 ⟨b74, 3, none⟩ = some (.int .i64 x93) ∧
      ∃ x94 : Int, cellH h88 ⟨b3, 2, none⟩ = some (.int .i64 x94) ∧
      ∃ x95 : Int, cellH h88 ⟨b3, 3, none⟩ = some (.int .i64 x95) ∧
      ∃ x96 : Int, cellH h88 ⟨b3, 4, none⟩ = some (.int .i64 x96) ∧
      ∃ x97 : Int, cellH h88 ⟨b3, 5, none⟩ = some (.int .i64 x97) ∧
      ∃ (a98 : Option Addr) (la98 ca98 : Nat), cellH h88 ⟨b3, 10, none⟩ = some (.slice a98 la98 ca98) ∧
      CallsH Try.prog 21 #[.agg #[.int .i64 x94, .int .i64 x95, .int .i64 x96, .int .i64 x97], .slice a98 la98 ca98] h88 fun v99 h100 =>
      ∃ x101 : Int, ∃ x102 : Int, ∃ x103 : Int, ∃ x104 : Int, v99 = .agg #[.int .i64 x101, .int .i64 x102, .int .i64 x103, .int .i64 x104] ∧
      (cellH h100 ⟨b74, 0, none⟩ = some (.int .i64 x90) ∧ cellH h100 ⟨b74, 1, none⟩ = some (.int .i64 x91) ∧ cellH h100 ⟨b74, 2, none⟩ = some (.int .i64 x92) ∧ cellH h100 ⟨b74, 3, none⟩ = some (.int .i64 x93)) ∧
      PureTo Try.prog (do eqGuard .eql 39 (.tmp 31) (.tmp 36) (.agg #[.int .i64 x90, .int .i64 x91, .int .i64 x92, .int .i64 x93]) (.agg #[.int .i64 x101, .int .i64 x102, .int .i64 x103, .int .i64 x104]); binOp .eql 39 (.agg #[.int .i64 x90, .int .i64 x91, .int .i64 x92, .int .i64 x93]) (.agg #[.int .i64 x101, .int .i64 x102, .int .i64 x103, .int .i64 x104])) fun v105 =>
      ∃ b106 : Bool, v105 = .bool b106 ∧
      R (.bool b106) h100) (R (.bool false) h88))
  (cond (x5 == (2 : Int))
    (∃ x107 : Int, cellH h4 ⟨b3, 2, none⟩ = some (.int .i64 x107) ∧
      ∃ x108 : Int, cellH h4 ⟨b3, 3, none⟩ = some (.int .i64 x108) ∧
      ∃ x109 : Int, cellH h4 ⟨b3, 4, none⟩ = some (.int .i64 x109) ∧
      ∃ x110 : Int, cellH h4 ⟨b3, 5, none⟩ = some (.int .i64 x110) ∧
      ∃ x111 : Int, cellH h4 ⟨b3, 6, none⟩ = some (.int .i64 x111) ∧
      ∃ x112 : Int, cellH h4 ⟨b3, 7, none⟩ = some (.int .i64 x112) ∧
      ∃ x113 : Int, cellH h4 ⟨b3, 8, none⟩ = some (.int .i64 x113) ∧
      ∃ x114 : Int, cellH h4 ⟨b3, 9, none⟩ = some (.int .i64 x114) ∧
      ∃ x115 : Int, cellH h4 ⟨b3, 2, none⟩ = some (.int .i64 x115) ∧
      ∃ x116 : Int, cellH h4 ⟨b3, 3, none⟩ = some (.int .i64 x116) ∧
      ∃ x117 : Int, cellH h4 ⟨b3, 4, none⟩ = some (.int .i64 x117) ∧
      ∃ x118 : Int, cellH h4 ⟨b3, 5, none⟩ = some (.int .i64 x118) ∧
      ∃ x119 : Int, cellH h4 ⟨b3, 6, none⟩ = some (.int .i64 x119) ∧
      ∃ x120 : Int, cellH h4 ⟨b3, 7, none⟩ = some (.int .i64 x120) ∧
      ∃ x121 : Int, cellH h4 ⟨b3, 8, none⟩ = some (.int .i64 x121) ∧
      ∃ x122 : Int, cellH h4 ⟨b3, 9, none⟩ = some (.int .i64 x122) ∧
      CallsH Try.prog 12 #[.agg #[.int .i64 x107, .int .i64 x108, .int .i64 x109, .int .i64 x110], .agg #[.int .i64 x111, .int .i64 x112, .int .i64 x113, .int .i64 x114]] h4 fun v123 h124 =>
      ∃ x125 : Int, ∃ x126 : Int, ∃ x127 : Int, ∃ x128 : Int, v123 = .agg #[.int .i64 x125, .int .i64 x126, .int .i64 x127, .int .i64 x128] ∧
      (cellH h124 ⟨b3, 6, none⟩ = some (.int .i64 x119) ∧ cellH h124 ⟨b3, 7, none⟩ = some (.int .i64 x120) ∧ cellH h124 ⟨b3, 8, none⟩ = some (.int .i64 x121) ∧ cellH h124 ⟨b3, 9, none⟩ = some (.int .i64 x122)) ∧
      (cellH h124 ⟨b3, 2, none⟩ = some (.int .i64 x115) ∧ cellH h124 ⟨b3, 3, none⟩ = some (.int .i64 x116) ∧ cellH h124 ⟨b3, 4, none⟩ = some (.int .i64 x117) ∧ cellH h124 ⟨b3, 5, none⟩ = some (.int .i64 x118)) ∧
      CallsH Try.prog 22 #[.agg #[.int .i64 x115, .int .i64 x116, .int .i64 x117, .int .i64 x118], .agg #[.int .i64 x119, .int .i64 x120, .int .i64 x121, .int .i64 x122]] h124 fun v129 h130 =>
      ∃ x131 : Int, ∃ x132 : Int, ∃ x133 : Int, ∃ x134 : Int, v129 = .agg #[.int .i64 x131, .int .i64 x132, .int .i64 x133, .int .i64 x134] ∧
      PureTo Try.prog (do eqGuard .eql 39 (.tmp 45) (.tmp 50) (.agg #[.int .i64 x125, .int .i64 x126, .int .i64 x127, .int .i64 x128]) (.agg #[.int .i64 x131, .int .i64 x132, .int .i64 x133, .int .i64 x134]); binOp .eql 39 (.agg #[.int .i64 x125, .int .i64 x126, .int .i64 x127, .int .i64 x128]) (.agg #[.int .i64 x131, .int .i64 x132, .int .i64 x133, .int .i64 x134])) fun v135 =>
      ∃ b136 : Bool, v135 = .bool b136 ∧
      R (.bool b136) h130)
    (cond (x5 == (3 : Int))
      (∃ x137 : Int, cellH h4 ⟨b3, 2, none⟩ = some (.int .i64 x137) ∧
        ∃ x138 : Int, cellH h4 ⟨b3, 3, none⟩ = some (.int .i64 x138) ∧
        ∃ x139 : Int, cellH h4 ⟨b3, 4, none⟩ = some (.int .i64 x139) ∧
        ∃ x140 : Int, cellH h4 ⟨b3, 5, none⟩ = some (.int .i64 x140) ∧
        ∃ x141 : Int, cellH h4 ⟨b3, 11, none⟩ = some (.int .i64 x141) ∧
        CallsH Try.prog 13 #[.agg #[.int .i64 x137, .int .i64 x138, .int .i64 x139, .int .i64 x140], .int .i64 x141] h4 fun v142 h143 =>
        ∃ x144 : Int, ∃ b145 : Bool, v142 = .tuple #[.int .i64 x144, .bool b145] ∧
        ∃ x146 : Int, cellH h143 ⟨b3, 2, none⟩ = some (.int .i64 x146) ∧
        ∃ x147 : Int, cellH h143 ⟨b3, 3, none⟩ = some (.int .i64 x147) ∧
        ∃ x148 : Int, cellH h143 ⟨b3, 4, none⟩ = some (.int .i64 x148) ∧
        ∃ x149 : Int, cellH h143 ⟨b3, 5, none⟩ = some (.int .i64 x149) ∧
        ∃ x150 : Int, cellH h143 ⟨b3, 11, none⟩ = some (.int .i64 x150) ∧
        CallsH Try.prog 23 #[.agg #[.int .i64 x146, .int .i64 x147, .int .i64 x148, .int .i64 x149], .int .i64 x150] h143 fun v151 h152 =>
        ∃ x153 : Int, ∃ b154 : Bool, v151 = .tuple #[.int .i64 x153, .bool b154] ∧
        cond (x144 == x153) (R (.bool (b145 == b154)) h152) (R (.bool false) h152))
      (∃ p155 : Option Addr, cellH h4 ⟨b1, 0, none⟩ = some (.pointer p155) ∧
        cond p155.isNone (R (.bool true) h4) (∃ p156 : Option Addr, cellH h4 ⟨b1, 1, none⟩ = some (.pointer p156) ∧
          cond p156.isNone
          (R (.bool true) h4)
          (∃ J157 : Heap → Bool → Prop, (∃ x158 : Int, cellH h4 ⟨b3, 0, none⟩ = some (.int .i64 x158) ∧
              cond (x158 == (4 : Int))
              (∃ I159 : Nat → Heap → Int → Prop, (∃ n160, I159 n160 h4 0) ∧
                ∀ (n160 : Nat) (h161 : Heap) (g162 : Env) (i_163 : Int), I159 n160 h161 i_163 →
                ∃ (a165 : Option Addr) (la165 ca165 : Nat), cellH h161 ⟨b3, 10, none⟩ = some (.slice a165 la165 ca165) ∧
                cond (decide (i_163 < (la165 : Int)))
                (∃ p166 : Option Addr, cellH h161 ⟨b1, 0, none⟩ = some (.pointer p166) ∧
                  ∃ (a167 : Option Addr) (la167 ca167 : Nat), cellH h161 ⟨b3, 10, none⟩ = some (.slice a167 la167 ca167) ∧
                  VIdx a167 la167 i_163 1 fun a168 =>
                  ∃ x169 : Int, cellH h161 a168 = some (.int .i64 x169) ∧
                  CallsH Try.prog 15 #[.pointer p166, .int .i64 x169] h161 fun v170 h171 =>
                  v170 = .tuple #[] ∧
                  ∃ p172 : Option Addr, cellH h171 ⟨b1, 1, none⟩ = some (.pointer p172) ∧
                  ∃ (a173 : Option Addr) (la173 ca173 : Nat), cellH h171 ⟨b3, 10, none⟩ = some (.slice a173 la173 ca173) ∧
                  VIdx a173 la173 i_163 1 fun a174 =>
                  ∃ x175 : Int, cellH h171 a174 = some (.int .i64 x175) ∧
                  CallsH Try.prog 24 #[.pointer p172, .int .i64 x175] h171 fun v176 h177 =>
                  v176 = .tuple #[] ∧
                  ∃ m164, m164 < n160 ∧ I159 m164 h177 (IntKind.i64.wrap (i_163 + 1)))
                (J157 h161 false))
              (cond (x158 == (5 : Int))
                (∃ p178 : Option Addr, cellH h4 ⟨b1, 0, none⟩ = some (.pointer p178) ∧
                  ∃ p179 : Option Addr, cellH h4 ⟨b1, 1, none⟩ = some (.pointer p179) ∧
                  CallsH Try.prog 16 #[.pointer p178] h4 fun v180 h181 =>
                  ∃ x182 : Int, v180 = .int .i64 x182 ∧
                  (cellH h181 ⟨b1, 1, none⟩ = some (.pointer p179)) ∧
                  CallsH Try.prog 25 #[.pointer p179] h181 fun v183 h184 =>
                  ∃ x185 : Int, v183 = .int .i64 x185 ∧
                  R (.bool (x182 == x185)) h184)
                (cond (x158 == (6 : Int))
                  (∃ p186 : Option Addr, cellH h4 ⟨b1, 0, none⟩ = some (.pointer p186) ∧
                    ∃ p187 : Option Addr, cellH h4 ⟨b1, 1, none⟩ = some (.pointer p187) ∧
                    CallsH Try.prog 17 #[.pointer p186] h4 fun v188 h189 =>
                    ∃ x190 : Int, ∃ x191 : Int, ∃ x192 : Int, ∃ x193 : Int, v188 = .agg #[.int .i64 x190, .int .i64 x191, .int .i64 x192, .int .i64 x193] ∧
                    (cellH h189 ⟨b1, 1, none⟩ = some (.pointer p187)) ∧
                    CallsH Try.prog 26 #[.pointer p187] h189 fun v194 h195 =>
                    ∃ x196 : Int, ∃ x197 : Int, ∃ x198 : Int, ∃ x199 : Int, v194 = .agg #[.int .i64 x196, .int .i64 x197, .int .i64 x198, .int .i64 x199] ∧
                    PureTo Try.prog (do eqGuard .eql 39 (.tmp 126) (.tmp 129) (.agg #[.int .i64 x190, .int .i64 x191, .int .i64 x192, .int .i64 x193]) (.agg #[.int .i64 x196, .int .i64 x197, .int .i64 x198, .int .i64 x199]); binOp .eql 39 (.agg #[.int .i64 x190, .int .i64 x191, .int .i64 x192, .int .i64 x193]) (.agg #[.int .i64 x196, .int .i64 x197, .int .i64 x198, .int .i64 x199])) fun v200 =>
                    ∃ b201 : Bool, v200 = .bool b201 ∧
                    R (.bool b201) h195)
                  (J157 h4 false)))) ∧
            ∀ (h202 : Heap) (g203 : Env) (y_204 : Bool), J157 h202 y_204 →
            R (.bool true) h202)))))
theorem vf9 (a0h : Option Addr) (a1r_0 : Option Addr) (a1r_1 : Option Addr) (a2o_0 : Int) (a2o_1 : Int) (a2o_2 : Int) (a2o_3 : Int) (a2o_4 : Int) (a2o_5 : Int) (a2o_6 : Int) (a2o_7 : Int) (a2o_8 : Int) (a2o_9 : Int) (a2o_10 : Option Addr) (la2o_10 ca2o_10 : Nat) (a2o_11 : Int) (h : Heap) (R : KV) (hF : F9 a0h a1r_0 a1r_1 a2o_0 a2o_1 a2o_2 a2o_3 a2o_4 a2o_5 a2o_6 a2o_7 a2o_8 a2o_9 a2o_10 la2o_10 ca2o_10 a2o_11 h R) : CallsH Try.prog 9 #[.pointer a0h, .agg #[.pointer a1r_0, .pointer a1r_1], .agg #[.int .i64 a2o_0, .int .i64 a2o_1, .int .i64 a2o_2, .int .i64 a2o_3, .int .i64 a2o_4, .int .i64 a2o_5, .int .i64 a2o_6, .int .i64 a2o_7, .int .i64 a2o_8, .int .i64 a2o_9, .slice a2o_10 la2o_10 ca2o_10, .int .i64 a2o_11]] h R :=
  calls_of_form (A := an9) (fn := Try.f9) (c := c9) (args := [.pointer a0h, .agg #[.pointer a1r_0, .pointer a1r_1], .agg #[.int .i64 a2o_0, .int .i64 a2o_1, .int .i64 a2o_2, .int .i64 a2o_3, .int .i64 a2o_4, .int .i64 a2o_5, .int .i64 a2o_6, .int .i64 a2o_7, .int .i64 a2o_8, .int .i64 a2o_9, .slice a2o_10 la2o_10 ca2o_10, .int .i64 a2o_11]]) Try.func9 (by kernel_rfl) mixed (by kernel_rfl) (by kernel_rfl : F9 a0h a1r_0 a1r_1 a2o_0 a2o_1 a2o_2 a2o_3 a2o_4 a2o_5 a2o_6 a2o_7 a2o_8 a2o_9 a2o_10 la2o_10 ca2o_10 a2o_11 h R = vcF Try.prog an9 Try.f9 c9 [.pointer a0h, .agg #[.pointer a1r_0, .pointer a1r_1], .agg #[.int .i64 a2o_0, .int .i64 a2o_1, .int .i64 a2o_2, .int .i64 a2o_3, .int .i64 a2o_4, .int .i64 a2o_5, .int .i64 a2o_6, .int .i64 a2o_7, .int .i64 a2o_8, .int .i64 a2o_9, .slice a2o_10 la2o_10 ca2o_10, .int .i64 a2o_11]] h R) hF
/-! ### 10 refrain/refrainlaw14.plain -/
noncomputable def c10 : Code := match Try.f10.body with | some c => c | none => .skip
noncomputable def an10 : Ann := { loops := fun i => match i with | 3 => [(4, .int .i64)] | _ => [], draws := fun i => #[], joins := fun i => match i with | 8 => some [] | 10 => some [] | _ => none }
def F10 (a0ns : Option Addr) (la0ns ca0ns : Nat) (h : Heap) (R : KV) : Prop :=
  VNew h (.cells #[.int .i64 0, .int .i64 0, .int .i64 0, .int .i64 0] 39) fun b1 h2 =>
  VNew h2 (.cells #[.int .i64 0, .int .i64 0, .int .i64 0, .int .i64 0] 39) fun b3 h4 =>
  ∃ I5 : Nat → Heap → Int → Prop, (∃ n6, I5 n6 h4 0) ∧
  ∀ (n6 : Nat) (h7 : Heap) (g8 : Env) (i_9 : Int), I5 n6 h7 i_9 →
  cond (decide (i_9 < (la0ns : Int)))
  (VIdx a0ns la0ns i_9 1 fun a11 =>
    ∃ x12 : Int, cellH h7 a11 = some (.int .i64 x12) ∧
    ∃ J13 : Heap → Prop, (cond (i_9 == (0 : Int)) (VStore h7 ⟨b3, 2, none⟩ (.int .i64 x12) fun h14 =>
        J13 h14) (∃ x15 : Int, cellH h7 ⟨b3, 2, none⟩ = some (.int .i64 x15) ∧
        cond (decide (x12 < x15))
        (VStore h7 ⟨b3, 2, none⟩ (.int .i64 x12) fun h16 =>
          J13 h16)
        (J13 h7))) ∧
    ∀ (h17 : Heap) (g18 : Env), J13 h17 →
    ∃ J19 : Heap → Prop, (cond (i_9 == (0 : Int)) (VStore h17 ⟨b3, 3, none⟩ (.int .i64 x12) fun h20 =>
        J19 h20) (∃ x21 : Int, cellH h17 ⟨b3, 3, none⟩ = some (.int .i64 x21) ∧
        cond (decide (x12 > x21))
        (VStore h17 ⟨b3, 3, none⟩ (.int .i64 x12) fun h22 =>
          J19 h22)
        (J19 h17))) ∧
    ∀ (h23 : Heap) (g24 : Env), J19 h23 →
    ∃ x25 : Int, cellH h23 ⟨b3, 1, none⟩ = some (.int .i64 x25) ∧
    VStore h23 ⟨b3, 1, none⟩ (.int .i64 (IntKind.i64.wrap (x25 + x12))) fun h26 =>
    ∃ x27 : Int, cellH h26 ⟨b3, 0, none⟩ = some (.int .i64 x27) ∧
    VStore h26 ⟨b3, 0, none⟩ (.int .i64 (IntKind.i64.wrap (x27 + 1))) fun h28 =>
    ∃ m10, m10 < n6 ∧ I5 m10 h28 (IntKind.i64.wrap (i_9 + 1)))
  (∃ x29 : Int, cellH h7 ⟨b3, 0, none⟩ = some (.int .i64 x29) ∧
    ∃ x30 : Int, cellH h7 ⟨b3, 1, none⟩ = some (.int .i64 x30) ∧
    ∃ x31 : Int, cellH h7 ⟨b3, 2, none⟩ = some (.int .i64 x31) ∧
    ∃ x32 : Int, cellH h7 ⟨b3, 3, none⟩ = some (.int .i64 x32) ∧
    storeL ⟨b1, 0, none⟩ 0 [.int .i64 x29, .int .i64 x30, .int .i64 x31, .int .i64 x32] h7 fun h33 =>
    ∃ x34 : Int, cellH h33 ⟨b1, 0, none⟩ = some (.int .i64 x34) ∧
    ∃ x35 : Int, cellH h33 ⟨b1, 1, none⟩ = some (.int .i64 x35) ∧
    ∃ x36 : Int, cellH h33 ⟨b1, 2, none⟩ = some (.int .i64 x36) ∧
    ∃ x37 : Int, cellH h33 ⟨b1, 3, none⟩ = some (.int .i64 x37) ∧
    R (.agg #[.int .i64 x34, .int .i64 x35, .int .i64 x36, .int .i64 x37]) h33)
theorem vf10 (a0ns : Option Addr) (la0ns ca0ns : Nat) (h : Heap) (R : KV) (hF : F10 a0ns la0ns ca0ns h R) : CallsH Try.prog 10 #[.slice a0ns la0ns ca0ns] h R :=
  calls_of_form (A := an10) (fn := Try.f10) (c := c10) (args := [.slice a0ns la0ns ca0ns]) Try.func10 (by kernel_rfl) mixed (by kernel_rfl) (by kernel_rfl : F10 a0ns la0ns ca0ns h R = vcF Try.prog an10 Try.f10 c10 [.slice a0ns la0ns ca0ns] h R) hF
/-! ### 11 refrain/agg.Add -/
noncomputable def c11 : Code := match Try.f11.body with | some c => c | none => .skip
noncomputable def an11 : Ann := { loops := fun i => match i with | 9 => [(5, .int .i64), (6, .int .i64), (31, .int .i64)] | _ => [], draws := fun i => match i with | 5 => #[0, 1, 3, 0, 8, 24, 7, 127] | 7 => #[0, 1, 0, 4, 3, 31] | _ => #[], joins := fun i => match i with | 3 => some [] | 8 => some [(5, .int .i64), (6, .int .i64)] | _ => none }
def F11 (a0a_0 : Int) (a0a_1 : Int) (a0a_2 : Int) (a0a_3 : Int) (a1ns : Option Addr) (la1ns ca1ns : Nat) (h : Heap) (R : KV) : Prop :=
  VNew h (.cells #[.int .i64 a0a_0, .int .i64 a0a_1, .int .i64 a0a_2, .int .i64 a0a_3] 39) fun b1 h2 =>
  VNew h2 (.cells #[.int .i64 0, .int .i64 0, .int .i64 0, .int .i64 0] 39) fun b3 h4 =>
  ∃ J5 : Heap → Prop, (∃ x6 : Int, cellH h4 ⟨b1, 0, none⟩ = some (.int .i64 x6) ∧
    ∃ x7 : Int, cellH h4 ⟨b1, 1, none⟩ = some (.int .i64 x7) ∧
    ∃ x8 : Int, cellH h4 ⟨b1, 2, none⟩ = some (.int .i64 x8) ∧
    ∃ x9 : Int, cellH h4 ⟨b1, 3, none⟩ = some (.int .i64 x9) ∧
    CallsH Try.prog 27 #[.agg #[.int .i64 x6, .int .i64 x7, .int .i64 x8, .int .i64 x9]] h4 fun v10 h11 =>
    ∃ b12 : Bool, v10 = .bool b12 ∧
    cond b12
    (storeL ⟨b1, 0, none⟩ 0 [.int .i64 0, .int .i64 0, .int .i64 0, .int .i64 0] h11 fun h13 =>
      J5 h13)
    (J5 h11)) ∧
  ∀ (h14 : Heap) (g15 : Env), J5 h14 →
  cond ((la1ns : Int) == (0 : Int))
  (∃ x16 : Int, cellH h14 ⟨b1, 0, none⟩ = some (.int .i64 x16) ∧
    ∃ x17 : Int, cellH h14 ⟨b1, 1, none⟩ = some (.int .i64 x17) ∧
    ∃ x18 : Int, cellH h14 ⟨b1, 2, none⟩ = some (.int .i64 x18) ∧
    ∃ x19 : Int, cellH h14 ⟨b1, 3, none⟩ = some (.int .i64 x19) ∧
    storeL ⟨b3, 0, none⟩ 0 [.int .i64 x16, .int .i64 x17, .int .i64 x18, .int .i64 x19] h14 fun h20 =>
    ∃ x21 : Int, cellH h20 ⟨b3, 0, none⟩ = some (.int .i64 x21) ∧
    ∃ x22 : Int, cellH h20 ⟨b3, 1, none⟩ = some (.int .i64 x22) ∧
    ∃ x23 : Int, cellH h20 ⟨b3, 2, none⟩ = some (.int .i64 x23) ∧
    ∃ x24 : Int, cellH h20 ⟨b3, 3, none⟩ = some (.int .i64 x24) ∧
    R (.agg #[.int .i64 x21, .int .i64 x22, .int .i64 x23, .int .i64 x24]) h20)
  (VIdx a1ns la1ns 0 1 fun a25 =>
    ∃ x26 : Int, cellH h14 a25 = some (.int .i64 x26) ∧
    VIdx a1ns la1ns 0 1 fun a27 =>
    ∃ x28 : Int, cellH h14 a27 = some (.int .i64 x28) ∧
    ∃ J29 : Heap → Int → Int → Prop, (∃ x30 : Int, cellH h14 ⟨b1, 0, none⟩ = some (.int .i64 x30) ∧
      ∃ x31 : Int, cellH h14 ⟨b1, 1, none⟩ = some (.int .i64 x31) ∧
      ∃ x32 : Int, cellH h14 ⟨b1, 2, none⟩ = some (.int .i64 x32) ∧
      ∃ x33 : Int, cellH h14 ⟨b1, 3, none⟩ = some (.int .i64 x33) ∧
      CallsH Try.prog 27 #[.agg #[.int .i64 x30, .int .i64 x31, .int .i64 x32, .int .i64 x33]] h14 fun v34 h35 =>
      ∃ b36 : Bool, v34 = .bool b36 ∧
      cond (!b36)
      (∃ x37 : Int, cellH h35 ⟨b1, 2, none⟩ = some (.int .i64 x37) ∧
        ∃ x38 : Int, cellH h35 ⟨b1, 3, none⟩ = some (.int .i64 x38) ∧
        J29 h35 x37 x38)
      (J29 h35 x26 x28)) ∧
    ∀ (h39 : Heap) (g40 : Env) (least_41 : Int) (most_42 : Int), J29 h39 least_41 most_42 →
    ∃ I43 : Nat → Heap → Int → Int → Int → Prop, (∃ n44, I43 n44 h39 least_41 most_42 0) ∧
    ∀ (n44 : Nat) (h45 : Heap) (g46 : Env) (least_47 : Int) (most_48 : Int) (y_49 : Int), I43 n44 h45 least_47 most_48 y_49 →
    cond (decide (y_49 < (la1ns : Int)))
    (VIdx a1ns la1ns y_49 1 fun a51 =>
      ∃ x52 : Int, cellH h45 a51 = some (.int .i64 x52) ∧
      ∃ x53 : Int, cellH h45 ⟨b1, 1, none⟩ = some (.int .i64 x53) ∧
      VStore h45 ⟨b1, 1, none⟩ (.int .i64 (IntKind.i64.wrap (x53 + x52))) fun h54 =>
      ∃ m50, m50 < n44 ∧ I43 m50 h54 (minI least_47 x52) (maxI most_48 x52) (IntKind.i64.wrap (y_49 + 1)))
    (∃ x55 : Int, cellH h45 ⟨b1, 0, none⟩ = some (.int .i64 x55) ∧
      VStore h45 ⟨b1, 0, none⟩ (.int .i64 (IntKind.i64.wrap (x55 + (la1ns : Int)))) fun h56 =>
      VStore h56 ⟨b1, 2, none⟩ (.int .i64 least_47) fun h57 =>
      VStore h57 ⟨b1, 3, none⟩ (.int .i64 most_48) fun h58 =>
      ∃ x59 : Int, cellH h58 ⟨b1, 0, none⟩ = some (.int .i64 x59) ∧
      ∃ x60 : Int, cellH h58 ⟨b1, 1, none⟩ = some (.int .i64 x60) ∧
      ∃ x61 : Int, cellH h58 ⟨b1, 2, none⟩ = some (.int .i64 x61) ∧
      ∃ x62 : Int, cellH h58 ⟨b1, 3, none⟩ = some (.int .i64 x62) ∧
      storeL ⟨b3, 0, none⟩ 0 [.int .i64 x59, .int .i64 x60, .int .i64 x61, .int .i64 x62] h58 fun h63 =>
      ∃ x64 : Int, cellH h63 ⟨b3, 0, none⟩ = some (.int .i64 x64) ∧
      ∃ x65 : Int, cellH h63 ⟨b3, 1, none⟩ = some (.int .i64 x65) ∧
      ∃ x66 : Int, cellH h63 ⟨b3, 2, none⟩ = some (.int .i64 x66) ∧
      ∃ x67 : Int, cellH h63 ⟨b3, 3, none⟩ = some (.int .i64 x67) ∧
      R (.agg #[.int .i64 x64, .int .i64 x65, .int .i64 x66, .int .i64 x67]) h63))
theorem vf11 (a0a_0 : Int) (a0a_1 : Int) (a0a_2 : Int) (a0a_3 : Int) (a1ns : Option Addr) (la1ns ca1ns : Nat) (h : Heap) (R : KV) (hF : F11 a0a_0 a0a_1 a0a_2 a0a_3 a1ns la1ns ca1ns h R) : CallsH Try.prog 11 #[.agg #[.int .i64 a0a_0, .int .i64 a0a_1, .int .i64 a0a_2, .int .i64 a0a_3], .slice a1ns la1ns ca1ns] h R :=
  calls_of_form (A := an11) (fn := Try.f11) (c := c11) (args := [.agg #[.int .i64 a0a_0, .int .i64 a0a_1, .int .i64 a0a_2, .int .i64 a0a_3], .slice a1ns la1ns ca1ns]) Try.func11 (by kernel_rfl) mixed (by kernel_rfl) (by kernel_rfl : F11 a0a_0 a0a_1 a0a_2 a0a_3 a1ns la1ns ca1ns h R = vcF Try.prog an11 Try.f11 c11 [.agg #[.int .i64 a0a_0, .int .i64 a0a_1, .int .i64 a0a_2, .int .i64 a0a_3], .slice a1ns la1ns ca1ns] h R) hF
/-! ### 12 refrain/agg.Join -/
noncomputable def c12 : Code := match Try.f12.body with | some c => c | none => .skip
noncomputable def an12 : Ann := { loops := fun i => [], draws := fun i => #[], joins := fun i => none }
def F12 (a0a_0 : Int) (a0a_1 : Int) (a0a_2 : Int) (a0a_3 : Int) (a1b_0 : Int) (a1b_1 : Int) (a1b_2 : Int) (a1b_3 : Int) (h : Heap) (R : KV) : Prop :=
  VNew h (.cells #[.int .i64 a0a_0, .int .i64 a0a_1, .int .i64 a0a_2, .int .i64 a0a_3] 39) fun b1 h2 =>
  VNew h2 (.cells #[.int .i64 a1b_0, .int .i64 a1b_1, .int .i64 a1b_2, .int .i64 a1b_3] 39) fun b3 h4 =>
  VNew h4 (.cells #[.int .i64 0, .int .i64 0, .int .i64 0, .int .i64 0] 39) fun b5 h6 =>
  ∃ x7 : Int, cellH h6 ⟨b1, 0, none⟩ = some (.int .i64 x7) ∧
  ∃ x8 : Int, cellH h6 ⟨b1, 1, none⟩ = some (.int .i64 x8) ∧
  ∃ x9 : Int, cellH h6 ⟨b1, 2, none⟩ = some (.int .i64 x9) ∧
  ∃ x10 : Int, cellH h6 ⟨b1, 3, none⟩ = some (.int .i64 x10) ∧
  CallsH Try.prog 27 #[.agg #[.int .i64 x7, .int .i64 x8, .int .i64 x9, .int .i64 x10]] h6 fun v11 h12 =>
  ∃ b13 : Bool, v11 = .bool b13 ∧
  cond b13 (∃ x14 : Int, cellH h12 ⟨b3, 0, none⟩ = some (.int .i64 x14) ∧
    ∃ x15 : Int, cellH h12 ⟨b3, 1, none⟩ = some (.int .i64 x15) ∧
    ∃ x16 : Int, cellH h12 ⟨b3, 2, none⟩ = some (.int .i64 x16) ∧
    ∃ x17 : Int, cellH h12 ⟨b3, 3, none⟩ = some (.int .i64 x17) ∧
    CallsH Try.prog 27 #[.agg #[.int .i64 x14, .int .i64 x15, .int .i64 x16, .int .i64 x17]] h12 fun v18 h19 =>
    ∃ b20 : Bool, v18 = .bool b20 ∧
    cond b20
    (storeL ⟨b5, 0, none⟩ 0 [.int .i64 0, .int .i64 0, .int .i64 0, .int .i64 0] h19 fun h21 =>
      ∃ x22 : Int, cellH h21 ⟨b5, 0, none⟩ = some (.int .i64 x22) ∧
      ∃ x23 : Int, cellH h21 ⟨b5, 1, none⟩ = some (.int .i64 x23) ∧
      ∃ x24 : Int, cellH h21 ⟨b5, 2, none⟩ = some (.int .i64 x24) ∧
      ∃ x25 : Int, cellH h21 ⟨b5, 3, none⟩ = some (.int .i64 x25) ∧
      R (.agg #[.int .i64 x22, .int .i64 x23, .int .i64 x24, .int .i64 x25]) h21)
    (∃ x26 : Int, cellH h19 ⟨b1, 0, none⟩ = some (.int .i64 x26) ∧
      ∃ x27 : Int, cellH h19 ⟨b1, 1, none⟩ = some (.int .i64 x27) ∧
      ∃ x28 : Int, cellH h19 ⟨b1, 2, none⟩ = some (.int .i64 x28) ∧
      ∃ x29 : Int, cellH h19 ⟨b1, 3, none⟩ = some (.int .i64 x29) ∧
      CallsH Try.prog 27 #[.agg #[.int .i64 x26, .int .i64 x27, .int .i64 x28, .int .i64 x29]] h19 fun v30 h31 =>
      ∃ b32 : Bool, v30 = .bool b32 ∧
      cond b32
      (∃ x33 : Int, cellH h31 ⟨b3, 0, none⟩ = some (.int .i64 x33) ∧
        ∃ x34 : Int, cellH h31 ⟨b3, 1, none⟩ = some (.int .i64 x34) ∧
        ∃ x35 : Int, cellH h31 ⟨b3, 2, none⟩ = some (.int .i64 x35) ∧
        ∃ x36 : Int, cellH h31 ⟨b3, 3, none⟩ = some (.int .i64 x36) ∧
        storeL ⟨b5, 0, none⟩ 0 [.int .i64 x33, .int .i64 x34, .int .i64 x35, .int .i64 x36] h31 fun h37 =>
        ∃ x38 : Int, cellH h37 ⟨b5, 0, none⟩ = some (.int .i64 x38) ∧
        ∃ x39 : Int, cellH h37 ⟨b5, 1, none⟩ = some (.int .i64 x39) ∧
        ∃ x40 : Int, cellH h37 ⟨b5, 2, none⟩ = some (.int .i64 x40) ∧
        ∃ x41 : Int, cellH h37 ⟨b5, 3, none⟩ = some (.int .i64 x41) ∧
        R (.agg #[.int .i64 x38, .int .i64 x39, .int .i64 x40, .int .i64 x41]) h37)
      (∃ x42 : Int, cellH h31 ⟨b3, 0, none⟩ = some (.int .i64 x42) ∧
        ∃ x43 : Int, cellH h31 ⟨b3, 1, none⟩ = some (.int .i64 x43) ∧
        ∃ x44 : Int, cellH h31 ⟨b3, 2, none⟩ = some (.int .i64 x44) ∧
        ∃ x45 : Int, cellH h31 ⟨b3, 3, none⟩ = some (.int .i64 x45) ∧
        CallsH Try.prog 27 #[.agg #[.int .i64 x42, .int .i64 x43, .int .i64 x44, .int .i64 x45]] h31 fun v46 h47 =>
        ∃ b48 : Bool, v46 = .bool b48 ∧
        cond b48
        (∃ x49 : Int, cellH h47 ⟨b1, 0, none⟩ = some (.int .i64 x49) ∧
          ∃ x50 : Int, cellH h47 ⟨b1, 1, none⟩ = some (.int .i64 x50) ∧
          ∃ x51 : Int, cellH h47 ⟨b1, 2, none⟩ = some (.int .i64 x51) ∧
          ∃ x52 : Int, cellH h47 ⟨b1, 3, none⟩ = some (.int .i64 x52) ∧
          storeL ⟨b5, 0, none⟩ 0 [.int .i64 x49, .int .i64 x50, .int .i64 x51, .int .i64 x52] h47 fun h53 =>
          ∃ x54 : Int, cellH h53 ⟨b5, 0, none⟩ = some (.int .i64 x54) ∧
          ∃ x55 : Int, cellH h53 ⟨b5, 1, none⟩ = some (.int .i64 x55) ∧
          ∃ x56 : Int, cellH h53 ⟨b5, 2, none⟩ = some (.int .i64 x56) ∧
          ∃ x57 : Int, cellH h53 ⟨b5, 3, none⟩ = some (.int .i64 x57) ∧
          R (.agg #[.int .i64 x54, .int .i64 x55, .int .i64 x56, .int .i64 x57]) h53)
        (∃ x58 : Int, cellH h47 ⟨b1, 0, none⟩ = some (.int .i64 x58) ∧
          ∃ x59 : Int, cellH h47 ⟨b3, 0, none⟩ = some (.int .i64 x59) ∧
          ∃ x60 : Int, cellH h47 ⟨b1, 1, none⟩ = some (.int .i64 x60) ∧
          ∃ x61 : Int, cellH h47 ⟨b3, 1, none⟩ = some (.int .i64 x61) ∧
          ∃ x62 : Int, cellH h47 ⟨b1, 2, none⟩ = some (.int .i64 x62) ∧
          ∃ x63 : Int, cellH h47 ⟨b3, 2, none⟩ = some (.int .i64 x63) ∧
          ∃ x64 : Int, cellH h47 ⟨b1, 3, none⟩ = some (.int .i64 x64) ∧
          ∃ x65 : Int, cellH h47 ⟨b3, 3, none⟩ = some (.int .i64 x65) ∧
          storeL ⟨b5, 0, none⟩ 0 [.int .i64 (IntKind.i64.wrap (x58 + x59)), .int .i64 (IntKind.i64.wrap (x60 + x61)), .int .i64 (minI x62 x63), .int .i64 (maxI x64 x65)] h47 fun h66 =>
          ∃ x67 : Int, cellH h66 ⟨b5, 0, none⟩ = some (.int .i64 x67) ∧
          ∃ x68 : Int, cellH h66 ⟨b5, 1, none⟩ = some (.int .i64 x68) ∧
          ∃ x69 : Int, cellH h66 ⟨b5, 2, none⟩ = some (.int .i64 x69) ∧
          ∃ x70 : Int, cellH h66 ⟨b5, 3, none⟩ = some (.int .i64 x70) ∧
          R (.agg #[.int .i64 x67, .int .i64 x68, .int .i64 x69, .int .i64 x70]) h66)))) (∃ x71 : Int, cellH h12 ⟨b1, 0, none⟩ = some (.int .i64 x71) ∧
    ∃ x72 : Int, cellH h12 ⟨b1, 1, none⟩ = some (.int .i64 x72) ∧
    ∃ x73 : Int, cellH h12 ⟨b1, 2, none⟩ = some (.int .i64 x73) ∧
    ∃ x74 : Int, cellH h12 ⟨b1, 3, none⟩ = some (.int .i64 x74) ∧
    CallsH Try.prog 27 #[.agg #[.int .i64 x71, .int .i64 x72, .int .i64 x73, .int .i64 x74]] h12 fun v75 h76 =>
    ∃ b77 : Bool, v75 = .bool b77 ∧
    cond b77
    (∃ x78 : Int, cellH h76 ⟨b3, 0, none⟩ = some (.int .i64 x78) ∧
      ∃ x79 : Int, cellH h76 ⟨b3, 1, none⟩ = some (.int .i64 x79) ∧
      ∃ x80 : Int, cellH h76 ⟨b3, 2, none⟩ = some (.int .i64 x80) ∧
      ∃ x81 : Int, cellH h76 ⟨b3, 3, none⟩ = some (.int .i64 x81) ∧
      storeL ⟨b5, 0, none⟩ 0 [.int .i64 x78, .int .i64 x79, .int .i64 x80, .int .i64 x81] h76 fun h82 =>
      ∃ x83 : Int, cellH h82 ⟨b5, 0, none⟩ = some (.int .i64 x83) ∧
      ∃ x84 : Int, cellH h82 ⟨b5, 1, none⟩ = some (.int .i64 x84) ∧
      ∃ x85 : Int, cellH h82 ⟨b5, 2, none⟩ = some (.int .i64 x85) ∧
      ∃ x86 : Int, cellH h82 ⟨b5, 3, none⟩ = some (.int .i64 x86) ∧
      R (.agg #[.int .i64 x83, .int .i64 x84, .int .i64 x85, .int .i64 x86]) h82)
    (∃ x87 : Int, cellH h76 ⟨b3, 0, none⟩ = some (.int .i64 x87) ∧
      ∃ x88 : Int, cellH h76 ⟨b3, 1, none⟩ = some (.int .i64 x88) ∧
      ∃ x89 : Int, cellH h76 ⟨b3, 2, none⟩ = some (.int .i64 x89) ∧
      ∃ x90 : Int, cellH h76 ⟨b3, 3, none⟩ = some (.int .i64 x90) ∧
      CallsH Try.prog 27 #[.agg #[.int .i64 x87, .int .i64 x88, .int .i64 x89, .int .i64 x90]] h76 fun v91 h92 =>
      ∃ b93 : Bool, v91 = .bool b93 ∧
      cond b93
      (∃ x94 : Int, cellH h92 ⟨b1, 0, none⟩ = some (.int .i64 x94) ∧
        ∃ x95 : Int, cellH h92 ⟨b1, 1, none⟩ = some (.int .i64 x95) ∧
        ∃ x96 : Int, cellH h92 ⟨b1, 2, none⟩ = some (.int .i64 x96) ∧
        ∃ x97 : Int, cellH h92 ⟨b1, 3, none⟩ = some (.int .i64 x97) ∧
        storeL ⟨b5, 0, none⟩ 0 [.int .i64 x94, .int .i64 x95, .int .i64 x96, .int .i64 x97] h92 fun h98 =>
        ∃ x99 : Int, cellH h98 ⟨b5, 0, none⟩ = some (.int .i64 x99) ∧
        ∃ x100 : Int, cellH h98 ⟨b5, 1, none⟩ = some (.int .i64 x100) ∧
        ∃ x101 : Int, cellH h98 ⟨b5, 2, none⟩ = some (.int .i64 x101) ∧
        ∃ x102 : Int, cellH h98 ⟨b5, 3, none⟩ = some (.int .i64 x102) ∧
        R (.agg #[.int .i64 x99, .int .i64 x100, .int .i64 x101, .int .i64 x102]) h98)
      (∃ x103 : Int, cellH h92 ⟨b1, 0, none⟩ = some (.int .i64 x103) ∧
        ∃ x104 : Int, cellH h92 ⟨b3, 0, none⟩ = some (.int .i64 x104) ∧
        ∃ x105 : Int, cellH h92 ⟨b1, 1, none⟩ = some (.int .i64 x105) ∧
        ∃ x106 : Int, cellH h92 ⟨b3, 1, none⟩ = some (.int .i64 x106) ∧
        ∃ x107 : Int, cellH h92 ⟨b1, 2, none⟩ = some (.int .i64 x107) ∧
        ∃ x108 : Int, cellH h92 ⟨b3, 2, none⟩ = some (.int .i64 x108) ∧
        ∃ x109 : Int, cellH h92 ⟨b1, 3, none⟩ = some (.int .i64 x109) ∧
        ∃ x110 : Int, cellH h92 ⟨b3, 3, none⟩ = some (.int .i64 x110) ∧
        storeL ⟨b5, 0, none⟩ 0 [.int .i64 (IntKind.i64.wrap (x103 + x104)), .int .i64 (IntKind.i64.wrap (x105 + x106)), .int .i64 (minI x107 x108), .int .i64 (maxI x109 x110)] h92 fun h111 =>
        ∃ x112 : Int, cellH h111 ⟨b5, 0, none⟩ = some (.int .i64 x112) ∧
        ∃ x113 : Int, cellH h111 ⟨b5, 1, none⟩ = some (.int .i64 x113) ∧
        ∃ x114 : Int, cellH h111 ⟨b5, 2, none⟩ = some (.int .i64 x114) ∧
        ∃ x115 : Int, cellH h111 ⟨b5, 3, none⟩ = some (.int .i64 x115) ∧
        R (.agg #[.int .i64 x112, .int .i64 x113, .int .i64 x114, .int .i64 x115]) h111)))
theorem vf12 (a0a_0 : Int) (a0a_1 : Int) (a0a_2 : Int) (a0a_3 : Int) (a1b_0 : Int) (a1b_1 : Int) (a1b_2 : Int) (a1b_3 : Int) (h : Heap) (R : KV) (hF : F12 a0a_0 a0a_1 a0a_2 a0a_3 a1b_0 a1b_1 a1b_2 a1b_3 h R) : CallsH Try.prog 12 #[.agg #[.int .i64 a0a_0, .int .i64 a0a_1, .int .i64 a0a_2, .int .i64 a0a_3], .agg #[.int .i64 a1b_0, .int .i64 a1b_1, .int .i64 a1b_2, .int .i64 a1b_3]] h R :=
  calls_of_form (A := an12) (fn := Try.f12) (c := c12) (args := [.agg #[.int .i64 a0a_0, .int .i64 a0a_1, .int .i64 a0a_2, .int .i64 a0a_3], .agg #[.int .i64 a1b_0, .int .i64 a1b_1, .int .i64 a1b_2, .int .i64 a1b_3]]) Try.func12 (by kernel_rfl) mixed (by kernel_rfl) (by kernel_rfl : F12 a0a_0 a0a_1 a0a_2 a0a_3 a1b_0 a1b_1 a1b_2 a1b_3 h R = vcF Try.prog an12 Try.f12 c12 [.agg #[.int .i64 a0a_0, .int .i64 a0a_1, .int .i64 a0a_2, .int .i64 a0a_3], .agg #[.int .i64 a1b_0, .int .i64 a1b_1, .int .i64 a1b_2, .int .i64 a1b_3]] h R) hF
/-! ### 13 refrain/agg.Get -/
noncomputable def c13 : Code := match Try.f13.body with | some c => c | none => .skip
noncomputable def an13 : Ann := { loops := fun i => [], draws := fun i => match i with | 9 => #[0, 1, 0, 4, 12, 15, 63] | 11 => #[0, 1, 0, 4, 12, 15, 63] | _ => #[], joins := fun i => match i with | 3 => some [] | _ => none }
def F13 (a0a_0 : Int) (a0a_1 : Int) (a0a_2 : Int) (a0a_3 : Int) (a1fn : Int) (h : Heap) (R : KV) : Prop :=
  VNew h (.cells #[.int .i64 a0a_0, .int .i64 a0a_1, .int .i64 a0a_2, .int .i64 a0a_3] 39) fun b1 h2 =>
  ∃ J3 : Heap → Prop, (∃ x4 : Int, cellH h2 ⟨b1, 0, none⟩ = some (.int .i64 x4) ∧
    ∃ x5 : Int, cellH h2 ⟨b1, 1, none⟩ = some (.int .i64 x5) ∧
    ∃ x6 : Int, cellH h2 ⟨b1, 2, none⟩ = some (.int .i64 x6) ∧
    ∃ x7 : Int, cellH h2 ⟨b1, 3, none⟩ = some (.int .i64 x7) ∧
    CallsH Try.prog 27 #[.agg #[.int .i64 x4, .int .i64 x5, .int .i64 x6, .int .i64 x7]] h2 fun v8 h9 =>
    ∃ b10 : Bool, v8 = .bool b10 ∧
    cond b10
    (storeL ⟨b1, 0, none⟩ 0 [.int .i64 0, .int .i64 0, .int .i64 0, .int .i64 0] h9 fun h11 =>
      J3 h11)
    (J3 h9)) ∧
  ∀ (h12 : Heap) (g13 : Env), J3 h12 →
  cond (a1fn == (1 : Int))
  (∃ x14 : Int, cellH h12 ⟨b1, 0, none⟩ = some (.int .i64 x14) ∧
    R (.tuple #[.int .i64 x14, .bool true]) h12)
  (cond (a1fn == (2 : Int))
    (∃ x15 : Int, cellH h12 ⟨b1, 1, none⟩ = some (.int .i64 x15) ∧
      R (.tuple #[.int .i64 x15, .bool true]) h12)
    (cond (a1fn == (3 : Int))
      (∃ x16 : Int, cellH h12 ⟨b1, 2, none⟩ = some (.int .i64 x16) ∧
        ∃ x17 : Int, cellH h12 ⟨b1, 0, none⟩ = some (.int .i64 x17) ∧
        ∃ x18 : Int, cellH h12 ⟨b1, 1, none⟩ = some (.int .i64 x18) ∧
        ∃ x19 : Int, cellH h12 ⟨b1, 2, none⟩ = some (.int .i64 x19) ∧
        ∃ x20 : Int, cellH h12 ⟨b1, 3, none⟩ = some (.int .i64 x20) ∧
        CallsH Try.prog 27 #[.agg #[.int .i64 x17, .int .i64 x18, .int .i64 x19, .int .i64 x20]] h12 fun v21 h22 =>
        ∃ b23 : Bool, v21 = .bool b23 ∧
        (cellH h22 ⟨b1, 2, none⟩ = some (.int .i64 x16)) ∧
        R (.tuple #[.int .i64 x16, .bool (!b23)]) h22)
      (cond (a1fn == (4 : Int))
        (∃ x24 : Int, cellH h12 ⟨b1, 3, none⟩ = some (.int .i64 x24) ∧
          ∃ x25 : Int, cellH h12 ⟨b1, 0, none⟩ = some (.int .i64 x25) ∧
          ∃ x26 : Int, cellH h12 ⟨b1, 1, none⟩ = some (.int .i64 x26) ∧
          ∃ x27 : Int, cellH h12 ⟨b1, 2, none⟩ = some (.int .i64 x27) ∧
          ∃ x28 : Int, cellH h12 ⟨b1, 3, none⟩ = some (.int .i64 x28) ∧
          CallsH Try.prog 27 #[.agg #[.int .i64 x25, .int .i64 x26, .int .i64 x27, .int .i64 x28]] h12 fun v29 h30 =>
          ∃ b31 : Bool, v29 = .bool b31 ∧
          (cellH h30 ⟨b1, 3, none⟩ = some (.int .i64 x24)) ∧
          R (.tuple #[.int .i64 x24, .bool (!b31)]) h30)
        (R (.tuple #[.int .i64 0, .bool false]) h12))))
theorem vf13 (a0a_0 : Int) (a0a_1 : Int) (a0a_2 : Int) (a0a_3 : Int) (a1fn : Int) (h : Heap) (R : KV) (hF : F13 a0a_0 a0a_1 a0a_2 a0a_3 a1fn h R) : CallsH Try.prog 13 #[.agg #[.int .i64 a0a_0, .int .i64 a0a_1, .int .i64 a0a_2, .int .i64 a0a_3], .int .i64 a1fn] h R :=
  calls_of_form (A := an13) (fn := Try.f13) (c := c13) (args := [.agg #[.int .i64 a0a_0, .int .i64 a0a_1, .int .i64 a0a_2, .int .i64 a0a_3], .int .i64 a1fn]) Try.func13 (by kernel_rfl) mixed (by kernel_rfl) (by kernel_rfl : F13 a0a_0 a0a_1 a0a_2 a0a_3 a1fn h R = vcF Try.prog an13 Try.f13 c13 [.agg #[.int .i64 a0a_0, .int .i64 a0a_1, .int .i64 a0a_2, .int .i64 a0a_3], .int .i64 a1fn] h R) hF
/-! ### 14 refrain/agg.New -/
noncomputable def c14 : Code := match Try.f14.body with | some c => c | none => .skip
noncomputable def an14 : Ann := { loops := fun i => [], draws := fun i => #[], joins := fun i => none }
def F14 (a0size : Int) (h : Heap) (R : KV) : Prop :=
  cond (decide (a0size < (1 : Int))) (R (.tuple #[.pointer none, .int .i64 1]) h) (cond (decide (a0size > (4096 : Int)))
    (R (.tuple #[.pointer none, .int .i64 1]) h)
    (VNew h (.cells #[.int .i64 a0size, .slice none 0 0, .slice none 0 0] 67) fun b1 h2 =>
      R (.tuple #[.pointer (some ⟨b1, 0, none⟩), .int .i64 0]) h2))
theorem vf14 (a0size : Int) (h : Heap) (R : KV) (hF : F14 a0size h R) : CallsH Try.prog 14 #[.int .i64 a0size] h R :=
  calls_of_form (A := an14) (fn := Try.f14) (c := c14) (args := [.int .i64 a0size]) Try.func14 (by kernel_rfl) mixed (by kernel_rfl) (by kernel_rfl : F14 a0size h R = vcF Try.prog an14 Try.f14 c14 [.int .i64 a0size] h R) hF
/-! ### 15 (refrain/agg.Slide).Push -/
noncomputable def c15 : Code := match Try.f15.body with | some c => c | none => .skip
noncomputable def an15 : Ann := { loops := fun i => [], draws := fun i => match i with | 0 => #[0, 1, 3, 7, 15, 31, 0, 64, 192, 448, 960, 1984, 4095, 0, 8192, 24576, 57344, 131071] | _ => #[], joins := fun i => match i with | 2 => some [] | _ => none }
def F15 (a0s : Option Addr) (a1n : Int) (h : Heap) (R : KV) : Prop :=
  ∃ J1 : Heap → Prop, (VSome a0s fun a2 =>
    ∃ (a3 : Option Addr) (la3 ca3 : Nat), cellH h ⟨a2.block, a2.off + 1, none⟩ = some (.slice a3 la3 ca3) ∧
    VSome a0s fun a4 =>
    ∃ (a5 : Option Addr) (la5 ca5 : Nat), cellH h ⟨a4.block, a4.off + 2, none⟩ = some (.slice a5 la5 ca5) ∧
    VSome a0s fun a6 =>
    ∃ x7 : Int, cellH h a6 = some (.int .i64 x7) ∧
    cond ((IntKind.i64.wrap ((la3 : Int) + (la5 : Int))) == x7)
    (CallsH Try.prog 16 #[.pointer a0s] h fun v8 h9 =>
      ∃ x10 : Int, v8 = .int .i64 x10 ∧
      J1 h9)
    (J1 h)) ∧
  ∀ (h11 : Heap) (g12 : Env), J1 h11 →
  VSome a0s fun a13 =>
  CallsH Try.prog 28 #[.pointer (some ⟨a13.block, a13.off + 1, none⟩), .int .i64 a1n] h11 fun v14 h15 =>
  v14 = .tuple #[] ∧
  R (.tuple #[]) h15
theorem vf15 (a0s : Option Addr) (a1n : Int) (h : Heap) (R : KV) (hF : F15 a0s a1n h R) : CallsH Try.prog 15 #[.pointer a0s, .int .i64 a1n] h R :=
  calls_of_form (A := an15) (fn := Try.f15) (c := c15) (args := [.pointer a0s, .int .i64 a1n]) Try.func15 (by kernel_rfl) mixed (by kernel_rfl) (by kernel_rfl : F15 a0s a1n h R = vcF Try.prog an15 Try.f15 c15 [.pointer a0s, .int .i64 a1n] h R) hF
/-! ### 16 (refrain/agg.Slide).Pop -/
noncomputable def c16 : Code := match Try.f16.body with | some c => c | none => .skip
noncomputable def an16 : Ann := { loops := fun i => match i with | 3 => [(3, .ptr), (4, .bool)] | _ => [], draws := fun i => match i with | 5 => #[0, 1, 3, 0, 8, 31] | _ => #[], joins := fun i => match i with | 8 => some [] | _ => none }
def F16 (a0s : Option Addr) (h : Heap) (R : KV) : Prop :=
  ∃ J1 : Heap → Prop, (VSome a0s fun a2 =>
    ∃ (a3 : Option Addr) (la3 ca3 : Nat), cellH h ⟨a2.block, a2.off + 2, none⟩ = some (.slice a3 la3 ca3) ∧
    cond ((la3 : Int) == (0 : Int))
    (VSome a0s fun a4 =>
      CallsH Try.prog 29 #[.pointer (some ⟨a4.block, a4.off + 1, none⟩)] h fun v5 h6 =>
      ∃ x7 : Int, ∃ x8 : Int, ∃ x9 : Int, ∃ x10 : Int, ∃ x11 : Int, ∃ b12 : Bool, v5 = .tuple #[.agg #[.int .i64 x7, .int .i64 x8, .int .i64 x9, .int .i64 x10, .int .i64 x11], .bool b12] ∧
      VNew h6 (.cells #[.int .i64 0, .int .i64 0, .int .i64 0, .int .i64 0, .int .i64 0] 71) fun b13 h14 =>
      storeL ⟨b13, 0, none⟩ 0 [.int .i64 x7, .int .i64 x8, .int .i64 x9, .int .i64 x10, .int .i64 x11] h14 fun h15 =>
      ∃ I16 : Nat → Heap → Option Addr → Bool → Prop, (∃ n17, I16 n17 h15 (some ⟨b13, 0, none⟩) b12) ∧
      ∀ (n17 : Nat) (h18 : Heap) (g19 : Env) (x_20 : Option Addr) (ok_21 : Bool), I16 n17 h18 x_20 ok_21 →
      cond ok_21
      (VSome a0s fun a23 =>
        VSome x_20 fun a24 =>
        ∃ x25 : Int, cellH h18 a24 = some (.int .i64 x25) ∧
        CallsH Try.prog 28 #[.pointer (some ⟨a23.block, a23.off + 2, none⟩), .int .i64 x25] h18 fun v26 h27 =>
        v26 = .tuple #[] ∧
        VSome x_20 fun a28 =>
        ∃ x29 : Int, cellH h27 a28 = some (.int .i64 x29) ∧
        ∃ x30 : Int, cellH h27 ⟨a28.block, a28.off + 1, none⟩ = some (.int .i64 x30) ∧
        ∃ x31 : Int, cellH h27 ⟨a28.block, a28.off + 2, none⟩ = some (.int .i64 x31) ∧
        ∃ x32 : Int, cellH h27 ⟨a28.block, a28.off + 3, none⟩ = some (.int .i64 x32) ∧
        ∃ x33 : Int, cellH h27 ⟨a28.block, a28.off + 4, none⟩ = some (.int .i64 x33) ∧
        VNew h27 (.cells #[.int .i64 0, .int .i64 0, .int .i64 0, .int .i64 0, .int .i64 0] 71) fun b34 h35 =>
        storeL ⟨b34, 0, none⟩ 0 [.int .i64 x29, .int .i64 x30, .int .i64 x31, .int .i64 x32, .int .i64 x33] h35 fun h36 =>
        VSome a0s fun a37 =>
        CallsH Try.prog 29 #[.pointer (some ⟨a37.block, a37.off + 1, none⟩)] h36 fun v38 h39 =>
        ∃ x40 : Int, ∃ x41 : Int, ∃ x42 : Int, ∃ x43 : Int, ∃ x44 : Int, ∃ b45 : Bool, v38 = .tuple #[.agg #[.int .i64 x40, .int .i64 x41, .int .i64 x42, .int .i64 x43, .int .i64 x44], .bool b45] ∧
        storeL ⟨b34, 0, none⟩ 0 [.int .i64 x40, .int .i64 x41, .int .i64 x42, .int .i64 x43, .int .i64 x44] h39 fun h46 =>
        ∃ m22, m22 < n17 ∧ I16 m22 h46 (some ⟨b34, 0, none⟩) b45)
      (J1 h18))
    (J1 h)) ∧
  ∀ (h47 : Heap) (g48 : Env), J1 h47 →
  VSome a0s fun a49 =>
  CallsH Try.prog 29 #[.pointer (some ⟨a49.block, a49.off + 2, none⟩)] h47 fun v50 h51 =>
  ∃ x52 : Int, ∃ x53 : Int, ∃ x54 : Int, ∃ x55 : Int, ∃ x56 : Int, ∃ b57 : Bool, v50 = .tuple #[.agg #[.int .i64 x52, .int .i64 x53, .int .i64 x54, .int .i64 x55, .int .i64 x56], .bool b57] ∧
  VNew h51 (.cells #[.int .i64 0, .int .i64 0, .int .i64 0, .int .i64 0, .int .i64 0] 71) fun b58 h59 =>
  storeL ⟨b58, 0, none⟩ 0 [.int .i64 x52, .int .i64 x53, .int .i64 x54, .int .i64 x55, .int .i64 x56] h59 fun h60 =>
  cond (!b57)
  (R (.int .i64 3) h60)
  (R (.int .i64 0) h60)
theorem vf16 (a0s : Option Addr) (h : Heap) (R : KV) (hF : F16 a0s h R) : CallsH Try.prog 16 #[.pointer a0s] h R :=
  calls_of_form (A := an16) (fn := Try.f16) (c := c16) (args := [.pointer a0s]) Try.func16 (by kernel_rfl) mixed (by kernel_rfl) (by kernel_rfl : F16 a0s h R = vcF Try.prog an16 Try.f16 c16 [.pointer a0s] h R) hF
/-! ### 17 (refrain/agg.Slide).Acc -/
noncomputable def c17 : Code := match Try.f17.body with | some c => c | none => .skip
noncomputable def an17 : Ann := { loops := fun i => [], draws := fun i => match i with | 1 => #[0, 1, 3, 7, 0, 16, 48, 127, 255, 511] | _ => #[], joins := fun i => none }
def F17 (a0s : Option Addr) (h : Heap) (R : KV) : Prop :=
  VNew h (.cells #[.int .i64 0, .int .i64 0, .int .i64 0, .int .i64 0] 39) fun b1 h2 =>
  VSome a0s fun a3 =>
  VSome a0s fun a4 =>
  CallsH Try.prog 30 #[.pointer (some ⟨a3.block, a3.off + 2, none⟩)] h2 fun v5 h6 =>
  ∃ x7 : Int, ∃ x8 : Int, ∃ x9 : Int, ∃ x10 : Int, v5 = .agg #[.int .i64 x7, .int .i64 x8, .int .i64 x9, .int .i64 x10] ∧
  CallsH Try.prog 30 #[.pointer (some ⟨a4.block, a4.off + 1, none⟩)] h6 fun v11 h12 =>
  ∃ x13 : Int, ∃ x14 : Int, ∃ x15 : Int, ∃ x16 : Int, v11 = .agg #[.int .i64 x13, .int .i64 x14, .int .i64 x15, .int .i64 x16] ∧
  CallsH Try.prog 12 #[.agg #[.int .i64 x7, .int .i64 x8, .int .i64 x9, .int .i64 x10], .agg #[.int .i64 x13, .int .i64 x14, .int .i64 x15, .int .i64 x16]] h12 fun v17 h18 =>
  ∃ x19 : Int, ∃ x20 : Int, ∃ x21 : Int, ∃ x22 : Int, v17 = .agg #[.int .i64 x19, .int .i64 x20, .int .i64 x21, .int .i64 x22] ∧
  storeL ⟨b1, 0, none⟩ 0 [.int .i64 x19, .int .i64 x20, .int .i64 x21, .int .i64 x22] h18 fun h23 =>
  ∃ x24 : Int, cellH h23 ⟨b1, 0, none⟩ = some (.int .i64 x24) ∧
  ∃ x25 : Int, cellH h23 ⟨b1, 1, none⟩ = some (.int .i64 x25) ∧
  ∃ x26 : Int, cellH h23 ⟨b1, 2, none⟩ = some (.int .i64 x26) ∧
  ∃ x27 : Int, cellH h23 ⟨b1, 3, none⟩ = some (.int .i64 x27) ∧
  R (.agg #[.int .i64 x24, .int .i64 x25, .int .i64 x26, .int .i64 x27]) h23
theorem vf17 (a0s : Option Addr) (h : Heap) (R : KV) (hF : F17 a0s h R) : CallsH Try.prog 17 #[.pointer a0s] h R :=
  calls_of_form (A := an17) (fn := Try.f17) (c := c17) (args := [.pointer a0s]) Try.func17 (by kernel_rfl) mixed (by kernel_rfl) (by kernel_rfl : F17 a0s h R = vcF Try.prog an17 Try.f17 c17 [.pointer a0s] h R) hF
/-! ### 18 refrain/refrainref14.New -/
noncomputable def c18 : Code := match Try.f18.body with | some c => c | none => .skip
noncomputable def an18 : Ann := { loops := fun i => [], draws := fun i => #[], joins := fun i => none }
def F18 (a0size : Int) (h : Heap) (R : KV) : Prop :=
  cond (decide (a0size < (1 : Int))) (R (.tuple #[.pointer none, .int .i64 1]) h) (cond (decide (a0size > (4096 : Int)))
    (R (.tuple #[.pointer none, .int .i64 1]) h)
    (VNew h (.cells #[.int .i64 a0size, .slice none 0 0] 76) fun b1 h2 =>
      R (.tuple #[.pointer (some ⟨b1, 0, none⟩), .int .i64 0]) h2))
theorem vf18 (a0size : Int) (h : Heap) (R : KV) (hF : F18 a0size h R) : CallsH Try.prog 18 #[.int .i64 a0size] h R :=
  calls_of_form (A := an18) (fn := Try.f18) (c := c18) (args := [.int .i64 a0size]) Try.func18 (by kernel_rfl) mixed (by kernel_rfl) (by kernel_rfl : F18 a0size h R = vcF Try.prog an18 Try.f18 c18 [.int .i64 a0size] h R) hF
/-! ### 19 (refrain/refrainlaw14.Hand).list -/
noncomputable def c19 : Code := match Try.f19.body with | some c => c | none => .skip
noncomputable def an19 : Ann := { loops := fun i => match i with | 8 => [(7, .int .i64)] | _ => [], draws := fun i => #[], joins := fun i => match i with | 4 => some [] | _ => none }
def F19 (a0h : Option Addr) (a1ns : Option Addr) (la1ns ca1ns : Nat) (h : Heap) (R : KV) : Prop :=
  ∃ J1 : Heap → Prop, (VSome a0h fun a2 =>
    ∃ (a3 : Option Addr) (la3 ca3 : Nat), cellH h a2 = some (.slice a3 la3 ca3) ∧
    cond (decide ((ca3 : Int) > (IntKind.i64.wrap ((la1ns : Int) + 70000))))
    (VSome a0h fun a4 =>
      VStore h a4 (.slice none 0 0) fun h5 =>
      J1 h5)
    (J1 h)) ∧
  ∀ (h6 : Heap) (g7 : Env), J1 h6 →
  VSome a0h fun a8 =>
  ∃ (a9 : Option Addr) (la9 ca9 : Nat), cellH h6 a8 = some (.slice a9 la9 ca9) ∧
  VSlice 1 a9 ca9 0 0 (ca9 : Int) fun a10 la10 ca10 =>
  RunsTo Try.prog (Builtin.append_ #[26, 26] 26 #[.slice a10 la10 ca10, .slice a1ns la1ns ca1ns]) h6 fun v11 h12 =>
  ∃ (a13 : Option Addr) (la13 ca13 : Nat), v11 = .slice a13 la13 ca13 ∧
  VNew h12 (.cells #[.int .i64 0, .int .i64 0] 2) fun b14 h15 =>
  RunsTo Try.prog (Builtin.append_ #[26, 26] 26 #[.slice a13 la13 ca13, .slice (some ⟨b14, 0, none⟩) 2 2]) h15 fun v16 h17 =>
  ∃ (a18 : Option Addr) (la18 ca18 : Nat), v16 = .slice a18 la18 ca18 ∧
  VSlice 1 a18 ca18 0 (ca18 : Int) (ca18 : Int) fun a19 la19 ca19 =>
  ∃ I20 : Nat → Heap → Int → Prop, (∃ n21, I20 n21 h17 (la1ns : Int)) ∧
  ∀ (n21 : Nat) (h22 : Heap) (g23 : Env) (i_24 : Int), I20 n21 h22 i_24 →
  cond (decide (i_24 < (la19 : Int)))
  (VIdx a19 la19 i_24 1 fun a26 =>
    VStore h22 a26 (.int .i64 (IntKind.i64.wrap (77 + i_24))) fun h27 =>
    ∃ m25, m25 < n21 ∧ I20 m25 h27 (IntKind.i64.wrap (i_24 + 1)))
  (VSome a0h fun a28 =>
    VStore h22 a28 (.slice a19 la19 ca19) fun h29 =>
    VSlice 1 a19 ca19 0 (la1ns : Int) (ca19 : Int) fun a30 la30 ca30 =>
    R (.slice a30 la30 ca30) h29)
theorem vf19 (a0h : Option Addr) (a1ns : Option Addr) (la1ns ca1ns : Nat) (h : Heap) (R : KV) (hF : F19 a0h a1ns la1ns ca1ns h R) : CallsH Try.prog 19 #[.pointer a0h, .slice a1ns la1ns ca1ns] h R :=
  calls_of_form (A := an19) (fn := Try.f19) (c := c19) (args := [.pointer a0h, .slice a1ns la1ns ca1ns]) Try.func19 (by kernel_rfl) mixed (by kernel_rfl) (by kernel_rfl : F19 a0h a1ns la1ns ca1ns h R = vcF Try.prog an19 Try.f19 c19 [.pointer a0h, .slice a1ns la1ns ca1ns] h R) hF
/-! ### 20 (refrain/refrainlaw14.Hand).kept -/
noncomputable def c20 : Code := match Try.f20.body with | some c => c | none => .skip
noncomputable def an20 : Ann := { loops := fun i => match i with | 3 => [(5, .bool), (6, .int .i64)] | _ => [], draws := fun i => #[], joins := fun i => match i with | 4 => some [(5, .bool), (7, .int .i64)] | 8 => some [(7, .int .i64)] | _ => none }
def F20 (a0h : Option Addr) (a1ns : Option Addr) (la1ns ca1ns : Nat) (h : Heap) (R : KV) : Prop :=
  ∃ I1 : Nat → Heap → Bool → Int → Prop, (∃ n2, I1 n2 h true 0) ∧
  ∀ (n2 : Nat) (h3 : Heap) (g4 : Env) (ok_5 : Bool) (i_6 : Int), I1 n2 h3 ok_5 i_6 →
  VSome a0h fun a8 =>
  ∃ (a9 : Option Addr) (la9 ca9 : Nat), cellH h3 a8 = some (.slice a9 la9 ca9) ∧
  cond (decide (i_6 < (la9 : Int)))
  (∃ J10 : Heap → Bool → Int → Prop, (∃ J11 : Heap → Int → Prop, (cond (decide (i_6 < (la1ns : Int)))
        (VIdx a1ns la1ns i_6 1 fun a12 =>
          ∃ x13 : Int, cellH h3 a12 = some (.int .i64 x13) ∧
          J11 h3 x13)
        (J11 h3 (IntKind.i64.wrap (77 + i_6)))) ∧
      ∀ (h14 : Heap) (g15 : Env) (want_16 : Int), J11 h14 want_16 →
      cond ok_5 (VSome a0h fun a17 =>
        ∃ (a18 : Option Addr) (la18 ca18 : Nat), cellH h14 a17 = some (.slice a18 la18 ca18) ∧
        VIdx a18 la18 i_6 1 fun a19 =>
        ∃ x20 : Int, cellH h14 a19 = some (.int .i64 x20) ∧
        VSome a0h fun a21 =>
        ∃ (a22 : Option Addr) (la22 ca22 : Nat), cellH h14 a21 = some (.slice a22 la22 ca22) ∧
        VIdx a22 la22 i_6 1 fun a23 =>
        VStore h14 a23 (.int .i64 (-99 : Int)) fun h24 =>
        J10 h24 (x20 == want_16) want_16) (VSome a0h fun a25 =>
        ∃ (a26 : Option Addr) (la26 ca26 : Nat), cellH h14 a25 = some (.slice a26 la26 ca26) ∧
        VIdx a26 la26 i_6 1 fun a27 =>
        VStore h14 a27 (.int .i64 (-99 : Int)) fun h28 =>
        J10 h28 false want_16)) ∧
    ∀ (h29 : Heap) (g30 : Env) (ok_31 : Bool) (want_32 : Int), J10 h29 ok_31 want_32 →
    ∃ m7, m7 < n2 ∧ I1 m7 h29 ok_31 (IntKind.i64.wrap (i_6 + 1)))
  (R (.bool ok_5) h3)
theorem vf20 (a0h : Option Addr) (a1ns : Option Addr) (la1ns ca1ns : Nat) (h : Heap) (R : KV) (hF : F20 a0h a1ns la1ns ca1ns h R) : CallsH Try.prog 20 #[.pointer a0h, .slice a1ns la1ns ca1ns] h R :=
  calls_of_form (A := an20) (fn := Try.f20) (c := c20) (args := [.pointer a0h, .slice a1ns la1ns ca1ns]) Try.func20 (by kernel_rfl) mixed (by kernel_rfl) (by kernel_rfl : F20 a0h a1ns la1ns ca1ns h R = vcF Try.prog an20 Try.f20 c20 [.pointer a0h, .slice a1ns la1ns ca1ns] h R) hF
/-! ### 21 refrain/refrainref14.Add -/
noncomputable def c21 : Code := match Try.f21.body with | some c => c | none => .skip
noncomputable def an21 : Ann := { loops := fun i => match i with | 6 => [(5, .bool), (6, .int .i64)] | _ => [], draws := fun i => match i with | 8 => #[0, 1, 0, 0, 12, 28, 63, 127, 255] | 9 => #[0, 1, 3, 7, 7, 31, 63, 7, 135, 511, 1023] | 11 => #[0, 1, 3, 7, 7, 31, 63, 7, 135, 511, 1023] | _ => #[], joins := fun i => match i with | 11 => some [] | 13 => some [] | _ => none }
def F21 (a0a_0 : Int) (a0a_1 : Int) (a0a_2 : Int) (a0a_3 : Int) (a1ns : Option Addr) (la1ns ca1ns : Nat) (h : Heap) (R : KV) : Prop :=
  VNew h (.cells #[.int .i64 a0a_0, .int .i64 a0a_1, .int .i64 a0a_2, .int .i64 a0a_3] 39) fun b1 h2 =>
  VNew h2 (.cells #[.int .i64 0, .int .i64 0, .int .i64 0, .int .i64 0] 39) fun b3 h4 =>
  ∃ x5 : Int, cellH h4 ⟨b1, 0, none⟩ = some (.int .i64 x5) ∧
  ∃ x6 : Int, cellH h4 ⟨b1, 1, none⟩ = some (.int .i64 x6) ∧
  ∃ x7 : Int, cellH h4 ⟨b1, 2, none⟩ = some (.int .i64 x7) ∧
  ∃ x8 : Int, cellH h4 ⟨b1, 3, none⟩ = some (.int .i64 x8) ∧
  CallsH Try.prog 31 #[.agg #[.int .i64 x5, .int .i64 x6, .int .i64 x7, .int .i64 x8]] h4 fun v9 h10 =>
  ∃ x11 : Int, ∃ x12 : Int, ∃ x13 : Int, ∃ x14 : Int, v9 = .agg #[.int .i64 x11, .int .i64 x12, .int .i64 x13, .int .i64 x14] ∧
  storeL ⟨b1, 0, none⟩ 0 [.int .i64 x11, .int .i64 x12, .int .i64 x13, .int .i64 x14] h10 fun h15 =>
  cond ((la1ns : Int) == (0 : Int))
  (∃ x16 : Int, cellH h15 ⟨b1, 0, none⟩ = some (.int .i64 x16) ∧
    ∃ x17 : Int, cellH h15 ⟨b1, 1, none⟩ = some (.int .i64 x17) ∧
    ∃ x18 : Int, cellH h15 ⟨b1, 2, none⟩ = some (.int .i64 x18) ∧
    ∃ x19 : Int, cellH h15 ⟨b1, 3, none⟩ = some (.int .i64 x19) ∧
    storeL ⟨b3, 0, none⟩ 0 [.int .i64 x16, .int .i64 x17, .int .i64 x18, .int .i64 x19] h15 fun h20 =>
    ∃ x21 : Int, cellH h20 ⟨b3, 0, none⟩ = some (.int .i64 x21) ∧
    ∃ x22 : Int, cellH h20 ⟨b3, 1, none⟩ = some (.int .i64 x22) ∧
    ∃ x23 : Int, cellH h20 ⟨b3, 2, none⟩ = some (.int .i64 x23) ∧
    ∃ x24 : Int, cellH h20 ⟨b3, 3, none⟩ = some (.int .i64 x24) ∧
    R (.agg #[.int .i64 x21, .int .i64 x22, .int .i64 x23, .int .i64 x24]) h20)
  (∃ x25 : Int, cellH h15 ⟨b1, 0, none⟩ = some (.int .i64 x25) ∧
    ∃ I26 : Nat → Heap → Bool → Int → Prop, (∃ n27, I26 n27 h15 (decide (x25 > (0 : Int))) 0) ∧
    ∀ (n27 : Nat) (h28 : Heap) (g29 : Env) (some_30 : Bool) (i_31 : Int), I26 n27 h28 some_30 i_31 →
    cond (decide (i_31 < (la1ns : Int)))
    (∃ x33 : Int, cellH h28 ⟨b1, 1, none⟩ = some (.int .i64 x33) ∧
      VIdx a1ns la1ns i_31 1 fun a34 =>
      ∃ x35 : Int, cellH h28 a34 = some (.int .i64 x35) ∧
      VStore h28 ⟨b1, 1, none⟩ (.int .i64 (IntKind.i64.wrap (x33 + x35))) fun h36 =>
      ∃ J37 : Heap → Prop, (cond (!some_30) (VIdx a1ns la1ns i_31 1 fun a38 =>
          ∃ x39 : Int, cellH h36 a38 = some (.int .i64 x39) ∧
          VStore h36 ⟨b1, 2, none⟩ (.int .i64 x39) fun h40 =>
          J37 h40) (VIdx a1ns la1ns i_31 1 fun a41 =>
          ∃ x42 : Int, cellH h36 a41 = some (.int .i64 x42) ∧
          ∃ x43 : Int, cellH h36 ⟨b1, 2, none⟩ = some (.int .i64 x43) ∧
          cond (decide (x42 < x43))
          (VIdx a1ns la1ns i_31 1 fun a44 =>
            ∃ x45 : Int, cellH h36 a44 = some (.int .i64 x45) ∧
            VStore h36 ⟨b1, 2, none⟩ (.int .i64 x45) fun h46 =>
            J37 h46)
          (J37 h36))) ∧
      ∀ (h47 : Heap) (g48 : Env), J37 h47 →
      ∃ J49 : Heap → Prop, (cond (!some_30) (VIdx a1ns la1ns i_31 1 fun a50 =>
          ∃ x51 : Int, cellH h47 a50 = some (.int .i64 x51) ∧
          VStore h47 ⟨b1, 3, none⟩ (.int .i64 x51) fun h52 =>
          J49 h52) (VIdx a1ns la1ns i_31 1 fun a53 =>
          ∃ x54 : Int, cellH h47 a53 = some (.int .i64 x54) ∧
          ∃ x55 : Int, cellH h47 ⟨b1, 3, none⟩ = some (.int .i64 x55) ∧
          cond (decide (x54 > x55))
          (VIdx a1ns la1ns i_31 1 fun a56 =>
            ∃ x57 : Int, cellH h47 a56 = some (.int .i64 x57) ∧
            VStore h47 ⟨b1, 3, none⟩ (.int .i64 x57) fun h58 =>
            J49 h58)
          (J49 h47))) ∧
      ∀ (h59 : Heap) (g60 : Env), J49 h59 →
      ∃ m32, m32 < n27 ∧ I26 m32 h59 true (IntKind.i64.wrap (i_31 + 1)))
    (∃ x61 : Int, cellH h28 ⟨b1, 0, none⟩ = some (.int .i64 x61) ∧
      VStore h28 ⟨b1, 0, none⟩ (.int .i64 (IntKind.i64.wrap (x61 + (la1ns : Int)))) fun h62 =>
      ∃ x63 : Int, cellH h62 ⟨b1, 0, none⟩ = some (.int .i64 x63) ∧
      ∃ x64 : Int, cellH h62 ⟨b1, 1, none⟩ = some (.int .i64 x64) ∧
      ∃ x65 : Int, cellH h62 ⟨b1, 2, none⟩ = some (.int .i64 x65) ∧
      ∃ x66 : Int, cellH h62 ⟨b1, 3, none⟩ = some (.int .i64 x66) ∧
      storeL ⟨b3, 0, none⟩ 0 [.int .i64 x63, .int .i64 x64, .int .i64 x65, .int .i64 x66] h62 fun h67 =>
      ∃ x68 : Int, cellH h67 ⟨b3, 0, none⟩ = some (.int .i64 x68) ∧
      ∃ x69 : Int, cellH h67 ⟨b3, 1, none⟩ = some (.int .i64 x69) ∧
      ∃ x70 : Int, cellH h67 ⟨b3, 2, none⟩ = some (.int .i64 x70) ∧
      ∃ x71 : Int, cellH h67 ⟨b3, 3, none⟩ = some (.int .i64 x71) ∧
      R (.agg #[.int .i64 x68, .int .i64 x69, .int .i64 x70, .int .i64 x71]) h67))
theorem vf21 (a0a_0 : Int) (a0a_1 : Int) (a0a_2 : Int) (a0a_3 : Int) (a1ns : Option Addr) (la1ns ca1ns : Nat) (h : Heap) (R : KV) (hF : F21 a0a_0 a0a_1 a0a_2 a0a_3 a1ns la1ns ca1ns h R) : CallsH Try.prog 21 #[.agg #[.int .i64 a0a_0, .int .i64 a0a_1, .int .i64 a0a_2, .int .i64 a0a_3], .slice a1ns la1ns ca1ns] h R :=
  calls_of_form (A := an21) (fn := Try.f21) (c := c21) (args := [.agg #[.int .i64 a0a_0, .int .i64 a0a_1, .int .i64 a0a_2, .int .i64 a0a_3], .slice a1ns la1ns ca1ns]) Try.func21 (by kernel_rfl) mixed (by kernel_rfl) (by kernel_rfl : F21 a0a_0 a0a_1 a0a_2 a0a_3 a1ns la1ns ca1ns h R = vcF Try.prog an21 Try.f21 c21 [.agg #[.int .i64 a0a_0, .int .i64 a0a_1, .int .i64 a0a_2, .int .i64 a0a_3], .slice a1ns la1ns ca1ns] h R) hF
/-! ### 22 refrain/refrainref14.Join -/
noncomputable def c22 : Code := match Try.f22.body with | some c => c | none => .skip
noncomputable def an22 : Ann := { loops := fun i => [], draws := fun i => #[], joins := fun i => none }
def F22 (a0a_0 : Int) (a0a_1 : Int) (a0a_2 : Int) (a0a_3 : Int) (a1b_0 : Int) (a1b_1 : Int) (a1b_2 : Int) (a1b_3 : Int) (h : Heap) (R : KV) : Prop :=
  VNew h (.cells #[.int .i64 a0a_0, .int .i64 a0a_1, .int .i64 a0a_2, .int .i64 a0a_3] 39) fun b1 h2 =>
  VNew h2 (.cells #[.int .i64 a1b_0, .int .i64 a1b_1, .int .i64 a1b_2, .int .i64 a1b_3] 39) fun b3 h4 =>
  VNew h4 (.cells #[.int .i64 0, .int .i64 0, .int .i64 0, .int .i64 0] 39) fun b5 h6 =>
  ∃ x7 : Int, cellH h6 ⟨b1, 0, none⟩ = some (.int .i64 x7) ∧
  ∃ x8 : Int, cellH h6 ⟨b1, 1, none⟩ = some (.int .i64 x8) ∧
  ∃ x9 : Int, cellH h6 ⟨b1, 2, none⟩ = some (.int .i64 x9) ∧
  ∃ x10 : Int, cellH h6 ⟨b1, 3, none⟩ = some (.int .i64 x10) ∧
  CallsH Try.prog 31 #[.agg #[.int .i64 x7, .int .i64 x8, .int .i64 x9, .int .i64 x10]] h6 fun v11 h12 =>
  ∃ x13 : Int, ∃ x14 : Int, ∃ x15 : Int, ∃ x16 : Int, v11 = .agg #[.int .i64 x13, .int .i64 x14, .int .i64 x15, .int .i64 x16] ∧
  storeL ⟨b1, 0, none⟩ 0 [.int .i64 x13, .int .i64 x14, .int .i64 x15, .int .i64 x16] h12 fun h17 =>
  ∃ x18 : Int, cellH h17 ⟨b3, 0, none⟩ = some (.int .i64 x18) ∧
  ∃ x19 : Int, cellH h17 ⟨b3, 1, none⟩ = some (.int .i64 x19) ∧
  ∃ x20 : Int, cellH h17 ⟨b3, 2, none⟩ = some (.int .i64 x20) ∧
  ∃ x21 : Int, cellH h17 ⟨b3, 3, none⟩ = some (.int .i64 x21) ∧
  CallsH Try.prog 31 #[.agg #[.int .i64 x18, .int .i64 x19, .int .i64 x20, .int .i64 x21]] h17 fun v22 h23 =>
  ∃ x24 : Int, ∃ x25 : Int, ∃ x26 : Int, ∃ x27 : Int, v22 = .agg #[.int .i64 x24, .int .i64 x25, .int .i64 x26, .int .i64 x27] ∧
  storeL ⟨b3, 0, none⟩ 0 [.int .i64 x24, .int .i64 x25, .int .i64 x26, .int .i64 x27] h23 fun h28 =>
  ∃ x29 : Int, cellH h28 ⟨b1, 0, none⟩ = some (.int .i64 x29) ∧
  cond (x29 == (0 : Int))
  (∃ x30 : Int, cellH h28 ⟨b3, 0, none⟩ = some (.int .i64 x30) ∧
    ∃ x31 : Int, cellH h28 ⟨b3, 1, none⟩ = some (.int .i64 x31) ∧
    ∃ x32 : Int, cellH h28 ⟨b3, 2, none⟩ = some (.int .i64 x32) ∧
    ∃ x33 : Int, cellH h28 ⟨b3, 3, none⟩ = some (.int .i64 x33) ∧
    storeL ⟨b5, 0, none⟩ 0 [.int .i64 x30, .int .i64 x31, .int .i64 x32, .int .i64 x33] h28 fun h34 =>
    ∃ x35 : Int, cellH h34 ⟨b5, 0, none⟩ = some (.int .i64 x35) ∧
    ∃ x36 : Int, cellH h34 ⟨b5, 1, none⟩ = some (.int .i64 x36) ∧
    ∃ x37 : Int, cellH h34 ⟨b5, 2, none⟩ = some (.int .i64 x37) ∧
    ∃ x38 : Int, cellH h34 ⟨b5, 3, none⟩ = some (.int .i64 x38) ∧
    R (.agg #[.int .i64 x35, .int .i64 x36, .int .i64 x37, .int .i64 x38]) h34)
  (∃ x39 : Int, cellH h28 ⟨b3, 0, none⟩ = some (.int .i64 x39) ∧
    cond (x39 == (0 : Int))
    (∃ x40 : Int, cellH h28 ⟨b1, 0, none⟩ = some (.int .i64 x40) ∧
      ∃ x41 : Int, cellH h28 ⟨b1, 1, none⟩ = some (.int .i64 x41) ∧
      ∃ x42 : Int, cellH h28 ⟨b1, 2, none⟩ = some (.int .i64 x42) ∧
      ∃ x43 : Int, cellH h28 ⟨b1, 3, none⟩ = some (.int .i64 x43) ∧
      storeL ⟨b5, 0, none⟩ 0 [.int .i64 x40, .int .i64 x41, .int .i64 x42, .int .i64 x43] h28 fun h44 =>
      ∃ x45 : Int, cellH h44 ⟨b5, 0, none⟩ = some (.int .i64 x45) ∧
      ∃ x46 : Int, cellH h44 ⟨b5, 1, none⟩ = some (.int .i64 x46) ∧
      ∃ x47 : Int, cellH h44 ⟨b5, 2, none⟩ = some (.int .i64 x47) ∧
      ∃ x48 : Int, cellH h44 ⟨b5, 3, none⟩ = some (.int .i64 x48) ∧
      R (.agg #[.int .i64 x45, .int .i64 x46, .int .i64 x47, .int .i64 x48]) h44)
    (∃ x49 : Int, cellH h28 ⟨b1, 0, none⟩ = some (.int .i64 x49) ∧
      ∃ x50 : Int, cellH h28 ⟨b3, 0, none⟩ = some (.int .i64 x50) ∧
      ∃ x51 : Int, cellH h28 ⟨b1, 1, none⟩ = some (.int .i64 x51) ∧
      ∃ x52 : Int, cellH h28 ⟨b3, 1, none⟩ = some (.int .i64 x52) ∧
      ∃ x53 : Int, cellH h28 ⟨b1, 2, none⟩ = some (.int .i64 x53) ∧
      ∃ x54 : Int, cellH h28 ⟨b3, 2, none⟩ = some (.int .i64 x54) ∧
      ∃ x55 : Int, cellH h28 ⟨b1, 3, none⟩ = some (.int .i64 x55) ∧
      ∃ x56 : Int, cellH h28 ⟨b3, 3, none⟩ = some (.int .i64 x56) ∧
      storeL ⟨b5, 0, none⟩ 0 [.int .i64 (IntKind.i64.wrap (x49 + x50)), .int .i64 (IntKind.i64.wrap (x51 + x52)), .int .i64 (minI x53 x54), .int .i64 (maxI x55 x56)] h28 fun h57 =>
      ∃ x58 : Int, cellH h57 ⟨b5, 0, none⟩ = some (.int .i64 x58) ∧
      ∃ x59 : Int, cellH h57 ⟨b5, 1, none⟩ = some (.int .i64 x59) ∧
      ∃ x60 : Int, cellH h57 ⟨b5, 2, none⟩ = some (.int .i64 x60) ∧
      ∃ x61 : Int, cellH h57 ⟨b5, 3, none⟩ = some (.int .i64 x61) ∧
      R (.agg #[.int .i64 x58, .int .i64 x59, .int .i64 x60, .int .i64 x61]) h57))
theorem vf22 (a0a_0 : Int) (a0a_1 : Int) (a0a_2 : Int) (a0a_3 : Int) (a1b_0 : Int) (a1b_1 : Int) (a1b_2 : Int) (a1b_3 : Int) (h : Heap) (R : KV) (hF : F22 a0a_0 a0a_1 a0a_2 a0a_3 a1b_0 a1b_1 a1b_2 a1b_3 h R) : CallsH Try.prog 22 #[.agg #[.int .i64 a0a_0, .int .i64 a0a_1, .int .i64 a0a_2, .int .i64 a0a_3], .agg #[.int .i64 a1b_0, .int .i64 a1b_1, .int .i64 a1b_2, .int .i64 a1b_3]] h R :=
  calls_of_form (A := an22) (fn := Try.f22) (c := c22) (args := [.agg #[.int .i64 a0a_0, .int .i64 a0a_1, .int .i64 a0a_2, .int .i64 a0a_3], .agg #[.int .i64 a1b_0, .int .i64 a1b_1, .int .i64 a1b_2, .int .i64 a1b_3]]) Try.func22 (by kernel_rfl) mixed (by kernel_rfl) (by kernel_rfl : F22 a0a_0 a0a_1 a0a_2 a0a_3 a1b_0 a1b_1 a1b_2 a1b_3 h R = vcF Try.prog an22 Try.f22 c22 [.agg #[.int .i64 a0a_0, .int .i64 a0a_1, .int .i64 a0a_2, .int .i64 a0a_3], .agg #[.int .i64 a1b_0, .int .i64 a1b_1, .int .i64 a1b_2, .int .i64 a1b_3]] h R) hF
/-! ### 23 refrain/refrainref14.Get -/
noncomputable def c23 : Code := match Try.f23.body with | some c => c | none => .skip
noncomputable def an23 : Ann := { loops := fun i => [], draws := fun i => match i with | 8 => #[0, 1, 0, 4, 12, 3, 63] | 10 => #[0, 1, 0, 4, 12, 3, 63] | _ => #[], joins := fun i => none }
def F23 (a0a_0 : Int) (a0a_1 : Int) (a0a_2 : Int) (a0a_3 : Int) (a1fn : Int) (h : Heap) (R : KV) : Prop :=
  VNew h (.cells #[.int .i64 a0a_0, .int .i64 a0a_1, .int .i64 a0a_2, .int .i64 a0a_3] 39) fun b1 h2 =>
  ∃ x3 : Int, cellH h2 ⟨b1, 0, none⟩ = some (.int .i64 x3) ∧
  ∃ x4 : Int, cellH h2 ⟨b1, 1, none⟩ = some (.int .i64 x4) ∧
  ∃ x5 : Int, cellH h2 ⟨b1, 2, none⟩ = some (.int .i64 x5) ∧
  ∃ x6 : Int, cellH h2 ⟨b1, 3, none⟩ = some (.int .i64 x6) ∧
  CallsH Try.prog 31 #[.agg #[.int .i64 x3, .int .i64 x4, .int .i64 x5, .int .i64 x6]] h2 fun v7 h8 =>
  ∃ x9 : Int, ∃ x10 : Int, ∃ x11 : Int, ∃ x12 : Int, v7 = .agg #[.int .i64 x9, .int .i64 x10, .int .i64 x11, .int .i64 x12] ∧
  storeL ⟨b1, 0, none⟩ 0 [.int .i64 x9, .int .i64 x10, .int .i64 x11, .int .i64 x12] h8 fun h13 =>
  cond (a1fn == (1 : Int))
  (∃ x14 : Int, cellH h13 ⟨b1, 0, none⟩ = some (.int .i64 x14) ∧
    R (.tuple #[.int .i64 x14, .bool true]) h13)
  (cond (a1fn == (2 : Int))
    (∃ x15 : Int, cellH h13 ⟨b1, 1, none⟩ = some (.int .i64 x15) ∧
      R (.tuple #[.int .i64 x15, .bool true]) h13)
    (cond (a1fn == (3 : Int))
      (∃ x16 : Int, cellH h13 ⟨b1, 2, none⟩ = some (.int .i64 x16) ∧
        ∃ x17 : Int, cellH h13 ⟨b1, 0, none⟩ = some (.int .i64 x17) ∧
        R (.tuple #[.int .i64 x16, .bool (decide (x17 > (0 : Int)))]) h13)
      (cond (a1fn == (4 : Int))
        (∃ x18 : Int, cellH h13 ⟨b1, 3, none⟩ = some (.int .i64 x18) ∧
          ∃ x19 : Int, cellH h13 ⟨b1, 0, none⟩ = some (.int .i64 x19) ∧
          R (.tuple #[.int .i64 x18, .bool (decide (x19 > (0 : Int)))]) h13)
        (R (.tuple #[.int .i64 0, .bool false]) h13))))
theorem vf23 (a0a_0 : Int) (a0a_1 : Int) (a0a_2 : Int) (a0a_3 : Int) (a1fn : Int) (h : Heap) (R : KV) (hF : F23 a0a_0 a0a_1 a0a_2 a0a_3 a1fn h R) : CallsH Try.prog 23 #[.agg #[.int .i64 a0a_0, .int .i64 a0a_1, .int .i64 a0a_2, .int .i64 a0a_3], .int .i64 a1fn] h R :=
  calls_of_form (A := an23) (fn := Try.f23) (c := c23) (args := [.agg #[.int .i64 a0a_0, .int .i64 a0a_1, .int .i64 a0a_2, .int .i64 a0a_3], .int .i64 a1fn]) Try.func23 (by kernel_rfl) mixed (by kernel_rfl) (by kernel_rfl : F23 a0a_0 a0a_1 a0a_2 a0a_3 a1fn h R = vcF Try.prog an23 Try.f23 c23 [.agg #[.int .i64 a0a_0, .int .i64 a0a_1, .int .i64 a0a_2, .int .i64 a0a_3], .int .i64 a1fn] h R) hF
/-! ### 24 (refrain/refrainref14.Slide).Push -/
noncomputable def c24 : Code := match Try.f24.body with | some c => c | none => .skip
noncomputable def an24 : Ann := { loops := fun i => [], draws := fun i => match i with | 0 => #[0, 1, 3, 7, 15, 0, 32, 96, 224, 511] | _ => #[], joins := fun i => match i with | 2 => some [] | _ => none }
def F24 (a0s : Option Addr) (a1n : Int) (h : Heap) (R : KV) : Prop :=
  ∃ J1 : Heap → Prop, (VSome a0s fun a2 =>
    ∃ (a3 : Option Addr) (la3 ca3 : Nat), cellH h ⟨a2.block, a2.off + 1, none⟩ = some (.slice a3 la3 ca3) ∧
    VSome a0s fun a4 =>
    ∃ x5 : Int, cellH h a4 = some (.int .i64 x5) ∧
    cond (decide ((la3 : Int) ≥ x5))
    (VSome a0s fun a6 =>
      ∃ (a7 : Option Addr) (la7 ca7 : Nat), cellH h ⟨a6.block, a6.off + 1, none⟩ = some (.slice a7 la7 ca7) ∧
      VSlice 1 a7 ca7 1 (la7 : Int) (ca7 : Int) fun a8 la8 ca8 =>
      VSome a0s fun a9 =>
      VStore h ⟨a9.block, a9.off + 1, none⟩ (.slice a8 la8 ca8) fun h10 =>
      J1 h10)
    (J1 h)) ∧
  ∀ (h11 : Heap) (g12 : Env), J1 h11 →
  VSome a0s fun a13 =>
  ∃ (a14 : Option Addr) (la14 ca14 : Nat), cellH h11 ⟨a13.block, a13.off + 1, none⟩ = some (.slice a14 la14 ca14) ∧
  VNew h11 (.cells #[.int .i64 a1n] 2) fun b15 h16 =>
  RunsTo Try.prog (Builtin.append_ #[26, 26] 26 #[.slice a14 la14 ca14, .slice (some ⟨b15, 0, none⟩) 1 1]) h16 fun v17 h18 =>
  ∃ (a19 : Option Addr) (la19 ca19 : Nat), v17 = .slice a19 la19 ca19 ∧
  VSome a0s fun a20 =>
  VStore h18 ⟨a20.block, a20.off + 1, none⟩ (.slice a19 la19 ca19) fun h21 =>
  R (.tuple #[]) h21
theorem vf24 (a0s : Option Addr) (a1n : Int) (h : Heap) (R : KV) (hF : F24 a0s a1n h R) : CallsH Try.prog 24 #[.pointer a0s, .int .i64 a1n] h R :=
  calls_of_form (A := an24) (fn := Try.f24) (c := c24) (args := [.pointer a0s, .int .i64 a1n]) Try.func24 (by kernel_rfl) mixed (by kernel_rfl) (by kernel_rfl : F24 a0s a1n h R = vcF Try.prog an24 Try.f24 c24 [.pointer a0s, .int .i64 a1n] h R) hF
/-! ### 25 (refrain/refrainref14.Slide).Pop -/
noncomputable def c25 : Code := match Try.f25.body with | some c => c | none => .skip
noncomputable def an25 : Ann := { loops := fun i => [], draws := fun i => #[], joins := fun i => none }
def F25 (a0s : Option Addr) (h : Heap) (R : KV) : Prop :=
  VSome a0s fun a1 =>
  ∃ (a2 : Option Addr) (la2 ca2 : Nat), cellH h ⟨a1.block, a1.off + 1, none⟩ = some (.slice a2 la2 ca2) ∧
  cond ((la2 : Int) == (0 : Int))
  (R (.int .i64 3) h)
  (VSome a0s fun a3 =>
    ∃ (a4 : Option Addr) (la4 ca4 : Nat), cellH h ⟨a3.block, a3.off + 1, none⟩ = some (.slice a4 la4 ca4) ∧
    VSlice 1 a4 ca4 1 (la4 : Int) (ca4 : Int) fun a5 la5 ca5 =>
    VSome a0s fun a6 =>
    VStore h ⟨a6.block, a6.off + 1, none⟩ (.slice a5 la5 ca5) fun h7 =>
    R (.int .i64 0) h7)
theorem vf25 (a0s : Option Addr) (h : Heap) (R : KV) (hF : F25 a0s h R) : CallsH Try.prog 25 #[.pointer a0s] h R :=
  calls_of_form (A := an25) (fn := Try.f25) (c := c25) (args := [.pointer a0s]) Try.func25 (by kernel_rfl) mixed (by kernel_rfl) (by kernel_rfl : F25 a0s h R = vcF Try.prog an25 Try.f25 c25 [.pointer a0s] h R) hF
/-! ### 26 (refrain/refrainref14.Slide).Acc -/
noncomputable def c26 : Code := match Try.f26.body with | some c => c | none => .skip
noncomputable def an26 : Ann := { loops := fun i => [], draws := fun i => #[], joins := fun i => none }
def F26 (a0s : Option Addr) (h : Heap) (R : KV) : Prop :=
  VNew h (.cells #[.int .i64 0, .int .i64 0, .int .i64 0, .int .i64 0] 39) fun b1 h2 =>
  VSome a0s fun a3 =>
  ∃ (a4 : Option Addr) (la4 ca4 : Nat), cellH h2 ⟨a3.block, a3.off + 1, none⟩ = some (.slice a4 la4 ca4) ∧
  CallsH Try.prog 21 #[.agg #[.int .i64 0, .int .i64 0, .int .i64 0, .int .i64 0], .slice a4 la4 ca4] h2 fun v5 h6 =>
  ∃ x7 : Int, ∃ x8 : Int, ∃ x9 : Int, ∃ x10 : Int, v5 = .agg #[.int .i64 x7, .int .i64 x8, .int .i64 x9, .int .i64 x10] ∧
  storeL ⟨b1, 0, none⟩ 0 [.int .i64 x7, .int .i64 x8, .int .i64 x9, .int .i64 x10] h6 fun h11 =>
  ∃ x12 : Int, cellH h11 ⟨b1, 0, none⟩ = some (.int .i64 x12) ∧
  ∃ x13 : Int, cellH h11 ⟨b1, 1, none⟩ = some (.int .i64 x13) ∧
  ∃ x14 : Int, cellH h11 ⟨b1, 2, none⟩ = some (.int .i64 x14) ∧
  ∃ x15 : Int, cellH h11 ⟨b1, 3, none⟩ = some (.int .i64 x15) ∧
  R (.agg #[.int .i64 x12, .int .i64 x13, .int .i64 x14, .int .i64 x15]) h11
theorem vf26 (a0s : Option Addr) (h : Heap) (R : KV) (hF : F26 a0s h R) : CallsH Try.prog 26 #[.pointer a0s] h R :=
  calls_of_form (A := an26) (fn := Try.f26) (c := c26) (args := [.pointer a0s]) Try.func26 (by kernel_rfl) mixed (by kernel_rfl) (by kernel_rfl : F26 a0s h R = vcF Try.prog an26 Try.f26 c26 [.pointer a0s] h R) hF
/-! ### 27 refrain/agg.none -/
noncomputable def c27 : Code := match Try.f27.body with | some c => c | none => .skip
noncomputable def an27 : Ann := { loops := fun i => [], draws := fun i => #[], joins := fun i => none }
def F27 (a0a_0 : Int) (a0a_1 : Int) (a0a_2 : Int) (a0a_3 : Int) (h : Heap) (R : KV) : Prop :=
  VNew h (.cells #[.int .i64 a0a_0, .int .i64 a0a_1, .int .i64 a0a_2, .int .i64 a0a_3] 39) fun b1 h2 =>
  ∃ x3 : Int, cellH h2 ⟨b1, 0, none⟩ = some (.int .i64 x3) ∧
  R (.bool (decide (x3 < (1 : Int)))) h2
theorem vf27 (a0a_0 : Int) (a0a_1 : Int) (a0a_2 : Int) (a0a_3 : Int) (h : Heap) (R : KV) (hF : F27 a0a_0 a0a_1 a0a_2 a0a_3 h R) : CallsH Try.prog 27 #[.agg #[.int .i64 a0a_0, .int .i64 a0a_1, .int .i64 a0a_2, .int .i64 a0a_3]] h R :=
  calls_of_form (A := an27) (fn := Try.f27) (c := c27) (args := [.agg #[.int .i64 a0a_0, .int .i64 a0a_1, .int .i64 a0a_2, .int .i64 a0a_3]]) Try.func27 (by kernel_rfl) mixed (by kernel_rfl) (by kernel_rfl : F27 a0a_0 a0a_1 a0a_2 a0a_3 h R = vcF Try.prog an27 Try.f27 c27 [.agg #[.int .i64 a0a_0, .int .i64 a0a_1, .int .i64 a0a_2, .int .i64 a0a_3]] h R) hF
/-! ### 28 refrain/agg.lay -/
noncomputable def c28 : Code := match Try.f28.body with | some c => c | none => .skip
noncomputable def an28 : Ann := { loops := fun i => [], draws := fun i => #[], joins := fun i => none }
def F28 (a0s : Option Addr) (a1n : Int) (h : Heap) (R : KV) : Prop :=
  CallsH Try.prog 30 #[.pointer a0s] h fun v1 h2 =>
  ∃ x3 : Int, ∃ x4 : Int, ∃ x5 : Int, ∃ x6 : Int, v1 = .agg #[.int .i64 x3, .int .i64 x4, .int .i64 x5, .int .i64 x6] ∧
  VNew h2 (.cells #[.int .i64 a1n] 2) fun b7 h8 =>
  CallsH Try.prog 11 #[.agg #[.int .i64 0, .int .i64 0, .int .i64 0, .int .i64 0], .slice (some ⟨b7, 0, none⟩) 1 1] h8 fun v9 h10 =>
  ∃ x11 : Int, ∃ x12 : Int, ∃ x13 : Int, ∃ x14 : Int, v9 = .agg #[.int .i64 x11, .int .i64 x12, .int .i64 x13, .int .i64 x14] ∧
  CallsH Try.prog 12 #[.agg #[.int .i64 x3, .int .i64 x4, .int .i64 x5, .int .i64 x6], .agg #[.int .i64 x11, .int .i64 x12, .int .i64 x13, .int .i64 x14]] h10 fun v15 h16 =>
  ∃ x17 : Int, ∃ x18 : Int, ∃ x19 : Int, ∃ x20 : Int, v15 = .agg #[.int .i64 x17, .int .i64 x18, .int .i64 x19, .int .i64 x20] ∧
  CallsH Try.prog 32 #[.pointer a0s, .agg #[.int .i64 a1n, .int .i64 x17, .int .i64 x18, .int .i64 x19, .int .i64 x20]] h16 fun v21 h22 =>
  v21 = .tuple #[] ∧
  R (.tuple #[]) h22
theorem vf28 (a0s : Option Addr) (a1n : Int) (h : Heap) (R : KV) (hF : F28 a0s a1n h R) : CallsH Try.prog 28 #[.pointer a0s, .int .i64 a1n] h R :=
  calls_of_form (A := an28) (fn := Try.f28) (c := c28) (args := [.pointer a0s, .int .i64 a1n]) Try.func28 (by kernel_rfl) mixed (by kernel_rfl) (by kernel_rfl : F28 a0s a1n h R = vcF Try.prog an28 Try.f28 c28 [.pointer a0s, .int .i64 a1n] h R) hF
/-! ### 29 (refrain/agg.stack[refrain/agg.entry]).pop -/
noncomputable def c29 : Code := match Try.f29.body with | some c => c | none => .skip
noncomputable def an29 : Ann := { loops := fun i => [], draws := fun i => match i with | 3 => #[0, 0, 2, 6, 14, 0, 32, 96, 224, 480, 992, 2046, 4095, 8191, 16383] | _ => #[], joins := fun i => match i with | 4 => some [] | _ => none }
def F29 (a0s : Option Addr) (h : Heap) (R : KV) : Prop :=
  VNew h (.cells #[.int .i64 0, .int .i64 0, .int .i64 0, .int .i64 0, .int .i64 0] 71) fun b1 h2 =>
  CallsH Try.prog 33 #[.pointer a0s] h2 fun v3 h4 =>
  ∃ x5 : Int, ∃ x6 : Int, ∃ x7 : Int, ∃ x8 : Int, ∃ x9 : Int, ∃ b10 : Bool, v3 = .tuple #[.agg #[.int .i64 x5, .int .i64 x6, .int .i64 x7, .int .i64 x8, .int .i64 x9], .bool b10] ∧
  VNew h4 (.cells #[.int .i64 0, .int .i64 0, .int .i64 0, .int .i64 0, .int .i64 0] 71) fun b11 h12 =>
  storeL ⟨b11, 0, none⟩ 0 [.int .i64 x5, .int .i64 x6, .int .i64 x7, .int .i64 x8, .int .i64 x9] h12 fun h13 =>
  ∃ J14 : Heap → Prop, (cond b10
    (VSome a0s fun a15 =>
      ∃ (a16 : Option Addr) (la16 ca16 : Nat), cellH h13 a15 = some (.slice a16 la16 ca16) ∧
      VSome a0s fun a17 =>
      ∃ (a18 : Option Addr) (la18 ca18 : Nat), cellH h13 a17 = some (.slice a18 la18 ca18) ∧
      VSlice 5 a16 ca16 0 (IntKind.i64.wrap ((la18 : Int) - 1)) (ca16 : Int) fun a19 la19 ca19 =>
      VSome a0s fun a20 =>
      VStore h13 a20 (.slice a19 la19 ca19) fun h21 =>
      J14 h21)
    (J14 h13)) ∧
  ∀ (h22 : Heap) (g23 : Env), J14 h22 →
  ∃ x24 : Int, cellH h22 ⟨b11, 0, none⟩ = some (.int .i64 x24) ∧
  ∃ x25 : Int, cellH h22 ⟨b11, 1, none⟩ = some (.int .i64 x25) ∧
  ∃ x26 : Int, cellH h22 ⟨b11, 2, none⟩ = some (.int .i64 x26) ∧
  ∃ x27 : Int, cellH h22 ⟨b11, 3, none⟩ = some (.int .i64 x27) ∧
  ∃ x28 : Int, cellH h22 ⟨b11, 4, none⟩ = some (.int .i64 x28) ∧
  storeL ⟨b1, 0, none⟩ 0 [.int .i64 x24, .int .i64 x25, .int .i64 x26, .int .i64 x27, .int .i64 x28] h22 fun h29 =>
  ∃ x30 : Int, cellH h29 ⟨b1, 0, none⟩ = some (.int .i64 x30) ∧
  ∃ x31 : Int, cellH h29 ⟨b1, 1, none⟩ = some (.int .i64 x31) ∧
  ∃ x32 : Int, cellH h29 ⟨b1, 2, none⟩ = some (.int .i64 x32) ∧
  ∃ x33 : Int, cellH h29 ⟨b1, 3, none⟩ = some (.int .i64 x33) ∧
  ∃ x34 : Int, cellH h29 ⟨b1, 4, none⟩ = some (.int .i64 x34) ∧
  R (.tuple #[.agg #[.int .i64 x30, .int .i64 x31, .int .i64 x32, .int .i64 x33, .int .i64 x34], .bool b10]) h29
theorem vf29 (a0s : Option Addr) (h : Heap) (R : KV) (hF : F29 a0s h R) : CallsH Try.prog 29 #[.pointer a0s] h R :=
  calls_of_form (A := an29) (fn := Try.f29) (c := c29) (args := [.pointer a0s]) Try.func29 (by kernel_rfl) mixed (by kernel_rfl) (by kernel_rfl : F29 a0s h R = vcF Try.prog an29 Try.f29 c29 [.pointer a0s] h R) hF
/-! ### 30 refrain/agg.known -/
noncomputable def c30 : Code := match Try.f30.body with | some c => c | none => .skip
noncomputable def an30 : Ann := { loops := fun i => [], draws := fun i => #[], joins := fun i => none }
def F30 (a0s : Option Addr) (h : Heap) (R : KV) : Prop :=
  VNew h (.cells #[.int .i64 0, .int .i64 0, .int .i64 0, .int .i64 0] 39) fun b1 h2 =>
  CallsH Try.prog 33 #[.pointer a0s] h2 fun v3 h4 =>
  ∃ x5 : Int, ∃ x6 : Int, ∃ x7 : Int, ∃ x8 : Int, ∃ x9 : Int, ∃ b10 : Bool, v3 = .tuple #[.agg #[.int .i64 x5, .int .i64 x6, .int .i64 x7, .int .i64 x8, .int .i64 x9], .bool b10] ∧
  VNew h4 (.cells #[.int .i64 0, .int .i64 0, .int .i64 0, .int .i64 0, .int .i64 0] 71) fun b11 h12 =>
  storeL ⟨b11, 0, none⟩ 0 [.int .i64 x5, .int .i64 x6, .int .i64 x7, .int .i64 x8, .int .i64 x9] h12 fun h13 =>
  ∃ x14 : Int, cellH h13 ⟨b11, 1, none⟩ = some (.int .i64 x14) ∧
  ∃ x15 : Int, cellH h13 ⟨b11, 2, none⟩ = some (.int .i64 x15) ∧
  ∃ x16 : Int, cellH h13 ⟨b11, 3, none⟩ = some (.int .i64 x16) ∧
  ∃ x17 : Int, cellH h13 ⟨b11, 4, none⟩ = some (.int .i64 x17) ∧
  storeL ⟨b1, 0, none⟩ 0 [.int .i64 x14, .int .i64 x15, .int .i64 x16, .int .i64 x17] h13 fun h18 =>
  ∃ x19 : Int, cellH h18 ⟨b1, 0, none⟩ = some (.int .i64 x19) ∧
  ∃ x20 : Int, cellH h18 ⟨b1, 1, none⟩ = some (.int .i64 x20) ∧
  ∃ x21 : Int, cellH h18 ⟨b1, 2, none⟩ = some (.int .i64 x21) ∧
  ∃ x22 : Int, cellH h18 ⟨b1, 3, none⟩ = some (.int .i64 x22) ∧
  R (.agg #[.int .i64 x19, .int .i64 x20, .int .i64 x21, .int .i64 x22]) h18
theorem vf30 (a0s : Option Addr) (h : Heap) (R : KV) (hF : F30 a0s h R) : CallsH Try.prog 30 #[.pointer a0s] h R :=
  calls_of_form (A := an30) (fn := Try.f30) (c := c30) (args := [.pointer a0s]) Try.func30 (by kernel_rfl) mixed (by kernel_rfl) (by kernel_rfl : F30 a0s h R = vcF Try.prog an30 Try.f30 c30 [.pointer a0s] h R) hF
/-! ### 31 refrain/refrainref14.taken -/
noncomputable def c31 : Code := match Try.f31.body with | some c => c | none => .skip
noncomputable def an31 : Ann := { loops := fun i => [], draws := fun i => #[], joins := fun i => none }
def F31 (a0a_0 : Int) (a0a_1 : Int) (a0a_2 : Int) (a0a_3 : Int) (h : Heap) (R : KV) : Prop :=
  VNew h (.cells #[.int .i64 a0a_0, .int .i64 a0a_1, .int .i64 a0a_2, .int .i64 a0a_3] 39) fun b1 h2 =>
  VNew h2 (.cells #[.int .i64 0, .int .i64 0, .int .i64 0, .int .i64 0] 39) fun b3 h4 =>
  ∃ x5 : Int, cellH h4 ⟨b1, 0, none⟩ = some (.int .i64 x5) ∧
  cond (decide (x5 < (1 : Int)))
  (storeL ⟨b3, 0, none⟩ 0 [.int .i64 0, .int .i64 0, .int .i64 0, .int .i64 0] h4 fun h6 =>
    ∃ x7 : Int, cellH h6 ⟨b3, 0, none⟩ = some (.int .i64 x7) ∧
    ∃ x8 : Int, cellH h6 ⟨b3, 1, none⟩ = some (.int .i64 x8) ∧
    ∃ x9 : Int, cellH h6 ⟨b3, 2, none⟩ = some (.int .i64 x9) ∧
    ∃ x10 : Int, cellH h6 ⟨b3, 3, none⟩ = some (.int .i64 x10) ∧
    R (.agg #[.int .i64 x7, .int .i64 x8, .int .i64 x9, .int .i64 x10]) h6)
  (∃ x11 : Int, cellH h4 ⟨b1, 0, none⟩ = some (.int .i64 x11) ∧
    ∃ x12 : Int, cellH h4 ⟨b1, 1, none⟩ = some (.int .i64 x12) ∧
    ∃ x13 : Int, cellH h4 ⟨b1, 2, none⟩ = some (.int .i64 x13) ∧
    ∃ x14 : Int, cellH h4 ⟨b1, 3, none⟩ = some (.int .i64 x14) ∧
    storeL ⟨b3, 0, none⟩ 0 [.int .i64 x11, .int .i64 x12, .int .i64 x13, .int .i64 x14] h4 fun h15 =>
    ∃ x16 : Int, cellH h15 ⟨b3, 0, none⟩ = some (.int .i64 x16) ∧
    ∃ x17 : Int, cellH h15 ⟨b3, 1, none⟩ = some (.int .i64 x17) ∧
    ∃ x18 : Int, cellH h15 ⟨b3, 2, none⟩ = some (.int .i64 x18) ∧
    ∃ x19 : Int, cellH h15 ⟨b3, 3, none⟩ = some (.int .i64 x19) ∧
    R (.agg #[.int .i64 x16, .int .i64 x17, .int .i64 x18, .int .i64 x19]) h15)
theorem vf31 (a0a_0 : Int) (a0a_1 : Int) (a0a_2 : Int) (a0a_3 : Int) (h : Heap) (R : KV) (hF : F31 a0a_0 a0a_1 a0a_2 a0a_3 h R) : CallsH Try.prog 31 #[.agg #[.int .i64 a0a_0, .int .i64 a0a_1, .int .i64 a0a_2, .int .i64 a0a_3]] h R :=
  calls_of_form (A := an31) (fn := Try.f31) (c := c31) (args := [.agg #[.int .i64 a0a_0, .int .i64 a0a_1, .int .i64 a0a_2, .int .i64 a0a_3]]) Try.func31 (by kernel_rfl) mixed (by kernel_rfl) (by kernel_rfl : F31 a0a_0 a0a_1 a0a_2 a0a_3 h R = vcF Try.prog an31 Try.f31 c31 [.agg #[.int .i64 a0a_0, .int .i64 a0a_1, .int .i64 a0a_2, .int .i64 a0a_3]] h R) hF
/-! ### 32 (refrain/agg.stack[refrain/agg.entry]).push -/
noncomputable def c32 : Code := match Try.f32.body with | some c => c | none => .skip
noncomputable def an32 : Ann := { loops := fun i => [], draws := fun i => match i with | 1 => #[0, 0, 2, 6, 14, 0, 32, 126, 255, 511, 1023] | _ => #[], joins := fun i => none }
def F32 (a0s : Option Addr) (a1x_0 : Int) (a1x_1 : Int) (a1x_2 : Int) (a1x_3 : Int) (a1x_4 : Int) (h : Heap) (R : KV) : Prop :=
  VNew h (.cells #[.int .i64 a1x_0, .int .i64 a1x_1, .int .i64 a1x_2, .int .i64 a1x_3, .int .i64 a1x_4] 71) fun b1 h2 =>
  VSome a0s fun a3 =>
  ∃ (a4 : Option Addr) (la4 ca4 : Nat), cellH h2 a3 = some (.slice a4 la4 ca4) ∧
  ∃ x5 : Int, cellH h2 ⟨b1, 0, none⟩ = some (.int .i64 x5) ∧
  ∃ x6 : Int, cellH h2 ⟨b1, 1, none⟩ = some (.int .i64 x6) ∧
  ∃ x7 : Int, cellH h2 ⟨b1, 2, none⟩ = some (.int .i64 x7) ∧
  ∃ x8 : Int, cellH h2 ⟨b1, 3, none⟩ = some (.int .i64 x8) ∧
  ∃ x9 : Int, cellH h2 ⟨b1, 4, none⟩ = some (.int .i64 x9) ∧
  VNew h2 (.cells #[.int .i64 x5, .int .i64 x6, .int .i64 x7, .int .i64 x8, .int .i64 x9] 71) fun b10 h11 =>
  (cellH h11 a3 = some (.slice a4 la4 ca4)) ∧
  RunsTo Try.prog (Builtin.append_ #[63, 63] 63 #[.slice a4 la4 ca4, .slice (some ⟨b10, 0, none⟩) 1 1]) h11 fun v12 h13 =>
  ∃ (a14 : Option Addr) (la14 ca14 : Nat), v12 = .slice a14 la14 ca14 ∧
  VSome a0s fun a15 =>
  VStore h13 a15 (.slice a14 la14 ca14) fun h16 =>
  R (.tuple #[]) h16
theorem vf32 (a0s : Option Addr) (a1x_0 : Int) (a1x_1 : Int) (a1x_2 : Int) (a1x_3 : Int) (a1x_4 : Int) (h : Heap) (R : KV) (hF : F32 a0s a1x_0 a1x_1 a1x_2 a1x_3 a1x_4 h R) : CallsH Try.prog 32 #[.pointer a0s, .agg #[.int .i64 a1x_0, .int .i64 a1x_1, .int .i64 a1x_2, .int .i64 a1x_3, .int .i64 a1x_4]] h R :=
  calls_of_form (A := an32) (fn := Try.f32) (c := c32) (args := [.pointer a0s, .agg #[.int .i64 a1x_0, .int .i64 a1x_1, .int .i64 a1x_2, .int .i64 a1x_3, .int .i64 a1x_4]]) Try.func32 (by kernel_rfl) mixed (by kernel_rfl) (by kernel_rfl : F32 a0s a1x_0 a1x_1 a1x_2 a1x_3 a1x_4 h R = vcF Try.prog an32 Try.f32 c32 [.pointer a0s, .agg #[.int .i64 a1x_0, .int .i64 a1x_1, .int .i64 a1x_2, .int .i64 a1x_3, .int .i64 a1x_4]] h R) hF
/-! ### 33 (refrain/agg.stack[refrain/agg.entry]).top -/
noncomputable def c33 : Code := match Try.f33.body with | some c => c | none => .skip
noncomputable def an33 : Ann := { loops := fun i => [], draws := fun i => match i with | 4 => #[0, 1, 3, 7, 0, 16, 48, 112, 240, 496, 1023, 2047, 4095, 8191] | _ => #[], joins := fun i => none }
def F33 (a0s : Option Addr) (h : Heap) (R : KV) : Prop :=
  VNew h (.cells #[.int .i64 0, .int .i64 0, .int .i64 0, .int .i64 0, .int .i64 0] 71) fun b1 h2 =>
  VSome a0s fun a3 =>
  ∃ (a4 : Option Addr) (la4 ca4 : Nat), cellH h2 a3 = some (.slice a4 la4 ca4) ∧
  cond ((la4 : Int) == (0 : Int))
  (VNew h2 (.cells #[.int .i64 0, .int .i64 0, .int .i64 0, .int .i64 0, .int .i64 0] 71) fun b5 h6 =>
    ∃ x7 : Int, cellH h6 ⟨b5, 0, none⟩ = some (.int .i64 x7) ∧
    ∃ x8 : Int, cellH h6 ⟨b5, 1, none⟩ = some (.int .i64 x8) ∧
    ∃ x9 : Int, cellH h6 ⟨b5, 2, none⟩ = some (.int .i64 x9) ∧
    ∃ x10 : Int, cellH h6 ⟨b5, 3, none⟩ = some (.int .i64 x10) ∧
    ∃ x11 : Int, cellH h6 ⟨b5, 4, none⟩ = some (.int .i64 x11) ∧
    storeL ⟨b1, 0, none⟩ 0 [.int .i64 x7, .int .i64 x8, .int .i64 x9, .int .i64 x10, .int .i64 x11] h6 fun h12 =>
    ∃ x13 : Int, cellH h12 ⟨b1, 0, none⟩ = some (.int .i64 x13) ∧
    ∃ x14 : Int, cellH h12 ⟨b1, 1, none⟩ = some (.int .i64 x14) ∧
    ∃ x15 : Int, cellH h12 ⟨b1, 2, none⟩ = some (.int .i64 x15) ∧
    ∃ x16 : Int, cellH h12 ⟨b1, 3, none⟩ = some (.int .i64 x16) ∧
    ∃ x17 : Int, cellH h12 ⟨b1, 4, none⟩ = some (.int .i64 x17) ∧
    R (.tuple #[.agg #[.int .i64 x13, .int .i64 x14, .int .i64 x15, .int .i64 x16, .int .i64 x17], .bool false]) h12)
  (VSome a0s fun a18 =>
    ∃ (a19 : Option Addr) (la19 ca19 : Nat), cellH h2 a18 = some (.slice a19 la19 ca19) ∧
    VSome a0s fun a20 =>
    ∃ (a21 : Option Addr) (la21 ca21 : Nat), cellH h2 a20 = some (.slice a21 la21 ca21) ∧
    VIdx a19 la19 (IntKind.i64.wrap ((la21 : Int) - 1)) 5 fun a22 =>
    ∃ x23 : Int, cellH h2 a22 = some (.int .i64 x23) ∧
    ∃ x24 : Int, cellH h2 ⟨a22.block, a22.off + 1, none⟩ = some (.int .i64 x24) ∧
    ∃ x25 : Int, cellH h2 ⟨a22.block, a22.off + 2, none⟩ = some (.int .i64 x25) ∧
    ∃ x26 : Int, cellH h2 ⟨a22.block, a22.off + 3, none⟩ = some (.int .i64 x26) ∧
    ∃ x27 : Int, cellH h2 ⟨a22.block, a22.off + 4, none⟩ = some (.int .i64 x27) ∧
    storeL ⟨b1, 0, none⟩ 0 [.int .i64 x23, .int .i64 x24, .int .i64 x25, .int .i64 x26, .int .i64 x27] h2 fun h28 =>
    ∃ x29 : Int, cellH h28 ⟨b1, 0, none⟩ = some (.int .i64 x29) ∧
    ∃ x30 : Int, cellH h28 ⟨b1, 1, none⟩ = some (.int .i64 x30) ∧
    ∃ x31 : Int, cellH h28 ⟨b1, 2, none⟩ = some (.int .i64 x31) ∧
    ∃ x32 : Int, cellH h28 ⟨b1, 3, none⟩ = some (.int .i64 x32) ∧
    ∃ x33 : Int, cellH h28 ⟨b1, 4, none⟩ = some (.int .i64 x33) ∧
    R (.tuple #[.agg #[.int .i64 x29, .int .i64 x30, .int .i64 x31, .int .i64 x32, .int .i64 x33], .bool true]) h28)
theorem vf33 (a0s : Option Addr) (h : Heap) (R : KV) (hF : F33 a0s h R) : CallsH Try.prog 33 #[.pointer a0s] h R :=
  calls_of_form (A := an33) (fn := Try.f33) (c := c33) (args := [.pointer a0s]) Try.func33 (by kernel_rfl) mixed (by kernel_rfl) (by kernel_rfl : F33 a0s h R = vcF Try.prog an33 Try.f33 c33 [.pointer a0s] h R) hF
end Go.Proofs.Ytcncagllbkohfaa.F
