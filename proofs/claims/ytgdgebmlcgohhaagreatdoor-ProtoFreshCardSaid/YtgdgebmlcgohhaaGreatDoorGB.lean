/- Printed by gen.py: the conditions of the translated functions, each a plain formula over heaps; the kernel checks that it is the one that the translation gives. Conditions: none. -/
import Derived.Test.YtgdgebmlcgohhaaGreatDoorV8
import Derived.Test.YtgdgebmlcgohhaaGreatDoorProg
namespace Go.Proofs.YtgdgebmlcgohhaaGreatDoor.F
open Go Go.VC Go.Proofs
set_option linter.unusedVariables false
set_option maxRecDepth 100000

theorem mixed : Tryz.prog.follows .mixedOrders = true := by kernel_rfl
/-! ### 28 refrain/refrainlaw30.twinOf -/
noncomputable def c28 : Code := match Tryz.f28.body with | some c => c | none => .skip
noncomputable def an28 : Ann := { loops := fun i => match i with | 4 => [(4, .int .i64)] | 8 => [(5, .slc), (6, .int .i64)] | 16 => [(8, .int .i64)] | _ => [], draws := fun i => #[], joins := fun i => none }
def F28 (a0r_0 : Int) (a0r_1 : Int) (a0r_2 : ByteArray) (a0r_3 : ByteArray) (a0r_4 : Option Addr) (la0r_4 ca0r_4 : Nat) (a0r_5 : Option Addr) (la0r_5 ca0r_5 : Nat) (h : Heap) (R : KV) : Prop :=
  VNew h (.cells #[.int .u32 a0r_0, .int .i64 a0r_1, .string a0r_2, .string a0r_3, .slice a0r_4 la0r_4 ca0r_4, .slice a0r_5 la0r_5 ca0r_5] 57) fun b1 h2 =>
  VNew h2 (.cells #[.int .u32 0, .int .i64 0, .string (ByteArray.mk #[]), .string (ByteArray.mk #[]), .slice none 0 0, .slice none 0 0, .slice none 0 0, .slice none 0 0, .slice none 0 0] 77) fun b3 h4 =>
  ∃ x5 : Int, cellH h4 ⟨b1, 0, none⟩ = some (.int .u32 x5) ∧
  ∃ x6 : Int, cellH h4 ⟨b1, 1, none⟩ = some (.int .i64 x6) ∧
  ∃ s7 : ByteArray, cellH h4 ⟨b1, 2, none⟩ = some (.string s7) ∧
  ∃ s8 : ByteArray, cellH h4 ⟨b1, 3, none⟩ = some (.string s8) ∧
  ∃ (a9 : Option Addr) (la9 ca9 : Nat), cellH h4 ⟨b1, 4, none⟩ = some (.slice a9 la9 ca9) ∧
  ∃ (a10 : Option Addr) (la10 ca10 : Nat), cellH h4 ⟨b1, 5, none⟩ = some (.slice a10 la10 ca10) ∧
  VNew h4 (.cells #[.int .u32 0, .int .i64 0, .string (ByteArray.mk #[]), .string (ByteArray.mk #[]), .slice none 0 0, .slice none 0 0, .slice none 0 0, .slice none 0 0, .slice none 0 0] 77) fun b11 h12 =>
  storeL ⟨b11, 0, none⟩ 0 [.int .u32 x5, .int .i64 x6, .string s7, .string s8, .slice a9 la9 ca9, .slice a10 la10 ca10, .slice none 0 0, .slice none 0 0, .slice none 0 0] h12 fun h13 =>
  ∃ (a14 : Option Addr) (la14 ca14 : Nat), cellH h13 ⟨b1, 4, none⟩ = some (.slice a14 la14 ca14) ∧
  RunsTo Tryz.prog (Builtin.append_ #[54, 54] 54 #[.slice none 0 0, .slice a14 la14 ca14]) h13 fun v15 h16 =>
  ∃ (a17 : Option Addr) (la17 ca17 : Nat), v15 = .slice a17 la17 ca17 ∧
  VStore h16 ⟨b11, 6, none⟩ (.slice a17 la17 ca17) fun h18 =>
  ∃ I19 : Nat → Heap → Int → Prop, (∃ n20, I19 n20 h18 0) ∧
  ∀ (n20 : Nat) (h21 : Heap) (g22 : Env) (i_23 : Int), I19 n20 h21 i_23 →
  ∃ (a25 : Option Addr) (la25 ca25 : Nat), cellH h21 ⟨b1, 5, none⟩ = some (.slice a25 la25 ca25) ∧
  cond (decide (i_23 < (la25 : Int)))
  (∃ (a26 : Option Addr) (la26 ca26 : Nat), cellH h21 ⟨b1, 5, none⟩ = some (.slice a26 la26 ca26) ∧
    VIdx a26 la26 i_23 3 fun a27 =>
    ∃ (a28 : Option Addr) (la28 ca28 : Nat), cellH h21 ⟨a27.block, a27.off + 2, none⟩ = some (.slice a28 la28 ca28) ∧
    RunsTo Tryz.prog (Builtin.append_ #[112, 112] 112 #[.slice none 0 0, .slice a28 la28 ca28]) h21 fun v29 h30 =>
    ∃ (a31 : Option Addr) (la31 ca31 : Nat), v29 = .slice a31 la31 ca31 ∧
    ∃ I32 : Nat → Heap → Option Addr → Nat → Nat → Int → Prop, (∃ n33, I32 n33 h30 a31 la31 ca31 0) ∧
    ∀ (n33 : Nat) (h34 : Heap) (g35 : Env) (v_36 : Option Addr) (lv_36 cv_36 : Nat) (k_37 : Int), I32 n33 h34 v_36 lv_36 cv_36 k_37 →
    cond (decide (k_37 < (12 : Int)))
    (VNew h34 (.cells #[.int .i64 77, .int .i64 0, .string (ByteArray.mk #[]), .bool false] 127) fun b39 h40 =>
      RunsTo Tryz.prog (Builtin.append_ #[112, 112] 112 #[.slice v_36 lv_36 cv_36, .slice (some ⟨b39, 0, none⟩) 1 1]) h40 fun v41 h42 =>
      ∃ (a43 : Option Addr) (la43 ca43 : Nat), v41 = .slice a43 la43 ca43 ∧
      ∃ m38, m38 < n33 ∧ I32 m38 h42 a43 la43 ca43 (IntKind.i64.wrap (k_37 + 1)))
    (∃ (a44 : Option Addr) (la44 ca44 : Nat), cellH h34 ⟨b1, 5, none⟩ = some (.slice a44 la44 ca44) ∧
      VIdx a44 la44 i_23 3 fun a45 =>
      ∃ s46 : ByteArray, cellH h34 a45 = some (.string s46) ∧
      ∃ x47 : Int, cellH h34 ⟨a45.block, a45.off + 1, none⟩ = some (.int .i64 x47) ∧
      ∃ (a48 : Option Addr) (la48 ca48 : Nat), cellH h34 ⟨a45.block, a45.off + 2, none⟩ = some (.slice a48 la48 ca48) ∧
      VNew h34 (.cells #[.string (ByteArray.mk #[]), .int .i64 0, .slice none 0 0] 125) fun b49 h50 =>
      storeL ⟨b49, 0, none⟩ 0 [.string s46, .int .i64 x47, .slice a48 la48 ca48] h50 fun h51 =>
      ∃ (a52 : Option Addr) (la52 ca52 : Nat), cellH h51 ⟨b1, 5, none⟩ = some (.slice a52 la52 ca52) ∧
      VIdx a52 la52 i_23 3 fun a53 =>
      ∃ (a54 : Option Addr) (la54 ca54 : Nat), cellH h51 ⟨a53.block, a53.off + 2, none⟩ = some (.slice a54 la54 ca54) ∧
      VSlice 4 v_36 cv_36 0 (la54 : Int) (lv_36 : Int) fun a55 la55 ca55 =>
      VStore h51 ⟨b49, 2, none⟩ (.slice a55 la55 ca55) fun h56 =>
      ∃ (a57 : Option Addr) (la57 ca57 : Nat), cellH h56 ⟨b11, 8, none⟩ = some (.slice a57 la57 ca57) ∧
      VNew h56 (.cells #[.slice v_36 lv_36 cv_36] 112) fun b58 h59 =>
      RunsTo Tryz.prog (Builtin.append_ #[45, 45] 45 #[.slice a57 la57 ca57, .slice (some ⟨b58, 0, none⟩) 1 1]) h59 fun v60 h61 =>
      ∃ (a62 : Option Addr) (la62 ca62 : Nat), v60 = .slice a62 la62 ca62 ∧
      VStore h61 ⟨b11, 8, none⟩ (.slice a62 la62 ca62) fun h63 =>
      ∃ (a64 : Option Addr) (la64 ca64 : Nat), cellH h63 ⟨b11, 7, none⟩ = some (.slice a64 la64 ca64) ∧
      ∃ s65 : ByteArray, cellH h63 ⟨b49, 0, none⟩ = some (.string s65) ∧
      ∃ x66 : Int, cellH h63 ⟨b49, 1, none⟩ = some (.int .i64 x66) ∧
      ∃ (a67 : Option Addr) (la67 ca67 : Nat), cellH h63 ⟨b49, 2, none⟩ = some (.slice a67 la67 ca67) ∧
      VNew h63 (.cells #[.string s65, .int .i64 x66, .slice a67 la67 ca67] 125) fun b68 h69 =>
      RunsTo Tryz.prog (Builtin.append_ #[55, 55] 55 #[.slice a64 la64 ca64, .slice (some ⟨b68, 0, none⟩) 1 1]) h69 fun v70 h71 =>
      ∃ (a72 : Option Addr) (la72 ca72 : Nat), v70 = .slice a72 la72 ca72 ∧
      VStore h71 ⟨b11, 7, none⟩ (.slice a72 la72 ca72) fun h73 =>
      ∃ m24, m24 < n20 ∧ I19 m24 h73 (IntKind.i64.wrap (i_23 + 1))))
  (∃ I74 : Nat → Heap → Int → Prop, (∃ n75, I74 n75 h21 0) ∧
    ∀ (n75 : Nat) (h76 : Heap) (g77 : Env) (k_78 : Int), I74 n75 h76 k_78 →
    cond (decide (k_78 < (12 : Int)))
    (∃ (a80 : Option Addr) (la80 ca80 : Nat), cellH h76 ⟨b11, 6, none⟩ = some (.slice a80 la80 ca80) ∧
      VNew h76 (.cells #[.string (ByteArray.mk #[109, 97, 114, 107])] 9) fun b81 h82 =>
      RunsTo Tryz.prog (Builtin.append_ #[54, 54] 54 #[.slice a80 la80 ca80, .slice (some ⟨b81, 0, none⟩) 1 1]) h82 fun v83 h84 =>
      ∃ (a85 : Option Addr) (la85 ca85 : Nat), v83 = .slice a85 la85 ca85 ∧
      VStore h84 ⟨b11, 6, none⟩ (.slice a85 la85 ca85) fun h86 =>
      ∃ (a87 : Option Addr) (la87 ca87 : Nat), cellH h86 ⟨b11, 7, none⟩ = some (.slice a87 la87 ca87) ∧
      VNew h86 (.cells #[.string (ByteArray.mk #[109, 97, 114, 107]), .int .i64 0, .slice none 0 0] 125) fun b88 h89 =>
      RunsTo Tryz.prog (Builtin.append_ #[55, 55] 55 #[.slice a87 la87 ca87, .slice (some ⟨b88, 0, none⟩) 1 1]) h89 fun v90 h91 =>
      ∃ (a92 : Option Addr) (la92 ca92 : Nat), v90 = .slice a92 la92 ca92 ∧
      VStore h91 ⟨b11, 7, none⟩ (.slice a92 la92 ca92) fun h93 =>
      ∃ m79, m79 < n75 ∧ I74 m79 h93 (IntKind.i64.wrap (k_78 + 1)))
    (∃ (a94 : Option Addr) (la94 ca94 : Nat), cellH h76 ⟨b11, 6, none⟩ = some (.slice a94 la94 ca94) ∧
      ∃ (a95 : Option Addr) (la95 ca95 : Nat), cellH h76 ⟨b1, 4, none⟩ = some (.slice a95 la95 ca95) ∧
      ∃ (a96 : Option Addr) (la96 ca96 : Nat), cellH h76 ⟨b11, 6, none⟩ = some (.slice a96 la96 ca96) ∧
      VSlice 1 a94 ca94 0 (la95 : Int) (la96 : Int) fun a97 la97 ca97 =>
      VStore h76 ⟨b11, 4, none⟩ (.slice a97 la97 ca97) fun h98 =>
      ∃ (a99 : Option Addr) (la99 ca99 : Nat), cellH h98 ⟨b11, 7, none⟩ = some (.slice a99 la99 ca99) ∧
      ∃ (a100 : Option Addr) (la100 ca100 : Nat), cellH h98 ⟨b1, 5, none⟩ = some (.slice a100 la100 ca100) ∧
      ∃ (a101 : Option Addr) (la101 ca101 : Nat), cellH h98 ⟨b11, 7, none⟩ = some (.slice a101 la101 ca101) ∧
      VSlice 3 a99 ca99 0 (la100 : Int) (la101 : Int) fun a102 la102 ca102 =>
      VStore h98 ⟨b11, 5, none⟩ (.slice a102 la102 ca102) fun h103 =>
      ∃ x104 : Int, cellH h103 ⟨b11, 0, none⟩ = some (.int .u32 x104) ∧
      ∃ x105 : Int, cellH h103 ⟨b11, 1, none⟩ = some (.int .i64 x105) ∧
      ∃ s106 : ByteArray, cellH h103 ⟨b11, 2, none⟩ = some (.string s106) ∧
      ∃ s107 : ByteArray, cellH h103 ⟨b11, 3, none⟩ = some (.string s107) ∧
      ∃ (a108 : Option Addr) (la108 ca108 : Nat), cellH h103 ⟨b11, 4, none⟩ = some (.slice a108 la108 ca108) ∧
      ∃ (a109 : Option Addr) (la109 ca109 : Nat), cellH h103 ⟨b11, 5, none⟩ = some (.slice a109 la109 ca109) ∧
      ∃ (a110 : Option Addr) (la110 ca110 : Nat), cellH h103 ⟨b11, 6, none⟩ = some (.slice a110 la110 ca110) ∧
      ∃ (a111 : Option Addr) (la111 ca111 : Nat), cellH h103 ⟨b11, 7, none⟩ = some (.slice a111 la111 ca111) ∧
      ∃ (a112 : Option Addr) (la112 ca112 : Nat), cellH h103 ⟨b11, 8, none⟩ = some (.slice a112 la112 ca112) ∧
      storeL ⟨b3, 0, none⟩ 0 [.int .u32 x104, .int .i64 x105, .string s106, .string s107, .slice a108 la108 ca108, .slice a109 la109 ca109, .slice a110 la110 ca110, .slice a111 la111 ca111, .slice a112 la112 ca112] h103 fun h113 =>
      ∃ x114 : Int, cellH h113 ⟨b3, 0, none⟩ = some (.int .u32 x114) ∧
      ∃ x115 : Int, cellH h113 ⟨b3, 1, none⟩ = some (.int .i64 x115) ∧
      ∃ s116 : ByteArray, cellH h113 ⟨b3, 2, none⟩ = some (.string s116) ∧
      ∃ s117 : ByteArray, cellH h113 ⟨b3, 3, none⟩ = some (.string s117) ∧
      ∃ (a118 : Option Addr) (la118 ca118 : Nat), cellH h113 ⟨b3, 4, none⟩ = some (.slice a118 la118 ca118) ∧
      ∃ (a119 : Option Addr) (la119 ca119 : Nat), cellH h113 ⟨b3, 5, none⟩ = some (.slice a119 la119 ca119) ∧
      ∃ (a120 : Option Addr) (la120 ca120 : Nat), cellH h113 ⟨b3, 6, none⟩ = some (.slice a120 la120 ca120) ∧
      ∃ (a121 : Option Addr) (la121 ca121 : Nat), cellH h113 ⟨b3, 7, none⟩ = some (.slice a121 la121 ca121) ∧
      ∃ (a122 : Option Addr) (la122 ca122 : Nat), cellH h113 ⟨b3, 8, none⟩ = some (.slice a122 la122 ca122) ∧
      R (.agg #[.int .u32 x114, .int .i64 x115, .string s116, .string s117, .slice a118 la118 ca118, .slice a119 la119 ca119, .slice a120 la120 ca120, .slice a121 la121 ca121, .slice a122 la122 ca122]) h113))
theorem vf28 (a0r_0 : Int) (a0r_1 : Int) (a0r_2 : ByteArray) (a0r_3 : ByteArray) (a0r_4 : Option Addr) (la0r_4 ca0r_4 : Nat) (a0r_5 : Option Addr) (la0r_5 ca0r_5 : Nat) (h : Heap) (R : KV) (hF : F28 a0r_0 a0r_1 a0r_2 a0r_3 a0r_4 la0r_4 ca0r_4 a0r_5 la0r_5 ca0r_5 h R) : CallsH Tryz.prog 28 #[.agg #[.int .u32 a0r_0, .int .i64 a0r_1, .string a0r_2, .string a0r_3, .slice a0r_4 la0r_4 ca0r_4, .slice a0r_5 la0r_5 ca0r_5]] h R :=
  calls_of_form (A := an28) (fn := Tryz.f28) (c := c28) (args := [.agg #[.int .u32 a0r_0, .int .i64 a0r_1, .string a0r_2, .string a0r_3, .slice a0r_4 la0r_4 ca0r_4, .slice a0r_5 la0r_5 ca0r_5]]) Tryz.func28 (by kernel_rfl) mixed (by kernel_rfl) (by kernel_rfl : F28 a0r_0 a0r_1 a0r_2 a0r_3 a0r_4 la0r_4 ca0r_4 a0r_5 la0r_5 ca0r_5 h R = vcF Tryz.prog an28 Tryz.f28 c28 [.agg #[.int .u32 a0r_0, .int .i64 a0r_1, .string a0r_2, .string a0r_3, .slice a0r_4 la0r_4 ca0r_4, .slice a0r_5 la0r_5 ca0r_5]] h R) hF
/-! ### 33 refrain/refrainlaw30.taleOf -/
noncomputable def c33 : Code := match Tryz.f33.body with | some c => c | none => .skip
noncomputable def an33 : Ann := { loops := fun i => match i with | 5 => [(4, .int .i64)] | 10 => [(6, .int .i64)] | 15 => [(8, .int .i64)] | _ => [], draws := fun i => match i with | 8 => #[0, 0, 2, 6, 14, 0, 32, 0, 224, 480, 992, 0, 4064, 8160, 16382, 32767, 65535, 131071] | 21 => #[0, 0, 2, 6, 14, 0, 32, 96, 0, 256, 768, 1792, 3840, 8190, 16383, 32767, 65535, 131071] | 22 => #[0, 0, 2, 6, 14, 0, 32, 96, 0, 256, 768, 1792, 3840, 8190, 16383, 32767, 65535, 131071] | 23 => #[0, 0, 2, 6, 14, 0, 32, 96, 0, 256, 768, 1792, 3840, 8190, 16383, 32767, 65535, 131071] | 24 => #[0, 0, 2, 6, 14, 0, 32, 96, 0, 256, 768, 1792, 3840, 8190, 16383, 32767, 65535, 131071] | _ => #[], joins := fun i => none }
def F33 (a0r_0 : Int) (a0r_1 : Bool) (a0r_2 : Int) (a0r_3 : Int) (a0r_4 : Option Addr) (la0r_4 ca0r_4 : Nat) (a0r_5 : Option Addr) (la0r_5 ca0r_5 : Nat) (a0r_6 : Option Addr) (la0r_6 ca0r_6 : Nat) (a0r_7 : Option Addr) (la0r_7 ca0r_7 : Nat) (a0r_8 : Int) (a0r_9 : Int) (a0r_10 : Int) (a0r_11 : Bool) (h : Heap) (R : KV) : Prop :=
  VNew h (.cells #[.int .u32 a0r_0, .bool a0r_1, .int .i64 a0r_2, .int .i64 a0r_3, .slice a0r_4 la0r_4 ca0r_4, .slice a0r_5 la0r_5 ca0r_5, .slice a0r_6 la0r_6 ca0r_6, .slice a0r_7 la0r_7 ca0r_7, .int .i64 a0r_8, .int .i64 a0r_9, .int .i64 a0r_10, .bool a0r_11] 65) fun b1 h2 =>
  ∃ x3 : Int, cellH h2 ⟨b1, 0, none⟩ = some (.int .u32 x3) ∧
  ∃ b4 : Bool, cellH h2 ⟨b1, 1, none⟩ = some (.bool b4) ∧
  ∃ x5 : Int, cellH h2 ⟨b1, 2, none⟩ = some (.int .i64 x5) ∧
  ∃ x6 : Int, cellH h2 ⟨b1, 3, none⟩ = some (.int .i64 x6) ∧
  ∃ (a7 : Option Addr) (la7 ca7 : Nat), cellH h2 ⟨b1, 4, none⟩ = some (.slice a7 la7 ca7) ∧
  ∃ (a8 : Option Addr) (la8 ca8 : Nat), cellH h2 ⟨b1, 5, none⟩ = some (.slice a8 la8 ca8) ∧
  ∃ (a9 : Option Addr) (la9 ca9 : Nat), cellH h2 ⟨b1, 6, none⟩ = some (.slice a9 la9 ca9) ∧
  ∃ (a10 : Option Addr) (la10 ca10 : Nat), cellH h2 ⟨b1, 7, none⟩ = some (.slice a10 la10 ca10) ∧
  ∃ x11 : Int, cellH h2 ⟨b1, 8, none⟩ = some (.int .i64 x11) ∧
  ∃ x12 : Int, cellH h2 ⟨b1, 9, none⟩ = some (.int .i64 x12) ∧
  ∃ x13 : Int, cellH h2 ⟨b1, 10, none⟩ = some (.int .i64 x13) ∧
  ∃ b14 : Bool, cellH h2 ⟨b1, 11, none⟩ = some (.bool b14) ∧
  VNew h2 (.cells #[.int .u32 x3, .bool b4, .int .i64 x5, .int .i64 x6, .slice a7 la7 ca7, .slice a8 la8 ca8, .slice a9 la9 ca9, .slice a10 la10 ca10, .int .i64 x11, .int .i64 x12, .int .i64 x13, .bool b14, .slice none 0 0, .slice none 0 0, .slice none 0 0, .slice none 0 0, .slice none 0 0] 83) fun b15 h16 =>
  ∃ (a17 : Option Addr) (la17 ca17 : Nat), cellH h16 ⟨b1, 4, none⟩ = some (.slice a17 la17 ca17) ∧
  RunsTo Tryz.prog (Builtin.append_ #[60, 60] 60 #[.slice none 0 0, .slice a17 la17 ca17]) h16 fun v18 h19 =>
  ∃ (a20 : Option Addr) (la20 ca20 : Nat), v18 = .slice a20 la20 ca20 ∧
  VStore h19 ⟨b15, 12, none⟩ (.slice a20 la20 ca20) fun h21 =>
  ∃ (a22 : Option Addr) (la22 ca22 : Nat), cellH h21 ⟨b1, 6, none⟩ = some (.slice a22 la22 ca22) ∧
  RunsTo Tryz.prog (Builtin.append_ #[54, 54] 54 #[.slice none 0 0, .slice a22 la22 ca22]) h21 fun v23 h24 =>
  ∃ (a25 : Option Addr) (la25 ca25 : Nat), v23 = .slice a25 la25 ca25 ∧
  VStore h24 ⟨b15, 13, none⟩ (.slice a25 la25 ca25) fun h26 =>
  ∃ I27 : Nat → Heap → Int → Prop, (∃ n28, I27 n28 h26 0) ∧
  ∀ (n28 : Nat) (h29 : Heap) (g30 : Env) (i_31 : Int), I27 n28 h29 i_31 →
  ∃ (a33 : Option Addr) (la33 ca33 : Nat), cellH h29 ⟨b1, 5, none⟩ = some (.slice a33 la33 ca33) ∧
  cond (decide (i_31 < (la33 : Int)))
  (∃ (a34 : Option Addr) (la34 ca34 : Nat), cellH h29 ⟨b1, 5, none⟩ = some (.slice a34 la34 ca34) ∧
    VIdx a34 la34 i_31 2 fun a35 =>
    ∃ (a36 : Option Addr) (la36 ca36 : Nat), cellH h29 ⟨a35.block, a35.off + 1, none⟩ = some (.slice a36 la36 ca36) ∧
    CallsH Tryz.prog 89 #[.pointer (some ⟨b15, 0, none⟩), .slice a36 la36 ca36] h29 fun v37 h38 =>
    ∃ (a39 : Option Addr) (la39 ca39 : Nat), v37 = .slice a39 la39 ca39 ∧
    ∃ (a40 : Option Addr) (la40 ca40 : Nat), cellH h38 ⟨b15, 14, none⟩ = some (.slice a40 la40 ca40) ∧
    ∃ (a41 : Option Addr) (la41 ca41 : Nat), cellH h38 ⟨b1, 5, none⟩ = some (.slice a41 la41 ca41) ∧
    VIdx a41 la41 i_31 2 fun a42 =>
    ∃ s43 : ByteArray, cellH h38 a42 = some (.string s43) ∧
    VNew h38 (.cells #[.string s43, .slice a39 la39 ca39] 114) fun b44 h45 =>
    (cellH h45 ⟨b15, 14, none⟩ = some (.slice a40 la40 ca40)) ∧
    RunsTo Tryz.prog (Builtin.append_ #[61, 61] 61 #[.slice a40 la40 ca40, .slice (some ⟨b44, 0, none⟩) 1 1]) h45 fun v46 h47 =>
    ∃ (a48 : Option Addr) (la48 ca48 : Nat), v46 = .slice a48 la48 ca48 ∧
    VStore h47 ⟨b15, 14, none⟩ (.slice a48 la48 ca48) fun h49 =>
    ∃ m32, m32 < n28 ∧ I27 m32 h49 (IntKind.i64.wrap (i_31 + 1)))
  (∃ I50 : Nat → Heap → Int → Prop, (∃ n51, I50 n51 h29 0) ∧
    ∀ (n51 : Nat) (h52 : Heap) (g53 : Env) (i_54 : Int), I50 n51 h52 i_54 →
    ∃ (a56 : Option Addr) (la56 ca56 : Nat), cellH h52 ⟨b1, 7, none⟩ = some (.slice a56 la56 ca56) ∧
    cond (decide (i_54 < (la56 : Int)))
    (∃ (a57 : Option Addr) (la57 ca57 : Nat), cellH h52 ⟨b1, 7, none⟩ = some (.slice a57 la57 ca57) ∧
      VIdx a57 la57 i_54 1 fun a58 =>
      ∃ (a59 : Option Addr) (la59 ca59 : Nat), cellH h52 a58 = some (.slice a59 la59 ca59) ∧
      CallsH Tryz.prog 89 #[.pointer (some ⟨b15, 0, none⟩), .slice a59 la59 ca59] h52 fun v60 h61 =>
      ∃ (a62 : Option Addr) (la62 ca62 : Nat), v60 = .slice a62 la62 ca62 ∧
      ∃ (a63 : Option Addr) (la63 ca63 : Nat), cellH h61 ⟨b15, 15, none⟩ = some (.slice a63 la63 ca63) ∧
      VNew h61 (.cells #[.slice a62 la62 ca62] 112) fun b64 h65 =>
      RunsTo Tryz.prog (Builtin.append_ #[45, 45] 45 #[.slice a63 la63 ca63, .slice (some ⟨b64, 0, none⟩) 1 1]) h65 fun v66 h67 =>
      ∃ (a68 : Option Addr) (la68 ca68 : Nat), v66 = .slice a68 la68 ca68 ∧
      VStore h67 ⟨b15, 15, none⟩ (.slice a68 la68 ca68) fun h69 =>
      ∃ m55, m55 < n51 ∧ I50 m55 h69 (IntKind.i64.wrap (i_54 + 1)))
    (∃ I70 : Nat → Heap → Int → Prop, (∃ n71, I70 n71 h52 0) ∧
      ∀ (n71 : Nat) (h72 : Heap) (g73 : Env) (k_74 : Int), I70 n71 h72 k_74 →
      cond (decide (k_74 < (12 : Int)))
      (∃ (a76 : Option Addr) (la76 ca76 : Nat), cellH h72 ⟨b15, 12, none⟩ = some (.slice a76 la76 ca76) ∧
        VNew h72 (.cells #[.int .i64 777] 38) fun b77 h78 =>
        RunsTo Tryz.prog (Builtin.append_ #[60, 60] 60 #[.slice a76 la76 ca76, .slice (some ⟨b77, 0, none⟩) 1 1]) h78 fun v79 h80 =>
        ∃ (a81 : Option Addr) (la81 ca81 : Nat), v79 = .slice a81 la81 ca81 ∧
        VStore h80 ⟨b15, 12, none⟩ (.slice a81 la81 ca81) fun h82 =>
        ∃ (a83 : Option Addr) (la83 ca83 : Nat), cellH h82 ⟨b15, 13, none⟩ = some (.slice a83 la83 ca83) ∧
        VNew h82 (.cells #[.string (ByteArray.mk #[109, 97, 114, 107])] 9) fun b84 h85 =>
        RunsTo Tryz.prog (Builtin.append_ #[54, 54] 54 #[.slice a83 la83 ca83, .slice (some ⟨b84, 0, none⟩) 1 1]) h85 fun v86 h87 =>
        ∃ (a88 : Option Addr) (la88 ca88 : Nat), v86 = .slice a88 la88 ca88 ∧
        VStore h87 ⟨b15, 13, none⟩ (.slice a88 la88 ca88) fun h89 =>
        ∃ (a90 : Option Addr) (la90 ca90 : Nat), cellH h89 ⟨b15, 14, none⟩ = some (.slice a90 la90 ca90) ∧
        VNew h89 (.cells #[.string (ByteArray.mk #[109, 97, 114, 107]), .slice none 0 0] 114) fun b91 h92 =>
        RunsTo Tryz.prog (Builtin.append_ #[61, 61] 61 #[.slice a90 la90 ca90, .slice (some ⟨b91, 0, none⟩) 1 1]) h92 fun v93 h94 =>
        ∃ (a95 : Option Addr) (la95 ca95 : Nat), v93 = .slice a95 la95 ca95 ∧
        VStore h94 ⟨b15, 14, none⟩ (.slice a95 la95 ca95) fun h96 =>
        ∃ (a97 : Option Addr) (la97 ca97 : Nat), cellH h96 ⟨b15, 15, none⟩ = some (.slice a97 la97 ca97) ∧
        VNew h96 (.cells #[.int .i64 77, .int .i64 0, .string (ByteArray.mk #[]), .bool false] 127) fun b98 h99 =>
        VNew h99 (.cells #[.slice (some ⟨b98, 0, none⟩) 1 1] 112) fun b100 h101 =>
        RunsTo Tryz.prog (Builtin.append_ #[45, 45] 45 #[.slice a97 la97 ca97, .slice (some ⟨b100, 0, none⟩) 1 1]) h101 fun v102 h103 =>
        ∃ (a104 : Option Addr) (la104 ca104 : Nat), v102 = .slice a104 la104 ca104 ∧
        VStore h103 ⟨b15, 15, none⟩ (.slice a104 la104 ca104) fun h105 =>
        ∃ m75, m75 < n71 ∧ I70 m75 h105 (IntKind.i64.wrap (k_74 + 1)))
      (∃ (a106 : Option Addr) (la106 ca106 : Nat), cellH h72 ⟨b15, 12, none⟩ = some (.slice a106 la106 ca106) ∧
        ∃ (a107 : Option Addr) (la107 ca107 : Nat), cellH h72 ⟨b1, 4, none⟩ = some (.slice a107 la107 ca107) ∧
        ∃ (a108 : Option Addr) (la108 ca108 : Nat), cellH h72 ⟨b15, 12, none⟩ = some (.slice a108 la108 ca108) ∧
        VSlice 1 a106 ca106 0 (la107 : Int) (la108 : Int) fun a109 la109 ca109 =>
        VStore h72 ⟨b15, 4, none⟩ (.slice a109 la109 ca109) fun h110 =>
        ∃ (a111 : Option Addr) (la111 ca111 : Nat), cellH h110 ⟨b15, 13, none⟩ = some (.slice a111 la111 ca111) ∧
        ∃ (a112 : Option Addr) (la112 ca112 : Nat), cellH h110 ⟨b1, 6, none⟩ = some (.slice a112 la112 ca112) ∧
        ∃ (a113 : Option Addr) (la113 ca113 : Nat), cellH h110 ⟨b15, 13, none⟩ = some (.slice a113 la113 ca113) ∧
        VSlice 1 a111 ca111 0 (la112 : Int) (la113 : Int) fun a114 la114 ca114 =>
        VStore h110 ⟨b15, 6, none⟩ (.slice a114 la114 ca114) fun h115 =>
        ∃ (a116 : Option Addr) (la116 ca116 : Nat), cellH h115 ⟨b15, 14, none⟩ = some (.slice a116 la116 ca116) ∧
        ∃ (a117 : Option Addr) (la117 ca117 : Nat), cellH h115 ⟨b1, 5, none⟩ = some (.slice a117 la117 ca117) ∧
        ∃ (a118 : Option Addr) (la118 ca118 : Nat), cellH h115 ⟨b15, 14, none⟩ = some (.slice a118 la118 ca118) ∧
        VSlice 2 a116 ca116 0 (la117 : Int) (la118 : Int) fun a119 la119 ca119 =>
        VStore h115 ⟨b15, 5, none⟩ (.slice a119 la119 ca119) fun h120 =>
        ∃ (a121 : Option Addr) (la121 ca121 : Nat), cellH h120 ⟨b15, 15, none⟩ = some (.slice a121 la121 ca121) ∧
        ∃ (a122 : Option Addr) (la122 ca122 : Nat), cellH h120 ⟨b1, 7, none⟩ = some (.slice a122 la122 ca122) ∧
        ∃ (a123 : Option Addr) (la123 ca123 : Nat), cellH h120 ⟨b15, 15, none⟩ = some (.slice a123 la123 ca123) ∧
        VSlice 1 a121 ca121 0 (la122 : Int) (la123 : Int) fun a124 la124 ca124 =>
        VStore h120 ⟨b15, 7, none⟩ (.slice a124 la124 ca124) fun h125 =>
        R (.pointer (some ⟨b15, 0, none⟩)) h125)))
theorem vf33 (a0r_0 : Int) (a0r_1 : Bool) (a0r_2 : Int) (a0r_3 : Int) (a0r_4 : Option Addr) (la0r_4 ca0r_4 : Nat) (a0r_5 : Option Addr) (la0r_5 ca0r_5 : Nat) (a0r_6 : Option Addr) (la0r_6 ca0r_6 : Nat) (a0r_7 : Option Addr) (la0r_7 ca0r_7 : Nat) (a0r_8 : Int) (a0r_9 : Int) (a0r_10 : Int) (a0r_11 : Bool) (h : Heap) (R : KV) (hF : F33 a0r_0 a0r_1 a0r_2 a0r_3 a0r_4 la0r_4 ca0r_4 a0r_5 la0r_5 ca0r_5 a0r_6 la0r_6 ca0r_6 a0r_7 la0r_7 ca0r_7 a0r_8 a0r_9 a0r_10 a0r_11 h R) : CallsH Tryz.prog 33 #[.agg #[.int .u32 a0r_0, .bool a0r_1, .int .i64 a0r_2, .int .i64 a0r_3, .slice a0r_4 la0r_4 ca0r_4, .slice a0r_5 la0r_5 ca0r_5, .slice a0r_6 la0r_6 ca0r_6, .slice a0r_7 la0r_7 ca0r_7, .int .i64 a0r_8, .int .i64 a0r_9, .int .i64 a0r_10, .bool a0r_11]] h R :=
  calls_of_form (A := an33) (fn := Tryz.f33) (c := c33) (args := [.agg #[.int .u32 a0r_0, .bool a0r_1, .int .i64 a0r_2, .int .i64 a0r_3, .slice a0r_4 la0r_4 ca0r_4, .slice a0r_5 la0r_5 ca0r_5, .slice a0r_6 la0r_6 ca0r_6, .slice a0r_7 la0r_7 ca0r_7, .int .i64 a0r_8, .int .i64 a0r_9, .int .i64 a0r_10, .bool a0r_11]]) Tryz.func33 (by kernel_rfl) mixed (by kernel_rfl) (by kernel_rfl : F33 a0r_0 a0r_1 a0r_2 a0r_3 a0r_4 la0r_4 ca0r_4 a0r_5 la0r_5 ca0r_5 a0r_6 la0r_6 ca0r_6 a0r_7 la0r_7 ca0r_7 a0r_8 a0r_9 a0r_10 a0r_11 h R = vcF Tryz.prog an33 Tryz.f33 c33 [.agg #[.int .u32 a0r_0, .bool a0r_1, .int .i64 a0r_2, .int .i64 a0r_3, .slice a0r_4 la0r_4 ca0r_4, .slice a0r_5 la0r_5 ca0r_5, .slice a0r_6 la0r_6 ca0r_6, .slice a0r_7 la0r_7 ca0r_7, .int .i64 a0r_8, .int .i64 a0r_9, .int .i64 a0r_10, .bool a0r_11]] h R) hF
/-! ### 89 (refrain/refrainlaw30.tale).list -/
noncomputable def c89 : Code := match Tryz.f89.body with | some c => c | none => .skip
noncomputable def an89 : Ann := { loops := fun i => match i with | 3 => [(5, .slc), (6, .int .i64)] | _ => [], draws := fun i => #[], joins := fun i => none }
def F89 (a0t : Option Addr) (a1l : Option Addr) (la1l ca1l : Nat) (h : Heap) (R : KV) : Prop :=
  RunsTo Tryz.prog (Builtin.append_ #[112, 112] 112 #[.slice none 0 0, .slice a1l la1l ca1l]) h fun v1 h2 =>
  ∃ (a3 : Option Addr) (la3 ca3 : Nat), v1 = .slice a3 la3 ca3 ∧
  ∃ I4 : Nat → Heap → Option Addr → Nat → Nat → Int → Prop, (∃ n5, I4 n5 h2 a3 la3 ca3 0) ∧
  ∀ (n5 : Nat) (h6 : Heap) (g7 : Env) (v_8 : Option Addr) (lv_8 cv_8 : Nat) (k_9 : Int), I4 n5 h6 v_8 lv_8 cv_8 k_9 →
  cond (decide (k_9 < (12 : Int)))
  (VNew h6 (.cells #[.int .i64 77, .int .i64 0, .string (ByteArray.mk #[]), .bool false] 127) fun b11 h12 =>
    RunsTo Tryz.prog (Builtin.append_ #[112, 112] 112 #[.slice v_8 lv_8 cv_8, .slice (some ⟨b11, 0, none⟩) 1 1]) h12 fun v13 h14 =>
    ∃ (a15 : Option Addr) (la15 ca15 : Nat), v13 = .slice a15 la15 ca15 ∧
    ∃ m10, m10 < n5 ∧ I4 m10 h14 a15 la15 ca15 (IntKind.i64.wrap (k_9 + 1)))
  (VSome a0t fun a16 =>
    ∃ (a17 : Option Addr) (la17 ca17 : Nat), cellH h6 ⟨a16.block, a16.off + 16, none⟩ = some (.slice a17 la17 ca17) ∧
    VNew h6 (.cells #[.slice v_8 lv_8 cv_8] 112) fun b18 h19 =>
    RunsTo Tryz.prog (Builtin.append_ #[45, 45] 45 #[.slice a17 la17 ca17, .slice (some ⟨b18, 0, none⟩) 1 1]) h19 fun v20 h21 =>
    ∃ (a22 : Option Addr) (la22 ca22 : Nat), v20 = .slice a22 la22 ca22 ∧
    VSome a0t fun a23 =>
    VStore h21 ⟨a23.block, a23.off + 16, none⟩ (.slice a22 la22 ca22) fun h24 =>
    VSlice 4 v_8 cv_8 0 (la1l : Int) (lv_8 : Int) fun a25 la25 ca25 =>
    R (.slice a25 la25 ca25) h24)
theorem vf89 (a0t : Option Addr) (a1l : Option Addr) (la1l ca1l : Nat) (h : Heap) (R : KV) (hF : F89 a0t a1l la1l ca1l h R) : CallsH Tryz.prog 89 #[.pointer a0t, .slice a1l la1l ca1l] h R :=
  calls_of_form (A := an89) (fn := Tryz.f89) (c := c89) (args := [.pointer a0t, .slice a1l la1l ca1l]) Tryz.func89 (by kernel_rfl) mixed (by kernel_rfl) (by kernel_rfl : F89 a0t a1l la1l ca1l h R = vcF Tryz.prog an89 Tryz.f89 c89 [.pointer a0t, .slice a1l la1l ca1l] h R) hF
end Go.Proofs.YtgdgebmlcgohhaaGreatDoor.F
