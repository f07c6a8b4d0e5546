-- PRINTED BY print.sh 35421559b90ae4d0a3588c463048766b98c2df88dd9212a6774a882060cdf62d: not written by this session
import Derived.Test.YtklipkleacnkpaaPNamesx0
namespace Go.Proofs.Ytklipkleacnkpaa.PNames
open Go.RowKit Go.Proofs.YtklipkleacnkpaaW.PrintWords Go.Proofs.YtklipkleacnkpaaW.PrintLast Go.Proofs.YtklipkleacnkpaaW.PrintMore
attribute [local go_sem] max2_int min2_int max_two min_two max_three min_three max_four min_four   -- for this text's walks alone
set_option linter.unusedVariables false
set_option linter.unusedSimpArgs false

/-! ### refrainlaw0_num: function 7 -/
def refrainlaw0_num.f (a0 : Int) : Option (Int) := some a0
set_option maxHeartbeats 8000000 in
set_option maxRecDepth 100000 in
theorem refrainlaw0_num.calls (a0 : Int) (r : Int) (w : World) (h : refrainlaw0_num.f a0 = some r) :
    Calls Try.prog 7 #[.int .i64 a0] w fun e w' => e = .returned (.int .i64 r) ∧ Drawn0 w w' := by
  have H : (some a0) = some r := h
  clear h
  obtain rfl := Option.some.inj H
  go_enter Try.func7, Try.ntmps7
  go_wp2
  go_ret
  exact ⟨by first | rfl | (simp; done) | (simp [*]; done), by repeat (first | exact Drawn0.refl _ | apply Drawn0.step)⟩

/-! ### refrainlaw0_errors: function 4 -/
def refrainlaw0_errors.j0 : Nat → Bool → Option (Bool)
  | 0, _ => none
  | k + 1, x6 => if x6 = true then (some false) else (some true)
def refrainlaw0_errors.f (k : Nat)  : Option (Bool) := (refrainlaw0_num.f (-9223372036854775808)).bind fun t101 => (if t101 ≥ 0 then (refrainlaw0_errors.j0 k true) else ((refrainlaw0_num.f 9223372036854775807).bind fun t102 => (refrainlaw0_errors.j0 k (decide (t102 ≤ 0)))))
theorem refrainlaw0_errors.mono_l : ∀ k, (∀ y0, LeO (refrainlaw0_errors.j0 k y0) (refrainlaw0_errors.j0 (k + 1) y0))
  | 0 => fun _ r h => by simp [refrainlaw0_errors.j0] at h
  | k + 1 => by
    have ih0 := refrainlaw0_errors.mono_l k
    · intro y0
      unfold refrainlaw0_errors.j0
      repeat' first
      | (with_reducible exact ih0 _)
      | (with_reducible exact LeO.refl _)
      | (with_reducible exact LeO.none _)
      | (with_reducible refine LeO.ite ?_ ?_)
      | (with_reducible refine LeO.bind ?_ (fun _ => ?_))
      | exact ih0 _
      | exact LeO.none _
      | refine LeO.ite ?_ ?_
      | refine LeO.bind ?_ (fun _ => ?_)
theorem refrainlaw0_errors.mono : ∀ k, LeO (refrainlaw0_errors.f k ) (refrainlaw0_errors.f (k + 1) ) := by
  intro  k
  have ih0 := refrainlaw0_errors.mono_l k
  unfold refrainlaw0_errors.f
  repeat' first
      | (with_reducible exact ih0 _)
      | (with_reducible exact LeO.refl _)
      | (with_reducible exact LeO.none _)
      | (with_reducible refine LeO.ite ?_ ?_)
      | (with_reducible refine LeO.bind ?_ (fun _ => ?_))
      | exact ih0 _
      | exact LeO.none _
      | refine LeO.ite ?_ ?_
      | refine LeO.bind ?_ (fun _ => ?_)
set_option maxHeartbeats 8000000 in
set_option maxRecDepth 100000 in
theorem refrainlaw0_errors.calls (k : Nat)  (r : Bool) (w : World) (h : refrainlaw0_errors.f k  = some r) :
    Calls Try.prog 4 #[] w fun e w' => e = .returned (.bool r) ∧ Drawn0 w w' := by
  have H : ((refrainlaw0_num.f (-9223372036854775808)).bind fun t101 => (if t101 ≥ 0 then (refrainlaw0_errors.j0 k true) else ((refrainlaw0_num.f 9223372036854775807).bind fun t102 => (refrainlaw0_errors.j0 k (decide (t102 ≤ 0)))))) = some r := h
  clear h
  have HC1 := Aside0.mk H
  clear H
  go_enter Try.func4, Try.ntmps4
  go_upto_region 1 with (fail)
  go_cut [6] (fun v6 wc => ∃ (kq : Nat) (x6_0 : Bool), v6 = .bool x6_0 ∧ Aside0 (refrainlaw0_errors.j0 kq x6_0 = some r) ∧ Aside0 (kq ≤ k) ∧ Drawn0 w wc)
  case first =>
    have H := HC1.out
    clear HC1
    replace H := Option.bind_eq_some_iff.mp H
    obtain ⟨t101, A20, H⟩ := H
    replace H : (if t101 ≥ 0 then (refrainlaw0_errors.j0 k true) else ((refrainlaw0_num.f 9223372036854775807).bind fun t102 => (refrainlaw0_errors.j0 k (decide (t102 ≤ 0))))) = some r := H
    have A2 := Aside0.mk A20
    clear A20
    by_cases c3 : t101 ≥ 0
    · rw [if_pos c3] at H
      have c3b0 : decide (0 ≤ t101) = true := decide_eq_true c3
      clear c3
      (first | rw [c3b0] | (simp only [i64_w, i32_w]; rw [c3b0]) | skip)
      have H' := Aside0.mk H
      clear H
      go_wp2_with (first | ((with_reducible refine gate_callee (f := 7) rfl ?_); refine goesL_ (some 1) rfl rfl Try.func7 (by kernel_rfl) rfl #[.int .i64 (-9223372036854775808)] rfl (by (try simp only [List.map_toArray, List.map_cons, List.map_nil]); first | done | rfl | (simp only [List.length_drop, List.length_take]; rfl)) ?_; (with_reducible refine (refrainlaw0_num.calls (-9223372036854775808) t101 _ A2.out).mono ?_); rintro e w' ⟨rfl, ⟨nd, rfl⟩⟩; refine ⟨_, rfl, ?_⟩))
      go_meet
      case rel => exact ⟨_, (true), (by first | rfl | (simp; done) | (simp [*]; done)), H', ⟨by first | omega | exact Nat.le_refl _⟩, by repeat (first | exact Drawn0.refl _ | apply Drawn0.step)⟩
    · rw [if_neg c3] at H
      have c3b0 : decide (0 ≤ t101) = false := decide_eq_false c3
      clear c3
      (first | rw [c3b0] | (simp only [i64_w, i32_w]; rw [c3b0]) | skip)
      replace H := Option.bind_eq_some_iff.mp H
      obtain ⟨t102, A40, H⟩ := H
      replace H : (refrainlaw0_errors.j0 k (decide (t102 ≤ 0))) = some r := H
      have A4 := Aside0.mk A40
      clear A40
      have H' := Aside0.mk H
      clear H
      go_wp2_with (first | ((with_reducible refine gate_callee (f := 7) rfl ?_); refine goesL_ (some 1) rfl rfl Try.func7 (by kernel_rfl) rfl #[.int .i64 (-9223372036854775808)] rfl (by (try simp only [List.map_toArray, List.map_cons, List.map_nil]); first | done | rfl | (simp only [List.length_drop, List.length_take]; rfl)) ?_; (with_reducible refine (refrainlaw0_num.calls (-9223372036854775808) t101 _ A2.out).mono ?_); rintro e w' ⟨rfl, ⟨nd, rfl⟩⟩; refine ⟨_, rfl, ?_⟩) | (go_at_call 7; (with_reducible refine (refrainlaw0_num.calls 9223372036854775807 t102 _ A4.out).mono ?_); rintro e w' ⟨rfl, ⟨nd, rfl⟩⟩))
      go_meet
      case rel => exact ⟨_, (decide (t102 ≤ 0)), (by first | rfl | (simp; done) | (simp [*]; done)), H', ⟨by first | omega | exact Nat.le_refl _⟩, by repeat (first | exact Drawn0.refl _ | apply Drawn0.step)⟩
  case rest =>
    clear HC1
    try clear p2
    try clear c3
    try clear c3b0
    try clear c4
    obtain ⟨kq, x6_0, rfl, HA, HJ0, ⟨mc0, rfl⟩⟩ := hcut
    cases kq with
    | zero => exact absurd HA.out (by simp [refrainlaw0_errors.j0])
    | succ kj0 =>
      have H := HA.out
      clear HA
      simp only [refrainlaw0_errors.j0] at H
      by_cases c5 : x6_0 = true
      · subst c5
        have H1 : (some false) = some r := by rw [if_pos rfl] at H; exact H
        clear H
        have H := H1
        clear H1
        obtain rfl := Option.some.inj H
        go_wp2
        go_ret
        exact ⟨by first | rfl | (simp; done) | (simp [*]; done), by repeat (first | exact Drawn0.refl _ | apply Drawn0.step)⟩
      · replace c5 := Bool.eq_false_iff.mpr c5
        subst c5
        have H1 : (some true) = some r := by rw [if_neg (show ¬ (false = true) by decide)] at H; exact H
        clear H
        have H := H1
        clear H1
        obtain rfl := Option.some.inj H
        go_wp2
        go_ret
        exact ⟨by first | rfl | (simp; done) | (simp [*]; done), by repeat (first | exact Drawn0.refl _ | apply Drawn0.step)⟩

/-! ### refrainlaw0_errnos: function 5 -/
def refrainlaw0_errnos.l0 : Nat → List Int → List Int → Int → Option (Bool)
  | 0, _, _, _ => none
  | k + 1, x1, x2, x3 => if x3 < (x1.length : Int) then (if 0 ≤ x3 then ((refrainlaw0_num.f (rd x1 x3)).bind fun t110 => (if x3 < (x2.length : Int) then (if t110 = (rd x2 x3) then (refrainlaw0_errnos.l0 k x1 x2 (wrap64 (x3 + 1))) else (some false)) else (none))) else (none)) else (some true)
def refrainlaw0_errnos.f (k : Nat)  : Option (Bool) := refrainlaw0_errnos.l0 k (([0, 1, 2, 3, 4, 5, 10, 11, 12, 20, 21, 22, 23, 24, 30, 31, 32, 40, 41, 50, 51, 52, 60, 70, 71, 80, 81, 82, 83, 84, 85, 86, 87, 88, 110, 120, 130, 131, 160, 161, 180, 200, 201, 210, 211, 212, 213, 220, 230, 240, 241, 250, 251, 252, 260, 270, 280, 290, 291, 300, 301, 310, 311] : List Int)) (([0, 1, 2, 3, 4, 5, 10, 11, 12, 20, 21, 22, 23, 24, 30, 31, 32, 40, 41, 50, 51, 52, 60, 70, 71, 80, 81, 82, 83, 84, 85, 86, 87, 88, 110, 120, 130, 131, 160, 161, 180, 200, 201, 210, 211, 212, 213, 220, 230, 240, 241, 250, 251, 252, 260, 270, 280, 290, 291, 300, 301, 310, 311] : List Int)) 0
theorem refrainlaw0_errnos.mono_l : ∀ k, (∀ y0 y1 y2, LeO (refrainlaw0_errnos.l0 k y0 y1 y2) (refrainlaw0_errnos.l0 (k + 1) y0 y1 y2))
  | 0 => fun _ _ _ r h => by simp [refrainlaw0_errnos.l0] at h
  | k + 1 => by
    have ih0 := refrainlaw0_errnos.mono_l k
    · intro y0 y1 y2
      unfold refrainlaw0_errnos.l0
      repeat' first
      | (with_reducible exact ih0 _ _ _)
      | (with_reducible exact LeO.refl _)
      | (with_reducible exact LeO.none _)
      | (with_reducible refine LeO.ite ?_ ?_)
      | (with_reducible refine LeO.bind ?_ (fun _ => ?_))
      | exact ih0 _ _ _
      | exact LeO.none _
      | refine LeO.ite ?_ ?_
      | refine LeO.bind ?_ (fun _ => ?_)
theorem refrainlaw0_errnos.mono : ∀ k, LeO (refrainlaw0_errnos.f k ) (refrainlaw0_errnos.f (k + 1) ) := by
  intro  k
  have ih0 := refrainlaw0_errnos.mono_l k
  unfold refrainlaw0_errnos.f
  repeat' first
      | (with_reducible exact ih0 _ _ _)
      | (with_reducible exact LeO.refl _)
      | (with_reducible exact LeO.none _)
      | (with_reducible refine LeO.ite ?_ ?_)
      | (with_reducible refine LeO.bind ?_ (fun _ => ?_))
      | exact ih0 _ _ _
      | exact LeO.none _
      | refine LeO.ite ?_ ?_
      | refine LeO.bind ?_ (fun _ => ?_)
set_option maxHeartbeats 8000000 in
set_option maxRecDepth 100000 in
theorem refrainlaw0_errnos.calls (k : Nat)  (r : Bool) (w : World) (h : refrainlaw0_errnos.f k  = some r) :
    Calls Try.prog 5 #[] w fun e w' => e = .returned (.bool r) ∧ Below w.heap.size w w' := by
  have HB := Aside0.mk (Below.refl w.heap.size w)
  have H : (refrainlaw0_errnos.l0 k (([0, 1, 2, 3, 4, 5, 10, 11, 12, 20, 21, 22, 23, 24, 30, 31, 32, 40, 41, 50, 51, 52, 60, 70, 71, 80, 81, 82, 83, 84, 85, 86, 87, 88, 110, 120, 130, 131, 160, 161, 180, 200, 201, 210, 211, 212, 213, 220, 230, 240, 241, 250, 251, 252, 260, 270, 280, 290, 291, 300, 301, 310, 311] : List Int)) (([0, 1, 2, 3, 4, 5, 10, 11, 12, 20, 21, 22, 23, 24, 30, 31, 32, 40, 41, 50, 51, 52, 60, 70, 71, 80, 81, 82, 83, 84, 85, 86, 87, 88, 110, 120, 130, 131, 160, 161, 180, 200, 201, 210, 211, 212, 213, 220, 230, 240, 241, 250, 251, 252, 260, 270, 280, 290, 291, 300, 301, 310, 311] : List Int)) 0) = some r := h
  clear h
  obtain ⟨y103, hy103⟩ : ∃ y_ : List Int, y_ = (([0, 1, 2, 3, 4, 5, 10, 11, 12, 20, 21, 22, 23, 24, 30, 31, 32, 40, 41, 50, 51, 52, 60, 70, 71, 80, 81, 82, 83, 84, 85, 86, 87, 88, 110, 120, 130, 131, 160, 161, 180, 200, 201, 210, 211, 212, 213, 220, 230, 240, 241, 250, 251, 252, 260, 270, 280, 290, 291, 300, 301, 310, 311] : List Int)) := ⟨_, rfl⟩
  replace H : (refrainlaw0_errnos.l0 k y103 (([0, 1, 2, 3, 4, 5, 10, 11, 12, 20, 21, 22, 23, 24, 30, 31, 32, 40, 41, 50, 51, 52, 60, 70, 71, 80, 81, 82, 83, 84, 85, 86, 87, 88, 110, 120, 130, 131, 160, 161, 180, 200, 201, 210, 211, 212, 213, 220, 230, 240, 241, 250, 251, 252, 260, 270, 280, 290, 291, 300, 301, 310, 311] : List Int)) 0) = some r := by first | (rw [hy103]; with_reducible exact H) | (have H2_ := (Option.bind_some _ _).symm.trans H; rw [hy103]; with_reducible exact H2_) | (have H2_ := (Option.bind_some _ _).symm.trans H; with_reducible exact H2_) | with_reducible exact H | (rw [hy103]; exact H) | exact H
  have Ny103 := Aside0.mk hy103
  clear hy103
  obtain ⟨y106, hy106⟩ : ∃ y_ : List Int, y_ = (([0, 1, 2, 3, 4, 5, 10, 11, 12, 20, 21, 22, 23, 24, 30, 31, 32, 40, 41, 50, 51, 52, 60, 70, 71, 80, 81, 82, 83, 84, 85, 86, 87, 88, 110, 120, 130, 131, 160, 161, 180, 200, 201, 210, 211, 212, 213, 220, 230, 240, 241, 250, 251, 252, 260, 270, 280, 290, 291, 300, 301, 310, 311] : List Int)) := ⟨_, rfl⟩
  replace H : (refrainlaw0_errnos.l0 k y103 y106 0) = some r := by first | (rw [hy106]; with_reducible exact H) | (have H2_ := (Option.bind_some _ _).symm.trans H; rw [hy106]; with_reducible exact H2_) | (have H2_ := (Option.bind_some _ _).symm.trans H; with_reducible exact H2_) | with_reducible exact H | (rw [hy106]; exact H) | exact H
  have Ny106 := Aside0.mk hy106
  clear hy106
  have H' := Aside0.mk H
  clear H
  go_enter Try.func5, Try.ntmps5
  go_wp2_with (first | ((with_reducible refine gate_dst (N := 4) rfl ?_); refine Kd.R_lit (Kd.int .i64) _ 24 ?hg (N := 4) ?hd (xs := ([0, 1, 2, 3, 4, 5, 10, 11, 12, 20, 21, 22, 23, 24, 30, 31, 32, 40, 41, 50, 51, 52, 60, 70, 71, 80, 81, 82, 83, 84, 85, 86, 87, 88, 110, 120, 130, 131, 160, 161, 180, 200, 201, 210, 211, 212, 213, 220, 230, 240, 241, 250, 251, 252, 260, 270, 280, 290, 291, 300, 301, 310, 311] : List Int)) (inner := [.int .i64 0, .int .i64 1, .int .i64 2, .int .i64 3, .int .i64 4, .int .i64 5, .int .i64 10, .int .i64 11, .int .i64 12, .int .i64 20, .int .i64 21, .int .i64 22, .int .i64 23, .int .i64 24, .int .i64 30, .int .i64 31, .int .i64 32, .int .i64 40, .int .i64 41, .int .i64 50, .int .i64 51, .int .i64 52, .int .i64 60, .int .i64 70, .int .i64 71, .int .i64 80, .int .i64 81, .int .i64 82, .int .i64 83, .int .i64 84, .int .i64 85, .int .i64 86, .int .i64 87, .int .i64 88, .int .i64 110, .int .i64 120, .int .i64 130, .int .i64 131, .int .i64 160, .int .i64 161, .int .i64 180, .int .i64 200, .int .i64 201, .int .i64 210, .int .i64 211, .int .i64 212, .int .i64 213, .int .i64 220, .int .i64 230, .int .i64 240, .int .i64 241, .int .i64 250, .int .i64 251, .int .i64 252, .int .i64 260, .int .i64 270, .int .i64 280, .int .i64 290, .int .i64 291, .int .i64 300, .int .i64 301, .int .i64 310, .int .i64 311]) (ok := fun _ => True) (okp := fun _ => True) ?hr ?hp (fun _ hk => hk) trivial (Below.refl _ _) (Nat.le_refl _) (by simp) ?_; (case hd => rfl); (case hg => rfl); (case hr => first | (go_simp; done) | (go_simp; rfl)); (case hp => exact (Reps.one (show Kd.M (Kd.int .i64) _ _ _ 0 [.int .i64 0] from rfl) (Reps.one (show Kd.M (Kd.int .i64) _ _ _ 1 [.int .i64 1] from rfl) (Reps.one (show Kd.M (Kd.int .i64) _ _ _ 2 [.int .i64 2] from rfl) (Reps.one (show Kd.M (Kd.int .i64) _ _ _ 3 [.int .i64 3] from rfl) (Reps.one (show Kd.M (Kd.int .i64) _ _ _ 4 [.int .i64 4] from rfl) (Reps.one (show Kd.M (Kd.int .i64) _ _ _ 5 [.int .i64 5] from rfl) (Reps.one (show Kd.M (Kd.int .i64) _ _ _ 10 [.int .i64 10] from rfl) (Reps.one (show Kd.M (Kd.int .i64) _ _ _ 11 [.int .i64 11] from rfl) (Reps.one (show Kd.M (Kd.int .i64) _ _ _ 12 [.int .i64 12] from rfl) (Reps.one (show Kd.M (Kd.int .i64) _ _ _ 20 [.int .i64 20] from rfl) (Reps.one (show Kd.M (Kd.int .i64) _ _ _ 21 [.int .i64 21] from rfl) (Reps.one (show Kd.M (Kd.int .i64) _ _ _ 22 [.int .i64 22] from rfl) (Reps.one (show Kd.M (Kd.int .i64) _ _ _ 23 [.int .i64 23] from rfl) (Reps.one (show Kd.M (Kd.int .i64) _ _ _ 24 [.int .i64 24] from rfl) (Reps.one (show Kd.M (Kd.int .i64) _ _ _ 30 [.int .i64 30] from rfl) (Reps.one (show Kd.M (Kd.int .i64) _ _ _ 31 [.int .i64 31] from rfl) (Reps.one (show Kd.M (Kd.int .i64) _ _ _ 32 [.int .i64 32] from rfl) (Reps.one (show Kd.M (Kd.int .i64) _ _ _ 40 [.int .i64 40] from rfl) (Reps.one (show Kd.M (Kd.int .i64) _ _ _ 41 [.int .i64 41] from rfl) (Reps.one (show Kd.M (Kd.int .i64) _ _ _ 50 [.int .i64 50] from rfl) (Reps.one (show Kd.M (Kd.int .i64) _ _ _ 51 [.int .i64 51] from rfl) (Reps.one (show Kd.M (Kd.int .i64) _ _ _ 52 [.int .i64 52] from rfl) (Reps.one (show Kd.M (Kd.int .i64) _ _ _ 60 [.int .i64 60] from rfl) (Reps.one (show Kd.M (Kd.int .i64) _ _ _ 70 [.int .i64 70] from rfl) (Reps.one (show Kd.M (Kd.int .i64) _ _ _ 71 [.int .i64 71] from rfl) (Reps.one (show Kd.M (Kd.int .i64) _ _ _ 80 [.int .i64 80] from rfl) (Reps.one (show Kd.M (Kd.int .i64) _ _ _ 81 [.int .i64 81] from rfl) (Reps.one (show Kd.M (Kd.int .i64) _ _ _ 82 [.int .i64 82] from rfl) (Reps.one (show Kd.M (Kd.int .i64) _ _ _ 83 [.int .i64 83] from rfl) (Reps.one (show Kd.M (Kd.int .i64) _ _ _ 84 [.int .i64 84] from rfl) (Reps.one (show Kd.M (Kd.int .i64) _ _ _ 85 [.int .i64 85] from rfl) (Reps.one (show Kd.M (Kd.int .i64) _ _ _ 86 [.int .i64 86] from rfl) (Reps.one (show Kd.M (Kd.int .i64) _ _ _ 87 [.int .i64 87] from rfl) (Reps.one (show Kd.M (Kd.int .i64) _ _ _ 88 [.int .i64 88] from rfl) (Reps.one (show Kd.M (Kd.int .i64) _ _ _ 110 [.int .i64 110] from rfl) (Reps.one (show Kd.M (Kd.int .i64) _ _ _ 120 [.int .i64 120] from rfl) (Reps.one (show Kd.M (Kd.int .i64) _ _ _ 130 [.int .i64 130] from rfl) (Reps.one (show Kd.M (Kd.int .i64) _ _ _ 131 [.int .i64 131] from rfl) (Reps.one (show Kd.M (Kd.int .i64) _ _ _ 160 [.int .i64 160] from rfl) (Reps.one (show Kd.M (Kd.int .i64) _ _ _ 161 [.int .i64 161] from rfl) (Reps.one (show Kd.M (Kd.int .i64) _ _ _ 180 [.int .i64 180] from rfl) (Reps.one (show Kd.M (Kd.int .i64) _ _ _ 200 [.int .i64 200] from rfl) (Reps.one (show Kd.M (Kd.int .i64) _ _ _ 201 [.int .i64 201] from rfl) (Reps.one (show Kd.M (Kd.int .i64) _ _ _ 210 [.int .i64 210] from rfl) (Reps.one (show Kd.M (Kd.int .i64) _ _ _ 211 [.int .i64 211] from rfl) (Reps.one (show Kd.M (Kd.int .i64) _ _ _ 212 [.int .i64 212] from rfl) (Reps.one (show Kd.M (Kd.int .i64) _ _ _ 213 [.int .i64 213] from rfl) (Reps.one (show Kd.M (Kd.int .i64) _ _ _ 220 [.int .i64 220] from rfl) (Reps.one (show Kd.M (Kd.int .i64) _ _ _ 230 [.int .i64 230] from rfl) (Reps.one (show Kd.M (Kd.int .i64) _ _ _ 240 [.int .i64 240] from rfl) (Reps.one (show Kd.M (Kd.int .i64) _ _ _ 241 [.int .i64 241] from rfl) (Reps.one (show Kd.M (Kd.int .i64) _ _ _ 250 [.int .i64 250] from rfl) (Reps.one (show Kd.M (Kd.int .i64) _ _ _ 251 [.int .i64 251] from rfl) (Reps.one (show Kd.M (Kd.int .i64) _ _ _ 252 [.int .i64 252] from rfl) (Reps.one (show Kd.M (Kd.int .i64) _ _ _ 260 [.int .i64 260] from rfl) (Reps.one (show Kd.M (Kd.int .i64) _ _ _ 270 [.int .i64 270] from rfl) (Reps.one (show Kd.M (Kd.int .i64) _ _ _ 280 [.int .i64 280] from rfl) (Reps.one (show Kd.M (Kd.int .i64) _ _ _ 290 [.int .i64 290] from rfl) (Reps.one (show Kd.M (Kd.int .i64) _ _ _ 291 [.int .i64 291] from rfl) (Reps.one (show Kd.M (Kd.int .i64) _ _ _ 300 [.int .i64 300] from rfl) (Reps.one (show Kd.M (Kd.int .i64) _ _ _ 301 [.int .i64 301] from rfl) (Reps.one (show Kd.M (Kd.int .i64) _ _ _ 310 [.int .i64 310] from rfl) (Reps.one (show Kd.M (Kd.int .i64) _ _ _ 311 [.int .i64 311] from rfl) (Reps.none _ _))))))))))))))))))))))))))))))))))))))))))))))))))))))))))))))))); intro v104 w1 ho2 hb hg_ hnew_; clear hg_ hnew_; (first | rw [← Ny103.out] at ho2 | (simp only [Int.reduceToNat] at ho2; rw [← Ny103.out] at ho2)); have n0_ := Aside0.mk (Kd.R_lower ho2 (below_size (by repeat (first | (with_reducible first | exact HB.out | apply below_alloc | apply pw_below_drewN | apply below_drew1) | exact HB.out)))); have n1_ := Aside0.mk (below_step (by repeat (first | (with_reducible first | exact HB.out | apply below_alloc | apply pw_below_drewN | apply below_drew1) | exact HB.out)) hb); clear HB; have HO105 := n0_; have HB := n1_; clear n0_ n1_; clear hb ho2) | ((with_reducible refine gate_dst (N := 5) rfl ?_); refine Kd.R_lit (Kd.int .i64) _ 3 ?hg (N := 5) ?hd (xs := ([0, 1, 2, 3, 4, 5, 10, 11, 12, 20, 21, 22, 23, 24, 30, 31, 32, 40, 41, 50, 51, 52, 60, 70, 71, 80, 81, 82, 83, 84, 85, 86, 87, 88, 110, 120, 130, 131, 160, 161, 180, 200, 201, 210, 211, 212, 213, 220, 230, 240, 241, 250, 251, 252, 260, 270, 280, 290, 291, 300, 301, 310, 311] : List Int)) (inner := [.int .i64 0, .int .i64 1, .int .i64 2, .int .i64 3, .int .i64 4, .int .i64 5, .int .i64 10, .int .i64 11, .int .i64 12, .int .i64 20, .int .i64 21, .int .i64 22, .int .i64 23, .int .i64 24, .int .i64 30, .int .i64 31, .int .i64 32, .int .i64 40, .int .i64 41, .int .i64 50, .int .i64 51, .int .i64 52, .int .i64 60, .int .i64 70, .int .i64 71, .int .i64 80, .int .i64 81, .int .i64 82, .int .i64 83, .int .i64 84, .int .i64 85, .int .i64 86, .int .i64 87, .int .i64 88, .int .i64 110, .int .i64 120, .int .i64 130, .int .i64 131, .int .i64 160, .int .i64 161, .int .i64 180, .int .i64 200, .int .i64 201, .int .i64 210, .int .i64 211, .int .i64 212, .int .i64 213, .int .i64 220, .int .i64 230, .int .i64 240, .int .i64 241, .int .i64 250, .int .i64 251, .int .i64 252, .int .i64 260, .int .i64 270, .int .i64 280, .int .i64 290, .int .i64 291, .int .i64 300, .int .i64 301, .int .i64 310, .int .i64 311]) (ok := fun _ => True) (okp := fun _ => True) ?hr ?hp (fun _ hk => hk) trivial (Below.refl _ _) (Nat.le_refl _) (by simp) ?_; (case hd => rfl); (case hg => rfl); (case hr => first | (go_simp; done) | (go_simp; rfl)); (case hp => exact (Reps.one (show Kd.M (Kd.int .i64) _ _ _ 0 [.int .i64 0] from rfl) (Reps.one (show Kd.M (Kd.int .i64) _ _ _ 1 [.int .i64 1] from rfl) (Reps.one (show Kd.M (Kd.int .i64) _ _ _ 2 [.int .i64 2] from rfl) (Reps.one (show Kd.M (Kd.int .i64) _ _ _ 3 [.int .i64 3] from rfl) (Reps.one (show Kd.M (Kd.int .i64) _ _ _ 4 [.int .i64 4] from rfl) (Reps.one (show Kd.M (Kd.int .i64) _ _ _ 5 [.int .i64 5] from rfl) (Reps.one (show Kd.M (Kd.int .i64) _ _ _ 10 [.int .i64 10] from rfl) (Reps.one (show Kd.M (Kd.int .i64) _ _ _ 11 [.int .i64 11] from rfl) (Reps.one (show Kd.M (Kd.int .i64) _ _ _ 12 [.int .i64 12] from rfl) (Reps.one (show Kd.M (Kd.int .i64) _ _ _ 20 [.int .i64 20] from rfl) (Reps.one (show Kd.M (Kd.int .i64) _ _ _ 21 [.int .i64 21] from rfl) (Reps.one (show Kd.M (Kd.int .i64) _ _ _ 22 [.int .i64 22] from rfl) (Reps.one (show Kd.M (Kd.int .i64) _ _ _ 23 [.int .i64 23] from rfl) (Reps.one (show Kd.M (Kd.int .i64) _ _ _ 24 [.int .i64 24] from rfl) (Reps.one (show Kd.M (Kd.int .i64) _ _ _ 30 [.int .i64 30] from rfl) (Reps.one (show Kd.M (Kd.int .i64) _ _ _ 31 [.int .i64 31] from rfl) (Reps.one (show Kd.M (Kd.int .i64) _ _ _ 32 [.int .i64 32] from rfl) (Reps.one (show Kd.M (Kd.int .i64) _ _ _ 40 [.int .i64 40] from rfl) (Reps.one (show Kd.M (Kd.int .i64) _ _ _ 41 [.int .i64 41] from rfl) (Reps.one (show Kd.M (Kd.int .i64) _ _ _ 50 [.int .i64 50] from rfl) (Reps.one (show Kd.M (Kd.int .i64) _ _ _ 51 [.int .i64 51] from rfl) (Reps.one (show Kd.M (Kd.int .i64) _ _ _ 52 [.int .i64 52] from rfl) (Reps.one (show Kd.M (Kd.int .i64) _ _ _ 60 [.int .i64 60] from rfl) (Reps.one (show Kd.M (Kd.int .i64) _ _ _ 70 [.int .i64 70] from rfl) (Reps.one (show Kd.M (Kd.int .i64) _ _ _ 71 [.int .i64 71] from rfl) (Reps.one (show Kd.M (Kd.int .i64) _ _ _ 80 [.int .i64 80] from rfl) (Reps.one (show Kd.M (Kd.int .i64) _ _ _ 81 [.int .i64 81] from rfl) (Reps.one (show Kd.M (Kd.int .i64) _ _ _ 82 [.int .i64 82] from rfl) (Reps.one (show Kd.M (Kd.int .i64) _ _ _ 83 [.int .i64 83] from rfl) (Reps.one (show Kd.M (Kd.int .i64) _ _ _ 84 [.int .i64 84] from rfl) (Reps.one (show Kd.M (Kd.int .i64) _ _ _ 85 [.int .i64 85] from rfl) (Reps.one (show Kd.M (Kd.int .i64) _ _ _ 86 [.int .i64 86] from rfl) (Reps.one (show Kd.M (Kd.int .i64) _ _ _ 87 [.int .i64 87] from rfl) (Reps.one (show Kd.M (Kd.int .i64) _ _ _ 88 [.int .i64 88] from rfl) (Reps.one (show Kd.M (Kd.int .i64) _ _ _ 110 [.int .i64 110] from rfl) (Reps.one (show Kd.M (Kd.int .i64) _ _ _ 120 [.int .i64 120] from rfl) (Reps.one (show Kd.M (Kd.int .i64) _ _ _ 130 [.int .i64 130] from rfl) (Reps.one (show Kd.M (Kd.int .i64) _ _ _ 131 [.int .i64 131] from rfl) (Reps.one (show Kd.M (Kd.int .i64) _ _ _ 160 [.int .i64 160] from rfl) (Reps.one (show Kd.M (Kd.int .i64) _ _ _ 161 [.int .i64 161] from rfl) (Reps.one (show Kd.M (Kd.int .i64) _ _ _ 180 [.int .i64 180] from rfl) (Reps.one (show Kd.M (Kd.int .i64) _ _ _ 200 [.int .i64 200] from rfl) (Reps.one (show Kd.M (Kd.int .i64) _ _ _ 201 [.int .i64 201] from rfl) (Reps.one (show Kd.M (Kd.int .i64) _ _ _ 210 [.int .i64 210] from rfl) (Reps.one (show Kd.M (Kd.int .i64) _ _ _ 211 [.int .i64 211] from rfl) (Reps.one (show Kd.M (Kd.int .i64) _ _ _ 212 [.int .i64 212] from rfl) (Reps.one (show Kd.M (Kd.int .i64) _ _ _ 213 [.int .i64 213] from rfl) (Reps.one (show Kd.M (Kd.int .i64) _ _ _ 220 [.int .i64 220] from rfl) (Reps.one (show Kd.M (Kd.int .i64) _ _ _ 230 [.int .i64 230] from rfl) (Reps.one (show Kd.M (Kd.int .i64) _ _ _ 240 [.int .i64 240] from rfl) (Reps.one (show Kd.M (Kd.int .i64) _ _ _ 241 [.int .i64 241] from rfl) (Reps.one (show Kd.M (Kd.int .i64) _ _ _ 250 [.int .i64 250] from rfl) (Reps.one (show Kd.M (Kd.int .i64) _ _ _ 251 [.int .i64 251] from rfl) (Reps.one (show Kd.M (Kd.int .i64) _ _ _ 252 [.int .i64 252] from rfl) (Reps.one (show Kd.M (Kd.int .i64) _ _ _ 260 [.int .i64 260] from rfl) (Reps.one (show Kd.M (Kd.int .i64) _ _ _ 270 [.int .i64 270] from rfl) (Reps.one (show Kd.M (Kd.int .i64) _ _ _ 280 [.int .i64 280] from rfl) (Reps.one (show Kd.M (Kd.int .i64) _ _ _ 290 [.int .i64 290] from rfl) (Reps.one (show Kd.M (Kd.int .i64) _ _ _ 291 [.int .i64 291] from rfl) (Reps.one (show Kd.M (Kd.int .i64) _ _ _ 300 [.int .i64 300] from rfl) (Reps.one (show Kd.M (Kd.int .i64) _ _ _ 301 [.int .i64 301] from rfl) (Reps.one (show Kd.M (Kd.int .i64) _ _ _ 310 [.int .i64 310] from rfl) (Reps.one (show Kd.M (Kd.int .i64) _ _ _ 311 [.int .i64 311] from rfl) (Reps.none _ _))))))))))))))))))))))))))))))))))))))))))))))))))))))))))))))))); intro v107 w3 ho4 hb hg_ hnew_; clear hg_ hnew_; (first | rw [← Ny106.out] at ho4 | (simp only [Int.reduceToNat] at ho4; rw [← Ny106.out] at ho4)); have n0_ := Aside0.mk (Kd.R_below (by (with_reducible repeat (first | apply Kd.R_alloc | apply Kd.R_drewN | apply Kd.R_drew)); exact HO105.out) hb); have n1_ := Aside0.mk (Kd.R_lower ho4 (below_size (by repeat (first | (with_reducible first | exact HB.out | apply below_alloc | apply pw_below_drewN | apply below_drew1) | exact HB.out)))); have n2_ := Aside0.mk (below_step (by repeat (first | (with_reducible first | exact HB.out | apply below_alloc | apply pw_below_drewN | apply below_drew1) | exact HB.out)) hb); clear HO105; clear HB; have HO105 := n0_; have HO108 := n1_; have HB := n2_; clear n0_ n1_ n2_; clear hb ho4))
  repeat (go_quiet (first | ((with_reducible refine gate_dst (N := 4) rfl ?_); refine Kd.R_lit (Kd.int .i64) _ 24 ?hg (N := 4) ?hd (xs := ([0, 1, 2, 3, 4, 5, 10, 11, 12, 20, 21, 22, 23, 24, 30, 31, 32, 40, 41, 50, 51, 52, 60, 70, 71, 80, 81, 82, 83, 84, 85, 86, 87, 88, 110, 120, 130, 131, 160, 161, 180, 200, 201, 210, 211, 212, 213, 220, 230, 240, 241, 250, 251, 252, 260, 270, 280, 290, 291, 300, 301, 310, 311] : List Int)) (inner := [.int .i64 0, .int .i64 1, .int .i64 2, .int .i64 3, .int .i64 4, .int .i64 5, .int .i64 10, .int .i64 11, .int .i64 12, .int .i64 20, .int .i64 21, .int .i64 22, .int .i64 23, .int .i64 24, .int .i64 30, .int .i64 31, .int .i64 32, .int .i64 40, .int .i64 41, .int .i64 50, .int .i64 51, .int .i64 52, .int .i64 60, .int .i64 70, .int .i64 71, .int .i64 80, .int .i64 81, .int .i64 82, .int .i64 83, .int .i64 84, .int .i64 85, .int .i64 86, .int .i64 87, .int .i64 88, .int .i64 110, .int .i64 120, .int .i64 130, .int .i64 131, .int .i64 160, .int .i64 161, .int .i64 180, .int .i64 200, .int .i64 201, .int .i64 210, .int .i64 211, .int .i64 212, .int .i64 213, .int .i64 220, .int .i64 230, .int .i64 240, .int .i64 241, .int .i64 250, .int .i64 251, .int .i64 252, .int .i64 260, .int .i64 270, .int .i64 280, .int .i64 290, .int .i64 291, .int .i64 300, .int .i64 301, .int .i64 310, .int .i64 311]) (ok := fun _ => True) (okp := fun _ => True) ?hr ?hp (fun _ hk => hk) trivial (Below.refl _ _) (Nat.le_refl _) (by simp) ?_; (case hd => rfl); (case hg => rfl); (case hr => first | (go_simp; done) | (go_simp; rfl)); (case hp => exact (Reps.one (show Kd.M (Kd.int .i64) _ _ _ 0 [.int .i64 0] from rfl) (Reps.one (show Kd.M (Kd.int .i64) _ _ _ 1 [.int .i64 1] from rfl) (Reps.one (show Kd.M (Kd.int .i64) _ _ _ 2 [.int .i64 2] from rfl) (Reps.one (show Kd.M (Kd.int .i64) _ _ _ 3 [.int .i64 3] from rfl) (Reps.one (show Kd.M (Kd.int .i64) _ _ _ 4 [.int .i64 4] from rfl) (Reps.one (show Kd.M (Kd.int .i64) _ _ _ 5 [.int .i64 5] from rfl) (Reps.one (show Kd.M (Kd.int .i64) _ _ _ 10 [.int .i64 10] from rfl) (Reps.one (show Kd.M (Kd.int .i64) _ _ _ 11 [.int .i64 11] from rfl) (Reps.one (show Kd.M (Kd.int .i64) _ _ _ 12 [.int .i64 12] from rfl) (Reps.one (show Kd.M (Kd.int .i64) _ _ _ 20 [.int .i64 20] from rfl) (Reps.one (show Kd.M (Kd.int .i64) _ _ _ 21 [.int .i64 21] from rfl) (Reps.one (show Kd.M (Kd.int .i64) _ _ _ 22 [.int .i64 22] from rfl) (Reps.one (show Kd.M (Kd.int .i64) _ _ _ 23 [.int .i64 23] from rfl) (Reps.one (show Kd.M (Kd.int .i64) _ _ _ 24 [.int .i64 24] from rfl) (Reps.one (show Kd.M (Kd.int .i64) _ _ _ 30 [.int .i64 30] from rfl) (Reps.one (show Kd.M (Kd.int .i64) _ _ _ 31 [.int .i64 31] from rfl) (Reps.one (show Kd.M (Kd.int .i64) _ _ _ 32 [.int .i64 32] from rfl) (Reps.one (show Kd.M (Kd.int .i64) _ _ _ 40 [.int .i64 40] from rfl) (Reps.one (show Kd.M (Kd.int .i64) _ _ _ 41 [.int .i64 41] from rfl) (Reps.one (show Kd.M (Kd.int .i64) _ _ _ 50 [.int .i64 50] from rfl) (Reps.one (show Kd.M (Kd.int .i64) _ _ _ 51 [.int .i64 51] from rfl) (Reps.one (show Kd.M (Kd.int .i64) _ _ _ 52 [.int .i64 52] from rfl) (Reps.one (show Kd.M (Kd.int .i64) _ _ _ 60 [.int .i64 60] from rfl) (Reps.one (show Kd.M (Kd.int .i64) _ _ _ 70 [.int .i64 70] from rfl) (Reps.one (show Kd.M (Kd.int .i64) _ _ _ 71 [.int .i64 71] from rfl) (Reps.one (show Kd.M (Kd.int .i64) _ _ _ 80 [.int .i64 80] from rfl) (Reps.one (show Kd.M (Kd.int .i64) _ _ _ 81 [.int .i64 81] from rfl) (Reps.one (show Kd.M (Kd.int .i64) _ _ _ 82 [.int .i64 82] from rfl) (Reps.one (show Kd.M (Kd.int .i64) _ _ _ 83 [.int .i64 83] from rfl) (Reps.one (show Kd.M (Kd.int .i64) _ _ _ 84 [.int .i64 84] from rfl) (Reps.one (show Kd.M (Kd.int .i64) _ _ _ 85 [.int .i64 85] from rfl) (Reps.one (show Kd.M (Kd.int .i64) _ _ _ 86 [.int .i64 86] from rfl) (Reps.one (show Kd.M (Kd.int .i64) _ _ _ 87 [.int .i64 87] from rfl) (Reps.one (show Kd.M (Kd.int .i64) _ _ _ 88 [.int .i64 88] from rfl) (Reps.one (show Kd.M (Kd.int .i64) _ _ _ 110 [.int .i64 110] from rfl) (Reps.one (show Kd.M (Kd.int .i64) _ _ _ 120 [.int .i64 120] from rfl) (Reps.one (show Kd.M (Kd.int .i64) _ _ _ 130 [.int .i64 130] from rfl) (Reps.one (show Kd.M (Kd.int .i64) _ _ _ 131 [.int .i64 131] from rfl) (Reps.one (show Kd.M (Kd.int .i64) _ _ _ 160 [.int .i64 160] from rfl) (Reps.one (show Kd.M (Kd.int .i64) _ _ _ 161 [.int .i64 161] from rfl) (Reps.one (show Kd.M (Kd.int .i64) _ _ _ 180 [.int .i64 180] from rfl) (Reps.one (show Kd.M (Kd.int .i64) _ _ _ 200 [.int .i64 200] from rfl) (Reps.one (show Kd.M (Kd.int .i64) _ _ _ 201 [.int .i64 201] from rfl) (Reps.one (show Kd.M (Kd.int .i64) _ _ _ 210 [.int .i64 210] from rfl) (Reps.one (show Kd.M (Kd.int .i64) _ _ _ 211 [.int .i64 211] from rfl) (Reps.one (show Kd.M (Kd.int .i64) _ _ _ 212 [.int .i64 212] from rfl) (Reps.one (show Kd.M (Kd.int .i64) _ _ _ 213 [.int .i64 213] from rfl) (Reps.one (show Kd.M (Kd.int .i64) _ _ _ 220 [.int .i64 220] from rfl) (Reps.one (show Kd.M (Kd.int .i64) _ _ _ 230 [.int .i64 230] from rfl) (Reps.one (show Kd.M (Kd.int .i64) _ _ _ 240 [.int .i64 240] from rfl) (Reps.one (show Kd.M (Kd.int .i64) _ _ _ 241 [.int .i64 241] from rfl) (Reps.one (show Kd.M (Kd.int .i64) _ _ _ 250 [.int .i64 250] from rfl) (Reps.one (show Kd.M (Kd.int .i64) _ _ _ 251 [.int .i64 251] from rfl) (Reps.one (show Kd.M (Kd.int .i64) _ _ _ 252 [.int .i64 252] from rfl) (Reps.one (show Kd.M (Kd.int .i64) _ _ _ 260 [.int .i64 260] from rfl) (Reps.one (show Kd.M (Kd.int .i64) _ _ _ 270 [.int .i64 270] from rfl) (Reps.one (show Kd.M (Kd.int .i64) _ _ _ 280 [.int .i64 280] from rfl) (Reps.one (show Kd.M (Kd.int .i64) _ _ _ 290 [.int .i64 290] from rfl) (Reps.one (show Kd.M (Kd.int .i64) _ _ _ 291 [.int .i64 291] from rfl) (Reps.one (show Kd.M (Kd.int .i64) _ _ _ 300 [.int .i64 300] from rfl) (Reps.one (show Kd.M (Kd.int .i64) _ _ _ 301 [.int .i64 301] from rfl) (Reps.one (show Kd.M (Kd.int .i64) _ _ _ 310 [.int .i64 310] from rfl) (Reps.one (show Kd.M (Kd.int .i64) _ _ _ 311 [.int .i64 311] from rfl) (Reps.none _ _))))))))))))))))))))))))))))))))))))))))))))))))))))))))))))))))); intro v104 w1 ho2 hb hg_ hnew_; clear hg_ hnew_; (first | rw [← Ny103.out] at ho2 | (simp only [Int.reduceToNat] at ho2; rw [← Ny103.out] at ho2)); have n0_ := Aside0.mk (Kd.R_lower ho2 (below_size (by repeat (first | (with_reducible first | exact HB.out | apply below_alloc | apply pw_below_drewN | apply below_drew1) | exact HB.out)))); have n1_ := Aside0.mk (below_step (by repeat (first | (with_reducible first | exact HB.out | apply below_alloc | apply pw_below_drewN | apply below_drew1) | exact HB.out)) hb); clear HB; have HO105 := n0_; have HB := n1_; clear n0_ n1_; clear hb ho2) | ((with_reducible refine gate_dst (N := 5) rfl ?_); refine Kd.R_lit (Kd.int .i64) _ 3 ?hg (N := 5) ?hd (xs := ([0, 1, 2, 3, 4, 5, 10, 11, 12, 20, 21, 22, 23, 24, 30, 31, 32, 40, 41, 50, 51, 52, 60, 70, 71, 80, 81, 82, 83, 84, 85, 86, 87, 88, 110, 120, 130, 131, 160, 161, 180, 200, 201, 210, 211, 212, 213, 220, 230, 240, 241, 250, 251, 252, 260, 270, 280, 290, 291, 300, 301, 310, 311] : List Int)) (inner := [.int .i64 0, .int .i64 1, .int .i64 2, .int .i64 3, .int .i64 4, .int .i64 5, .int .i64 10, .int .i64 11, .int .i64 12, .int .i64 20, .int .i64 21, .int .i64 22, .int .i64 23, .int .i64 24, .int .i64 30, .int .i64 31, .int .i64 32, .int .i64 40, .int .i64 41, .int .i64 50, .int .i64 51, .int .i64 52, .int .i64 60, .int .i64 70, .int .i64 71, .int .i64 80, .int .i64 81, .int .i64 82, .int .i64 83, .int .i64 84, .int .i64 85, .int .i64 86, .int .i64 87, .int .i64 88, .int .i64 110, .int .i64 120, .int .i64 130, .int .i64 131, .int .i64 160, .int .i64 161, .int .i64 180, .int .i64 200, .int .i64 201, .int .i64 210, .int .i64 211, .int .i64 212, .int .i64 213, .int .i64 220, .int .i64 230, .int .i64 240, .int .i64 241, .int .i64 250, .int .i64 251, .int .i64 252, .int .i64 260, .int .i64 270, .int .i64 280, .int .i64 290, .int .i64 291, .int .i64 300, .int .i64 301, .int .i64 310, .int .i64 311]) (ok := fun _ => True) (okp := fun _ => True) ?hr ?hp (fun _ hk => hk) trivial (Below.refl _ _) (Nat.le_refl _) (by simp) ?_; (case hd => rfl); (case hg => rfl); (case hr => first | (go_simp; done) | (go_simp; rfl)); (case hp => exact (Reps.one (show Kd.M (Kd.int .i64) _ _ _ 0 [.int .i64 0] from rfl) (Reps.one (show Kd.M (Kd.int .i64) _ _ _ 1 [.int .i64 1] from rfl) (Reps.one (show Kd.M (Kd.int .i64) _ _ _ 2 [.int .i64 2] from rfl) (Reps.one (show Kd.M (Kd.int .i64) _ _ _ 3 [.int .i64 3] from rfl) (Reps.one (show Kd.M (Kd.int .i64) _ _ _ 4 [.int .i64 4] from rfl) (Reps.one (show Kd.M (Kd.int .i64) _ _ _ 5 [.int .i64 5] from rfl) (Reps.one (show Kd.M (Kd.int .i64) _ _ _ 10 [.int .i64 10] from rfl) (Reps.one (show Kd.M (Kd.int .i64) _ _ _ 11 [.int .i64 11] from rfl) (Reps.one (show Kd.M (Kd.int .i64) _ _ _ 12 [.int .i64 12] from rfl) (Reps.one (show Kd.M (Kd.int .i64) _ _ _ 20 [.int .i64 20] from rfl) (Reps.one (show Kd.M (Kd.int .i64) _ _ _ 21 [.int .i64 21] from rfl) (Reps.one (show Kd.M (Kd.int .i64) _ _ _ 22 [.int .i64 22] from rfl) (Reps.one (show Kd.M (Kd.int .i64) _ _ _ 23 [.int .i64 23] from rfl) (Reps.one (show Kd.M (Kd.int .i64) _ _ _ 24 [.int .i64 24] from rfl) (Reps.one (show Kd.M (Kd.int .i64) _ _ _ 30 [.int .i64 30] from rfl) (Reps.one (show Kd.M (Kd.int .i64) _ _ _ 31 [.int .i64 31] from rfl) (Reps.one (show Kd.M (Kd.int .i64) _ _ _ 32 [.int .i64 32] from rfl) (Reps.one (show Kd.M (Kd.int .i64) _ _ _ 40 [.int .i64 40] from rfl) (Reps.one (show Kd.M (Kd.int .i64) _ _ _ 41 [.int .i64 41] from rfl) (Reps.one (show Kd.M (Kd.int .i64) _ _ _ 50 [.int .i64 50] from rfl) (Reps.one (show Kd.M (Kd.int .i64) _ _ _ 51 [.int .i64 51] from rfl) (Reps.one (show Kd.M (Kd.int .i64) _ _ _ 52 [.int .i64 52] from rfl) (Reps.one (show Kd.M (Kd.int .i64) _ _ _ 60 [.int .i64 60] from rfl) (Reps.one (show Kd.M (Kd.int .i64) _ _ _ 70 [.int .i64 70] from rfl) (Reps.one (show Kd.M (Kd.int .i64) _ _ _ 71 [.int .i64 71] from rfl) (Reps.one (show Kd.M (Kd.int .i64) _ _ _ 80 [.int .i64 80] from rfl) (Reps.one (show Kd.M (Kd.int .i64) _ _ _ 81 [.int .i64 81] from rfl) (Reps.one (show Kd.M (Kd.int .i64) _ _ _ 82 [.int .i64 82] from rfl) (Reps.one (show Kd.M (Kd.int .i64) _ _ _ 83 [.int .i64 83] from rfl) (Reps.one (show Kd.M (Kd.int .i64) _ _ _ 84 [.int .i64 84] from rfl) (Reps.one (show Kd.M (Kd.int .i64) _ _ _ 85 [.int .i64 85] from rfl) (Reps.one (show Kd.M (Kd.int .i64) _ _ _ 86 [.int .i64 86] from rfl) (Reps.one (show Kd.M (Kd.int .i64) _ _ _ 87 [.int .i64 87] from rfl) (Reps.one (show Kd.M (Kd.int .i64) _ _ _ 88 [.int .i64 88] from rfl) (Reps.one (show Kd.M (Kd.int .i64) _ _ _ 110 [.int .i64 110] from rfl) (Reps.one (show Kd.M (Kd.int .i64) _ _ _ 120 [.int .i64 120] from rfl) (Reps.one (show Kd.M (Kd.int .i64) _ _ _ 130 [.int .i64 130] from rfl) (Reps.one (show Kd.M (Kd.int .i64) _ _ _ 131 [.int .i64 131] from rfl) (Reps.one (show Kd.M (Kd.int .i64) _ _ _ 160 [.int .i64 160] from rfl) (Reps.one (show Kd.M (Kd.int .i64) _ _ _ 161 [.int .i64 161] from rfl) (Reps.one (show Kd.M (Kd.int .i64) _ _ _ 180 [.int .i64 180] from rfl) (Reps.one (show Kd.M (Kd.int .i64) _ _ _ 200 [.int .i64 200] from rfl) (Reps.one (show Kd.M (Kd.int .i64) _ _ _ 201 [.int .i64 201] from rfl) (Reps.one (show Kd.M (Kd.int .i64) _ _ _ 210 [.int .i64 210] from rfl) (Reps.one (show Kd.M (Kd.int .i64) _ _ _ 211 [.int .i64 211] from rfl) (Reps.one (show Kd.M (Kd.int .i64) _ _ _ 212 [.int .i64 212] from rfl) (Reps.one (show Kd.M (Kd.int .i64) _ _ _ 213 [.int .i64 213] from rfl) (Reps.one (show Kd.M (Kd.int .i64) _ _ _ 220 [.int .i64 220] from rfl) (Reps.one (show Kd.M (Kd.int .i64) _ _ _ 230 [.int .i64 230] from rfl) (Reps.one (show Kd.M (Kd.int .i64) _ _ _ 240 [.int .i64 240] from rfl) (Reps.one (show Kd.M (Kd.int .i64) _ _ _ 241 [.int .i64 241] from rfl) (Reps.one (show Kd.M (Kd.int .i64) _ _ _ 250 [.int .i64 250] from rfl) (Reps.one (show Kd.M (Kd.int .i64) _ _ _ 251 [.int .i64 251] from rfl) (Reps.one (show Kd.M (Kd.int .i64) _ _ _ 252 [.int .i64 252] from rfl) (Reps.one (show Kd.M (Kd.int .i64) _ _ _ 260 [.int .i64 260] from rfl) (Reps.one (show Kd.M (Kd.int .i64) _ _ _ 270 [.int .i64 270] from rfl) (Reps.one (show Kd.M (Kd.int .i64) _ _ _ 280 [.int .i64 280] from rfl) (Reps.one (show Kd.M (Kd.int .i64) _ _ _ 290 [.int .i64 290] from rfl) (Reps.one (show Kd.M (Kd.int .i64) _ _ _ 291 [.int .i64 291] from rfl) (Reps.one (show Kd.M (Kd.int .i64) _ _ _ 300 [.int .i64 300] from rfl) (Reps.one (show Kd.M (Kd.int .i64) _ _ _ 301 [.int .i64 301] from rfl) (Reps.one (show Kd.M (Kd.int .i64) _ _ _ 310 [.int .i64 310] from rfl) (Reps.one (show Kd.M (Kd.int .i64) _ _ _ 311 [.int .i64 311] from rfl) (Reps.none _ _))))))))))))))))))))))))))))))))))))))))))))))))))))))))))))))))); intro v107 w3 ho4 hb hg_ hnew_; clear hg_ hnew_; (first | rw [← Ny106.out] at ho4 | (simp only [Int.reduceToNat] at ho4; rw [← Ny106.out] at ho4)); have n0_ := Aside0.mk (Kd.R_below (by (with_reducible repeat (first | apply Kd.R_alloc | apply Kd.R_drewN | apply Kd.R_drew)); exact HO105.out) hb); have n1_ := Aside0.mk (Kd.R_lower ho4 (below_size (by repeat (first | (with_reducible first | exact HB.out | apply below_alloc | apply pw_below_drewN | apply below_drew1) | exact HB.out)))); have n2_ := Aside0.mk (below_step (by repeat (first | (with_reducible first | exact HB.out | apply below_alloc | apply pw_below_drewN | apply below_drew1) | exact HB.out)) hb); clear HO105; clear HB; have HO105 := n0_; have HO108 := n1_; have HB := n2_; clear n0_ n1_ n2_; clear hb ho4)); try go_wp2_with (first | ((with_reducible refine gate_dst (N := 4) rfl ?_); refine Kd.R_lit (Kd.int .i64) _ 24 ?hg (N := 4) ?hd (xs := ([0, 1, 2, 3, 4, 5, 10, 11, 12, 20, 21, 22, 23, 24, 30, 31, 32, 40, 41, 50, 51, 52, 60, 70, 71, 80, 81, 82, 83, 84, 85, 86, 87, 88, 110, 120, 130, 131, 160, 161, 180, 200, 201, 210, 211, 212, 213, 220, 230, 240, 241, 250, 251, 252, 260, 270, 280, 290, 291, 300, 301, 310, 311] : List Int)) (inner := [.int .i64 0, .int .i64 1, .int .i64 2, .int .i64 3, .int .i64 4, .int .i64 5, .int .i64 10, .int .i64 11, .int .i64 12, .int .i64 20, .int .i64 21, .int .i64 22, .int .i64 23, .int .i64 24, .int .i64 30, .int .i64 31, .int .i64 32, .int .i64 40, .int .i64 41, .int .i64 50, .int .i64 51, .int .i64 52, .int .i64 60, .int .i64 70, .int .i64 71, .int .i64 80, .int .i64 81, .int .i64 82, .int .i64 83, .int .i64 84, .int .i64 85, .int .i64 86, .int .i64 87, .int .i64 88, .int .i64 110, .int .i64 120, .int .i64 130, .int .i64 131, .int .i64 160, .int .i64 161, .int .i64 180, .int .i64 200, .int .i64 201, .int .i64 210, .int .i64 211, .int .i64 212, .int .i64 213, .int .i64 220, .int .i64 230, .int .i64 240, .int .i64 241, .int .i64 250, .int .i64 251, .int .i64 252, .int .i64 260, .int .i64 270, .int .i64 280, .int .i64 290, .int .i64 291, .int .i64 300, .int .i64 301, .int .i64 310, .int .i64 311]) (ok := fun _ => True) (okp := fun _ => True) ?hr ?hp (fun _ hk => hk) trivial (Below.refl _ _) (Nat.le_refl _) (by simp) ?_; (case hd => rfl); (case hg => rfl); (case hr => first | (go_simp; done) | (go_simp; rfl)); (case hp => exact (Reps.one (show Kd.M (Kd.int .i64) _ _ _ 0 [.int .i64 0] from rfl) (Reps.one (show Kd.M (Kd.int .i64) _ _ _ 1 [.int .i64 1] from rfl) (Reps.one (show Kd.M (Kd.int .i64) _ _ _ 2 [.int .i64 2] from rfl) (Reps.one (show Kd.M (Kd.int .i64) _ _ _ 3 [.int .i64 3] from rfl) (Reps.one (show Kd.M (Kd.int .i64) _ _ _ 4 [.int .i64 4] from rfl) (Reps.one (show Kd.M (Kd.int .i64) _ _ _ 5 [.int .i64 5] from rfl) (Reps.one (show Kd.M (Kd.int .i64) _ _ _ 10 [.int .i64 10] from rfl) (Reps.one (show Kd.M (Kd.int .i64) _ _ _ 11 [.int .i64 11] from rfl) (Reps.one (show Kd.M (Kd.int .i64) _ _ _ 12 [.int .i64 12] from rfl) (Reps.one (show Kd.M (Kd.int .i64) _ _ _ 20 [.int .i64 20] from rfl) (Reps.one (show Kd.M (Kd.int .i64) _ _ _ 21 [.int .i64 21] from rfl) (Reps.one (show Kd.M (Kd.int .i64) _ _ _ 22 [.int .i64 22] from rfl) (Reps.one (show Kd.M (Kd.int .i64) _ _ _ 23 [.int .i64 23] from rfl) (Reps.one (show Kd.M (Kd.int .i64) _ _ _ 24 [.int .i64 24] from rfl) (Reps.one (show Kd.M (Kd.int .i64) _ _ _ 30 [.int .i64 30] from rfl) (Reps.one (show Kd.M (Kd.int .i64) _ _ _ 31 [.int .i64 31] from rfl) (Reps.one (show Kd.M (Kd.int .i64) _ _ _ 32 [.int .i64 32] from rfl) (Reps.one (show Kd.M (Kd.int .i64) _ _ _ 40 [.int .i64 40] from rfl) (Reps.one (show Kd.M (Kd.int .i64) _ _ _ 41 [.int .i64 41] from rfl) (Reps.one (show Kd.M (Kd.int .i64) _ _ _ 50 [.int .i64 50] from rfl) (Reps.one (show Kd.M (Kd.int .i64) _ _ _ 51 [.int .i64 51] from rfl) (Reps.one (show Kd.M (Kd.int .i64) _ _ _ 52 [.int .i64 52] from rfl) (Reps.one (show Kd.M (Kd.int .i64) _ _ _ 60 [.int .i64 60] from rfl) (Reps.one (show Kd.M (Kd.int .i64) _ _ _ 70 [.int .i64 70] from rfl) (Reps.one (show Kd.M (Kd.int .i64) _ _ _ 71 [.int .i64 71] from rfl) (Reps.one (show Kd.M (Kd.int .i64) _ _ _ 80 [.int .i64 80] from rfl) (Reps.one (show Kd.M (Kd.int .i64) _ _ _ 81 [.int .i64 81] from rfl) (Reps.one (show Kd.M (Kd.int .i64) _ _ _ 82 [.int .i64 82] from rfl) (Reps.one (show Kd.M (Kd.int .i64) _ _ _ 83 [.int .i64 83] from rfl) (Reps.one (show Kd.M (Kd.int .i64) _ _ _ 84 [.int .i64 84] from rfl) (Reps.one (show Kd.M (Kd.int .i64) _ _ _ 85 [.int .i64 85] from rfl) (Reps.one (show Kd.M (Kd.int .i64) _ _ _ 86 [.int .i64 86] from rfl) (Reps.one (show Kd.M (Kd.int .i64) _ _ _ 87 [.int .i64 87] from rfl) (Reps.one (show Kd.M (Kd.int .i64) _ _ _ 88 [.int .i64 88] from rfl) (Reps.one (show Kd.M (Kd.int .i64) _ _ _ 110 [.int .i64 110] from rfl) (Reps.one (show Kd.M (Kd.int .i64) _ _ _ 120 [.int .i64 120] from rfl) (Reps.one (show Kd.M (Kd.int .i64) _ _ _ 130 [.int .i64 130] from rfl) (Reps.one (show Kd.M (Kd.int .i64) _ _ _ 131 [.int .i64 131] from rfl) (Reps.one (show Kd.M (Kd.int .i64) _ _ _ 160 [.int .i64 160] from rfl) (Reps.one (show Kd.M (Kd.int .i64) _ _ _ 161 [.int .i64 161] from rfl) (Reps.one (show Kd.M (Kd.int .i64) _ _ _ 180 [.int .i64 180] from rfl) (Reps.one (show Kd.M (Kd.int .i64) _ _ _ 200 [.int .i64 200] from rfl) (Reps.one (show Kd.M (Kd.int .i64) _ _ _ 201 [.int .i64 201] from rfl) (Reps.one (show Kd.M (Kd.int .i64) _ _ _ 210 [.int .i64 210] from rfl) (Reps.one (show Kd.M (Kd.int .i64) _ _ _ 211 [.int .i64 211] from rfl) (Reps.one (show Kd.M (Kd.int .i64) _ _ _ 212 [.int .i64 212] from rfl) (Reps.one (show Kd.M (Kd.int .i64) _ _ _ 213 [.int .i64 213] from rfl) (Reps.one (show Kd.M (Kd.int .i64) _ _ _ 220 [.int .i64 220] from rfl) (Reps.one (show Kd.M (Kd.int .i64) _ _ _ 230 [.int .i64 230] from rfl) (Reps.one (show Kd.M (Kd.int .i64) _ _ _ 240 [.int .i64 240] from rfl) (Reps.one (show Kd.M (Kd.int .i64) _ _ _ 241 [.int .i64 241] from rfl) (Reps.one (show Kd.M (Kd.int .i64) _ _ _ 250 [.int .i64 250] from rfl) (Reps.one (show Kd.M (Kd.int .i64) _ _ _ 251 [.int .i64 251] from rfl) (Reps.one (show Kd.M (Kd.int .i64) _ _ _ 252 [.int .i64 252] from rfl) (Reps.one (show Kd.M (Kd.int .i64) _ _ _ 260 [.int .i64 260] from rfl) (Reps.one (show Kd.M (Kd.int .i64) _ _ _ 270 [.int .i64 270] from rfl) (Reps.one (show Kd.M (Kd.int .i64) _ _ _ 280 [.int .i64 280] from rfl) (Reps.one (show Kd.M (Kd.int .i64) _ _ _ 290 [.int .i64 290] from rfl) (Reps.one (show Kd.M (Kd.int .i64) _ _ _ 291 [.int .i64 291] from rfl) (Reps.one (show Kd.M (Kd.int .i64) _ _ _ 300 [.int .i64 300] from rfl) (Reps.one (show Kd.M (Kd.int .i64) _ _ _ 301 [.int .i64 301] from rfl) (Reps.one (show Kd.M (Kd.int .i64) _ _ _ 310 [.int .i64 310] from rfl) (Reps.one (show Kd.M (Kd.int .i64) _ _ _ 311 [.int .i64 311] from rfl) (Reps.none _ _))))))))))))))))))))))))))))))))))))))))))))))))))))))))))))))))); intro v104 w1 ho2 hb hg_ hnew_; clear hg_ hnew_; (first | rw [← Ny103.out] at ho2 | (simp only [Int.reduceToNat] at ho2; rw [← Ny103.out] at ho2)); have n0_ := Aside0.mk (Kd.R_lower ho2 (below_size (by repeat (first | (with_reducible first | exact HB.out | apply below_alloc | apply pw_below_drewN | apply below_drew1) | exact HB.out)))); have n1_ := Aside0.mk (below_step (by repeat (first | (with_reducible first | exact HB.out | apply below_alloc | apply pw_below_drewN | apply below_drew1) | exact HB.out)) hb); clear HB; have HO105 := n0_; have HB := n1_; clear n0_ n1_; clear hb ho2) | ((with_reducible refine gate_dst (N := 5) rfl ?_); refine Kd.R_lit (Kd.int .i64) _ 3 ?hg (N := 5) ?hd (xs := ([0, 1, 2, 3, 4, 5, 10, 11, 12, 20, 21, 22, 23, 24, 30, 31, 32, 40, 41, 50, 51, 52, 60, 70, 71, 80, 81, 82, 83, 84, 85, 86, 87, 88, 110, 120, 130, 131, 160, 161, 180, 200, 201, 210, 211, 212, 213, 220, 230, 240, 241, 250, 251, 252, 260, 270, 280, 290, 291, 300, 301, 310, 311] : List Int)) (inner := [.int .i64 0, .int .i64 1, .int .i64 2, .int .i64 3, .int .i64 4, .int .i64 5, .int .i64 10, .int .i64 11, .int .i64 12, .int .i64 20, .int .i64 21, .int .i64 22, .int .i64 23, .int .i64 24, .int .i64 30, .int .i64 31, .int .i64 32, .int .i64 40, .int .i64 41, .int .i64 50, .int .i64 51, .int .i64 52, .int .i64 60, .int .i64 70, .int .i64 71, .int .i64 80, .int .i64 81, .int .i64 82, .int .i64 83, .int .i64 84, .int .i64 85, .int .i64 86, .int .i64 87, .int .i64 88, .int .i64 110, .int .i64 120, .int .i64 130, .int .i64 131, .int .i64 160, .int .i64 161, .int .i64 180, .int .i64 200, .int .i64 201, .int .i64 210, .int .i64 211, .int .i64 212, .int .i64 213, .int .i64 220, .int .i64 230, .int .i64 240, .int .i64 241, .int .i64 250, .int .i64 251, .int .i64 252, .int .i64 260, .int .i64 270, .int .i64 280, .int .i64 290, .int .i64 291, .int .i64 300, .int .i64 301, .int .i64 310, .int .i64 311]) (ok := fun _ => True) (okp := fun _ => True) ?hr ?hp (fun _ hk => hk) trivial (Below.refl _ _) (Nat.le_refl _) (by simp) ?_; (case hd => rfl); (case hg => rfl); (case hr => first | (go_simp; done) | (go_simp; rfl)); (case hp => exact (Reps.one (show Kd.M (Kd.int .i64) _ _ _ 0 [.int .i64 0] from rfl) (Reps.one (show Kd.M (Kd.int .i64) _ _ _ 1 [.int .i64 1] from rfl) (Reps.one (show Kd.M (Kd.int .i64) _ _ _ 2 [.int .i64 2] from rfl) (Reps.one (show Kd.M (Kd.int .i64) _ _ _ 3 [.int .i64 3] from rfl) (Reps.one (show Kd.M (Kd.int .i64) _ _ _ 4 [.int .i64 4] from rfl) (Reps.one (show Kd.M (Kd.int .i64) _ _ _ 5 [.int .i64 5] from rfl) (Reps.one (show Kd.M (Kd.int .i64) _ _ _ 10 [.int .i64 10] from rfl) (Reps.one (show Kd.M (Kd.int .i64) _ _ _ 11 [.int .i64 11] from rfl) (Reps.one (show Kd.M (Kd.int .i64) _ _ _ 12 [.int .i64 12] from rfl) (Reps.one (show Kd.M (Kd.int .i64) _ _ _ 20 [.int .i64 20] from rfl) (Reps.one (show Kd.M (Kd.int .i64) _ _ _ 21 [.int .i64 21] from rfl) (Reps.one (show Kd.M (Kd.int .i64) _ _ _ 22 [.int .i64 22] from rfl) (Reps.one (show Kd.M (Kd.int .i64) _ _ _ 23 [.int .i64 23] from rfl) (Reps.one (show Kd.M (Kd.int .i64) _ _ _ 24 [.int .i64 24] from rfl) (Reps.one (show Kd.M (Kd.int .i64) _ _ _ 30 [.int .i64 30] from rfl) (Reps.one (show Kd.M (Kd.int .i64) _ _ _ 31 [.int .i64 31] from rfl) (Reps.one (show Kd.M (Kd.int .i64) _ _ _ 32 [.int .i64 32] from rfl) (Reps.one (show Kd.M (Kd.int .i64) _ _ _ 40 [.int .i64 40] from rfl) (Reps.one (show Kd.M (Kd.int .i64) _ _ _ 41 [.int .i64 41] from rfl) (Reps.one (show Kd.M (Kd.int .i64) _ _ _ 50 [.int .i64 50] from rfl) (Reps.one (show Kd.M (Kd.int .i64) _ _ _ 51 [.int .i64 51] from rfl) (Reps.one (show Kd.M (Kd.int .i64) _ _ _ 52 [.int .i64 52] from rfl) (Reps.one (show Kd.M (Kd.int .i64) _ _ _ 60 [.int .i64 60] from rfl) (Reps.one (show Kd.M (Kd.int .i64) _ _ _ 70 [.int .i64 70] from rfl) (Reps.one (show Kd.M (Kd.int .i64) _ _ _ 71 [.int .i64 71] from rfl) (Reps.one (show Kd.M (Kd.int .i64) _ _ _ 80 [.int .i64 80] from rfl) (Reps.one (show Kd.M (Kd.int .i64) _ _ _ 81 [.int .i64 81] from rfl) (Reps.one (show Kd.M (Kd.int .i64) _ _ _ 82 [.int .i64 82] from rfl) (Reps.one (show Kd.M (Kd.int .i64) _ _ _ 83 [.int .i64 83] from rfl) (Reps.one (show Kd.M (Kd.int .i64) _ _ _ 84 [.int .i64 84] from rfl) (Reps.one (show Kd.M (Kd.int .i64) _ _ _ 85 [.int .i64 85] from rfl) (Reps.one (show Kd.M (Kd.int .i64) _ _ _ 86 [.int .i64 86] from rfl) (Reps.one (show Kd.M (Kd.int .i64) _ _ _ 87 [.int .i64 87] from rfl) (Reps.one (show Kd.M (Kd.int .i64) _ _ _ 88 [.int .i64 88] from rfl) (Reps.one (show Kd.M (Kd.int .i64) _ _ _ 110 [.int .i64 110] from rfl) (Reps.one (show Kd.M (Kd.int .i64) _ _ _ 120 [.int .i64 120] from rfl) (Reps.one (show Kd.M (Kd.int .i64) _ _ _ 130 [.int .i64 130] from rfl) (Reps.one (show Kd.M (Kd.int .i64) _ _ _ 131 [.int .i64 131] from rfl) (Reps.one (show Kd.M (Kd.int .i64) _ _ _ 160 [.int .i64 160] from rfl) (Reps.one (show Kd.M (Kd.int .i64) _ _ _ 161 [.int .i64 161] from rfl) (Reps.one (show Kd.M (Kd.int .i64) _ _ _ 180 [.int .i64 180] from rfl) (Reps.one (show Kd.M (Kd.int .i64) _ _ _ 200 [.int .i64 200] from rfl) (Reps.one (show Kd.M (Kd.int .i64) _ _ _ 201 [.int .i64 201] from rfl) (Reps.one (show Kd.M (Kd.int .i64) _ _ _ 210 [.int .i64 210] from rfl) (Reps.one (show Kd.M (Kd.int .i64) _ _ _ 211 [.int .i64 211] from rfl) (Reps.one (show Kd.M (Kd.int .i64) _ _ _ 212 [.int .i64 212] from rfl) (Reps.one (show Kd.M (Kd.int .i64) _ _ _ 213 [.int .i64 213] from rfl) (Reps.one (show Kd.M (Kd.int .i64) _ _ _ 220 [.int .i64 220] from rfl) (Reps.one (show Kd.M (Kd.int .i64) _ _ _ 230 [.int .i64 230] from rfl) (Reps.one (show Kd.M (Kd.int .i64) _ _ _ 240 [.int .i64 240] from rfl) (Reps.one (show Kd.M (Kd.int .i64) _ _ _ 241 [.int .i64 241] from rfl) (Reps.one (show Kd.M (Kd.int .i64) _ _ _ 250 [.int .i64 250] from rfl) (Reps.one (show Kd.M (Kd.int .i64) _ _ _ 251 [.int .i64 251] from rfl) (Reps.one (show Kd.M (Kd.int .i64) _ _ _ 252 [.int .i64 252] from rfl) (Reps.one (show Kd.M (Kd.int .i64) _ _ _ 260 [.int .i64 260] from rfl) (Reps.one (show Kd.M (Kd.int .i64) _ _ _ 270 [.int .i64 270] from rfl) (Reps.one (show Kd.M (Kd.int .i64) _ _ _ 280 [.int .i64 280] from rfl) (Reps.one (show Kd.M (Kd.int .i64) _ _ _ 290 [.int .i64 290] from rfl) (Reps.one (show Kd.M (Kd.int .i64) _ _ _ 291 [.int .i64 291] from rfl) (Reps.one (show Kd.M (Kd.int .i64) _ _ _ 300 [.int .i64 300] from rfl) (Reps.one (show Kd.M (Kd.int .i64) _ _ _ 301 [.int .i64 301] from rfl) (Reps.one (show Kd.M (Kd.int .i64) _ _ _ 310 [.int .i64 310] from rfl) (Reps.one (show Kd.M (Kd.int .i64) _ _ _ 311 [.int .i64 311] from rfl) (Reps.none _ _))))))))))))))))))))))))))))))))))))))))))))))))))))))))))))))))); intro v107 w3 ho4 hb hg_ hnew_; clear hg_ hnew_; (first | rw [← Ny106.out] at ho4 | (simp only [Int.reduceToNat] at ho4; rw [← Ny106.out] at ho4)); have n0_ := Aside0.mk (Kd.R_below (by (with_reducible repeat (first | apply Kd.R_alloc | apply Kd.R_drewN | apply Kd.R_drew)); exact HO105.out) hb); have n1_ := Aside0.mk (Kd.R_lower ho4 (below_size (by repeat (first | (with_reducible first | exact HB.out | apply below_alloc | apply pw_below_drewN | apply below_drew1) | exact HB.out)))); have n2_ := Aside0.mk (below_step (by repeat (first | (with_reducible first | exact HB.out | apply below_alloc | apply pw_below_drewN | apply below_drew1) | exact HB.out)) hb); clear HO105; clear HB; have HO105 := n0_; have HO108 := n1_; have HB := n2_; clear n0_ n1_ n2_; clear hb ho4)))
  go_loopg [3] k (fun kq v3 w' => ∃ (x3_1 : Int), v3 = .int .i64 x3_1 ∧ Aside0 (refrainlaw0_errnos.l0 kq y103 y106 x3_1 = some r) ∧ Aside0 (kq ≤ k) ∧ Aside0 (Kd.R (Kd.int .i64) 24 w' w.heap.size (fun _ => True) v104 y103) ∧ Aside0 (Kd.R (Kd.int .i64) 3 w' w.heap.size (fun _ => True) v107 y106) ∧ Aside0 (Below w.heap.size w w'))
  case atStart => exact ⟨(0), (by first | rfl | (simp; done) | (simp [*]; done)), H', ⟨Nat.le_refl _⟩, ⟨by (with_reducible repeat (first | apply Kd.R_alloc | apply Kd.R_drewN | apply Kd.R_drew)); exact HO105.out⟩, ⟨by (with_reducible repeat (first | apply Kd.R_alloc | apply Kd.R_drewN | apply Kd.R_drew)); exact HO108.out⟩, ⟨by repeat (first | (with_reducible first | exact HB.out | apply below_alloc | apply pw_below_drewN | apply below_drew1) | exact HB.out)⟩⟩
  case round =>
    clear H'
    try clear p2
    obtain ⟨x3_1, rfl, HA, HK1, HO_1, HO_2, HB⟩ := hrel
    cases gk with
    | zero => exact absurd HA.out (by simp [refrainlaw0_errnos.l0])
    | succ k1 =>
      have H := HA.out
      clear HA
      simp only [refrainlaw0_errnos.l0] at H
      by_cases c5 : x3_1 < (y103.length : Int)
      · rw [if_pos c5] at H
        have c5b0 : decide (x3_1 < (y103.length : Int)) = true := decide_eq_true c5
        clear c5
        by_cases c6 : 0 ≤ x3_1
        · rw [if_pos c6] at H
          have c6b0 : decide (0 ≤ x3_1) = true := decide_eq_true c6
          clear c6
          replace H := Option.bind_eq_some_iff.mp H
          obtain ⟨t110, A70, H⟩ := H
          replace H : (if x3_1 < (y106.length : Int) then (if t110 = (rd y106 x3_1) then (refrainlaw0_errnos.l0 k1 y103 y106 (wrap64 (x3_1 + 1))) else (some false)) else (none)) = some r := H
          have A7 := Aside0.mk A70
          clear A70
          by_cases c8 : x3_1 < (y106.length : Int)
          · rw [if_pos c8] at H
            have c8b0 : decide (x3_1 < (y106.length : Int)) = true := decide_eq_true c8
            clear c8
            by_cases c9 : t110 = (rd y106 x3_1)
            · rw [if_pos c9] at H
              have c9b0 : (t110 == (rd y106 x3_1)) = true := beq_iff_eq.mpr c9
              have c9b1 : (t110 != (rd y106 x3_1)) = false := bne_eq_false_iff_eq.mpr c9
              clear c9
              have H' := Aside0.mk H
              clear H
              obtain ⟨Ao10, co10, eo10⟩ := Kd.R_slice HO_1.out
              subst eo10
              have p109 : 0 ≤ (x3_1 : Int) := of_decide_eq_true (by first | (with_reducible assumption) | assumption)
              have q109 : x3_1 < (y103.length : Int) := of_decide_eq_true (by first | (with_reducible assumption) | assumption)
              obtain ⟨ad109, e109, hx109_0⟩ := Kd.at_int (Kd.R_reads' HO_1.out).2.2 x3_1 p109 q109
              cases e109
              replace p109 := eq_true p109
              replace q109 := eq_true q109
              go_wp2_with (first | (go_at_call 7; (with_reducible refine (refrainlaw0_num.calls (rd y103 x3_1) t110 _ A7.out).mono ?_); rintro e w' ⟨rfl, ⟨nd, rfl⟩⟩; (try first | exact ⟨rfl, _, World.drewN_drewN _ _ _⟩ | exact ⟨rfl, _, Eq.trans (World.drewN_drewN _ _ _) (congrArg (World.drewN _) (Nat.add_assoc _ _ _))⟩); obtain ⟨Ao11, co11, eo11⟩ := Kd.R_slice HO_2.out; subst eo11; have p111 : 0 ≤ (x3_1 : Int) := of_decide_eq_true (by first | (with_reducible assumption) | assumption); have q111 : x3_1 < (y106.length : Int) := of_decide_eq_true (by first | (with_reducible assumption) | assumption); obtain ⟨ad111, e111, hx111_0⟩ := Kd.at_int (Kd.R_reads' HO_2.out).2.2 x3_1 p111 q111; cases e111; replace p111 := eq_true p111; replace q111 := eq_true q111))
              repeat (go_quiet (first | (go_at_call 7; (with_reducible refine (refrainlaw0_num.calls (rd y103 x3_1) t110 _ A7.out).mono ?_); rintro e w' ⟨rfl, ⟨nd, rfl⟩⟩; (try first | exact ⟨rfl, _, World.drewN_drewN _ _ _⟩ | exact ⟨rfl, _, Eq.trans (World.drewN_drewN _ _ _) (congrArg (World.drewN _) (Nat.add_assoc _ _ _))⟩); obtain ⟨Ao11, co11, eo11⟩ := Kd.R_slice HO_2.out; subst eo11; have p111 : 0 ≤ (x3_1 : Int) := of_decide_eq_true (by first | (with_reducible assumption) | assumption); have q111 : x3_1 < (y106.length : Int) := of_decide_eq_true (by first | (with_reducible assumption) | assumption); obtain ⟨ad111, e111, hx111_0⟩ := Kd.at_int (Kd.R_reads' HO_2.out).2.2 x3_1 p111 q111; cases e111; replace p111 := eq_true p111; replace q111 := eq_true q111)); try go_wp2_with (first | (go_at_call 7; (with_reducible refine (refrainlaw0_num.calls (rd y103 x3_1) t110 _ A7.out).mono ?_); rintro e w' ⟨rfl, ⟨nd, rfl⟩⟩; (try first | exact ⟨rfl, _, World.drewN_drewN _ _ _⟩ | exact ⟨rfl, _, Eq.trans (World.drewN_drewN _ _ _) (congrArg (World.drewN _) (Nat.add_assoc _ _ _))⟩); obtain ⟨Ao11, co11, eo11⟩ := Kd.R_slice HO_2.out; subst eo11; have p111 : 0 ≤ (x3_1 : Int) := of_decide_eq_true (by first | (with_reducible assumption) | assumption); have q111 : x3_1 < (y106.length : Int) := of_decide_eq_true (by first | (with_reducible assumption) | assumption); obtain ⟨ad111, e111, hx111_0⟩ := Kd.at_int (Kd.R_reads' HO_2.out).2.2 x3_1 p111 q111; cases e111; replace p111 := eq_true p111; replace q111 := eq_true q111)))
              go_roundg k1
              case measure => have := HK1.out; omega
              case rel => exact ⟨(wrap64 (x3_1 + 1)), (by first | rfl | (simp; done) | (simp [*]; done)), H', ⟨by have := HK1.out; omega⟩, ⟨by (with_reducible repeat (first | apply Kd.R_alloc | apply Kd.R_drewN | apply Kd.R_drew)); exact HO_1.out⟩, ⟨by (with_reducible repeat (first | apply Kd.R_alloc | apply Kd.R_drewN | apply Kd.R_drew)); exact HO_2.out⟩, ⟨by repeat (first | (with_reducible first | exact HB.out | apply below_alloc | apply pw_below_drewN | apply below_drew1) | exact HB.out)⟩⟩
            · rw [if_neg c9] at H
              have c9b0 : (t110 == (rd y106 x3_1)) = false := beq_eq_false_iff_ne.mpr c9
              have c9b1 : (t110 != (rd y106 x3_1)) = true := bne_iff_ne.mpr c9
              obtain rfl := Option.some.inj H
              obtain ⟨Ao12, co12, eo12⟩ := Kd.R_slice HO_1.out
              subst eo12
              have p109 : 0 ≤ (x3_1 : Int) := of_decide_eq_true (by first | (with_reducible assumption) | assumption)
              have q109 : x3_1 < (y103.length : Int) := of_decide_eq_true (by first | (with_reducible assumption) | assumption)
              obtain ⟨ad109, e109, hx109_0⟩ := Kd.at_int (Kd.R_reads' HO_1.out).2.2 x3_1 p109 q109
              cases e109
              replace p109 := eq_true p109
              replace q109 := eq_true q109
              go_wp2_with (first | (go_at_call 7; (with_reducible refine (refrainlaw0_num.calls (rd y103 x3_1) t110 _ A7.out).mono ?_); rintro e w' ⟨rfl, ⟨nd, rfl⟩⟩; (try first | exact ⟨rfl, _, World.drewN_drewN _ _ _⟩ | exact ⟨rfl, _, Eq.trans (World.drewN_drewN _ _ _) (congrArg (World.drewN _) (Nat.add_assoc _ _ _))⟩); obtain ⟨Ao13, co13, eo13⟩ := Kd.R_slice HO_2.out; subst eo13; have p111 : 0 ≤ (x3_1 : Int) := of_decide_eq_true (by first | (with_reducible assumption) | assumption); have q111 : x3_1 < (y106.length : Int) := of_decide_eq_true (by first | (with_reducible assumption) | assumption); obtain ⟨ad111, e111, hx111_0⟩ := Kd.at_int (Kd.R_reads' HO_2.out).2.2 x3_1 p111 q111; cases e111; replace p111 := eq_true p111; replace q111 := eq_true q111))
              repeat (go_quiet (first | (go_at_call 7; (with_reducible refine (refrainlaw0_num.calls (rd y103 x3_1) t110 _ A7.out).mono ?_); rintro e w' ⟨rfl, ⟨nd, rfl⟩⟩; (try first | exact ⟨rfl, _, World.drewN_drewN _ _ _⟩ | exact ⟨rfl, _, Eq.trans (World.drewN_drewN _ _ _) (congrArg (World.drewN _) (Nat.add_assoc _ _ _))⟩); obtain ⟨Ao13, co13, eo13⟩ := Kd.R_slice HO_2.out; subst eo13; have p111 : 0 ≤ (x3_1 : Int) := of_decide_eq_true (by first | (with_reducible assumption) | assumption); have q111 : x3_1 < (y106.length : Int) := of_decide_eq_true (by first | (with_reducible assumption) | assumption); obtain ⟨ad111, e111, hx111_0⟩ := Kd.at_int (Kd.R_reads' HO_2.out).2.2 x3_1 p111 q111; cases e111; replace p111 := eq_true p111; replace q111 := eq_true q111)); try go_wp2_with (first | (go_at_call 7; (with_reducible refine (refrainlaw0_num.calls (rd y103 x3_1) t110 _ A7.out).mono ?_); rintro e w' ⟨rfl, ⟨nd, rfl⟩⟩; (try first | exact ⟨rfl, _, World.drewN_drewN _ _ _⟩ | exact ⟨rfl, _, Eq.trans (World.drewN_drewN _ _ _) (congrArg (World.drewN _) (Nat.add_assoc _ _ _))⟩); obtain ⟨Ao13, co13, eo13⟩ := Kd.R_slice HO_2.out; subst eo13; have p111 : 0 ≤ (x3_1 : Int) := of_decide_eq_true (by first | (with_reducible assumption) | assumption); have q111 : x3_1 < (y106.length : Int) := of_decide_eq_true (by first | (with_reducible assumption) | assumption); obtain ⟨ad111, e111, hx111_0⟩ := Kd.at_int (Kd.R_reads' HO_2.out).2.2 x3_1 p111 q111; cases e111; replace p111 := eq_true p111; replace q111 := eq_true q111)))
              go_ret
              exact ⟨by first | rfl | (simp [errW_none, errW_some] <;> rfl) | (simp [*, errW_none, errW_some] <;> rfl), by repeat (first | (with_reducible first | exact HB.out | apply below_alloc | apply pw_below_drewN | apply below_drew1) | exact HB.out)⟩
          · rw [if_neg c8] at H
            exact absurd H (by simp)
        · rw [if_neg c6] at H
          exact absurd H (by simp)
      · rw [if_neg c5] at H
        have c5b0 : decide (x3_1 < (y103.length : Int)) = false := decide_eq_false c5
        clear c5
        obtain rfl := Option.some.inj H
        obtain ⟨Ao14, co14, eo14⟩ := Kd.R_slice HO_1.out
        subst eo14
        go_wp2
        repeat (go_quiet (fail); try go_wp2)
        go_ret
        exact ⟨by first | rfl | (simp [errW_none, errW_some] <;> rfl) | (simp [*, errW_none, errW_some] <;> rfl), by repeat (first | (with_reducible first | exact HB.out | apply below_alloc | apply pw_below_drewN | apply below_drew1) | exact HB.out)⟩

/-! ### refrainlaw0_kinds: function 6 -/
def refrainlaw0_kinds.f  : Option (Bool) := some true
set_option maxHeartbeats 8000000 in
set_option maxRecDepth 100000 in
theorem refrainlaw0_kinds.calls  (r : Bool) (w : World) (h : refrainlaw0_kinds.f  = some r) :
    Calls Try.prog 6 #[] w fun e w' => e = .returned (.bool r) ∧ Drawn0 w w' := by
  have H : (some true) = some r := h
  clear h
  obtain rfl := Option.some.inj H
  go_enter Try.func6, Try.ntmps6
  go_wp2
  go_ret
  exact ⟨by first | rfl | (simp; done) | (simp [*]; done), by repeat (first | exact Drawn0.refl _ | apply Drawn0.step)⟩

/-! ### refrainlaw0_Names: function 3 -/
def refrainlaw0_Names.f (k : Nat)  : Option (Bool) := (refrainlaw0_errors.f k).bind fun t112 => ((refrainlaw0_errnos.f k).bind fun t113 => ((refrainlaw0_kinds.f).bind fun t114 => (if t112 = true then (if t113 = true then (some t114) else (some false)) else (some false))))
theorem refrainlaw0_Names.mono : ∀ k, LeO (refrainlaw0_Names.f k ) (refrainlaw0_Names.f (k + 1) ) := by
  intro  k
  unfold refrainlaw0_Names.f
  repeat' first
      | (with_reducible exact refrainlaw0_errnos.mono _)
      | (with_reducible exact refrainlaw0_errors.mono _)
      | (with_reducible exact LeO.refl _)
      | (with_reducible exact LeO.none _)
      | (with_reducible refine LeO.ite ?_ ?_)
      | (with_reducible refine LeO.bind ?_ (fun _ => ?_))
      | exact refrainlaw0_errnos.mono _
      | exact refrainlaw0_errors.mono _
      | exact LeO.none _
      | refine LeO.ite ?_ ?_
      | refine LeO.bind ?_ (fun _ => ?_)
set_option maxHeartbeats 8000000 in
set_option maxRecDepth 100000 in
theorem refrainlaw0_Names.calls (k : Nat)  (r : Bool) (w : World) (h : refrainlaw0_Names.f k  = some r) :
    Calls Try.prog 3 #[] w fun e w' => e = .returned (.bool r) ∧ Below w.heap.size w w' := by
  have HB := Aside0.mk (Below.refl w.heap.size w)
  have H : ((refrainlaw0_errors.f k).bind fun t112 => ((refrainlaw0_errnos.f k).bind fun t113 => ((refrainlaw0_kinds.f).bind fun t114 => (if t112 = true then (if t113 = true then (some t114) else (some false)) else (some false))))) = some r := h
  clear h
  replace H := Option.bind_eq_some_iff.mp H
  obtain ⟨t112, A10, H⟩ := H
  replace H : ((refrainlaw0_errnos.f k).bind fun t113 => ((refrainlaw0_kinds.f).bind fun t114 => (if t112 = true then (if t113 = true then (some t114) else (some false)) else (some false)))) = some r := H
  have A1 := Aside0.mk A10
  clear A10
  replace H := Option.bind_eq_some_iff.mp H
  obtain ⟨t113, A20, H⟩ := H
  replace H : ((refrainlaw0_kinds.f).bind fun t114 => (if t112 = true then (if t113 = true then (some t114) else (some false)) else (some false))) = some r := H
  have A2 := Aside0.mk A20
  clear A20
  replace H := Option.bind_eq_some_iff.mp H
  obtain ⟨t114, A30, H⟩ := H
  replace H : (if t112 = true then (if t113 = true then (some t114) else (some false)) else (some false)) = some r := H
  have A3 := Aside0.mk A30
  clear A30
  by_cases c4 : t112 = true
  · subst c4
    have H1 : (if t113 = true then (some t114) else (some false)) = some r := by rw [if_pos rfl] at H; exact H
    clear H
    have H := H1
    clear H1
    by_cases c5 : t113 = true
    · subst c5
      have H1 : (some t114) = some r := by rw [if_pos rfl] at H; exact H
      clear H
      have H := H1
      clear H1
      obtain rfl := Option.some.inj H
      go_enter Try.func3, Try.ntmps3
      go_wp2_with (first | ((with_reducible refine gate_callee (f := 4) rfl ?_); refine goesL_ (some 4) rfl rfl Try.func4 (by kernel_rfl) rfl #[] rfl (by (try simp only [List.map_toArray, List.map_cons, List.map_nil]); first | done | rfl | (simp only [List.length_drop, List.length_take]; rfl)) ?_; (with_reducible refine (refrainlaw0_errors.calls k  true _ A1.out).mono ?_); rintro e w' ⟨rfl, ⟨nd, rfl⟩⟩; refine ⟨_, rfl, ?_⟩) | ((with_reducible refine gate_callee (f := 5) rfl ?_); refine goesL_ (some 5) rfl rfl Try.func5 (by kernel_rfl) rfl #[] rfl (by (try simp only [List.map_toArray, List.map_cons, List.map_nil]); first | done | rfl | (simp only [List.length_drop, List.length_take]; rfl)) ?_; (with_reducible refine (refrainlaw0_errnos.calls k  true _ A2.out).mono ?_); rintro e w6 ⟨rfl, hb⟩; refine ⟨_, rfl, ?_⟩; have n0_ := Aside0.mk (below_step (by repeat (first | (with_reducible first | exact HB.out | apply below_alloc | apply pw_below_drewN | apply below_drew1) | exact HB.out)) hb); clear HB; have HB := n0_; clear n0_; (try clear hb); (try clear hb2); (try clear hk); (try clear hi)) | ((with_reducible refine gate_callee (f := 6) rfl ?_); refine goesL_ (some 6) rfl rfl Try.func6 (by kernel_rfl) rfl #[] rfl (by (try simp only [List.map_toArray, List.map_cons, List.map_nil]); first | done | rfl | (simp only [List.length_drop, List.length_take]; rfl)) ?_; (with_reducible refine (refrainlaw0_kinds.calls  t114 _ A3.out).mono ?_); rintro e w' ⟨rfl, ⟨nd, rfl⟩⟩; refine ⟨_, rfl, ?_⟩))
      go_ret
      exact ⟨by first | rfl | (simp [errW_none, errW_some] <;> rfl) | (simp [*, errW_none, errW_some] <;> rfl), by repeat (first | (with_reducible first | exact HB.out | apply below_alloc | apply pw_below_drewN | apply below_drew1) | exact HB.out)⟩
    · replace c5 := Bool.eq_false_iff.mpr c5
      subst c5
      have H1 : (some false) = some r := by rw [if_neg (show ¬ (false = true) by decide)] at H; exact H
      clear H
      have H := H1
      clear H1
      obtain rfl := Option.some.inj H
      go_enter Try.func3, Try.ntmps3
      go_wp2_with (first | ((with_reducible refine gate_callee (f := 4) rfl ?_); refine goesL_ (some 4) rfl rfl Try.func4 (by kernel_rfl) rfl #[] rfl (by (try simp only [List.map_toArray, List.map_cons, List.map_nil]); first | done | rfl | (simp only [List.length_drop, List.length_take]; rfl)) ?_; (with_reducible refine (refrainlaw0_errors.calls k  true _ A1.out).mono ?_); rintro e w' ⟨rfl, ⟨nd, rfl⟩⟩; refine ⟨_, rfl, ?_⟩) | ((with_reducible refine gate_callee (f := 5) rfl ?_); refine goesL_ (some 5) rfl rfl Try.func5 (by kernel_rfl) rfl #[] rfl (by (try simp only [List.map_toArray, List.map_cons, List.map_nil]); first | done | rfl | (simp only [List.length_drop, List.length_take]; rfl)) ?_; (with_reducible refine (refrainlaw0_errnos.calls k  false _ A2.out).mono ?_); rintro e w7 ⟨rfl, hb⟩; refine ⟨_, rfl, ?_⟩; have n0_ := Aside0.mk (below_step (by repeat (first | (with_reducible first | exact HB.out | apply below_alloc | apply pw_below_drewN | apply below_drew1) | exact HB.out)) hb); clear HB; have HB := n0_; clear n0_; (try clear hb); (try clear hb2); (try clear hk); (try clear hi)) | ((with_reducible refine gate_callee (f := 6) rfl ?_); refine goesL_ (some 6) rfl rfl Try.func6 (by kernel_rfl) rfl #[] rfl (by (try simp only [List.map_toArray, List.map_cons, List.map_nil]); first | done | rfl | (simp only [List.length_drop, List.length_take]; rfl)) ?_; (with_reducible refine (refrainlaw0_kinds.calls  t114 _ A3.out).mono ?_); rintro e w' ⟨rfl, ⟨nd, rfl⟩⟩; refine ⟨_, rfl, ?_⟩))
      go_ret
      exact ⟨by first | rfl | (simp [errW_none, errW_some] <;> rfl) | (simp [*, errW_none, errW_some] <;> rfl), by repeat (first | (with_reducible first | exact HB.out | apply below_alloc | apply pw_below_drewN | apply below_drew1) | exact HB.out)⟩
  · replace c4 := Bool.eq_false_iff.mpr c4
    subst c4
    have H1 : (some false) = some r := by rw [if_neg (show ¬ (false = true) by decide)] at H; exact H
    clear H
    have H := H1
    clear H1
    obtain rfl := Option.some.inj H
    go_enter Try.func3, Try.ntmps3
    go_wp2_with (first | ((with_reducible refine gate_callee (f := 4) rfl ?_); refine goesL_ (some 4) rfl rfl Try.func4 (by kernel_rfl) rfl #[] rfl (by (try simp only [List.map_toArray, List.map_cons, List.map_nil]); first | done | rfl | (simp only [List.length_drop, List.length_take]; rfl)) ?_; (with_reducible refine (refrainlaw0_errors.calls k  false _ A1.out).mono ?_); rintro e w' ⟨rfl, ⟨nd, rfl⟩⟩; refine ⟨_, rfl, ?_⟩) | ((with_reducible refine gate_callee (f := 5) rfl ?_); refine goesL_ (some 5) rfl rfl Try.func5 (by kernel_rfl) rfl #[] rfl (by (try simp only [List.map_toArray, List.map_cons, List.map_nil]); first | done | rfl | (simp only [List.length_drop, List.length_take]; rfl)) ?_; (with_reducible refine (refrainlaw0_errnos.calls k  t113 _ A2.out).mono ?_); rintro e w8 ⟨rfl, hb⟩; refine ⟨_, rfl, ?_⟩; have n0_ := Aside0.mk (below_step (by repeat (first | (with_reducible first | exact HB.out | apply below_alloc | apply pw_below_drewN | apply below_drew1) | exact HB.out)) hb); clear HB; have HB := n0_; clear n0_; (try clear hb); (try clear hb2); (try clear hk); (try clear hi)) | ((with_reducible refine gate_callee (f := 6) rfl ?_); refine goesL_ (some 6) rfl rfl Try.func6 (by kernel_rfl) rfl #[] rfl (by (try simp only [List.map_toArray, List.map_cons, List.map_nil]); first | done | rfl | (simp only [List.length_drop, List.length_take]; rfl)) ?_; (with_reducible refine (refrainlaw0_kinds.calls  t114 _ A3.out).mono ?_); rintro e w' ⟨rfl, ⟨nd, rfl⟩⟩; refine ⟨_, rfl, ?_⟩))
    go_ret
    exact ⟨by first | rfl | (simp [errW_none, errW_some] <;> rfl) | (simp [*, errW_none, errW_some] <;> rfl), by repeat (first | (with_reducible first | exact HB.out | apply below_alloc | apply pw_below_drewN | apply below_drew1) | exact HB.out)⟩

/-- THE ONE PURE STATEMENT of refrainlaw0_Names: yours. -/
def refrainlaw0_Names.Pure : Prop := ∃ k, refrainlaw0_Names.f k  = some true
theorem refrainlaw0_Names.walk (P : refrainlaw0_Names.Pure)  (w : World)  :
    Calls Try.prog 3 #[] w fun e w' => e = .returned (.bool true) ∧ Below w.heap.size w w' := by
  obtain ⟨k, h⟩ := P  
  refine (refrainlaw0_Names.calls k  true w h).mono ?_
  rintro e w' ⟨rfl, hd⟩
  exact ⟨rfl, hd⟩

end Go.Proofs.Ytklipkleacnkpaa.PNames
