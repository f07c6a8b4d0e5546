/- The laws of proto: what every statement asks ahead; frames that are cut again. Conditions: none. -/
import Derived.Test.YtgdgebmlcgohhaaDoorQG
namespace Go.Proofs.YtgdgebmlcgohhaaDoor.F
open Go Go.VC Go.Proofs
set_option linter.unusedSimpArgs false
set_option linter.unusedVariables false
set_option maxRecDepth 100000
attribute [local irreducible] CallsH RunsTo PureTo

variable {S F G : Nat → Prop} {h0 h h1 : Heap} {L R L' : List A} {a b a1 a2 na ea nb eb : Option Addr} {l c l1 c1 l2 c2 p t b1 nc ec nd ed : Nat} {bs cs bs1 bs2 w : List UInt8} {err e1 : Int} {v : Val} {bad bad1 sp : Bool}
theorem num4_be {n : Nat} (h : n < 4294967296) (x : Bytes) : num4 (be4 n ++ x) = n := by
  show un4 _ _ _ _ = n
  exact un4_be h
/-- A frame stands in front. -/
theorem next_frame {q : Bytes} (h : q.length ≤ 65528) (x : Bytes) : nextF (frameB q ++ x) = .got q x := by
  have hl := frameB_len q
  have e : frameB q ++ x = be4 q.length ++ (q ++ (be4 (adl (be4 q.length ++ q)) ++ x)) := by unfold frameB; simp only [List.append_assoc]
  have hn : num4 (frameB q ++ x) = q.length := by rw [e]; exact num4_be (by omega) _
  have e4 := be4_len q.length
  have e5 := be4_len (adl (be4 q.length ++ q))
  unfold nextF
  rw [hn, List.length_append, if_neg (by omega), if_neg (by omega), if_neg (by omega)]
  have e1 : (frameB q ++ x).take (q.length + 4) = be4 q.length ++ q := by
    have : frameB q ++ x = (be4 q.length ++ q) ++ (be4 (adl (be4 q.length ++ q)) ++ x) := by unfold frameB; simp only [List.append_assoc]
    rw [this]
    exact List.take_left' (by rw [List.length_append, e4]; omega)
  have e2 : (frameB q ++ x).drop (q.length + 4) = be4 (adl (be4 q.length ++ q)) ++ x := by
    have : frameB q ++ x = (be4 q.length ++ q) ++ (be4 (adl (be4 q.length ++ q)) ++ x) := by unfold frameB; simp only [List.append_assoc]
    rw [this]
    exact List.drop_left' (by rw [List.length_append, e4]; omega)
  have e3 : (frameB q ++ x).drop 4 = q ++ (be4 (adl (be4 q.length ++ q)) ++ x) := by rw [e]; exact List.drop_left' e4
  have e6 : (frameB q ++ x).drop (q.length + 8) = x := List.drop_left' hl
  rw [e1, e2, e3, e6, List.take_left' e5, List.take_left' rfl, if_neg (by simp)]
theorem cut_frame {q : Bytes} (h : q.length ≤ 65528) (x : Bytes) : cut (frameB q ++ x) = (q :: (cut x).1, (cut x).2) := cut_got (next_frame h x)
theorem cut_nil : cut [] = ([], [], false) := cut_more (by unfold nextF; exact if_pos (by simp))
theorem frame61 : frameB [97] = [0, 0, 0, 1, 97, 0, 104, 0, 99] := by decide +kernel
theorem feed61 : feedR [] false (frameB [97]) = ([[97]], 0, [], false) := by
  have h := cut_frame (q := [97]) (by simp) []
  rw [List.append_nil, cut_nil] at h
  unfold feedR
  rw [List.nil_append, h]; rfl
def q61 : Rq := ⟨1, 8, [113], [], [], []⟩
def p61 : Rp := ⟨7, false, 0, 0, [], [], [], [], 0, 0, 0, false⟩
theorem ask61 : (askR q61).2 = 0 ∧ (askR q61).1.length = 7 := by decide +kernel
theorem tell61 : (tellR p61).2 = 0 ∧ (tellR p61).1.length = 15 := by decide +kernel
theorem rng61 : rngQ q61 := ⟨by decide, by unfold short; decide, by unfold short; decide, ⟨by decide, by intro s hs; cases hs⟩, by decide, by intro s hs; cases hs⟩
theorem rngp61 : rngP p61 := ⟨by decide, by unfold rng64; decide, by unfold rng64; decide, ⟨by decide, by intro s hs; cases hs⟩, ⟨by decide, by intro s hs; cases hs⟩, ⟨by decide, by intro s hs; cases hs⟩, ⟨by decide, by intro s hs; cases hs⟩, by unfold rng64; decide, by unfold rng64; decide, by unfold rng64; decide⟩
theorem ok61 : RqOk q61 := ⟨by decide, by unfold rng64; decide, (by intro s hs; cases hs), by decide, by decide +kernel⟩
theorem okp61 : RpOk p61 := ⟨by decide, by unfold rng64; decide, by unfold rng64; decide, (by intro s hs; cases hs), (by intro s hs; cases hs), (by intro s hs; cases hs), by unfold rng64; decide, by unfold rng64; decide, by unfold rng64; decide, by decide +kernel⟩
theorem RoX.nil {α : Type} (E : El α) (F : Nat → Prop) (h : Heap) (a : Option Addr) : RoX E F h a 0 [] := ⟨[], .nil _ _ _, (by intro s hs; cases hs), rfl, rfl⟩
theorem asked61 : askedR (askR q61).1 = (q61, 0) := (ask_asked rng61 ask61.1).1
theorem told61 : toldR (tellR p61).1 = (p61, 0) := (tell_told rngp61 tell61.1).1
theorem ask61v : askR q61 = ((askR q61).1, 0) := Prod.ext rfl ask61.1
theorem tell61v : tellR p61 = ((tellR p61).1, 0) := Prod.ext rfl tell61.1
theorem _root_.Go.VC.St.add4 {x y z u : A} (k : St S h0 h R) (k' : St none_ h h1 [x, y, z, u]) : St S h0 h1 (x :: y :: z :: u :: R) := k.add k'
set_option maxHeartbeats 1000000 in
theorem begun_spec (hw : Wd none_ h) (hs : Spk none_ h) : CallsH Tryd.prog 7 #[] h (fun v h' => v = .bool true ∧ Ext h h') := by
  refine vf7 h _ ?_
  unfold F7
  have k := St.fresh h
  refine k.vnew fun b1 h2 k => ?_
  have hsl : Sl h2 (some ⟨b1, 0, none⟩) (bytesV [97]) := k.slB (b := b1)
  refine CallsH.mono (frame_spec hsl rfl) ?_
  rintro _ h4 ⟨a5, c5, rfl, k2⟩
  have er : frameR [97] = (frameB [97], 0) := by decide +kernel
  rw [er] at k2 ⊢
  have k := k.add1 k2
  refine ⟨_, _, _, _, rfl, k.vnew fun b7 h8 k => cond_false rfl ?_⟩
  have hs7 : Sl h8 (some ⟨b7, 0, none⟩) (bytesV [0, 0, 0, 1, 97, 0, 104, 0, 99]) := k.slB (b := b7)
  refine CallsH.mono (same_spec (k.sl (a := a5)) rfl hs7 rfl (by decide +kernel)) ?_
  rintro _ _ ⟨rfl, rfl⟩
  refine ⟨_, rfl, cond_false (by rw [frame61]; simp) ?_⟩
  refine CallsH.mono new_spec ?_
  rintro _ h13 ⟨p, rfl, k2⟩
  have k := k.add1 k2
  refine ⟨_, rfl, cond_false rfl ?_⟩
  obtain ⟨F', G, kF, kG, d, hF, back⟩ := k.frame2
  refine CallsH.mono (feed_spec kF (kG.ro d (a := a5)) rfl (fun _ => by decide +kernel)) ?_
  rintro _ h16 ⟨x, cx, rfl, k2⟩
  have k := back k2
  clear back kF kG d hF
  rw [feed61] at k ⊢
  refine ⟨_, _, _, _, rfl, ?_⟩
  refine CallsH.mono (ask_spec (q := q61) (na := none) (ea := none) (nc := 0) (ec := 0) (hw.in k) (hs.in k) ok61 ⟨.nil _ _ _ _, .nil _ _ _ _⟩) ?_
  rintro _ h20 ⟨a21, c21, rfl, k2⟩
  have k := k.add1 k2
  rw [ask61v] at k ⊢
  refine ⟨_, _, _, _, rfl, ?_⟩
  have hle : (askR q61).1.length ≤ c21 := by
    obtain ⟨q, _, _⟩ := St.vec (a := a21) k
    exact q.le
  refine CallsH.mono (asked_spec (bs := (askR q61).1) (hw.in k) (hs.in k) (k.sl (a := a21)) rfl hle) ?_
  rintro _ h24 ⟨na, nc, ea, ec, rfl, k2⟩
  have k := k.add2 k2
  rw [asked61] at k ⊢
  refine ⟨_, _, _, _, _, _, _, _, _, _, _, rfl, k.vnew fun b32 h33 k => k.vall (by rfl) (by rfl) fun h34 k => cond_false rfl (cond_false rfl ?_)⟩
  have hro : RoX bytE none_ h34 x 1 [[97]] := El.ro (E := bytE) (k.sel 9 [5, 0, 1, 2, 3, 4, 6, 7, 8] rfl (by decide) (L' := [_, _, _, _, _, _, _, _, _]) (by rfl))
  refine hro.one (.refl _ _) (by omega) (by omega) fun ad s hs1 hc1 hr1 => ⟨_, _, _, hc1 0 _ rfl, ?_⟩
  have e1 : s.bs = [97] := (Option.some.inj hs1).symm
  rw [e1]
  refine cond_false rfl (hro.one (.refl _ _) (by omega) (by omega) fun ad s2 hs2 hc2 hr2 => ⟨_, _, _, hc2 0 _ rfl, ?_⟩)
  have e2 : s2.bs = [97] := (Option.some.inj hs2).symm
  have hr2 : Ro none_ h34 s2.a (bytesV [97]) := e2 ▸ hr2
  rw [e2]
  refine hr2.sl.one (f := byteV) (xs := [97]) rfl (by omega) (by simp) fun ad y hy hcy => ⟨_, hcy, ?_⟩
  have e3 : y = 97 := (Option.some.inj hy).symm
  subst e3
  refine cond_false rfl (cond_false rfl (cond_false rfl (cond_false (by rw [ask61.2]; rfl) ?_)))
  refine CallsH.mono (tell_spec (q := p61) (ga := none) (ha := none) (na := none) (ra := none) (gc := 0) (hc := 0) (nc := 0) (rc := 0) okp61 ⟨.nil _ _ _ _, .nil _ _ _ _, .nil _ _ _ _, .nil _ _ _ _⟩) ?_
  rintro _ h42 ⟨a43, c43, rfl, k2⟩
  have k := k.add1 k2
  rw [tell61v] at k ⊢
  refine ⟨_, _, _, _, rfl, ?_⟩
  have hle : (tellR p61).1.length ≤ c43 := by
    obtain ⟨q, _, _⟩ := St.vec (a := a43) k
    exact q.le
  refine CallsH.mono (told_spec (bs := (tellR p61).1) (k.sl (a := a43)) rfl hle) ?_
  rintro _ h46 ⟨ga, gc, ha, hc, na, nc, ra, rc, rfl, k2⟩
  have k := k.add4 k2
  rw [told61] at k ⊢
  refine ⟨_, _, _, _, _, _, _, _, _, _, _, _, _, _, _, _, _, _, _, _, _, rfl, ?_⟩
  refine k.vnew fun b60 h61 k => k.vall (by rfl) (by rfl) fun h62 k => ⟨_, k.rd (by rfl), cond_true rfl ⟨_, k.rd (by rfl), cond_true (by decide +kernel) ⟨_, k.rd (by rfl), cond_true rfl (cond_true rfl (cond_true rfl (cond_true (by rw [tell61.2]; rfl) ⟨_, k.rd (by rfl), rfl, k.ext⟩)))⟩⟩⟩
end Go.Proofs.YtgdgebmlcgohhaaDoor.F
