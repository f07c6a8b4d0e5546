/- How great a request or a reply is. Conditions: none. -/
import Derived.Test.YtgdgebmlcgohhaaGreatDoorDG
namespace Go.Proofs.YtgdgebmlcgohhaaGreatDoor.F
open Go Go.VC Go.Proofs
set_option linter.unusedSimpArgs false
set_option linter.unusedVariables false
set_option maxRecDepth 100000
attribute [local irreducible] CallsH RunsTo PureTo

variable {S F G : Nat → Prop} {h0 h h1 : Heap} {L R L' : List A} {a b a1 a2 x ga ha na ra ea : Option Addr} {l c l1 c1 l2 c2 p t b1 lx cx gc hc nc rc ec : Nat} {bs cs bs1 bs2 w xs : List UInt8} {err e1 : Int} {v : Val} {bad bad1 bad2 : Bool} {q : Rq} {u : Rp}
theorem great_spec (hl : q.evs.length < 9223372036854775807) (r : RqRo none_ h q na ea) : CallsH Tryz.prog 27 #[aggQ q na nc ea ec] h (fun v h' => ∃ b : Bool, v = .bool b ∧ Ext h h') := by
  refine vf27 _ _ _ _ _ _ _ _ _ _ h _ ?_
  unfold F27
  have k := St.fresh h
  refine k.vnew fun b1 h2 k => ⟨_, _, _, k.rd (by rfl), _, _, _, k.rd (by rfl), ?_⟩
  have k : St none_ h h2 [RqB b1 q na nc ea ec] := k
  refine ⟨fun m h' _ i => ∃ j : Nat, i = j ∧ j ≤ q.evs.length ∧ m = q.evs.length - j ∧ St none_ h h' [RqB b1 q na nc ea ec], ⟨_, 0, rfl, Nat.zero_le _, rfl, k⟩, ?_⟩
  clear k
  rintro m h7 _ n i ⟨j, rfl, hj, rfl, k⟩
  refine ⟨_, _, _, k.rd (by rfl), loopD (fun h1 h2 => ?_) (fun hend => ⟨_, rfl, k.ext⟩)⟩
  have hjl : j < q.evs.length := Int.ofNat_lt.1 (of_decide_eq_true h1)
  refine ⟨_, _, _, k.rd (by rfl), ?_⟩
  refine r.evs.one k.ext (by omega) (by omega) fun ad z hz hcz hrd => ⟨_, _, _, hcz 2 _ rfl, q.evs.length - (j + 1), by omega, j + 1, wrap_nat hjl (by omega), hjl, rfl, k⟩
theorem greatReply_spec (hl : u.hits.length < 9223372036854775807) (hl2 : u.rows.length < 9223372036854775807) (r : RpRo none_ h u ga ha na ra) : CallsH Tryz.prog 32 #[aggP u ga gc ha hc na nc ra rc] h (fun v h' => ∃ b : Bool, v = .bool b ∧ Ext h h') := by
  refine vf32 _ _ _ _ _ _ _ _ _ _ _ _ _ _ _ _ _ _ _ _ h _ ?_
  unfold F32
  have k := St.fresh h
  refine k.vnew fun b1 h2 k => ⟨_, _, _, k.rd (by rfl), _, _, _, k.rd (by rfl), _, _, _, k.rd (by rfl), _, _, _, k.rd (by rfl), ?_⟩
  have k : St none_ h h2 [A.blk b1 (rpV u ga gc ha hc na nc ra rc).toArray 65] := k
  refine ⟨fun m h' _ i => ∃ j : Nat, i = j ∧ j ≤ u.hits.length ∧ m = u.hits.length - j ∧ St none_ h h' [A.blk b1 (rpV u ga gc ha hc na nc ra rc).toArray 65], ⟨_, 0, rfl, Nat.zero_le _, rfl, k⟩, ?_⟩
  clear k
  rintro m h7 _ n i ⟨j, rfl, hj, rfl, k⟩
  refine ⟨_, _, _, k.rd (by rfl), ?_⟩
  have stp : ∀ (_ : decide ((j : Int) < (u.hits.length : Int)) = true), _ := fun h1 => Int.ofNat_lt.1 (of_decide_eq_true h1)
  refine cond_split (fun h1 => cond_split (fun h2 => ?_) (fun h2 => ?_)) (fun h1 => ?_)
  · have hjl := stp h1
    refine ⟨_, _, _, k.rd (by rfl), ?_⟩
    refine r.hits.one k.ext (by omega) (by omega) fun ad z hz hcz hrd => ⟨_, _, _, hcz 1 _ rfl, u.hits.length - (j + 1), by omega, j + 1, wrap_nat hjl (by omega), hjl, rfl, k⟩
  all_goals
    refine ⟨fun m h' _ i => ∃ j : Nat, i = j ∧ j ≤ u.rows.length ∧ m = u.rows.length - j ∧ St none_ h h' [A.blk b1 (rpV u ga gc ha hc na nc ra rc).toArray 65], ⟨_, 0, rfl, Nat.zero_le _, rfl, k⟩, ?_⟩
    clear k
    rintro m h20 _ n2 i2 ⟨j2, rfl, hj2, rfl, k⟩
    refine ⟨_, _, _, k.rd (by rfl), loopD (fun h1 h2 => ?_) (fun hend => ⟨_, rfl, k.ext⟩)⟩
    have hjl : j2 < u.rows.length := Int.ofNat_lt.1 (of_decide_eq_true h1)
    refine ⟨_, _, _, k.rd (by rfl), ?_⟩
    refine r.rows.one k.ext (by omega) (by omega) fun ad z hz hcz hrd => ⟨_, _, _, hcz 0 _ rfl, u.rows.length - (j2 + 1), by omega, j2 + 1, wrap_nat hjl (by omega), hjl, rfl, k⟩
end Go.Proofs.YtgdgebmlcgohhaaGreatDoor.F
