/- What function 9 keeps: lists of pieces, of requests, of replies. Conditions: none. -/
import Derived.Test.YtgdgebmlcgohhaaGreatDoorFG
namespace Go.Proofs.YtgdgebmlcgohhaaGreatDoor.F
open Go Go.VC Go.Proofs
set_option linter.unusedSimpArgs false
set_option linter.unusedVariables false
set_option maxRecDepth 100000
attribute [local irreducible] CallsH RunsTo PureTo

variable {S F G : Nat → Prop} {h0 h h1 : Heap} {L R L' : List A} {a b0 la wa : Option Addr} {l c l2 c2 p b cl cw g t e sz bt : Nat} {n : Int} {vs news : List Value} {z : Value}
structure Sk where
  a : Option Addr
  c : Nat
  xs : List Bytes
def skV (s : Sk) : List Value := [.slice s.a s.xs.length s.c]
abbrev kpE : El (List Bytes) := ⟨Sk, Sk.xs, 24, 1, skV, fun s => bytE.L s.a s.xs.length s.c s.xs, fun _ => rfl, fun s v hv => by simp [skV] at hv; subst hv; rfl, by omega,
  fun F h s => RoX bytE F h s.a s.xs.length s.xs, fun r m hf => r.at m hf, fun {_ _ _ _ s} k => El.ro (E := bytE) k⟩
structure Sqa where
  q : Rq
  na : Option Addr
  nc : Nat
  ea : Option Addr
  ec : Nat
abbrev askE : El Rq := ⟨Sqa, Sqa.q, 57, 6, fun s => rqV s.q s.na s.nc s.ea s.ec, fun s => A.all [texE.L s.na s.q.names.length s.nc s.q.names, evE.L s.ea s.q.evs.length s.ec s.q.evs], fun _ => rfl, fun s v hv => by simp at hv; rcases hv with rfl | rfl | rfl | rfl | rfl | rfl <;> rfl, by omega,
  fun F h s => RqRo F h s.q s.na s.ea, fun r m hf => r.at m hf, fun {_ _ _ _ s} k => by
    have k := St.open (L := [texE.L s.na s.q.names.length s.nc s.q.names, evE.L s.ea s.q.evs.length s.ec s.q.evs]) k
    exact ⟨El.ro (E := texE) k, El.ro (E := evE) k.drop⟩⟩
structure Spa where
  u : Rp
  ga : Option Addr
  gc : Nat
  ha : Option Addr
  hc : Nat
  na : Option Addr
  nc : Nat
  ra : Option Addr
  rc : Nat
abbrev tellE : El Rp := ⟨Spa, Spa.u, 65, 12, fun s => rpV s.u s.ga s.gc s.ha s.hc s.na s.nc s.ra s.rc, fun s => A.all [errE.L s.ga s.u.errs.length s.gc s.u.errs, hitE.L s.ha s.u.hits.length s.hc s.u.hits, texE.L s.na s.u.names.length s.nc s.u.names, rowE.L s.ra s.u.rows.length s.rc s.u.rows], fun _ => rfl, fun s v hv => by simp at hv; rcases hv with rfl | rfl | rfl | rfl | rfl | rfl | rfl | rfl | rfl | rfl | rfl | rfl <;> rfl, by omega,
  fun F h s => RpRo F h s.u s.ga s.ha s.na s.ra, fun r m hf => r.at m hf, fun {_ _ _ _ s} k => by
    have k := St.open (L := [errE.L s.ga s.u.errs.length s.gc s.u.errs, hitE.L s.ha s.u.hits.length s.hc s.u.hits, texE.L s.na s.u.names.length s.nc s.u.names, rowE.L s.ra s.u.rows.length s.rc s.u.rows]) k
    exact ⟨El.ro (E := errE) k, El.ro (E := hitE) k.drop, El.ro (E := texE) k.drop.drop, El.ro (E := rowE) k.drop.drop.drop⟩⟩
end Go.Proofs.YtgdgebmlcgohhaaGreatDoor.F
