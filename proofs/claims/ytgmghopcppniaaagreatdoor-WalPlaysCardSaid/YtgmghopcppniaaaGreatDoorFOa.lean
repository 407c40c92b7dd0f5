/- wal's laws: WalAgain: walked. -/
import Derived.Test.YtgmghopcppniaaaGreatDoorFN
namespace Go.Proofs.YtgmghopcppniaaaGreatDoor
open Go.RowKit Go.Lib

/-- behind so many acts of a law -/
def LSt (w0 : World) (xb : Nat) (M : Int) (i : Nat) (wr : World) : Prop := ∃ (A : Nat → Prop) (L : LogD) (D : DiskD), WLaw wr A xb L D ∧ (∀ k, A k → w0.heap.size ≤ k) ∧ RunInv L D i M ∧ Fr (fun _ => False) w0 wr
section
variable {w wr w' : World} {A S : Nat → Prop} {xb lp pb mb : Nat} {ve vs : Value} {L : LogD} {D : DiskD} {M : Int} {i : Nat}
theorem WLaw.quiet (h : WLaw w A xb L D) (hf : Fr (fun _ => False) w w') : WLaw w' A xb L D := by
 obtain ⟨S, lp, pb, mb, ve, vs, h⟩ := h
 exact ⟨S, lp, pb, mb, ve, vs, h.quiet hf⟩
/-- a law's log by itself -/
theorem WLawAt.sh (h : WLawAt w A S xb lp pb mb ve vs L D) : ShAt w (fun k => A k ∧ k ≠ xb) lp pb mb L D :=
 ⟨S, ve, vs, h.wal, fun k hk => ⟨h.all hk, fun e => by subst e; rcases hk with hk | hk; exact h.far.1 hk; exact h.far.2 hk⟩, fun k hk => h.lt k hk.1⟩
theorem logOf_same {st : StD} {pre : List SegD} {last : SegD} : logOf st (pre ++ [last]) = ⟨st, pre, last⟩ := by unfold logOf; simp
end
end Go.Proofs.YtgmghopcppniaaaGreatDoor
