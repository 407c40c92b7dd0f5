/- Layer 3 in plain words: what a law finds behind a crash (no program). -/
import Derived.Test.YtgmghopcppniaaaGreatDoorFC
namespace Go.Proofs.YtgmghopcppniaaaGreatDoor

/-! ### the capacity stays -/
theorem then_cap (D : DiskD) (l : List FileD) : (thenD D l).2.most = D.most := by unfold thenD; split; exact turn_files.2; exact turn_files.2
theorem append_cap (D : DiskD) (n x : Str) : (appendD D n x).2.most = D.most := by
 unfold appendD
 repeat' split
 all_goals first | rfl | exact then_cap _ _
theorem sync_cap (D : DiskD) (n : Str) : (syncD D n).2.most = D.most := by
 unfold syncD
 repeat' split
 all_goals first | rfl | exact then_cap _ _
theorem trunc_cap (D : DiskD) (n : Str) (k : Int) : (truncD D n k).2.most = D.most := by
 unfold truncD
 repeat' split
 all_goals first | rfl | exact then_cap _ _
theorem readSeg_cap (D : DiskD) (st : StD) (n : Nat) (b : Bool) : (readSeg D st n b).2.most = D.most := by
 unfold readSeg
 split
 ·rfl
 ·dsimp only
  repeat' split
  all_goals first | rfl | exact trunc_cap _ _ _ | exact (sync_cap _ _).trans (trunc_cap _ _ _)
theorem readAll_cap : ∀ (l : List Nat) (st : StD) (segs : List SegD) (D : DiskD), (readAll l st segs D).2.most = D.most
 | [], _, _, _ => rfl
 | n :: t, st, segs, D => by
  unfold readAll
  dsimp only
  split
  ·exact readSeg_cap _ _ _ _
  ·exact (readAll_cap t _ _ _).trans (readSeg_cap _ _ _ _)
theorem openD_cap (D : DiskD) : (openD D).2.most = D.most := by
 unfold openD
 split
 ·unfold firstD
  split
  ·exact append_cap _ _ _
  ·exact (sync_cap _ _).trans (append_cap _ _ _)
 ·exact readAll_cap _ _ _ _

/-! ### acts under a fuse -/
section
variable {L : LogD} {D : DiskD} {R : Nat → List RecD} {b i : Nat} {a : ActW} {xb : UInt8 → Int → UInt8} {keep noise : List Int} {again : Int}
structure KInv (L : LogD) (D : DiskD) (i : Nat) : Prop where
 whole : ∃ R b, Whole L D R b
 num : L.last.num ≤ 1 + i
 len : L.st.ents.length ≤ 5 * i
 most : D.most = 100000
/-- what is found: all as it was; or a part of what was to come -/
def Found (L : LogD) (a : ActW) (s : StD) : Prop :=
 (s.t = L.st.t ∧ s.v = L.st.v ∧ s.ents = L.st.ents) ∨
 (pickZ a.op 10 = 6 ∧ s.t = L.st.t ∧ s.v = L.st.v ∧ s.ents = []) ∨
 (pickZ a.op 10 ≠ 6 ∧ ((s.t = L.st.t ∧ s.v = L.st.v) ∨ (s.t = (hardW a).1 ∧ s.v = (hardW a).2)) ∧ (∃ k, k ≤ (entriesW a).length ∧ s.ents = ((entriesW a).take k).foldl putE L.st.ents) ∧ ∀ e ∈ entriesW a, GoodE e)
end
end Go.Proofs.YtgmghopcppniaaaGreatDoor
