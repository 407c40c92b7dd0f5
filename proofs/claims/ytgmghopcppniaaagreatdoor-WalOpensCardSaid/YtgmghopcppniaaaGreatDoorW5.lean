/- Rows of strings that came in. -/
import Derived.Test.YtgmghopcppniaaaGreatDoorFW
import Derived.Deep.Strs
namespace Go.Proofs.YtgmghopcppniaaaGreatDoor
open Go.RowKit Go.Lib

section
variable {H : Type} {enc : TypeId × Value → H} {W : World}
theorem row_strsW {n : Nat} {cs : List Value} {x : DataW H × List MemPlace} (h : DataW.trod enc Tryz.prog W 0 (fun _ => true) true n 48 cs = some x) :
    ∃ (v : Value) (l : List Str), cs = [v] ∧ SRow W (fun k => k < W.heap.size) 1 v l.length (l.map encS) := by
  rcases Go.Deep.open_strs Tryz.underlying48 Tryz.underlying9 (by kernel_rfl) h with ⟨hcs, _⟩ | ⟨a, len, cap, m, Sx, hcs, _, hl, hm, hmm, _, hi⟩
  · exact ⟨_, [], hcs, SRow.nil _ _ _⟩
  · rw [if_pos rfl] at hmm
    have hb : ∀ i, ∃ t : Str, Sx i = bs t := fun i => bs_of (Sx i)
    obtain ⟨T, hT⟩ := Classical.axiomOfChoice hb
    refine ⟨_, (List.range len).map T, hcs, ?_⟩
    rw [List.length_map, List.length_range]
    refine ⟨by simp, some a, cap, rfl, hl, hm, fun h => (by cases h), fun h0 => ?_⟩
    have c0 := (hi 0 (by omega)).1
    have hx : a.add 0 = a := by simp [Addr.add]
    rw [hx] at c0
    have hs : a.spot = none := by
      unfold World.cell? at c0
      split at c0
      · cases hsp : a.spot with
        | none => rfl
        | some _ => simp [hsp] at c0
      · cases c0
    obtain ⟨b, off, sp⟩ := a
    simp only at hs
    subst hs
    refine ⟨b, off, rfl, World.block_lt_of_cell? W _ c0, fun i u hu => ?_⟩
    rw [List.getElem?_map, List.getElem?_map] at hu
    have hil : i < len := by
      rcases Nat.lt_or_ge i len with h | h
      · exact h
      · rw [List.getElem?_eq_none (by simpa using h)] at hu; cases hu
    rw [List.getElem?_range hil] at hu
    simp only [Option.map_some, Option.some.injEq] at hu
    have h2 := (hi i (by omega)).1
    rw [Addr.add_lit, hT i] at h2
    rw [← hu]
    exact h2
end
end Go.Proofs.YtgmghopcppniaaaGreatDoor
