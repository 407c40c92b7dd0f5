/- Bases that came in a row. -/
import Derived.Test.YtgmghopcppniaaaGreatDoorWrap
import Derived.Test.YtgmghopcppniaaaGreatDoorS27
namespace Go.Proofs.YtgmghopcppniaaaGreatDoor
open Go.RowKit Go.Lib

theorem list_of {α : Type} {P : Nat → α → Prop} : ∀ n : Nat, (∀ i, i < n → ∃ x, P i x) → ∃ l : List α, l.length = n ∧ ∀ i x, l[i]? = some x → P i x
  | 0, _ => ⟨[], rfl, fun i x h => by simp at h⟩
  | n + 1, h => by
    obtain ⟨l, hl, hp⟩ := list_of n fun i hi => h i (by omega)
    obtain ⟨x, hx⟩ := h n (by omega)
    refine ⟨l ++ [x], by simp [hl], fun i y hy => ?_⟩
    rw [List.getElem?_append] at hy
    split at hy
    · exact hp i y hy
    · rw [List.getElem?_singleton] at hy
      split at hy
      · obtain rfl := Option.some.inj hy
        obtain rfl : i = n := by omega
        exact hx
      · cases hy
section
open Go.ChangeShapes Go.WideShapes Go.ChangeAt Go.Deep
variable {H : Type} {enc : TypeId × Value → H} {W : World}
theorem bases_of {fuel : Nat} {cs : List Value} {x : DataW H × List MemPlace} (h : DataW.trod enc Tryz.prog W 0 (fun _ => true) true fuel 38 cs = some x) :
    ∃ (v : Value) (l : List (BaseD × Value)), cs = [v] ∧ BasesAt W (fun k => k < W.heap.size) v l := by
  rcases open_slice_fields (by kernel_rfl) u24 (by kernel_rfl) (by kernel_rfl) h with ⟨rfl, _⟩ | ⟨a, len, cap, m, rfl, hl, hm, hmm, hi⟩
  · exact ⟨_, [], rfl, ⟨none, 0, rfl, Nat.le_refl _, by decide, fun h => absurd h (by decide)⟩, by simp⟩
  · have s24 : Fs24.size = 4 := by kernel_rfl
    obtain ⟨l, hln, hp⟩ := list_of (P := fun i (q : BaseD × Value) => (∀ j u, (cellsB q)[j]? = some u → W.cell? (a.add (i * 4 + j)) = some u) ∧ BaseRaw W (fun k => k < W.heap.size) q.1 q.2) len fun i hil => by
      obtain ⟨n, hf⟩ := hi i (by omega)
      rw [s24] at hf
      obtain ⟨b, v, c0, c1, c2, c3, hb⟩ := base_fields (c := fun j => W.cell? (a.add (i * 4 + j))) hf
      refine ⟨⟨b, v⟩, fun j u hu => ?_, hb⟩
      match j, hu with
      | 0, hu => rw [c0]; exact hu
      | 1, hu => rw [c1]; exact hu
      | 2, hu => rw [c2]; exact hu
      | 3, hu => rw [c3]; exact hu
      | _ + 4, hu => simp [cellsB] at hu
    subst hln
    refine ⟨_, l, rfl, ⟨some a, cap, rfl, hl, by unfold maxLen at hm; exact hm, fun h0 => ?_⟩, fun q hq => ?_⟩
    · obtain ⟨q, hq⟩ : ∃ q, l[0]? = some q := ⟨_, List.getElem?_eq_getElem h0⟩
      have c0 := (hp 0 q hq).1 0 _ rfl
      have hx0 : a.add (0 * 4 + 0) = a := by simp [Addr.add]
      rw [hx0] at c0
      have hs : a.spot = none := by
        unfold World.cell? at c0
        split at c0
        · cases hsp : a.spot with
          | none => rfl
          | some _ => simp [hsp] at c0
        · cases c0
      obtain ⟨b, off, sp⟩ := a
      simp only at hs
      subst hs
      refine ⟨b, off, rfl, World.block_lt_of_cell? W _ c0, fun i q j u hq hu => ?_⟩
      have := (hp i q hq).1 j u hu
      rw [Addr.add_lit] at this
      rw [Nat.add_assoc]
      exact this
    · obtain ⟨i, hi'⟩ := List.getElem?_of_mem hq
      exact (hp i q hi').2
theorem row_ints {n : Nat} {cs : List Value} {x : DataW H × List MemPlace} (h : DataW.trod enc Tryz.prog W 0 (fun _ => true) true n 22 cs = some x) : ∃ (v : Value) (l : List Int), cs = [v] ∧ IR W (fun k => k < W.heap.size) v l := by
  obtain ⟨v, l, h1, h2, _⟩ := ints_of h
  exact ⟨v, l, h1, h2⟩
end
end Go.Proofs.YtgmghopcppniaaaGreatDoor
