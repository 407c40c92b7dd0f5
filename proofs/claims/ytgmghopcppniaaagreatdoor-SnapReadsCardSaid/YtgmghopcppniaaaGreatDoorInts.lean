/- A slice of numbers that is read as a list; one that came in. -/
import Derived.Test.YtgmghopcppniaaaGreatDoorRow
import Derived.OpenShut
namespace Go.Proofs.YtgmghopcppniaaaGreatDoor
open Go.RowKit Go.Lib

/-- a slice of numbers that reads as l -/
def IR (w : World) (S : Nat → Prop) (v : Value) (l : List Int) : Prop := SRow w S 1 v l.length (l.map (Value.int .i64))
theorem IR.form {w : World} {S : Nat → Prop} {v : Value} {l : List Int} (h : IR w S v l) : ∃ a cap, v = .slice a l.length cap ∧ l.length ≤ cap ∧ cap ≤ 9223372036854775807 := let ⟨_, a, cap, h2, h3, h4, _⟩ := h; ⟨a, cap, h2, h3, by unfold maxLen at h4; exact h4⟩
theorem IR.cells {w : World} {S : Nat → Prop} {a : Option Addr} {cap : Nat} {l : List Int} (h : IR w S (.slice a l.length cap) l) (hn : 0 < l.length) :
    ∃ g off, a = some ⟨g, off, none⟩ ∧ ∀ i p, l[i]? = some p → w.cell? ⟨g, off + i, none⟩ = some (.int .i64 p) := by
  obtain ⟨g, off, h1, h2⟩ := SRow.cell h hn
  exact ⟨g, off, h1, fun i p hp => h2 _ _ (by simp [hp])⟩
theorem IR.fr {w w' : World} {S o : Nat → Prop} {v : Value} {l : List Int} (h : IR w S v l) (hf : Fr o w w') (ho : ∀ k, S k → ¬ o k) : IR w' S v l := SRow.fr h hf ho
theorem IR.grow {w w' : World} {S : Nat → Prop} {v : Value} {l : List Int} (h : IR w S v l) (hf : Fr (fun _ => False) w w') : IR w' S v l := h.fr hf fun _ _ h => h
theorem IR.drewN {w : World} {S : Nat → Prop} {v : Value} {l : List Int} (h : IR w S v l) (n : Nat) : IR (w.drewN n) S v l := h.grow ((Fr.refl _ _).drewN n)
theorem IR.mono {w : World} {S S' : Nat → Prop} {v : Value} {l : List Int} (h : IR w S v l) (hs : ∀ k, S k → S' k) : IR w S' v l := SRow.mono h hs
theorem IR.lit {w : World} {S : Nat → Prop} {g e : Nat} {f : Nat × Nat} {l : List Int} (h : w.heap[g]? = some (.cells (l.map (Value.int .i64)).toArray e f)) (hl : l.length ≤ maxLen) (hS : S g) : IR w S (.slice (some ⟨g, 0, none⟩) l.length l.length) l :=
  SRow.of_block h (by simp) hl hS
theorem IR.nil (w : World) (S : Nat → Prop) : IR w S (.slice none 0 0) [] := SRow.nil _ _ _

/-- nil, or a row of 'cap' numbers, of which the first 'len' are the slice's -/
def ArgRow (w : World) (a : Option Addr) (len cap : Nat) (zs : List Int) : Prop :=
  (a = none ∧ len = 0 ∧ cap = 0 ∧ zs = []) ∨
  ∃ x, a = some x ∧ len ≤ cap ∧ cap ≤ maxLen ∧ zs.length = cap ∧ (∀ i, i < zs.length → w.cell? (x.add i) = some (.int .i64 (zs.getD i 0))) ∧ ∀ n ∈ zs, (Lit.int .i64 n).wf = true

theorem IR.of_arg {w : World} {a : Option Addr} {len cap : Nat} {zs : List Int} (h : ArgRow w a len cap zs) : ∃ l : List Int, l.length = len ∧ IR w (fun k => k < w.heap.size) (.slice a len cap) l ∧ ∀ n ∈ l, -9223372036854775808 ≤ n ∧ n ≤ 9223372036854775807 := by
  rcases h with ⟨rfl, rfl, rfl, rfl⟩ | ⟨x, rfl, h1, h2, h3, h4, h5⟩
  · exact ⟨[], rfl, SRow.nil _ _ _, by simp⟩
  · have hl : (zs.take len).length = len := by rw [List.length_take, h3]; omega
    refine ⟨zs.take len, hl, ?_, fun n hn => bounds_i64 (h5 n (List.mem_of_mem_take hn))⟩
    unfold IR
    rw [hl]
    refine ⟨by simp [h3, h1], some x, cap, rfl, h1, h2, fun h => (by cases h), fun h0 => ?_⟩
    have c0 := h4 0 (by omega)
    have hx : x.add 0 = x := by simp [Addr.add]
    rw [hx] at c0
    have hs : x.spot = none := by
      unfold World.cell? at c0
      split at c0
      · cases hsp : x.spot with
        | none => rfl
        | some _ => simp [hsp] at c0
      · cases c0
    obtain ⟨b, off, sp⟩ := x
    simp only at hs
    subst hs
    refine ⟨b, off, rfl, World.block_lt_of_cell? w _ c0, fun i u hu => ?_⟩
    rw [List.map_take, List.getElem?_take] at hu
    split at hu
    · have hi : i < zs.length := by omega
      have := h4 i hi
      rw [Addr.add_lit] at this
      rw [this]
      rw [List.getElem?_map, List.getElem?_eq_getElem hi] at hu
      simp [List.getD, hi] at hu ⊢
      exact hu
    · cases hu
end Go.Proofs.YtgmghopcppniaaaGreatDoor
