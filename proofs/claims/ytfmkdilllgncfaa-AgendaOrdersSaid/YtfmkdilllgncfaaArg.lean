/- A slice of numbers that came in, as the walks read it. -/
import Derived.Test.YtfmkdilllgncfaaR1
import Derived.OpenShut
namespace Go.Proofs.Ytfmkdilllgncfaa
open Go.RowKit Go.Lib

/-- nil, or a row of 'cap' numbers, of which the first 'len' are the slice's -/
def ArgRow (w : World) (a : Option Addr) (len cap : Nat) (zs : List Int) : Prop :=
  (a = none ∧ len = 0 ∧ cap = 0 ∧ zs = []) ∨
  ∃ x, a = some x ∧ len ≤ cap ∧ cap ≤ maxLen ∧ zs.length = cap ∧ (∀ i, i < zs.length → w.cell? (x.add i) = some (.int .i64 (zs.getD i 0))) ∧ ∀ n ∈ zs, (Lit.int .i64 n).wf = true

theorem IR.of_arg {w : World} {a : Option Addr} {len cap : Nat} {zs : List Int} (h : ArgRow w a len cap zs) : ∃ l : List Int, l.length = len ∧ IR w (fun k => k < w.heap.size) (.slice a len cap) l ∧ ∀ n ∈ l, -9223372036854775808 ≤ n ∧ n ≤ 9223372036854775807 := by
  rcases h with ⟨rfl, rfl, rfl, rfl⟩ | ⟨x, rfl, h1, h2, h3, h4, h5⟩
  · exact ⟨[], rfl, SRow.nil _ _ _, by simp⟩
  · have hl : (zs.take len).length = len := by rw [List.length_take, h3]; omega
    refine ⟨zs.take len, hl, ?_, fun n hn => bounds_i64 (h5 n (List.mem_of_mem_take hn))⟩
    unfold IR
    rw [hl]
    refine ⟨by simp [h3, h1], some x, cap, rfl, h1, h2, fun h => (by cases h), fun h0 => ?_⟩
    have c0 := h4 0 (by omega)
    have hx : x.add 0 = x := by simp [Addr.add]
    rw [hx] at c0
    have hs : x.spot = none := by
      unfold World.cell? at c0
      split at c0
      · cases hsp : x.spot with
        | none => rfl
        | some _ => simp [hsp] at c0
      · cases c0
    obtain ⟨b, off, sp⟩ := x
    simp only at hs
    subst hs
    refine ⟨b, off, rfl, World.block_lt_of_cell? w _ c0, fun i u hu => ?_⟩
    rw [List.map_take, List.getElem?_take] at hu
    split at hu
    · have hi : i < zs.length := by omega
      have := h4 i hi
      rw [Addr.add_lit] at this
      rw [this]
      rw [List.getElem?_map, List.getElem?_eq_getElem hi] at hu
      simp [List.getD, hi] at hu ⊢
      exact hu
    · cases hu
end Go.Proofs.Ytfmkdilllgncfaa
