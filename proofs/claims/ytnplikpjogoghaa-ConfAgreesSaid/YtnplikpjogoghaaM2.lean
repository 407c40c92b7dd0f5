/- What is agreed, in plain words. -/
import Derived.Test.YtnplikpjogoghaaM1
import Derived.Test.YtnplikpjogoghaaC4
namespace Go.Proofs.Ytnplikpjogoghaa

theorem sortL_perm (l : List Int) : (sortL l).Perm l := List.mergeSort_perm _ _
theorem sortL_up (l : List Int) : (sortL l).Pairwise (fun x y => x ≤ y) := by
  have := List.pairwise_mergeSort (le := fun x y : Int => decide (x ≤ y)) (by intro a b c h1 h2; simp at *; omega) (by intro a b; simp; omega) l
  exact this.imp fun h => by simpa using h
theorem ge_sort (l : List Int) (n : Int) : geN l n = geN (sortL l) n := ((sortL_perm l).countP_eq _).symm
theorem up_at {t : List Int} (h : t.Pairwise (fun x y => x ≤ y)) {i j : Nat} {x y : Int} (hi : t[i]? = some x) (hj : t[j]? = some y) (hij : i ≤ j) : x ≤ y := by
  by_cases e : i = j
  · subst e; rw [hi] at hj; obtain rfl := Option.some.inj hj; exact Int.le_refl _
  · obtain ⟨hi', rfl⟩ := List.getElem?_eq_some_iff.1 hi
    obtain ⟨hj', rfl⟩ := List.getElem?_eq_some_iff.1 hj
    exact List.pairwise_iff_getElem.1 h i j hi' hj' (by omega)
theorem up_ge {t : List Int} (h : t.Pairwise (fun x y => x ≤ y)) {i : Nat} {v : Int} (hi : t[i]? = some v) : t.length - i ≤ geN t v := by
  have e : geN t v = geN (t.take i) v + geN (t.drop i) v := by unfold geN; rw [← List.countP_append, List.take_append_drop]
  have e2 : geN (t.drop i) v = (t.drop i).length := by
    unfold geN
    rw [List.countP_eq_length]
    intro x hx
    obtain ⟨j, hj⟩ := List.getElem?_of_mem hx
    rw [List.getElem?_drop] at hj
    simpa using up_at h hi hj (by omega)
  rw [List.length_drop] at e2
  omega
theorem up_lt {t : List Int} (h : t.Pairwise (fun x y => x ≤ y)) {i : Nat} {v x : Int} (hi : t[i]? = some v) (hx : v < x) : geN t x ≤ t.length - (i + 1) := by
  have e : geN t x = geN (t.take (i + 1)) x + geN (t.drop (i + 1)) x := by unfold geN; rw [← List.countP_append, List.take_append_drop]
  have e2 : geN (t.take (i + 1)) x = 0 := by
    unfold geN
    rw [List.countP_eq_zero]
    intro y hy
    obtain ⟨j, hj⟩ := List.getElem?_of_mem hy
    have hj2 : j < i + 1 := by have := (List.getElem?_eq_some_iff.1 hj).1; rw [List.length_take] at this; omega
    rw [List.getElem?_take, if_pos hj2] at hj
    have := up_at h hj hi (by omega)
    simp; omega
  have e3 := ge_le (t.drop (i + 1)) x
  rw [List.length_drop] at e3
  omega
theorem agreed_at {l : List Int} (h : 0 < l.length) : (sortL l)[l.length - 1 - l.length / 2]? = some (agreedZ l) := by
  unfold agreedZ
  rw [List.getElem?_reverse (by rw [sortL_length]; omega), sortL_length, List.getElem?_eq_getElem (by rw [sortL_length]; omega)]
  rfl
theorem agreed_mem {l : List Int} (h : 0 < l.length) : agreedZ l ∈ l := (sortL_perm l).mem_iff.1 (List.mem_of_getElem? (agreed_at h))
theorem agreed_ge {l : List Int} (h : 0 < l.length) : l.length < 2 * geN l (agreedZ l) := by
  have := up_ge (sortL_up l) (agreed_at h)
  rw [← ge_sort, sortL_length] at this
  omega
theorem agreed_max {l : List Int} (h : 0 < l.length) {x : Int} (hx : l.length < 2 * geN l x) : x ≤ agreedZ l := by
  apply Int.not_lt.1
  intro hlt
  have := up_lt (sortL_up l) (agreed_at h) hlt
  rw [← ge_sort, sortL_length] at this
  omega
theorem best_agreed {l : List Int} {best : Int} {found : Bool} (h : bestTo l l.length best found) : best = agreedZ l := by
  unfold bestTo at h
  rw [List.take_length] at h
  rcases Nat.eq_zero_or_pos l.length with h0 | h0
  · obtain rfl : l = [] := List.length_eq_zero_iff.1 h0
    cases found with
    | false => rw [(h.1 rfl).1]; simp [agreedZ, sortL]
    | true => exact absurd (h.2 rfl).1 (by simp)
  · cases found with
    | false => exact absurd (agreed_ge h0) ((h.1 rfl).2 _ (agreed_mem h0))
    | true =>
      obtain ⟨_, h2, h3⟩ := h.2 rfl
      exact Int.le_antisymm (agreed_max h0 h2) (h3 _ (agreed_mem h0) (agreed_ge h0))
end Go.Proofs.Ytnplikpjogoghaa
