/- Plain laws of two rows that meet. -/
import Derived.Test.YtnplikpjogoghaaX1
import Derived.Test.YtnplikpjogoghaaW1
namespace Go.Proofs.Ytnplikpjogoghaa

theorem meet_count : ∀ (l a b : List Int), meetB l a b = false → cntB l a + cntB l b ≤ l.length
  | [], _, _, _ => by simp [cntB]
  | x :: l, a, b, h => by
    unfold meetB at h
    rw [List.any_cons, Bool.or_eq_false_iff] at h
    have := meet_count l a b h.2
    unfold cntB at this ⊢
    rw [List.filter_cons, List.filter_cons, List.length_cons]
    have h1 := h.1
    cases ha : hasB a x <;> cases hb : hasB b x <;> simp [ha, hb] at h1 ⊢ <;> omega
theorem cnt_sub {l m a : List Int} (hl : l.Nodup) (hs : ∀ x ∈ l, x ∈ m) : cntB l a ≤ cntB m a := by
  unfold cntB
  refine nodup_le _ _ (hl.sublist List.filter_sublist) fun x hx => ?_
  rw [List.mem_filter] at hx ⊢
  exact ⟨hs x hx.1, hx.2⟩
theorem most_meet {l a b : List Int} (ha : l.length / 2 < cntB l a) (hb : l.length / 2 < cntB l b) : meetB l a b = true := by
  cases h : meetB l a b with
  | true => rfl
  | false => have := meet_count l a b h; omega
theorem next_meet {l m a b : List Int} (h : NextP l m) (ha : l.length / 2 < cntB l a) (hb : m.length / 2 < cntB m b) : meetB l a b = true ∨ meetB m a b = true := by
  obtain ⟨h1, h2, h3⟩ := h
  rcases h3 with ⟨h3, h4⟩ | ⟨h3, h4⟩
  · right
    cases h : meetB m a b with
    | true => rfl
    | false =>
      have := meet_count m a b h
      have := cnt_sub (a := a) (rises_nodup h1.2.2.1) h4
      omega
  · left
    cases h : meetB l a b with
    | true => rfl
    | false =>
      have := meet_count l a b h
      have := cnt_sub (a := b) (rises_nodup h2.2.2.1) h4
      omega
end Go.Proofs.Ytnplikpjogoghaa
