/- What layer 11 reads, in the library's words; what is known of cuts (no program). -/
import Derived.Test.YtpinjgdnhbogoaaGreatDoorX1
import Derived.Lib.IndexMore
import Derived.Lib.SlTrimSet
import Derived.Lib.Strings
namespace Go.Proofs.YtpinjgdnhbogoaaGreatDoor

theorem cutL_some : ∀ {p s a b : Str}, cutL p s = some (a, b) → s = a ++ (p ++ b)
  | p, [], a, b, h => by
    unfold cutL at h
    split at h
    · rename_i hp
      simp only [Option.some.injEq, Prod.mk.injEq] at h
      obtain ⟨rfl, rfl⟩ := h
      cases p with
      | nil => rfl
      | cons _ _ => simp at hp
    · cases h
  | p, x :: t, a, b, h => by
    unfold cutL at h
    split at h
    · rename_i hp
      simp only [Option.some.injEq, Prod.mk.injEq] at h
      obtain ⟨rfl, rfl⟩ := h
      obtain ⟨r, hr⟩ := List.isPrefixOf_iff_prefix.1 hp
      rw [← hr, List.drop_left]; rfl
    · cases hc : cutL p t with
      | none => rw [hc] at h; cases h
      | some q =>
        rw [hc] at h
        simp only [Option.map_some, Option.some.injEq, Prod.mk.injEq] at h
        obtain ⟨rfl, rfl⟩ := h
        have := cutL_some (a := q.1) (b := q.2) hc
        rw [List.cons_append, ← this]
theorem cutL_lens {p s a b : Str} (h : cutL p s = some (a, b)) : s.length = a.length + (p.length + b.length) := by
  rw [cutL_some h, List.length_append, List.length_append]
theorem index_cut : ∀ (p s : Str), Lib.index s p = match cutL p s with | some q => (q.1.length : Int) | none => -1
  | p, [] => by
    unfold Lib.index cutL
    cases hp : p.isEmpty <;> simp
  | p, x :: t => by
    unfold Lib.index cutL
    have ih := index_cut p t
    by_cases hp : p.isPrefixOf (x :: t) = true
    · rw [if_pos hp, if_pos hp]; rfl
    · rw [if_neg hp, if_neg hp]
      cases hc : cutL p t with
      | none => rw [hc] at ih; simp only at ih; rw [ih]; rfl
      | some q =>
        rw [hc] at ih
        simp only at ih
        rw [ih, if_neg (by simp)]
        simp
theorem cut_lib (p s : Str) : Lib.cut s p = match cutL p s with | some q => (q.1, q.2, true) | none => (s, [], false) := by
  have h := index_cut p s
  unfold Lib.cut
  cases hc : cutL p s with
  | none => rw [hc] at h; simp only at h; rw [h]; rfl
  | some q =>
    rw [hc] at h
    simp only at h
    rw [h, if_pos (by omega)]
    have e := cutL_some (a := q.1) (b := q.2) hc
    have e1 : ((q.1.length : Int)).toNat = q.1.length := by omega
    rw [e1]
    conv => lhs; rw [e]
    rw [List.take_left, ← List.drop_drop, List.drop_left, List.drop_left]
theorem contains_lib (s : Str) (c : UInt8) : Lib.contains s [c] = s.contains c := by
  unfold Lib.contains
  rw [index_cut]
  induction s with
  | nil => rfl
  | cons x t ih =>
    unfold cutL
    by_cases h : x = c
    · subst h
      simp [List.isPrefixOf]
    · have h1 : ([c] : Str).isPrefixOf (x :: t) = false := by simp [List.isPrefixOf]; exact fun e => h e.symm
      rw [h1, if_neg (by simp)]
      have h2 : (x :: t).contains c = t.contains c := by simp; intro e; exact absurd e.symm h
      rw [h2, ← ih]
      cases cutL [c] t with
      | none => rfl
      | some q =>
        have h3 : (0 : Int) ≤ ((x :: q.1).length : Int) := Int.natCast_nonneg _
        have h4 : (0 : Int) ≤ (q.1.length : Int) := Int.natCast_nonneg _
        show decide ((0 : Int) ≤ ((x :: q.1).length : Int)) = decide ((0 : Int) ≤ (q.1.length : Int))
        rw [decide_eq_true h3, decide_eq_true h4]
theorem trim_lib (s : Str) : Lib.trimLeftS s [32, 9, 10, 13] = trimL s := by
  unfold Lib.trimLeftS trimL
  congr 1
  funext c
  show List.contains [32, 9, 10, 13] c = blankC c
  unfold blankC
  simp only [List.contains_cons, List.contains_nil, Bool.or_false, Bool.or_assoc]
theorem strip_lib (p s : Str) : (Lib.trimPrefix s p, Lib.hasPrefix s p) = match stripL p s with | some r => (r, true) | none => (s, false) := by
  unfold Lib.trimPrefix Lib.hasPrefix stripL
  by_cases h : p.isPrefixOf s = true
  · rw [if_pos h, if_pos h, h]
  · rw [if_neg h, if_neg h]; simp [h]
theorem stripL_some {p s r : Str} (h : stripL p s = some r) : s = p ++ r := by
  unfold stripL at h
  split at h
  · rename_i hp
    obtain ⟨q, hq⟩ := List.isPrefixOf_iff_prefix.1 hp
    rw [← Option.some.inj h, ← hq, List.drop_left]
  · cases h
theorem name_le (s : Str) : (nameL s).length ≤ s.length := by
  cases s with
  | nil => simp [nameL]
  | cons c t =>
    show (if beginsC c = true then c :: t.takeWhile goesC else []).length ≤ t.length + 1
    by_cases h : beginsC c = true
    · rw [if_pos h]; have := (List.takeWhile_prefix (p := goesC) (l := t)).length_le; simp; omega
    · rw [if_neg h]; exact Nat.zero_le _
theorem trim_le (s : Str) : (trimL s).length ≤ s.length := (List.dropWhile_suffix blankC).length_le

/-! ### a cut of a longer text -/
theorem cutL_more : ∀ {p s a b : Str} (t : Str), p ≠ [] → cutL p s = some (a, b) → cutL p (s ++ t) = some (a, b ++ t)
  | p, [], a, b, t, hp, h => by
    unfold cutL at h
    split at h
    · rename_i he; cases p with | nil => exact absurd rfl hp | cons _ _ => simp at he
    · cases h
  | p, x :: s, a, b, t, hp, h => by
    rw [List.cons_append]
    unfold cutL at h ⊢
    by_cases hpre : p.isPrefixOf (x :: s) = true
    · rw [if_pos hpre] at h
      simp only [Option.some.injEq, Prod.mk.injEq] at h
      obtain ⟨rfl, rfl⟩ := h
      obtain ⟨r, hr⟩ := List.isPrefixOf_iff_prefix.1 hpre
      have h2 : p.isPrefixOf (x :: (s ++ t)) = true := List.isPrefixOf_iff_prefix.2 ⟨r ++ t, by rw [← List.append_assoc, hr]; rfl⟩
      rw [if_pos h2, ← List.cons_append, ← hr, List.append_assoc, List.drop_left, List.drop_left]
    · rw [if_neg hpre] at h
      cases hc : cutL p s with
      | none => rw [hc] at h; cases h
      | some q =>
        rw [hc] at h
        simp only [Option.map_some, Option.some.injEq, Prod.mk.injEq] at h
        obtain ⟨rfl, rfl⟩ := h
        have hs := cutL_some (a := q.1) (b := q.2) hc
        have h2 : ¬ p.isPrefixOf (x :: (s ++ t)) = true := by
          intro k
          apply hpre
          have k1 := List.isPrefixOf_iff_prefix.1 k
          have hl : p.length ≤ (x :: s).length := by rw [hs]; simp; omega
          exact List.isPrefixOf_iff_prefix.2 (List.prefix_of_prefix_length_le k1 (by rw [← List.cons_append]; exact List.prefix_append _ _) hl)
        rw [if_neg h2, cutL_more t hp (show cutL p s = some (q.1, q.2) from hc)]
        rfl
end Go.Proofs.YtpinjgdnhbogoaaGreatDoor
