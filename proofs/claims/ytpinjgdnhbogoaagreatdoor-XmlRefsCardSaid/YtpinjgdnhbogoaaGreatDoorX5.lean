/- A text with more behind it; a text behind others (no program). -/
import Derived.Test.YtpinjgdnhbogoaaGreatDoorX4
namespace Go.Proofs.YtpinjgdnhbogoaaGreatDoor

theorem name_more {s : Str} (t : Str) (h : (nameL s).length < s.length) : nameL (s ++ t) = nameL s := by
  cases s with
  | nil => simp at h
  | cons c r =>
    rw [List.cons_append]
    have e1 : nameL (c :: r) = if beginsC c = true then c :: r.takeWhile goesC else [] := rfl
    have e2 : nameL (c :: (r ++ t)) = if beginsC c = true then c :: (r ++ t).takeWhile goesC else [] := rfl
    rw [e1] at h ⊢
    rw [e2]
    by_cases hb : beginsC c = true
    · rw [if_pos hb] at h ⊢
      rw [if_pos hb]
      simp only [List.length_cons] at h
      have hd : r.takeWhile goesC ++ r.dropWhile goesC = r := List.takeWhile_append_dropWhile
      have hne : r.dropWhile goesC ≠ [] := by
        intro e
        have := congrArg List.length hd
        rw [e, List.append_nil] at this
        omega
      obtain ⟨x, y, hxy⟩ := List.exists_cons_of_ne_nil hne
      have hx : goesC x = false := by
        have := List.head?_dropWhile_not goesC r
        rw [hxy] at this
        simpa using this
      conv => lhs; rw [← hd, List.append_assoc, hxy]
      rw [List.takeWhile_append_of_pos (fun a ha => List.all_eq_true.1 (List.all_takeWhile (l := r) (p := goesC)) a ha), List.cons_append, List.takeWhile_cons, if_neg (by rw [hx]; simp), List.append_nil]
    · rw [if_neg hb, if_neg hb]
theorem trim_more {s : Str} (t : Str) (h : trimL s ≠ []) : trimL (s ++ t) = trimL s ++ t := by
  unfold trimL at h ⊢
  induction s with
  | nil => simp at h
  | cons c r ih =>
    rw [List.cons_append, List.dropWhile_cons, List.dropWhile_cons]
    rw [List.dropWhile_cons] at h
    by_cases hb : blankC c = true
    · rw [if_pos hb] at h ⊢; rw [if_pos hb]; exact ih h
    · rw [if_neg hb, if_neg hb]; rfl
theorem drop_more {s : Str} (t : Str) {n : Nat} (h : n ≤ s.length) : (s ++ t).drop n = s.drop n ++ t := List.drop_append_of_le_length h
theorem attrL_more {s a v left : Str} (t : Str) (h : attrL s = some (a, v, left)) : attrL (s ++ t) = some (a, v, left ++ t) := by
  unfold attrL at h
  split at h
  · cases h
  rename_i hn
  have h0 := name_le s
  split at h
  · rename_i s2 he
    have hlt : (nameL s).length < s.length := by
      have h1 := trim_le (s.drop (nameL s).length)
      rw [he, List.length_drop] at h1
      simp at h1; omega
    split at h
    · rename_i q s4 he2
      split at h
      · rename_i hq
        cases hc : cutL [q] s4 with
        | none => rw [hc] at h; cases h
        | some p =>
          rw [hc] at h
          dsimp only at h
          cases hs : saidL p.1 with
          | error k => rw [hs] at h; cases h
          | ok u =>
            rw [hs] at h
            dsimp only at h
            split at h
            · cases h
            · rename_i hlt60
              simp only [Option.some.injEq, Prod.mk.injEq] at h
              obtain ⟨rfl, rfl, rfl⟩ := h
              unfold attrL
              rw [name_more t hlt, if_neg hn, drop_more t h0, trim_more t (by rw [he]; simp), he]
              simp only [List.cons_append]
              rw [trim_more t (by rw [he2]; simp), he2]
              simp only [List.cons_append]
              rw [if_pos hq, cutL_more t (by simp) (show cutL [q] s4 = some (p.1, p.2) from hc)]
              dsimp only
              rw [hs]
              dsimp only
              rw [if_neg hlt60]
      · cases h
    · cases h
  · cases h
theorem prefix_more {p s : Str} (t : Str) (h : p.length ≤ s.length) : p.isPrefixOf (s ++ t) = p.isPrefixOf s := by
  rw [Bool.eq_iff_iff, List.isPrefixOf_iff_prefix, List.isPrefixOf_iff_prefix]
  constructor
  · intro k; exact List.prefix_of_prefix_length_le k (List.prefix_append _ _) h
  · intro k; exact k.trans (List.prefix_append _ _)
theorem attrsF_more : ∀ (n : Nat) (l : List (Str × Str)) (s : Str) {l' : List (Str × Str)} {b : Bool} {left : Str} (t : Str), attrsF n l s = some (l', b, left) → attrsF n l (s ++ t) = some (l', b, left ++ t)
  | 0, _, _, _, _, _, _, h => by cases h
  | n + 1, l, s, l', b, left, t, h => by
    have h0 := trim_le s
    unfold attrsF at h ⊢
    dsimp only at h ⊢
    by_cases hp : [47, 62].isPrefixOf (trimL s) = true
    · have hl := (List.isPrefixOf_iff_prefix.1 hp).length_le
      simp only [List.length_cons, List.length_nil] at hl
      have hne : trimL s ≠ [] := by intro e; rw [e] at hl; simp at hl
      rw [if_pos hp] at h
      simp only [Option.some.injEq, Prod.mk.injEq] at h
      obtain ⟨rfl, rfl, rfl⟩ := h
      rw [trim_more t hne, prefix_more t (by simpa using hl), if_pos hp, drop_more t (by omega)]
    rw [if_neg hp] at h
    by_cases hp2 : [62].isPrefixOf (trimL s) = true
    · have hl := (List.isPrefixOf_iff_prefix.1 hp2).length_le
      simp only [List.length_cons, List.length_nil] at hl
      have hne : trimL s ≠ [] := by intro e; rw [e] at hl; simp at hl
      rw [if_pos hp2] at h
      simp only [Option.some.injEq, Prod.mk.injEq] at h
      obtain ⟨rfl, rfl, rfl⟩ := h
      obtain ⟨x, y, hxy⟩ := List.exists_cons_of_ne_nil hne
      have hx : x = 62 := by
        obtain ⟨z, hz⟩ := List.isPrefixOf_iff_prefix.1 hp2
        rw [hxy] at hz
        exact (List.cons.inj hz).1.symm
      have hp' : ¬ [47, 62].isPrefixOf (trimL s ++ t) = true := by
        intro k
        obtain ⟨z, hz⟩ := List.isPrefixOf_iff_prefix.1 k
        rw [hxy, hx] at hz
        exact absurd (List.cons.inj hz).1 (by decide)
      rw [trim_more t hne, if_neg hp', prefix_more t (by simpa using hl), if_pos hp2, drop_more t (by omega)]
    rw [if_neg hp2] at h
    split at h
    · cases h
    rename_i hlen
    cases ha : attrL (trimL s) with
    | none => rw [ha] at h; cases h
    | some p =>
      obtain ⟨a, v, r⟩ := p
      rw [ha] at h
      dsimp only at h
      have hl := attrL_len ha
      have hne : trimL s ≠ [] := by intro e; rw [e] at hl; simp at hl
      split at h
      · cases h
      rename_i hany
      have hfirst : ∀ x y, trimL s = x :: y → x ≠ 47 ∧ x ≠ 62 := by
        intro x y hxy
        have hn : nameL (trimL s) ≠ [] := by
          intro e
          unfold attrL at ha
          rw [e] at ha
          simp at ha
        rw [hxy] at hn
        have hb : beginsC x = true := by
          by_cases hb : beginsC x = true
          · exact hb
          · exact absurd (show (if beginsC x = true then x :: y.takeWhile goesC else []) = [] by rw [if_neg hb]) hn
        constructor
        · rintro rfl; revert hb; decide
        · rintro rfl; revert hb; decide
      obtain ⟨x, y, hxy⟩ := List.exists_cons_of_ne_nil hne
      obtain ⟨hx1, hx2⟩ := hfirst x y hxy
      have p1 : ¬ [47, 62].isPrefixOf (trimL s ++ t) = true := by
        intro k
        obtain ⟨z, hz⟩ := List.isPrefixOf_iff_prefix.1 k
        rw [hxy] at hz
        exact hx1 (List.cons.inj hz).1.symm
      have p2 : ¬ [62].isPrefixOf (trimL s ++ t) = true := by
        intro k
        obtain ⟨z, hz⟩ := List.isPrefixOf_iff_prefix.1 k
        rw [hxy] at hz
        exact hx2 (List.cons.inj hz).1.symm
      rw [trim_more t hne, if_neg p1, if_neg p2, if_neg (by rw [List.length_append, List.length_append]; omega), attrL_more t ha]
      dsimp only
      rw [if_neg hany]
      exact attrsF_more n _ _ t h
end Go.Proofs.YtpinjgdnhbogoaaGreatDoor
