/- Parts of a longer text; a whole text read on (no program). -/
import Derived.Test.YtpinjgdnhbogoaaGreatDoorX5
namespace Go.Proofs.YtpinjgdnhbogoaaGreatDoor

theorem strip_more {p s r : Str} (t : Str) (h : stripL p s = some r) : stripL p (s ++ t) = some (r ++ t) := by
  have e := stripL_some h
  unfold stripL
  rw [if_pos (List.isPrefixOf_iff_prefix.2 ⟨r ++ t, by rw [e, List.append_assoc]⟩), e, List.append_assoc, List.drop_left]
theorem strip_none {p s : Str} (t : Str) (hl : p.length ≤ s.length) (h : stripL p s = none) : stripL p (s ++ t) = none := by
  unfold stripL at h ⊢
  rw [prefix_more t hl]
  split at h
  · cases h
  · rename_i hp; rw [if_neg hp]
theorem strip_other {a b c : UInt8} {p s : Str} (h : b ≠ c) : stripL (a :: b :: p) (a :: c :: s) = none := by
  unfold stripL
  rw [if_neg]
  intro k
  obtain ⟨z, hz⟩ := List.isPrefixOf_iff_prefix.1 k
  exact h (List.cons.inj (List.cons.inj hz).2).1
theorem attrsF_mono : ∀ (n m : Nat) (l : List (Str × Str)) (s : Str) {x : List (Str × Str) × Bool × Str}, n ≤ m → attrsF n l s = some x → attrsF m l s = some x
  | 0, _, _, _, _, _, h => by cases h
  | _ + 1, 0, _, _, _, h, _ => by omega
  | n + 1, m + 1, l, s, x, hm, h => by
    unfold attrsF at h ⊢
    dsimp only at h ⊢
    split
    · rename_i hp; rw [if_pos hp] at h; exact h
    rename_i hp
    rw [if_neg hp] at h
    split
    · rename_i hp2; rw [if_pos hp2] at h; exact h
    rename_i hp2
    rw [if_neg hp2] at h
    split
    · rename_i hl; rw [if_pos hl] at h; cases h
    rename_i hl
    rw [if_neg hl] at h
    cases ha : attrL (trimL s) with
    | none => rw [ha] at h; cases h
    | some p =>
      obtain ⟨a, v, r⟩ := p
      rw [ha] at h
      dsimp only at h ⊢
      split
      · rename_i hy; rw [if_pos hy] at h; cases h
      · rename_i hy; rw [if_neg hy] at h; exact attrsF_mono n m _ _ (by omega) h
theorem tagL_more {s left : Str} {l : List TokD} (t : Str) (h : tagL s = some (l, left)) : tagL (s ++ t) = some (l, left ++ t) := by
  unfold tagL at h
  split at h
  · cases h
  rename_i hn
  have h0 := name_le s
  cases ha : attrsF (s.length + 1) [] (s.drop (nameL s).length) with
  | none => rw [ha] at h; cases h
  | some p =>
    obtain ⟨as, b, r⟩ := p
    have h1 := attrsF_len _ _ _ ha
    rw [List.length_drop] at h1
    have h3 : attrsF ((s ++ t).length + 1) [] (s.drop (nameL s).length ++ t) = some (as, b, r ++ t) := attrsF_mono _ _ _ _ (by rw [List.length_append]; omega) (attrsF_more _ _ _ t ha)
    rw [ha] at h
    unfold tagL
    rw [name_more t (by omega), if_neg hn, drop_more t h0, h3]
    cases b <;> (simp only [Option.some.injEq, Prod.mk.injEq] at h; obtain ⟨rfl, rfl⟩ := h; rfl)
theorem closeL_more {s left : Str} {l : List TokD} (t : Str) (h : closeL s = some (l, left)) : closeL (s ++ t) = some (l, left ++ t) := by
  unfold closeL at h
  split at h
  · cases h
  rename_i hn
  have h0 := name_le s
  have h1 := trim_le (s.drop (nameL s).length)
  rw [List.length_drop] at h1
  split at h
  · rename_i r he
    rw [he] at h1
    simp only [List.length_cons] at h1
    simp only [Option.some.injEq, Prod.mk.injEq] at h
    obtain ⟨rfl, rfl⟩ := h
    unfold closeL
    rw [name_more t (by omega), if_neg hn, drop_more t h0, trim_more t (by rw [he]; simp), he]
    rfl
  · cases h
theorem cut_map_more {c r t : Str} {f : Str × Str → Str × List TokD × Str} {x : Str × List TokD × Str} (hc : c ≠ []) (hf : ∀ a b, f (a, b ++ t) = ((f (a, b)).1, (f (a, b)).2.1, (f (a, b)).2.2 ++ t)) (h : (cutL c r).map f = some x) : (cutL c (r ++ t)).map f = some (x.1, x.2.1, x.2.2 ++ t) := by
  cases hq : cutL c r with
  | none => rw [hq] at h; cases h
  | some q =>
    rw [hq] at h
    rw [cutL_more t hc (show cutL c r = some (q.1, q.2) from hq)]
    have h2 : f q = x := Option.some.inj h
    show some (f (q.1, q.2 ++ t)) = _
    rw [hf, show f (q.1, q.2) = x from h2]
theorem partL_more {s u left : Str} {l : List TokD} (t : Str) (h : partL s = some (u, l, left)) : partL (s ++ t) = some (u, l, left ++ t) := by
  unfold partL at h
  cases h1 : stripL [60, 33, 45, 45] s with
  | some r =>
    rw [h1] at h
    unfold partL
    rw [strip_more t h1]
    exact cut_map_more (by simp) (fun _ _ => rfl) h
  | none =>
  rw [h1] at h
  dsimp only at h
  cases h2 : stripL [60, 63] s with
  | some r =>
    rw [h2] at h
    have e := stripL_some h2
    unfold partL
    rw [show stripL [60, 33, 45, 45] (s ++ t) = none by rw [e]; exact strip_other (by decide), strip_more t h2]
    exact cut_map_more (by simp) (fun _ _ => rfl) h
  | none =>
  rw [h2] at h
  dsimp only at h
  cases h3 : stripL [60, 33, 91, 67, 68, 65, 84, 65, 91] s with
  | some r =>
    rw [h3] at h
    have hl := congrArg List.length (stripL_some h3)
    simp only [List.length_append, List.length_cons, List.length_nil] at hl
    unfold partL
    rw [strip_none t (by simp; omega) h1, strip_none t (by simp; omega) h2, strip_more t h3]
    exact cut_map_more (by simp) (fun _ _ => rfl) h
  | none =>
  rw [h3] at h
  dsimp only at h
  cases h4 : stripL [60, 33, 68, 79, 67, 84, 89, 80, 69] s with
  | some r =>
    rw [h4] at h
    dsimp only at h
    have hl := congrArg List.length (stripL_some h4)
    simp only [List.length_append, List.length_cons, List.length_nil] at hl
    unfold partL
    rw [strip_none t (by simp; omega) h1, strip_none t (by simp; omega) h2, strip_none t (by simp; omega) h3, strip_more t h4]
    cases hc : cutL [62] r with
    | none => rw [hc] at h; cases h
    | some q =>
      rw [hc] at h
      dsimp only at h ⊢
      rw [cutL_more t (by simp) (show cutL [62] r = some (q.1, q.2) from hc)]
      dsimp only
      split at h
      · cases h
      · rename_i hq
        rw [if_neg hq]
        simp only [Option.some.injEq, Prod.mk.injEq] at h
        obtain ⟨rfl, rfl, rfl⟩ := h
        rfl
  | none =>
  rw [h4] at h
  dsimp only at h
  cases h5 : stripL [60, 47] s with
  | some r =>
    rw [h5] at h
    dsimp only at h
    have e := stripL_some h5
    unfold partL
    rw [show stripL [60, 33, 45, 45] (s ++ t) = none by rw [e]; exact strip_other (by decide), show stripL [60, 63] (s ++ t) = none by rw [e]; exact strip_other (by decide), show stripL [60, 33, 91, 67, 68, 65, 84, 65, 91] (s ++ t) = none by rw [e]; exact strip_other (by decide), show stripL [60, 33, 68, 79, 67, 84, 89, 80, 69] (s ++ t) = none by rw [e]; exact strip_other (by decide), strip_more t h5]
    dsimp only
    cases hc : closeL r with
    | none => rw [hc] at h; cases h
    | some q =>
      rw [hc] at h
      simp only [Option.map_some, Option.some.injEq, Prod.mk.injEq] at h
      obtain ⟨rfl, rfl, rfl⟩ := h
      rw [closeL_more t (show closeL r = some (q.1, q.2) from hc)]
      rfl
  | none =>
  rw [h5] at h
  dsimp only at h
  cases hc : tagL (s.drop 1) with
  | none => rw [hc] at h; cases h
  | some q =>
    rw [hc] at h
    simp only [Option.map_some, Option.some.injEq, Prod.mk.injEq] at h
    obtain ⟨rfl, rfl, rfl⟩ := h
    have hn : ¬ (nameL (s.drop 1)).isEmpty = true := by
      intro k
      unfold tagL at hc
      rw [if_pos k] at hc
      cases hc
    match s, hc, hn, h1, h2, h3, h4, h5 with
    | [], _, hn, _, _, _, _, _ => simp [nameL] at hn
    | [_], _, hn, _, _, _, _, _ => simp [nameL] at hn
    | a :: c :: s', hc, hn, h1, h2, h3, h4, h5 =>
      have hb : beginsC c = true := by
        by_cases hb : beginsC c = true
        · exact hb
        · exact absurd (show (nameL (c :: s')).isEmpty = true by rw [show nameL (c :: s') = if beginsC c = true then c :: s'.takeWhile goesC else [] from rfl, if_neg hb]; rfl) hn
      have n1 : c ≠ 33 := by rintro rfl; revert hb; decide
      have n2 : c ≠ 63 := by rintro rfl; revert hb; decide
      have n3 : c ≠ 47 := by rintro rfl; revert hb; decide
      have key : ∀ (b : UInt8) (p : Str), b ≠ c → stripL (60 :: b :: p) (a :: c :: (s' ++ t)) = none := by
        intro b p hbc
        unfold stripL
        rw [if_neg]
        intro k
        obtain ⟨z, hz⟩ := List.isPrefixOf_iff_prefix.1 k
        exact hbc (List.cons.inj (List.cons.inj hz).2).1
      unfold partL
      rw [show (a :: c :: s') ++ t = a :: c :: (s' ++ t) from rfl, key 33 _ n1.symm, key 63 _ n2.symm, key 33 _ n1.symm, key 33 _ n1.symm, key 47 _ n3.symm]
      dsimp only
      have hc' : tagL (c :: s') = some (q.1, q.2) := hc
      rw [show List.drop 1 (a :: c :: (s' ++ t)) = (c :: s') ++ t from rfl, tagL_more t hc']
      rfl

/-! ### a whole text, read on -/
/-- what follows a text that is read begins with a mark, or is nothing -/
def Next (x : Str) : Prop := x = [] ∨ ∃ t, x = 60 :: t
theorem split_text (s : Str) : ∃ seg rest, s = seg ++ rest ∧ 60 ∉ seg ∧ Next rest := by
  refine ⟨s.takeWhile (fun x => decide (x ≠ 60)), s.dropWhile (fun x => decide (x ≠ 60)), List.takeWhile_append_dropWhile.symm, fun h => ?_, ?_⟩
  · have := List.all_eq_true.1 (List.all_takeWhile (l := s) (p := fun x => decide (x ≠ 60))) 60 h
    simp at this
  · cases hd : s.dropWhile (fun x => decide (x ≠ 60)) with
    | nil => exact .inl rfl
    | cons c t =>
      have := List.head?_dropWhile_not (fun x : UInt8 => decide (x ≠ 60)) s
      rw [hd] at this
      simp at this
      exact .inr ⟨t, by rw [this]⟩
theorem readG_more : ∀ (n : Nat) (s : Str) (k : Nat) (l : List TokD) (w : Str) {r : List TokD}, s.length < n → readG k l w s = .ok r → ∃ l' w', r = flushL l' w' ∧ ∀ x, Next x → readG k l w (s ++ x) = readG (k + s.length) l' w' x
  | 0, _, _, _, _, _, h, _ => by omega
  | n + 1, s, k, l, w, r, hn, h => by
    obtain ⟨seg, rest, rfl, hno, hrest⟩ := split_text s
    by_cases hs : seg = []
    · subst hs
      rw [List.nil_append] at h hn ⊢
      rcases hrest with rfl | ⟨t, rfl⟩
      · rw [readG_nil] at h
        obtain rfl := Except.ok.inj h
        exact ⟨l, w, rfl, fun x _ => rfl⟩
      · cases hp : partL (60 :: t) with
        | none => rw [readG_bad hp] at h; cases h
        | some p =>
          obtain ⟨u, toks, left⟩ := p
          have hl := partL_len hp
          rw [readG_part hp] at h
          by_cases ht : toks.isEmpty = true
          · rw [if_pos ht] at h
            obtain ⟨l', w', e1, e2⟩ := readG_more n left _ _ _ (by omega) h
            refine ⟨l', w', e1, fun x hx => ?_⟩
            have := partL_more x hp
            rw [List.cons_append] at this ⊢
            rw [readG_part this, if_pos ht]
            have e3 : k + ((60 :: (t ++ x)).length - (left ++ x).length) = k + ((60 :: t).length - left.length) := by simp; omega
            rw [e3, e2 x hx]
            congr 1
            omega
          · rw [if_neg ht] at h
            obtain ⟨l', w', e1, e2⟩ := readG_more n left _ _ _ (by omega) h
            refine ⟨l', w', e1, fun x hx => ?_⟩
            have := partL_more x hp
            rw [List.cons_append] at this ⊢
            rw [readG_part this, if_neg ht]
            have e3 : k + ((60 :: (t ++ x)).length - (left ++ x).length) = k + ((60 :: t).length - left.length) := by simp; omega
            rw [e3, e2 x hx]
            congr 1
            omega
    · rw [readG_text hs hno hrest] at h
      cases hsd : saidL seg with
      | error j => rw [hsd] at h; cases h
      | ok u =>
        rw [hsd] at h
        dsimp only at h
        have hpos := List.length_pos_iff.2 hs
        rw [List.length_append] at hn
        obtain ⟨l', w', e1, e2⟩ := readG_more n rest _ _ _ (by omega) h
        refine ⟨l', w', e1, fun x hx => ?_⟩
        have hnext : Next (rest ++ x) := by
          rcases hrest with rfl | ⟨t, rfl⟩
          · exact hx
          · exact .inr ⟨t ++ x, rfl⟩
        rw [List.append_assoc, readG_text hs hno hnext, hsd]
        dsimp only
        rw [e2 x hx, List.length_append, Nat.add_assoc]
/-- tokens that are there already, and the place, change nothing else -/
theorem flush_app (l0 l : List TokD) (w : Str) : flushL (l0 ++ l) w = l0 ++ flushL l w := by
  unfold flushL; split
  · rfl
  · rw [List.append_assoc]
theorem readG_shift : ∀ (n : Nat) (s : Str) (k j : Nat) (l0 l : List TokD) (w : Str), s.length < n → readG (k + j) (l0 ++ l) w s = match readG j l w s with | .ok r => .ok (l0 ++ r) | .error i => .error (k + i)
  | 0, _, _, _, _, _, _, h => by omega
  | n + 1, s, k, j, l0, l, w, hn => by
    obtain ⟨seg, rest, rfl, hno, hrest⟩ := split_text s
    by_cases hs : seg = []
    · subst hs
      rw [List.nil_append] at hn ⊢
      rcases hrest with rfl | ⟨t, rfl⟩
      · rw [readG_nil, readG_nil, flush_app]
      · cases hp : partL (60 :: t) with
        | none => rw [readG_bad hp, readG_bad hp]
        | some p =>
          obtain ⟨u, toks, left⟩ := p
          have hl := partL_len hp
          rw [readG_part hp, readG_part hp, Nat.add_assoc]
          by_cases ht : toks.isEmpty = true
          · rw [if_pos ht, if_pos ht]
            exact readG_shift n left k _ l0 l _ (by omega)
          · rw [if_neg ht, if_neg ht, flush_app, List.append_assoc]
            exact readG_shift n left k _ l0 _ _ (by omega)
    · have hpos := List.length_pos_iff.2 hs
      rw [List.length_append] at hn
      rw [readG_text hs hno hrest, readG_text hs hno hrest]
      cases saidL seg with
      | error i => simp only [Nat.add_assoc]
      | ok u =>
        dsimp only
        rw [Nat.add_assoc]
        exact readG_shift n rest k _ l0 l _ (by omega)
end Go.Proofs.YtpinjgdnhbogoaaGreatDoor
