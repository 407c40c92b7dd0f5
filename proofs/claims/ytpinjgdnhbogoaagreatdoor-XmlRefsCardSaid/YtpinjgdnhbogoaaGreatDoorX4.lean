/- Parts and whole texts, step by step (no program). -/
import Derived.Test.YtpinjgdnhbogoaaGreatDoorX3
namespace Go.Proofs.YtpinjgdnhbogoaaGreatDoor

theorem attrL_len {s a v left : Str} (h : attrL s = some (a, v, left)) : left.length < s.length := by
  unfold attrL at h
  split at h
  · cases h
  · have h0 := name_le s
    have h1 := trim_le (s.drop (nameL s).length)
    rw [List.length_drop] at h1
    split at h
    · rename_i s2 he
      have h2 := trim_le s2
      rw [he] at h1
      simp only [List.length_cons] at h1
      split at h
      · rename_i q s4 he2
        rw [he2] at h2
        simp only [List.length_cons] at h2
        split at h
        · cases hc : cutL [q] s4 with
          | none => rw [hc] at h; cases h
          | some p =>
            rw [hc] at h
            have := cutL_lens (a := p.1) (b := p.2) hc
            dsimp only at h
            cases hs : saidL p.1 with
            | error k => rw [hs] at h; cases h
            | ok u =>
              rw [hs] at h
              dsimp only at h
              split at h
              · cases h
              · simp only [Option.some.injEq, Prod.mk.injEq] at h
                rw [← h.2.2]; simp at this; omega
        · cases h
      · cases h
    · cases h
theorem attrsF_len : ∀ (n : Nat) (l : List (Str × Str)) (s : Str) {l' : List (Str × Str)} {b : Bool} {left : Str}, attrsF n l s = some (l', b, left) → left.length < s.length
  | 0, _, _, _, _, _, h => by cases h
  | n + 1, l, s, l', b, left, h => by
    have h0 := trim_le s
    unfold attrsF at h
    dsimp only at h
    split at h
    · rename_i hp
      have := (List.isPrefixOf_iff_prefix.1 hp).length_le
      simp only [Option.some.injEq, Prod.mk.injEq] at h
      rw [← h.2.2, List.length_drop]; simp at this; omega
    split at h
    · rename_i hp
      have := (List.isPrefixOf_iff_prefix.1 hp).length_le
      simp only [Option.some.injEq, Prod.mk.injEq] at h
      rw [← h.2.2, List.length_drop]; simp at this; omega
    split at h
    · cases h
    cases ha : attrL (trimL s) with
    | none => rw [ha] at h; cases h
    | some p =>
      obtain ⟨a, v, r⟩ := p
      rw [ha] at h
      dsimp only at h
      have h1 := attrL_len ha
      split at h
      · cases h
      · have := attrsF_len n _ _ h
        omega
theorem attrsF_fuel : ∀ (n m : Nat) (l : List (Str × Str)) (s : Str), s.length < n → s.length < m → attrsF n l s = attrsF m l s
  | 0, _, _, _, h, _ => by omega
  | _, 0, _, _, _, h => by omega
  | n + 1, m + 1, l, s, h1, h2 => by
    have h0 := trim_le s
    unfold attrsF
    dsimp only
    cases ha : attrL (trimL s) with
    | none => rfl
    | some p =>
      obtain ⟨a, v, r⟩ := p
      have h3 := attrL_len ha
      dsimp only
      rw [attrsF_fuel n m _ r (by omega) (by omega)]
def attrsL (l : List (Str × Str)) (s : Str) : Option (List (Str × Str) × Bool × Str) := attrsF (s.length + 1) l s
theorem attrsL_eq {n : Nat} {l : List (Str × Str)} {s : Str} (h : s.length < n) : attrsF n l s = attrsL l s := attrsF_fuel _ _ _ _ h (Nat.lt_succ_self _)
theorem attrsL_step (l : List (Str × Str)) (s : Str) : attrsL l s = (if [47, 62].isPrefixOf (trimL s) then some (l, true, (trimL s).drop 2)
    else if [62].isPrefixOf (trimL s) then some (l, false, (trimL s).drop 1)
    else if (trimL s).length = s.length then none
    else match attrL (trimL s) with
      | none => none
      | some (a, v, left) => if l.any (fun b => b.1 == a) then none else attrsL (l ++ [(a, v)]) left) := by
  have h0 := trim_le s
  conv => lhs; unfold attrsL attrsF
  dsimp only
  cases ha : attrL (trimL s) with
  | none => rfl
  | some p =>
    obtain ⟨a, v, r⟩ := p
    have h3 := attrL_len ha
    dsimp only
    rw [attrsL_eq (n := s.length) (by omega)]
theorem tagL_len {s : Str} {l : List TokD} {left : Str} (h : tagL s = some (l, left)) : left.length < s.length := by
  unfold tagL at h
  split at h
  · cases h
  have h0 := name_le s
  cases ha : attrsF (s.length + 1) [] (s.drop (nameL s).length) with
  | none => rw [ha] at h; cases h
  | some p =>
    obtain ⟨as, b, r⟩ := p
    have h1 := attrsF_len _ _ _ ha
    rw [List.length_drop] at h1
    rw [ha] at h
    cases b <;> (simp only [Option.some.injEq, Prod.mk.injEq] at h; rw [← h.2]; omega)
theorem closeL_len {s : Str} {l : List TokD} {left : Str} (h : closeL s = some (l, left)) : left.length < s.length := by
  unfold closeL at h
  split at h
  · cases h
  have h1 := trim_le (s.drop (nameL s).length)
  rw [List.length_drop] at h1
  split at h
  · rename_i r he
    rw [he] at h1
    simp only [Option.some.injEq, Prod.mk.injEq] at h
    rw [← h.2]; simp at h1; omega
  · cases h
theorem partL_len {s u left : Str} {l : List TokD} (h : partL s = some (u, l, left)) : left.length < s.length := by
  have key : ∀ (p r : Str) (c : Str) (f : Str × Str → Str × List TokD × Str), stripL p s = some r → (∀ q, (f q).2.2 = q.2) → p ≠ [] → (cutL c r).map f = some (u, l, left) → left.length < s.length := by
    intro p r c f hs hf hp hm
    have hl := congrArg List.length (stripL_some hs)
    rw [List.length_append] at hl
    have hp2 : 0 < p.length := List.length_pos_iff.2 hp
    cases hc : cutL c r with
    | none => rw [hc] at hm; cases hm
    | some q =>
      rw [hc] at hm
      have h2 := cutL_lens (a := q.1) (b := q.2) hc
      have h3 := hf q
      rw [Option.some.inj hm] at h3
      dsimp only at h3
      rw [h3]; omega
  unfold partL at h
  cases h1 : stripL [60, 33, 45, 45] s with
  | some r => rw [h1] at h; exact key _ r _ _ h1 (fun _ => rfl) (by simp) h
  | none =>
  rw [h1] at h
  dsimp only at h
  cases h2 : stripL [60, 63] s with
  | some r => rw [h2] at h; exact key _ r _ _ h2 (fun _ => rfl) (by simp) h
  | none =>
  rw [h2] at h
  dsimp only at h
  cases h3 : stripL [60, 33, 91, 67, 68, 65, 84, 65, 91] s with
  | some r => rw [h3] at h; exact key _ r _ _ h3 (fun _ => rfl) (by simp) h
  | none =>
  rw [h3] at h
  dsimp only at h
  cases h4 : stripL [60, 33, 68, 79, 67, 84, 89, 80, 69] s with
  | some r =>
    rw [h4] at h
    dsimp only at h
    have hl := congrArg List.length (stripL_some h4)
    cases hc : cutL [62] r with
    | none => rw [hc] at h; cases h
    | some q =>
      have h2 := cutL_lens (a := q.1) (b := q.2) hc
      rw [hc] at h
      dsimp only at h
      split at h
      · cases h
      · simp only [Option.some.injEq, Prod.mk.injEq] at h
        rw [← h.2.2]; simp at hl; omega
  | none =>
  rw [h4] at h
  dsimp only at h
  cases h5 : stripL [60, 47] s with
  | some r =>
    rw [h5] at h
    dsimp only at h
    have hl := congrArg List.length (stripL_some h5)
    cases hc : closeL r with
    | none => rw [hc] at h; cases h
    | some q =>
      have h2 := closeL_len (l := q.1) (left := q.2) hc
      rw [hc] at h
      simp only [Option.map_some, Option.some.injEq, Prod.mk.injEq] at h
      rw [← h.2.2]; simp at hl; omega
  | none =>
  rw [h5] at h
  dsimp only at h
  cases hc : tagL (s.drop 1) with
  | none => rw [hc] at h; cases h
  | some q =>
    have h2 := tagL_len (l := q.1) (left := q.2) hc
    rw [hc] at h
    simp only [Option.map_some, Option.some.injEq, Prod.mk.injEq] at h
    rw [← h.2.2]; rw [List.length_drop] at h2; omega

theorem readF_fuel : ∀ (n m k : Nat) (l : List TokD) (w s : Str), s.length < n → s.length < m → readF n k l w s = readF m k l w s
  | 0, _, _, _, _, _, h, _ => by omega
  | _, 0, _, _, _, _, _, h => by omega
  | n + 1, m + 1, k, l, w, [], _, _ => rfl
  | n + 1, m + 1, k, l, w, c :: t, h1, h2 => by
    unfold readF
    dsimp only
    by_cases hc : c ≠ 60
    · rw [if_pos hc, if_pos hc]
      cases saidL ((c :: t).takeWhile (· ≠ 60)) with
      | error j => rfl
      | ok u =>
        have hl : ((c :: t).dropWhile (fun x => decide (x ≠ 60))).length < (c :: t).length := by
          rw [List.dropWhile_cons, if_pos (by simpa using hc)]
          have := (List.dropWhile_suffix (fun x : UInt8 => decide (x ≠ 60)) (l := t)).length_le
          simp; simp at this; omega
        dsimp only
        exact readF_fuel n m _ _ _ _ (by omega) (by omega)
    · rw [if_neg hc, if_neg hc]
      cases hp : partL (c :: t) with
      | none => rfl
      | some p =>
        obtain ⟨u, toks, left⟩ := p
        have hl := partL_len hp
        dsimp only
        rw [readF_fuel n m _ _ _ left (by omega) (by omega), readF_fuel n m _ _ _ left (by omega) (by omega)]
def readG (k : Nat) (l : List TokD) (w s : Str) : Except Nat (List TokD) := readF (s.length + 1) k l w s
theorem readG_eq {n k : Nat} {l : List TokD} {w s : Str} (h : s.length < n) : readF n k l w s = readG k l w s := readF_fuel _ _ _ _ _ _ h (Nat.lt_succ_self _)
theorem readG_nil (k : Nat) (l : List TokD) (w : Str) : readG k l w [] = .ok (flushL l w) := rfl
theorem readG_part {k : Nat} {l toks : List TokD} {w t u left : Str} (h : partL (60 :: t) = some (u, toks, left)) :
    readG k l w (60 :: t) = if toks.isEmpty then readG (k + ((60 :: t).length - left.length)) l (w ++ u) left else readG (k + ((60 :: t).length - left.length)) (flushL l (w ++ u) ++ toks) [] left := by
  have hl := partL_len h
  conv => lhs; unfold readG readF
  dsimp only
  rw [if_neg (by simp), h]
  dsimp only
  rw [readG_eq (s := left) (by omega), readG_eq (s := left) (by omega)]
theorem readG_bad {k : Nat} {l : List TokD} {w t : Str} (h : partL (60 :: t) = none) : readG k l w (60 :: t) = .error k := by
  unfold readG readF
  dsimp only
  rw [if_neg (by simp), h]
/-- a text up to a mark, or the end -/
theorem readG_text {k : Nat} {l : List TokD} {w seg rest : Str} (hseg : seg ≠ []) (hno : 60 ∉ seg) (hrest : rest = [] ∨ ∃ t, rest = 60 :: t) :
    readG k l w (seg ++ rest) = match saidL seg with | .error j => .error (k + j) | .ok u => readG (k + seg.length) l (w ++ u) rest := by
  obtain ⟨c, t, rfl⟩ := List.exists_cons_of_ne_nil hseg
  have hc : c ≠ 60 := fun e => hno (by rw [e]; exact List.mem_cons_self ..)
  have hall : ∀ x ∈ (c :: t), decide (x ≠ 60) = true := fun x hx => by simp; exact fun e => hno (by rw [← e]; exact hx)
  have h1 : ((c :: t) ++ rest).takeWhile (fun x => decide (x ≠ 60)) = c :: t := by
    rw [List.takeWhile_append_of_pos hall]
    rcases hrest with rfl | ⟨r, rfl⟩ <;> simp
  have h2 : ((c :: t) ++ rest).dropWhile (fun x => decide (x ≠ 60)) = rest := by
    rw [List.dropWhile_append_of_pos hall]
    rcases hrest with rfl | ⟨r, rfl⟩ <;> simp
  rw [List.cons_append] at h1 h2 ⊢
  conv => lhs; unfold readG readF
  dsimp only
  rw [if_pos hc, h1, h2]
  cases saidL (c :: t) with
  | error j => rfl
  | ok u =>
    dsimp only
    exact readG_eq (by simp; omega)
end Go.Proofs.YtpinjgdnhbogoaaGreatDoor
