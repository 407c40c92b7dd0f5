/- Read: a text cut into tokens: plain steps. -/
import Derived.Test.YtpinjgdnhbogoaaGreatDoorV3
namespace Go.Proofs.YtpinjgdnhbogoaaGreatDoor
open Go.RowKit Go.Lib

theorem idx_lib : ∀ s : Str, Lib.indexByte s 60 = if (s.takeWhile (· ≠ 60)).length < s.length then ((s.takeWhile (· ≠ 60)).length : Int) else -1
  | [] => rfl
  | c :: s => by
    have ih := idx_lib s
    rw [Lib.indexByte]
    by_cases h : c = 60
    · subst h; simp
    · have hb : (c == 60) = false := by simpa using h
      simp only [hb, Bool.false_eq_true, if_false]
      rw [List.takeWhile_cons_of_pos (by simpa using h), ih]
      by_cases h2 : (s.takeWhile (fun x => decide (x ≠ 60))).length < s.length
      · have h3 : (c :: s.takeWhile (fun x => decide (x ≠ 60))).length < (c :: s).length := by simp only [List.length_cons]; omega
        have h4 : ¬ ((((s.takeWhile (fun x => decide (x ≠ 60))).length : Int) == -1) = true) := by rw [beq_iff_eq]; omega
        rw [if_pos h2, if_neg h4, if_pos h3]; simp
      · rw [if_neg h2, if_pos (by decide), if_neg (by simp at h2 ⊢; omega)]
theorem said_len : ∀ (n : Nat) (s : Str) {u : Str}, s.length < n → saidL s = .ok u → u.length ≤ 4 * s.length
  | 0, _, _, h, _ => by omega
  | n + 1, s, u, hn, h => by
    cases hc : cutL [38] s with
    | none => rw [said_none hc] at h; cases h; omega
    | some q =>
      obtain ⟨p, m⟩ := q
      have hl := cutL_lens hc
      simp only [List.length_singleton] at hl
      cases hm : refL m with
      | none => rw [said_bad hc hm] at h; cases h
      | some tl =>
        obtain ⟨t, left⟩ := tl
        have h2 := refL_len hm
        have h3 := ref_out hm
        rw [said_more hc hm] at h
        cases hs : saidL left with
        | error k => rw [hs] at h; cases h
        | ok u2 =>
          rw [hs] at h
          have := said_len n left (by omega) hs
          cases h
          simp; omega
theorem said_place : ∀ (n : Nat) (s : Str) {k : Nat}, s.length < n → saidL s = .error k → k ≤ s.length
  | 0, _, _, h, _ => by omega
  | n + 1, s, k, hn, h => by
    cases hc : cutL [38] s with
    | none => rw [said_none hc] at h; cases h
    | some q =>
      obtain ⟨p, m⟩ := q
      have hl := cutL_lens hc
      simp only [List.length_singleton] at hl
      cases hm : refL m with
      | none => rw [said_bad hc hm] at h; cases h; omega
      | some tl =>
        obtain ⟨t, left⟩ := tl
        have h2 := refL_len hm
        rw [said_more hc hm] at h
        cases hs : saidL left with
        | error j =>
          rw [hs] at h
          have := said_place n left (by omega) hs
          cases h
          omega
        | ok u2 => rw [hs] at h; cases h
theorem tagL_two {s left : Str} {l : List TokD} (h : tagL s = some (l, left)) : l.length ≤ 2 := by
  unfold tagL at h
  split at h
  · cases h
  · split at h
    · cases h
    · simp only [Option.some.injEq, Prod.mk.injEq] at h; rw [← h.1]; simp
    · simp only [Option.some.injEq, Prod.mk.injEq] at h; rw [← h.1]; simp
theorem partL_out {s u left : Str} {l : List TokD} (h : partL s = some (u, l, left)) : u.length + left.length ≤ s.length ∧ l.length ≤ 2 := by
  have hl := partL_len h
  have cut0 : ∀ (c r : Str) , (cutL c r).map (fun q => (([], [], q.2) : Str × List TokD × Str)) = some (u, l, left) → u.length = 0 ∧ l.length ≤ 2 := by
    intro c r h
    cases hq : cutL c r with
    | none => rw [hq] at h; cases h
    | some q => rw [hq] at h; cases h; simp
  unfold partL at h
  split at h
  · have := cut0 _ _ h; omega
  split at h
  · have := cut0 _ _ h; omega
  split at h
  · rename_i r hr
    have h4 := congrArg List.length (stripL_some hr)
    rw [List.length_append] at h4
    cases hq : cutL [93, 93, 62] r with
    | none => rw [hq] at h; cases h
    | some q =>
      rw [hq] at h
      have := cutL_lens (a := q.1) (b := q.2) hq
      cases h
      simp at h4 ⊢; omega
  split at h
  · split at h
    · cases h
    · split at h
      · cases h
      · cases h; simp at hl ⊢; omega
  split at h
  · rename_i r hr
    cases hq : closeL r with
    | none => rw [hq] at h; cases h
    | some q =>
      rw [hq] at h
      have h5 : q.1.length ≤ 2 := by
        unfold closeL at hq
        split at hq
        · cases hq
        · split at hq
          · cases hq; simp
          · cases hq
      cases h
      simp at hl ⊢; omega
  · cases hq : tagL (s.drop 1) with
    | none => rw [hq] at h; cases h
    | some q =>
      rw [hq] at h
      have h5 := tagL_two (l := q.1) (left := q.2) hq
      cases h
      simp at hl ⊢; omega
/-- how far a text is read -/
structure RdTo (s : Str) (l : List TokD) (words cur : Str) : Prop where
  eq : readL s = readG (s.length - cur.length) l words cur
  len : cur.length ≤ s.length
  lenL : l.length + 3 * cur.length ≤ 3 * s.length
  lenW : words.length + 4 * cur.length ≤ 4 * s.length
theorem RdTo.zero (s : Str) : RdTo s [] [] s := ⟨by rw [Nat.sub_self]; rfl, Nat.le_refl _, by simp, by simp⟩
theorem RdTo.last {s words : Str} {l : List TokD} (h : RdTo s l words []) : readL s = .ok (flushL l words) := by rw [h.eq]; rfl
theorem RdTo.text {s words seg rest u : Str} {l : List TokD} (h : RdTo s l words (seg ++ rest)) (h0 : seg ≠ []) (hno : 60 ∉ seg) (hr : rest = [] ∨ ∃ t, rest = 60 :: t) (hs : saidL seg = .ok u) : RdTo s l (words ++ u) rest := by
  have h1 := h.len
  have h2 := h.lenL
  have h3 := h.lenW
  have h4 := said_len _ seg (Nat.lt_succ_self _) hs
  simp at h1 h2 h3
  refine ⟨?_, by omega, by omega, by simp; omega⟩
  rw [h.eq, readG_text h0 hno hr, hs]
  dsimp only
  congr 1
  simp; omega
theorem RdTo.textBad {s words seg rest : Str} {l : List TokD} {j : Nat} (h : RdTo s l words (seg ++ rest)) (h0 : seg ≠ []) (hno : 60 ∉ seg) (hr : rest = [] ∨ ∃ t, rest = 60 :: t) (hs : saidL seg = .error j) : readL s = .error (s.length - (seg ++ rest).length + j) := by
  rw [h.eq, readG_text h0 hno hr, hs]
theorem flush_len (l : List TokD) (w : Str) : (flushL l w).length ≤ l.length + 1 := by unfold flushL; split <;> simp
theorem RdTo.part0 {s words t u left : Str} {l : List TokD} (h : RdTo s l words (60 :: t)) (hp : partL (60 :: t) = some (u, [], left)) : RdTo s l (words ++ u) left := by
  have h1 := h.len
  have h2 := h.lenL
  have h3 := h.lenW
  have h4 := partL_len hp
  have h5 := partL_out hp
  simp at h1 h2 h3 h4 h5
  refine ⟨?_, by omega, by omega, by simp; omega⟩
  rw [h.eq, readG_part hp, if_pos (show ([] : List TokD).isEmpty = true from rfl)]
  congr 1
  simp; omega
theorem RdTo.part1 {s words t u left : Str} {l toks : List TokD} (h : RdTo s l words (60 :: t)) (hp : partL (60 :: t) = some (u, toks, left)) (h0 : toks ≠ []) : RdTo s (flushL l (words ++ u) ++ toks) [] left := by
  have h1 := h.len
  have h2 := h.lenL
  have h3 := h.lenW
  have h4 := partL_len hp
  have h5 := partL_out hp
  have h6 := flush_len l (words ++ u)
  simp at h1 h2 h3 h4 h5
  refine ⟨?_, by omega, by simp; omega, by simp; omega⟩
  rw [h.eq, readG_part hp, if_neg (by simpa using h0)]
  congr 1
  simp; omega
theorem RdTo.partBad {s words t : Str} {l : List TokD} (h : RdTo s l words (60 :: t)) (hp : partL (60 :: t) = none) : readL s = .error (s.length - (60 :: t).length) := by
  rw [h.eq, readG_bad hp]
theorem readD_big {s : Str} (h : 20000 < s.length) : readD s = ([], 10, 0) := by unfold readD; rw [if_pos h]
theorem readD_short {s : Str} (h : s.length ≤ 20000) : readD s = match readL s with | .error k => ([], 8, (k : Int)) | .ok l => (l, 0, 0) := by
  unfold readD; rw [if_neg (by omega)]; rfl
/-- the tokens of a part are as they were, behind flush -/
theorem Toks.keptX {B lb wb : Nat} {lv v : Value} {l : List TokD} {w w' : World} (h : Toks B w v l) (hk : KeptX lb wb lv w w') (hb : lb < B) (hw : wb < B) (hl : ∀ k, lv.ownBlock = some k → k < B) : Toks B w' v l := by
  have key : ∀ {e size n : Nat} {v : Value} {xs : List Value}, e ≠ 5 → w.ownsRow B e size v n xs → w'.ownsRow B e size v n xs := by
    intro e size n v xs he h
    refine ⟨h.1, ?_⟩
    rcases h.2 with h2 | ⟨g, cap, cur, hv, hg, hh, r⟩
    · exact .inl h2
    · exact .inr ⟨g, cap, cur, hv, hg, hk g _ hh (by omega) (by omega) (fun e1 => by have := hl g e1; omega) (fun c f e1 => by injection e1 with _ e1; exact he e1), r⟩
  obtain ⟨ps, h1, h2, h3⟩ := h
  exact ⟨ps, h1, key (by decide) h2, fun p hp => key (by decide) (h3 p hp)⟩
end Go.Proofs.YtpinjgdnhbogoaaGreatDoor
