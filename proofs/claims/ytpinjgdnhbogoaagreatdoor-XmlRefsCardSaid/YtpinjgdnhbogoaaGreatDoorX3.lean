/- What a text says, byte by byte; escaped texts (no program). -/
import Derived.Test.YtpinjgdnhbogoaaGreatDoorX2
namespace Go.Proofs.YtpinjgdnhbogoaaGreatDoor

theorem cut1_cons (c x : UInt8) (t : Str) : cutL [c] (x :: t) = if x = c then some ([], t) else (cutL [c] t).map fun q => (x :: q.1, q.2) := by
  conv => lhs; unfold cutL
  by_cases h : x = c
  · subst h
    rw [if_pos (by simp [List.isPrefixOf]), if_pos rfl]; rfl
  · rw [if_neg (by simp [List.isPrefixOf]; exact fun e => h e.symm), if_neg h]
theorem refL_len {s t left : Str} (h : refL s = some (t, left)) : left.length < s.length := by
  unfold refL at h
  cases hc : cutL [59] s with
  | none => rw [hc] at h; cases h
  | some q =>
    rw [hc] at h
    have := cutL_lens (a := q.1) (b := q.2) hc
    cases hb : bodyL q.1 with
    | none => simp [hb] at h
    | some v =>
      simp [hb] at h
      rw [← h.2, this]; simp; omega
theorem saidF_fuel : ∀ (n m : Nat) (s : Str), s.length < n → s.length < m → saidF n s = saidF m s
  | 0, _, _, h, _ => by omega
  | _, 0, _, _, h => by omega
  | n + 1, m + 1, s, h1, h2 => by
    unfold saidF
    cases hc : cutL [38] s with
    | none => rfl
    | some q =>
      obtain ⟨plain, more⟩ := q
      have hl := cutL_lens hc
      dsimp only
      cases hr : refL more with
      | none => rfl
      | some p =>
        obtain ⟨t, left⟩ := p
        have hl2 := refL_len hr
        dsimp only
        simp only [List.length_singleton] at hl
        rw [saidF_fuel n m left (by omega) (by omega)]
theorem saidL_eq {n : Nat} {s : Str} (h : s.length < n) : saidF n s = saidL s := saidF_fuel _ _ _ h (Nat.lt_succ_self _)
theorem saidL_nil : saidL [] = .ok [] := rfl
theorem saidL_cons {c : UInt8} (t : Str) (h : c ≠ 38) : saidL (c :: t) = match saidL t with | .ok u => .ok (c :: u) | .error k => .error (k + 1) := by
  unfold saidL saidF
  rw [cut1_cons, if_neg h]
  cases hc : cutL [38] t with
  | none => rfl
  | some q =>
    obtain ⟨plain, more⟩ := q
    have hl := cutL_lens hc
    simp only [List.length_singleton] at hl
    simp only [Option.map_some]
    cases hr : refL more with
    | none => rfl
    | some p =>
      obtain ⟨u, left⟩ := p
      have hl2 := refL_len hr
      dsimp only
      rw [saidF_fuel (c :: t).length t.length left (by simp; omega) (by omega)]
      cases saidF t.length left with
      | ok v => rfl
      | error k => simp; omega
theorem saidL_none {t : Str} (h : refL t = none) : saidL (38 :: t) = .error 0 := by
  unfold saidL saidF
  rw [cut1_cons, if_pos rfl]
  simp only [h]; rfl
theorem saidL_amp {t u left : Str} (h : refL t = some (u, left)) : saidL (38 :: t) = match saidL left with | .ok v => .ok (u ++ v) | .error k => .error (1 + (t.length - left.length) + k) := by
  have hl := refL_len h
  conv => lhs; unfold saidL saidF
  rw [cut1_cons, if_pos rfl]
  simp only [h]
  rw [saidL_eq (s := left) (by simp; omega)]
  cases saidL left with
  | ok v => rfl
  | error k => simp

/-! ### escaped -/
def escC (c : UInt8) : Str := if c = 38 then [38, 97, 109, 112, 59] else if c = 60 then [38, 108, 116, 59] else if c = 62 then [38, 103, 116, 59] else if c = 34 then [38, 113, 117, 111, 116, 59] else if c = 39 then [38, 97, 112, 111, 115, 59] else [c]
def escL (s : Str) : Str := s.flatMap escC
theorem escL_cons (c : UInt8) (s : Str) : escL (c :: s) = escC c ++ escL s := rfl
theorem escL_append (a b : Str) : escL (a ++ b) = escL a ++ escL b := List.flatMap_append
theorem ref_amp (s : Str) : refL (97 :: 109 :: 112 :: 59 :: s) = some ([38], s) := by
  unfold refL; simp only [cut1_cons]; simp [bodyL]
theorem ref_lt (s : Str) : refL (108 :: 116 :: 59 :: s) = some ([60], s) := by
  unfold refL; simp only [cut1_cons]; simp [bodyL]
theorem ref_gt (s : Str) : refL (103 :: 116 :: 59 :: s) = some ([62], s) := by
  unfold refL; simp only [cut1_cons]; simp [bodyL]
theorem ref_quot (s : Str) : refL (113 :: 117 :: 111 :: 116 :: 59 :: s) = some ([34], s) := by
  unfold refL; simp only [cut1_cons]; simp [bodyL]
theorem ref_apos (s : Str) : refL (97 :: 112 :: 111 :: 115 :: 59 :: s) = some ([39], s) := by
  unfold refL; simp only [cut1_cons]; simp [bodyL]
theorem saidL_esc : ∀ s : Str, saidL (escL s) = .ok s
  | [] => rfl
  | c :: s => by
    have ih := saidL_esc s
    rw [escL_cons]
    unfold escC
    by_cases h1 : c = 38
    · rw [if_pos h1]; show saidL (38 :: (97 :: 109 :: 112 :: 59 :: escL s)) = _; rw [saidL_amp (ref_amp _), ih, h1]; rfl
    rw [if_neg h1]
    by_cases h2 : c = 60
    · rw [if_pos h2]; show saidL (38 :: (108 :: 116 :: 59 :: escL s)) = _; rw [saidL_amp (ref_lt _), ih, h2]; rfl
    rw [if_neg h2]
    by_cases h3 : c = 62
    · rw [if_pos h3]; show saidL (38 :: (103 :: 116 :: 59 :: escL s)) = _; rw [saidL_amp (ref_gt _), ih, h3]; rfl
    rw [if_neg h3]
    by_cases h4 : c = 34
    · rw [if_pos h4]; show saidL (38 :: (113 :: 117 :: 111 :: 116 :: 59 :: escL s)) = _; rw [saidL_amp (ref_quot _), ih, h4]; rfl
    rw [if_neg h4]
    by_cases h5 : c = 39
    · rw [if_pos h5]; show saidL (38 :: (97 :: 112 :: 111 :: 115 :: 59 :: escL s)) = _; rw [saidL_amp (ref_apos _), ih, h5]; rfl
    rw [if_neg h5]
    show saidL (c :: escL s) = _
    rw [saidL_cons _ h1, ih]
/-- no mark stands in an escaped text -/
theorem esc_mem {x : UInt8} (hx : x = 60 ∨ x = 62 ∨ x = 34 ∨ x = 39) (s : Str) : x ∉ escL s := by
  intro h
  unfold escL at h
  obtain ⟨c, _, hc⟩ := List.mem_flatMap.1 h
  unfold escC at hc
  by_cases h1 : c = 38
  · rw [if_pos h1] at hc; rcases hx with rfl | rfl | rfl | rfl <;> simp at hc
  rw [if_neg h1] at hc
  by_cases h2 : c = 60
  · rw [if_pos h2] at hc; rcases hx with rfl | rfl | rfl | rfl <;> simp at hc
  rw [if_neg h2] at hc
  by_cases h3 : c = 62
  · rw [if_pos h3] at hc; rcases hx with rfl | rfl | rfl | rfl <;> simp at hc
  rw [if_neg h3] at hc
  by_cases h4 : c = 34
  · rw [if_pos h4] at hc; rcases hx with rfl | rfl | rfl | rfl <;> simp at hc
  rw [if_neg h4] at hc
  by_cases h5 : c = 39
  · rw [if_pos h5] at hc; rcases hx with rfl | rfl | rfl | rfl <;> simp at hc
  rw [if_neg h5] at hc
  have : x = c := by simpa using hc
  subst this
  rcases hx with rfl | rfl | rfl | rfl
  · exact h2 rfl
  · exact h3 rfl
  · exact h4 rfl
  · exact h5 rfl
def attrW (a : Str × Str) : Str := 32 :: (a.1 ++ (61 :: 34 :: (escL a.2 ++ [34])))
def tokW (t : TokD) : Str :=
  if t.kind = 1 then 60 :: (t.name ++ (t.attrs.flatMap attrW ++ [62]))
  else if t.kind = 2 then 60 :: 47 :: (t.name ++ [62])
  else if t.kind = 3 then escL t.text else []
def writeL (l : List TokD) : Str := l.flatMap tokW
end Go.Proofs.YtpinjgdnhbogoaaGreatDoor
