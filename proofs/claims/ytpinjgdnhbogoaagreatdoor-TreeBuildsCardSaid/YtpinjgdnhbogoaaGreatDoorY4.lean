/- The reference's Read, step by step (no program). -/
import Derived.Test.YtpinjgdnhbogoaaGreatDoorM5
import Derived.Test.YtpinjgdnhbogoaaGreatDoorY3
namespace Go.Proofs.YtpinjgdnhbogoaaGreatDoor

theorem cut1_fresh {c : UInt8} : ∀ {s a b : Str}, cutL [c] s = some (a, b) → c ∉ a
  | [], _, _, h => by simp [cutL] at h
  | x :: t, a, b, h => by
    rw [cut1_cons] at h
    by_cases hx : x = c
    · rw [if_pos hx] at h
      simp only [Option.some.injEq, Prod.mk.injEq] at h
      obtain ⟨rfl, _⟩ := h
      simp
    · rw [if_neg hx] at h
      cases hc : cutL [c] t with
      | none => rw [hc] at h; cases h
      | some q =>
        rw [hc] at h
        simp only [Option.map_some, Option.some.injEq, Prod.mk.injEq] at h
        obtain ⟨rfl, _⟩ := h
        have := cut1_fresh (a := q.1) (b := q.2) hc
        simp only [List.mem_cons, not_or]
        exact ⟨fun e => hx e.symm, this⟩
/-- the end of a text that begins at a place -/
def segN (s : Str) (i : Nat) : Nat := match cutL [60] (s.drop i) with | none => s.length | some q => i + q.1.length
theorem seg_none {s : Str} {i : Nat} (h : findZ [60] s i < 0) : segN s i = s.length := by unfold segN; rw [find_none h]
theorem seg_some {s : Str} {i : Nat} (h : ¬ findZ [60] s i < 0) : ((segN s i : Nat) : Int) = findZ [60] s i := by
  obtain ⟨a, b, h1, h2, _⟩ := find_some h
  unfold segN
  rw [h1, h2]
theorem seg_parts {s : Str} {i : Nat} (hi : i < s.length) (hc : s.getD i 0 ≠ 60) : i < segN s i ∧ segN s i ≤ s.length ∧ s.drop i = (s.take (segN s i)).drop i ++ s.drop (segN s i) ∧ 60 ∉ (s.take (segN s i)).drop i ∧ (s.drop (segN s i) = [] ∨ ∃ t, s.drop (segN s i) = 60 :: t) := by
  unfold segN
  cases h : cutL [60] (s.drop i) with
  | none =>
    dsimp only
    rw [List.take_length, List.drop_length]
    exact ⟨hi, Nat.le_refl _, by simp, cut1_none.1 h, .inl rfl⟩
  | some q =>
    obtain ⟨a, b⟩ := q
    dsimp only
    have e1 := cutL_some h
    have e2 := take_mid e1 (Nat.le_of_lt hi)
    obtain ⟨e3, e4, e5⟩ := cut_place h (Nat.le_of_lt hi)
    have e6 : ([60] : Str).length = 1 := rfl
    rw [e6] at e3 e4 e5
    have e7 : s.drop (i + a.length) = 60 :: b := by rw [← List.drop_drop, e1, List.drop_left]; rfl
    rw [e2, e7]
    refine ⟨?_, by omega, e1, cut1_fresh h, .inr ⟨b, rfl⟩⟩
    cases a with
    | nil =>
      rw [drop_getD hi] at e1
      injection e1 with e1 _
      exact absurd e1 hc
    | cons x a => simp
theorem RdTo.seg {s words : Str} {l : List TokD} {i : Nat} (h : RdTo s l words (s.drop i)) (hi : i < s.length) (hc : s.getD i 0 ≠ 60) {u : Str} (hs : saidL ((s.take (segN s i)).drop i) = .ok u) : RdTo s l (words ++ u) (s.drop (segN s i)) := by
  obtain ⟨h1, h2, h3, h4, h5⟩ := seg_parts hi hc
  rw [h3] at h
  refine h.text (fun e => ?_) h4 h5 hs
  have := congrArg List.length e
  rw [List.length_drop, List.length_take] at this
  simp at this
  omega
theorem RdTo.segBad {s words : Str} {l : List TokD} {i k : Nat} (h : RdTo s l words (s.drop i)) (hi : i < s.length) (hc : s.getD i 0 ≠ 60) (hs : saidL ((s.take (segN s i)).drop i) = .error k) : readL s = .error (i + k) := by
  obtain ⟨h1, h2, h3, h4, h5⟩ := seg_parts hi hc
  have h0 := h
  rw [h3] at h
  rw [h.textBad (fun e => ?_) h4 h5 hs, ← h3, List.length_drop]
  · congr 2; omega
  · have := congrArg List.length e
    rw [List.length_drop, List.length_take] at this
    simp at this
    omega
section
variable {s words : Str} {l : List TokD} {i : Nat} (h : RdTo s l words (s.drop i)) (hi : i < s.length) (hc : s.getD i 0 = 60)
include h hi hc
theorem RdTo.noPart (hp : partL (s.drop i) = none) : readL s = .error i := by
  rw [drop_getD hi, hc] at h hp
  rw [h.partBad hp]
  congr 1
  rw [List.length_cons, List.length_drop]; omega
theorem RdTo.quiet {u : Str} {n : Nat} (hn : 0 < n) (hp : RPart (s.drop i) u [] n) : RdTo s l (words ++ u) (s.drop (i + n)) := by
  rcases hp with ⟨e, _⟩ | ⟨_, _, hp⟩
  · omega
  · rw [List.drop_drop, drop_getD hi, hc] at hp
    rw [drop_getD hi, hc] at h
    exact h.part0 hp
theorem RdTo.loud {u : Str} {n : Nat} {toks : List TokD} (hn : 0 < n) (hp : RPart (s.drop i) u toks n) (h0 : toks ≠ []) : RdTo s (flushL l (words ++ u) ++ toks) [] (s.drop (i + n)) := by
  rcases hp with ⟨e, _⟩ | ⟨_, _, hp⟩
  · omega
  · rw [List.drop_drop, drop_getD hi, hc] at hp
    rw [drop_getD hi, hc] at h
    exact h.part1 hp h0
end
theorem RPart.le {s u : Str} {l : List TokD} {n : Nat} (h : RPart s u l n) : n ≤ s.length := by
  rcases h with ⟨rfl, _⟩ | ⟨_, h, _⟩
  · exact Nat.zero_le _
  · exact h
theorem RPart.bad {s u : Str} {l : List TokD} (h : RPart s u l 0) : partL s = none := by
  rcases h with ⟨_, h⟩ | ⟨h, _, _⟩
  · exact h
  · omega
theorem RPart.out {s u : Str} {l : List TokD} {n : Nat} (hn : 0 < n) (h : RPart s u l n) : u.length ≤ s.length ∧ l.length ≤ 2 := by
  rcases h with ⟨e, _⟩ | ⟨_, _, h⟩
  · omega
  · have := partL_out h; omega
theorem RdTo.done {s words : Str} {l : List TokD} (h : RdTo s l words (s.drop s.length)) : readL s = .ok (flushL l words) := by
  rw [List.drop_length] at h; exact h.last
end Go.Proofs.YtpinjgdnhbogoaaGreatDoor
