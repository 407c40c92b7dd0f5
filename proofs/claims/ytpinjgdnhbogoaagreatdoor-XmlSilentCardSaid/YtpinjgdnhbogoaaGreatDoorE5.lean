/- byteStringReplacer: plain parts. -/
import Derived.Test.YtpinjgdnhbogoaaGreatDoorE4
namespace Go.Proofs.YtpinjgdnhbogoaaGreatDoor
open Go.RowKit Go.Lib

def escN (c : UInt8) : Nat := match repF 0 c with | some l => l.length - 1 | none => 0
def isRep (c : UInt8) : Bool := (repF 0 c).isSome
def escAt (j : Nat) : UInt8 := pc (4 - j)
theorem esc_len (c : UInt8) : (escC c).length = 1 + escN c := by
  rw [esc_rep]; unfold escN
  cases h : repF 0 c with
  | none => rfl
  | some l =>
    have : 1 ≤ l.length := by
      unfold repF at h
      split at h
      · cases h; decide
      split at h
      · cases h; decide
      split at h
      · cases h; decide
      split at h
      · cases h; decide
      split at h
      · cases h; decide
      cases h
    simp only; omega
theorem escN_le (c : UInt8) : escN c ≤ 5 := by
  unfold escN repF
  split
  · rename_i l h
    split at h
    · cases h; decide
    split at h
    · cases h; decide
    split at h
    · cases h; decide
    split at h
    · cases h; decide
    split at h
    · cases h; decide
    cases h
  · omega
/-- what the first k texts that are replaced make longer -/
def longer : Nat → Str → Nat
  | 0, _ => 0
  | k + 1, s => longer k s + s.count (escAt k) * ((pv (4 - k)).length - 1)
def anyOf : Nat → Str → Bool
  | 0, _ => false
  | k + 1, s => anyOf k s || s.count (escAt k) != 0
theorem longer_cons (c : UInt8) (s : Str) : ∀ k, k ≤ 5 → longer k (c :: s) = longer k s + longer k [c]
  | 0, _ => rfl
  | k + 1, h => by
    have ih := longer_cons c s k (by omega)
    simp only [longer, List.count_cons, List.count_nil, ih, Nat.add_mul, Nat.zero_add]
    omega
theorem longer_one (c : UInt8) : longer 5 [c] = escN c := by
  unfold escN
  simp only [longer, escAt, List.count_cons, List.count_nil, pc, pcs, pv, pvs, repF]
  by_cases h1 : c = 38
  · subst h1; rfl
  by_cases h2 : c = 60
  · subst h2; rfl
  by_cases h3 : c = 62
  · subst h3; rfl
  by_cases h4 : c = 34
  · subst h4; rfl
  by_cases h5 : c = 39
  · subst h5; rfl
  simp [h1, h2, h3, h4, h5]
theorem esc_longer (s : Str) : (escL s).length = s.length + longer 5 s := by
  induction s with
  | nil => rfl
  | cons c s ih => rw [escL_cons, List.length_append, ih, longer_cons c s 5 (by omega), longer_one, esc_len, List.length_cons]; omega
theorem any_cons (c : UInt8) (s : Str) : ∀ k, k ≤ 5 → anyOf k (c :: s) = (anyOf k s || anyOf k [c])
  | 0, _ => rfl
  | k + 1, h => by
    have ih := any_cons c s k (by omega)
    simp only [anyOf, ih, List.count_cons, List.count_nil]
    by_cases hc : c == escAt k
    · simp [hc]
    · simp [hc]; cases anyOf k s <;> cases anyOf k [c] <;> simp
theorem any_one (c : UInt8) : anyOf 5 [c] = isRep c := by
  unfold isRep
  simp only [anyOf, escAt, List.count_cons, List.count_nil, pc, pcs, repF]
  by_cases h1 : c = 38
  · subst h1; rfl
  by_cases h2 : c = 60
  · subst h2; rfl
  by_cases h3 : c = 62
  · subst h3; rfl
  by_cases h4 : c = 34
  · subst h4; rfl
  by_cases h5 : c = 39
  · subst h5; rfl
  simp [h1, h2, h3, h4, h5]
theorem any_rep (s : Str) : anyOf 5 s = s.any isRep := by
  induction s with
  | nil => rfl
  | cons c s ih => rw [any_cons c s 5 (by omega), ih, any_one, List.any_cons, Bool.or_comm]
theorem esc_no {s : Str} (h : s.any isRep = false) : escL s = s := by
  induction s with
  | nil => rfl
  | cons c s ih =>
    rw [List.any_cons, Bool.or_eq_false_iff] at h
    have h1 : repF 0 c = none := by have := h.1; unfold isRep at this; simpa using this
    rw [escL_cons, ih h.2, esc_rep, h1]; rfl
theorem longer_le (s : Str) : longer 5 s ≤ 5 * s.length := by
  have h := esc_longer s
  have : (escL s).length ≤ 6 * s.length := by
    clear h
    induction s with
    | nil => exact Nat.zero_le _
    | cons c s ih => rw [escL_cons, List.length_append, esc_len, List.length_cons]; have := escN_le c; omega
  omega
theorem longer_mono (s : Str) : ∀ k, longer k s ≤ longer (k + 1) s := fun k => by simp only [longer]; omega
theorem longer_le5 (s : Str) (k : Nat) (h : k ≤ 5) : longer k s ≤ 5 * s.length := by
  have h5 := longer_le s
  have a : longer 4 s ≤ longer 5 s := longer_mono s 4
  have b : longer 3 s ≤ longer 4 s := longer_mono s 3
  have c : longer 2 s ≤ longer 3 s := longer_mono s 2
  have d : longer 1 s ≤ longer 2 s := longer_mono s 1
  have e : longer 0 s ≤ longer 1 s := longer_mono s 0
  match k, h with
  | 0, _ => omega
  | 1, _ => omega
  | 2, _ => omega
  | 3, _ => omega
  | 4, _ => omega
  | 5, _ => omega
theorem toRep_at : ∀ k, k < 5 → (toRep 0)[k]? = some [escAt k] ∧ repF 0 (escAt k) = some (pv (4 - k)) ∧ 1 ≤ (pv (4 - k)).length ∧ (pv (4 - k)).length ≤ 6 := by decide
end Go.Proofs.YtpinjgdnhbogoaaGreatDoor
