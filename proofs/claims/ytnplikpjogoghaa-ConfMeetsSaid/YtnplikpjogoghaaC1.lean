/- The walks of the small functions of conf, of the reference, and of the laws: who is in a row, what rises, who is right, who are most. -/
import Derived.Test.YtnplikpjogoghaaProg
import Derived.Test.YtnplikpjogoghaaInts
import Derived.WalkSpells
import Derived.WalkLawsBesides
import Derived.Outline
import Derived.Deep.QuietTactic
import Derived.BigQuiet
import Derived.Deep.DeepMust
import Derived.Deep.DeepFit
import Derived.Deep.LoopGhost
namespace Go.Proofs.Ytnplikpjogoghaa
open Go.RowKit Go.Lib

section
variable {w : World} {S S' : Nat → Prop} {a b : Value} {l m : List Int}

/-- is a number in a row? -/
def hasB (l : List Int) (n : Int) : Bool := l.contains n
theorem hasB_iff {l : List Int} {n : Int} : hasB l n = true ↔ n ∈ l := by simp [hasB]
theorem take_has {l : List Int} {k : Nat} {p n : Int} (h : hasB (l.take k) n = false) (hp : l[k]? = some p) (hne : p ≠ n) : hasB (l.take (k + 1)) n = false := by
  rw [List.take_add_one, hp]
  simp [hasB] at h ⊢
  exact ⟨h, fun e => hne e.symm⟩

def IdxPost (l : List Int) (n : Int) (w : World) (e : Ending) (w' : World) : Prop := ∃ r : Int, e = .returned (.int .i64 r) ∧ decide (0 ≤ r) = hasB l n ∧ w = w'
set_option maxHeartbeats 1000000 in
theorem index_h (ha : IR w S a l) (hl : l.length < 1000000) (n : Int) : Calls Try.prog 42 #[a, .int .i64 n] w (IdxPost l n w) := by
  obtain ⟨a, cap, rfl, hc1, hc2⟩ := ha.form
  go_enter Try.func42, Try.ntmps42
  go_wp2_with fail
  go_loopg [8] (l.length) (fun j v wr => ∃ k : Nat, k + j = l.length ∧ v = .int .i64 k ∧ hasB (l.take k) n = false ∧ w = wr)
  case atStart => exact ⟨0, by omega, rfl, rfl, rfl⟩
  case round =>
    obtain ⟨k, hk, rfl, ht, rfl⟩ := hrel
    have HK := Lib.hid (And.intro hk ht)
    clear hk ht
    by_cases hlt : k < l.length
    · obtain ⟨g, off, rfl, hc⟩ := ha.cells (by omega)
      obtain ⟨p, hp⟩ : ∃ p, l[k]? = some p := ⟨_, List.getElem?_eq_getElem hlt⟩
      have c1 := hc k p hp
      have HP := Lib.hid hp
      clear hc hp
      by_cases he : p = n
      · have d1 : (n == p) = true := by simpa using he.symm
        have HE := Lib.hid (show hasB l n = true by rw [← he]; exact hasB_iff.2 (List.mem_of_getElem? HP.out))
        clear he
        go_wp2_with fail
        go_ret
        exact ⟨k, rfl, by rw [HE.out]; simp, rfl⟩
      · have d1 : (n == p) = false := by rw [beq_eq_false_iff_ne]; exact fun e => he e.symm
        have HE := Lib.hid (take_has HK.out.2 HP.out he)
        clear he
        go_wp2_with fail
        go_roundg (l.length - (k + 1))
        case measure => have := HK.out; omega
        case rel => exact ⟨k + 1, by omega, by go_num, HE.out, rfl⟩
    · have HE := Lib.hid (show hasB l n = false by have := HK.out.2; rwa [List.take_of_length_le (by omega)] at this)
      go_wp2_with fail
      go_ret
      exact ⟨-1, rfl, by rw [HE.out]; rfl, rfl⟩

theorem contains_h (ha : IR w S a l) (hl : l.length < 1000000) (n : Int) : Calls Try.prog 34 #[a, .int .i64 n] w fun e w' => e = .returned (.bool (hasB l n)) ∧ w = w' := by
  have h := index_h ha hl n
  go_enter Try.func34, Try.ntmps34
  go_wp2_with fail
  refine Calls.mono h ?_
  rintro e w' ⟨r, rfl, hr, rfl⟩
  have HR := Lib.hid hr
  clear hr
  go_wp2_with fail
  go_ret
  exact ⟨by rw [← HR.out]; rfl, rfl⟩
theorem chas_h (ha : IR w S a l) (hl : l.length < 1000000) (n : Int) : Calls Try.prog 20 #[a, .int .i64 n] w fun e w' => e = .returned (.bool (hasB l n)) ∧ w = w' := by
  go_enter Try.func20, Try.ntmps20
  go_wp2_with fail
  refine Calls.mono (contains_h ha hl n) ?_
  rintro e w' ⟨rfl, rfl⟩
  go_wp2_with fail
  go_ret
  exact ⟨rfl, rfl⟩

set_option maxHeartbeats 1000000 in
theorem rhas_h (ha : IR w S a l) (hl : l.length < 1000000) (n : Int) : Calls Try.prog 21 #[a, .int .i64 n] w fun e w' => e = .returned (.bool (hasB l n)) ∧ w = w' := by
  obtain ⟨a, cap, rfl, hc1, hc2⟩ := ha.form
  go_enter Try.func21, Try.ntmps21
  go_wp2_with fail
  go_loopg [5] (l.length) (fun j v wr => ∃ k : Nat, k + j = l.length ∧ v = .int .i64 k ∧ hasB (l.take k) n = false ∧ w = wr)
  case atStart => exact ⟨0, by omega, rfl, rfl, rfl⟩
  case round =>
    obtain ⟨k, hk, rfl, ht, rfl⟩ := hrel
    have HK := Lib.hid (And.intro hk ht)
    clear hk ht
    by_cases hlt : k < l.length
    · obtain ⟨g, off, rfl, hc⟩ := ha.cells (by omega)
      obtain ⟨p, hp⟩ : ∃ p, l[k]? = some p := ⟨_, List.getElem?_eq_getElem hlt⟩
      have c1 := hc k p hp
      have HP := Lib.hid hp
      clear hc hp
      by_cases he : p = n
      · have d1 : (p == n) = true := by simpa using he
        have HE := Lib.hid (show hasB l n = true by rw [← he]; exact hasB_iff.2 (List.mem_of_getElem? HP.out))
        clear he
        go_wp2_with fail
        go_ret
        exact ⟨by rw [HE.out]; rfl, rfl⟩
      · have d1 : (p == n) = false := by simpa using he
        have HE := Lib.hid (take_has HK.out.2 HP.out he)
        clear he
        go_wp2_with fail
        go_roundg (l.length - (k + 1))
        case measure => have := HK.out; omega
        case rel => exact ⟨k + 1, by omega, by go_num, HE.out, rfl⟩
    · have HE := Lib.hid (show hasB l n = false by have := HK.out.2; rwa [List.take_of_length_le (by omega)] at this)
      go_wp2_with fail
      go_ret
      exact ⟨by rw [HE.out]; rfl, rfl⟩

/-! ### what rises -/
def Rises (l : List Int) : Prop := ∀ (i : Nat) (p q : Int), l[i]? = some p → l[i + 1]? = some q → p < q
def RiseTo (l : List Int) (k : Nat) : Prop := ∀ (i : Nat) (p q : Int), i + 1 < k → l[i]? = some p → l[i + 1]? = some q → p < q
theorem rise_next {l : List Int} {k : Nat} {p q : Int} (h : RiseTo l (k + 1)) (hp : l[k]? = some p) (hq : l[k + 1]? = some q) (hl : p < q) : RiseTo l (k + 1 + 1) := by
  intro i p' q' hi hp' hq'
  by_cases hik : i = k
  · subst hik; rw [hp] at hp'; rw [hq] at hq'
    obtain rfl := Option.some.inj hp'; obtain rfl := Option.some.inj hq'; exact hl
  · exact h i p' q' (by omega) hp' hq'
def RisePost (l : List Int) (w : World) (e : Ending) (w' : World) : Prop := ∃ (r : Bool) (N : Nat), e = .returned (.bool r) ∧ (r = true ↔ Rises l) ∧ w' = w.drewN N

set_option maxHeartbeats 1000000 in
theorem rising_h (ha : IR w S a l) (hl : l.length < 1000000) : Calls Try.prog 30 #[a] w (RisePost l w) := by
  obtain ⟨a, cap, rfl, hc1, hc2⟩ := ha.form
  go_enter Try.func30, Try.ntmps30
  go_wp2_with fail
  go_loopg [3] (l.length + 1) (fun j v wr => ∃ k N : Nat, k + 1 + j = l.length + 1 + 1 ∧ v = .int .i64 ((k : Int) + 1) ∧ RiseTo l (k + 1) ∧ wr = w.drewN N)
  case atStart => exact ⟨0, 0, by omega, rfl, fun i p q h => by omega, rfl⟩
  case round =>
    obtain ⟨k, N, hk, rfl, ht, rfl⟩ := hrel
    have HK := Lib.hid (And.intro hk ht)
    clear hk ht
    by_cases hlt : k + 1 < l.length
    · have hlI : (k : Int) + 1 < (l.length : Int) := by omega
      obtain ⟨g, off, rfl, hc⟩ := ha.cells (by omega)
      obtain ⟨p, hp⟩ : ∃ p, l[k]? = some p := ⟨_, List.getElem?_eq_getElem (by omega)⟩
      obtain ⟨q, hq⟩ : ∃ p, l[k + 1]? = some p := ⟨_, List.getElem?_eq_getElem hlt⟩
      have c1 := hc k p hp
      have c2 := hc (k + 1) q hq
      have HP := Lib.hid (And.intro hp hq)
      clear hc hp hq
      by_cases he : p < q
      · have d1 : decide (q ≤ p) = false := by simpa using he
        go_wp2_with fail
        go_quiet (fail)
        go_wp2_with fail
        go_roundg (l.length - k)
        case measure => have := HK.out; omega
        case rel => exact ⟨k + 1, _, by omega, by go_num, rise_next HK.out.2 HP.out.1 HP.out.2 he, rfl⟩
      · have d1 : decide (q ≤ p) = true := by simpa using he
        go_wp2_with fail
        go_quiet (fail)
        go_wp2_with fail
        go_ret
        exact ⟨false, _, rfl, by simp; exact fun h => absurd (h k p q HP.out.1 HP.out.2) (by omega), World.drewN_drewN _ _ _⟩
    · have hlI : (l.length : Int) ≤ (k : Int) + 1 := by omega
      go_wp2_with fail
      go_ret
      exact ⟨true, N, rfl, by simp; exact fun i p q hp hq => HK.out.2 i p q (by have := (List.getElem?_eq_some_iff.1 hq).1; omega) hp hq, rfl⟩
end
end Go.Proofs.Ytnplikpjogoghaa
