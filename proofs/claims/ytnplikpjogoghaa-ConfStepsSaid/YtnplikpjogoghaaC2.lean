/- The walks of Right, Most and their references, of pick and same. -/
import Derived.Test.YtnplikpjogoghaaC1
namespace Go.Proofs.Ytnplikpjogoghaa
open Go.RowKit Go.Lib

section
variable {w : World} {S S' : Nat → Prop} {a b : Value} {l m : List Int}

def RightP (l : List Int) : Prop := 3 ≤ l.length ∧ l.length ≤ 7 ∧ Rises l ∧ ∀ p ∈ l, 1 ≤ p ∧ p ≤ 9
def RightPost (l : List Int) (w : World) (e : Ending) (w' : World) : Prop := ∃ (r : Bool) (N : Nat), e = .returned (.bool r) ∧ (r = true ↔ RightP l) ∧ w' = w.drewN N

theorem rises_lt {l : List Int} (h : Rises l) : ∀ (j i : Nat) (p q : Int), i < j → l[i]? = some p → l[j]? = some q → p < q
  | 0, _, _, _, hi, _, _ => by omega
  | j + 1, i, p, q, hi, hp, hq => by
    have hj : j < l.length := by have := (List.getElem?_eq_some_iff.1 hq).1; omega
    have h1 := h j _ q (List.getElem?_eq_getElem hj) hq
    by_cases hij : i = j
    · subst hij
      rw [List.getElem?_eq_getElem hj] at hp
      obtain rfl := Option.some.inj hp
      exact h1
    · exact Int.lt_trans (rises_lt h j i p _ (by omega) hp (List.getElem?_eq_getElem hj)) h1
theorem right_of {l : List Int} (h3 : 3 ≤ l.length) (h7 : l.length ≤ 7) {p q : Int} (hp : l[0]? = some p) (hq : l[l.length - 1]? = some q) : RightP l ↔ Rises l ∧ 0 < p ∧ q ≤ 9 := by
  constructor
  · rintro ⟨_, _, hr, hb⟩
    exact ⟨hr, by have := (hb p (List.mem_of_getElem? hp)).1; omega, (hb q (List.mem_of_getElem? hq)).2⟩
  · rintro ⟨hr, h1, h2⟩
    refine ⟨h3, h7, hr, fun x hx => ?_⟩
    obtain ⟨i, hi⟩ := List.getElem?_of_mem hx
    have hil := (List.getElem?_eq_some_iff.1 hi).1
    constructor
    · by_cases h0 : i = 0
      · subst h0; rw [hp] at hi; obtain rfl := Option.some.inj hi; omega
      · have := rises_lt hr i 0 p x (by omega) hp hi; omega
    · by_cases h0 : i = l.length - 1
      · subst h0; rw [hq] at hi; obtain rfl := Option.some.inj hi; exact h2
      · have := rises_lt hr (l.length - 1) i x q (by omega) hi hq; omega

set_option maxHeartbeats 1000000 in
theorem right_h (ha : IR w S a l) (hl : l.length < 1000000) : Calls Try.prog 16 #[a] w (RightPost l w) := by
  have hris := rising_h ha hl
  obtain ⟨a, cap, rfl, hc1, hc2⟩ := ha.form
  by_cases h3 : 3 ≤ l.length
  · have d3 : decide (3 ≤ (l.length : Int)) = true := by rw [decide_eq_true_iff]; omega
    by_cases h7 : l.length ≤ 7
    · have d7 : decide ((l.length : Int) ≤ 7) = true := by rw [decide_eq_true_iff]; omega
      obtain ⟨g, off, rfl, hc⟩ := ha.cells (by omega)
      obtain ⟨p, hp⟩ : ∃ p, l[0]? = some p := ⟨_, List.getElem?_eq_getElem (by omega)⟩
      obtain ⟨q, hq⟩ : ∃ p, l[l.length - 1]? = some p := ⟨_, List.getElem?_eq_getElem (by omega)⟩
      have c1 := hc 0 p hp
      rw [Nat.add_zero] at c1
      have c2 := hc (l.length - 1) q hq
      have hI : (l.length : Int) - 1 = ((l.length - 1 : Nat) : Int) := by omega
      have hrof := right_of h3 h7 hp hq
      have HP := Lib.hid (And.intro hris hrof)
      clear hc hp hq hris hrof
      go_enter Try.func16, Try.ntmps16
      go_wp2_with fail
      refine Calls.mono HP.out.1 ?_
      rintro e w' ⟨r, N, rfl, hr, rfl⟩
      have HR := Lib.hid hr
      clear hr
      cases r with
      | false =>
        go_wp2_with fail
        go_ret
        exact ⟨false, N, rfl, by rw [HP.out.2]; simp; exact fun h => absurd (HR.out.2 h) (by simp), rfl⟩
      | true =>
        by_cases h0 : 0 < p
        · have d0 : decide (0 < p) = true := by simpa using h0
          go_wp2_with fail
          go_ret
          refine ⟨decide (q ≤ 9), N, rfl, ?_, rfl⟩
          rw [HP.out.2, decide_eq_true_iff]
          exact ⟨fun h => ⟨HR.out.1 trivial, h0, h⟩, fun h => h.2.2⟩
        · have d0 : decide (0 < p) = false := by simpa using h0
          go_wp2_with fail
          go_ret
          exact ⟨false, N, rfl, by rw [HP.out.2]; simp; exact fun _ h => by omega, rfl⟩
    · have d7 : decide ((l.length : Int) ≤ 7) = false := by rw [decide_eq_false_iff_not]; omega
      clear hris
      go_enter Try.func16, Try.ntmps16
      go_wp2_with fail
      go_ret
      exact ⟨false, 0, rfl, by simp; exact fun h => h7 h.2.1, rfl⟩
  · have d3 : decide (3 ≤ (l.length : Int)) = false := by rw [decide_eq_false_iff_not]; omega
    clear hris
    go_enter Try.func16, Try.ntmps16
    go_wp2_with fail
    go_ret
    exact ⟨false, 0, rfl, by simp; exact fun h => h3 h.1, rfl⟩

/-! ### the reference's Rising and Right -/
def FineTo (l : List Int) (k : Nat) : Prop := RiseTo l k ∧ ∀ i p, i < k → l[i]? = some p → 1 ≤ p ∧ p ≤ 9
def FinePost (l : List Int) (w : World) (e : Ending) (w' : World) : Prop := ∃ (r : Bool) (N : Nat), e = .returned (.bool r) ∧ (r = true ↔ (Rises l ∧ (∀ p ∈ l, 1 ≤ p ∧ p ≤ 9)) ∧ l.length ≤ 9) ∧ w' = w.drewN N
theorem fine_next {l : List Int} {k : Nat} {p : Int} (h : FineTo l k) (hp : l[k]? = some p) (h1 : 1 ≤ p) (h2 : p ≤ 9) (h3 : ∀ q, 0 < k → l[k - 1]? = some q → q < p) : FineTo l (k + 1) := by
  refine ⟨fun i x y hi hx hy => ?_, fun i x hi hx => ?_⟩
  · by_cases hik : i + 1 = k
    · subst hik; rw [hp] at hy; obtain rfl := Option.some.inj hy; exact h3 x (by omega) (by simpa using hx)
    · exact h.1 i x y (by omega) hx hy
  · by_cases hik : i = k
    · subst hik; rw [hp] at hx; obtain rfl := Option.some.inj hx; exact ⟨h1, h2⟩
    · exact h.2 i x (by omega) hx
theorem fine_all {l : List Int} (h : FineTo l l.length) : Rises l ∧ ∀ p ∈ l, 1 ≤ p ∧ p ≤ 9 := by
  refine ⟨fun i p q hp hq => h.1 i p q (List.getElem?_eq_some_iff.1 hq).1 hp hq, fun p hp => ?_⟩
  obtain ⟨i, hi⟩ := List.getElem?_of_mem hp
  exact h.2 i p (List.getElem?_eq_some_iff.1 hi).1 hi

set_option maxHeartbeats 2000000 in
theorem rrising_h (ha : IR w S a l) (hl : l.length < 1000000) : Calls Try.prog 31 #[a] w (FinePost l w) := by
  obtain ⟨a, cap, rfl, hc1, hc2⟩ := ha.form
  go_enter Try.func31, Try.ntmps31
  go_wp2_with fail
  go_loopg [3] (l.length) (fun j v wr => ∃ k N : Nat, k + j = l.length ∧ v = .int .i64 k ∧ FineTo l k ∧ wr = w.drewN N)
  case atStart => exact ⟨0, 0, by omega, rfl, ⟨fun i p q h => by omega, fun i p h => by omega⟩, rfl⟩
  case round =>
    obtain ⟨k, N, hk, rfl, ht, rfl⟩ := hrel
    have HK := Lib.hid (And.intro hk ht)
    clear hk ht
    by_cases hlt : k < l.length
    · obtain ⟨g, off, rfl, hc⟩ := ha.cells (by omega)
      obtain ⟨p, hp⟩ : ∃ p, l[k]? = some p := ⟨_, List.getElem?_eq_getElem (by omega)⟩
      have c1 := hc k p hp
      have hbad : ¬ (1 ≤ p ∧ p ≤ 9) → ¬ ((Rises l ∧ (∀ p ∈ l, 1 ≤ p ∧ p ≤ 9)) ∧ l.length ≤ 9) := fun h1 h2 => h1 (h2.1.2 p (List.mem_of_getElem? hp))
      have HP := Lib.hid (And.intro hp hbad)
      clear hp hbad
      by_cases e1 : p < 1
      · have d1 : decide (p < 1) = true := by simpa using e1
        clear hc
        go_wp2_with fail
        go_quiet (fail)
        go_wp2_with fail
        go_ret
        refine ⟨false, _, rfl, ?_, World.drewN_drewN _ _ _⟩
        simp only [Bool.false_eq_true, false_iff]; exact HP.out.2 (by omega)
      · have d1 : decide (p < 1) = false := by simpa using e1
        by_cases e2 : 9 < p
        · have d2 : decide (9 < p) = true := by simpa using e2
          clear hc
          go_wp2_with fail
          go_quiet (fail)
          go_wp2_with fail
          go_ret
          refine ⟨false, _, rfl, ?_, World.drewN_drewN _ _ _⟩
          simp only [Bool.false_eq_true, false_iff]; exact HP.out.2 (by omega)
        · have d2 : decide (9 < p) = false := by simpa using e2
          rcases Nat.eq_zero_or_pos k with rfl | h0
          · rw [Nat.add_zero] at c1
            clear hc
            go_wp2_with fail
            go_quiet (fail)
            go_wp2_with fail
            go_roundg (l.length - (0 + 1))
            case measure => have := HK.out; omega
            case rel => exact ⟨1, _, by omega, by go_num, fine_next HK.out.2 HP.out.1 (by omega) (by omega) (fun q h => by omega), rfl⟩
          · obtain ⟨j, rfl⟩ : ∃ j, k = j + 1 := ⟨k - 1, by omega⟩
            obtain ⟨q, hq⟩ : ∃ p, l[j]? = some p := ⟨_, List.getElem?_eq_getElem (by omega)⟩
            have c2 := hc j q hq
            have HQ := Lib.hid hq
            have d4 : decide (0 < (j : Int) + 1) = true := by rw [decide_eq_true_iff]; omega
            clear hc hq
            by_cases e3 : p ≤ q
            · have d3 : decide (p ≤ q) = true := by simpa using e3
              go_wp2_with fail
              go_quiet (fail)
              go_wp2_with fail
              go_ret
              refine ⟨false, _, rfl, ?_, World.drewN_drewN _ _ _⟩
              simp only [Bool.false_eq_true, false_iff]; exact fun h => absurd (h.1.1 j q p HQ.out HP.out.1) (by omega)
            · have d3 : decide (p ≤ q) = false := by simpa using e3
              go_wp2_with fail
              go_quiet (fail)
              go_wp2_with fail
              go_roundg (l.length - (j + 1 + 1))
              case measure => have := HK.out; omega
              case rel => exact ⟨j + 1 + 1, _, by omega, by go_num, fine_next HK.out.2 HP.out.1 (by omega) (by omega) (fun x _ hx => by simp at hx; rw [HQ.out] at hx; obtain rfl := Option.some.inj hx; omega), rfl⟩
    · have HF := Lib.hid (fine_all (l := l) (by have := HK.out.2; rwa [show k = l.length from by have := HK.out.1; omega] at this))
      go_wp2_with fail
      go_ret
      exact ⟨decide ((l.length : Int) ≤ 9), N, by simp, by rw [decide_eq_true_iff]; exact ⟨fun h => ⟨HF.out, by omega⟩, fun h => by have := h.2; omega⟩, rfl⟩

set_option maxHeartbeats 1000000 in
theorem rright_h (ha : IR w S a l) (hl : l.length < 1000000) : Calls Try.prog 17 #[a] w (RightPost l w) := by
  have hris := rrising_h ha hl
  obtain ⟨a, cap, rfl, hc1, hc2⟩ := ha.form
  have HR := Lib.hid hris
  clear hris
  by_cases h3 : 3 ≤ l.length
  · have d3 : decide (3 ≤ (l.length : Int)) = true := by rw [decide_eq_true_iff]; omega
    go_enter Try.func17, Try.ntmps17
    go_wp2_with fail
    refine Calls.mono HR.out ?_
    rintro e w' ⟨r, N, rfl, hr, rfl⟩
    have HS := Lib.hid hr
    clear hr
    cases r with
    | false =>
      go_wp2_with fail
      go_ret
      exact ⟨false, N, rfl, by simp; exact fun h => absurd (HS.out.2 ⟨h.2.2, by have := h.2.1; omega⟩) (by simp), rfl⟩
    | true =>
      go_wp2_with fail
      go_ret
      refine ⟨decide ((l.length : Int) ≤ 7), N, by simp, ?_, rfl⟩
      rw [decide_eq_true_iff]
      exact ⟨fun h => ⟨h3, by omega, (HS.out.1 trivial).1⟩, fun h => by have := h.2.1; omega⟩
  · have d3 : decide (3 ≤ (l.length : Int)) = false := by rw [decide_eq_false_iff_not]; omega
    go_enter Try.func17, Try.ntmps17
    go_wp2_with fail
    refine Calls.mono HR.out ?_
    rintro e w' ⟨r, N, rfl, hr, rfl⟩
    clear hr
    cases r with
    | false =>
      go_wp2_with fail
      go_ret
      exact ⟨false, N, rfl, by simp; exact fun h => h3 h.1, rfl⟩
    | true =>
      go_wp2_with fail
      go_ret
      exact ⟨false, N, rfl, by simp; exact fun h => h3 h.1, rfl⟩
end
end Go.Proofs.Ytnplikpjogoghaa
