/- The walk of the reference's Agreed. -/
import Derived.Test.YtnplikpjogoghaaC1
namespace Go.Proofs.Ytnplikpjogoghaa
open Go.RowKit Go.Lib

section
variable {w : World} {S S' : Nat → Prop} {a b : Value} {l m : List Int}

/-- how many have n or more -/
def geN (l : List Int) (n : Int) : Nat := l.countP fun x => decide (n ≤ x)
theorem ge_next {l : List Int} {k : Nat} {p n : Int} (hp : l[k]? = some p) : geN (l.take (k + 1)) n = geN (l.take k) n + if decide (n ≤ p) then 1 else 0 := by
  unfold geN
  rw [List.take_add_one, hp, List.countP_append]
  simp [List.countP_cons]
theorem ge_le (l : List Int) (n : Int) : geN l n ≤ l.length := List.countP_le_length
/-- what the first k of them make best -/
def bestTo (l : List Int) (k : Nat) (best : Int) (found : Bool) : Prop :=
  (found = false → best = 0 ∧ ∀ x ∈ l.take k, ¬ l.length < 2 * geN l x) ∧ (found = true → best ∈ l.take k ∧ l.length < 2 * geN l best ∧ ∀ x ∈ l.take k, l.length < 2 * geN l x → x ≤ best)
theorem best_not {l : List Int} {k : Nat} {best p : Int} {found : Bool} (h : bestTo l k best found) (hp : l[k]? = some p) (hn : l.length < 2 * geN l p → found = true ∧ p ≤ best) : bestTo l (k + 1) best found := by
  have e : l.take (k + 1) = l.take k ++ [p] := by rw [List.take_add_one, hp]; rfl
  constructor
  · intro hf
    refine ⟨(h.1 hf).1, fun x hx hh => ?_⟩
    rw [e, List.mem_append] at hx
    rcases hx with hx | hx
    · exact (h.1 hf).2 x hx hh
    · obtain rfl := List.mem_singleton.1 hx
      have := (hn hh).1
      rw [hf] at this; cases this
  · intro hf
    obtain ⟨h1, h2, h3⟩ := h.2 hf
    refine ⟨by rw [e]; exact List.mem_append_left _ h1, h2, fun x hx hh => ?_⟩
    rw [e, List.mem_append] at hx
    rcases hx with hx | hx
    · exact h3 x hx hh
    · obtain rfl := List.mem_singleton.1 hx
      exact (hn hh).2
theorem best_new {l : List Int} {k : Nat} {best p : Int} {found : Bool} (h : bestTo l k best found) (hp : l[k]? = some p) (h1 : l.length < 2 * geN l p) (h2 : found = true → best < p) : bestTo l (k + 1) p true := by
  have e : l.take (k + 1) = l.take k ++ [p] := by rw [List.take_add_one, hp]; rfl
  refine ⟨fun hf => (by cases hf), fun _ => ⟨by rw [e]; exact List.mem_append_right _ (List.mem_singleton.2 rfl), h1, fun x hx hh => ?_⟩⟩
  rw [e, List.mem_append] at hx
  rcases hx with hx | hx
  · cases found with
    | false => exact absurd hh ((h.1 rfl).2 x hx)
    | true => exact Int.le_of_lt (Int.lt_of_le_of_lt ((h.2 rfl).2.2 x hx hh) (h2 rfl))
  · obtain rfl := List.mem_singleton.1 hx; exact Int.le_refl _

def RAgreedPost (l : List Int) (w : World) (e : Ending) (w' : World) : Prop := ∃ (best : Int) (found : Bool) (N : Nat), e = .returned (.int .i64 best) ∧ bestTo l l.length best found ∧ w' = w.drewN N

set_option maxHeartbeats 4000000 in
theorem ragreed_h (ha : IR w S a l) (hl : l.length < 1000000) : Calls Try.prog 14 #[a] w (RAgreedPost l w) := by
  obtain ⟨a, cap, rfl, hc1, hc2⟩ := ha.form
  go_enter Try.func14, Try.ntmps14
  go_wp2_with fail
  go_loopg [3, 4, 5] (l.length) (fun j v f i wr => ∃ (k N : Nat) (best : Int) (found : Bool), k + j = l.length ∧ v = .int .i64 best ∧ f = .bool found ∧ i = .int .i64 k ∧ bestTo l k best found ∧ wr = w.drewN N)
  case atStart => exact ⟨0, 0, 0, false, by omega, rfl, rfl, rfl, ⟨fun _ => ⟨rfl, by simp⟩, fun h => by cases h⟩, rfl⟩
  case round =>
    obtain ⟨k, N, best, found, hk, rfl, rfl, rfl, ht, rfl⟩ := hrel
    have HK := Lib.hid (And.intro hk ht)
    clear hk ht
    by_cases hlt : k < l.length
    · obtain ⟨g, off, rfl, hc⟩ := ha.cells (by omega)
      have HC := Lib.hid hc
      obtain ⟨p, hp⟩ : ∃ p, l[k]? = some p := ⟨_, List.getElem?_eq_getElem (by omega)⟩
      have c1 := hc k p hp
      have HP := Lib.hid hp
      clear hc hp
      go_wp2_with fail
      go_loopg [6, 7] (l.length) (fun j v i wr => ∃ (q N : Nat), q + j = l.length ∧ v = .int .i64 (geN (l.take q) p) ∧ i = .int .i64 q ∧ wr = w.drewN N)
      case atStart => exact ⟨0, N, by omega, rfl, rfl, rfl⟩
      case round =>
        obtain ⟨q, N, hq, rfl, rfl, rfl⟩ := hrel
        have HQ := Lib.hid hq
        clear hq
        by_cases hlt2 : q < l.length
        · obtain ⟨x, hx⟩ : ∃ p, l[q]? = some p := ⟨_, List.getElem?_eq_getElem (by omega)⟩
          have c2 := HC.out q x hx
          have HX := Lib.hid (ge_next (n := p) hx)
          clear hx
          have hge0 : geN (l.take q) p ≤ l.length := Nat.le_trans (ge_le _ _) (by rw [List.length_take]; omega)
          generalize hgg : geN (l.take q) p = c at hge0
          have HG := Lib.hid hgg
          clear hgg
          by_cases he : p ≤ x
          · have d1 : decide (p ≤ x) = true := by simpa using he
            go_wp2_with fail
            go_quiet (fail)
            go_wp2_with fail
            go_roundg (l.length - (q + 1))
            case measure => have := HQ.out; omega
            case rel => exact ⟨q + 1, _, by omega, by rw [HX.out, HG.out, if_pos (by simpa using he)]; go_num, by go_num, rfl⟩
          · have d1 : decide (p ≤ x) = false := by simpa using he
            go_wp2_with fail
            go_quiet (fail)
            go_wp2_with fail
            go_roundg (l.length - (q + 1))
            case measure => have := HQ.out; omega
            case rel => exact ⟨q + 1, _, by omega, by rw [HX.out, HG.out, if_neg (by simpa using he)]; rfl, by go_num, rfl⟩
        · have hfull : geN (l.take q) p = geN l p := by rw [List.take_of_length_le (by omega)]
          have hge0 := ge_le l p
          rw [hfull]
          generalize hgg : geN l p = c at hge0
          have HG := Lib.hid hgg
          clear hgg hfull
          by_cases h2 : l.length < 2 * c
          · have d2 : decide ((l.length : Int) < 2 * (c : Int)) = true := by rw [decide_eq_true_iff]; omega
            cases found with
            | false =>
              go_wp2_with fail
              go_roundg (l.length - (k + 1))
              case measure => have := HK.out; omega
              case rel => exact ⟨k + 1, _, p, true, by omega, rfl, rfl, by go_num, best_new HK.out.2 HP.out (by rw [HG.out]; exact h2) (fun h => by cases h), rfl⟩
            | true =>
              by_cases h3 : best < p
              · have d3 : decide (best < p) = true := by simpa using h3
                go_wp2_with fail
                go_roundg (l.length - (k + 1))
                case measure => have := HK.out; omega
                case rel => exact ⟨k + 1, _, p, true, by omega, rfl, rfl, by go_num, best_new HK.out.2 HP.out (by rw [HG.out]; exact h2) (fun _ => h3), rfl⟩
              · have d3 : decide (best < p) = false := by simpa using h3
                go_wp2_with fail
                go_roundg (l.length - (k + 1))
                case measure => have := HK.out; omega
                case rel => exact ⟨k + 1, _, best, true, by omega, rfl, rfl, by go_num, best_not HK.out.2 HP.out (fun _ => ⟨rfl, by omega⟩), rfl⟩
          · have d2 : decide ((l.length : Int) < 2 * (c : Int)) = false := by rw [decide_eq_false_iff_not]; omega
            go_wp2_with fail
            go_roundg (l.length - (k + 1))
            case measure => have := HK.out; omega
            case rel => exact ⟨k + 1, _, best, found, by omega, rfl, rfl, by go_num, best_not HK.out.2 HP.out (fun h => absurd (by rw [HG.out] at h; exact h) h2), rfl⟩
    · have HE := Lib.hid (show bestTo l l.length best found by have := HK.out.2; rwa [show k = l.length from by have := HK.out.1; omega] at this)
      go_wp2_with fail
      go_ret
      exact ⟨best, found, N, rfl, HE.out, rfl⟩
end
end Go.Proofs.Ytnplikpjogoghaa
