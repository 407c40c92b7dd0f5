/- Bytes of names: begins, goesOn, name. -/
import Derived.Test.YtpinjgdnhbogoaaGreatDoorMem
import Derived.Test.YtpinjgdnhbogoaaGreatDoorXX
import Derived.Test.YtpinjgdnhbogoaaGreatDoorProg
import Derived.Deep.QuietTactic
import Derived.BigQuiet
import Derived.WalkLawsBesides
import Derived.IntWalk
namespace Go.Proofs.YtpinjgdnhbogoaaGreatDoor
open Go.RowKit Go.Lib

def bs (l : List UInt8) : ByteArray := ⟨l.toArray⟩
theorem bs_of (s : ByteArray) : ∃ l, s = bs l := ⟨s.data.toList, rfl⟩
theorem bs_data (l : List UInt8) : (bs l).data.toList = l := rfl
theorem bs_size (l : List UInt8) : (bs l).size = l.length := rfl
theorem bs_append (a b : List UInt8) : bs a ++ bs b = bs (a ++ b) := by
  apply ByteArray.ext; apply Array.ext'; simp [bs]
theorem bs_nil : bs [] = ⟨#[]⟩ := rfl
theorem bs_toList (l : List UInt8) : (bs l).toList = l := by rw [Lib.toList_data]; rfl
theorem bs_at (l : List UInt8) (q : Nat) (h : q < (bs l).size) : (bs l)[q] = l.getD q 0 := by
  have h2 : q < l.length := h
  rw [List.getD_eq_getElem?_getD, List.getElem?_eq_getElem h2]
  rfl
theorem byte_eq (c : UInt8) (n : Nat) (hn : n < 256) : (c == UInt8.ofNat n) = decide (c.toNat = n) := by
  rw [Bool.eq_iff_iff, beq_iff_eq, decide_eq_true_iff]
  constructor
  · rintro rfl; rw [UInt8.toNat_ofNat']; omega
  · intro h; rw [← h]; exact (UInt8.ofNat_toNat).symm
theorem begins_nat (c : UInt8) : beginsC c = ((decide (65 ≤ c.toNat) && decide (c.toNat ≤ 90)) || (decide (97 ≤ c.toNat) && decide (c.toNat ≤ 122)) || decide (c.toNat = 95) || decide (c.toNat = 58) || decide (128 ≤ c.toNat)) := by
  unfold beginsC
  rw [show (c == 95) = decide (c.toNat = 95) from byte_eq c 95 (by decide), show (c == 58) = decide (c.toNat = 58) from byte_eq c 58 (by decide)]
def beginsN (n : Nat) : Bool := (decide (65 ≤ n) && decide (n ≤ 90)) || (decide (97 ≤ n) && decide (n ≤ 122)) || decide (n = 95) || decide (n = 58) || decide (128 ≤ n)
set_option maxHeartbeats 2000000 in
theorem begins_n {w : World} (n : Nat) : Calls Tryz.prog 140 #[.int .u8 (n : Int)] w fun e w' => e = .returned (.bool (beginsN n)) ∧ w = w' := by
  have hcl : n < 58 ∨ n = 58 ∨ (59 ≤ n ∧ n ≤ 64) ∨ (65 ≤ n ∧ n ≤ 90) ∨ (91 ≤ n ∧ n ≤ 94) ∨ n = 95 ∨ n = 96 ∨ (97 ≤ n ∧ n ≤ 122) ∨ (123 ≤ n ∧ n ≤ 127) ∨ 128 ≤ n := by omega
  rcases hcl with h | h | h | h | h | h | h | h | h | h
  all_goals
    rcases Bool.eq_false_or_eq_true (beginsN n) with hr | hr <;> (try (exfalso; first | (simp only [beginsN, Bool.or_eq_true, Bool.and_eq_true, decide_eq_true_eq] at hr; omega) | (simp only [beginsN, Bool.or_eq_false_iff, Bool.and_eq_false_iff, decide_eq_false_iff_not] at hr; omega)))
    have HB := Lib.hid hr
    rcases Bool.eq_false_or_eq_true (decide ((65 : Int) ≤ (n : Int))) with d1 | d1 <;> (try (exfalso; first | (have := of_decide_eq_true d1; omega) | (have := of_decide_eq_false d1; omega)))
    rcases Bool.eq_false_or_eq_true (decide ((n : Int) ≤ 90)) with d2 | d2 <;> (try (exfalso; first | (have := of_decide_eq_true d2; omega) | (have := of_decide_eq_false d2; omega)))
    rcases Bool.eq_false_or_eq_true (decide ((97 : Int) ≤ (n : Int))) with d3 | d3 <;> (try (exfalso; first | (have := of_decide_eq_true d3; omega) | (have := of_decide_eq_false d3; omega)))
    rcases Bool.eq_false_or_eq_true (decide ((n : Int) ≤ 122)) with d4 | d4 <;> (try (exfalso; first | (have := of_decide_eq_true d4; omega) | (have := of_decide_eq_false d4; omega)))
    rcases Bool.eq_false_or_eq_true ((n : Int) == 95) with d5 | d5 <;> (try (exfalso; first | (have := beq_iff_eq.1 d5; omega) | (have := beq_eq_false_iff_ne.1 d5; omega)))
    rcases Bool.eq_false_or_eq_true ((n : Int) == 58) with d6 | d6 <;> (try (exfalso; first | (have := beq_iff_eq.1 d6; omega) | (have := beq_eq_false_iff_ne.1 d6; omega)))
    rcases Bool.eq_false_or_eq_true (decide ((128 : Int) ≤ (n : Int))) with d7 | d7 <;> (try (exfalso; first | (have := of_decide_eq_true d7; omega) | (have := of_decide_eq_false d7; omega)))
    clear hr h
    go_enter Tryz.func140, Tryz.ntmps140
    go_wp2_with fail
    go_ret
    exact ⟨by rw [HB.out] <;> rfl, rfl⟩
theorem begins_h {w : World} (c : UInt8) : Calls Tryz.prog 140 #[.int .u8 (c.toNat : Int)] w fun e w' => e = .returned (.bool (beginsC c)) ∧ w = w' := by
  rw [show beginsC c = beginsN c.toNat from begins_nat c]; exact begins_n _
def goesN (n : Nat) : Bool := beginsN n || (decide (48 ≤ n) && decide (n ≤ 57)) || decide (n = 46) || decide (n = 45)
theorem goes_nat (c : UInt8) : goesC c = goesN c.toNat := by
  unfold goesC goesN
  rw [show (c == 46) = decide (c.toNat = 46) from byte_eq c 46 (by decide), show (c == 45) = decide (c.toNat = 45) from byte_eq c 45 (by decide), show beginsC c = beginsN c.toNat from begins_nat c]
set_option maxHeartbeats 2000000 in
theorem goes_n {w : World} (n : Nat) : Calls Tryz.prog 141 #[.int .u8 (n : Int)] w fun e w' => e = .returned (.bool (goesN n)) ∧ w = w' := by
  have HC := Lib.hid (begins_n (w := w) n)
  cases hb : beginsN n with
  | true =>
    have HB := Lib.hid (show goesN n = true by unfold goesN; rw [hb]; simp)
    rw [hb] at HC
    clear hb
    go_enter Tryz.func141, Tryz.ntmps141
    go_wp2_with fail
    refine Calls.mono HC.out ?_
    rintro e w1 ⟨rfl, rfl⟩
    go_wp2_with fail
    go_ret
    exact ⟨by rw [HB.out] <;> rfl, rfl⟩
  | false =>
    have hcl : n < 45 ∨ n = 45 ∨ n = 46 ∨ n = 47 ∨ (48 ≤ n ∧ n ≤ 57) ∨ 58 ≤ n := by omega
    rw [hb] at HC
    have hg : goesN n = ((decide (48 ≤ n) && decide (n ≤ 57)) || decide (n = 46) || decide (n = 45)) := by unfold goesN; rw [hb]; simp
    clear hb
    rcases hcl with h | h | h | h | h | h
    all_goals
      rcases Bool.eq_false_or_eq_true (goesN n) with hr | hr <;> (try (exfalso; rw [hg] at hr; first | (simp only [Bool.or_eq_true, Bool.and_eq_true, decide_eq_true_eq] at hr; omega) | (simp only [Bool.or_eq_false_iff, Bool.and_eq_false_iff, decide_eq_false_iff_not] at hr; omega)))
      have HB := Lib.hid hr
      rcases Bool.eq_false_or_eq_true (decide ((48 : Int) ≤ (n : Int))) with d1 | d1 <;> (try (exfalso; first | (have := of_decide_eq_true d1; omega) | (have := of_decide_eq_false d1; omega)))
      rcases Bool.eq_false_or_eq_true (decide ((n : Int) ≤ 57)) with d2 | d2 <;> (try (exfalso; first | (have := of_decide_eq_true d2; omega) | (have := of_decide_eq_false d2; omega)))
      rcases Bool.eq_false_or_eq_true ((n : Int) == 46) with d5 | d5 <;> (try (exfalso; first | (have := beq_iff_eq.1 d5; omega) | (have := beq_eq_false_iff_ne.1 d5; omega)))
      rcases Bool.eq_false_or_eq_true ((n : Int) == 45) with d6 | d6 <;> (try (exfalso; first | (have := beq_iff_eq.1 d6; omega) | (have := beq_eq_false_iff_ne.1 d6; omega)))
      clear hr h hg
      go_enter Tryz.func141, Tryz.ntmps141
      go_wp2_with fail
      refine Calls.mono HC.out ?_
      rintro e w1 ⟨rfl, rfl⟩
      go_wp2_with fail
      go_ret
      exact ⟨by rw [HB.out] <;> rfl, rfl⟩
end Go.Proofs.YtpinjgdnhbogoaaGreatDoor
