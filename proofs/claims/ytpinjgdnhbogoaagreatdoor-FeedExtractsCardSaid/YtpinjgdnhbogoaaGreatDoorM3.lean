/- Bytes of names: begins, goesOn, name. -/
import Derived.Test.YtpinjgdnhbogoaaGreatDoorMem
import Derived.Test.YtpinjgdnhbogoaaGreatDoorXX
import Derived.Test.YtpinjgdnhbogoaaGreatDoorProg
import Derived.Deep.QuietTactic
import Derived.BigQuiet
import Derived.WalkLawsBesides
import Derived.IntWalk
import Derived.Deep.LoopGhost
namespace Go.Proofs.YtpinjgdnhbogoaaGreatDoor
open Go.RowKit Go.Lib

def bs (l : List UInt8) : ByteArray := ⟨l.toArray⟩
theorem bs_of (s : ByteArray) : ∃ l, s = bs l := ⟨s.data.toList, rfl⟩
theorem bs_data (l : List UInt8) : (bs l).data.toList = l := rfl
theorem bs_size (l : List UInt8) : (bs l).size = l.length := rfl
theorem bs_append (a b : List UInt8) : bs a ++ bs b = bs (a ++ b) := by
  apply ByteArray.ext; apply Array.ext'; simp [bs]
theorem bs_toList (l : List UInt8) : (bs l).toList = l := by rw [Lib.toList_data]; rfl
theorem bs_at (l : List UInt8) (q : Nat) (h : q < (bs l).size) : (bs l)[q] = l.getD q 0 := by
  have h2 : q < l.length := h
  rw [List.getD_eq_getElem?_getD, List.getElem?_eq_getElem h2]
  rfl
theorem byte_eq (c : UInt8) (n : Nat) (hn : n < 256) : (c == UInt8.ofNat n) = decide (c.toNat = n) := by
  rw [Bool.eq_iff_iff, beq_iff_eq, decide_eq_true_iff]
  constructor
  · rintro rfl; rw [UInt8.toNat_ofNat']; omega
  · intro h; rw [← h]; exact (UInt8.ofNat_toNat).symm
theorem begins_nat (c : UInt8) : beginsC c = ((decide (65 ≤ c.toNat) && decide (c.toNat ≤ 90)) || (decide (97 ≤ c.toNat) && decide (c.toNat ≤ 122)) || decide (c.toNat = 95) || decide (c.toNat = 58) || decide (128 ≤ c.toNat)) := by
  unfold beginsC
  rw [show (c == 95) = decide (c.toNat = 95) from byte_eq c 95 (by decide), show (c == 58) = decide (c.toNat = 58) from byte_eq c 58 (by decide)]
def beginsN (n : Nat) : Bool := (decide (65 ≤ n) && decide (n ≤ 90)) || (decide (97 ≤ n) && decide (n ≤ 122)) || decide (n = 95) || decide (n = 58) || decide (128 ≤ n)
set_option maxHeartbeats 2000000 in
theorem begins_n {w : World} (n : Nat) : Calls Tryz.prog 140 #[.int .u8 (n : Int)] w fun e w' => e = .returned (.bool (beginsN n)) ∧ w = w' := by
  have hcl : n < 58 ∨ n = 58 ∨ (59 ≤ n ∧ n ≤ 64) ∨ (65 ≤ n ∧ n ≤ 90) ∨ (91 ≤ n ∧ n ≤ 94) ∨ n = 95 ∨ n = 96 ∨ (97 ≤ n ∧ n ≤ 122) ∨ (123 ≤ n ∧ n ≤ 127) ∨ 128 ≤ n := by omega
  rcases hcl with h | h | h | h | h | h | h | h | h | h
  all_goals
    rcases Bool.eq_false_or_eq_true (beginsN n) with hr | hr <;> (try (exfalso; first | (simp only [beginsN, Bool.or_eq_true, Bool.and_eq_true, decide_eq_true_eq] at hr; omega) | (simp only [beginsN, Bool.or_eq_false_iff, Bool.and_eq_false_iff, decide_eq_false_iff_not] at hr; omega)))
    have HB := Lib.hid hr
    rcases Bool.eq_false_or_eq_true (decide ((65 : Int) ≤ (n : Int))) with d1 | d1 <;> (try (exfalso; first | (have := of_decide_eq_true d1; omega) | (have := of_decide_eq_false d1; omega)))
    rcases Bool.eq_false_or_eq_true (decide ((n : Int) ≤ 90)) with d2 | d2 <;> (try (exfalso; first | (have := of_decide_eq_true d2; omega) | (have := of_decide_eq_false d2; omega)))
    rcases Bool.eq_false_or_eq_true (decide ((97 : Int) ≤ (n : Int))) with d3 | d3 <;> (try (exfalso; first | (have := of_decide_eq_true d3; omega) | (have := of_decide_eq_false d3; omega)))
    rcases Bool.eq_false_or_eq_true (decide ((n : Int) ≤ 122)) with d4 | d4 <;> (try (exfalso; first | (have := of_decide_eq_true d4; omega) | (have := of_decide_eq_false d4; omega)))
    rcases Bool.eq_false_or_eq_true ((n : Int) == 95) with d5 | d5 <;> (try (exfalso; first | (have := beq_iff_eq.1 d5; omega) | (have := beq_eq_false_iff_ne.1 d5; omega)))
    rcases Bool.eq_false_or_eq_true ((n : Int) == 58) with d6 | d6 <;> (try (exfalso; first | (have := beq_iff_eq.1 d6; omega) | (have := beq_eq_false_iff_ne.1 d6; omega)))
    rcases Bool.eq_false_or_eq_true (decide ((128 : Int) ≤ (n : Int))) with d7 | d7 <;> (try (exfalso; first | (have := of_decide_eq_true d7; omega) | (have := of_decide_eq_false d7; omega)))
    clear hr h
    go_enter Tryz.func140, Tryz.ntmps140
    go_wp2_with fail
    go_ret
    exact ⟨by rw [HB.out] <;> rfl, rfl⟩
theorem begins_h {w : World} (c : UInt8) : Calls Tryz.prog 140 #[.int .u8 (c.toNat : Int)] w fun e w' => e = .returned (.bool (beginsC c)) ∧ w = w' := by
  rw [show beginsC c = beginsN c.toNat from begins_nat c]; exact begins_n _
def goesN (n : Nat) : Bool := beginsN n || (decide (48 ≤ n) && decide (n ≤ 57)) || decide (n = 46) || decide (n = 45)
theorem goes_nat (c : UInt8) : goesC c = goesN c.toNat := by
  unfold goesC goesN
  rw [show (c == 46) = decide (c.toNat = 46) from byte_eq c 46 (by decide), show (c == 45) = decide (c.toNat = 45) from byte_eq c 45 (by decide), show beginsC c = beginsN c.toNat from begins_nat c]
set_option maxHeartbeats 2000000 in
theorem goes_n {w : World} (n : Nat) : Calls Tryz.prog 141 #[.int .u8 (n : Int)] w fun e w' => e = .returned (.bool (goesN n)) ∧ w = w' := by
  have HC := Lib.hid (begins_n (w := w) n)
  cases hb : beginsN n with
  | true =>
    have HB := Lib.hid (show goesN n = true by unfold goesN; rw [hb]; simp)
    rw [hb] at HC
    clear hb
    go_enter Tryz.func141, Tryz.ntmps141
    go_wp2_with fail
    refine Calls.mono HC.out ?_
    rintro e w1 ⟨rfl, rfl⟩
    go_wp2_with fail
    go_ret
    exact ⟨by rw [HB.out] <;> rfl, rfl⟩
  | false =>
    have hcl : n < 45 ∨ n = 45 ∨ n = 46 ∨ n = 47 ∨ (48 ≤ n ∧ n ≤ 57) ∨ 58 ≤ n := by omega
    rw [hb] at HC
    have hg : goesN n = ((decide (48 ≤ n) && decide (n ≤ 57)) || decide (n = 46) || decide (n = 45)) := by unfold goesN; rw [hb]; simp
    clear hb
    rcases hcl with h | h | h | h | h | h
    all_goals
      rcases Bool.eq_false_or_eq_true (goesN n) with hr | hr <;> (try (exfalso; rw [hg] at hr; first | (simp only [Bool.or_eq_true, Bool.and_eq_true, decide_eq_true_eq] at hr; omega) | (simp only [Bool.or_eq_false_iff, Bool.and_eq_false_iff, decide_eq_false_iff_not] at hr; omega)))
      have HB := Lib.hid hr
      rcases Bool.eq_false_or_eq_true (decide ((48 : Int) ≤ (n : Int))) with d1 | d1 <;> (try (exfalso; first | (have := of_decide_eq_true d1; omega) | (have := of_decide_eq_false d1; omega)))
      rcases Bool.eq_false_or_eq_true (decide ((n : Int) ≤ 57)) with d2 | d2 <;> (try (exfalso; first | (have := of_decide_eq_true d2; omega) | (have := of_decide_eq_false d2; omega)))
      rcases Bool.eq_false_or_eq_true ((n : Int) == 46) with d5 | d5 <;> (try (exfalso; first | (have := beq_iff_eq.1 d5; omega) | (have := beq_eq_false_iff_ne.1 d5; omega)))
      rcases Bool.eq_false_or_eq_true ((n : Int) == 45) with d6 | d6 <;> (try (exfalso; first | (have := beq_iff_eq.1 d6; omega) | (have := beq_eq_false_iff_ne.1 d6; omega)))
      clear hr h hg
      go_enter Tryz.func141, Tryz.ntmps141
      go_wp2_with fail
      refine Calls.mono HC.out ?_
      rintro e w1 ⟨rfl, rfl⟩
      go_wp2_with fail
      go_ret
      exact ⟨by rw [HB.out] <;> rfl, rfl⟩
end Go.Proofs.YtpinjgdnhbogoaaGreatDoor

/- A name taken off. -/
namespace Go.Proofs.YtpinjgdnhbogoaaGreatDoor
open Go.RowKit Go.Lib

theorem bs_take (l : List UInt8) (k : Nat) : (bs l).extract 0 k = bs (l.take k) := by
  apply ByteArray.ext
  apply Array.ext'
  rw [ByteArray.data_extract, Array.toList_extract]
  show List.extract l 0 k = l.take k
  simp [List.extract_eq_take_drop]
theorem bs_drop (l : List UInt8) (k : Nat) : (bs l).extract k l.length = bs (l.drop k) := by
  apply ByteArray.ext
  apply Array.ext'
  rw [ByteArray.data_extract, Array.toList_extract]
  show List.extract l k l.length = l.drop k
  rw [List.extract_eq_take_drop, List.take_of_length_le (by simp)]
/-- the first k bytes may be a name's -/
def NameTo (s : Str) (k : Nat) : Prop := k ≤ s.length ∧ ∀ i, i < k → if i = 0 then beginsC (s.getD i 0) = true else goesC (s.getD i 0) = true
theorem goes_of {c : UInt8} (h : beginsC c = true) : goesC c = true := by unfold goesC; rw [h]; simp
theorem take_goes : ∀ (t : Str) (k : Nat), k ≤ t.length → (∀ i, i < k → goesC (t.getD i 0) = true) → (k = t.length ∨ goesC (t.getD k 0) = false) → t.takeWhile goesC = t.take k
  | [], k, hk, _, _ => by simp
  | c :: t, 0, _, _, h => by
    rcases h with h | h
    · simp at h
    · rw [List.takeWhile_cons, if_neg (by have : goesC c = false := h; rw [this]; simp)]; rfl
  | c :: t, k + 1, hk, h1, h2 => by
    rw [List.takeWhile_cons, if_pos (show goesC c = true from h1 0 (by omega)), List.take_succ_cons, take_goes t k (by simpa using hk) (fun i hi => h1 (i + 1) (by omega)) (by simpa using h2)]
theorem name_stop {s : Str} {k : Nat} (h : NameTo s k) (hs : k = s.length ∨ (beginsC (s.getD k 0) = false ∧ (k = 0 ∨ goesC (s.getD k 0) = false))) : nameL s = s.take k := by
  cases s with
  | nil => simp [nameL]
  | cons c t =>
    have e : nameL (c :: t) = if beginsC c = true then c :: t.takeWhile goesC else [] := rfl
    rw [e]
    cases k with
    | zero =>
      rcases hs with hs | ⟨hs, _⟩
      · simp at hs
      · rw [if_neg (by have : beginsC c = false := hs; rw [this]; simp)]; rfl
    | succ k =>
      have h0 : beginsC c = true := h.2 0 (by omega)
      rw [if_pos h0, List.take_succ_cons]
      congr 1
      refine take_goes t k (by have := h.1; simpa using this) (fun i hi => ?_) ?_
      · have := h.2 (i + 1) (by omega); simpa using this
      · rcases hs with hs | ⟨_, hs⟩
        · left; simpa using hs
        · right; rcases hs with hs | hs
          · omega
          · simpa using hs
set_option maxHeartbeats 4000000 in
theorem name_h {w : World} (s : Str) (hs : s.length ≤ 1000000000) : Calls Tryz.prog 111 #[.string (bs s)] w fun e w' => e = .returned (.tuple #[.string (bs (nameL s)), .string (bs (s.drop (nameL s).length))]) ∧ ∃ q, w' = w.drewN q := by
  have hsz : (bs s).size = s.length := rfl
  go_enter Tryz.func111, Tryz.ntmps111
  go_wp2_with fail
  go_loopg [4] (s.length) (fun j v wr => (∃ k : Nat, k + j = s.length ∧ v = .int .i64 k ∧ NameTo s k) ∧ w = wr)
  case atStart => exact ⟨⟨0, by omega, rfl, Nat.zero_le _, fun i hi => absurd hi (Nat.not_lt_zero _)⟩, rfl⟩
  case round =>
    obtain ⟨⟨k, hk, rfl, hn⟩, rfl⟩ := hrel
    have HK := Lib.hid (And.intro hk hn)
    clear hk hn
    by_cases hlt : k < s.length
    · have hz : k < (bs s).size := by rw [hsz]; exact hlt
      have hg := bs_at s k hz
      obtain ⟨c, hc⟩ : ∃ c, s.getD k 0 = c := ⟨_, rfl⟩
      rw [hc] at hg
      have HC := Lib.hid hc
      have H1 := Lib.hid (begins_h (w := w) c)
      have H2 := Lib.hid (show Calls Tryz.prog 141 #[.int .u8 (c.toNat : Int)] w fun e w' => e = .returned (.bool (goesC c)) ∧ w = w' by rw [goes_nat]; exact goes_n _)
      cases hb : beginsC c with
      | true =>
        rw [hb] at H1
        have HN := Lib.hid (show NameTo s (k + 1) from ⟨hlt, fun i hi => by
          by_cases e : i = k
          · subst e; rw [HC.out]; split; exact hb; exact goes_of hb
          · exact HK.out.2.2 i (by omega)⟩)
        clear hc hb
        go_wp2_with fail
        refine Calls.mono H1.out ?_
        rintro e w1 ⟨rfl, rfl⟩
        go_wp2_with fail
        go_roundg (s.length - (k + 1))
        case measure => have := HK.out.1; omega
        case rel => exact ⟨⟨k + 1, by omega, by go_num, HN.out⟩, rfl⟩
      | false =>
        rw [hb] at H1
        rcases Nat.eq_zero_or_pos k with rfl | hk0
        · have HB := Lib.hid hb
          clear hb
          have hE := Lib.hid (name_stop HK.out.2 (.inr ⟨by rw [HC.out]; exact HB.out, .inl rfl⟩))
          have hkl := HK.out.2.1
          have hx1 := bs_take s 0
          have hx2 := bs_drop s 0
          go_wp2_with fail
          refine Calls.mono H1.out ?_
          rintro e w1 ⟨rfl, rfl⟩
          go_wp2_with fail
          go_quiet (fail)
          go_wp2_with fail
          go_ret2
          have hl : (s.take 0).length = 0 := by rw [List.length_take]; omega
          exact ⟨by rw [hE.out, hl] <;> rfl, ⟨_, rfl⟩⟩
        · have hk1 : decide ((0 : Int) < (k : Int)) = true := by rw [decide_eq_true_iff]; omega
          cases hgo : goesC c with
          | true =>
            rw [hgo] at H2
            have HN := Lib.hid (show NameTo s (k + 1) from ⟨hlt, fun i hi => by
              by_cases e : i = k
              · subst e; rw [HC.out, if_neg (by omega)]; exact hgo
              · exact HK.out.2.2 i (by omega)⟩)
            clear hc hb hgo
            go_wp2_with fail
            refine Calls.mono H1.out ?_
            rintro e w1 ⟨rfl, rfl⟩
            go_wp2_with fail
            refine Calls.mono H2.out ?_
            rintro e w1 ⟨rfl, rfl⟩
            go_wp2_with fail
            go_roundg (s.length - (k + 1))
            case measure => have := HK.out.1; omega
            case rel => exact ⟨⟨k + 1, by omega, by go_num, HN.out⟩, rfl⟩
          | false =>
            rw [hgo] at H2
            have HB := Lib.hid (And.intro hb hgo)
            clear hc hb hgo
            have hE := Lib.hid (name_stop HK.out.2 (.inr ⟨by rw [HC.out]; exact HB.out.1, .inr (by rw [HC.out]; exact HB.out.2)⟩))
            have hkl := HK.out.2.1
            have hx1 := bs_take s k
            have hx2 := bs_drop s k
            go_wp2_with fail
            refine Calls.mono H1.out ?_
            rintro e w1 ⟨rfl, rfl⟩
            go_wp2_with fail
            refine Calls.mono H2.out ?_
            rintro e w1 ⟨rfl, rfl⟩
            go_wp2_with fail
            go_quiet (fail)
            go_wp2_with fail
            go_ret2
            have hl : (s.take k).length = k := by rw [List.length_take]; omega
            exact ⟨by rw [hE.out, hl] <;> rfl, ⟨_, rfl⟩⟩
    · have hke : k = s.length := by have := HK.out.2.1; omega
      have HKE := Lib.hid hke
      clear hke
      have hE := Lib.hid (name_stop HK.out.2 (.inl HKE.out))
      have hkl := HK.out.2.1
      have hx1 := bs_take s k
      have hx2 := bs_drop s k
      go_wp2_with fail
      go_quiet (fail)
      go_wp2_with fail
      go_ret2
      have hl : (s.take k).length = k := by rw [List.length_take]; omega
      exact ⟨by rw [hE.out, hl] <;> rfl, ⟨_, rfl⟩⟩
end Go.Proofs.YtpinjgdnhbogoaaGreatDoor
