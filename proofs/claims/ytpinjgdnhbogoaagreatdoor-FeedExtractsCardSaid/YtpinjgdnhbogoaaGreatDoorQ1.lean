/- The reference's layer 11: bytes, begins, name, find. -/
import Derived.Test.YtpinjgdnhbogoaaGreatDoorM3
import Derived.Test.YtpinjgdnhbogoaaGreatDoorM0
namespace Go.Proofs.YtpinjgdnhbogoaaGreatDoor
open Go.RowKit Go.Lib

set_option maxHeartbeats 2000000 in
theorem rfirst_n {w : World} (n : Nat) : Calls Tryz.prog 148 #[.int .u8 (n : Int)] w fun e w' => e = .returned (.bool (beginsN n)) ∧ w = w' := by
  have hcl : n < 58 ∨ n = 58 ∨ (59 ≤ n ∧ n ≤ 64) ∨ (65 ≤ n ∧ n ≤ 90) ∨ (91 ≤ n ∧ n ≤ 94) ∨ n = 95 ∨ n = 96 ∨ (97 ≤ n ∧ n ≤ 122) ∨ (123 ≤ n ∧ n ≤ 127) ∨ 128 ≤ n := by omega
  rcases hcl with h | h | h | h | h | h | h | h | h | h
  all_goals
    rcases Bool.eq_false_or_eq_true (beginsN n) with hr | hr <;> (try (exfalso; first | (simp only [beginsN, Bool.or_eq_true, Bool.and_eq_true, decide_eq_true_eq] at hr; omega) | (simp only [beginsN, Bool.or_eq_false_iff, Bool.and_eq_false_iff, decide_eq_false_iff_not] at hr; omega)))
    have HB := Lib.hid hr
    rcases Bool.eq_false_or_eq_true (decide ((65 : Int) ≤ (n : Int))) with d0 | d0 <;> (try (exfalso; first | (have := of_decide_eq_true d0; omega) | (have := of_decide_eq_false d0; omega)))
    rcases Bool.eq_false_or_eq_true (decide ((n : Int) ≤ 90)) with d1 | d1 <;> (try (exfalso; first | (have := of_decide_eq_true d1; omega) | (have := of_decide_eq_false d1; omega)))
    rcases Bool.eq_false_or_eq_true (decide ((97 : Int) ≤ (n : Int))) with d2 | d2 <;> (try (exfalso; first | (have := of_decide_eq_true d2; omega) | (have := of_decide_eq_false d2; omega)))
    rcases Bool.eq_false_or_eq_true (decide ((n : Int) ≤ 122)) with d3 | d3 <;> (try (exfalso; first | (have := of_decide_eq_true d3; omega) | (have := of_decide_eq_false d3; omega)))
    rcases Bool.eq_false_or_eq_true ((n : Int) == 95) with d4 | d4 <;> (try (exfalso; first | (have := beq_iff_eq.1 d4; omega) | (have := beq_eq_false_iff_ne.1 d4; omega)))
    rcases Bool.eq_false_or_eq_true ((n : Int) == 58) with d5 | d5 <;> (try (exfalso; first | (have := beq_iff_eq.1 d5; omega) | (have := beq_eq_false_iff_ne.1 d5; omega)))
    rcases Bool.eq_false_or_eq_true (decide ((128 : Int) ≤ (n : Int))) with d6 | d6 <;> (try (exfalso; first | (have := of_decide_eq_true d6; omega) | (have := of_decide_eq_false d6; omega)))
    clear hr h
    go_enter Tryz.func148, Tryz.ntmps148
    go_wp2_with fail
    go_ret
    exact ⟨by rw [HB.out] <;> rfl, rfl⟩
def digitN (n : Nat) : Bool := decide (48 ≤ n) && decide (n ≤ 57)
set_option maxHeartbeats 2000000 in
theorem rdigit_n {w : World} (n : Nat) : Calls Tryz.prog 149 #[.int .u8 (n : Int)] w fun e w' => e = .returned (.bool (digitN n)) ∧ w = w' := by
  have hcl : n < 48 ∨ (48 ≤ n ∧ n ≤ 57) ∨ 58 ≤ n := by omega
  rcases hcl with h | h | h
  all_goals
    rcases Bool.eq_false_or_eq_true (digitN n) with hr | hr <;> (try (exfalso; first | (simp only [digitN, Bool.and_eq_true, decide_eq_true_eq] at hr; omega) | (simp only [digitN, Bool.and_eq_false_iff, decide_eq_false_iff_not] at hr; omega)))
    have HB := Lib.hid hr
    rcases Bool.eq_false_or_eq_true (decide ((48 : Int) ≤ (n : Int))) with d0 | d0 <;> (try (exfalso; first | (have := of_decide_eq_true d0; omega) | (have := of_decide_eq_false d0; omega)))
    rcases Bool.eq_false_or_eq_true (decide ((n : Int) ≤ 57)) with d1 | d1 <;> (try (exfalso; first | (have := of_decide_eq_true d1; omega) | (have := of_decide_eq_false d1; omega)))
    clear hr h
    go_enter Tryz.func149, Tryz.ntmps149
    go_wp2_with fail
    go_ret
    exact ⟨by rw [HB.out] <;> rfl, rfl⟩
def blankN (n : Nat) : Bool := decide (n = 32) || decide (n = 9) || decide (n = 10) || decide (n = 13)
set_option maxHeartbeats 2000000 in
theorem rblank_n {w : World} (n : Nat) : Calls Tryz.prog 150 #[.int .u8 (n : Int)] w fun e w' => e = .returned (.bool (blankN n)) ∧ w = w' := by
  have hcl : n = 9 ∨ n = 10 ∨ n = 13 ∨ n = 32 ∨ (n ≠ 9 ∧ n ≠ 10 ∧ n ≠ 13 ∧ n ≠ 32) := by omega
  rcases hcl with h | h | h | h | h
  all_goals
    rcases Bool.eq_false_or_eq_true (blankN n) with hr | hr <;> (try (exfalso; first | (simp only [blankN, Bool.or_eq_true, decide_eq_true_eq] at hr; omega) | (simp only [blankN, Bool.or_eq_false_iff, decide_eq_false_iff_not] at hr; omega)))
    have HB := Lib.hid hr
    rcases Bool.eq_false_or_eq_true ((n : Int) == 32) with d0 | d0 <;> (try (exfalso; first | (have := beq_iff_eq.1 d0; omega) | (have := beq_eq_false_iff_ne.1 d0; omega)))
    rcases Bool.eq_false_or_eq_true ((n : Int) == 9) with d1 | d1 <;> (try (exfalso; first | (have := beq_iff_eq.1 d1; omega) | (have := beq_eq_false_iff_ne.1 d1; omega)))
    rcases Bool.eq_false_or_eq_true ((n : Int) == 10) with d2 | d2 <;> (try (exfalso; first | (have := beq_iff_eq.1 d2; omega) | (have := beq_eq_false_iff_ne.1 d2; omega)))
    rcases Bool.eq_false_or_eq_true ((n : Int) == 13) with d3 | d3 <;> (try (exfalso; first | (have := beq_iff_eq.1 d3; omega) | (have := beq_eq_false_iff_ne.1 d3; omega)))
    clear hr h
    go_enter Tryz.func150, Tryz.ntmps150
    go_wp2_with fail
    go_ret
    exact ⟨by rw [HB.out] <;> rfl, rfl⟩
theorem rfirst_h {w : World} (c : UInt8) : Calls Tryz.prog 148 #[.int .u8 (c.toNat : Int)] w fun e w' => e = .returned (.bool (beginsC c)) ∧ w = w' := by
  rw [show beginsC c = beginsN c.toNat from begins_nat c]; exact rfirst_n _
theorem blank_nat (c : UInt8) : blankC c = blankN c.toNat := by
  unfold blankC blankN
  rw [show (c == 32) = decide (c.toNat = 32) from byte_eq c 32 (by decide), show (c == 9) = decide (c.toNat = 9) from byte_eq c 9 (by decide), show (c == 10) = decide (c.toNat = 10) from byte_eq c 10 (by decide), show (c == 13) = decide (c.toNat = 13) from byte_eq c 13 (by decide)]
theorem rblank_h {w : World} (c : UInt8) : Calls Tryz.prog 150 #[.int .u8 (c.toNat : Int)] w fun e w' => e = .returned (.bool (blankC c)) ∧ w = w' := by
  rw [blank_nat]; exact rblank_n _
theorem bs_inj2 {a b : Str} (h : bs a = bs b) : a = b := by have := congrArg (fun x : ByteArray => x.data.toList) h; exact this
theorem pre_take {t s : Str} (_h : t.length ≤ s.length) : t.isPrefixOf s = decide (s.take t.length = t) := by
  rw [Bool.eq_iff_iff, decide_eq_true_iff, List.isPrefixOf_iff_prefix, List.prefix_iff_eq_take]
  exact ⟨fun h => h.symm, fun h => h.symm⟩
theorem beq_dec (a b : Str) : (a == b) = decide (a = b) := by rw [Bool.eq_iff_iff]; simp
theorem pre_short {t s : Str} (h : s.length < t.length) : t.isPrefixOf s = false := by
  rw [Bool.eq_false_iff]; intro h2
  have := (List.isPrefixOf_iff_prefix.1 h2).length_le; omega
theorem bs_mid (l : List UInt8) (i j : Nat) : (bs l).extract i j = bs ((l.drop i).take (j - i)) := by
  apply ByteArray.ext
  apply Array.ext'
  rw [ByteArray.data_extract, Array.toList_extract]
  show List.extract l i j = (l.drop i).take (j - i)
  rw [List.extract_eq_take_drop]
theorem slice_run {w : World} (s : Str) {i j : Int} {a b : Nat} (hi : i = (a : Int)) (hj : j = (b : Int)) (hab : a ≤ b) (hb : b ≤ s.length) :
    (Instr.slice 9 (.string (bs s)) (some (.int .i64 i)) (some (.int .i64 j)) none).run Tryz.prog w = .ok (.string (bs ((s.drop a).take (b - a)))) w := by
  subst hi; subst hj
  rw [run_slice_string w 9 (bs s) .i64 .i64 a b Tryz.underlying9 (by omega) (by omega) (by rw [bs_size]; omega), bs_mid]
  rfl
theorem rbegins_h {w : World} (s t : Str) (hs : s.length ≤ 1000000) (ht : t.length ≤ 1000000) : Calls Tryz.prog 115 #[.string (bs s), .string (bs t)] w fun e w' => e = .returned (.bool (t.isPrefixOf s)) ∧ w = w' := by
  have hsz : (bs s).size = s.length := rfl
  have htz : (bs t).size = t.length := rfl
  by_cases hle : t.length ≤ s.length
  · have h1 : decide (t.length ≤ s.length) = true := decide_eq_true hle
    have hx := bs_take s t.length
    have HX := Lib.hid hx
    clear hx
    go_enter Tryz.func115, Tryz.ntmps115
    go_wp2_with fail
    rw [HX.out]
    go_wp2_with fail
    go_ret
    refine ⟨?_, rfl⟩
    show Ending.returned (.bool ((bs (s.take t.length)).toList == (bs t).toList)) = _
    rw [bs_toList, bs_toList, pre_take hle, beq_dec]
  · have h1 : decide (t.length ≤ s.length) = false := decide_eq_false hle
    have HP := Lib.hid (pre_short (t := t) (s := s) (by omega))
    go_enter Tryz.func115, Tryz.ntmps115
    go_wp2_with fail
    go_ret
    exact ⟨by rw [HP.out] <;> rfl, rfl⟩
set_option maxRecDepth 100000 in
set_option maxHeartbeats 4000000 in
/-- find -/
theorem rfind_h {w : World} (s t : Str) (k : Nat) (hs : s.length ≤ 1000000) (ht : t.length ≤ 1000000) (h0 : 0 < t.length) (hk : k ≤ 1000000) :
    Calls Tryz.prog 83 #[.string (bs s), .int .i64 (k : Int), .string (bs t)] w fun e w' => e = .returned (.int .i64 (findZ t s k)) ∧ w = w' := by
  have hsz : (bs s).size = s.length := rfl
  have htz : (bs t).size = t.length := rfl
  go_enter Tryz.func83, Tryz.ntmps83
  go_wp2_with fail
  go_loopg [7] (s.length + 1 + k) (fun j v wr => (∃ i : Nat, (i + j = s.length + 1 + k + k) ∧ v = .int .i64 i ∧ Hid (findZ t s k = findZ t s i)) ∧ w = wr)
  case atStart => exact ⟨⟨k, by omega, rfl, rfl⟩, rfl⟩
  case round =>
    obtain ⟨⟨i, hi, rfl, hf⟩, rfl⟩ := hrel
    have hib : i ≤ 4000000 := by omega
    by_cases hle : i + t.length ≤ s.length
    · have hlt : i < s.length := by omega
      have h1 : (i : Int) + (t.length : Int) ≤ (s.length : Int) := by omega
      have hx := slice_run (w := w) s (i := (i : Int)) (j := (i : Int) + (t.length : Int)) (a := i) (b := i + t.length) rfl (by omega) (by omega) (by omega)
      rw [show i + t.length - i = t.length by omega] at hx
      have hpt := pre_take (t := t) (s := s.drop i) (by rw [List.length_drop]; omega)
      clear hle
      cases hp : t.isPrefixOf (s.drop i) with
      | true =>
        have HF := Lib.hid (hf.out.trans (find_hit hlt hp))
        rw [hp] at hpt
        have HE := Lib.hid (of_decide_eq_true hpt.symm)
        have HI := Lib.hid hi
        rw [HE.out] at hx
        have hee : ((bs t).toList == (bs t).toList) = true := by simp
        clear hp hpt hi hlt
        go_wp2_with fail
        go_ret
        exact ⟨by rw [HF.out] <;> rfl, rfl⟩
      | false =>
        have HF := Lib.hid (hf.out.trans (find_miss hlt (by rw [hp]; simp)))
        rw [hp] at hpt
        have hne := of_decide_eq_false hpt.symm
        have HI := Lib.hid hi
        obtain ⟨m, hm⟩ : ∃ m, (s.drop i).take t.length = m := ⟨_, rfl⟩
        rw [hm] at hx hne
        have hee : ((bs m).toList == (bs t).toList) = false := by rw [bs_toList, bs_toList, beq_dec]; exact decide_eq_false hne
        clear hp hpt hi hlt hm hne
        go_wp2_with fail
        go_roundg (gk - 1)
        case measure => have := HI.out; omega
        case rel => exact ⟨⟨i + 1, by have := HI.out; omega, by go_num, HF⟩, rfl⟩
    · have HI := Lib.hid hi
      have HF := Lib.hid (hf.out.trans (find_end (p := t) (s := s) (i := i) h0 (by omega)))
      have h1 : (s.length : Int) < (i : Int) + (t.length : Int) := by omega
      have h2 : decide ((i : Int) + (t.length : Int) ≤ (s.length : Int)) = false := decide_eq_false (by omega)
      clear hi hle
      go_wp2_with fail
      go_ret
      exact ⟨by rw [HF.out] <;> rfl, rfl⟩
/-- name -/
theorem goes_split (c : UInt8) : goesC c = (beginsC c || digitN c.toNat || decide (c.toNat = 46) || decide (c.toNat = 45)) := by
  rw [goes_nat, show beginsC c = beginsN c.toNat from begins_nat c]
  rfl
theorem name_no {c : UInt8} {t : Str} (h : beginsC c = false) : nameL (c :: t) = [] := by
  show (if beginsC c = true then _ else _) = _; rw [if_neg (by rw [h]; simp)]
set_option maxRecDepth 100000 in
set_option maxHeartbeats 4000000 in
theorem rname_h {w : World} (s : Str) (hs : s.length ≤ 1000000) : Calls Tryz.prog 117 #[.string (bs s)] w fun e w' => e = .returned (.string (bs (nameL s))) ∧ w = w' := by
  have hsz : (bs s).size = s.length := rfl
  cases s with
  | nil =>
    have hte : (bs ([] : Str)).toList = [] := by rw [bs_toList]
    have hte2 : (bs ([] : Str)).toList.isEmpty = true := by rw [bs_toList]; rfl
    go_enter Tryz.func117, Tryz.ntmps117
    go_wp2_with fail
    go_ret
    exact ⟨rfl, rfl⟩
  | cons c0 t0 =>
    have hte : ¬ (bs (c0 :: t0)).toList = [] := by rw [bs_toList]; simp
    have hte2 : (bs (c0 :: t0)).toList.isEmpty = false := by rw [bs_toList]; rfl
    have hpos : 0 < (c0 :: t0).length := by simp
    have hg0 : ∀ h, (bs (c0 :: t0))[0]'h = c0 := fun h => bs_at _ 0 h
    have HB0 := Lib.hid (rfirst_h (w := w) c0)
    cases hb : beginsC c0 with
    | false =>
      rw [hb] at HB0
      have HN := Lib.hid (name_no (t := t0) hb)
      clear hb
      go_enter Tryz.func117, Tryz.ntmps117
      go_wp2_with fail
      refine Calls.mono HB0.out ?_
      rintro e w1 ⟨rfl, rfl⟩
      go_wp2_with fail
      go_ret
      exact ⟨by rw [HN.out] <;> rfl, rfl⟩
    | true =>
      rw [hb] at HB0
      have HN := Lib.hid (show NameTo (c0 :: t0) 1 from ⟨by simp, fun i hi => (by obtain rfl : i = 0 := (by omega); rw [if_pos rfl]; exact hb)⟩)
      obtain ⟨s, hss⟩ : ∃ s, c0 :: t0 = s := ⟨_, rfl⟩
      rw [hss] at HN hsz hs hte hte2 hpos hg0 ⊢
      clear hb hss
      go_enter Tryz.func117, Tryz.ntmps117
      go_wp2_with fail
      refine Calls.mono HB0.out ?_
      rintro e w1 ⟨rfl, rfl⟩
      clear hg0
      go_wp2_with fail
      go_loopg [3] (s.length) (fun j v wr => (∃ k : Nat, k + j = s.length + 1 ∧ v = .int .i64 k ∧ Hid (0 < k ∧ NameTo s k)) ∧ w = wr)
      case atStart => exact ⟨⟨1, by omega, rfl, Nat.one_pos, HN.out⟩, rfl⟩
      case round =>
        obtain ⟨⟨k, hk, rfl, hn⟩, rfl⟩ := hrel
        have HK := Lib.hid hk
        have hk0 := hn.out.2.1
        clear hk
        by_cases hlt : k < s.length
        · have hz : k < (bs s).size := by rw [hsz]; exact hlt
          have hg := bs_at s k hz
          obtain ⟨c, hc⟩ : ∃ c, s.getD k 0 = c := ⟨_, rfl⟩
          rw [hc] at hg
          have HC := Lib.hid hc
          have H1 := Lib.hid (rfirst_h (w := w) c)
          have H2 := Lib.hid (rdigit_n (w := w) c.toNat)
          have hgs := goes_split c
          have HN2 := Lib.hid (fun (h : goesC c = true) => show NameTo s (k + 1) from ⟨hlt, fun i hi => by
            by_cases e : i = k
            · subst e; rw [HC.out, if_neg (by have := hn.out.1; omega)]; exact h
            · exact hn.out.2.2 i (by omega)⟩)
          cases hb : beginsC c with
          | true =>
            rw [hb] at H1 hgs
            have HG := Lib.hid (show goesC c = true by rw [hgs]; rfl)
            clear hc hb hgs
            go_wp2_with fail
            refine Calls.mono H1.out ?_
            rintro e w1 ⟨rfl, rfl⟩
            go_wp2_with fail
            go_roundg (gk - 1)
            case measure => have := HK.out; omega
            case rel => exact ⟨⟨k + 1, by have := HK.out; omega, by go_num, Nat.succ_pos _, HN2.out HG.out⟩, rfl⟩
          | false =>
            rw [hb] at H1 hgs
            cases hd : digitN c.toNat with
            | true =>
              rw [hd] at H2 hgs
              have HG := Lib.hid (show goesC c = true by rw [hgs]; rfl)
              clear hc hb hgs hd
              go_wp2_with fail
              refine Calls.mono H1.out ?_
              rintro e w1 ⟨rfl, rfl⟩
              go_wp2_with fail
              refine Calls.mono H2.out ?_
              rintro e w1 ⟨rfl, rfl⟩
              go_wp2_with fail
              go_roundg (gk - 1)
              case measure => have := HK.out; omega
              case rel => exact ⟨⟨k + 1, by have := HK.out; omega, by go_num, Nat.succ_pos _, HN2.out HG.out⟩, rfl⟩
            | false =>
              rw [hd] at H2 hgs
              by_cases h46 : c.toNat = 46
              · have HG := Lib.hid (show goesC c = true by rw [hgs, decide_eq_true h46]; rfl)
                have t46 : ((c.toNat : Int) == 46) = true := by rw [beq_iff_eq]; omega
                clear hc hb hgs hd h46
                go_wp2_with fail
                refine Calls.mono H1.out ?_
                rintro e w1 ⟨rfl, rfl⟩
                go_wp2_with fail
                refine Calls.mono H2.out ?_
                rintro e w1 ⟨rfl, rfl⟩
                go_wp2_with fail
                go_roundg (gk - 1)
                case measure => have := HK.out; omega
                case rel => exact ⟨⟨k + 1, by have := HK.out; omega, by go_num, Nat.succ_pos _, HN2.out HG.out⟩, rfl⟩
              · have t46 : ((c.toNat : Int) == 46) = false := by rw [beq_eq_false_iff_ne]; omega
                by_cases h45 : c.toNat = 45
                · have HG := Lib.hid (show goesC c = true by rw [hgs, decide_eq_true h45]; simp)
                  have t45 : ((c.toNat : Int) == 45) = true := by rw [beq_iff_eq]; omega
                  clear hc hb hgs hd h45 h46
                  go_wp2_with fail
                  refine Calls.mono H1.out ?_
                  rintro e w1 ⟨rfl, rfl⟩
                  go_wp2_with fail
                  refine Calls.mono H2.out ?_
                  rintro e w1 ⟨rfl, rfl⟩
                  go_wp2_with fail
                  go_roundg (gk - 1)
                  case measure => have := HK.out; omega
                  case rel => exact ⟨⟨k + 1, by have := HK.out; omega, by go_num, Nat.succ_pos _, HN2.out HG.out⟩, rfl⟩
                · have t45 : ((c.toNat : Int) == 45) = false := by rw [beq_eq_false_iff_ne]; omega
                  have HG := Lib.hid (show goesC c = false by rw [hgs, decide_eq_false h46, decide_eq_false h45]; rfl)
                  have HB := Lib.hid hb
                  have HE := Lib.hid (name_stop hn.out.2 (.inr ⟨by rw [HC.out]; exact HB.out, .inr (by rw [HC.out]; exact HG.out)⟩))
                  have hx1 := bs_take s k
                  clear hc hb hgs hd h45 h46
                  go_wp2_with fail
                  refine Calls.mono H1.out ?_
                  rintro e w1 ⟨rfl, rfl⟩
                  go_wp2_with fail
                  refine Calls.mono H2.out ?_
                  rintro e w1 ⟨rfl, rfl⟩
                  go_wp2_with fail
                  go_ret
                  exact ⟨by rw [HE.out] <;> rfl, rfl⟩
        · have HE := Lib.hid (name_stop hn.out.2 (.inl (by omega)))
          have hx1 := bs_take s k
          go_wp2_with fail
          go_ret
          exact ⟨by rw [HE.out] <;> rfl, rfl⟩
end Go.Proofs.YtpinjgdnhbogoaaGreatDoor
