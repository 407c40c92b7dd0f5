/- The reference's layer 11: digits, numbers. -/
import Derived.Test.YtpinjgdnhbogoaaGreatDoorQ1
namespace Go.Proofs.YtpinjgdnhbogoaaGreatDoor
open Go.RowKit Go.Lib

def sixN (n : Nat) : Int := if 48 ≤ n ∧ n ≤ 57 then (n : Int) - 48 else if 97 ≤ n ∧ n ≤ 102 then (n : Int) - 97 + 10 else if 65 ≤ n ∧ n ≤ 70 then (n : Int) - 65 + 10 else -1
theorem six_nat (c : UInt8) : sixV c = sixN c.toNat := by
  unfold sixV sixN digV
  repeat' split
  all_goals omega
set_option maxHeartbeats 4000000 in
theorem rsix_n {w : World} (n : Nat) (hn : n < 256) : Calls Tryz.prog 169 #[.int .u8 (n : Int)] w fun e w' => e = .returned (.int .i64 (sixN n)) ∧ w = w' := by
  have HD := Lib.hid (rdigit_n (w := w) n)
  have hcl : n < 48 ∨ (48 ≤ n ∧ n ≤ 57) ∨ (58 ≤ n ∧ n ≤ 64) ∨ (65 ≤ n ∧ n ≤ 70) ∨ (71 ≤ n ∧ n ≤ 96) ∨ (97 ≤ n ∧ n ≤ 102) ∨ 103 ≤ n := by omega
  rcases hcl with h | h | h | h | h | h | h
  all_goals
    first
    | rw [show digitN n = true by unfold digitN; rw [decide_eq_true (by omega), decide_eq_true (by omega)]; rfl] at HD
    | rw [show digitN n = false by unfold digitN; first | (rw [decide_eq_false (by omega)]; rfl) | (rw [decide_eq_true (by omega), decide_eq_false (by omega)]; rfl)] at HD
    have HR : Hid (sixN n = _) := Lib.hid (by unfold sixN; first | (rw [if_pos (by omega)]; done) | (rw [if_neg (by omega), if_pos (by omega)]; done) | (rw [if_neg (by omega), if_neg (by omega), if_pos (by omega)]; done) | (rw [if_neg (by omega), if_neg (by omega), if_neg (by omega)]; done))
    rcases Bool.eq_false_or_eq_true (decide ((97 : Int) ≤ (n : Int))) with d1 | d1 <;> (try (exfalso; first | (have := of_decide_eq_true d1; omega) | (have := of_decide_eq_false d1; omega)))
    rcases Bool.eq_false_or_eq_true (decide ((n : Int) ≤ 102)) with d2 | d2 <;> (try (exfalso; first | (have := of_decide_eq_true d2; omega) | (have := of_decide_eq_false d2; omega)))
    rcases Bool.eq_false_or_eq_true (decide ((65 : Int) ≤ (n : Int))) with d3 | d3 <;> (try (exfalso; first | (have := of_decide_eq_true d3; omega) | (have := of_decide_eq_false d3; omega)))
    rcases Bool.eq_false_or_eq_true (decide ((n : Int) ≤ 70)) with d4 | d4 <;> (try (exfalso; first | (have := of_decide_eq_true d4; omega) | (have := of_decide_eq_false d4; omega)))
    go_enter Tryz.func169, Tryz.ntmps169
    go_wp2_with fail
    refine Calls.mono HD.out ?_
    rintro e w1 ⟨rfl, rfl⟩
    go_wp2_with fail
    go_ret
    exact ⟨by rw [HR.out] <;> rfl, rfl⟩
theorem rsix_h {w : World} (c : UInt8) : Calls Tryz.prog 169 #[.int .u8 (c.toNat : Int)] w fun e w' => e = .returned (.int .i64 (sixV c)) ∧ w = w' := by
  rw [six_nat]; exact rsix_n _ c.toNat_lt
theorem numV_lt (base : Nat) (hb : base ≤ 16) : ∀ (l : Str) (m : Nat), l.length ≤ m → l.all (fun c => decide (digV c < base)) = true → numV base l < 16 ^ m
  | l, 0, h, _ => by obtain rfl := List.eq_nil_of_length_eq_zero (Nat.le_zero.1 h); simp [numV]
  | l, m + 1, h, ha => by
    rcases List.eq_nil_or_concat l with rfl | ⟨l0, c, rfl⟩
    · exact Nat.pow_pos (by decide)
    · rw [List.concat_eq_append] at h ha ⊢
      rw [numV_snoc]
      rw [List.all_append] at ha
      simp only [Bool.and_eq_true, List.all_cons, List.all_nil, Bool.and_true, decide_eq_true_eq] at ha
      have ih := numV_lt base hb l0 m (by simp at h; omega) ha.1
      have h1 : base * numV base l0 ≤ 16 * numV base l0 := Nat.mul_le_mul_right _ hb
      rw [Nat.pow_succ]
      have := ha.2
      omega
def NumTo (base most : Nat) (ds : Str) (k : Nat) : Prop := k ≤ ds.length ∧ k ≤ most ∧ (ds.take k).all (fun c => decide (digV c < base)) = true
theorem num_last {base most : Nat} {ds : Str} (h : NumTo base most ds ds.length) : numQ base most ds = true := by
  obtain ⟨_, h2, h3⟩ := h
  rw [List.take_length] at h3
  unfold numQ; rw [h3, decide_eq_true h2]; rfl
theorem take_snoc' {l : Str} {k : Nat} (hk : k < l.length) : l.take (k + 1) = l.take k ++ [l.getD k 0] := by
  rw [List.take_add_one, List.getElem?_eq_getElem hk, List.getD_eq_getElem?_getD, List.getElem?_eq_getElem hk]; rfl
theorem num_step {base most : Nat} {ds : Str} {k : Nat} (h : NumTo base most ds k) (hk : k < ds.length) (hm : k < most) (hd : digV (ds.getD k 0) < base) : NumTo base most ds (k + 1) := by
  refine ⟨hk, hm, ?_⟩
  rw [take_snoc' hk, List.all_append, h.2.2]
  simp [-List.getD_eq_getElem?_getD]
  exact hd
theorem numq_bad {base most : Nat} {ds : Str} {k : Nat} (hk : k < ds.length) (h : most ≤ k ∨ ¬ digV (ds.getD k 0) < base) : numQ base most ds = false := by
  unfold numQ
  rcases h with h | h
  · rw [decide_eq_false (p := ds.length ≤ most) (by omega)]; simp
  · have : ds.all (fun c => decide (digV c < base)) = false := by
      rw [Bool.eq_false_iff]; intro ha
      have := List.all_eq_true.1 ha (ds.getD k 0) (by rw [List.getD_eq_getElem?_getD, List.getElem?_eq_getElem hk]; exact List.getElem_mem hk)
      exact h (of_decide_eq_true this)
    rw [this]; rfl
def rnumV (base most : Nat) (ds : Str) : Value := .tuple #[.int .i64 ((if numQ base most ds then numV base ds else 0 : Nat) : Int), .bool (!ds.isEmpty && numQ base most ds)]
set_option maxRecDepth 100000 in
set_option maxHeartbeats 4000000 in
theorem rnumber10_h {w : World} (ds : Str) (most : Nat) (hs : ds.length ≤ 1000000) (hm : most ≤ 7) :
    Calls Tryz.prog 146 #[.string (bs ds), .int .i64 10, .int .i64 (most : Int)] w fun e w' => e = .returned (rnumV 10 most ds) ∧ w = w' := by
  have hsz : (bs ds).size = ds.length := rfl
  go_enter Tryz.func146, Tryz.ntmps146
  go_wp2_with fail
  go_loopg [8, 9] (ds.length + 1) (fun j v8 v9 wr => (∃ k v : Nat, k + j = ds.length + 1 ∧ v9 = .int .i64 k ∧ v8 = .int .i64 v ∧ Hid (v = numV 10 (ds.take k)) ∧ Hid (NumTo 10 most ds k)) ∧ w = wr)
  case atStart => exact ⟨⟨0, 0, by omega, rfl, rfl, by simp [numV, Hid], ⟨Nat.zero_le _, Nat.zero_le _, by simp⟩⟩, rfl⟩
  case round =>
    obtain ⟨⟨k, v, hk, rfl, rfl, hv, hn⟩, rfl⟩ := hrel
    have hk1 := hn.out.1
    have hk2 := hn.out.2.1
    have hvb := numV_lt 10 (by decide) (ds.take k) 7 (by rw [List.length_take]; omega) hn.out.2.2
    rw [← hv.out] at hvb
    have hvb2 : v < 268435456 := hvb
    have HK := Lib.hid hk
    clear hvb hk
    by_cases hlt : k < ds.length
    · have hz : k < (bs ds).size := by rw [hsz]; exact hlt
      have hg := bs_at ds k hz
      obtain ⟨c, hc⟩ : ∃ c, ds.getD k 0 = c := ⟨_, rfl⟩
      rw [hc] at hg
      have HC := Lib.hid hc
      have H6 := Lib.hid (rsix_h (w := w) c)
      have hne : ds.isEmpty = false := by cases ds with | nil => simp at hlt | cons _ _ => rfl
      have HNE := Lib.hid hne
      clear hc hne
      by_cases hd : digV c < 10
      · have h6 : sixV c = ((digV c : Nat) : Int) := by unfold sixV; rw [if_pos (by omega)]
        rw [h6] at H6
        obtain ⟨d, hdd⟩ : ∃ d, digV c = d := ⟨_, rfl⟩
        rw [hdd] at H6 hd
        by_cases hmo : k < most
        · have HN2 := Lib.hid (num_step hn.out hlt hmo (by rw [HC.out, hdd]; exact hd))
          have HV2 := Lib.hid (show 10 * v + d = numV 10 (ds.take (k + 1)) by rw [take_snoc' hlt, numV_snoc, HC.out, hdd, hv.out])
          clear h6 hdd
          have t2 : (d : Int) < 10 := by omega
          have t3 : (k : Int) < (most : Int) := by omega
          have t1 : decide ((d : Int) < 0) = false := decide_eq_false (by omega)
          have t4 : decide ((10 : Int) ≤ (d : Int)) = false := decide_eq_false (by omega)
          have t5 : decide ((most : Int) ≤ (k : Int)) = false := decide_eq_false (by omega)
          have t6 : decide (most ≤ k) = false := decide_eq_false (by omega)
          go_wp2_with fail
          refine Calls.mono H6.out ?_
          rintro e w1 ⟨rfl, rfl⟩
          go_wp2_with fail
          go_roundg (gk - 1)
          case measure => have := HK.out; omega
          case rel => exact ⟨⟨k + 1, 10 * v + d, by have := HK.out; omega, by go_num, by go_num, HV2, HN2⟩, rfl⟩
        · have HB := Lib.hid (numq_bad (base := 10) (most := most) hlt (.inl (by omega)))
          clear h6 hdd
          have t2 : (d : Int) < 10 := by omega
          have t3 : (most : Int) ≤ (k : Int) := by omega
          have t1 : decide ((d : Int) < 0) = false := decide_eq_false (by omega)
          have t4 : decide ((10 : Int) ≤ (d : Int)) = false := decide_eq_false (by omega)
          have t5 : decide ((most : Int) ≤ (k : Int)) = true := decide_eq_true (by omega)
          have t6 : decide (most ≤ k) = true := decide_eq_true (by omega)
          go_wp2_with fail
          refine Calls.mono H6.out ?_
          rintro e w1 ⟨rfl, rfl⟩
          go_wp2_with fail
          go_ret2
          exact ⟨by unfold rnumV; rw [HB.out, HNE.out] <;> rfl, rfl⟩
      · have HB := Lib.hid (numq_bad (base := 10) (most := most) hlt (.inr (by rw [HC.out]; exact hd)))
        obtain ⟨d, hdd⟩ : ∃ d, sixV c = d := ⟨_, rfl⟩
        have hd2 : d < 0 ∨ (10 : Int) ≤ d := by rw [← hdd]; unfold sixV; split <;> omega
        rw [hdd] at H6
        clear hdd hd
        rcases hd2 with hd2 | hd2
        · have t1 : decide (d < 0) = true := decide_eq_true (by omega)
          go_wp2_with fail
          refine Calls.mono H6.out ?_
          rintro e w1 ⟨rfl, rfl⟩
          go_wp2_with fail
          go_ret2
          exact ⟨by unfold rnumV; rw [HB.out, HNE.out] <;> rfl, rfl⟩
        · have t1 : decide (d < 0) = false := decide_eq_false (by omega)
          have t4 : decide ((10 : Int) ≤ d) = true := decide_eq_true (by omega)
          go_wp2_with fail
          refine Calls.mono H6.out ?_
          rintro e w1 ⟨rfl, rfl⟩
          go_wp2_with fail
          go_ret2
          exact ⟨by unfold rnumV; rw [HB.out, HNE.out] <;> rfl, rfl⟩
    · obtain rfl : k = ds.length := by omega
      have HB := Lib.hid (num_last hn.out)
      have HV := Lib.hid (show v = numV 10 ds by rw [hv.out, List.take_length])
      cases ds with
      | nil =>
        go_wp2_with fail
        go_ret2
        exact ⟨by unfold rnumV; rw [HB.out, ← HV.out] <;> rfl, rfl⟩
      | cons c0 t0 =>
        have hp : (0 : Int) < ((c0 :: t0).length : Int) := by simp
        go_wp2_with fail
        go_ret2
        exact ⟨by unfold rnumV; rw [HB.out, ← HV.out] <;> rfl, rfl⟩
set_option maxRecDepth 100000 in
set_option maxHeartbeats 4000000 in
theorem rnumber16_h {w : World} (ds : Str) (most : Nat) (hs : ds.length ≤ 1000000) (hm : most ≤ 7) :
    Calls Tryz.prog 146 #[.string (bs ds), .int .i64 16, .int .i64 (most : Int)] w fun e w' => e = .returned (rnumV 16 most ds) ∧ w = w' := by
  have hsz : (bs ds).size = ds.length := rfl
  go_enter Tryz.func146, Tryz.ntmps146
  go_wp2_with fail
  go_loopg [8, 9] (ds.length + 1) (fun j v8 v9 wr => (∃ k v : Nat, k + j = ds.length + 1 ∧ v9 = .int .i64 k ∧ v8 = .int .i64 v ∧ Hid (v = numV 16 (ds.take k)) ∧ Hid (NumTo 16 most ds k)) ∧ w = wr)
  case atStart => exact ⟨⟨0, 0, by omega, rfl, rfl, by simp [numV, Hid], ⟨Nat.zero_le _, Nat.zero_le _, by simp⟩⟩, rfl⟩
  case round =>
    obtain ⟨⟨k, v, hk, rfl, rfl, hv, hn⟩, rfl⟩ := hrel
    have hk1 := hn.out.1
    have hk2 := hn.out.2.1
    have hvb := numV_lt 16 (by decide) (ds.take k) 7 (by rw [List.length_take]; omega) hn.out.2.2
    rw [← hv.out] at hvb
    have hvb2 : v < 268435456 := hvb
    have HK := Lib.hid hk
    clear hvb hk
    by_cases hlt : k < ds.length
    · have hz : k < (bs ds).size := by rw [hsz]; exact hlt
      have hg := bs_at ds k hz
      obtain ⟨c, hc⟩ : ∃ c, ds.getD k 0 = c := ⟨_, rfl⟩
      rw [hc] at hg
      have HC := Lib.hid hc
      have H6 := Lib.hid (rsix_h (w := w) c)
      have hne : ds.isEmpty = false := by cases ds with | nil => simp at hlt | cons _ _ => rfl
      have HNE := Lib.hid hne
      clear hc hne
      by_cases hd : digV c < 16
      · have h6 : sixV c = ((digV c : Nat) : Int) := by unfold sixV; rw [if_pos (by omega)]
        rw [h6] at H6
        obtain ⟨d, hdd⟩ : ∃ d, digV c = d := ⟨_, rfl⟩
        rw [hdd] at H6 hd
        by_cases hmo : k < most
        · have HN2 := Lib.hid (num_step hn.out hlt hmo (by rw [HC.out, hdd]; exact hd))
          have HV2 := Lib.hid (show 16 * v + d = numV 16 (ds.take (k + 1)) by rw [take_snoc' hlt, numV_snoc, HC.out, hdd, hv.out])
          clear h6 hdd
          have t2 : (d : Int) < 16 := by omega
          have t3 : (k : Int) < (most : Int) := by omega
          have t1 : decide ((d : Int) < 0) = false := decide_eq_false (by omega)
          have t4 : decide ((16 : Int) ≤ (d : Int)) = false := decide_eq_false (by omega)
          have t5 : decide ((most : Int) ≤ (k : Int)) = false := decide_eq_false (by omega)
          have t6 : decide (most ≤ k) = false := decide_eq_false (by omega)
          go_wp2_with fail
          refine Calls.mono H6.out ?_
          rintro e w1 ⟨rfl, rfl⟩
          go_wp2_with fail
          go_roundg (gk - 1)
          case measure => have := HK.out; omega
          case rel => exact ⟨⟨k + 1, 16 * v + d, by have := HK.out; omega, by go_num, by go_num, HV2, HN2⟩, rfl⟩
        · have HB := Lib.hid (numq_bad (base := 16) (most := most) hlt (.inl (by omega)))
          clear h6 hdd
          have t2 : (d : Int) < 16 := by omega
          have t3 : (most : Int) ≤ (k : Int) := by omega
          have t1 : decide ((d : Int) < 0) = false := decide_eq_false (by omega)
          have t4 : decide ((16 : Int) ≤ (d : Int)) = false := decide_eq_false (by omega)
          have t5 : decide ((most : Int) ≤ (k : Int)) = true := decide_eq_true (by omega)
          have t6 : decide (most ≤ k) = true := decide_eq_true (by omega)
          go_wp2_with fail
          refine Calls.mono H6.out ?_
          rintro e w1 ⟨rfl, rfl⟩
          go_wp2_with fail
          go_ret2
          exact ⟨by unfold rnumV; rw [HB.out, HNE.out] <;> rfl, rfl⟩
      · have HB := Lib.hid (numq_bad (base := 16) (most := most) hlt (.inr (by rw [HC.out]; exact hd)))
        obtain ⟨d, hdd⟩ : ∃ d, sixV c = d := ⟨_, rfl⟩
        have hd2 : d < 0 ∨ (16 : Int) ≤ d := by rw [← hdd]; unfold sixV; split <;> omega
        rw [hdd] at H6
        clear hdd hd
        rcases hd2 with hd2 | hd2
        · have t1 : decide (d < 0) = true := decide_eq_true (by omega)
          go_wp2_with fail
          refine Calls.mono H6.out ?_
          rintro e w1 ⟨rfl, rfl⟩
          go_wp2_with fail
          go_ret2
          exact ⟨by unfold rnumV; rw [HB.out, HNE.out] <;> rfl, rfl⟩
        · have t1 : decide (d < 0) = false := decide_eq_false (by omega)
          have t4 : decide ((16 : Int) ≤ d) = true := decide_eq_true (by omega)
          go_wp2_with fail
          refine Calls.mono H6.out ?_
          rintro e w1 ⟨rfl, rfl⟩
          go_wp2_with fail
          go_ret2
          exact ⟨by unfold rnumV; rw [HB.out, HNE.out] <;> rfl, rfl⟩
    · obtain rfl : k = ds.length := by omega
      have HB := Lib.hid (num_last hn.out)
      have HV := Lib.hid (show v = numV 16 ds by rw [hv.out, List.take_length])
      cases ds with
      | nil =>
        go_wp2_with fail
        go_ret2
        exact ⟨by unfold rnumV; rw [HB.out, ← HV.out] <;> rfl, rfl⟩
      | cons c0 t0 =>
        have hp : (0 : Int) < ((c0 :: t0).length : Int) := by simp
        go_wp2_with fail
        go_ret2
        exact ⟨by unfold rnumV; rw [HB.out, ← HV.out] <;> rfl, rfl⟩
end Go.Proofs.YtpinjgdnhbogoaaGreatDoor
