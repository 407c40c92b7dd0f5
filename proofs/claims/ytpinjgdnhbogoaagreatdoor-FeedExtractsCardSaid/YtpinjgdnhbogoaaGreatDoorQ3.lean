/- The reference's layer 11: digits, numbers. -/
import Derived.Test.YtpinjgdnhbogoaaGreatDoorQ1
namespace Go.Proofs.YtpinjgdnhbogoaaGreatDoor
open Go.RowKit Go.Lib

def sixN (n : Nat) : Int := if 48 ≤ n ∧ n ≤ 57 then (n : Int) - 48 else if 97 ≤ n ∧ n ≤ 102 then (n : Int) - 97 + 10 else if 65 ≤ n ∧ n ≤ 70 then (n : Int) - 65 + 10 else -1
theorem six_nat (c : UInt8) : sixV c = sixN c.toNat := by
  unfold sixV sixN digV
  repeat' split
  all_goals omega
set_option maxHeartbeats 4000000 in
theorem rsix_n {w : World} (n : Nat) (hn : n < 256) : Calls Tryz.prog 169 #[.int .u8 (n : Int)] w fun e w' => e = .returned (.int .i64 (sixN n)) ∧ w = w' := by
  have HD := Lib.hid (rdigit_n (w := w) n)
  have hcl : n < 48 ∨ (48 ≤ n ∧ n ≤ 57) ∨ (58 ≤ n ∧ n ≤ 64) ∨ (65 ≤ n ∧ n ≤ 70) ∨ (71 ≤ n ∧ n ≤ 96) ∨ (97 ≤ n ∧ n ≤ 102) ∨ 103 ≤ n := by omega
  rcases hcl with h | h | h | h | h | h | h
  all_goals
    first
    | rw [show digitN n = true by unfold digitN; rw [decide_eq_true (by omega), decide_eq_true (by omega)]; rfl] at HD
    | rw [show digitN n = false by unfold digitN; first | (rw [decide_eq_false (by omega)]; rfl) | (rw [decide_eq_true (by omega), decide_eq_false (by omega)]; rfl)] at HD
    have HR : Hid (sixN n = _) := Lib.hid (by unfold sixN; first | (rw [if_pos (by omega)]; done) | (rw [if_neg (by omega), if_pos (by omega)]; done) | (rw [if_neg (by omega), if_neg (by omega), if_pos (by omega)]; done) | (rw [if_neg (by omega), if_neg (by omega), if_neg (by omega)]; done))
    rcases Bool.eq_false_or_eq_true (decide ((97 : Int) ≤ (n : Int))) with d1 | d1 <;> (try (exfalso; first | (have := of_decide_eq_true d1; omega) | (have := of_decide_eq_false d1; omega)))
    rcases Bool.eq_false_or_eq_true (decide ((n : Int) ≤ 102)) with d2 | d2 <;> (try (exfalso; first | (have := of_decide_eq_true d2; omega) | (have := of_decide_eq_false d2; omega)))
    rcases Bool.eq_false_or_eq_true (decide ((65 : Int) ≤ (n : Int))) with d3 | d3 <;> (try (exfalso; first | (have := of_decide_eq_true d3; omega) | (have := of_decide_eq_false d3; omega)))
    rcases Bool.eq_false_or_eq_true (decide ((n : Int) ≤ 70)) with d4 | d4 <;> (try (exfalso; first | (have := of_decide_eq_true d4; omega) | (have := of_decide_eq_false d4; omega)))
    go_enter Tryz.func169, Tryz.ntmps169
    go_wp2_with fail
    refine Calls.mono HD.out ?_
    rintro e w1 ⟨rfl, rfl⟩
    go_wp2_with fail
    go_ret
    exact ⟨by rw [HR.out] <;> rfl, rfl⟩
theorem rsix_h {w : World} (c : UInt8) : Calls Tryz.prog 169 #[.int .u8 (c.toNat : Int)] w fun e w' => e = .returned (.int .i64 (sixV c)) ∧ w = w' := by
  rw [six_nat]; exact rsix_n _ c.toNat_lt
theorem numV_lt (base : Nat) (hb : base ≤ 16) : ∀ (l : Str) (m : Nat), l.length ≤ m → l.all (fun c => decide (digV c < base)) = true → numV base l < 16 ^ m
  | l, 0, h, _ => by obtain rfl := List.eq_nil_of_length_eq_zero (Nat.le_zero.1 h); simp [numV]
  | l, m + 1, h, ha => by
    rcases List.eq_nil_or_concat l with rfl | ⟨l0, c, rfl⟩
    · exact Nat.pow_pos (by decide)
    · rw [List.concat_eq_append] at h ha ⊢
      rw [numV_snoc]
      rw [List.all_append] at ha
      simp only [Bool.and_eq_true, List.all_cons, List.all_nil, Bool.and_true, decide_eq_true_eq] at ha
      have ih := numV_lt base hb l0 m (by simp at h; omega) ha.1
      have h1 : base * numV base l0 ≤ 16 * numV base l0 := Nat.mul_le_mul_right _ hb
      rw [Nat.pow_succ]
      have := ha.2
      omega
def NumTo (base most : Nat) (ds : Str) (k : Nat) : Prop := k ≤ ds.length ∧ k ≤ most ∧ (ds.take k).all (fun c => decide (digV c < base)) = true
theorem num_last {base most : Nat} {ds : Str} (h : NumTo base most ds ds.length) : numQ base most ds = true := by
  obtain ⟨_, h2, h3⟩ := h
  rw [List.take_length] at h3
  unfold numQ; rw [h3, decide_eq_true h2]; rfl
theorem take_snoc' {l : Str} {k : Nat} (hk : k < l.length) : l.take (k + 1) = l.take k ++ [l.getD k 0] := by
  rw [List.take_add_one, List.getElem?_eq_getElem hk, List.getD_eq_getElem?_getD, List.getElem?_eq_getElem hk]; rfl
theorem num_step {base most : Nat} {ds : Str} {k : Nat} (h : NumTo base most ds k) (hk : k < ds.length) (hm : k < most) (hd : digV (ds.getD k 0) < base) : NumTo base most ds (k + 1) := by
  refine ⟨hk, hm, ?_⟩
  rw [take_snoc' hk, List.all_append, h.2.2]
  simp [-List.getD_eq_getElem?_getD]
  exact hd
theorem numq_bad {base most : Nat} {ds : Str} {k : Nat} (hk : k < ds.length) (h : most ≤ k ∨ ¬ digV (ds.getD k 0) < base) : numQ base most ds = false := by
  unfold numQ
  rcases h with h | h
  · rw [decide_eq_false (p := ds.length ≤ most) (by omega)]; simp
  · have : ds.all (fun c => decide (digV c < base)) = false := by
      rw [Bool.eq_false_iff]; intro ha
      have := List.all_eq_true.1 ha (ds.getD k 0) (by rw [List.getD_eq_getElem?_getD, List.getElem?_eq_getElem hk]; exact List.getElem_mem hk)
      exact h (of_decide_eq_true this)
    rw [this]; rfl
def rnumV (base most : Nat) (ds : Str) : Value := .tuple #[.int .i64 ((if numQ base most ds then numV base ds else 0 : Nat) : Int), .bool (!ds.isEmpty && numQ base most ds)]
set_option maxRecDepth 100000 in
set_option maxHeartbeats 4000000 in
theorem rnumber10_h {w : World} (ds : Str) (most : Nat) (hs : ds.length ≤ 1000000) (hm : most ≤ 7) :
    Calls Tryz.prog 146 #[.string (bs ds), .int .i64 10, .int .i64 (most : Int)] w fun e w' => e = .returned (rnumV 10 most ds) ∧ w = w' := by
  have hsz : (bs ds).size = ds.length := rfl
  go_enter Tryz.func146, Tryz.ntmps146
  go_wp2_with fail
  go_loopg [8, 9] (ds.length + 1) (fun j v8 v9 wr => (∃ k v : Nat, k + j = ds.length + 1 ∧ v9 = .int .i64 k ∧ v8 = .int .i64 v ∧ Hid (v = numV 10 (ds.take k)) ∧ Hid (NumTo 10 most ds k)) ∧ w = wr)
  case atStart => exact ⟨⟨0, 0, by omega, rfl, rfl, by simp [numV, Hid], ⟨Nat.zero_le _, Nat.zero_le _, by simp⟩⟩, rfl⟩
  case round =>
    obtain ⟨⟨k, v, hk, rfl, rfl, hv, hn⟩, rfl⟩ := hrel
    have hk1 := hn.out.1
    have hk2 := hn.out.2.1
    have hvb := numV_lt 10 (by decide) (ds.take k) 7 (by rw [List.length_take]; omega) hn.out.2.2
    rw [← hv.out] at hvb
    have hvb2 : v < 268435456 := hvb
    have HK := Lib.hid hk
    clear hvb hk
    by_cases hlt : k < ds.length
    · have hz : k < (bs ds).size := by rw [hsz]; exact hlt
      have hg := bs_at ds k hz
      obtain ⟨c, hc⟩ : ∃ c, ds.getD k 0 = c := ⟨_, rfl⟩
      rw [hc] at hg
      have HC := Lib.hid hc
      have H6 := Lib.hid (rsix_h (w := w) c)
      have hne : ds.isEmpty = false := by cases ds with | nil => simp at hlt | cons _ _ => rfl
      have HNE := Lib.hid hne
      clear hc hne
      by_cases hd : digV c < 10
      · have h6 : sixV c = ((digV c : Nat) : Int) := by unfold sixV; rw [if_pos (by omega)]
        rw [h6] at H6
        obtain ⟨d, hdd⟩ : ∃ d, digV c = d := ⟨_, rfl⟩
        rw [hdd] at H6 hd
        by_cases hmo : k < most
        · have HN2 := Lib.hid (num_step hn.out hlt hmo (by rw [HC.out, hdd]; exact hd))
          have HV2 := Lib.hid (show 10 * v + d = numV 10 (ds.take (k + 1)) by rw [take_snoc' hlt, numV_snoc, HC.out, hdd, hv.out])
          clear h6 hdd
          have t2 : (d : Int) < 10 := by omega
          have t3 : (k : Int) < (most : Int) := by omega
          have t1 : decide ((d : Int) < 0) = false := decide_eq_false (by omega)
          have t4 : decide ((10 : Int) ≤ (d : Int)) = false := decide_eq_false (by omega)
          have t5 : decide ((most : Int) ≤ (k : Int)) = false := decide_eq_false (by omega)
          have t6 : decide (most ≤ k) = false := decide_eq_false (by omega)
          go_wp2_with fail
          refine Calls.mono H6.out ?_
          rintro e w1 ⟨rfl, rfl⟩
          go_wp2_with fail
          go_roundg (gk - 1)
          case measure => have := HK.out; omega
          case rel => exact ⟨⟨k + 1, 10 * v + d, by have := HK.out; omega, by go_num, by go_num, HV2, HN2⟩, rfl⟩
        · have HB := Lib.hid (numq_bad (base := 10) (most := most) hlt (.inl (by omega)))
          clear h6 hdd
          have t2 : (d : Int) < 10 := by omega
          have t3 : (most : Int) ≤ (k : Int) := by omega
          have t1 : decide ((d : Int) < 0) = false := decide_eq_false (by omega)
          have t4 : decide ((10 : Int) ≤ (d : Int)) = false := decide_eq_false (by omega)
          have t5 : decide ((most : Int) ≤ (k : Int)) = true := decide_eq_true (by omega)
          have t6 : decide (most ≤ k) = true := decide_eq_true (by omega)
          go_wp2_with fail
          refine Calls.mono H6.out ?_
          rintro e w1 ⟨rfl, rfl⟩
          go_wp2_with fail
          go_ret2
          exact ⟨by unfold rnumV; rw [HB.out, HNE.out] <;> rfl, rfl⟩
      · have HB := Lib.hid (numq_bad (base := 10) (most := most) hlt (.inr (by rw [HC.out]; exact hd)))
        obtain ⟨d, hdd⟩ : ∃ d, sixV c = d := ⟨_, rfl⟩
        have hd2 : d < 0 ∨ (10 : Int) ≤ d := by rw [← hdd]; unfold sixV; split <;> omega
        rw [hdd] at H6
        clear hdd hd
        rcases hd2 with hd2 | hd2
        · have t1 : decide (d < 0) = true := decide_eq_true (by omega)
          go_wp2_with fail
          refine Calls.mono H6.out ?_
          rintro e w1 ⟨rfl, rfl⟩
          go_wp2_with fail
          go_ret2
          exact ⟨by unfold rnumV; rw [HB.out, HNE.out] <;> rfl, rfl⟩
        · have t1 : decide (d < 0) = false := decide_eq_false (by omega)
          have t4 : decide ((10 : Int) ≤ d) = true := decide_eq_true (by omega)
          go_wp2_with fail
          refine Calls.mono H6.out ?_
          rintro e w1 ⟨rfl, rfl⟩
          go_wp2_with fail
          go_ret2
          exact ⟨by unfold rnumV; rw [HB.out, HNE.out] <;> rfl, rfl⟩
    · obtain rfl : k = ds.length := by omega
      have HB := Lib.hid (num_last hn.out)
      have HV := Lib.hid (show v = numV 10 ds by rw [hv.out, List.take_length])
      cases ds with
      | nil =>
        go_wp2_with fail
        go_ret2
        exact ⟨by unfold rnumV; rw [HB.out, ← HV.out] <;> rfl, rfl⟩
      | cons c0 t0 =>
        have hp : (0 : Int) < ((c0 :: t0).length : Int) := by simp
        go_wp2_with fail
        go_ret2
        exact ⟨by unfold rnumV; rw [HB.out, ← HV.out] <;> rfl, rfl⟩
set_option maxRecDepth 100000 in
set_option maxHeartbeats 4000000 in
theorem rnumber16_h {w : World} (ds : Str) (most : Nat) (hs : ds.length ≤ 1000000) (hm : most ≤ 7) :
    Calls Tryz.prog 146 #[.string (bs ds), .int .i64 16, .int .i64 (most : Int)] w fun e w' => e = .returned (rnumV 16 most ds) ∧ w = w' := by
  have hsz : (bs ds).size = ds.length := rfl
  go_enter Tryz.func146, Tryz.ntmps146
  go_wp2_with fail
  go_loopg [8, 9] (ds.length + 1) (fun j v8 v9 wr => (∃ k v : Nat, k + j = ds.length + 1 ∧ v9 = .int .i64 k ∧ v8 = .int .i64 v ∧ Hid (v = numV 16 (ds.take k)) ∧ Hid (NumTo 16 most ds k)) ∧ w = wr)
  case atStart => exact ⟨⟨0, 0, by omega, rfl, rfl, by simp [numV, Hid], ⟨Nat.zero_le _, Nat.zero_le _, by simp⟩⟩, rfl⟩
  case round =>
    obtain ⟨⟨k, v, hk, rfl, rfl, hv, hn⟩, rfl⟩ := hrel
    have hk1 := hn.out.1
    have hk2 := hn.out.2.1
    have hvb := numV_lt 16 (by decide) (ds.take k) 7 (by rw [List.length_take]; omega) hn.out.2.2
    rw [← hv.out] at hvb
    have hvb2 : v < 268435456 := hvb
    have HK := Lib.hid hk
    clear hvb hk
    by_cases hlt : k < ds.length
    · have hz : k < (bs ds).size := by rw [hsz]; exact hlt
      have hg := bs_at ds k hz
      obtain ⟨c, hc⟩ : ∃ c, ds.getD k 0 = c := ⟨_, rfl⟩
      rw [hc] at hg
      have HC := Lib.hid hc
      have H6 := Lib.hid (rsix_h (w := w) c)
      have hne : ds.isEmpty = false := by cases ds with | nil => simp at hlt | cons _ _ => rfl
      have HNE := Lib.hid hne
      clear hc hne
      by_cases hd : digV c < 16
      · have h6 : sixV c = ((digV c : Nat) : Int) := by unfold sixV; rw [if_pos (by omega)]
        rw [h6] at H6
        obtain ⟨d, hdd⟩ : ∃ d, digV c = d := ⟨_, rfl⟩
        rw [hdd] at H6 hd
        by_cases hmo : k < most
        · have HN2 := Lib.hid (num_step hn.out hlt hmo (by rw [HC.out, hdd]; exact hd))
          have HV2 := Lib.hid (show 16 * v + d = numV 16 (ds.take (k + 1)) by rw [take_snoc' hlt, numV_snoc, HC.out, hdd, hv.out])
          clear h6 hdd
          have t2 : (d : Int) < 16 := by omega
          have t3 : (k : Int) < (most : Int) := by omega
          have t1 : decide ((d : Int) < 0) = false := decide_eq_false (by omega)
          have t4 : decide ((16 : Int) ≤ (d : Int)) = false := decide_eq_false (by omega)
          have t5 : decide ((most : Int) ≤ (k : Int)) = false := decide_eq_false (by omega)
          have t6 : decide (most ≤ k) = false := decide_eq_false (by omega)
          go_wp2_with fail
          refine Calls.mono H6.out ?_
          rintro e w1 ⟨rfl, rfl⟩
          go_wp2_with fail
          go_roundg (gk - 1)
          case measure => have := HK.out; omega
          case rel => exact ⟨⟨k + 1, 16 * v + d, by have := HK.out; omega, by go_num, by go_num, HV2, HN2⟩, rfl⟩
        · have HB := Lib.hid (numq_bad (base := 16) (most := most) hlt (.inl (by omega)))
          clear h6 hdd
          have t2 : (d : Int) < 16 := by omega
          have t3 : (most : Int) ≤ (k : Int) := by omega
          have t1 : decide ((d : Int) < 0) = false := decide_eq_false (by omega)
          have t4 : decide ((16 : Int) ≤ (d : Int)) = false := decide_eq_false (by omega)
          have t5 : decide ((most : Int) ≤ (k : Int)) = true := decide_eq_true (by omega)
          have t6 : decide (most ≤ k) = true := decide_eq_true (by omega)
          go_wp2_with fail
          refine Calls.mono H6.out ?_
          rintro e w1 ⟨rfl, rfl⟩
          go_wp2_with fail
          go_ret2
          exact ⟨by unfold rnumV; rw [HB.out, HNE.out] <;> rfl, rfl⟩
      · have HB := Lib.hid (numq_bad (base := 16) (most := most) hlt (.inr (by rw [HC.out]; exact hd)))
        obtain ⟨d, hdd⟩ : ∃ d, sixV c = d := ⟨_, rfl⟩
        have hd2 : d < 0 ∨ (16 : Int) ≤ d := by rw [← hdd]; unfold sixV; split <;> omega
        rw [hdd] at H6
        clear hdd hd
        rcases hd2 with hd2 | hd2
        · have t1 : decide (d < 0) = true := decide_eq_true (by omega)
          go_wp2_with fail
          refine Calls.mono H6.out ?_
          rintro e w1 ⟨rfl, rfl⟩
          go_wp2_with fail
          go_ret2
          exact ⟨by unfold rnumV; rw [HB.out, HNE.out] <;> rfl, rfl⟩
        · have t1 : decide (d < 0) = false := decide_eq_false (by omega)
          have t4 : decide ((16 : Int) ≤ d) = true := decide_eq_true (by omega)
          go_wp2_with fail
          refine Calls.mono H6.out ?_
          rintro e w1 ⟨rfl, rfl⟩
          go_wp2_with fail
          go_ret2
          exact ⟨by unfold rnumV; rw [HB.out, HNE.out] <;> rfl, rfl⟩
    · obtain rfl : k = ds.length := by omega
      have HB := Lib.hid (num_last hn.out)
      have HV := Lib.hid (show v = numV 16 ds by rw [hv.out, List.take_length])
      cases ds with
      | nil =>
        go_wp2_with fail
        go_ret2
        exact ⟨by unfold rnumV; rw [HB.out, ← HV.out] <;> rfl, rfl⟩
      | cons c0 t0 =>
        have hp : (0 : Int) < ((c0 :: t0).length : Int) := by simp
        go_wp2_with fail
        go_ret2
        exact ⟨by unfold rnumV; rw [HB.out, ← HV.out] <;> rfl, rfl⟩
end Go.Proofs.YtpinjgdnhbogoaaGreatDoor

/- The reference's layer 11: a rune's bytes; a reference. -/
namespace Go.Proofs.YtpinjgdnhbogoaaGreatDoor
open Go.RowKit Go.Lib

def rutfV (n : Nat) : Value := .tuple #[.string (bs (if runeOK n then utf8L n else [])), .bool (runeOK n)]
theorem u8c {k : Nat} {z : Int} (h : z = (k : Int)) (hk : k < 256) : Value.int .u8 z = .int .u8 ((UInt8.ofNat k).toNat : Int) := by
  rw [h, UInt8.toNat_ofNat', Nat.mod_eq_of_lt hk]
theorem bytes_conv {w : World} {b : Nat} {vs : Array Value} (cap : Nat) (l : Str) (hw : b = w.heap.size) (hv : vs = (l.map fun c => Value.int .u8 (c.toNat : Int)).toArray) :
    Sem.run Tryz.prog (convert 113 9 (.slice (some ⟨b, 0, none⟩) l.length cap)) (w.alloc (.cells vs 5)) = .ok (.string (bs l)) (w.alloc (.cells vs 5)) := by
  subst hv
  refine run_convert_bytes_back _ 113 9 5 ⟨b, 0, none⟩ cap l Tryz.underlying113 Tryz.underlying5 Tryz.underlying9 fun j hj => ?_
  rw [Addr.add_lit]
  exact cell_of (block_new_at hw) (by simp [hj])
set_option maxRecDepth 100000 in
set_option maxHeartbeats 4000000 in
theorem rutf_h {w : World} (n : Nat) (hn : n ≤ 268435456) : Calls Tryz.prog 147 #[.int .i64 (n : Int)] w fun e w' => e = .returned (rutfV n) ∧ Fr (fun _ => False) w w' := by
  have hcl : n < 1 ∨ (1 ≤ n ∧ n < 128) ∨ (128 ≤ n ∧ n < 2048) ∨ (2048 ≤ n ∧ n < 55296) ∨ (55296 ≤ n ∧ n ≤ 57343) ∨ (57343 < n ∧ n < 65536) ∨ (65536 ≤ n ∧ n ≤ 1114111) ∨ 1114111 < n := by omega
  rcases hcl with h | h | h | h | h | h | h | h
  · have HR := Lib.hid (show rutfV n = .tuple #[.string ⟨#[]⟩, .bool false] by unfold rutfV; rw [show runeOK n = false by unfold runeOK; rw [decide_eq_false (p := 1 ≤ n) (by omega)]; rfl]; rfl)
    have t0 : (n : Int) < 1 := by omega
    go_enter Tryz.func147, Tryz.ntmps147
    go_wp2_with fail
    go_ret2
    exact ⟨by rw [HR.out] <;> rfl, Fr.refl _ _⟩
  · have HR := Lib.hid (show rutfV n = .tuple #[.string (bs [UInt8.ofNat (n)]), .bool true] by unfold rutfV; rw [show runeOK n = true by unfold runeOK; rw [decide_eq_true (p := 1 ≤ n) (by omega), decide_eq_true (p := n ≤ 1114111) (by omega), decide_eq_false (p := 55296 ≤ n) (by omega)]; rfl, show utf8L n = [UInt8.ofNat (n)] by unfold utf8L; rw [if_pos (by omega)]]; rfl)
    have hcv : Sem.run Tryz.prog (convert 113 9 (.slice (some ⟨w.heap.size, 0, none⟩) 1 1)) (w.alloc (.cells #[.int .u8 ((n : Int))] 5)) = .ok (.string (bs [UInt8.ofNat (n)])) (w.alloc (.cells #[.int .u8 ((n : Int))] 5)) := bytes_conv (vs := #[.int .u8 ((n : Int))]) 1 [UInt8.ofNat (n)] rfl (by rw [u8c (z := (n : Int)) (k := n) (by omega) (by omega)]; rfl)
    have t0 : ¬ (n : Int) < 1 := by omega
    have t1 : ¬ (1114111 : Int) < (n : Int) := by omega
    have t2 : ¬ (55296 : Int) ≤ (n : Int) := by omega
    have t3 : (n : Int) < 128 := by omega
    obtain ⟨bt, hbt⟩ : ∃ bt, bs [UInt8.ofNat (n)] = bt := ⟨_, rfl⟩
    rw [hbt] at hcv HR
    clear hbt
    go_enter Tryz.func147, Tryz.ntmps147
    go_wp2_with fail
    go_ret2
    exact ⟨by rw [HR.out] <;> rfl, (Fr.refl _ _).alloc _⟩
  · have HR := Lib.hid (show rutfV n = .tuple #[.string (bs [UInt8.ofNat (192 + n / 64), UInt8.ofNat (128 + n % 64)]), .bool true] by unfold rutfV; rw [show runeOK n = true by unfold runeOK; rw [decide_eq_true (p := 1 ≤ n) (by omega), decide_eq_true (p := n ≤ 1114111) (by omega), decide_eq_false (p := 55296 ≤ n) (by omega)]; rfl, show utf8L n = [UInt8.ofNat (192 + n / 64), UInt8.ofNat (128 + n % 64)] by unfold utf8L; rw [if_neg (by omega), if_pos (by omega)]]; rfl)
    have hcv : Sem.run Tryz.prog (convert 113 9 (.slice (some ⟨w.heap.size, 0, none⟩) 2 2)) (w.alloc (.cells #[.int .u8 (192 + (n : Int) / 64), .int .u8 (128 + (n : Int) % 64)] 5)) = .ok (.string (bs [UInt8.ofNat (192 + n / 64), UInt8.ofNat (128 + n % 64)])) (w.alloc (.cells #[.int .u8 (192 + (n : Int) / 64), .int .u8 (128 + (n : Int) % 64)] 5)) := bytes_conv (vs := #[.int .u8 (192 + (n : Int) / 64), .int .u8 (128 + (n : Int) % 64)]) 2 [UInt8.ofNat (192 + n / 64), UInt8.ofNat (128 + n % 64)] rfl (by rw [u8c (z := 192 + (n : Int) / 64) (k := 192 + n / 64) (by omega) (by omega), u8c (z := 128 + (n : Int) % 64) (k := 128 + n % 64) (by omega) (by omega)]; rfl)
    have t0 : ¬ (n : Int) < 1 := by omega
    have t1 : ¬ (1114111 : Int) < (n : Int) := by omega
    have t2 : ¬ (55296 : Int) ≤ (n : Int) := by omega
    have t3 : ¬ (n : Int) < 128 := by omega
    have t4 : (n : Int) < 2048 := by omega
    obtain ⟨bt, hbt⟩ : ∃ bt, bs [UInt8.ofNat (192 + n / 64), UInt8.ofNat (128 + n % 64)] = bt := ⟨_, rfl⟩
    rw [hbt] at hcv HR
    clear hbt
    go_enter Tryz.func147, Tryz.ntmps147
    go_wp2_with fail
    go_ret2
    exact ⟨by rw [HR.out] <;> rfl, (Fr.refl _ _).alloc _⟩
  · have HR := Lib.hid (show rutfV n = .tuple #[.string (bs [UInt8.ofNat (224 + n / 4096), UInt8.ofNat (128 + n / 64 % 64), UInt8.ofNat (128 + n % 64)]), .bool true] by unfold rutfV; rw [show runeOK n = true by unfold runeOK; rw [decide_eq_true (p := 1 ≤ n) (by omega), decide_eq_true (p := n ≤ 1114111) (by omega), decide_eq_false (p := 55296 ≤ n) (by omega)]; rfl, show utf8L n = [UInt8.ofNat (224 + n / 4096), UInt8.ofNat (128 + n / 64 % 64), UInt8.ofNat (128 + n % 64)] by unfold utf8L; rw [if_neg (by omega), if_neg (by omega), if_pos (by omega)]]; rfl)
    have hcv : Sem.run Tryz.prog (convert 113 9 (.slice (some ⟨w.heap.size, 0, none⟩) 3 3)) (w.alloc (.cells #[.int .u8 (224 + (n : Int) / 4096), .int .u8 (128 + (n : Int) / 64 % 64), .int .u8 (128 + (n : Int) % 64)] 5)) = .ok (.string (bs [UInt8.ofNat (224 + n / 4096), UInt8.ofNat (128 + n / 64 % 64), UInt8.ofNat (128 + n % 64)])) (w.alloc (.cells #[.int .u8 (224 + (n : Int) / 4096), .int .u8 (128 + (n : Int) / 64 % 64), .int .u8 (128 + (n : Int) % 64)] 5)) := bytes_conv (vs := #[.int .u8 (224 + (n : Int) / 4096), .int .u8 (128 + (n : Int) / 64 % 64), .int .u8 (128 + (n : Int) % 64)]) 3 [UInt8.ofNat (224 + n / 4096), UInt8.ofNat (128 + n / 64 % 64), UInt8.ofNat (128 + n % 64)] rfl (by rw [u8c (z := 224 + (n : Int) / 4096) (k := 224 + n / 4096) (by omega) (by omega), u8c (z := 128 + (n : Int) / 64 % 64) (k := 128 + n / 64 % 64) (by omega) (by omega), u8c (z := 128 + (n : Int) % 64) (k := 128 + n % 64) (by omega) (by omega)]; rfl)
    have t0 : ¬ (n : Int) < 1 := by omega
    have t1 : ¬ (1114111 : Int) < (n : Int) := by omega
    have t2 : ¬ (55296 : Int) ≤ (n : Int) := by omega
    have t3 : ¬ (n : Int) < 128 := by omega
    have t4 : ¬ (n : Int) < 2048 := by omega
    have t5 : (n : Int) < 65536 := by omega
    obtain ⟨bt, hbt⟩ : ∃ bt, bs [UInt8.ofNat (224 + n / 4096), UInt8.ofNat (128 + n / 64 % 64), UInt8.ofNat (128 + n % 64)] = bt := ⟨_, rfl⟩
    rw [hbt] at hcv HR
    clear hbt
    go_enter Tryz.func147, Tryz.ntmps147
    go_wp2_with fail
    go_ret2
    exact ⟨by rw [HR.out] <;> rfl, (Fr.refl _ _).alloc _⟩
  · have HR := Lib.hid (show rutfV n = .tuple #[.string ⟨#[]⟩, .bool false] by unfold rutfV; rw [show runeOK n = false by unfold runeOK; rw [decide_eq_true (p := 1 ≤ n) (by omega), decide_eq_true (p := n ≤ 1114111) (by omega), decide_eq_true (p := 55296 ≤ n) (by omega), decide_eq_true (p := n ≤ 57343) (by omega)]; rfl]; rfl)
    have t0 : ¬ (n : Int) < 1 := by omega
    have t1 : ¬ (1114111 : Int) < (n : Int) := by omega
    have t2 : (55296 : Int) ≤ (n : Int) := by omega
    have t3 : (n : Int) ≤ 57343 := by omega
    go_enter Tryz.func147, Tryz.ntmps147
    go_wp2_with fail
    go_ret2
    exact ⟨by rw [HR.out] <;> rfl, Fr.refl _ _⟩
  · have HR := Lib.hid (show rutfV n = .tuple #[.string (bs [UInt8.ofNat (224 + n / 4096), UInt8.ofNat (128 + n / 64 % 64), UInt8.ofNat (128 + n % 64)]), .bool true] by unfold rutfV; rw [show runeOK n = true by unfold runeOK; rw [decide_eq_true (p := 1 ≤ n) (by omega), decide_eq_true (p := n ≤ 1114111) (by omega), decide_eq_true (p := 55296 ≤ n) (by omega), decide_eq_false (p := n ≤ 57343) (by omega)]; rfl, show utf8L n = [UInt8.ofNat (224 + n / 4096), UInt8.ofNat (128 + n / 64 % 64), UInt8.ofNat (128 + n % 64)] by unfold utf8L; rw [if_neg (by omega), if_neg (by omega), if_pos (by omega)]]; rfl)
    have hcv : Sem.run Tryz.prog (convert 113 9 (.slice (some ⟨w.heap.size, 0, none⟩) 3 3)) (w.alloc (.cells #[.int .u8 (224 + (n : Int) / 4096), .int .u8 (128 + (n : Int) / 64 % 64), .int .u8 (128 + (n : Int) % 64)] 5)) = .ok (.string (bs [UInt8.ofNat (224 + n / 4096), UInt8.ofNat (128 + n / 64 % 64), UInt8.ofNat (128 + n % 64)])) (w.alloc (.cells #[.int .u8 (224 + (n : Int) / 4096), .int .u8 (128 + (n : Int) / 64 % 64), .int .u8 (128 + (n : Int) % 64)] 5)) := bytes_conv (vs := #[.int .u8 (224 + (n : Int) / 4096), .int .u8 (128 + (n : Int) / 64 % 64), .int .u8 (128 + (n : Int) % 64)]) 3 [UInt8.ofNat (224 + n / 4096), UInt8.ofNat (128 + n / 64 % 64), UInt8.ofNat (128 + n % 64)] rfl (by rw [u8c (z := 224 + (n : Int) / 4096) (k := 224 + n / 4096) (by omega) (by omega), u8c (z := 128 + (n : Int) / 64 % 64) (k := 128 + n / 64 % 64) (by omega) (by omega), u8c (z := 128 + (n : Int) % 64) (k := 128 + n % 64) (by omega) (by omega)]; rfl)
    have t0 : ¬ (n : Int) < 1 := by omega
    have t1 : ¬ (1114111 : Int) < (n : Int) := by omega
    have t2 : (55296 : Int) ≤ (n : Int) := by omega
    have t3 : ¬ (n : Int) ≤ 57343 := by omega
    have t4 : ¬ (n : Int) < 128 := by omega
    have t5 : ¬ (n : Int) < 2048 := by omega
    have t6 : (n : Int) < 65536 := by omega
    obtain ⟨bt, hbt⟩ : ∃ bt, bs [UInt8.ofNat (224 + n / 4096), UInt8.ofNat (128 + n / 64 % 64), UInt8.ofNat (128 + n % 64)] = bt := ⟨_, rfl⟩
    rw [hbt] at hcv HR
    clear hbt
    go_enter Tryz.func147, Tryz.ntmps147
    go_wp2_with fail
    go_ret2
    exact ⟨by rw [HR.out] <;> rfl, (Fr.refl _ _).alloc _⟩
  · have HR := Lib.hid (show rutfV n = .tuple #[.string (bs [UInt8.ofNat (240 + n / 262144), UInt8.ofNat (128 + n / 4096 % 64), UInt8.ofNat (128 + n / 64 % 64), UInt8.ofNat (128 + n % 64)]), .bool true] by unfold rutfV; rw [show runeOK n = true by unfold runeOK; rw [decide_eq_true (p := 1 ≤ n) (by omega), decide_eq_true (p := n ≤ 1114111) (by omega), decide_eq_true (p := 55296 ≤ n) (by omega), decide_eq_false (p := n ≤ 57343) (by omega)]; rfl, show utf8L n = [UInt8.ofNat (240 + n / 262144), UInt8.ofNat (128 + n / 4096 % 64), UInt8.ofNat (128 + n / 64 % 64), UInt8.ofNat (128 + n % 64)] by unfold utf8L; rw [if_neg (by omega), if_neg (by omega), if_neg (by omega)]]; rfl)
    have hcv : Sem.run Tryz.prog (convert 113 9 (.slice (some ⟨w.heap.size, 0, none⟩) 4 4)) (w.alloc (.cells #[.int .u8 (240 + (n : Int) / 262144), .int .u8 (128 + (n : Int) / 4096 % 64), .int .u8 (128 + (n : Int) / 64 % 64), .int .u8 (128 + (n : Int) % 64)] 5)) = .ok (.string (bs [UInt8.ofNat (240 + n / 262144), UInt8.ofNat (128 + n / 4096 % 64), UInt8.ofNat (128 + n / 64 % 64), UInt8.ofNat (128 + n % 64)])) (w.alloc (.cells #[.int .u8 (240 + (n : Int) / 262144), .int .u8 (128 + (n : Int) / 4096 % 64), .int .u8 (128 + (n : Int) / 64 % 64), .int .u8 (128 + (n : Int) % 64)] 5)) := bytes_conv (vs := #[.int .u8 (240 + (n : Int) / 262144), .int .u8 (128 + (n : Int) / 4096 % 64), .int .u8 (128 + (n : Int) / 64 % 64), .int .u8 (128 + (n : Int) % 64)]) 4 [UInt8.ofNat (240 + n / 262144), UInt8.ofNat (128 + n / 4096 % 64), UInt8.ofNat (128 + n / 64 % 64), UInt8.ofNat (128 + n % 64)] rfl (by rw [u8c (z := 240 + (n : Int) / 262144) (k := 240 + n / 262144) (by omega) (by omega), u8c (z := 128 + (n : Int) / 4096 % 64) (k := 128 + n / 4096 % 64) (by omega) (by omega), u8c (z := 128 + (n : Int) / 64 % 64) (k := 128 + n / 64 % 64) (by omega) (by omega), u8c (z := 128 + (n : Int) % 64) (k := 128 + n % 64) (by omega) (by omega)]; rfl)
    have t0 : ¬ (n : Int) < 1 := by omega
    have t1 : ¬ (1114111 : Int) < (n : Int) := by omega
    have t2 : (55296 : Int) ≤ (n : Int) := by omega
    have t3 : ¬ (n : Int) ≤ 57343 := by omega
    have t4 : ¬ (n : Int) < 128 := by omega
    have t5 : ¬ (n : Int) < 2048 := by omega
    have t6 : ¬ (n : Int) < 65536 := by omega
    obtain ⟨bt, hbt⟩ : ∃ bt, bs [UInt8.ofNat (240 + n / 262144), UInt8.ofNat (128 + n / 4096 % 64), UInt8.ofNat (128 + n / 64 % 64), UInt8.ofNat (128 + n % 64)] = bt := ⟨_, rfl⟩
    rw [hbt] at hcv HR
    clear hbt
    go_enter Tryz.func147, Tryz.ntmps147
    go_wp2_with fail
    go_ret2
    exact ⟨by rw [HR.out] <;> rfl, (Fr.refl _ _).alloc _⟩
  · have HR := Lib.hid (show rutfV n = .tuple #[.string ⟨#[]⟩, .bool false] by unfold rutfV; rw [show runeOK n = false by unfold runeOK; rw [decide_eq_true (p := 1 ≤ n) (by omega), decide_eq_false (p := n ≤ 1114111) (by omega)]; rfl]; rfl)
    have t0 : ¬ (n : Int) < 1 := by omega
    have t1 : (1114111 : Int) < (n : Int) := by omega
    go_enter Tryz.func147, Tryz.ntmps147
    go_wp2_with fail
    go_ret2
    exact ⟨by rw [HR.out] <;> rfl, Fr.refl _ _⟩
/-- what the reference answers to a text that begins with & -/
def rrefV (m : Str) : Value := match refL m with | some (t, left) => .tuple #[.string (bs t), .int .i64 ((1 + (m.length - left.length) : Nat) : Int)] | none => .tuple #[.string ⟨#[]⟩, .int .i64 0]
def nms : List Str := [[38, 97, 109, 112, 59], [38, 108, 116, 59], [38, 103, 116, 59], [38, 113, 117, 111, 116, 59], [38, 97, 112, 111, 115, 59]]
theorem rref_hit {m : Str} {p c : Str} (h : (p, c) ∈ refNames) (hp : (38 :: p).isPrefixOf (38 :: m) = true) : rrefV m = .tuple #[.string (bs c), .int .i64 ((1 + p.length : Nat) : Int)] := by
  have hp2 : p.isPrefixOf m = true := by simpa [List.isPrefixOf] using hp
  have hl := (List.isPrefixOf_iff_prefix.1 hp2).length_le
  unfold rrefV
  rw [ref_named h hp2]
  simp only [List.length_drop]
  rw [show 1 + (m.length - (m.length - p.length)) = 1 + p.length by omega]
theorem find0 (m : Str) : findZ [59] (38 :: m) 0 = match cutL [59] m with | none => -1 | some q => ((1 + q.1.length : Nat) : Int) := by
  unfold findZ
  rw [List.drop_zero, cut1_cons, if_neg (by decide)]
  cases cutL [59] m with
  | none => rfl
  | some q => simp only [Option.map_some, List.length_cons]; rw [show 0 + (q.1.length + 1) = 1 + q.1.length by omega]
/-- none of the names -/
theorem rref_none {m : Str} (h : ∀ q ∈ refNames, ¬ q.1.isPrefixOf m = true) (hc : cutL [59] m = none) : rrefV m = .tuple #[.string ⟨#[]⟩, .int .i64 0] := by
  unfold rrefV; rw [ref_other h, hc]
theorem rref_not35 {m b rest : Str} (h : ∀ q ∈ refNames, ¬ q.1.isPrefixOf m = true) (hc : cutL [59] m = some (b, rest)) (hb : ∀ t, b ≠ 35 :: t) : rrefV m = .tuple #[.string ⟨#[]⟩, .int .i64 0] := by
  have e : refL m = none := by rw [ref_other h, hc]; dsimp only; rw [numRef_no hb]; rfl
  unfold rrefV; rw [e]
def rnumE (base most : Nat) (m ds rest : Str) : Value := if (!ds.isEmpty && numQ base most ds) && runeOK (numV base ds) then .tuple #[.string (bs (utf8L (numV base ds))), .int .i64 ((1 + (m.length - rest.length) : Nat) : Int)] else .tuple #[.string ⟨#[]⟩, .int .i64 0]
theorem rref_numE {base most : Nat} {m ds rest b : Str} (h : ∀ q ∈ refNames, ¬ q.1.isPrefixOf m = true) (hc : cutL [59] m = some (b, rest)) (hb : numRef b = numL base most ds) : rrefV m = rnumE base most m ds rest := by
  unfold rrefV rnumE; rw [ref_other h, hc]; dsimp only; rw [hb, numL_num]
  by_cases hx : (!ds.isEmpty && numQ base most ds && runeOK (numV base ds)) = true
  · rw [if_pos hx, if_pos hx]; rfl
  · rw [if_neg hx, if_neg hx]; rfl
theorem rref_num16 {m ds rest : Str} (h : ∀ q ∈ refNames, ¬ q.1.isPrefixOf m = true) (hc : cutL [59] m = some (35 :: 120 :: ds, rest)) : rrefV m = rnumE 16 6 m ds rest := rref_numE h hc (numRef_16 ds)
theorem rref_num10 {m ds rest : Str} (h : ∀ q ∈ refNames, ¬ q.1.isPrefixOf m = true) (hc : cutL [59] m = some (35 :: ds, rest)) (hx : ∀ t, ds ≠ 120 :: t) : rrefV m = rnumE 10 7 m ds rest := rref_numE h hc (numRef_10 hx)
end Go.Proofs.YtpinjgdnhbogoaaGreatDoor
