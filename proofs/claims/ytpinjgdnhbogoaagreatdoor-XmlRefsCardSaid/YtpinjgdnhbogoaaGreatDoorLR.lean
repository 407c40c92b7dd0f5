/- The walk of the law XmlRefs. -/
import Derived.Test.YtpinjgdnhbogoaaGreatDoorR1
import Derived.Test.YtpinjgdnhbogoaaGreatDoorLE
import Derived.Deep.DeepCutAuto
import Derived.Deep.CutBlock
namespace Go.Proofs.YtpinjgdnhbogoaaGreatDoor
open Go.RowKit Go.Lib

theorem refT_cat (r : Nat) : (⟨#[38, 35]⟩ : ByteArray) ++ bs (decL r) ++ ⟨#[59]⟩ = bs (refT r) := by
  rw [show (⟨#[38, 35]⟩ : ByteArray) = bs [38, 35] from rfl, show (⟨#[59]⟩ : ByteArray) = bs [59] from rfl]
  simp only [bs_append, List.cons_append, List.nil_append]; rfl
theorem refX_cat (r : Nat) : (⟨#[38, 35, 120]⟩ : ByteArray) ++ bs (hexL r) ++ ⟨#[59]⟩ = bs (refX r) := by
  rw [show (⟨#[38, 35, 120]⟩ : ByteArray) = bs [38, 35, 120] from rfl, show (⟨#[59]⟩ : ByteArray) = bs [59] from rfl]
  simp only [bs_append, List.cons_append, List.nil_append]; rfl
def refD (r : Nat) : List TokD × Int × Int := if runeOK r then ([⟨3, [], [], utf8L r⟩], 0, 0) else ([], 8, 0)
theorem readD_of {s : Str} {r : Nat} (h : readL s = if runeOK r then .ok [⟨3, [], [], utf8L r⟩] else .error 0) (hs : s.length ≤ 20000) : readD s = refD r := by
  unfold readD refD
  rw [if_neg (by omega), h]
  cases runeOK r <;> rfl
theorem refT_len (r : Nat) : (refT r).length ≤ 12 := by
  have := digF_len8 (base := 10) (d := decC) 7 r
  unfold refT decL; simp; omega
theorem refX_len (r : Nat) : (refX r).length ≤ 12 := by
  have := digF_len8 (base := 16) (d := hexC) 7 r
  unfold refX hexL; simp; omega
theorem utf8_first {r : Nat} (h : runeOK r = true) : ((utf8L r).getD 0 0).toNat < 128 ∨ 192 ≤ ((utf8L r).getD 0 0).toNat := by
  unfold runeOK at h
  simp only [Bool.and_eq_true, decide_eq_true_eq] at h
  obtain ⟨⟨h1, h2⟩, _⟩ := h
  unfold utf8L
  split
  · left; show (UInt8.ofNat r).toNat < 128; rw [UInt8.toNat_ofNat']; omega
  split
  · right; show 192 ≤ (UInt8.ofNat (192 + r / 64)).toNat; rw [UInt8.toNat_ofNat']; omega
  split
  · right; show 192 ≤ (UInt8.ofNat (224 + r / 4096)).toNat; rw [UInt8.toNat_ofNat']; omega
  · right; show 192 ≤ (UInt8.ofNat (240 + r / 262144)).toNat; rw [UInt8.toNat_ofNat']; omega
theorem rune_lo {n : Nat} (h : ¬ 1 ≤ n) : runeOK n = false := by unfold runeOK; rw [decide_eq_false h]; rfl
theorem rune_hi {n : Nat} (h : ¬ n ≤ 1114111) : runeOK n = false := by unfold runeOK; rw [decide_eq_false h]; simp
theorem rune_a {n : Nat} (h1 : 1 ≤ n) (h2 : n ≤ 1114111) (h3 : n < 55296) : runeOK n = true := by unfold runeOK; rw [decide_eq_true h1, decide_eq_true h2, decide_eq_false (show ¬ 55296 ≤ n by omega)]; rfl
theorem rune_b {n : Nat} (h1 : 1 ≤ n) (h2 : n ≤ 1114111) (h3 : 57343 < n) : runeOK n = true := by unfold runeOK; rw [decide_eq_true h1, decide_eq_true h2, decide_eq_false (show ¬ n ≤ 57343 by omega)]; simp
theorem rune_c {n : Nat} (h3 : ¬ n < 55296) (h4 : ¬ 57343 < n) : runeOK n = false := by unfold runeOK; rw [decide_eq_true (show 55296 ≤ n by omega), decide_eq_true (show n ≤ 57343 by omega)]; simp
set_option maxRecDepth 100000 in
set_option maxHeartbeats 8000000 in
theorem refs_h {w : World} (hE : Env w) (z : Int) : Calls Tryz.prog 10 #[.int .i64 z] w fun e w' => e = .returned (.bool true) ∧ Fr (fun _ => False) w w' := by
  have HE := Lib.hid hE
  have HS := Lib.hid (shown_h hE)
  clear hE
  by_cases hneg : z < 0
  · go_enter Tryz.func10, Tryz.ntmps10
    go_wp2_with fail
    refine Calls.mono HS.out ?_
    rintro e w1 ⟨rfl, hF⟩
    have HF := Lib.hid hF
    clear hF
    go_wp2_with fail
    go_ret
    exact ⟨rfl, HF.out⟩
  by_cases hbig : 9999999 < z
  · go_enter Tryz.func10, Tryz.ntmps10
    go_wp2_with fail
    refine Calls.mono HS.out ?_
    rintro e w1 ⟨rfl, hF⟩
    have HF := Lib.hid hF
    clear hF
    go_wp2_with fail
    go_ret
    exact ⟨rfl, HF.out⟩
  obtain ⟨n, rfl⟩ : ∃ n : Nat, z = n := ⟨z.toNat, by omega⟩
  have hn : n ≤ 9999999 := by omega
  have HD := Lib.hid (fun W : World => decimal_h 7 n (w := W) (by omega) (by omega))
  have HX := Lib.hid (fun W : World => hex_h 7 n (w := W) (by omega) (by omega))
  have HR1 := Lib.hid (fun (W : World) (hF : Fr (fun _ => False) w W) => read_at (HE.out.grow hF) (show readD (refT n) = ((refD n).1, (refD n).2.1, (refD n).2.2) from readD_of (read_dec hn) (by have := refT_len n; omega)) (by have := refT_len n; omega))
  have HR2 := Lib.hid (fun (W : World) (hF : Fr (fun _ => False) w W) => read_at (HE.out.grow hF) (show readD (refX n) = ((refD n).1, (refD n).2.1, (refD n).2.2) from readD_of (read_hex hn) (by have := refX_len n; omega)) (by have := refX_len n; omega))
  have z1 : (bs (decL n)).size = (decL n).length := rfl
  have z2 : (bs (hexL n)).size = (hexL n).length := rfl
  have l1 : (decL n).length ≤ 8 := digF_len8 7 n
  have l2 : (hexL n).length ≤ 8 := digF_len8 7 n
  have c1 := Lib.hid (refT_cat n)
  have c2 := Lib.hid (refX_cat n)
  go_enter Tryz.func10, Tryz.ntmps10
  go_wp2_with fail
  refine Calls.mono HS.out ?_
  rintro e w1 ⟨rfl, hF⟩
  have HF := Lib.hid hF
  clear hF
  go_wp2_with fail
  refine Calls.mono (HD.out _) ?_
  rintro e w2 ⟨rfl, rfl⟩
  rw [show digF 10 decC 7 n = decL n from rfl]
  go_wp2_with fail
  rw [c1.out]
  refine Calls.mono (HR1.out _ HF.out) ?_
  rintro e w2 ⟨⟨v, rfl, hT⟩, hF2⟩
  obtain ⟨a, cap, rfl, _, _⟩ := hT.sliced
  have HF2 := Lib.hid (HF.out.next hF2)
  have HT := Lib.hid hT
  clear hT hF2
  go_wp2_with fail
  refine Calls.mono (HX.out _) ?_
  rintro e w3 ⟨rfl, rfl⟩
  rw [show digF 16 hexC 7 n = hexL n from rfl]
  go_wp2_with fail
  rw [c2.out]
  refine Calls.mono (HR2.out _ HF2.out) ?_
  rintro e w3 ⟨⟨v3, rfl, hT3⟩, hF3⟩
  obtain ⟨a3, cap3, rfl, _, _⟩ := hT3.sliced
  have HF3 := Lib.hid (HF2.out.next hF3)
  have HT2 := Lib.hid (HT.out.fr hF3)
  have HT3 := Lib.hid hT3
  clear hT3 hF3 HT
  cases hOK : runeOK n with
  | false =>
    have e : refD n = ([], 8, 0) := by unfold refD; rw [hOK]; rfl
    have hw : ¬ 1 ≤ n ∨ (1 ≤ n ∧ ¬ n ≤ 1114111) ∨ (1 ≤ n ∧ n ≤ 1114111 ∧ ¬ n < 55296 ∧ ¬ 57343 < n) := by
      by_cases k1 : 1 ≤ n
      · by_cases k2 : n ≤ 1114111
        · by_cases k3 : n < 55296
          · rw [rune_a k1 k2 k3] at hOK; cases hOK
          · by_cases k4 : 57343 < n
            · rw [rune_b k1 k2 k4] at hOK; cases hOK
            · exact .inr (.inr ⟨k1, k2, k3, k4⟩)
        · exact .inr (.inl ⟨k1, k2⟩)
      · exact .inl k1
    rw [e]
    clear e hOK HT2 HT3
    rcases hw with k | ⟨k1, k⟩ | ⟨k1, k2, k3, k4⟩
    · have k' : ¬ (1 : Int) ≤ (n : Int) := by omega
      go_wp2_with fail
      go_ret
      exact ⟨rfl, HF3.out⟩
    · have k' : ¬ (n : Int) ≤ 1114111 := by omega
      have k1' : (1 : Int) ≤ (n : Int) := by omega
      go_wp2_with fail
      go_ret
      exact ⟨rfl, HF3.out⟩
    · have k1' : (1 : Int) ≤ (n : Int) := by omega
      have k2' : (n : Int) ≤ 1114111 := by omega
      have k3' : ¬ (n : Int) < 55296 := by omega
      have k4' : ¬ (57343 : Int) < (n : Int) := by omega
      have d3' : decide ((n : Int) < 55296) = false := decide_eq_false k3'
      have d4' : decide ((57343 : Int) < (n : Int)) = false := decide_eq_false k4'
      clear k3 k4 k3' k4'
      go_wp2_with fail
      go_ret
      exact ⟨rfl, HF3.out⟩
  | true =>
    have e : refD n = ([⟨3, [], [], utf8L n⟩], 0, 0) := by unfold refD; rw [hOK]; rfl
    have hw : 1 ≤ n ∧ n ≤ 1114111 ∧ (n < 55296 ∨ (¬ n < 55296 ∧ 57343 < n)) := by
      by_cases k1 : 1 ≤ n
      · by_cases k2 : n ≤ 1114111
        · by_cases k3 : n < 55296
          · exact ⟨k1, k2, .inl k3⟩
          · by_cases k4 : 57343 < n
            · exact ⟨k1, k2, .inr ⟨k3, k4⟩⟩
            · rw [rune_c k3 k4] at hOK; cases hOK
        · rw [rune_hi k2] at hOK; cases hOK
      · rw [rune_lo k1] at hOK; cases hOK
    rw [e] at HT2 HT3 ⊢
    obtain ⟨g, off, rfl, hel⟩ := HT2.out.cells (Nat.lt_succ_self 0)
    obtain ⟨g3, off3, rfl, hel3⟩ := HT3.out.cells (Nat.lt_succ_self 0)
    obtain ⟨_, h0⟩ := hel 0 _ rfl
    obtain ⟨_, h3⟩ := hel3 0 _ rfl
    have d0 := h0.c3
    have d3 := h3.c3
    simp only [Nat.zero_mul, Nat.add_zero] at d0 d3
    obtain ⟨v1, v2, v3, v4⟩ := val_utf8 hOK
    have HFst := Lib.hid (utf8_first hOK)
    have hone : ([⟨3, [], [], utf8L n⟩] : List TokD).length = 1 := rfl
    rw [hone]
    have zu : (bs (utf8L n)).size = (utf8L n).length := rfl
    have v4i : decide (((utf8L n).length : Int) = 1) = decide ((n : Int) < 128) := by
      have h1 : (((utf8L n).length : Int) = 1) ↔ ((utf8L n).length = 1) := by omega
      have h2 : ((n : Int) < 128) ↔ (n < 128) := by omega
      rw [decide_eq_decide.2 h1, decide_eq_decide.2 h2]; exact v4
    have HV1 := Lib.hid v1
    obtain ⟨k1, k2, hor⟩ := hw
    have k1' : (1 : Int) ≤ (n : Int) := by omega
    have k2' : (n : Int) ≤ 1114111 := by omega
    clear e hOK h0 h3 hel hel3 hone v1 v4
    have hcall : ∀ W : World, Fr (fun _ => False) w3 W → Calls Tryz.prog 42 #[.string (bs (utf8L n))] W fun e w' => e = .returned (.int .i64 (n : Int)) ∧ W = w' := fun W _ => by
      have h := value_h (w := W) (utf8L n) v3 HFst.out
      rw [HV1.out] at h
      exact h
    have HCall := Lib.hid hcall
    have v2i : (1 : Int) ≤ ((utf8L n).length : Int) := by omega
    have v3i : ((utf8L n).length : Int) ≤ 4 := by omega
    obtain ⟨L, hL⟩ : ∃ L, (utf8L n).length = L := ⟨_, rfl⟩
    rw [hL] at zu v4i v2i v3i
    have hB : (((L : Int) == 1) == decide ((n : Int) < 128)) = true := by
      rw [show ((L : Int) == 1) = decide ((L : Int) = 1) from by rw [Bool.eq_iff_iff]; simp, v4i]; simp
    have HB := Lib.hid hB
    clear hcall hL v2 v3 hB v4i
    rcases hor with k3 | ⟨k3, k4⟩
    all_goals
      first | (have k3' : (n : Int) < 55296 := by omega) | (have k3' : ¬ (n : Int) < 55296 := by omega)
      try (have k4' : (57343 : Int) < (n : Int) := by omega)
      go_wp2_with fail
      go_quiet (fail)
      go_wp2_with fail
      refine Calls.mono (HCall.out _ ((Fr.refl _ _).drewN _)) ?_
      rintro e w4 ⟨rfl, rfl⟩
      go_wp2_with fail
      go_ret
      exact ⟨by rw [← HB.out] <;> rfl, HF3.out.drewN _⟩
end Go.Proofs.YtpinjgdnhbogoaaGreatDoor
