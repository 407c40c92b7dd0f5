/- The walk of the law XmlBack. -/
import Derived.Test.YtpinjgdnhbogoaaGreatDoorJ2
import Derived.Test.YtpinjgdnhbogoaaGreatDoorLJ
namespace Go.Proofs.YtpinjgdnhbogoaaGreatDoor
open Go.RowKit Go.Lib

theorem good_tok : ∀ {l : List TokD}, Good l → ∀ x ∈ l, TokOK x
  | [], _, _, h => by cases h
  | t :: l, .cons h1 _ h3, x, h => by
    rcases List.mem_cons.1 h with rfl | h
    · exact h1
    · exact good_tok h3 x h
theorem tok_attrs {l : List TokD} (h : Good l) {n : Nat} (hw : (writeL l).length ≤ n) : ∀ x ∈ l, x.attrs.length ≤ n := by
  intro x hx
  obtain ⟨i, hi⟩ := List.getElem?_of_mem hx
  have h1 := write_part hi
  rcases good_tok h x hx with ⟨k, _⟩ | ⟨_, _, k, _⟩ | ⟨_, _, k, _⟩
  · rw [tokW_open k] at h1
    have := attrs_w x.attrs
    simp only [List.length_cons, List.length_append] at h1
    omega
  · rw [k]; exact Nat.zero_le _
  · rw [k]; exact Nat.zero_le _
theorem alike_at {w : World} {S S2 : Nat → Prop} {v u : Value} {a : List TokD} (ha : TokV w S v a) (hb : TokV w S2 u a) (hl : a.length ≤ 100 ∧ ∀ x ∈ a, x.attrs.length ≤ 20) :
    Calls Tryz.prog 37 #[v, u] w fun e w' => e = .returned (.bool true) ∧ Fr (fun _ => False) w w' := by
  refine (alike_h ha hb (by omega) (fun x hx => by have := hl.2 x hx; omega)).mono ?_
  rintro e w' ⟨rfl, p, rfl⟩
  exact ⟨by simp, (Fr.refl _ _).drewN p⟩
set_option maxRecDepth 100000 in
set_option maxHeartbeats 16000000 in
theorem back_h {w : World} (hE : Env w) (s : Str) : Calls Tryz.prog 14 #[.string (bs s)] w fun e w' => e = .returned (.bool true) ∧ Fr (fun _ => False) w w' := by
  have hsz : (bs s).size = s.length := rfl
  have HE := Lib.hid hE
  have HS := Lib.hid (shown_h hE)
  clear hE
  by_cases hlong : 3000 < s.length
  · have hd : decide ((3000 : Int) < (s.length : Int)) = true := decide_eq_true (by omega)
    go_enter Tryz.func14, Tryz.ntmps14
    go_wp2_with fail
    refine Calls.mono HS.out ?_
    rintro e w1 ⟨rfl, hF⟩
    have HF := Lib.hid hF
    clear hF
    go_wp2_with fail
    go_ret
    exact ⟨rfl, HF.out⟩
  have hd : decide ((3000 : Int) < (s.length : Int)) = false := decide_eq_false (by omega)
  have hs3 : s.length ≤ 3000 := by omega
  clear hlong
  have HRead := Lib.hid (fun (W : World) (hF : Fr (fun _ => False) w W) {x : Str} {l : List TokD} {a b : Int} (hr : readD x = (l, a, b)) (hs : x.length ≤ 1000000) => read_at (HE.out.grow hF) hr hs)
  cases hrs : readL s with
  | error k =>
    have hR1 := Lib.hid (readD_bad hrs (by omega))
    have hn0 : ([] : List TokD).length = 0 := rfl
    have HN0 := Lib.hid hn0
    clear hrs hn0
    go_enter Tryz.func14, Tryz.ntmps14
    go_wp2_with fail
    refine Calls.mono HS.out ?_
    rintro e w1 ⟨rfl, hF⟩
    have HF := Lib.hid hF
    clear hF
    go_wp2_with fail
    refine Calls.mono (HRead.out _ HF.out hR1.out (by omega)) ?_
    rintro e w2 ⟨⟨v2, rfl, hT2⟩, hF2⟩
    obtain ⟨a2, cap2, rfl, _, _⟩ := hT2.sliced
    have HF2 := Lib.hid (HF.out.next hF2)
    rw [HN0.out]
    clear hF2 hT2
    go_wp2_with fail
    go_ret
    exact ⟨rfl, HF2.out⟩
  | ok a =>
    have hR1 := Lib.hid (readD_ok hrs (by omega))
    have hwl := readL_w hrs
    have hwl2 : (writeL a).length ≤ 90000 := by omega
    have hal := readL_many hrs
    have hal2 : a.length ≤ 9001 := by omega
    have HAT := Lib.hid (tok_attrs (readL_good hrs) (n := 1000000) (by omega))
    have HBK := Lib.hid (read_back hrs)
    obtain ⟨t, ht⟩ : ∃ t, writeL a = t := ⟨_, rfl⟩
    rw [ht] at hwl2 HBK
    have HT := Lib.hid ht
    have hzt : (bs t).size = t.length := rfl
    have HWR := Lib.hid (fun (W : World) (v : Value) (hv : TokV W (fun k => k < W.heap.size) v a) => show Calls Tryz.prog 51 #[v] W fun e w' => e = .returned (.string (bs t)) ∧ Fr (fun _ => False) W w' by
      have h := write_h hv (by rw [HT.out]; omega) (small_of_write (by rw [HT.out]; omega)) (by omega) HAT.out
      rw [HT.out] at h; exact h)
    clear hwl hal hrs ht
    obtain ⟨l2, f2, at2, hR2, hcl⟩ : ∃ l2 f2 at2, readD t = (l2, f2, at2) ∧ (20000 < t.length ∨ (¬ 20000 < t.length ∧ l2 = a ∧ f2 = 0 ∧ at2 = 0)) := by
      by_cases h : 20000 < t.length
      · exact ⟨_, _, _, rfl, .inl h⟩
      · exact ⟨_, _, _, readD_ok HBK.out (by omega), .inr ⟨h, rfl, rfl, rfl⟩⟩
    have HR2 := Lib.hid hR2
    have HCL := Lib.hid hcl
    clear hR2 hcl
    go_enter Tryz.func14, Tryz.ntmps14
    go_wp2_with fail
    refine Calls.mono HS.out ?_
    rintro e w1 ⟨rfl, hF⟩
    have HF := Lib.hid hF
    clear hF
    go_wp2_with fail
    refine Calls.mono (HRead.out _ HF.out hR1.out (by omega)) ?_
    rintro e w2 ⟨⟨v2, rfl, hT2⟩, hF2⟩
    obtain ⟨a2, cap2, rfl, _, _⟩ := hT2.sliced
    have HF2 := Lib.hid (HF.out.next hF2)
    have HT2 := Lib.hid hT2
    clear hF2 hT2
    go_wp2_with fail
    refine Calls.mono (HWR.out _ _ HT2.out.low) ?_
    rintro e w3 ⟨rfl, hF3⟩
    have HF3 := Lib.hid (HF2.out.next hF3)
    have HT23 := Lib.hid (HT2.out.fr hF3)
    clear hF3
    go_wp2_with fail
    refine Calls.mono (HRead.out _ HF3.out HR2.out (by omega)) ?_
    rintro e w4 ⟨⟨v4, rfl, hT4⟩, hF4⟩
    obtain ⟨a4, cap4, rfl, _, _⟩ := hT4.sliced
    have HF4 := Lib.hid (HF3.out.next hF4)
    have HT24 := Lib.hid (HT23.out.fr hF4)
    have HT4 := Lib.hid hT4
    clear hF4 hT4
    go_wp2_with fail
    refine Calls.mono (as_h HT24.out.view) ?_
    rintro e w5 ⟨u, bb, rfl, hbb, hR5, hF5⟩
    have HF5 := Lib.hid (HF4.out.next hF5)
    have HT45 := Lib.hid (HT4.out.fr hF5)
    have HR5 := Lib.hid hR5
    clear hF5 hR5
    cases hfit : fitsA a with
    | false =>
      rw [hfit] at hbb
      subst hbb
      clear hfit
      go_wp2_with fail
      go_ret
      exact ⟨rfl, HF5.out⟩
    | true =>
      rw [hfit] at hbb
      subst hbb
      have HL9 := Lib.hid (fits_len2 hfit)
      have HU := Lib.hid (HR5.out rfl)
      clear hfit
      rcases HCL.out with hbig | ⟨hsm, hq1, rfl, rfl⟩
      · have hd2 : decide ((20000 : Int) < (t.length : Int)) = true := decide_eq_true (by omega)
        have hd3 : (20000 : Int) < (t.length : Int) := by omega
        clear hbig
        go_wp2_with fail
        go_ret
        exact ⟨rfl, HF5.out⟩
      · subst hq1
        have hd2 : decide ((20000 : Int) < (t.length : Int)) = false := decide_eq_false (by omega)
        clear hsm
        go_wp2_with fail
        refine Calls.mono (alike_at HT45.out.view HU.out.view HL9.out) ?_
        rintro e w6 ⟨rfl, hF6⟩
        have HF6 := Lib.hid (HF5.out.next hF6)
        have HT46 := Lib.hid (HT45.out.fr hF6)
        clear hF6
        go_wp2_with fail
        refine Calls.mono (HWR.out _ _ HT46.out.low) ?_
        rintro e w7 ⟨rfl, hF7⟩
        have HF7 := Lib.hid (HF6.out.next hF7)
        have hee : ((bs t).toList == (bs t).toList) = true := by simp
        clear hF7
        go_wp2_with fail
        go_ret
        exact ⟨rfl, HF7.out⟩
end Go.Proofs.YtpinjgdnhbogoaaGreatDoor
