/- The walk of the law ConfSteps. -/
import Derived.Test.YtnplikpjogoghaaY1
namespace Go.Proofs.Ytnplikpjogoghaa
open Go.RowKit Go.Lib

section
variable {w W : World} {S S' : Nat → Prop} {a b c : Value} {l m n : List Int}

set_option maxRecDepth 100000 in
set_option maxHeartbeats 8000000 in
theorem steps_h (ha : IR w (fun k => k < w.heap.size) a l) (x y : Int) : Calls Try.prog 9 #[a, .int .i64 x, .int .i64 y] w (SayPost (.bool true) w) := by
  have HA := Lib.hid (fun (W : World) (hF : Fr (fun _ => False) w W) => ha.low hF)
  obtain ⟨a, ca, rfl, hca1, hca2⟩ := ha.form
  clear ha
  go_enter Try.func9, Try.ntmps9
  go_wp2_with fail
  refine Calls.mono (shown_h w) ?_
  rintro e w1 ⟨rfl, hF1⟩
  have HF1 := Lib.hid hF1
  clear hF1
  by_cases hl : 20 < l.length
  · have d1 : decide (20 < (l.length : Int)) = true := by rw [decide_eq_true_iff]; omega
    go_wp2_with fail
    go_ret
    exact ⟨rfl, HF1.out⟩
  have d1 : decide (20 < (l.length : Int)) = false := by rw [decide_eq_false_iff_not]; omega
  have hwl : (togL l x).length ≤ l.length + 1 := tog_len_le l x
  have hol : (togL (togL l x) y).length ≤ (togL l x).length + 1 := tog_len_le _ y
  go_wp2_with fail
  clear d1
  refine Calls.mono (right_h (HA.out _ HF1.out) (by omega)) ?_
  rintro e w2 ⟨r1, N1, rfl, hr1, hw⟩
  have HF2 := Lib.hid (show Fr (fun _ => False) w w2 by rw [hw]; exact HF1.out.drewN N1)
  have HR1 := Lib.hid hr1
  clear hw hr1 HF1
  cases r1 with
  | false =>
    go_wp2_with fail
    refine Calls.mono (next_say (HA.out _ HF2.out) (HA.out _ HF2.out) (by omega) (by omega) (r := false) (by simp only [Bool.false_eq_true, false_iff]; exact next_self)) ?_
    rintro e w3 ⟨rfl, hF⟩
    have HF3 := Lib.hid (HF2.out.next hF)
    clear hF HF2
    go_wp2_with fail
    go_ret
    exact ⟨rfl, HF3.out⟩
  | true =>
    have hr : RightP l := HR1.out.1 rfl
    have HP := Lib.hid (And.intro (tog_next hr x) (And.intro (tog_two hr.2.2.1 (a := x) (b := y)) (fun e : x = y => show togL (togL l x) y = l by rw [← e]; exact tog_tog hr.2.2.1 x)))
    clear hr HR1
    go_wp2_with fail
    refine Calls.mono (with_h (HA.out _ HF2.out) (by omega) x) ?_
    rintro e w3 ⟨v1, rfl, h1, hF⟩
    have HF3 := Lib.hid (HF2.out.next hF)
    have H1 := Lib.hid h1
    clear hF h1 HF2
    go_wp2_with fail
    refine Calls.mono (chas_h (HA.out _ HF3.out) (by omega) x) ?_
    rintro e w3 ⟨rfl, rfl⟩
    cases hb : hasB l x
    case' true =>
      have HT := Lib.hid (show togL l x = withoutL l x by unfold togL; rw [if_pos hb])
      clear hb
      go_wp2_with fail
      refine Calls.mono (without_h (HA.out _ HF3.out) (by omega) x) ?_
      rintro e w4 ⟨v2, rfl, h2, hF⟩
      have HF4 := Lib.hid (HF3.out.next hF)
      have HM := Lib.hid (show IR w4 (fun _ => True) v2 (togL l x) by rw [HT.out]; exact h2.mono fun _ _ => trivial)
      clear hF h2 HF3 H1 HT
    case' false =>
      have HM := Lib.hid (show IR _ (fun _ => True) v1 (togL l x) by have := H1.out.mono (S' := fun _ => True) fun _ _ => trivial; unfold togL; rw [hb, if_neg (by simp)]; exact this)
      clear hb H1
      have HF4 := HF3
      clear HF3
      generalize w3 = w4 at *
      generalize v1 = v2 at *
    all_goals
      generalize togL l x = m at *
      have HMF := HM.out.form
      obtain ⟨am, cm, rfl, hcm1, hcm2⟩ := HMF
      go_wp2_with fail
      refine Calls.mono (with_h HM.out (by omega) y) ?_
      rintro e w5 ⟨v3, rfl, h3, hF⟩
      have HF5 := Lib.hid (HF4.out.next hF)
      have HM5 := Lib.hid (HM.out.grow hF)
      have H3 := Lib.hid h3
      clear hF h3 HF4 HM
      go_wp2_with fail
      refine Calls.mono (chas_h HM5.out (by omega) y) ?_
      rintro e w5 ⟨rfl, rfl⟩
      cases hb : hasB m y
      case' true =>
        have HT := Lib.hid (show togL m y = withoutL m y by unfold togL; rw [if_pos hb])
        clear hb
        go_wp2_with fail
        refine Calls.mono (without_h HM5.out (by omega) y) ?_
        rintro e w6 ⟨v4, rfl, h4, hF⟩
        have HF6 := Lib.hid (HF5.out.next hF)
        have HM6 := Lib.hid (HM5.out.grow hF)
        have HO6 := Lib.hid (show IR w6 (fun _ => True) v4 (togL m y) by rw [HT.out]; exact h4.mono fun _ _ => trivial)
        clear hF h4 HF5 H3 HT HM5
      case' false =>
        have HO6 := Lib.hid (show IR _ (fun _ => True) v3 (togL m y) by have := H3.out.mono (S' := fun _ => True) fun _ _ => trivial; unfold togL; rw [hb, if_neg (by simp)]; exact this)
        clear hb H3
        have HF6 := HF5
        have HM6 := HM5
        clear HF5 HM5
        generalize w5 = w6 at *
        generalize v3 = v4 at *
      all_goals
        generalize togL m y = o at *
        go_wp2_with fail
        refine Calls.mono (right_h HM6.out (by omega)) ?_
        rintro e w7 ⟨r2, N2, rfl, hr2, hw⟩
        have hF : Fr (fun _ => False) w6 w7 := by rw [hw]; exact (Fr.refl _ _).drewN N2
        have HF7 := Lib.hid (HF6.out.next hF)
        have HM7 := Lib.hid (HM6.out.grow hF)
        have HO7 := Lib.hid (HO6.out.grow hF)
        have HN := Lib.hid (hr2.trans HP.out.1.symm)
        clear hw hr2 hF HF6 HM6 HO6
        have b1 : (r2 == r2) = true := by simp
        go_wp2_with fail
        refine Calls.mono (next_say (HA.out _ HF7.out) HM7.out (by omega) (by omega) (r := r2) HN.out) ?_
        rintro e w8 ⟨rfl, hF⟩
        have HF8 := Lib.hid (HF7.out.next hF)
        have HM8 := Lib.hid (HM7.out.grow hF)
        have HO8 := Lib.hid (HO7.out.grow hF)
        clear hF HF7 HM7 HO7
        go_wp2_with fail
        refine Calls.mono (next_say HM8.out (HA.out _ HF8.out) (by omega) (by omega) (r := r2) (HN.out.trans next_comm)) ?_
        rintro e w9 ⟨rfl, hF⟩
        have HF9 := Lib.hid (HF8.out.next hF)
        have HO9 := Lib.hid (HO8.out.grow hF)
        clear hF HF8 HM8 HO8
        go_wp2_with fail
        refine Calls.mono (next_say (HA.out _ HF9.out) (HA.out _ HF9.out) (by omega) (by omega) (r := false) (by simp only [Bool.false_eq_true, false_iff]; exact next_self)) ?_
        rintro e w10 ⟨rfl, hF⟩
        have HF10 := Lib.hid (HF9.out.next hF)
        have HO10 := Lib.hid (HO9.out.grow hF)
        clear hF HF9 HO9 b1
        by_cases hxy : x = y
        · have d1 : (x == y) = true := by simpa using hxy
          have d2 : (x != y) = false := by simpa using hxy
          have heq := HP.out.2.2 hxy
          have hs := same_h (HA.out _ HF10.out) HO10.out (by omega) (by omega)
          rw [decide_eq_true heq.symm] at hs
          have HS := Lib.hid hs
          clear hxy heq hs
          go_wp2_with fail
          refine Calls.mono HS.out ?_
          rintro e w11 ⟨rfl, N3, hw⟩
          have HF11 := Lib.hid (show Fr (fun _ => False) w w11 by rw [hw]; exact HF10.out.drewN N3)
          clear hw HS HF10
          go_wp2_with fail
          go_ret
          exact ⟨rfl, HF11.out⟩
        · have d1 : (x == y) = false := by simpa using hxy
          have d2 : (x != y) = true := by simpa using hxy
          clear hxy
          go_wp2_with fail
          refine Calls.mono (next_say (HA.out _ HF10.out) HO10.out (by omega) (by omega) (r := false) (by simp only [Bool.false_eq_true, false_iff]; exact HP.out.2.1)) ?_
          rintro e w11 ⟨rfl, hF⟩
          have HF11 := Lib.hid (HF10.out.next hF)
          clear hF HF10
          go_wp2_with fail
          go_ret
          exact ⟨rfl, HF11.out⟩
end
end Go.Proofs.Ytnplikpjogoghaa
