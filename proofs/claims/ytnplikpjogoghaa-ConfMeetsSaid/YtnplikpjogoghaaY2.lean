/- The walk of the law ConfMeets. -/
import Derived.Test.YtnplikpjogoghaaY0
import Derived.Test.YtnplikpjogoghaaY1
namespace Go.Proofs.Ytnplikpjogoghaa
open Go.RowKit Go.Lib

section
variable {w W : World} {S S' : Nat → Prop} {a b c : Value} {l m n : List Int}

set_option maxRecDepth 100000 in
set_option maxHeartbeats 8000000 in
theorem meets_h (ha : IR w (fun k => k < w.heap.size) a l) (hb : IR w (fun k => k < w.heap.size) b m) (hc : IR w (fun k => k < w.heap.size) c n) (nd : Int) : Calls Try.prog 7 #[a, b, c, .int .i64 nd] w (SayPost (.bool true) w) := by
  have HA := Lib.hid (fun (W : World) (hF : Fr (fun _ => False) w W) => ha.low hF)
  have HB := Lib.hid (fun (W : World) (hF : Fr (fun _ => False) w W) => hb.low hF)
  have HC := Lib.hid (fun (W : World) (hF : Fr (fun _ => False) w W) => hc.low hF)
  obtain ⟨a, ca, rfl, hca1, hca2⟩ := ha.form
  obtain ⟨b, cb, rfl, hcb1, hcb2⟩ := hb.form
  obtain ⟨c, cc, rfl, hcc1, hcc2⟩ := hc.form
  clear ha hb hc
  go_enter Try.func7, Try.ntmps7
  go_wp2_with fail
  refine Calls.mono (shown_h w) ?_
  rintro e w1 ⟨rfl, hF1⟩
  have HF1 := Lib.hid hF1
  clear hF1
  by_cases hl : 20 < l.length
  · have d1 : decide (20 < (l.length : Int)) = true := by rw [decide_eq_true_iff]; omega
    go_wp2_with fail
    go_ret
    exact ⟨rfl, HF1.out⟩
  have d1 : decide (20 < (l.length : Int)) = false := by rw [decide_eq_false_iff_not]; omega
  by_cases hm : 60 < m.length
  · have d2 : decide (60 < (m.length : Int)) = true := by rw [decide_eq_true_iff]; omega
    go_wp2_with fail
    go_ret
    exact ⟨rfl, HF1.out⟩
  have d2 : decide (60 < (m.length : Int)) = false := by rw [decide_eq_false_iff_not]; omega
  by_cases hn : 60 < n.length
  · have d3 : decide (60 < (n.length : Int)) = true := by rw [decide_eq_true_iff]; omega
    go_wp2_with fail
    go_ret
    exact ⟨rfl, HF1.out⟩
  have d3 : decide (60 < (n.length : Int)) = false := by rw [decide_eq_false_iff_not]; omega
  have hwl : (togL l nd).length ≤ l.length + 1 := tog_len_le l nd
  go_wp2_with fail
  refine Calls.mono (with_h (HA.out _ HF1.out) (by omega) nd) ?_
  rintro e w2 ⟨v1, rfl, h1, hF⟩
  have HF2 := Lib.hid (HF1.out.next hF)
  have H1 := Lib.hid h1
  clear hF h1 HF1
  go_wp2_with fail
  refine Calls.mono (chas_h (HA.out _ HF2.out) (by omega) nd) ?_
  rintro e w3 ⟨rfl, rfl⟩
  cases hb : hasB l nd
  case' true =>
    have HT := Lib.hid (show togL l nd = withoutL l nd by unfold togL; rw [if_pos hb])
    clear hb
    go_wp2_with fail
    refine Calls.mono (without_h (HA.out _ HF2.out) (by omega) nd) ?_
    rintro e w4 ⟨v2, rfl, h2, hF⟩
    have HF4 := Lib.hid (HF2.out.next hF)
    have HM := Lib.hid (show IR w4 (fun _ => True) v2 (togL l nd) by rw [HT.out]; exact h2.mono fun _ _ => trivial)
    clear hF h2 HF2 H1 HT
  case' false =>
    have HM := Lib.hid (show IR w2 (fun _ => True) v1 (togL l nd) by have := H1.out.mono (S' := fun _ => True) fun _ _ => trivial; unfold togL; rw [hb, if_neg (by simp)]; exact this)
    clear hb H1
    have HF4 := HF2
    clear HF2
    generalize w2 = w4 at *
    generalize v1 = v2 at *
  all_goals
    have HN := Lib.hid (fun h : RightP l => tog_next h nd)
    have HMM := Lib.hid (fun (h : NextP l (togL l nd)) (ha : l.length / 2 < cntB l m) (hb : (togL l nd).length / 2 < cntB (togL l nd) n) => next_meet h ha hb)
    generalize togL l nd = o at *
    go_wp2_with fail
    refine Calls.mono (right_h (HA.out _ HF4.out) (by omega)) ?_
    rintro e w5 ⟨r1, N1, rfl, hr1, hw⟩
    have hF : Fr (fun _ => False) w4 w5 := by rw [hw]; exact (Fr.refl _ _).drewN N1
    have HF5 := Lib.hid (HF4.out.next hF)
    have HM5 := Lib.hid (HM.out.grow hF)
    have HR1 := Lib.hid hr1
    clear hw hr1 HF4 HM hF
    go_wp2_with fail
    refine Calls.mono (right_h HM5.out (by omega)) ?_
    rintro e w6 ⟨r2, N2, rfl, hr2, hw⟩
    have hF : Fr (fun _ => False) w5 w6 := by rw [hw]; exact (Fr.refl _ _).drewN N2
    have HF6 := Lib.hid (HF5.out.next hF)
    have HM6 := Lib.hid (HM5.out.grow hF)
    have HR2 := Lib.hid hr2
    clear hw hr2 HF5 HM5 hF
    cases r1 with
    | false =>
      go_wp2_with fail
      go_ret
      exact ⟨rfl, HF6.out⟩
    | true =>
      cases r2 with
      | false =>
        go_wp2_with fail
        go_ret
        exact ⟨rfl, HF6.out⟩
      | true =>
        have hnx : NextP l o := (HN.out (HR1.out.1 rfl)).2 (HR2.out.1 rfl)
        have HNX := Lib.hid hnx
        clear hnx HN HR1 HR2
        go_wp2_with fail
        refine Calls.mono (next_say (HA.out _ HF6.out) HM6.out (by omega) (by omega) (r := true) (by simp only [true_iff]; exact HNX.out)) ?_
        rintro e w7 ⟨rfl, hF⟩
        have HF7 := Lib.hid (HF6.out.next hF)
        have HM7 := Lib.hid (HM6.out.grow hF)
        clear HF6 HM6 hF
        go_wp2_with fail
        refine Calls.mono (next_say HM7.out (HA.out _ HF7.out) (by omega) (by omega) (r := true) (by simp only [true_iff]; exact next_comm.1 HNX.out)) ?_
        rintro e w8 ⟨rfl, hF⟩
        have HF8 := Lib.hid (HF7.out.next hF)
        have HM8 := Lib.hid (HM7.out.grow hF)
        clear HF7 HM7 hF
        go_wp2_with fail
        refine Calls.mono (most_h (HA.out _ HF8.out) (HB.out _ HF8.out) (by omega) (by omega)) ?_
        rintro e w9 ⟨rfl, rfl⟩
        by_cases h1 : l.length / 2 < cntB l m
        · have HH1 := Lib.hid h1
          rw [decide_eq_true h1]
          clear h1
          have hm2 := most_h (HA.out _ HF8.out) (HC.out _ HF8.out) (by omega) (by omega)
          by_cases h2 : l.length / 2 < cntB l n
          · have HH2 := Lib.hid (most_meet HH1.out h2)
            rw [decide_eq_true h2] at hm2
            have hmt := meet_h (HA.out _ HF8.out) (HB.out _ HF8.out) (HC.out _ HF8.out) (by omega) (by omega) (by omega)
            rw [HH2.out] at hmt
            have HX := Lib.hid (And.intro hm2 hmt)
            clear h2 hm2 hmt
            go_wp2_with fail
            refine Calls.mono HX.out.1 ?_
            rintro e w9 ⟨rfl, rfl⟩
            go_wp2_with fail
            refine Calls.mono HX.out.2 ?_
            rintro e w9 ⟨rfl, rfl⟩
            have hm3 := most_h HM8.out (HC.out _ HF8.out) (by omega) (by omega)
            by_cases h3 : o.length / 2 < cntB o n
            · rw [decide_eq_true h3] at hm3
              have H3 := Lib.hid hm3
              clear h3 hm3
              go_wp2_with fail
              refine Calls.mono H3.out ?_
              rintro e w9 ⟨rfl, rfl⟩
              go_wp2_with fail
              refine Calls.mono HX.out.2 ?_
              rintro e w9 ⟨rfl, rfl⟩
              go_wp2_with fail
              go_ret
              exact ⟨rfl, HF8.out⟩
            · rw [decide_eq_false h3] at hm3
              have H3 := Lib.hid hm3
              clear h3 hm3
              go_wp2_with fail
              refine Calls.mono H3.out ?_
              rintro e w9 ⟨rfl, rfl⟩
              go_wp2_with fail
              go_ret
              exact ⟨rfl, HF8.out⟩
          · rw [decide_eq_false h2] at hm2
            have HX := Lib.hid hm2
            clear h2 hm2
            go_wp2_with fail
            refine Calls.mono HX.out ?_
            rintro e w9 ⟨rfl, rfl⟩
            have hm3 := most_h HM8.out (HC.out _ HF8.out) (by omega) (by omega)
            by_cases h3 : o.length / 2 < cntB o n
            · have hor := HMM.out HNX.out HH1.out h3
              rw [decide_eq_true h3] at hm3
              have H3 := Lib.hid hm3
              have hmt := meet_h (HA.out _ HF8.out) (HB.out _ HF8.out) (HC.out _ HF8.out) (by omega) (by omega) (by omega)
              have hmt2 := meet_h HM8.out (HB.out _ HF8.out) (HC.out _ HF8.out) (by omega) (by omega) (by omega)
              have HT1 := Lib.hid hmt
              have HT2 := Lib.hid hmt2
              clear h3 hm3 hmt hmt2
              generalize meetB l m n = x1 at *
              generalize meetB o m n = x2 at *
              go_wp2_with fail
              refine Calls.mono H3.out ?_
              rintro e w9 ⟨rfl, rfl⟩
              go_wp2_with fail
              refine Calls.mono HT1.out ?_
              rintro e w9 ⟨rfl, rfl⟩
              cases x1 with
              | true =>
                go_wp2_with fail
                go_ret
                exact ⟨rfl, HF8.out⟩
              | false =>
                obtain rfl : x2 = true := by simpa using hor
                clear hor
                go_wp2_with fail
                refine Calls.mono HT2.out ?_
                rintro e w9 ⟨rfl, rfl⟩
                go_wp2_with fail
                go_ret
                exact ⟨rfl, HF8.out⟩
            · rw [decide_eq_false h3] at hm3
              have H3 := Lib.hid hm3
              clear h3 hm3
              go_wp2_with fail
              refine Calls.mono H3.out ?_
              rintro e w9 ⟨rfl, rfl⟩
              go_wp2_with fail
              go_ret
              exact ⟨rfl, HF8.out⟩
        · rw [decide_eq_false h1]
          clear h1
          go_wp2_with fail
          go_ret
          exact ⟨rfl, HF8.out⟩
end
end Go.Proofs.Ytnplikpjogoghaa
