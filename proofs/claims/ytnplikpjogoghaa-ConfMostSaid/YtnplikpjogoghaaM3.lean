/- The walk of the law ConfMost. -/
import Derived.Test.YtnplikpjogoghaaM2
import Derived.Test.YtnplikpjogoghaaC7
namespace Go.Proofs.Ytnplikpjogoghaa
open Go.RowKit Go.Lib

section
variable {w : World} {S S' S'' : Nat → Prop} {a b c : Value} {l m n : List Int}

set_option maxHeartbeats 2000000 in
theorem confmost_h (ha : IR w S a l) (hb : IR w S' b m) (hc : IR w S'' c n) : Calls Try.prog 3 #[a, b, c] w (SayPost (.bool true) w) := by
  obtain ⟨a, ca, rfl, hca1, hca2⟩ := ha.form
  obtain ⟨b, cb, rfl, hcb1, hcb2⟩ := hb.form
  obtain ⟨c, cc, rfl, hcc1, hcc2⟩ := hc.form
  go_enter Try.func3, Try.ntmps3
  go_wp2_with fail
  refine Calls.mono (shown_h w) ?_
  rintro e w1 ⟨rfl, hF1⟩
  have HF1 := Lib.hid hF1
  clear hF1
  by_cases hl : 60 < l.length
  · have d1 : decide (60 < (l.length : Int)) = true := by rw [decide_eq_true_iff]; omega
    go_wp2_with fail
    go_ret
    exact ⟨rfl, HF1.out⟩
  have d1 : decide (60 < (l.length : Int)) = false := by rw [decide_eq_false_iff_not]; omega
  by_cases hm : 60 < m.length
  · have d2 : decide (60 < (m.length : Int)) = true := by rw [decide_eq_true_iff]; omega
    go_wp2_with fail
    go_ret
    exact ⟨rfl, HF1.out⟩
  have d2 : decide (60 < (m.length : Int)) = false := by rw [decide_eq_false_iff_not]; omega
  by_cases hn : 60 < n.length
  · have d3 : decide (60 < (n.length : Int)) = true := by rw [decide_eq_true_iff]; omega
    go_wp2_with fail
    go_ret
    exact ⟨rfl, HF1.out⟩
  have d3 : decide (60 < (n.length : Int)) = false := by rw [decide_eq_false_iff_not]; omega
  go_wp2_with fail
  clear d1 d2 d3
  have HL := Lib.hid (And.intro hl (And.intro hm hn))
  clear hl hm hn
  refine Calls.mono (most_h (ha.grow HF1.out) (hb.grow HF1.out) (by have := HL.out; omega) (by have := HL.out; omega)) ?_
  rintro e w2 ⟨rfl, rfl⟩
  go_wp2_with fail
  refine Calls.mono (rmost_h (ha.grow HF1.out) (hb.grow HF1.out) (by have := HL.out; omega) (by have := HL.out; omega)) ?_
  rintro e w2 ⟨rfl, rfl⟩
  generalize decide (l.length / 2 < cntB l m) = r
  cases r with
  | false =>
    go_wp2_with fail
    refine Calls.mono (agreed_h (hc.grow HF1.out) (by have := HL.out; omega)) ?_
    rintro e w3 ⟨rfl, hF⟩
    have HF3 := Lib.hid (HF1.out.next hF)
    clear hF
    go_wp2_with fail
    refine Calls.mono (ragreed_h (hc.grow HF3.out) (by have := HL.out; omega)) ?_
    rintro e w4 ⟨best, found, N, rfl, hbest, rfl⟩
    obtain rfl := best_agreed hbest
    clear hbest
    go_wp2_with fail
    go_ret
    exact ⟨by simp, HF3.out.drewN N⟩
  | true =>
    go_wp2_with fail
    refine Calls.mono (agreed_h (hc.grow HF1.out) (by have := HL.out; omega)) ?_
    rintro e w3 ⟨rfl, hF⟩
    have HF3 := Lib.hid (HF1.out.next hF)
    clear hF
    go_wp2_with fail
    refine Calls.mono (ragreed_h (hc.grow HF3.out) (by have := HL.out; omega)) ?_
    rintro e w4 ⟨best, found, N, rfl, hbest, rfl⟩
    obtain rfl := best_agreed hbest
    clear hbest
    go_wp2_with fail
    go_ret
    exact ⟨by simp, HF3.out.drewN N⟩
end
end Go.Proofs.Ytnplikpjogoghaa
