/- The walk of the law ConfRows. -/
import Derived.Test.YtnplikpjogoghaaC7
import Derived.Test.YtnplikpjogoghaaX2
import Derived.Test.YtnplikpjogoghaaX3
import Derived.Test.YtnplikpjogoghaaV3
import Derived.Test.YtnplikpjogoghaaW1
import Derived.Test.YtnplikpjogoghaaW4
namespace Go.Proofs.Ytnplikpjogoghaa
open Go.RowKit Go.Lib

section
variable {w W : World} {S S' : Nat → Prop} {a b c : Value} {l m n : List Int}

theorem same_bool {r s : Bool} {P : Prop} (h : r = true ↔ P) (k : s = true ↔ P) : r = s := by
  cases r <;> cases s <;> simp_all

theorem IR.low (h : IR w (fun k => k < w.heap.size) a l) (hF : Fr (fun _ => False) w W) : IR W (fun k => k < W.heap.size) a l := (h.grow hF).mono fun _ hk => Nat.lt_of_lt_of_le hk hF.size

set_option maxRecDepth 100000 in
set_option maxHeartbeats 4000000 in
theorem rows_h (ha : IR w (fun k => k < w.heap.size) a l) (hb : IR w (fun k => k < w.heap.size) b m) (nd : Int) : Calls Try.prog 6 #[a, b, .int .i64 nd] w (SayPost (.bool true) w) := by
  have HA := Lib.hid (fun (W : World) (hF : Fr (fun _ => False) w W) => ha.low hF)
  have HB := Lib.hid (fun (W : World) (hF : Fr (fun _ => False) w W) => hb.low hF)
  obtain ⟨a, ca, rfl, hca1, hca2⟩ := ha.form
  obtain ⟨b, cb, rfl, hcb1, hcb2⟩ := hb.form
  clear ha hb
  go_enter Try.func6, Try.ntmps6
  go_wp2_with fail
  refine Calls.mono (shown_h w) ?_
  rintro e w1 ⟨rfl, hF1⟩
  have HF1 := Lib.hid hF1
  clear hF1
  by_cases hl : 60 < l.length
  · have d1 : decide (60 < (l.length : Int)) = true := by rw [decide_eq_true_iff]; omega
    go_wp2_with fail
    go_ret
    exact ⟨rfl, HF1.out⟩
  have d1 : decide (60 < (l.length : Int)) = false := by rw [decide_eq_false_iff_not]; omega
  by_cases hm : 60 < m.length
  · have d2 : decide (60 < (m.length : Int)) = true := by rw [decide_eq_true_iff]; omega
    go_wp2_with fail
    go_ret
    exact ⟨rfl, HF1.out⟩
  have d2 : decide (60 < (m.length : Int)) = false := by rw [decide_eq_false_iff_not]; omega
  have hwl : (withL l nd).length ≤ l.length + 1 := with_len_le l nd
  have hol : (withoutL l nd).length ≤ l.length := without_len_le l nd
  go_wp2_with fail
  refine Calls.mono (right_h (HA.out _ HF1.out) (by omega)) ?_
  rintro e w2 ⟨r1, N1, rfl, hr1, hw⟩
  have HF2 := Lib.hid (show Fr (fun _ => False) w w2 by rw [hw]; exact HF1.out.drewN N1)
  have HR1 := Lib.hid hr1
  clear hw hr1 HF1
  go_wp2_with fail
  refine Calls.mono (rright_h (HA.out _ HF2.out) (by omega)) ?_
  rintro e w3 ⟨r2, N2, rfl, hr2, hw⟩
  have HF3 := Lib.hid (show Fr (fun _ => False) w w3 by rw [hw]; exact HF2.out.drewN N2)
  obtain rfl : r1 = r2 := same_bool HR1.out hr2
  have b1 : (r1 == r1) = true := by simp
  clear hw hr2 HR1 HF2
  go_wp2_with fail
  refine Calls.mono (next_h (HA.out _ HF3.out) (HB.out _ HF3.out) (by omega) (by omega)) ?_
  rintro e w4 ⟨r3, rfl, hr3, hF⟩
  have HF4 := Lib.hid (HF3.out.next hF)
  have HR3 := Lib.hid hr3
  clear hF hr3 HF3 b1
  go_wp2_with fail
  refine Calls.mono (rnext_h (HA.out _ HF4.out) (HB.out _ HF4.out) (by omega) (by omega)) ?_
  rintro e w5 ⟨r4, rfl, hr4, hF⟩
  have HF5 := Lib.hid (HF4.out.next hF)
  obtain rfl : r3 = r4 := same_bool HR3.out hr4
  have b3 : (r3 == r3) = true := by simp
  clear hF hr4 HR3 HF4
  go_wp2_with fail
  refine Calls.mono (chas_h (HA.out _ HF5.out) (by omega) nd) ?_
  rintro e w6 ⟨rfl, rfl⟩
  go_wp2_with fail
  refine Calls.mono (rhas_h (HA.out _ HF5.out) (by omega) nd) ?_
  rintro e w6 ⟨rfl, rfl⟩
  have b4 : (hasB l nd == hasB l nd) = true := by simp
  generalize hasB l nd = hh at *
  go_wp2_with fail
  refine Calls.mono (with_h (HA.out _ HF5.out) (by omega) nd) ?_
  rintro e w6 ⟨v1, rfl, h1, hF⟩
  have HF6 := Lib.hid (HF5.out.next hF)
  have H1 := Lib.hid h1
  clear hF h1 HF5
  go_wp2_with fail
  refine Calls.mono (rwith_h (HA.out _ HF6.out) (by omega) nd) ?_
  rintro e w7 ⟨v2, rfl, h2, hF⟩
  have HF7 := Lib.hid (HF6.out.next hF)
  have hs := same_h (H1.out.grow hF) h2 (by omega) (by omega)
  rw [decide_eq_true rfl] at hs
  clear hF h2 HF6 H1
  go_wp2_with fail
  refine Calls.mono hs ?_
  rintro e w8 ⟨rfl, N3, hw⟩
  have HF8 := Lib.hid (show Fr (fun _ => False) w w8 by rw [hw]; exact HF7.out.drewN N3)
  clear hw hs HF7
  go_wp2_with fail
  refine Calls.mono (without_h (HA.out _ HF8.out) (by omega) nd) ?_
  rintro e w9 ⟨v3, rfl, h3, hF⟩
  have HF9 := Lib.hid (HF8.out.next hF)
  have H3 := Lib.hid h3
  clear hF h3 HF8
  go_wp2_with fail
  refine Calls.mono (rwithout_h (HA.out _ HF9.out) (by omega) nd) ?_
  rintro e w10 ⟨v4, rfl, h4, hF⟩
  have HF10 := Lib.hid (HF9.out.next hF)
  have hs := same_h (H3.out.grow hF) h4.ir (by omega) (by omega)
  rw [decide_eq_true rfl] at hs
  clear hF h4 HF9 H3
  go_wp2_with fail
  refine Calls.mono hs ?_
  rintro e w11 ⟨rfl, N4, hw⟩
  have HF11 := Lib.hid (show Fr (fun _ => False) w w11 by rw [hw]; exact HF10.out.drewN N4)
  clear hw hs HF10
  go_wp2_with fail
  go_ret
  exact ⟨rfl, HF11.out⟩
end
end Go.Proofs.Ytnplikpjogoghaa
