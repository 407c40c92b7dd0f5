/- The walk of the law XmlWrites. -/
import Derived.Test.YtpinjgdnhbogoaaGreatDoorQ5
import Derived.Test.YtpinjgdnhbogoaaGreatDoorLB
namespace Go.Proofs.YtpinjgdnhbogoaaGreatDoor
open Go.RowKit Go.Lib

theorem fits_tok {a : List TokD} (h : fitsA a = true) : ∀ x ∈ a, x.name.length ≤ 100 ∧ x.text.length ≤ 500 ∧ x.attrs.length ≤ 20 ∧ ∀ p ∈ x.attrs, p.1.length ≤ 100 ∧ p.2.length ≤ 300 := by
  intro x hx
  unfold fitsA at h
  simp only [Bool.and_eq_true, decide_eq_true_eq, Bool.not_eq_true', List.any_eq_false] at h
  have h2 := h.2 x hx
  unfold bigT at h2
  simp only [Bool.or_eq_true, decide_eq_true_eq, not_or, Bool.not_eq_true, List.any_eq_false] at h2
  refine ⟨by omega, by omega, by omega, fun p hp => ?_⟩
  have h3 := h2.2 p hp
  unfold bigA at h3
  rw [Bool.or_eq_false_iff, decide_eq_false_iff_not, decide_eq_false_iff_not] at h3
  omega
theorem attrs_small : ∀ l : List (Str × Str), (∀ p ∈ l, p.1.length ≤ 100 ∧ p.2.length ≤ 300) → (l.flatMap attrW).length ≤ 2000 * l.length
  | [], _ => Nat.zero_le _
  | p :: l, h => by
    have ih := attrs_small l fun q hq => h q (List.mem_cons_of_mem _ hq)
    have hp := h p List.mem_cons_self
    have he := esc_le p.2
    have e : (attrW p).length = 1 + p.1.length + 2 + (escL p.2).length + 1 := by unfold attrW; simp; omega
    rw [List.flatMap_cons, List.length_append, List.length_cons]
    omega
theorem tok_small {x : TokD} (h : x.name.length ≤ 100 ∧ x.text.length ≤ 500 ∧ x.attrs.length ≤ 20 ∧ ∀ p ∈ x.attrs, p.1.length ≤ 100 ∧ p.2.length ≤ 300) : (tokW x).length ≤ 50000 := by
  have ha := attrs_small x.attrs h.2.2.2
  have he := esc_le x.text
  unfold tokW
  split
  · simp only [List.length_cons, List.length_append, List.length_nil]; omega
  split
  · simp only [List.length_cons, List.length_append, List.length_nil]; omega
  split
  · omega
  · simp
theorem write_small : ∀ l : List TokD, (∀ x ∈ l, (tokW x).length ≤ 50000) → (writeL l).length ≤ 50000 * l.length
  | [], _ => Nat.zero_le _
  | x :: l, h => by
    have ih := write_small l fun q hq => h q (List.mem_cons_of_mem _ hq)
    have hx := h x List.mem_cons_self
    have e : writeL (x :: l) = tokW x ++ writeL l := rfl
    rw [e, List.length_append, List.length_cons]
    omega
set_option maxRecDepth 100000 in
set_option maxHeartbeats 16000000 in
theorem writes_h {w : World} (hE : Env w) {v : Value} {l : List TokD} (hv : TokV w (fun k => k < w.heap.size) v l) (s : Str) : Calls Tryz.prog 13 #[v, .string (bs s)] w fun e w' => e = .returned (.bool true) ∧ Fr (fun _ => False) w w' := by
  have hsz : (bs s).size = s.length := rfl
  have HS := Lib.hid (shown_h hE)
  have HV := Lib.hid (fun (W : World) (hF : Fr (fun _ => False) w W) => show TokV W (fun k => k < W.heap.size) v l from (hv.fr hF (fun _ _ h => h)).mono fun k h => Nat.lt_of_lt_of_le h hF.size)
  clear hE hv
  cases hfit : fitsA l with
  | false =>
    have HFit := Lib.hid hfit
    clear hfit
    go_enter Tryz.func13, Tryz.ntmps13
    go_wp2_with fail
    refine Calls.mono HS.out ?_
    rintro e w1 ⟨rfl, hF⟩
    have HF := Lib.hid hF
    clear hF
    go_wp2_with fail
    refine Calls.mono (as_h (HV.out _ HF.out)) ?_
    rintro e w2 ⟨u, bb, rfl, hbb, hR2, hF2⟩
    rw [HFit.out] at hbb
    subst hbb
    have HF2 := Lib.hid (HF.out.next hF2)
    clear hF2 hR2
    go_wp2_with fail
    go_ret
    exact ⟨rfl, HF2.out⟩
  | true =>
    have ht := fits_tok hfit
    have hl100 := (fits_len2 hfit).1
    have HFit := Lib.hid hfit
    have hwl := write_small l fun x hx => tok_small (ht x hx)
    have hwl2 : (writeL l).length ≤ 10000000 := by omega
    have HSm : Hid (∀ x ∈ l, (x.kind = 3 → x.text.length ≤ 1000000) ∧ (x.kind = 1 → ∀ p ∈ x.attrs, p.2.length ≤ 1000000)) := fun x hx => ⟨fun _ => by have := (ht x hx).2.1; omega, fun _ p hp => by have := ((ht x hx).2.2.2 p hp).2; omega⟩
    have HAt : Hid (∀ x ∈ l, x.attrs.length ≤ 1000000) := fun x hx => by have := (ht x hx).2.2.1; omega
    obtain ⟨t, htt⟩ : ∃ t, writeL l = t := ⟨_, rfl⟩
    have HW1 := Lib.hid (fun (W : World) (v : Value) (hv : TokV W (fun k => k < W.heap.size) v l) => write_h hv hwl2 HSm.out (by omega) HAt.out)
    have HW2 := Lib.hid (fun (W : World) (v : Value) (hv : TokV W (fun k => k < W.heap.size) v l) => rwrite_h hv hwl2 HSm.out (by omega) HAt.out)
    rw [htt] at HW1 HW2
    clear hfit ht hwl hwl2 htt
    by_cases hlong : 3000 < s.length
    · have hd : decide ((3000 : Int) < (s.length : Int)) = true := decide_eq_true (by omega)
      go_enter Tryz.func13, Tryz.ntmps13
      go_wp2_with fail
      refine Calls.mono HS.out ?_
      rintro e w1 ⟨rfl, hF⟩
      have HF := Lib.hid hF
      clear hF
      go_wp2_with fail
      refine Calls.mono (as_h (HV.out _ HF.out)) ?_
      rintro e w2 ⟨u, bb, rfl, hbb, hR2, hF2⟩
      rw [HFit.out] at hbb
      subst hbb
      have HF2 := Lib.hid (HF.out.next hF2)
      clear hF2 hR2
      go_wp2_with fail
      go_ret
      exact ⟨rfl, HF2.out⟩
    · have hd : decide ((3000 : Int) < (s.length : Int)) = false := decide_eq_false (by omega)
      have HE38 := Lib.hid (fun (W' : World) => escape_h (w := W') s (by omega))
      have HE53 := Lib.hid (fun (W' : World) => rescape_h (w := W') s (by omega))
      have hee : ((bs t).toList == (bs t).toList) = true := by simp
      have hee2 : ((bs (escL s)).toList == (bs (escL s)).toList) = true := by simp
      clear hlong
      go_enter Tryz.func13, Tryz.ntmps13
      go_wp2_with fail
      refine Calls.mono HS.out ?_
      rintro e w1 ⟨rfl, hF⟩
      have HF := Lib.hid hF
      clear hF
      go_wp2_with fail
      refine Calls.mono (as_h (HV.out _ HF.out)) ?_
      rintro e w2 ⟨u, bb, rfl, hbb, hR2, hF2⟩
      rw [HFit.out] at hbb
      subst hbb
      have HF2 := Lib.hid (HF.out.next hF2)
      have HU := Lib.hid (hR2 rfl)
      clear hF2 hR2
      go_wp2_with fail
      refine Calls.mono (HW1.out _ _ (HV.out _ HF2.out)) ?_
      rintro e w3 ⟨rfl, hF3⟩
      have HF3 := Lib.hid (HF2.out.next hF3)
      have HU3 := Lib.hid (HU.out.fr hF3)
      clear hF3
      go_wp2_with fail
      refine Calls.mono (HW2.out _ _ (HU3.out.view.mono fun _ h => h.2)) ?_
      rintro e w4 ⟨rfl, hF4⟩
      have HF4 := Lib.hid (HF3.out.next hF4)
      clear hF4
      go_wp2_with fail
      refine Calls.mono (HE38.out _) ?_
      rintro e w5 ⟨rfl, hF5⟩
      have HF5 := Lib.hid (HF4.out.next hF5)
      clear hF5
      go_wp2_with fail
      refine Calls.mono (HE53.out _) ?_
      rintro e w6 ⟨rfl, hF6⟩
      have HF6 := Lib.hid (HF5.out.next hF6)
      clear hF6
      go_wp2_with fail
      go_ret
      exact ⟨rfl, HF6.out⟩
end Go.Proofs.YtpinjgdnhbogoaaGreatDoor
