/- The walk of the law ConfTurns. -/
import Derived.Test.YtnplikpjogoghaaY1
import Derived.Test.YtnplikpjogoghaaG1
namespace Go.Proofs.Ytnplikpjogoghaa
open Go.RowKit Go.Lib

section
variable {w W : World} {S S' : Nat → Prop} {a b c : Value} {l m n : List Int}

theorem len_beq {p q : Nat} (h : p = q) : ((p : Int) == (q : Int)) = true := by rw [h]; simp

set_option maxRecDepth 100000 in
set_option maxHeartbeats 8000000 in
theorem turns_h (ha : IR w (fun k => k < w.heap.size) a l) (nd : Int) : Calls Try.prog 8 #[a, .int .i64 nd] w (SayPost (.bool true) w) := by
  have HA := Lib.hid (fun (W : World) (hF : Fr (fun _ => False) w W) => ha.low hF)
  obtain ⟨a, ca, rfl, hca1, hca2⟩ := ha.form
  clear ha
  go_enter Try.func8, Try.ntmps8
  go_wp2_with fail
  refine Calls.mono (shown_h w) ?_
  rintro e w1 ⟨rfl, hF1⟩
  have HF1 := Lib.hid hF1
  clear hF1
  by_cases hl : 60 < l.length
  · have d1 : decide (60 < (l.length : Int)) = true := by rw [decide_eq_true_iff]; omega
    go_wp2_with fail
    go_ret
    exact ⟨rfl, HF1.out⟩
  have d1 : decide (60 < (l.length : Int)) = false := by rw [decide_eq_false_iff_not]; omega
  go_wp2_with fail
  clear d1
  go_loopg [6] (l.length + 1) (fun j v wr => ∃ k N : Nat, k + 1 + j = l.length + 1 + 1 ∧ v = .int .i64 ((k : Int) + 1) ∧ RiseTo l (k + 1) ∧ wr = w1.drewN N)
  case atStart => exact ⟨0, 0, by omega, rfl, fun i p q h => by omega, rfl⟩
  case round =>
    obtain ⟨k, N, hk, rfl, ht, rfl⟩ := hrel
    have HK := Lib.hid (And.intro hk ht)
    clear hk ht
    by_cases hlt : k + 1 < l.length
    · have hlI : (k : Int) + 1 < (l.length : Int) := by omega
      obtain ⟨g, off, rfl, hcs⟩ := (HA.out _ HF1.out).cells (by omega)
      obtain ⟨p, hp⟩ : ∃ p, l[k]? = some p := ⟨_, List.getElem?_eq_getElem (by omega)⟩
      obtain ⟨q, hq⟩ : ∃ p, l[k + 1]? = some p := ⟨_, List.getElem?_eq_getElem hlt⟩
      have c1 := hcs k p hp
      have c2 := hcs (k + 1) q hq
      have HP := Lib.hid (And.intro hp hq)
      clear hcs hp hq
      by_cases he : p < q
      · have d1 : decide (q ≤ p) = false := by simpa using he
        go_wp2_with fail
        go_quiet (fail)
        go_wp2_with fail
        go_roundg (l.length - k)
        case measure => have := HK.out; omega
        case rel => exact ⟨k + 1, _, by omega, by go_num, rise_next HK.out.2 HP.out.1 HP.out.2 he, rfl⟩
      · have d1 : decide (q ≤ p) = true := by simpa using he
        go_wp2_with fail
        go_quiet (fail)
        go_wp2_with fail
        go_ret
        exact ⟨rfl, (HF1.out.drewN N).drewN _⟩
    · have hlI : (l.length : Int) ≤ (k : Int) + 1 := by omega
      have hris : Rises l := rise_full HK.out.2 (by omega)
      have HR := Lib.hid hris
      have hwl : (withL l nd).length ≤ l.length + 1 := with_len_le l nd
      have hol : (withoutL l nd).length ≤ l.length := without_len_le l nd
      clear hris
      have HF2 := Lib.hid (HF1.out.drewN N)
      generalize w1.drewN N = w2 at *
      clear HF1 HK
      go_wp2_with fail
      refine Calls.mono (chas_h (HA.out _ HF2.out) (by omega) nd) ?_
      rintro e w3 ⟨rfl, rfl⟩
      generalize hb : hasB l nd = hh
      have HB := Lib.hid hb
      clear hb
      go_wp2_with fail
      refine Calls.mono (with_h (HA.out _ HF2.out) (by omega) nd) ?_
      rintro e w3 ⟨v1, rfl, h1, hF⟩
      have HF3 := Lib.hid (HF2.out.next hF)
      have H1 := Lib.hid (h1.mono (S' := fun _ => True) fun _ _ => trivial)
      clear hF h1 HF2
      go_wp2_with fail
      refine Calls.mono (without_h (HA.out _ HF3.out) (by omega) nd) ?_
      rintro e w4 ⟨v2, rfl, h2, hF⟩
      have HF4 := Lib.hid (HF3.out.next hF)
      have H2 := Lib.hid (h2.mono (S' := fun _ => True) fun _ _ => trivial)
      have H14 := Lib.hid (H1.out.grow hF)
      clear hF h2 HF3 H1
      obtain ⟨a1, c1, rfl, hx1, hx2⟩ := H14.out.form
      obtain ⟨a2, c2, rfl, hx3, hx4⟩ := H2.out.form
      go_wp2_with fail
      go_loopg [10] ((withL l nd).length + 1) (fun j v wr => ∃ k N : Nat, k + 1 + j = (withL l nd).length + 1 + 1 ∧ v = .int .i64 ((k : Int) + 1) ∧ wr = w4.drewN N)
      case atStart => exact ⟨0, 0, by omega, rfl, rfl⟩
      case round =>
        obtain ⟨k, N2, hk, rfl, rfl⟩ := hrel
        have HK := Lib.hid hk
        clear hk hlI hlt
        by_cases hlt : k + 1 < (withL l nd).length
        · have hlI : (k : Int) + 1 < ((withL l nd).length : Int) := by omega
          obtain ⟨g, off, rfl, hcs⟩ := H14.out.cells (by omega)
          obtain ⟨p, hp⟩ : ∃ p, (withL l nd)[k]? = some p := ⟨_, List.getElem?_eq_getElem (by omega)⟩
          obtain ⟨q, hq⟩ : ∃ p, (withL l nd)[k + 1]? = some p := ⟨_, List.getElem?_eq_getElem hlt⟩
          have c1 := hcs k p hp
          have c2 := hcs (k + 1) q hq
          have he : p < q := with_rises HR.out nd k p q hp hq
          clear hcs hp hq
          have d1 : decide (q ≤ p) = false := by simpa using he
          go_wp2_with fail
          go_quiet (fail)
          go_wp2_with fail
          go_roundg ((withL l nd).length - k)
          case measure => have := HK.out; omega
          case rel => exact ⟨k + 1, _, by omega, by go_num, rfl⟩
        · have hlI : ((withL l nd).length : Int) ≤ (k : Int) + 1 := by omega
          have hF : Fr (fun _ => False) w4 (w4.drewN N2) := (Fr.refl _ _).drewN N2
          have HF5 := Lib.hid (HF4.out.next hF)
          have HM := Lib.hid (H14.out.grow hF)
          have HO := Lib.hid (H2.out.grow hF)
          clear HF4 H14 H2 hF HK
          generalize w4.drewN N2 = w5 at *
          cases hh with
          | true =>
            have he : withL l nd = l := with_has HB.out
            have hw : withL (withoutL l nd) nd = l := with_without HR.out HB.out
            have hlen := without_len HR.out HB.out
            have HE := Lib.hid (And.intro he hw)
            have hs := same_h HM.out (HA.out _ HF5.out) (by omega) (by omega)
            rw [decide_eq_true he] at hs
            have HS := Lib.hid hs
            have b1 : (((withoutL l nd).length : Int) == (l.length : Int) - 1) = true := by rw [beq_iff_eq]; omega
            clear hw hs he hlen
            go_wp2_with fail
            refine Calls.mono HS.out ?_
            rintro e w6 ⟨rfl, N3, hw⟩
            have hF : Fr (fun _ => False) w5 w6 := by rw [hw]; exact (Fr.refl _ _).drewN N3
            have HF6 := Lib.hid (HF5.out.next hF)
            have HO6 := Lib.hid (HO.out.grow hF)
            clear hw hF HF5 HO HS HM
            go_wp2_with fail
            have HQ := Lib.hid (with_h (HO6.out.mono (S' := fun _ => True) fun _ _ => trivial) (by omega) nd)
            refine Calls.mono HQ.out ?_
            rintro e w7 ⟨v3, rfl, h3, hF⟩
            rw [HE.out.2] at h3
            have HF7 := Lib.hid (HF6.out.next hF)
            have hs := same_h h3 (HA.out _ HF7.out) (by omega) (by omega)
            rw [decide_eq_true rfl] at hs
            have HS := Lib.hid hs
            clear hs h3 hF HF6 HQ
            go_wp2_with fail
            refine Calls.mono HS.out ?_
            rintro e w8 ⟨rfl, N4, hw⟩
            have HF8 := Lib.hid (show Fr (fun _ => False) w w8 by rw [hw]; exact HF7.out.drewN N4)
            clear hw HS HF7
            go_wp2_with fail
            go_ret
            exact ⟨rfl, HF8.out⟩
          | false =>
            have he : withoutL l nd = l := without_no HB.out
            have hw : withoutL (withL l nd) nd = l := without_with HR.out HB.out
            have hlen := with_len HB.out
            have HE := Lib.hid (And.intro he hw)
            have hs := same_h HO.out (HA.out _ HF5.out) (by omega) (by omega)
            rw [decide_eq_true he] at hs
            have HS := Lib.hid hs
            have b1 : (((withL l nd).length : Int) == (l.length : Int) + 1) = true := by rw [beq_iff_eq]; omega
            clear hw hs he hlen
            go_wp2_with fail
            refine Calls.mono HS.out ?_
            rintro e w6 ⟨rfl, N3, hw⟩
            have hF : Fr (fun _ => False) w5 w6 := by rw [hw]; exact (Fr.refl _ _).drewN N3
            have HF6 := Lib.hid (HF5.out.next hF)
            have HM6 := Lib.hid (HM.out.grow hF)
            clear hw hF HF5 HO HS HM
            go_wp2_with fail
            have HQ := Lib.hid (without_h HM6.out (by omega) nd)
            refine Calls.mono HQ.out ?_
            rintro e w7 ⟨v3, rfl, h3, hF⟩
            rw [HE.out.2] at h3
            have HF7 := Lib.hid (HF6.out.next hF)
            have hs := same_h h3 (HA.out _ HF7.out) (by omega) (by omega)
            rw [decide_eq_true rfl] at hs
            have HS := Lib.hid hs
            clear hs h3 hF HF6 HQ
            go_wp2_with fail
            refine Calls.mono HS.out ?_
            rintro e w8 ⟨rfl, N4, hw⟩
            have HF8 := Lib.hid (show Fr (fun _ => False) w w8 by rw [hw]; exact HF7.out.drewN N4)
            clear hw HS HF7
            go_wp2_with fail
            go_ret
            exact ⟨rfl, HF8.out⟩
end
end Go.Proofs.Ytnplikpjogoghaa
