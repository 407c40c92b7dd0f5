/- The walk of the reference's Next. -/
import Derived.Test.YtnplikpjogoghaaX1
namespace Go.Proofs.Ytnplikpjogoghaa
open Go.RowKit Go.Lib

section
variable {w : World} {S S' : Nat → Prop} {a b : Value} {l m : List Int}

set_option maxHeartbeats 4000000 in
theorem rnext_h (ha : IR w S a l) (hb : IR w S' b m) (hl : l.length < 1000000) (hm : m.length < 1000000) : Calls Try.prog 19 #[a, b] w (NextPost l m w) := by
  have HR1 := Lib.hid (rright_h ha hl)
  have HR2 := Lib.hid (fun N => rright_h (hb.drewN N) hm)
  have HH := Lib.hid (fun N n => rhas_h (hb.drewN N) hm n)
  have HA := Lib.hid (fun N => ha.drewN N)
  obtain ⟨a, ca, rfl, hca1, hca2⟩ := ha.form
  obtain ⟨b, cb, rfl, hcb1, hcb2⟩ := hb.form
  clear ha hb
  go_enter Try.func19, Try.ntmps19
  go_wp2_with fail
  refine Calls.mono HR1.out ?_
  rintro e w1 ⟨r1, N1, rfl, hr1, rfl⟩
  have HP1 := Lib.hid hr1
  clear hr1
  go_wp2_with fail
  refine Calls.mono (HR2.out N1) ?_
  rintro e w1 ⟨r2, N2, rfl, hr2, hw⟩
  have HP2 := Lib.hid hr2
  obtain ⟨N, hN⟩ : ∃ N, w1 = w.drewN N := ⟨_, hw.trans (World.drewN_drewN _ _ _)⟩
  subst hN
  clear hr2 hw
  have HF := Lib.hid ((Fr.refl (fun _ => False) w).drewN N)
  cases r1 with
  | false =>
    go_wp2_with fail
    go_ret
    exact ⟨false, rfl, by simp only [Bool.false_eq_true, false_iff]; exact fun h => absurd (HP1.out.2 h.1) (by simp), HF.out⟩
  | true =>
    cases r2 with
    | false =>
      go_wp2_with fail
      go_ret
      exact ⟨false, rfl, by simp only [Bool.false_eq_true, false_iff]; exact fun h => absurd (HP2.out.2 h.2.1) (by simp), HF.out⟩
    | true =>
      have HN := Lib.hid (next_iff (HP1.out.1 rfl) (HP2.out.1 rfl))
      go_wp2_with fail
      go_loopg [7, 8] (l.length) (fun j v x wr => ∃ k n : Nat, k + j = l.length ∧ v = .int .i64 n ∧ x = .int .i64 k ∧ n = cntB (l.take k) m ∧ w.drewN N = wr)
      case atStart => exact ⟨0, 0, by omega, rfl, rfl, rfl, rfl⟩
      case round =>
        obtain ⟨k, n, hk, rfl, rfl, hn, rfl⟩ := hrel
        have hn0 : n ≤ l.length := by rw [hn]; exact Nat.le_trans (cnt_le _ _) (by rw [List.length_take]; omega)
        have HK := Lib.hid (And.intro hk hn)
        clear hk hn
        by_cases hlt : k < l.length
        · obtain ⟨g, off, rfl, hc⟩ := (HA.out N).cells (by omega)
          obtain ⟨p, hp⟩ : ∃ p, l[k]? = some p := ⟨_, List.getElem?_eq_getElem hlt⟩
          have c1 := hc k p hp
          have HP := Lib.hid (cnt_next (yes := m) hp)
          clear hc hp
          go_wp2_with fail
          refine Calls.mono (HH.out N p) ?_
          rintro e w' ⟨rfl, rfl⟩
          cases hB : hasB m p with
          | true =>
            have HQ := Lib.hid hB
            clear hB
            go_wp2_with fail
            go_roundg (l.length - (k + 1))
            case measure => have := HK.out; omega
            case rel => exact ⟨k + 1, n + 1, by omega, by go_num, by go_num, by rw [HP.out, HQ.out, if_pos rfl, HK.out.2], rfl⟩
          | false =>
            have HQ := Lib.hid hB
            clear hB
            go_wp2_with fail
            go_roundg (l.length - (k + 1))
            case measure => have := HK.out; omega
            case rel => exact ⟨k + 1, n, by omega, by go_num, by go_num, by rw [HP.out, HQ.out, if_neg (by simp), HK.out.2]; rfl, rfl⟩
        · have HE := Lib.hid (show n = cntB l m by have := HK.out.2; rwa [List.take_of_length_le (by omega)] at this)
          by_cases h1 : m.length = l.length + 1
          · have d1 : ((m.length : Int) == (l.length : Int) + 1) = true := by rw [beq_iff_eq]; omega
            have d2 : ((m.length : Int) == (l.length : Int) - 1) = false := by rw [beq_eq_false_iff_ne]; omega
            have H1 := Lib.hid h1
            clear h1
            by_cases h3 : n = l.length
            · have d3 : ((n : Int) == (l.length : Int)) = true := by rw [beq_iff_eq]; omega
              have d4 : (n == l.length) = true := by rw [beq_iff_eq]; omega
              have H3 := Lib.hid h3
              clear h3
              go_wp2_with fail
              go_ret
              exact ⟨true, rfl, by rw [HN.out]; exact ⟨fun _ => .inl ⟨H1.out, by rw [← HE.out]; exact H3.out⟩, fun _ => rfl⟩, HF.out⟩
            · have d3 : ((n : Int) == (l.length : Int)) = false := by rw [beq_eq_false_iff_ne]; omega
              have d4 : (n == l.length) = false := by rw [beq_eq_false_iff_ne]; omega
              have H3 := Lib.hid h3
              clear h3
              go_wp2_with fail
              go_ret
              exact ⟨false, rfl, by rw [HN.out]; simp only [Bool.false_eq_true, false_iff]; rintro (⟨_, h⟩ | ⟨h, _⟩); exact H3.out (by rw [HE.out]; exact h); have := H1.out; omega, HF.out⟩
          · have d1 : ((m.length : Int) == (l.length : Int) + 1) = false := by rw [beq_eq_false_iff_ne]; omega
            have H1 := Lib.hid h1
            clear h1
            by_cases h2 : l.length = m.length + 1
            · have d2 : ((m.length : Int) == (l.length : Int) - 1) = true := by rw [beq_iff_eq]; omega
              have H2 := Lib.hid h2
              clear h2
              by_cases h3 : n = m.length
              · have d3 : ((n : Int) == (m.length : Int)) = true := by rw [beq_iff_eq]; omega
                have d4 : (n == m.length) = true := by rw [beq_iff_eq]; omega
                have H3 := Lib.hid h3
                clear h3
                go_wp2_with fail
                go_ret
                exact ⟨true, rfl, by rw [HN.out]; exact ⟨fun _ => .inr ⟨H2.out, by rw [← HE.out]; exact H3.out⟩, fun _ => rfl⟩, HF.out⟩
              · have d3 : ((n : Int) == (m.length : Int)) = false := by rw [beq_eq_false_iff_ne]; omega
                have d4 : (n == m.length) = false := by rw [beq_eq_false_iff_ne]; omega
                have H3 := Lib.hid h3
                clear h3
                go_wp2_with fail
                go_ret
                exact ⟨false, rfl, by rw [HN.out]; simp only [Bool.false_eq_true, false_iff]; rintro (⟨h, _⟩ | ⟨_, h⟩); exact H1.out h; exact H3.out (by rw [HE.out]; exact h), HF.out⟩
            · have d2 : ((m.length : Int) == (l.length : Int) - 1) = false := by rw [beq_eq_false_iff_ne]; omega
              have H2 := Lib.hid h2
              clear h2
              go_wp2_with fail
              go_ret
              exact ⟨false, rfl, by rw [HN.out]; simp only [Bool.false_eq_true, false_iff]; rintro (⟨h, _⟩ | ⟨h, _⟩); exact H1.out h; exact H2.out h, HF.out⟩
end
end Go.Proofs.Ytnplikpjogoghaa
