/- The reference's Right: walked. -/
import Derived.Test.YtgmghopcppniaaaGreatDoorR2
import Derived.Test.YtgmghopcppniaaaGreatDoorS13
namespace Go.Proofs.YtgmghopcppniaaaGreatDoor
open Go.RowKit Go.Lib

set_option maxRecDepth 100000 in
set_option maxHeartbeats 8000000 in
theorem rright_h {w : World} {S : Nat → Prop} {b : BaseD} {v : Value} (h : BaseIn w S b v) : Calls Tryz.prog 23 #[baseV b v] w (RightPost b w) := by
  obtain ⟨hrow, hnums, hidx, htrm, hdat⟩ := h
  obtain ⟨a, cap, rfl, hcap, hcap2⟩ := hrow.form
  unfold baseV
  obtain ⟨w1, hw1⟩ : ∃ w1, w1 = w.alloc (.cells #[.int .i64 b.index, .int .i64 b.term, .slice a b.voters.length cap, .string (bs b.data)] 24) := ⟨_, rfl⟩
  have HF : Hid (Fr (fun _ => False) w w1) := by show Fr _ _ _; rw [hw1]; exact (Fr.refl _ _).alloc _
  have hB : w1.heap[w.heap.size]? = some (.cells #[.int .i64 b.index, .int .i64 b.term, .slice a b.voters.length cap, .string (bs b.data)] 24 (0, 0)) := by rw [hw1]; exact block_new _ _
  have x0 := cell_of hB (i := 0) (v := .int .i64 b.index) rfl
  have x1 := cell_of hB (i := 1) (v := .int .i64 b.term) rfl
  have x2 := cell_of hB (i := 2) (v := .slice a b.voters.length cap) rfl
  have x3 := cell_of hB (i := 3) (v := .string (bs b.data)) rfl
  have HR := Lib.hid (hrow.grow HF.out)
  have HN := Lib.hid hnums
  have hln : (bs b.data).size = b.data.length := rfl
  clear hrow hnums hB
  go_enter Tryz.func23, Tryz.ntmps23
  go_wp2_with fail
  rw [← hw1]
  clear hw1
  go_loopg [3] (b.voters.length) (fun j v3 wr => ∃ (i p : Nat) (last : Int), i + j = b.voters.length ∧ v3 = .int .i64 (i : Int) ∧ w1.drewN p = wr ∧ Hid (upL 0 b.voters = upL last (b.voters.drop i)) ∧ 0 ≤ last ∧ last ≤ 9 ∧ Hid ((i = 0 ∧ last = 0) ∨ (0 < i ∧ b.voters[i - 1]? = some last)))
  case atStart => exact ⟨0, 0, 0, by omega, rfl, rfl, rfl, by omega, by omega, Or.inl ⟨rfl, rfl⟩⟩
  case round =>
    obtain ⟨i, p, last, hi, rfl, rfl, HU, hl0, hl9, HP⟩ := hrel
    have HX := Lib.hid hi
    clear hi
    by_cases hlt : i < b.voters.length
    · obtain ⟨n, hn⟩ : ∃ n, b.voters[i]? = some n := ⟨_, List.getElem?_eq_getElem hlt⟩
      obtain ⟨g, off, rfl, hc⟩ := HR.out.cells (by omega)
      have c0 := hc i n hn
      have HC := Lib.hid (upL_at last hn)
      have hnI := HN.out n (List.mem_of_getElem? hn)
      unfold I64 at hnI
      have HNN := Lib.hid hn
      have HNO : Hid (¬ (last < n ∧ n ≤ 9) → rightB b = false) := by
        intro hv
        have e1 : upL last (b.voters.drop i) = false := by
          rw [HC.out]
          rcases Decidable.not_and_iff_not_or_not.1 hv with h1 | h1
          · rw [decide_eq_false h1]; rfl
          · rw [decide_eq_false h1, Bool.and_false]; rfl
        rw [right_rest, HU.out, e1]; rfl
      have HGO : Hid (last < n ∧ n ≤ 9 → upL 0 b.voters = upL n (b.voters.drop (i + 1))) := by
        intro hv
        rw [HU.out, HC.out, decide_eq_true hv.1, decide_eq_true hv.2]; rfl
      have HCC := Lib.hid hc
      clear hc hn HC
      by_cases q1 : n < 1
      · have d1 : decide (n < 1) = true := decide_eq_true q1
        have HE := Lib.hid (HNO.out (by omega))
        go_wp2_with fail
        go_big_quiet (fail)
        go_wp2_with fail
        go_ret
        exact right_no HE.out ((HF.out.drewN _).drewN _)
      · have d1 : decide (n < 1) = false := decide_eq_false q1
        by_cases q2 : 9 < n
        · have d2 : decide (9 < n) = true := decide_eq_true q2
          have HE := Lib.hid (HNO.out (by omega))
          go_wp2_with fail
          go_big_quiet (fail)
          go_wp2_with fail
          go_ret
          exact right_no HE.out ((HF.out.drewN _).drewN _)
        · have d2 : decide (9 < n) = false := decide_eq_false q2
          by_cases q3 : i = 0
          · have hl00 : last = 0 := by rcases HP.out with h | h; exact h.2; omega
            have d3 : decide ((0 : Int) < (i : Int)) = false := by rw [decide_eq_false_iff_not]; omega
            have d4 : decide (0 < i) = false := by rw [decide_eq_false_iff_not]; omega
            have HU2 := Lib.hid (HGO.out ⟨by omega, by omega⟩)
            have HP2 : Hid ((i + 1 = 0 ∧ n = 0) ∨ (0 < i + 1 ∧ b.voters[i + 1 - 1]? = some n)) := .inr ⟨by omega, HNN.out⟩
            clear q3 hl00
            go_wp2_with fail
            go_big_quiet (fail)
            go_wp2_with fail
            go_roundg (b.voters.length - (i + 1))
            case measure => have := HX.out; omega
            case rel => exact ⟨i + 1, p + nq, n, by omega, by go_num, rfl, HU2.out, by omega, by omega, HP2.out⟩
          · have d3 : decide ((0 : Int) < (i : Int)) = true := by rw [decide_eq_true_eq]; omega
            have d4 : decide (0 < i) = true := by rw [decide_eq_true_eq]; omega
            have hpr : b.voters[i - 1]? = some last := by rcases HP.out with h | h; exact absurd h.1 q3; exact h.2
            have c1 := HCC.out (i - 1) last hpr
            have hw1 : IntKind.i64.wrap ((i : Int) - 1) = (i : Int) - 1 := IntWalk.i64_in _ (by omega)
            have hti : ((i : Int) - 1).toNat = i - 1 := by omega
            have hge : (0 : Int) ≤ (i : Int) - 1 := by omega
            have hl1 : (i : Int) - 1 < b.voters.length := by omega
            clear hpr q3
            by_cases q4 : n ≤ last
            · have d5 : decide (n ≤ last) = true := decide_eq_true q4
              have HE := Lib.hid (HNO.out (by omega))
              go_wp2_with fail
              go_big_quiet (fail)
              go_wp2_with fail
              go_ret
              exact right_no HE.out ((HF.out.drewN _).drewN _)
            · have d5 : decide (n ≤ last) = false := decide_eq_false q4
              have HU2 := Lib.hid (HGO.out ⟨by omega, by omega⟩)
              have HP2 : Hid ((i + 1 = 0 ∧ n = 0) ∨ (0 < i + 1 ∧ b.voters[i + 1 - 1]? = some n)) := .inr ⟨by omega, HNN.out⟩
              go_wp2_with fail
              go_big_quiet (fail)
              go_wp2_with fail
              go_roundg (b.voters.length - (i + 1))
              case measure => have := HX.out; omega
              case rel => exact ⟨i + 1, p + nq, n, by omega, by go_num, rfl, HU2.out, by omega, by omega, HP2.out⟩
    · have hge : ¬ i < b.voters.length := hlt
      have e1 : rightB b = restB b := by
        rw [right_rest, HU.out, List.drop_eq_nil_of_le (by omega)]; rfl
      have HE := Lib.hid e1
      clear e1
      unfold I64 at hidx htrm
      have hI2 : ¬ (i : Int) < b.voters.length := by omega
      by_cases r1 : 1 ≤ b.index
      · by_cases r2 : b.index ≤ 1099511627776
        · by_cases r3 : 0 ≤ b.term
          · by_cases r4 : b.term ≤ 1099511627776
            · by_cases r5 : (1 : Int) ≤ b.voters.length
              · have r6 : (b.data.length : Int) ≤ 4000000 := by omega
                have r7 : (b.voters.length : Int) ≤ 9 := by
                  have h1 : upL 0 b.voters = true := by rw [HU.out, List.drop_eq_nil_of_le (by omega)]; rfl
                  have := up_len b.voters 0 h1 (by omega) (by omega)
                  omega
                go_wp2_with fail
                go_ret
                exact right_is (by rw [HE.out]; unfold restB; simp <;> omega) (HF.out.drewN _)
              · go_wp2_with fail
                go_ret
                exact right_is (by rw [HE.out]; unfold restB; simp <;> omega) (HF.out.drewN _)
            · go_wp2_with fail
              go_ret
              exact right_is (by rw [HE.out]; unfold restB; simp <;> omega) (HF.out.drewN _)
          · go_wp2_with fail
            go_ret
            exact right_is (by rw [HE.out]; unfold restB; simp <;> omega) (HF.out.drewN _)
        · go_wp2_with fail
          go_ret
          exact right_is (by rw [HE.out]; unfold restB; simp <;> omega) (HF.out.drewN _)
      · go_wp2_with fail
        go_ret
        exact right_is (by rw [HE.out]; unfold restB; simp <;> omega) (HF.out.drewN _)
end Go.Proofs.YtgmghopcppniaaaGreatDoor
