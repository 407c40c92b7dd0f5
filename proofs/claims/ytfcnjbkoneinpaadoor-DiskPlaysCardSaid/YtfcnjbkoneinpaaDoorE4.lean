/- The reference's Name, Rename, Append. -/
import Derived.Test.YtfcnjbkoneinpaaDoorE3
namespace Go.Proofs.YtfcnjbkoneinpaaDoor
open Go.RowKit Go.Lib

/-! ### Name -/
theorem byte_no {c : UInt8} (h : okByte c = false) : (((c.toNat : Int) < 97 ∨ 122 < (c.toNat : Int)) ∧ ((c.toNat : Int) < 48 ∨ 57 < (c.toNat : Int))) := by
  unfold okByte at h
  simp only [Bool.or_eq_false_iff, Bool.and_eq_false_iff, decide_eq_false_iff_not] at h
  omega
theorem byte_yes {c : UInt8} (h : okByte c = true) : ((97 ≤ (c.toNat : Int) ∧ (c.toNat : Int) ≤ 122) ∨ (48 ≤ (c.toNat : Int) ∧ (c.toNat : Int) ≤ 57)) := by
  unfold okByte at h
  simp only [Bool.or_eq_true, Bool.and_eq_true, decide_eq_true_eq] at h
  omega
theorem all_next {n : List UInt8} {k : Nat} (h : (n.take k).all okByte = true) (hk : k < n.length) (hb : okByte (n.getD k 0) = true) : (n.take (k + 1)).all okByte = true := by
  rw [List.take_add_one, List.getElem?_eq_getElem hk, List.all_append, h]
  rw [List.getD_eq_getElem?_getD, List.getElem?_eq_getElem hk] at hb
  simpa using hb
set_option maxHeartbeats 4000000 in
theorem rname_h {w : World} {n : List UInt8} (hn : n.length ≤ 1000000) : Calls Tryd.prog 14 #[.string (bs n)] w fun e w' => e = .returned (.bool (nameOK n)) ∧ Fr (fun _ => False) w w' := by
  have hsz : (bs n).size = n.length := rfl
  go_enter Tryd.func14, Tryd.ntmps14
  go_wp2_with fail
  go_loopg [3] (n.length) (fun j v wr => (∃ k : Nat, k + j = n.length ∧ v = .int .i64 k ∧ (n.take k).all okByte = true) ∧ w = wr)
  case atStart => exact ⟨⟨0, by omega, rfl, by simp⟩, rfl⟩
  case round =>
    obtain ⟨⟨k, hk, rfl, hall⟩, rfl⟩ := hrel
    have HK := Lib.hid (And.intro hk hall)
    clear hk hall
    by_cases hlt : k < n.length
    · have hz : k < (bs n).size := by rw [hsz]; exact hlt
      have hg := bs_at n k hz
      have HN := Lib.hid (fun (hb : okByte (n.getD k 0) = true) => all_next HK.out.2 hlt hb)
      have HF := Lib.hid (fun (hb : okByte (n.getD k 0) = false) => show nameOK n = false from by
        unfold nameOK
        have : n.all okByte = false := by
          rw [List.all_eq_false]
          rw [List.getD_eq_getElem?_getD, List.getElem?_eq_getElem hlt] at hb
          exact ⟨n[k]'hlt, List.getElem_mem hlt, fun e => by rw [show (some (n[k]'hlt)).getD 0 = n[k]'hlt from rfl, e] at hb; cases hb⟩
        rw [this, Bool.and_false])
      generalize hc : n.getD k 0 = c at *
      clear hc
      have hgn : ((bs n)[k].toNat : Int) = (c.toNat : Int) := by rw [hg]
      have key : ∀ b : Bool, (b = okByte c) → True := fun _ _ => trivial
      clear key hg
      cases hb : okByte c with
      | true =>
        have hN := Lib.hid (HN.out hb)
        rcases byte_yes hb with ⟨h1, h2⟩ | ⟨h1, h2⟩
        · have d1 : decide ((c.toNat : Int) < 97) = false := by rw [decide_eq_false_iff_not]; omega
          have d2 : decide (122 < (c.toNat : Int)) = false := by rw [decide_eq_false_iff_not]; omega
          clear hb h1 h2
          go_wp2_with fail
          go_roundg (n.length - (k + 1))
          case measure => have := HK.out.1; omega
          case rel => exact ⟨⟨k + 1, by omega, by go_num, hN.out⟩, rfl⟩
        · have d1 : decide ((c.toNat : Int) < 97) = true := by rw [decide_eq_true_iff]; omega
          have d3 : decide ((c.toNat : Int) < 48) = false := by rw [decide_eq_false_iff_not]; omega
          have d4 : decide (57 < (c.toNat : Int)) = false := by rw [decide_eq_false_iff_not]; omega
          clear hb h1 h2
          go_wp2_with fail
          go_roundg (n.length - (k + 1))
          case measure => have := HK.out.1; omega
          case rel => exact ⟨⟨k + 1, by omega, by go_num, hN.out⟩, rfl⟩
      | false =>
        have hF := Lib.hid (HF.out hb)
        obtain ⟨h1, h2⟩ := byte_no hb
        have e1 : ∃ b, decide ((c.toNat : Int) < 97) = b := ⟨_, rfl⟩
        have e2 : ∃ b, decide ((c.toNat : Int) < 48) = b := ⟨_, rfl⟩
        obtain ⟨b1, d1⟩ := e1
        obtain ⟨b2, d2⟩ := e2
        have d3 : b1 = false → decide (122 < (c.toNat : Int)) = true := by intro h; subst h; rw [decide_eq_false_iff_not] at d1; rw [decide_eq_true_iff]; omega
        have d4 : b2 = false → decide (57 < (c.toNat : Int)) = true := by intro h; subst h; rw [decide_eq_false_iff_not] at d2; rw [decide_eq_true_iff]; omega
        clear hb h1 h2
        cases b1
        all_goals cases b2
        all_goals simp only [forall_const, Bool.true_eq_false, false_implies] at d3 d4
        all_goals (go_wp2_with fail)
        all_goals go_ret
        all_goals exact ⟨by rw [hF.out] <;> rfl, Fr.refl _ _⟩
    · have hE : n.take k = n := List.take_of_length_le (by omega)
      have hall := HK.out.2
      rw [hE] at hall
      by_cases h1 : 1 ≤ n.length
      · have d1 : decide ((1 : Int) ≤ (n.length : Int)) = true := by rw [decide_eq_true_iff]; omega
        have d1' : decide (1 ≤ n.length) = true := by simpa using h1
        have HE := Lib.hid (show nameOK n = decide (n.length ≤ 24) by unfold nameOK; rw [hall, d1']; simp)
        clear hE hall
        go_wp2_with fail
        go_ret
        exact ⟨by rw [HE.out, show decide (n.length ≤ 24) = decide ((n.length : Int) ≤ 24) from decide_eq_decide.2 (by omega)] <;> rfl, Fr.refl _ _⟩
      · have d1 : decide ((1 : Int) ≤ (n.length : Int)) = false := by rw [decide_eq_false_iff_not]; omega
        have d1' : decide (1 ≤ n.length) = false := by simpa using h1
        have HE := Lib.hid (show nameOK n = false by unfold nameOK; rw [d1']; simp)
        clear hE hall h1
        go_wp2_with fail
        go_ret
        exact ⟨by rw [HE.out] <;> rfl, Fr.refl _ _⟩
end Go.Proofs.YtfcnjbkoneinpaaDoor
