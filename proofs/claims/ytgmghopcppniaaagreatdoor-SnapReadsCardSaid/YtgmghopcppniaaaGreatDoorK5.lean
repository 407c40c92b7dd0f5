/- Name. -/
import Derived.Test.YtgmghopcppniaaaGreatDoorK4
import Derived.Test.YtgmghopcppniaaaGreatDoorIter
namespace Go.Proofs.YtgmghopcppniaaaGreatDoor
open Go.RowKit Go.Lib Go.Shelf

def cutset : List UInt8 := [97, 98, 99, 100, 101, 102, 103, 104, 105, 106, 107, 108, 109, 110, 111, 112, 113, 114, 115, 116, 117, 118, 119, 120, 121, 122, 48, 49, 50, 51, 52, 53, 54, 55, 56, 57]
theorem cut_ok (b : UInt8) : cutset.contains b = okByte b := by
  have : ∀ k : Fin 256, cutset.contains (UInt8.ofNat k.val) = okByte (UInt8.ofNat k.val) := by decide +kernel
  have h := this ⟨b.toNat, b.toNat_lt⟩
  simpa using h
theorem dropWhile_nil {p : UInt8 → Bool} : ∀ {l : List UInt8}, l.dropWhile p = [] ↔ l.all p = true
  | [] => by simp
  | x :: l => by
    rw [List.dropWhile_cons, List.all_cons]
    cases h : p x with
    | true => simp only [if_true, Bool.true_and]; exact dropWhile_nil
    | false => simp
theorem trim_nil (n : List UInt8) : Lib.trimS n cutset = [] ↔ n.all okByte = true := by
  have e : (fun b => cutset.contains b) = okByte := funext cut_ok
  unfold Lib.trimS Lib.trimRightS Lib.trimLeftS
  simp only [e]
  constructor
  · intro h
    have h1 : (n.reverse.dropWhile okByte).reverse.dropWhile okByte = [] := h
    rw [dropWhile_nil, List.all_reverse] at h1
    cases hd : n.reverse.dropWhile okByte with
    | nil => have := dropWhile_nil.1 hd; rwa [List.all_reverse] at this
    | cons y t =>
      have h2 := List.head?_dropWhile_not okByte n.reverse
      rw [hd] at h1 h2
      simp at h1 h2
      rw [h1.1] at h2; cases h2
  · intro h
    have h' : n.reverse.all okByte = true := by rw [List.all_reverse]; exact h
    rw [dropWhile_nil.2 h']
    rfl

section
variable {w w' : World} {n : List UInt8}
set_option maxHeartbeats 1000000 in
theorem name_h (hn : n.length ≤ 1000000) : Calls Tryz.prog 75 #[.string (bs n)] w fun e w' => e = .returned (.bool (nameOK n)) ∧ Fr (fun _ => False) w w' := by
  have hL := bs_toList n
  have hsz : (bs n).size = n.length := rfl
  by_cases h0 : n.length = 0
  · obtain rfl : n = [] := List.length_eq_zero_iff.1 h0
    have HE := Lib.hid (show nameOK [] = false by decide)
    clear h0 hsz
    go_enter Tryz.func75, Tryz.ntmps75
    go_wp2_with fail
    go_ret
    exact ⟨by rw [HE.out]; rfl, Fr.refl _ _⟩
  · have d0 : n.isEmpty = false := by cases n with | nil => exact absurd rfl h0 | cons _ _ => rfl
    by_cases h1 : 24 < n.length
    · have d1 : decide ((n.length : Int) ≤ 24) = false := by rw [decide_eq_false_iff_not]; omega
      have HE := Lib.hid (show nameOK n = false by unfold nameOK; rw [decide_eq_false (p := n.length ≤ 24) (by omega)]; simp)
      clear h0 h1
      go_enter Tryz.func75, Tryz.ntmps75
      go_wp2_with fail
      go_ret
      exact ⟨by rw [HE.out]; rfl, Fr.refl _ _⟩
    · have d1 : decide ((n.length : Int) ≤ 24) = true := by rw [decide_eq_true_iff]; omega
      have ht := Any.strings_Trim_laid Tryz.lays160 (by kernel_rfl) (bs n) (bs cutset) w (by rw [hsz]; omega) (by decide) (ascii_of_all (by decide))
      change Calls Tryz.prog 132 #[.string (bs n), .string ⟨#[97, 98, 99, 100, 101, 102, 103, 104, 105, 106, 107, 108, 109, 110, 111, 112, 113, 114, 115, 116, 117, 118, 119, 120, 121, 122, 48, 49, 50, 51, 52, 53, 54, 55, 56, 57]⟩] w (fun e w' => e = .returned (.string (bs (Lib.trimS n cutset))) ∧ Below w.heap.size w w') at ht
      have hT := bs_toList (Lib.trimS n cutset)
      have HT := Lib.hid ht
      clear ht
      have hok : nameOK n = n.all okByte := by unfold nameOK; rw [decide_eq_true (p := 1 ≤ n.length) (by omega), decide_eq_true (p := n.length ≤ 24) (by omega)]; rfl
      have htn := trim_nil n
      cases hall : n.all okByte with
      | true =>
        have d2 : (Lib.trimS n cutset).isEmpty = true := by rw [htn.2 hall]; rfl
        have HE := Lib.hid (hok.trans hall)
        clear hok htn hall h0 h1
        generalize Lib.trimS n cutset = t at *
        go_enter Tryz.func75, Tryz.ntmps75
        go_wp2_with fail
        refine Calls.mono HT.out ?_
        rintro e w1 ⟨rfl, hb⟩
        have HB := Lib.hid hb
        clear hb
        go_wp2_with fail
        go_ret
        exact ⟨by rw [HE.out]; rfl, (Fr.of_below HB.out).mono fun i hi h => by omega⟩
      | false =>
        have d2 : (Lib.trimS n cutset).isEmpty = false := by
          cases ht2 : Lib.trimS n cutset with
          | nil => rw [htn.1 ht2] at hall; cases hall
          | cons _ _ => rfl
        have HE := Lib.hid (hok.trans hall)
        clear hok htn hall h0 h1
        generalize Lib.trimS n cutset = t at *
        go_enter Tryz.func75, Tryz.ntmps75
        go_wp2_with fail
        refine Calls.mono HT.out ?_
        rintro e w1 ⟨rfl, hb⟩
        have HB := Lib.hid hb
        clear hb
        go_wp2_with fail
        go_ret
        exact ⟨by rw [HE.out]; rfl, (Fr.of_below HB.out).mono fun i hi h => by omega⟩
end
end Go.Proofs.YtgmghopcppniaaaGreatDoor
