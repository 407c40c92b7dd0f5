/- What is left out of FR (development only). -/
import Derived.Test.YtgmghopcppniaaaGreatDoorFR
import Derived.Lib.AppendStr
import Derived.Lib.BufferRead
namespace Go.Proofs.YtgmghopcppniaaaGreatDoor
open Go.RowKit Go.Lib

theorem four_of {a b c d : UInt8} {t : Str} : fourL (fourN (a :: b :: c :: d :: t)) = [a, b, c, d] := by
  have ha := a.toNat_lt
  have hb := b.toNat_lt
  have hc := c.toNat_lt
  have hd := d.toNat_lt
  unfold fourN fourL
  simp only [List.getD_cons_zero, List.getD_cons_succ, List.cons.injEq, and_true]
  refine ⟨byte_eq ?_, byte_eq ?_, byte_eq ?_, byte_eq ?_⟩ <;> rw [UInt8.toNat_ofNat'] <;> omega

end Go.Proofs.YtgmghopcppniaaaGreatDoor

/- The reference's Int and Frame: walked. -/
namespace Go.Proofs.YtgmghopcppniaaaGreatDoor
open Go.RowKit Go.Lib

end Go.Proofs.YtgmghopcppniaaaGreatDoor

/- The reference's Right: walked. -/
namespace Go.Proofs.YtgmghopcppniaaaGreatDoor
open Go.RowKit Go.Lib

end Go.Proofs.YtgmghopcppniaaaGreatDoor

/- The reference's frames of a base: walked. -/
namespace Go.Proofs.YtgmghopcppniaaaGreatDoor
open Go.RowKit Go.Lib

end Go.Proofs.YtgmghopcppniaaaGreatDoor

/- The reference's Pack: walked. -/
namespace Go.Proofs.YtgmghopcppniaaaGreatDoor
open Go.RowKit Go.Lib

end Go.Proofs.YtgmghopcppniaaaGreatDoor

/- The reference's ToInt: walked. -/
namespace Go.Proofs.YtgmghopcppniaaaGreatDoor
open Go.RowKit Go.Lib

end Go.Proofs.YtgmghopcppniaaaGreatDoor

/- The reference's Unframe: walked. -/
namespace Go.Proofs.YtgmghopcppniaaaGreatDoor
open Go.RowKit Go.Lib

theorem fold4_snoc (s : Str) (c : UInt8) : fold4 (s ++ [c]) = 256 * fold4 s + c.toNat := by unfold fold4; rw [List.foldl_append]; rfl
theorem fold4_lt (s : Str) : ∀ i, i ≤ 4 → fold4 (s.take i) < 4294967296 := by
  intro i hi
  match s, i, hi with
  | _, 0, _ => simp [fold4]
  | [], _, _ => simp [fold4]
  | [a], 1, _ => have := a.toNat_lt; simp [fold4]; omega
  | [a], n + 2, _ => have := a.toNat_lt; simp [fold4]; omega
  | a :: b :: s, 1, _ => have := a.toNat_lt; simp [fold4]; omega
  | [a, b], n + 2, _ => have := a.toNat_lt; have := b.toNat_lt; simp [fold4]; omega
  | a :: b :: c :: s, 2, _ => have := a.toNat_lt; have := b.toNat_lt; simp [fold4]; omega
  | [a, b, c], n + 3, _ => have := a.toNat_lt; have := b.toNat_lt; have := c.toNat_lt; simp [fold4]; omega
  | a :: b :: c :: d :: s, 3, _ => have := a.toNat_lt; have := b.toNat_lt; have := c.toNat_lt; simp [fold4]; omega
  | a :: b :: c :: d :: s, 4, _ => have := a.toNat_lt; have := b.toNat_lt; have := c.toNat_lt; have := d.toNat_lt; simp [fold4]; omega
theorem fold4_four {s : Str} (h : 4 ≤ s.length) : fold4 (s.take 4) = fourN s := by
  match s, h with
  | a :: b :: c :: d :: s, _ => simp [fold4, fourN]; omega
theorem four_is {s : Str} (h : 4 ≤ s.length) : fourL (fourN s) = s.take 4 := by
  match s, h with
  | a :: b :: c :: d :: s, _ => rw [four_of]; rfl
theorem frame_mid {s t : Str} (h4 : 4 ≤ s.length) (h2 : 8 + fourN s ≤ s.length) (ht : (s.take (8 + fourN s)).drop 8 = t) : frameL t = s.take (8 + fourN s) ↔ fourL (crcL (s.take 4 ++ t)) = (s.take 8).drop 4 := by
  have hl : t.length = fourN s := by rw [← ht, List.length_drop, List.length_take]; omega
  have e : s.take (8 + fourN s) = (s.take 4 ++ (s.take 8).drop 4) ++ t := by
    rw [← ht]
    have h1 : s.take 4 ++ (s.take 8).drop 4 = s.take 8 := by
      have := List.take_append_drop 4 (s.take 8)
      rwa [List.take_take, show min 4 8 = 4 from rfl] at this
    have h3 := List.take_append_drop 8 (s.take (8 + fourN s))
    rw [List.take_take, show min 8 (8 + fourN s) = 8 by omega] at h3
    rw [h1, h3]
  have ef : frameL t = (s.take 4 ++ fourL (crcL (s.take 4 ++ t))) ++ t := by
    show (fourL t.length ++ fourL (crcL (fourL t.length ++ t))) ++ t = _
    rw [hl, four_is h4]
  rw [e, ef]
  constructor
  · intro h
    exact List.append_cancel_left (List.append_cancel_right h)
  · intro h; rw [h]
set_option maxRecDepth 100000 in
set_option maxHeartbeats 16000000 in
theorem runframe_h {w : World} (s : Str) (hs : s.length ≤ 1000000) : Calls Tryz.prog 115 #[.string (bs s)] w (UnfPost s w) := by
  have hsz : (bs s).size = s.length := rfl
  by_cases h4 : s.length < 4
  · have h4i : (s.length : Int) < 4 := by omega
    have HE := Lib.hid (unf_err (show unframeL s = .error 8 from if_pos h4))
    clear h4
    go_enter Tryz.func115, Tryz.ntmps115
    go_wp2_with fail
    go_ret3
    exact unf_empty HE.out (Fr.refl _ _)
  · have h4i : ¬ (s.length : Int) < 4 := by omega
    have H4 := Lib.hid h4
    clear h4
    go_enter Tryz.func115, Tryz.ntmps115
    go_wp2_with fail
    go_loopg [5, 6] 4 (fun j v5 v6 wr => ∃ (i m : Nat), i + j = 4 ∧ v6 = .int .i64 (i : Int) ∧ v5 = .int .i64 (m : Int) ∧ Hid (m = fold4 (s.take i)) ∧ m < 4294967296 ∧ w = wr)
    case atStart => exact ⟨0, 0, by omega, rfl, rfl, by show _ = _; simp [fold4], by omega, rfl⟩
    case round =>
      obtain ⟨i, m, hij, rfl, rfl, HM, hml, hw⟩ := hrel
      subst hw
      have HX := Lib.hid hij
      by_cases hi : i < 4
      · have hii : (i : Int) < 4 := by omega
        have hlt : i < s.length := by have := H4.out; omega
        have hz : i < (bs s).size := hlt
        have hg := bs_at s i hz
        have hli : (i : Int) < s.length := by omega
        obtain ⟨c, hc⟩ : ∃ c, s.getD i 0 = c := ⟨_, rfl⟩
        rw [hc] at hg
        have hcl := c.toNat_lt
        have hM2 : 256 * m + c.toNat = fold4 (s.take (i + 1)) := by rw [take_snoc hlt hc, fold4_snoc, HM.out]
        have hM3 := fold4_lt s (i + 1) (by omega)
        rw [← hM2] at hM3
        have HM2 := Lib.hid hM2
        have hw1 : IntKind.i64.wrap (256 * (m : Int)) = 256 * (m : Int) := IntWalk.i64_in _ (by omega)
        have hw2 : IntKind.i64.wrap (256 * (m : Int) + (c.toNat : Int)) = 256 * (m : Int) + (c.toNat : Int) := IntWalk.i64_in _ (by omega)
        have hw3 : IntKind.i64.wrap (c.toNat : Int) = (c.toNat : Int) := IntWalk.i64_in _ (by omega)
        clear hc hM2 hij
        go_wp2_with fail
        go_roundg (4 - (i + 1))
        case measure => have := HX.out; omega
        case rel => exact ⟨i + 1, 256 * m + c.toNat, by omega, by go_num, by go_num, HM2, hM3, rfl⟩
      · obtain rfl : i = 4 := by omega
        have hm : m = fourN s := by rw [HM.out, fold4_four (by have := H4.out; omega)]
        have HN := Lib.hid hm
        clear hm hij hi
        by_cases hb : 65536 < m
        · have hbi : (65536 : Int) < (m : Int) := by omega
          have HE := Lib.hid (unf_err (un_long H4.out (by rw [← HN.out]; exact hb)))
          clear hb
          go_wp2_with fail
          go_ret3
          exact unf_empty HE.out (Fr.refl _ _)
        · have hbi : ¬ (65536 : Int) < (m : Int) := by omega
          have hw1 : IntKind.i64.wrap (8 + (m : Int)) = 8 + (m : Int) := IntWalk.i64_in _ (by omega)
          by_cases hc : s.length < 8 + m
          · have hci : (s.length : Int) < 8 + (m : Int) := by omega
            have HE := Lib.hid (unf_err (un_cut H4.out (by rw [← HN.out]; exact hb) (by rw [← HN.out]; exact hc)))
            clear hb hc
            go_wp2_with fail
            go_ret3
            exact unf_empty HE.out (Fr.refl _ _)
          · have hci : ¬ (s.length : Int) < 8 + (m : Int) := by omega
            obtain ⟨t, ht⟩ : ∃ t, (s.take (8 + m)).drop 8 = t := ⟨_, rfl⟩
            obtain ⟨h, hh⟩ : ∃ h, s.take 4 = h := ⟨_, rfl⟩
            obtain ⟨md, hmd⟩ : ∃ x, (s.take 8).drop 4 = x := ⟨_, rfl⟩
            obtain ⟨x, hx⟩ : ∃ x, h ++ t = x := ⟨_, rfl⟩
            have hxl : x.length ≤ 100000 := by rw [← hx, ← hh, ← ht, List.length_append, List.length_take, List.length_drop, List.length_take]; omega
            obtain ⟨cr, hcr⟩ : ∃ x', crcL x = x' := ⟨_, rfl⟩
            obtain ⟨c4, hc4⟩ : ∃ x', fourL cr = x' := ⟨_, rfl⟩
            have HMID := frame_mid (s := s) (t := t) (by have := H4.out; omega) (by rw [← HN.out]; omega) (by rw [← HN.out]; exact ht)
            rw [hh, hmd, hx, hcr, hc4] at HMID
            have HMD := Lib.hid HMID
            have HUS := Lib.hid (fun hne => unf_err (un_sum (t := t) H4.out (by rw [← HN.out]; exact hb) (by rw [← HN.out]; exact hc) (by rw [← HN.out]; exact ht) hne))
            have HUD := Lib.hid (fun heq => unf_ok (un_done (t := t) H4.out (by rw [← HN.out]; exact hb) (by rw [← HN.out]; exact hc) (by rw [← HN.out]; exact ht) heq))
            have hcl : cr < 4294967296 := by rw [← hcr]; exact crc_lt x
            have HC := Lib.hid (fun (W : World) => (rcrc_h (w := W) x (by omega)).mono (R' := fun e w' => e = .returned (.int .u32 (cr : Int)) ∧ W = w') (by rintro e w' ⟨rfl, h⟩; exact ⟨by rw [hcr], h⟩))
            have HF := Lib.hid (fun (W : World) => (rfour_h (w := W) cr hcl).mono (R' := fun e w' => e = .returned (.string (bs c4)) ∧ Fr (fun _ => False) W w') (by rintro e w' ⟨rfl, h⟩; exact ⟨by rw [hc4], h⟩))
            have e1 := fun (W : World) => slice_run (w := W) s (i := 4) (j := 8) (a := 4) (b := 8) rfl rfl (by omega) (by omega)
            have e2 := fun (W : World) => slice_to' (w := W) s (k := 4) (by omega) (i := 4) rfl
            have e3 := fun (W : World) => slice_run (w := W) s (i := 8) (j := 8 + (m : Int)) (a := 8) (b := 8 + m) rfl (by omega) (by omega) (by omega)
            rw [hmd] at e1
            rw [hh] at e2
            rw [ht] at e3
            have e4 := fun (W : World) => sum_at W (a := h) (b := t) hx (by omega)
            clear hb hc ht hh hmd hx hxl hcr hc4 HMID
            go_upto_region 12 with fail
            by_cases he : c4 = md
            · subst he
              have HOK := Lib.hid (HUD.out (HMD.out.2 rfl))
              rw [← HN.out] at HOK
              go_cut [39] (fun s39 wx => Hid (s39 = .bool false ∧ Fr (fun _ => False) w wx))
              case first =>
                go_region_held (fun _ => True)
                  (trivial)
                  (first
                    | (go_at_call 152; (with_reducible refine Calls.mono (HC.out _) ?_); clear HC; rintro e wA ⟨rfl, hq⟩; subst hq)
                    | (go_at_call 151; (with_reducible refine Calls.mono (HF.out _) ?_); clear HF; rintro e wB ⟨rfl, hq⟩; have fB := (show Fr (fun _ => False) w _ by repeat (first | exact Fr.refl _ _ | refine Fr.drew ?_)).next hq; clear hq)
                    | fail)
                all_goals
                  go_wp2_with fail
                  go_meet
                  exact ⟨by first | rfl | simp [*], by first | exact fB | exact fB.drew⟩
              case rest =>
                obtain ⟨rfl, hf⟩ := hcut.out
                have HF := Lib.hid hf
                clear hf hcut e1 e2 e4
                go_wp2_with fail
                go_ret3
                exact unf_post (by rw [HOK.out]; first | rfl | (congr 1)) HF.out
            · have HE := Lib.hid (HUS.out (fun h => he (HMD.out.1 h)))
              have n1 : ((bs md).toList != (bs c4).toList) = true := by rw [bs_toList, bs_toList]; simpa using fun h : md = c4 => he h.symm
              have n2 : ¬ (bs md).toList = (bs c4).toList := by rw [bs_toList, bs_toList]; exact fun h => he h.symm
              clear he
              go_cut [39] (fun s39 wx => Hid (s39 = .bool true ∧ Fr (fun _ => False) w wx))
              case first =>
                go_region_held (fun _ => True)
                  (trivial)
                  (first
                    | (go_at_call 152; (with_reducible refine Calls.mono (HC.out _) ?_); clear HC; rintro e wA ⟨rfl, hq⟩; subst hq)
                    | (go_at_call 151; (with_reducible refine Calls.mono (HF.out _) ?_); clear HF; rintro e wB ⟨rfl, hq⟩; have fB := (show Fr (fun _ => False) w _ by repeat (first | exact Fr.refl _ _ | refine Fr.drew ?_)).next hq; clear hq)
                    | fail)
                all_goals
                  go_wp2_with fail
                  go_meet
                  exact ⟨by first | rfl | simp [*], by first | exact fB | exact fB.drew⟩
              case rest =>
                obtain ⟨rfl, hf⟩ := hcut.out
                have HF := Lib.hid hf
                clear hf hcut
                go_wp2_with fail
                go_ret3
                exact unf_empty HE.out HF.out
end Go.Proofs.YtgmghopcppniaaaGreatDoor

/- The reference's unframe (the long frames' error told as a form's): walked. -/
namespace Go.Proofs.YtgmghopcppniaaaGreatDoor
open Go.RowKit Go.Lib

end Go.Proofs.YtgmghopcppniaaaGreatDoor

/- The reference's head: walked. -/
namespace Go.Proofs.YtgmghopcppniaaaGreatDoor
open Go.RowKit Go.Lib

end Go.Proofs.YtgmghopcppniaaaGreatDoor

/- The reference's Unpack: walked. -/
namespace Go.Proofs.YtgmghopcppniaaaGreatDoor
open Go.RowKit Go.Lib

end Go.Proofs.YtgmghopcppniaaaGreatDoor
