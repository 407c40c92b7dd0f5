/- The reference's ToInt: walked. -/
import Derived.Test.YtgmghopcppniaaaGreatDoorR5
import Derived.Test.YtgmghopcppniaaaGreatDoorS17
import Derived.Test.YtgmghopcppniaaaGreatDoorS18
import Derived.Lib.BufferRead
namespace Go.Proofs.YtgmghopcppniaaaGreatDoor
open Go.RowKit Go.Lib

def RToInt (s : Str) (w : World) (e : Ending) (w' : World) : Prop := e = .returned (.tuple #[.int .i64 (toIntD s).1.1, .string (bs (toIntD s).1.2), .bool (toIntD s).2]) ∧ Fr (fun _ => False) w w'
theorem rtoInt_no {s : Str} {w w' : World} (h : toIntL s = none) (hf : Fr (fun _ => False) w w') : RToInt s w (.returned (.tuple #[.int .i64 0, .string ⟨#[]⟩, .bool false])) w' := by
  unfold RToInt toIntD; rw [h]; exact ⟨rfl, hf⟩
theorem rtoInt_yes {s t : Str} {n : Int} {w w' : World} (h : toIntL s = some (n, t)) (hf : Fr (fun _ => False) w w') : RToInt s w (.returned (.tuple #[.int .i64 n, .string (bs t), .bool true])) w' := by
  unfold RToInt toIntD; rw [h]; exact ⟨rfl, hf⟩
theorem slice_from {w : World} (s : Str) {k : Nat} (hk : k ≤ s.length) {i : Int} (hi : i = (k : Int)) :
    (Instr.slice 9 (.string (bs s)) (some (.int .i64 i)) none none).run Tryz.prog w = .ok (.string (bs (s.drop k))) w := by
  subst hi
  rw [run_slice_string_from_if w 9 (bs s) .i64 (k : Int) Tryz.underlying9, if_pos ⟨by omega, by rw [bs_size]; omega⟩]
  have := bs_mid s k s.length
  rw [List.take_length] at this
  rw [← this]; rfl
theorem slice_to' {w : World} (s : Str) {k : Nat} (hk : k ≤ s.length) {i : Int} (hi : i = (k : Int)) :
    (Instr.slice 9 (.string (bs s)) none (some (.int .i64 i)) none).run Tryz.prog w = .ok (.string (bs (s.take k))) w := by
  subst hi
  rw [run_slice_string_to_if w 9 (bs s) .i64 (k : Int) Tryz.underlying9, if_pos ⟨by omega, by rw [bs_size]; omega⟩]
  have := bs_mid s 0 k
  simp only [List.drop_zero] at this
  rw [← this]; rfl
set_option maxRecDepth 100000 in
set_option maxHeartbeats 16000000 in
theorem rtoInt_h {w : World} (s : Str) (_hs : s.length ≤ 1000000) : Calls Tryz.prog 116 #[.string (bs s)] w (RToInt s w) := by
  have hsz : (bs s).size = s.length := rfl
  go_enter Tryz.func116, Tryz.ntmps116
  go_wp2_with fail
  go_loopg [5, 6] 10 (fun j v5 v6 wr => ∃ i v : Nat, i + j = 10 ∧ v5 = .int .u64 (v : Int) ∧ v6 = .int .i64 (i : Int) ∧ v < 18446744073709551616 ∧ Hid (RAt s i v) ∧ w = wr)
  case atStart => exact ⟨0, 0, by omega, rfl, rfl, by omega, RAt.start s, rfl⟩
  case round =>
    obtain ⟨i, v, hij, rfl, rfl, hv, HR, hw⟩ := hrel
    subst hw
    have HX := Lib.hid hij
    have hi10 : i ≤ 10 := by omega
    clear hij
    by_cases hlt : i < s.length
    · have hli : (i : Int) < s.length := by omega
      by_cases ht : i < 10
      · have hti : (i : Int) < 10 := by omega
        have hz : i < (bs s).size := hlt
        have hg := bs_at s i hz
        obtain ⟨c, hc⟩ : ∃ c, s.getD i 0 = c := ⟨_, rfl⟩
        rw [hc] at hg
        have hcl := c.toNat_lt
        obtain ⟨r, hr⟩ : ∃ r, c.toNat % 128 = r := ⟨_, rfl⟩
        have hri : (c.toNat : Int) % 128 = (r : Int) := by omega
        have hrl : r < 128 := by omega
        obtain ⟨a, ha⟩ : ∃ a, (128 * v) % 18446744073709551616 = a := ⟨_, rfl⟩
        have hw1 : IntKind.u64.wrap (128 * (v : Int)) = (a : Int) := by rw [IntKind.wrap_u64]; omega
        obtain ⟨v2, hv2⟩ : ∃ v2, (128 * v + r) % 18446744073709551616 = v2 := ⟨_, rfl⟩
        have hw2 : IntKind.u64.wrap ((a : Int) + (r : Int)) = (v2 : Int) := by rw [IntKind.wrap_u64]; omega
        have hwr : IntKind.u64.wrap (r : Int) = (r : Int) := by rw [IntKind.wrap_u64]; omega
        have hv2l : v2 < 18446744073709551616 := by omega
        by_cases hbig : 128 ≤ c.toNat
        · have HM := HR.out.more hlt ht hc hbig
          rw [hr, hv2] at HM
          have HM2 := Lib.hid HM
          have hbi : (128 : Int) ≤ (c.toNat : Int) := by omega
          clear hc hr ha hv2 HM
          go_wp2_with fail
          go_roundg (10 - (i + 1))
          case measure => have := HX.out; omega
          case rel => exact ⟨i + 1, v2, by omega, rfl, by go_num, hv2l, HM2, rfl⟩
        · have hbi : ¬ (128 : Int) ≤ (c.toNat : Int) := by omega
          have hv3 : (128 * v + c.toNat) % 18446744073709551616 = v2 := by rw [← hv2, ← hr]; omega
          have hn : unzig v2 = unzig v2 := rfl
          have HNO := Lib.hid (show intL (unzig v2) ≠ s.take (i + 1) → toIntL s = none from fun hne => HR.out.no hlt hc (by omega) (by rw [hv3]; exact hne))
          have HYES := Lib.hid (HR.out.yes (unzig_in hv2l))
          have HC := Lib.hid hc
          have hvd : v2 / 2 < 9223372036854775808 := by omega
          obtain ⟨q, hq⟩ : ∃ q, v2 / 2 = q := ⟨_, rfl⟩
          have hqi : (v2 : Int) / 2 = (q : Int) := by omega
          have hwq : IntKind.i64.wrap (q : Int) = (q : Int) := IntWalk.i64_in _ (by omega)
          have hw3 : IntKind.i64.wrap ((i : Int) + 1) = (i : Int) + 1 := IntWalk.i64_in _ (by omega)
          have st := fun (W : World) => slice_to' (w := W) s (k := i + 1) hlt (i := (i : Int) + 1) (by omega)
          have sf := fun (W : World) => slice_from (w := W) s (k := i + 1) hlt (i := (i : Int) + 1) (by omega)
          have hnI := unzig_in hv2l
          rcases Nat.mod_two_eq_zero_or_one v2 with h2 | h2
          · have hm2 : (v2 : Int) % 2 = 0 := by omega
            have hun : unzig v2 = (q : Int) := by unfold unzig; rw [if_pos h2, hq]
            rw [hun] at HNO HYES hnI
            have HNI := Lib.hid hnI
            clear hc hr ha hv2 hv3 hn h2 hq hun hnI
            go_wp2_with fail
            obtain ⟨t, htt⟩ : ∃ t, s.take (i + 1) = t := ⟨_, rfl⟩
            rw [htt] at HNO HYES st
            by_cases he : intL ((q : Int)) = t
            · have HI := Lib.hid (fun (W : World) => rint_at (w := W) HNI.out he)
              have HY := Lib.hid (HYES.out he)
              clear htt he
              go_cut [45] (fun s45 wx => Hid (s45 = .bool false ∧ Fr (fun _ => False) w wx))
              case first =>
                go_region_held (fun _ => True)
                  (trivial)
                  (first
                    | (go_at_call 117; (with_reducible refine Calls.mono (HI.out _) ?_); rintro e wA ⟨rfl, hq⟩; have fA := (show Fr (fun _ => False) w _ by repeat (first | exact Fr.refl _ _ | refine Fr.drew ?_)).next hq; clear hq)
                    | fail)
                all_goals
                  go_wp2_with fail
                  go_meet
                  exact ⟨by first | rfl | simp, by first | exact fA | exact fA.drew⟩
              case rest =>
                obtain ⟨rfl, hf⟩ := hcut.out
                have HF := Lib.hid hf
                clear hf hcut
                go_wp2_with fail
                go_big_quiet (fail)
                go_wp2_with fail
                go_ret3
                exact rtoInt_yes HY.out (HF.out.drewN _)
            · have hne : ¬ intL ((q : Int)) = t := he
              have HE := Lib.hid (HNO.out he)
              obtain ⟨u, hu⟩ : ∃ u, intL ((q : Int)) = u := ⟨_, rfl⟩
              have HI := Lib.hid (fun (W : World) => rint_at (w := W) HNI.out hu)
              rw [hu] at hne
              have n1 : ((bs u).toList != (bs t).toList) = true := by rw [bs_toList, bs_toList]; simpa using hne
              have n2 : ¬ (bs u).toList = (bs t).toList := by rw [bs_toList, bs_toList]; exact hne
              have n3 : decide (bs u = bs t) = false := decide_eq_false fun e => hne (bs_inj e)
              clear htt he hne hu
              go_cut [45] (fun s45 wx => Hid (s45 = .bool true ∧ Fr (fun _ => False) w wx))
              case first =>
                go_region_held (fun _ => True)
                  (trivial)
                  (first
                    | (go_at_call 117; (with_reducible refine Calls.mono (HI.out _) ?_); rintro e wA ⟨rfl, hq⟩; have fA := (show Fr (fun _ => False) w _ by repeat (first | exact Fr.refl _ _ | refine Fr.drew ?_)).next hq; clear hq)
                    | fail)
                all_goals
                  go_wp2_with fail
                  go_meet
                  exact ⟨by first | rfl | simp [*], by first | exact fA | exact fA.drew⟩
              case rest =>
                obtain ⟨rfl, hf⟩ := hcut.out
                have HF := Lib.hid hf
                clear hf hcut
                go_wp2_with fail
                go_ret3
                exact rtoInt_no HE.out HF.out
          · have hm2 : (v2 : Int) % 2 = 1 := by omega
            have hun : unzig v2 = -(q : Int) - 1 := by unfold unzig; rw [if_neg (by omega), hq]
            have hwn : IntKind.i64.wrap (-(q : Int)) = -(q : Int) := IntWalk.i64_in _ (by omega)
            obtain ⟨n, hnn⟩ : ∃ n, -(q : Int) - 1 = n := ⟨_, rfl⟩
            have hwn2 : IntKind.i64.wrap (-(q : Int) - 1) = n := by rw [← hnn]; exact IntWalk.i64_in _ (by omega)
            rw [hun, hnn] at HNO HYES hnI
            clear hnn
            have HNI := Lib.hid hnI
            clear hc hr ha hv2 hv3 hn h2 hq hun hnI
            go_wp2_with fail
            obtain ⟨t, htt⟩ : ∃ t, s.take (i + 1) = t := ⟨_, rfl⟩
            rw [htt] at HNO HYES st
            by_cases he : intL (n) = t
            · have HI := Lib.hid (fun (W : World) => rint_at (w := W) HNI.out he)
              have HY := Lib.hid (HYES.out he)
              clear htt he
              go_cut [45] (fun s45 wx => Hid (s45 = .bool false ∧ Fr (fun _ => False) w wx))
              case first =>
                go_region_held (fun _ => True)
                  (trivial)
                  (first
                    | (go_at_call 117; (with_reducible refine Calls.mono (HI.out _) ?_); rintro e wA ⟨rfl, hq⟩; have fA := (show Fr (fun _ => False) w _ by repeat (first | exact Fr.refl _ _ | refine Fr.drew ?_)).next hq; clear hq)
                    | fail)
                all_goals
                  go_wp2_with fail
                  go_meet
                  exact ⟨by first | rfl | simp, by first | exact fA | exact fA.drew⟩
              case rest =>
                obtain ⟨rfl, hf⟩ := hcut.out
                have HF := Lib.hid hf
                clear hf hcut
                go_wp2_with fail
                go_big_quiet (fail)
                go_wp2_with fail
                go_ret3
                exact rtoInt_yes HY.out (HF.out.drewN _)
            · have hne : ¬ intL (n) = t := he
              have HE := Lib.hid (HNO.out he)
              obtain ⟨u, hu⟩ : ∃ u, intL (n) = u := ⟨_, rfl⟩
              have HI := Lib.hid (fun (W : World) => rint_at (w := W) HNI.out hu)
              rw [hu] at hne
              have n1 : ((bs u).toList != (bs t).toList) = true := by rw [bs_toList, bs_toList]; simpa using hne
              have n2 : ¬ (bs u).toList = (bs t).toList := by rw [bs_toList, bs_toList]; exact hne
              have n3 : decide (bs u = bs t) = false := decide_eq_false fun e => hne (bs_inj e)
              clear htt he hne hu
              go_cut [45] (fun s45 wx => Hid (s45 = .bool true ∧ Fr (fun _ => False) w wx))
              case first =>
                go_region_held (fun _ => True)
                  (trivial)
                  (first
                    | (go_at_call 117; (with_reducible refine Calls.mono (HI.out _) ?_); rintro e wA ⟨rfl, hq⟩; have fA := (show Fr (fun _ => False) w _ by repeat (first | exact Fr.refl _ _ | refine Fr.drew ?_)).next hq; clear hq)
                    | fail)
                all_goals
                  go_wp2_with fail
                  go_meet
                  exact ⟨by first | rfl | simp [*], by first | exact fA | exact fA.drew⟩
              case rest =>
                obtain ⟨rfl, hf⟩ := hcut.out
                have HF := Lib.hid hf
                clear hf hcut
                go_wp2_with fail
                go_ret3
                exact rtoInt_no HE.out HF.out
      · have hti : ¬ (i : Int) < 10 := by omega
        have HE := Lib.hid (HR.out.out (.inl (by omega)))
        go_wp2_with fail
        go_ret3
        exact rtoInt_no HE.out (Fr.refl _ _)
    · have hli : ¬ (i : Int) < s.length := by omega
      have HE := Lib.hid (HR.out.out (.inr (by have := HR.out.le; omega)))
      go_wp2_with fail
      go_ret3
      exact rtoInt_no HE.out (Fr.refl _ _)
end Go.Proofs.YtgmghopcppniaaaGreatDoor

/- The reference's Unframe: walked. -/
namespace Go.Proofs.YtgmghopcppniaaaGreatDoor
open Go.RowKit Go.Lib

def fold4 (s : Str) : Nat := s.foldl (fun a c => 256 * a + c.toNat) 0
theorem fold4_snoc (s : Str) (c : UInt8) : fold4 (s ++ [c]) = 256 * fold4 s + c.toNat := by unfold fold4; rw [List.foldl_append]; rfl
theorem fold4_lt (s : Str) : ∀ i, i ≤ 4 → fold4 (s.take i) < 4294967296 := by
  intro i hi
  match s, i, hi with
  | _, 0, _ => simp [fold4]
  | [], _, _ => simp [fold4]
  | [a], 1, _ => have := a.toNat_lt; simp [fold4]; omega
  | [a], n + 2, _ => have := a.toNat_lt; simp [fold4]; omega
  | a :: b :: s, 1, _ => have := a.toNat_lt; simp [fold4]; omega
  | [a, b], n + 2, _ => have := a.toNat_lt; have := b.toNat_lt; simp [fold4]; omega
  | a :: b :: c :: s, 2, _ => have := a.toNat_lt; have := b.toNat_lt; simp [fold4]; omega
  | [a, b, c], n + 3, _ => have := a.toNat_lt; have := b.toNat_lt; have := c.toNat_lt; simp [fold4]; omega
  | a :: b :: c :: d :: s, 3, _ => have := a.toNat_lt; have := b.toNat_lt; have := c.toNat_lt; simp [fold4]; omega
  | a :: b :: c :: d :: s, 4, _ => have := a.toNat_lt; have := b.toNat_lt; have := c.toNat_lt; have := d.toNat_lt; simp [fold4]; omega
theorem fold4_four {s : Str} (h : 4 ≤ s.length) : fold4 (s.take 4) = fourN s := by
  match s, h with
  | a :: b :: c :: d :: s, _ => simp [fold4, fourN]; omega
theorem four_is {s : Str} (h : 4 ≤ s.length) : fourL (fourN s) = s.take 4 := by
  match s, h with
  | a :: b :: c :: d :: s, _ => rw [four_of]; rfl
theorem frame_mid {s t : Str} (h4 : 4 ≤ s.length) (h2 : 8 + fourN s ≤ s.length) (ht : (s.take (8 + fourN s)).drop 8 = t) : frameL t = s.take (8 + fourN s) ↔ fourL (crcL (s.take 4 ++ t)) = (s.take 8).drop 4 := by
  have hl : t.length = fourN s := by rw [← ht, List.length_drop, List.length_take]; omega
  have e : s.take (8 + fourN s) = (s.take 4 ++ (s.take 8).drop 4) ++ t := by
    rw [← ht]
    have h1 : s.take 4 ++ (s.take 8).drop 4 = s.take 8 := by
      have := List.take_append_drop 4 (s.take 8)
      rwa [List.take_take, show min 4 8 = 4 from rfl] at this
    have h3 := List.take_append_drop 8 (s.take (8 + fourN s))
    rw [List.take_take, show min 8 (8 + fourN s) = 8 by omega] at h3
    rw [h1, h3]
  have ef : frameL t = (s.take 4 ++ fourL (crcL (s.take 4 ++ t))) ++ t := by
    show (fourL t.length ++ fourL (crcL (fourL t.length ++ t))) ++ t = _
    rw [hl, four_is h4]
  rw [e, ef]
  constructor
  · intro h
    exact List.append_cancel_left (List.append_cancel_right h)
  · intro h; rw [h]
set_option maxRecDepth 100000 in
set_option maxHeartbeats 16000000 in
theorem runframe_h {w : World} (s : Str) (hs : s.length ≤ 1000000) : Calls Tryz.prog 115 #[.string (bs s)] w (UnfPost s w) := by
  have hsz : (bs s).size = s.length := rfl
  by_cases h4 : s.length < 4
  · have h4i : (s.length : Int) < 4 := by omega
    have HE := Lib.hid (unf_err (show unframeL s = .error 8 from if_pos h4))
    clear h4
    go_enter Tryz.func115, Tryz.ntmps115
    go_wp2_with fail
    go_ret3
    exact unf_empty HE.out (Fr.refl _ _)
  · have h4i : ¬ (s.length : Int) < 4 := by omega
    have H4 := Lib.hid h4
    clear h4
    go_enter Tryz.func115, Tryz.ntmps115
    go_wp2_with fail
    go_loopg [5, 6] 4 (fun j v5 v6 wr => ∃ (i m : Nat), i + j = 4 ∧ v6 = .int .i64 (i : Int) ∧ v5 = .int .i64 (m : Int) ∧ Hid (m = fold4 (s.take i)) ∧ m < 4294967296 ∧ w = wr)
    case atStart => exact ⟨0, 0, by omega, rfl, rfl, by show _ = _; simp [fold4], by omega, rfl⟩
    case round =>
      obtain ⟨i, m, hij, rfl, rfl, HM, hml, hw⟩ := hrel
      subst hw
      have HX := Lib.hid hij
      by_cases hi : i < 4
      · have hii : (i : Int) < 4 := by omega
        have hlt : i < s.length := by have := H4.out; omega
        have hz : i < (bs s).size := hlt
        have hg := bs_at s i hz
        have hli : (i : Int) < s.length := by omega
        obtain ⟨c, hc⟩ : ∃ c, s.getD i 0 = c := ⟨_, rfl⟩
        rw [hc] at hg
        have hcl := c.toNat_lt
        have hM2 : 256 * m + c.toNat = fold4 (s.take (i + 1)) := by rw [take_snoc hlt hc, fold4_snoc, HM.out]
        have hM3 := fold4_lt s (i + 1) (by omega)
        rw [← hM2] at hM3
        have HM2 := Lib.hid hM2
        have hw1 : IntKind.i64.wrap (256 * (m : Int)) = 256 * (m : Int) := IntWalk.i64_in _ (by omega)
        have hw2 : IntKind.i64.wrap (256 * (m : Int) + (c.toNat : Int)) = 256 * (m : Int) + (c.toNat : Int) := IntWalk.i64_in _ (by omega)
        have hw3 : IntKind.i64.wrap (c.toNat : Int) = (c.toNat : Int) := IntWalk.i64_in _ (by omega)
        clear hc hM2 hij
        go_wp2_with fail
        go_roundg (4 - (i + 1))
        case measure => have := HX.out; omega
        case rel => exact ⟨i + 1, 256 * m + c.toNat, by omega, by go_num, by go_num, HM2, hM3, rfl⟩
      · obtain rfl : i = 4 := by omega
        have hm : m = fourN s := by rw [HM.out, fold4_four (by have := H4.out; omega)]
        have HN := Lib.hid hm
        clear hm hij hi
        by_cases hb : 65536 < m
        · have hbi : (65536 : Int) < (m : Int) := by omega
          have HE := Lib.hid (unf_err (un_long H4.out (by rw [← HN.out]; exact hb)))
          clear hb
          go_wp2_with fail
          go_ret3
          exact unf_empty HE.out (Fr.refl _ _)
        · have hbi : ¬ (65536 : Int) < (m : Int) := by omega
          have hw1 : IntKind.i64.wrap (8 + (m : Int)) = 8 + (m : Int) := IntWalk.i64_in _ (by omega)
          by_cases hc : s.length < 8 + m
          · have hci : (s.length : Int) < 8 + (m : Int) := by omega
            have HE := Lib.hid (unf_err (un_cut H4.out (by rw [← HN.out]; exact hb) (by rw [← HN.out]; exact hc)))
            clear hb hc
            go_wp2_with fail
            go_ret3
            exact unf_empty HE.out (Fr.refl _ _)
          · have hci : ¬ (s.length : Int) < 8 + (m : Int) := by omega
            obtain ⟨t, ht⟩ : ∃ t, (s.take (8 + m)).drop 8 = t := ⟨_, rfl⟩
            obtain ⟨h, hh⟩ : ∃ h, s.take 4 = h := ⟨_, rfl⟩
            obtain ⟨md, hmd⟩ : ∃ x, (s.take 8).drop 4 = x := ⟨_, rfl⟩
            obtain ⟨x, hx⟩ : ∃ x, h ++ t = x := ⟨_, rfl⟩
            have hxl : x.length ≤ 100000 := by rw [← hx, ← hh, ← ht, List.length_append, List.length_take, List.length_drop, List.length_take]; omega
            obtain ⟨cr, hcr⟩ : ∃ x', crcL x = x' := ⟨_, rfl⟩
            obtain ⟨c4, hc4⟩ : ∃ x', fourL cr = x' := ⟨_, rfl⟩
            have HMID := frame_mid (s := s) (t := t) (by have := H4.out; omega) (by rw [← HN.out]; omega) (by rw [← HN.out]; exact ht)
            rw [hh, hmd, hx, hcr, hc4] at HMID
            have HMD := Lib.hid HMID
            have HUS := Lib.hid (fun hne => unf_err (un_sum (t := t) H4.out (by rw [← HN.out]; exact hb) (by rw [← HN.out]; exact hc) (by rw [← HN.out]; exact ht) hne))
            have HUD := Lib.hid (fun heq => unf_ok (un_done (t := t) H4.out (by rw [← HN.out]; exact hb) (by rw [← HN.out]; exact hc) (by rw [← HN.out]; exact ht) heq))
            have hcl : cr < 4294967296 := by rw [← hcr]; exact crc_lt x
            have HC := Lib.hid (fun (W : World) => (rcrc_h (w := W) x (by omega)).mono (R' := fun e w' => e = .returned (.int .u32 (cr : Int)) ∧ W = w') (by rintro e w' ⟨rfl, h⟩; exact ⟨by rw [hcr], h⟩))
            have HF := Lib.hid (fun (W : World) => (rfour_h (w := W) cr hcl).mono (R' := fun e w' => e = .returned (.string (bs c4)) ∧ Fr (fun _ => False) W w') (by rintro e w' ⟨rfl, h⟩; exact ⟨by rw [hc4], h⟩))
            have e1 := fun (W : World) => slice_run (w := W) s (i := 4) (j := 8) (a := 4) (b := 8) rfl rfl (by omega) (by omega)
            have e2 := fun (W : World) => slice_to' (w := W) s (k := 4) (by omega) (i := 4) rfl
            have e3 := fun (W : World) => slice_run (w := W) s (i := 8) (j := 8 + (m : Int)) (a := 8) (b := 8 + m) rfl (by omega) (by omega) (by omega)
            rw [hmd] at e1
            rw [hh] at e2
            rw [ht] at e3
            have e4 := fun (W : World) => sum_at W (a := h) (b := t) hx (by omega)
            clear hb hc ht hh hmd hx hxl hcr hc4 HMID
            go_upto_region 12 with fail
            by_cases he : c4 = md
            · subst he
              have HOK := Lib.hid (HUD.out (HMD.out.2 rfl))
              rw [← HN.out] at HOK
              go_cut [39] (fun s39 wx => Hid (s39 = .bool false ∧ Fr (fun _ => False) w wx))
              case first =>
                go_region_held (fun _ => True)
                  (trivial)
                  (first
                    | (go_at_call 152; (with_reducible refine Calls.mono (HC.out _) ?_); clear HC; rintro e wA ⟨rfl, hq⟩; subst hq)
                    | (go_at_call 151; (with_reducible refine Calls.mono (HF.out _) ?_); clear HF; rintro e wB ⟨rfl, hq⟩; have fB := (show Fr (fun _ => False) w _ by repeat (first | exact Fr.refl _ _ | refine Fr.drew ?_)).next hq; clear hq)
                    | fail)
                all_goals
                  go_wp2_with fail
                  go_meet
                  exact ⟨by first | rfl | simp [*], by first | exact fB | exact fB.drew⟩
              case rest =>
                obtain ⟨rfl, hf⟩ := hcut.out
                have HF := Lib.hid hf
                clear hf hcut e1 e2 e4
                go_wp2_with fail
                go_ret3
                exact unf_post (by rw [HOK.out]; first | rfl | (congr 1)) HF.out
            · have HE := Lib.hid (HUS.out (fun h => he (HMD.out.1 h)))
              have n1 : ((bs md).toList != (bs c4).toList) = true := by rw [bs_toList, bs_toList]; simpa using fun h : md = c4 => he h.symm
              have n2 : ¬ (bs md).toList = (bs c4).toList := by rw [bs_toList, bs_toList]; exact fun h => he h.symm
              clear he
              go_cut [39] (fun s39 wx => Hid (s39 = .bool true ∧ Fr (fun _ => False) w wx))
              case first =>
                go_region_held (fun _ => True)
                  (trivial)
                  (first
                    | (go_at_call 152; (with_reducible refine Calls.mono (HC.out _) ?_); clear HC; rintro e wA ⟨rfl, hq⟩; subst hq)
                    | (go_at_call 151; (with_reducible refine Calls.mono (HF.out _) ?_); clear HF; rintro e wB ⟨rfl, hq⟩; have fB := (show Fr (fun _ => False) w _ by repeat (first | exact Fr.refl _ _ | refine Fr.drew ?_)).next hq; clear hq)
                    | fail)
                all_goals
                  go_wp2_with fail
                  go_meet
                  exact ⟨by first | rfl | simp [*], by first | exact fB | exact fB.drew⟩
              case rest =>
                obtain ⟨rfl, hf⟩ := hcut.out
                have HF := Lib.hid hf
                clear hf hcut
                go_wp2_with fail
                go_ret3
                exact unf_empty HE.out HF.out
end Go.Proofs.YtgmghopcppniaaaGreatDoor

/- The reference's unframe (the long frames' error told as a form's): walked. -/
namespace Go.Proofs.YtgmghopcppniaaaGreatDoor
open Go.RowKit Go.Lib

def unf3D (s : Str) : (Str × Int) × Int := ((unfD s).1, if (unfD s).2 = 10 then 8 else (unfD s).2)
def Unf3Post (s : Str) (w : World) (e : Ending) (w' : World) : Prop := e = .returned (.tuple #[.string (bs (unf3D s).1.1), .int .i64 (unf3D s).1.2, .int .i64 (unf3D s).2]) ∧ Fr (fun _ => False) w w'
set_option maxRecDepth 100000 in
set_option maxHeartbeats 4000000 in
theorem runf3_h {w : World} (s : Str) (hs : s.length ≤ 1000000) : Calls Tryz.prog 63 #[.string (bs s)] w (Unf3Post s w) := by
  have HU := Lib.hid (runframe_h (w := w) s hs)
  obtain ⟨t, ht⟩ : ∃ t, (unfD s).1.1 = t := ⟨_, rfl⟩
  obtain ⟨n, hn⟩ : ∃ t, (unfD s).1.2 = t := ⟨_, rfl⟩
  obtain ⟨er, her⟩ : ∃ t, (unfD s).2 = t := ⟨_, rfl⟩
  have HP : Hid (∀ w', Fr (fun _ => False) w w' → Unf3Post s w (.returned (.tuple #[.string (bs t), .int .i64 n, .int .i64 (if er = 10 then 8 else er)])) w') := by
    intro w' hf
    unfold Unf3Post unf3D
    rw [ht, hn, her]; exact ⟨rfl, hf⟩
  have HC : Hid (Calls Tryz.prog 115 #[.string (bs s)] w fun e w' => e = .returned (.tuple #[.string (bs t), .int .i64 n, .int .i64 er]) ∧ Fr (fun _ => False) w w') := by
    show Calls _ _ _ _ _
    refine HU.out.mono ?_
    rintro e w' ⟨rfl, hf⟩
    exact ⟨by rw [ht, hn, her], hf⟩
  clear ht hn her HU
  go_enter Tryz.func63, Tryz.ntmps63
  go_wp2_with fail
  refine Calls.mono HC.out ?_
  rintro e w1 ⟨rfl, hf⟩
  have HF := Lib.hid hf
  clear hf
  by_cases h : er = 10
  · have q1 : (er == 10) = true := by simpa using h
    have HQ := Lib.hid (HP.out _ HF.out)
    rw [if_pos h] at HQ
    clear h HP
    go_wp2_with fail
    go_ret3
    exact HQ.out
  · have q1 : (er == 10) = false := by simpa using h
    have HQ := Lib.hid (HP.out _ HF.out)
    rw [if_neg h] at HQ
    clear h HP
    go_wp2_with fail
    go_ret3
    exact HQ.out
end Go.Proofs.YtgmghopcppniaaaGreatDoor

/- The reference's head: walked. -/
namespace Go.Proofs.YtgmghopcppniaaaGreatDoor
open Go.RowKit Go.Lib

/-- what is wrong with the numbers that were read -/
theorem head_wrong {s rest : Str} {ns : List Int} (h : NumsAt s ns rest) (hgo : ¬ (rest ≠ [] ∧ ns.length < 20)) (hb : ns.length < 4 ∨ ns.getD 2 0 < 0 ∨ 9 < ns.getD 2 0 ∨ ¬ (ns.length : Int) = 4 + ns.getD 2 0) : headOf s = none := by
  by_cases hr : rest = []
  · subst hr
    unfold headOf
    rw [h.done 13]
    by_cases hl : ns.length ≤ 13
    · rw [if_pos hl]
      dsimp only
      rw [if_pos (by omega)]
    · rw [if_neg hl]
  · unfold headOf
    rw [h.full hr (by have : ¬ ns.length < 20 := fun h => hgo ⟨hr, h⟩; omega)]
theorem rtoInt_at {w : World} {s : Str} (hs : s.length ≤ 1000000) {n : Int} {t : Str} {ok : Bool} (h : toIntD s = ((n, t), ok)) :
    Calls Tryz.prog 116 #[.string (bs s)] w fun e w' => e = .returned (.tuple #[.int .i64 n, .string (bs t), .bool ok]) ∧ Fr (fun _ => False) w w' := by
  refine (rtoInt_h s hs).mono ?_
  rintro e w' ⟨rfl, hf⟩
  exact ⟨by rw [h], hf⟩
theorem HRel.next {w wr w2 : World} {s rest : Str} {ns : List Int} {v : Value} (h : HRel w s ns rest v wr) (hf : Fr (fun _ => False) wr w2) : HRel w s ns rest v w2 :=
  ⟨h.at', ownsRow_keep h.row (fun k hk => hf.block k (h.row.lt k hk).2 (fun h => h)), h.fr.next hf, hf.keep h.res (fun h => h)⟩
set_option maxRecDepth 100000 in
set_option maxHeartbeats 16000000 in
theorem rhead_h {w : World} (s : Str) (hs : s.length ≤ 1000000) : Calls Tryz.prog 64 #[.string (bs s)] w (HeadPost s w) := by
  obtain ⟨i0, hi, hz0, hz1, hz2⟩ := info_parts info3
  obtain ⟨w1, hw1⟩ : ∃ w1, w1 = w.alloc (.cells #[.int .i64 0, .int .i64 0, .slice none 0 0, .string ⟨#[]⟩] 24) := ⟨_, rfl⟩
  have HR0 : Hid (HRel w s [] s (.slice none 0 0) w1) := by
    show HRel _ _ _ _ _ _
    rw [hw1]
    exact ⟨NumsAt.start s, World.ownsRow_nil _ _ _ _, (Fr.refl _ _).alloc _, block_new _ _⟩
  go_enter Tryz.func64, Tryz.ntmps64
  go_wp2_with fail
  rw [← hw1]
  clear hw1
  go_loopg [5, 6] 20 (fun j v5 v6 wr => ∃ (ns : List Int) (rest : Str), v6 = .string (bs rest) ∧ j + ns.length = 20 ∧ rest.length ≤ 1000000 ∧ Hid (HRel w s ns rest v5 wr))
  case atStart => exact ⟨[], s, rfl, by simp, hs, HR0.out⟩
  case round =>
    obtain ⟨ns, rest, rfl, hj, hrl, HL⟩ := hrel
    have HJ := Lib.hid hj
    clear hj
    obtain ⟨sa, sc, rfl⟩ : ∃ a c, u5 = .slice a ns.length c := ownsRow_shape HL.out.row
    have hrsz : (bs rest).size = rest.length := rfl
    by_cases hgo : rest ≠ [] ∧ ns.length < 20
    · obtain ⟨hne, hlt⟩ := hgo
      have hpos : (0 : Int) < (rest.length : Int) := by have := List.length_pos_iff.2 hne; omega
      have hlti : (ns.length : Int) < 20 := by omega
      have HNE := Lib.hid hne
      clear hne
      cases ht : toIntL rest with
      | none =>
        have HT := Lib.hid (rtoInt_at (w := wr) hrl (toIntD_no ht))
        have HE := Lib.hid (head_bad (HL.out.at'.bad HNE.out ht 13))
        clear ht
        go_wp2_with (go_at_call 116; refine Calls.mono HT.out ?_)
        rintro e w2 ⟨rfl, hf2⟩
        have HL2 := Lib.hid (HL.out.next hf2)
        have hres := HL2.out.res
        have x0 := cell_of hres (i := 0) (v := .int .i64 0) rfl
        have x1 := cell_of hres (i := 1) (v := .int .i64 0) rfl
        have x2 := cell_of hres (i := 2) (v := .slice none 0 0) rfl
        have x3 := cell_of hres (i := 3) (v := .string ⟨#[]⟩) rfl
        have f0 := free_of 0 hres
        have f1 := free_of 1 hres
        have f2 := free_of 2 hres
        have f3 := free_of 3 hres
        have hwl := lt_of_block hres
        clear hres hf2
        go_wp2_with fail
        have hz := block_set4 (a := .int .i64 0) (b := .int .i64 0) (c := .slice none 0 0) (d := .string ⟨#[]⟩) HL2.out.res
        have e0 := cell_of hz (i := 0) (v := .int .i64 0) rfl
        have e1 := cell_of hz (i := 1) (v := .int .i64 0) rfl
        have e2 := cell_of hz (i := 2) (v := .slice none 0 0) rfl
        have e3 := cell_of hz (i := 3) (v := .string ⟨#[]⟩) rfl
        refine bodyPost_ret (v := .tuple #[.agg #[.int .i64 0, .int .i64 0, .slice none 0 0, .string ⟨#[]⟩], .int .i64 0, .bool false]) (by simp [results, Tryz.results64, go_sem, e0, e1, e2, e3] <;> rfl) rfl ?_
        exact head_none HE.out ⟨_, _, _, _, _, _, _, rfl, fr_set4 HL2.out.fr (Nat.le_refl _)⟩
      | some q =>
        obtain ⟨n, t⟩ := q
        have HT := Lib.hid (rtoInt_at (w := wr) hrl (toIntD_yes ht))
        have HN := Lib.hid (HL.out.at'.more ht)
        have htl := toInt_less ht
        clear ht
        go_wp2_with (go_at_call 116; refine Calls.mono HT.out ?_)
        rintro e w2 ⟨rfl, hf2⟩
        have HL2 := Lib.hid (HL.out.next hf2)
        have hown : w2.ownsRow w.heap.size 3 1 (.slice sa ns.length sc) ns.length (ns.map (Value.int .i64)) := HL2.out.row
        clear hf2
        go_wp2_with (at_builtin; refine wpList_append_shape rfl _ _ 22 rfl w.heap.size 3 i0 (.int .i64 0) 1 8 Tryz.underlying22 hi hz0 hz1 hz2 rfl (by decide) _ _ _ rfl (hown.alloc _) ⟨w2.heap.size, 0, none⟩ 1 1 [.int .i64 n] rfl rfl ?c1 ?c2 ?c3 ?c4 ?c5 (by omega) ?_)
        case c1 =>
          intro j u hj
          match j, hj with
          | 0, hj => simp at hj; subst hj; simp [Addr.add]
        case c2 => intro u hu; simp at hu; subst hu; rfl
        case c3 => unfold maxLen; omega
        case c4 => omega
        case c5 => have := HL2.out.fr.size; simp; omega
        intro g cap w3 hown3 hg3 _
        have hfr3 : Fr (fun _ => False) w w3 := (HL2.out.fr.alloc (.cells #[.int .i64 n] 3)).grown hg3 fun k hk => .inr (HL2.out.row.lt k hk).1
        have hre3 := block_grown (block_old HL2.out.res (.cells #[.int .i64 n] 3)) hg3 (fun e => own_ne HL2.out.row HL2.out.res (by decide) e.symm)
        have HR3 : Hid (HRel w s (ns ++ [n]) t (.slice (some ⟨g, 0, none⟩) (ns ++ [n]).length cap) w3) := ⟨HN.out, by rw [List.length_append, List.map_append]; exact hown3, hfr3, hre3⟩
        rw [List.length_append, List.length_singleton] at HR3
        clear hown3 hg3 hfr3 hre3 hown
        go_wp2_with fail
        go_roundg (20 - (ns.length + 1))
        case measure => have := HJ.out; omega
        case rel => exact ⟨ns ++ [n], t, rfl, by rw [List.length_append, List.length_singleton]; omega, by omega, HR3⟩
    · have hnl : ns.length ≤ 20 := by have := HJ.out; omega
      have hres := HL.out.res
      have x0 := cell_of hres (i := 0) (v := .int .i64 0) rfl
      have x1 := cell_of hres (i := 1) (v := .int .i64 0) rfl
      have x2 := cell_of hres (i := 2) (v := .slice none 0 0) rfl
      have x3 := cell_of hres (i := 3) (v := .string ⟨#[]⟩) rfl
      have f0 := free_of 0 hres
      have f1 := free_of 1 hres
      have f2 := free_of 2 hres
      have f3 := free_of 3 hres
      have hwl := lt_of_block hres
      clear hres
      have HGO := Lib.hid hgo
      have HW := Lib.hid (fun hb => head_wrong HL.out.at' HGO.out hb)
      -- the head of the loop ends
      have HEND : Hid (¬ (0 : Int) < (rest.length : Int) ∨ ((0 : Int) < (rest.length : Int) ∧ ¬ (ns.length : Int) < 20)) := by
        show _ ∨ _
        by_cases hr : rest = []
        · left; rw [hr]; simp
        · right; have := List.length_pos_iff.2 hr; exact ⟨by omega, fun h => hgo ⟨hr, by omega⟩⟩
      clear hgo
      go_upto_region 3 with fail
      go_cut [21] (fun s21 wx => s21 = .bool false ∧ wr = wx)
      case first =>
        rcases HEND.out with hq | ⟨hq, hq2⟩
        · go_wp2_with fail
          go_meet
          exact ⟨rfl, rfl⟩
        · go_wp2_with fail
          go_meet
          exact ⟨rfl, rfl⟩
      case rest =>
        obtain ⟨rfl, rfl⟩ := hcut
        by_cases h4 : ns.length < 4
        · have h4i : (ns.length : Int) < 4 := by omega
          have HE := Lib.hid (HW.out (Or.inl h4))
          go_wp2_with fail
          have hz := block_set4 (a := .int .i64 0) (b := .int .i64 0) (c := .slice none 0 0) (d := .string ⟨#[]⟩) HL.out.res
          have e0 := cell_of hz (i := 0) (v := .int .i64 0) rfl
          have e1 := cell_of hz (i := 1) (v := .int .i64 0) rfl
          have e2 := cell_of hz (i := 2) (v := .slice none 0 0) rfl
          have e3 := cell_of hz (i := 3) (v := .string ⟨#[]⟩) rfl
          refine bodyPost_ret (v := .tuple #[.agg #[.int .i64 0, .int .i64 0, .slice none 0 0, .string ⟨#[]⟩], .int .i64 0, .bool false]) (by simp [results, Tryz.results64, go_sem, e0, e1, e2, e3] <;> rfl) rfl ?_
          exact head_none HE.out ⟨_, _, _, _, _, _, _, rfl, fr_set4 HL.out.fr (Nat.le_refl _)⟩
        · have h4i : ¬ (ns.length : Int) < 4 := by omega
          obtain ⟨g, cap, hv, hgB, hnc, hcm⟩ := ownsRow_form HL.out.row (by omega)
          injection hv with hv1 _ hv2
          subst hv1; subst hv2
          obtain ⟨c, hc⟩ : ∃ c, ns[2]? = some c := ⟨_, List.getElem?_eq_getElem (by omega)⟩
          have y2 := ownsRow_cell HL.out.row (i := 2) (v := .int .i64 c) (by rw [List.getElem?_map, hc]; rfl)
          have hcD : ns.getD 2 0 = c := by rw [List.getD_eq_getElem?_getD, hc]; rfl
          have HC := Lib.hid hcD
          have hn2 : 2 < ns.length := by omega
          have hp2 : (2 : Int) < ns.length := by omega
          clear hc
          rw [hcD] at HW
          clear hcD
          by_cases hc0 : c < 0
          · clear h4
            have HE := Lib.hid (HW.out (Or.inr (Or.inl hc0)))
            go_wp2_with fail
            have hz := block_set4 (a := .int .i64 0) (b := .int .i64 0) (c := .slice none 0 0) (d := .string ⟨#[]⟩) HL.out.res
            have e0 := cell_of hz (i := 0) (v := .int .i64 0) rfl
            have e1 := cell_of hz (i := 1) (v := .int .i64 0) rfl
            have e2 := cell_of hz (i := 2) (v := .slice none 0 0) rfl
            have e3 := cell_of hz (i := 3) (v := .string ⟨#[]⟩) rfl
            refine bodyPost_ret (v := .tuple #[.agg #[.int .i64 0, .int .i64 0, .slice none 0 0, .string ⟨#[]⟩], .int .i64 0, .bool false]) (by simp [results, Tryz.results64, go_sem, e0, e1, e2, e3] <;> rfl) rfl ?_
            exact head_none HE.out ⟨_, _, _, _, _, _, _, rfl, fr_set4 HL.out.fr (Nat.le_refl _)⟩
          · by_cases hc9 : 9 < c
            · clear h4
              have HE := Lib.hid (HW.out (Or.inr (Or.inr (Or.inl hc9))))
              go_wp2_with fail
              have hz := block_set4 (a := .int .i64 0) (b := .int .i64 0) (c := .slice none 0 0) (d := .string ⟨#[]⟩) HL.out.res
              have e0 := cell_of hz (i := 0) (v := .int .i64 0) rfl
              have e1 := cell_of hz (i := 1) (v := .int .i64 0) rfl
              have e2 := cell_of hz (i := 2) (v := .slice none 0 0) rfl
              have e3 := cell_of hz (i := 3) (v := .string ⟨#[]⟩) rfl
              refine bodyPost_ret (v := .tuple #[.agg #[.int .i64 0, .int .i64 0, .slice none 0 0, .string ⟨#[]⟩], .int .i64 0, .bool false]) (by simp [results, Tryz.results64, go_sem, e0, e1, e2, e3] <;> rfl) rfl ?_
              exact head_none HE.out ⟨_, _, _, _, _, _, _, rfl, fr_set4 HL.out.fr (Nat.le_refl _)⟩
            · obtain ⟨k, hk⟩ : ∃ k : Nat, c = (k : Int) := ⟨c.toNat, by omega⟩
              subst hk
              have hw4 : IntKind.i64.wrap (4 + (k : Int)) = 4 + (k : Int) := IntWalk.i64_in _ (by omega)
              by_cases hq : (ns.length : Int) = 4 + (k : Int)
              · have hrn : rest = [] := Classical.byContradiction fun hr => HGO.out ⟨hr, by omega⟩
                have u1 : ((bs rest).toList != []) = false := by rw [bs_toList, hrn]; rfl
                have u2 : (bs rest).toList.isEmpty = true := by rw [bs_toList, hrn]; rfl
                have u3 : (bs rest).toList = [] := by rw [bs_toList, hrn]
                have HNS : Hid (numsF 13 s = some ns) := by
                  show numsF 13 s = _
                  have := HL.out.at'
                  rw [hrn] at this
                  rw [this.done 13, if_pos (by omega)]
                have q1 : ((ns.length : Int) == 4 + (k : Int)) = true := by simpa using hq
                obtain ⟨ci, hci⟩ : ∃ c, ns[0]? = some c := ⟨_, List.getElem?_eq_getElem (by omega)⟩
                obtain ⟨ct, hct⟩ : ∃ c, ns[1]? = some c := ⟨_, List.getElem?_eq_getElem (by omega)⟩
                obtain ⟨cl, hcl⟩ : ∃ c, ns[ns.length - 1]? = some c := ⟨_, List.getElem?_eq_getElem (by omega)⟩
                have y0 := ownsRow_cell HL.out.row (i := 0) (v := .int .i64 ci) (by rw [List.getElem?_map, hci]; rfl)
                have y1 := ownsRow_cell HL.out.row (i := 1) (v := .int .i64 ct) (by rw [List.getElem?_map, hct]; rfl)
                have hkl : ns.length - 1 = 3 + k := by omega
                have yl := ownsRow_cell HL.out.row (i := 3 + k) (v := .int .i64 cl) (by rw [List.getElem?_map, ← hkl, hcl]; rfl)
                have HCI := Lib.hid hci
                have HCT := Lib.hid hct
                have HCL := Lib.hid hcl
                have HKL := Lib.hid hkl
                have hti : (3 + (k : Int)).toNat = 3 + k := by omega
                have hw3 : IntKind.i64.wrap (3 + (k : Int)) = 3 + (k : Int) := IntWalk.i64_in _ (by omega)
                have hge : (0 : Int) ≤ 3 + (k : Int) := by omega
                have hlt1 : 3 + (k : Int) < ns.length := by omega
                have hle3 : (3 : Int) ≤ 3 + (k : Int) := by omega
                have hlc : 3 + (k : Int) ≤ sc := by omega
                have hlcn : 3 + k ≤ sc := by omega
                have hlnn : 3 + k < ns.length := by omega
                have hn0 : 0 < ns.length := by omega
                have hn1 : 1 < ns.length := by omega
                have hp0 : (0 : Int) < ns.length := by omega
                have hp1 : (1 : Int) < ns.length := by omega
                have HQ := Lib.hid hq
                have H4 := Lib.hid h4
                clear hci hct hcl hkl hrn
                go_upto_region 11 with fail
                clear hq h4 q1 hw4 u1 u2 u3
                go_cut [10] (fun s10 wx => s10 = .pointer (some ⟨wr.heap.size, 0, none⟩) ∧ wx.heap[wr.heap.size]? = some (.cells #[.int .i64 ci, .int .i64 ct, .slice (some ⟨g, 3, none⟩) k (sc - 3), .string ⟨#[]⟩] 24 (0, 0)) ∧ Fr (fun _ => False) wr wx)
                case first =>
                  go_region_held (fun w' => w'.cell? ⟨g, 0, none⟩ = some (.int .i64 ci) ∧ w'.cell? ⟨g, 1, none⟩ = some (.int .i64 ct) ∧ w'.cell? ⟨g, 2, none⟩ = some (.int .i64 (k : Int)))
                    (first | go_keep | fail)
                    (fail)
                  all_goals
                    go_wp2_with fail
                    go_meet
                    exact ⟨rfl, block_new _ _, ((Fr.refl _ _).alloc _).drew⟩
                case rest =>
                  obtain ⟨rfl, hk, hF⟩ := hcut
                  have HBI : Hid (BaseIn wc (fun j => j = g) ⟨ci, ct, (ns.take (ns.length - 1)).drop 3, []⟩ (.slice (some ⟨g, 3, none⟩) k (sc - 3))) := by
                    have h := head_base (HL.out.at'.inr) HCI.out HCT.out (HL.out.row) (by have := H4.out; omega) (by omega) hF
                    rw [show ns.length - 1 - 3 = k by have := HKL.out; omega] at h
                    exact h
                  have HHB := Lib.hid (head_of (cl := cl) HNS.out H4.out HC.out (by have := HQ.out; omega) HCI.out HCT.out HCL.out)
                  have hfW := HL.out.fr.next hF
                  have hres2 := hF.keep HL.out.res (fun h => h)
                  have k0 := cell_of hk (i := 0) (v := .int .i64 ci) rfl
                  have k1 := cell_of hk (i := 1) (v := .int .i64 ct) rfl
                  have k2 := cell_of hk (i := 2) (v := .slice (some ⟨g, 3, none⟩) k (sc - 3)) rfl
                  have k3 := cell_of hk (i := 3) (v := .string ⟨#[]⟩) rfl
                  have hkl := lt_of_block hk
                  have HK := Lib.hid hk
                  have HFW := Lib.hid hfW
                  have HFC := Lib.hid hF
                  have HRS := Lib.hid hres2
                  have hclI := HL.out.at'.inr cl (List.mem_of_getElem? HCL.out)
                  unfold I64 at hclI
                  obtain ⟨L, hL⟩ : ∃ L, (ns.take (ns.length - 1)).drop 3 = L := ⟨_, rfl⟩
                  rw [hL] at HBI HHB
                  have hgl0 : w.heap.size < wr.heap.size := lt_of_block HL.out.res
                  have hgl : ¬ wr.heap.size = w.heap.size := by omega
                  have hgl2 : ¬ w.heap.size = wr.heap.size := by omega
                  have HBJ := Lib.hid (show Calls Tryz.prog 23 #[.agg #[.int .i64 ci, .int .i64 ct, .slice (some ⟨g, 3, none⟩) k (sc - 3), .string ⟨#[]⟩]] wc (RightPost ⟨ci, ct, L, []⟩ wc) from rright_h HBI.out)
                  have HGN := Lib.hid (fun e : g = w.heap.size => own_ne HL.out.row HL.out.res (by decide) (by rw [← e]; rfl))
                  have HGL := Lib.hid (HL.out.row.lt g rfl).2
                  have yc := hF.cell y2 (fun h => h)
                  have yd := hF.cell yl (fun h => h)
                  have HYC := Lib.hid yc
                  have HYD := Lib.hid yd
                  clear hk hF hfW hres2 x0 x1 x2 x3 f0 f1 f2 f3 y0 y1 y2 yl hL hwl yc yd
                  go_wp2_with fail
                  refine Calls.mono HBJ.out ?_
                  rintro e w6 ⟨rfl, hq6⟩
                  have f6 := hq6
                  have HF6 := Lib.hid hq6
                  have s0 := f6.cell k0 (fun h => h)
                  have s1 := f6.cell k1 (fun h => h)
                  have s2 := f6.cell k2 (fun h => h)
                  have s3 := f6.cell k3 (fun h => h)
                  have y2 := f6.cell HYC.out (fun h => h)
                  have yl := f6.cell HYD.out (fun h => h)
                  have hr6 := f6.keep HRS.out (fun h => h)
                  have x0 := cell_of hr6 (i := 0) (v := .int .i64 0) rfl
                  have x1 := cell_of hr6 (i := 1) (v := .int .i64 0) rfl
                  have x2 := cell_of hr6 (i := 2) (v := .slice none 0 0) rfl
                  have x3 := cell_of hr6 (i := 3) (v := .string ⟨#[]⟩) rfl
                  have f0 := free_of 0 hr6
                  have f1 := free_of 1 hr6
                  have f2 := free_of 2 hr6
                  have f3 := free_of 3 hr6
                  have hwl := lt_of_block hr6
                  have HR6 := Lib.hid hr6
                  clear f6 hq6 hr6 k0 k1 k2 k3
                  have hgk : BaseIn w6 (fun j => j = g) ⟨ci, ct, L, []⟩ (.slice (some ⟨g, 3, none⟩) k (sc - 3)) := HBI.out.grow HF6.out
                  have HGK := Lib.hid hgk
                  clear hgk HBJ
                  cases hrt : rightB ⟨ci, ct, L, []⟩ with
                  | true =>
                    by_cases hc0 : 0 ≤ cl
                    · by_cases hc4 : cl ≤ 4000000
                      · have HE : Hid (headOf s = some (⟨ci, ct, L, []⟩, cl)) := by show headOf s = _; rw [HHB.out, if_pos ⟨hrt, hc0, hc4⟩]
                        clear hrt
                        go_wp2_with fail
                        have hz := block_set4 (a := .int .i64 ci) (b := .int .i64 ct) (c := .slice (some ⟨g, 3, none⟩) k (sc - 3)) (d := .string ⟨#[]⟩) HR6.out
                        have e0 := cell_of hz (i := 0) (v := .int .i64 ci) rfl
                        have e1 := cell_of hz (i := 1) (v := .int .i64 ct) rfl
                        have e2 := cell_of hz (i := 2) (v := .slice (some ⟨g, 3, none⟩) k (sc - 3)) rfl
                        have e3 := cell_of hz (i := 3) (v := .string ⟨#[]⟩) rfl
                        refine bodyPost_ret (v := .tuple #[.agg #[.int .i64 ci, .int .i64 ct, .slice (some ⟨g, 3, none⟩) k (sc - 3), .string ⟨#[]⟩], .int .i64 cl, .bool true]) (by simp [results, Tryz.results64, go_sem, e0, e1, e2, e3] <;> rfl) rfl ?_
                        exact head_some HE.out ⟨_, rfl, head_fin HGK.out HGN.out hgB HGL.out (Nat.le_trans HFC.out.size HF6.out.size), fr_set4 (HFW.out.next HF6.out) (Nat.le_refl _)⟩
                      · have hc4n : ¬ cl ≤ 4000000 := hc4
                        have hc4d : decide (cl ≤ 4000000) = false := decide_eq_false hc4
                        have HE : Hid (headOf s = none) := by show headOf s = _; rw [HHB.out, if_neg (fun h => hc4 h.2.2)]
                        clear hrt hc4
                        go_wp2_with fail
                        have hz := block_set4 (a := .int .i64 ci) (b := .int .i64 ct) (c := .slice (some ⟨g, 3, none⟩) k (sc - 3)) (d := .string ⟨#[]⟩) HR6.out
                        have e0 := cell_of hz (i := 0) (v := .int .i64 ci) rfl
                        have e1 := cell_of hz (i := 1) (v := .int .i64 ct) rfl
                        have e2 := cell_of hz (i := 2) (v := .slice (some ⟨g, 3, none⟩) k (sc - 3)) rfl
                        have e3 := cell_of hz (i := 3) (v := .string ⟨#[]⟩) rfl
                        refine bodyPost_ret (v := .tuple #[.agg #[.int .i64 ci, .int .i64 ct, .slice (some ⟨g, 3, none⟩) k (sc - 3), .string ⟨#[]⟩], .int .i64 cl, .bool false]) (by simp [results, Tryz.results64, go_sem, e0, e1, e2, e3] <;> rfl) rfl ?_
                        exact head_none HE.out ⟨_, _, _, _, _, _, _, rfl, fr_set4 (HFW.out.next HF6.out) (Nat.le_refl _)⟩
                    · have hc0n : ¬ 0 ≤ cl := hc0
                      have hc0d : decide (0 ≤ cl) = false := decide_eq_false hc0
                      have HE : Hid (headOf s = none) := by show headOf s = _; rw [HHB.out, if_neg (fun h => hc0 h.2.1)]
                      clear hrt hc0
                      go_wp2_with fail
                      have hz := block_set4 (a := .int .i64 ci) (b := .int .i64 ct) (c := .slice (some ⟨g, 3, none⟩) k (sc - 3)) (d := .string ⟨#[]⟩) HR6.out
                      have e0 := cell_of hz (i := 0) (v := .int .i64 ci) rfl
                      have e1 := cell_of hz (i := 1) (v := .int .i64 ct) rfl
                      have e2 := cell_of hz (i := 2) (v := .slice (some ⟨g, 3, none⟩) k (sc - 3)) rfl
                      have e3 := cell_of hz (i := 3) (v := .string ⟨#[]⟩) rfl
                      refine bodyPost_ret (v := .tuple #[.agg #[.int .i64 ci, .int .i64 ct, .slice (some ⟨g, 3, none⟩) k (sc - 3), .string ⟨#[]⟩], .int .i64 cl, .bool false]) (by simp [results, Tryz.results64, go_sem, e0, e1, e2, e3] <;> rfl) rfl ?_
                      exact head_none HE.out ⟨_, _, _, _, _, _, _, rfl, fr_set4 (HFW.out.next HF6.out) (Nat.le_refl _)⟩
                  | false =>
                    have HE : Hid (headOf s = none) := by show headOf s = _; rw [HHB.out, if_neg (fun h => by rw [hrt] at h; cases h.1)]
                    clear hrt
                    go_wp2_with fail
                    have hz := block_set4 (a := .int .i64 ci) (b := .int .i64 ct) (c := .slice (some ⟨g, 3, none⟩) k (sc - 3)) (d := .string ⟨#[]⟩) HR6.out
                    have e0 := cell_of hz (i := 0) (v := .int .i64 ci) rfl
                    have e1 := cell_of hz (i := 1) (v := .int .i64 ct) rfl
                    have e2 := cell_of hz (i := 2) (v := .slice (some ⟨g, 3, none⟩) k (sc - 3)) rfl
                    have e3 := cell_of hz (i := 3) (v := .string ⟨#[]⟩) rfl
                    refine bodyPost_ret (v := .tuple #[.agg #[.int .i64 ci, .int .i64 ct, .slice (some ⟨g, 3, none⟩) k (sc - 3), .string ⟨#[]⟩], .int .i64 cl, .bool false]) (by simp [results, Tryz.results64, go_sem, e0, e1, e2, e3] <;> rfl) rfl ?_
                    exact head_none HE.out ⟨_, _, _, _, _, _, _, rfl, fr_set4 (HFW.out.next HF6.out) (Nat.le_refl _)⟩
              · have q1 : ((ns.length : Int) == 4 + (k : Int)) = false := by simpa using hq
                have q2 : decide ((ns.length : Int) = 4 + (k : Int)) = false := by simpa using hq
                clear h4
                have HE := Lib.hid (HW.out (Or.inr (Or.inr (Or.inr hq))))
                go_wp2_with fail
                have hz := block_set4 (a := .int .i64 0) (b := .int .i64 0) (c := .slice none 0 0) (d := .string ⟨#[]⟩) HL.out.res
                have e0 := cell_of hz (i := 0) (v := .int .i64 0) rfl
                have e1 := cell_of hz (i := 1) (v := .int .i64 0) rfl
                have e2 := cell_of hz (i := 2) (v := .slice none 0 0) rfl
                have e3 := cell_of hz (i := 3) (v := .string ⟨#[]⟩) rfl
                refine bodyPost_ret (v := .tuple #[.agg #[.int .i64 0, .int .i64 0, .slice none 0 0, .string ⟨#[]⟩], .int .i64 0, .bool false]) (by simp [results, Tryz.results64, go_sem, e0, e1, e2, e3] <;> rfl) rfl ?_
                exact head_none HE.out ⟨_, _, _, _, _, _, _, rfl, fr_set4 HL.out.fr (Nat.le_refl _)⟩
end Go.Proofs.YtgmghopcppniaaaGreatDoor

/- The reference's Unpack: walked. -/
namespace Go.Proofs.YtgmghopcppniaaaGreatDoor
open Go.RowKit Go.Lib

theorem unf3_ok {s t r : Str} (h : takeL s = .ok (t, r)) : ∃ n : Nat, unf3D s = ((t, (n : Int)), 0) ∧ n ≤ s.length ∧ s.drop n = r := by
  unfold takeL at h
  cases hu : unframeL s with
  | error e => rw [hu] at h; cases h
  | ok p =>
    obtain ⟨t2, n⟩ := p
    rw [hu] at h
    simp only [Except.ok.injEq, Prod.mk.injEq] at h
    obtain ⟨rfl, rfl⟩ := h
    refine ⟨n, ?_, (unframe_back hu).2.2.2, rfl⟩
    unfold unf3D
    rw [unf_ok hu]
    rfl
theorem unf3_no {s : Str} {er : Int} (h : takeL s = .error er) : unf3D s = (([], 0), er) := by
  unfold takeL at h
  cases hu : unframeL s with
  | ok p => rw [hu] at h; cases h
  | error e =>
    rw [hu] at h
    simp only [Except.error.injEq] at h
    subst h
    unfold unf3D
    rw [unf_err hu]
    dsimp only
    rcases unframe_err hu with rfl | rfl | rfl <;> rfl
theorem rtake_no_h {w : World} {s : Str} {er : Int} (h : takeL s = .error er) (hs : s.length ≤ 1000000) : Calls Tryz.prog 63 #[.string (bs s)] w fun e w' => e = .returned (.tuple #[.string (bs []), .int .i64 0, .int .i64 er]) ∧ Fr (fun _ => False) w w' := by
  refine (runf3_h s hs).mono ?_
  rintro e w' ⟨rfl, hf⟩
  rw [unf3_no h]
  exact ⟨rfl, hf⟩
theorem rtake_ok_h {w : World} {s t : Str} {n : Int} (h : unf3D s = ((t, n), 0)) (hs : s.length ≤ 1000000) : Calls Tryz.prog 63 #[.string (bs s)] w fun e w' => e = .returned (.tuple #[.string (bs t), .int .i64 n, .int .i64 0]) ∧ Fr (fun _ => False) w w' := by
  refine (runf3_h s hs).mono ?_
  rintro e w' ⟨rfl, hf⟩
  rw [h]
  exact ⟨rfl, hf⟩
theorem rhead_no_h {w : World} {s : Str} (hs : s.length ≤ 1000000) (h : headOf s = none) : Calls Tryz.prog 64 #[.string (bs s)] w (HeadNo w) := by
  refine (rhead_h s hs).mono ?_
  intro e w' hp
  unfold HeadPost at hp
  rwa [h] at hp
theorem rhead_ok_h {w : World} {s : Str} {b : BaseD} {long : Int} (hs : s.length ≤ 1000000) (h : headOf s = some (b, long)) : Calls Tryz.prog 64 #[.string (bs s)] w (HeadOk b long w) := by
  refine (rhead_h s hs).mono ?_
  intro e w' hp
  unfold HeadPost at hp
  rwa [h] at hp
set_option maxRecDepth 100000 in
theorem bytes_conv {w : World} {base cv : Nat} {l : Str} {bv : Option Addr} (h : w.ownsRow base 5 1 (.slice bv l.length cv) l.length (l.map encB)) : Sem.run Tryz.prog (convert 33 9 (.slice bv l.length cv)) w = .ok (.string (bs l)) w := by
  by_cases h0 : 0 < l.length
  · obtain ⟨g, cap, hv, _⟩ := ownsRow_form h h0
    injection hv with hv1 _ hv2
    subst hv1; subst hv2
    exact bytes_string h rfl
  · have e : l = [] := by cases l with | nil => rfl | cons a l => simp at h0
    subst e
    cases bv with
    | none => exact run_convert_nil_bytes _ 33 9 5 cv Tryz.underlying33 Tryz.underlying5 Tryz.underlying9
    | some a => exact run_convert_bytes_back _ 33 9 5 a cv [] Tryz.underlying33 Tryz.underlying5 Tryz.underlying9 fun j hj => by simp at hj
/-- while the data are read -/
structure RVRel (w4 : World) (r : Str) (long : Int) (j : Nat) (d rest : Str) (v : Value) (wr : World) : Prop where
  data : dataF (r.length + 1) long [] r = dataF j long d rest
  row : wr.ownsRow w4.heap.size 5 1 v d.length (d.map encB)
  fr : Fr (fun _ => False) w4 wr
set_option maxRecDepth 100000 in
set_option maxHeartbeats 16000000 in
theorem runpack_h {w : World} (s : Str) (hs : s.length ≤ 1000000) : Calls Tryz.prog 17 #[.string (bs s)] w (UnpPost s w) := by
  obtain ⟨i0, hi, hz0, hz1, hz2⟩ := info_parts info5
  have hssz : (bs s).size = s.length := rfl
  obtain ⟨w1, hw1⟩ : ∃ w1, w1 = w.alloc (.cells #[.int .i64 0, .int .i64 0, .slice none 0 0, .string ⟨#[]⟩] 24) := ⟨_, rfl⟩
  have HF1 : Hid (Fr (fun _ => False) w w1) := by show Fr _ _ _; rw [hw1]; exact (Fr.refl _ _).alloc _
  have HB1 : Hid (w1.heap[w.heap.size]? = some (.cells #[.int .i64 0, .int .i64 0, .slice none 0 0, .string ⟨#[]⟩] 24 (0, 0))) := by show w1.heap[w.heap.size]? = _; rw [hw1]; exact block_new _ _
  cases ht : takeL s with
  | error er =>
    have HT := Lib.hid (rtake_no_h (w := w1) ht hs)
    have HE := Lib.hid (unpack_take ht)
    have her : er ≠ 0 := by rcases take_err ht with h | h <;> omega
    have q1 : (er == 0) = false := by simpa using her
    clear ht
    go_enter Tryz.func17, Tryz.ntmps17
    go_wp2_with fail
    rw [← hw1]
    clear hw1
    refine Calls.mono HT.out ?_
    rintro e w2 ⟨rfl, hf⟩
    have hres := hf.keep HB1.out (fun h => h)
    have x0 := cell_of hres (i := 0) (v := .int .i64 0) rfl
    have x1 := cell_of hres (i := 1) (v := .int .i64 0) rfl
    have x2 := cell_of hres (i := 2) (v := .slice none 0 0) rfl
    have x3 := cell_of hres (i := 3) (v := .string ⟨#[]⟩) rfl
    have f0 := free_of 0 hres
    have f1 := free_of 1 hres
    have f2 := free_of 2 hres
    have f3 := free_of 3 hres
    have hwl := lt_of_block hres
    have HR := Lib.hid hres
    have HF := Lib.hid (HF1.out.next hf)
    clear hres hf
    go_wp2_with fail
    have hz0 := block_set4 (a := .int .i64 0) (b := .int .i64 0) (c := .slice none 0 0) (d := .string ⟨#[]⟩) HR.out
    have hz := hz0
    have e0 := cell_of hz (i := 0) (v := .int .i64 0) rfl
    have e1 := cell_of hz (i := 1) (v := .int .i64 0) rfl
    have e2 := cell_of hz (i := 2) (v := .slice none 0 0) rfl
    have e3 := cell_of hz (i := 3) (v := .string ⟨#[]⟩) rfl
    refine bodyPost_ret (v := .tuple #[.agg #[.int .i64 0, .int .i64 0, .slice none 0 0, .string ⟨#[]⟩], .int .i64 er]) (by simp [results, Tryz.results17, go_sem, e0, e1, e2, e3] <;> rfl) rfl ?_
    exact unp_no HE.out ⟨rfl, fr_set4 HF.out (Nat.le_refl _)⟩
  | ok p =>
    obtain ⟨t, r⟩ := p
    obtain ⟨n0, hu, hn0, hdr⟩ := unf3_ok ht
    have HT := Lib.hid (rtake_ok_h (w := w1) hu hs)
    have htl := take_len ht
    have HTK := Lib.hid ht
    have HDR := Lib.hid hdr
    clear ht hu hdr
    go_enter Tryz.func17, Tryz.ntmps17
    go_wp2_with fail
    rw [← hw1]
    clear hw1
    refine Calls.mono HT.out ?_
    rintro e w2 ⟨rfl, hf⟩
    have HR2 := Lib.hid (hf.keep HB1.out (fun h => h))
    have HF2 := Lib.hid (HF1.out.next hf)
    clear hf
    cases hh : headOf t with
    | none =>
      have HH := Lib.hid (rhead_no_h (w := w2) (show t.length ≤ 1000000 by omega) hh)
      have HE := Lib.hid (unpack_head HTK.out hh)
      clear hh
      go_wp2_with fail
      refine Calls.mono HH.out ?_
      rintro e w3 ⟨xx, xy, xa, xn, xc, xd, xz, rfl, hf⟩
      have hres := hf.keep HR2.out (fun h => h)
      have HR := Lib.hid hres
      have HF := Lib.hid (HF2.out.next hf)
      have x0 := cell_of hres (i := 0) (v := .int .i64 0) rfl
      have x1 := cell_of hres (i := 1) (v := .int .i64 0) rfl
      have x2 := cell_of hres (i := 2) (v := .slice none 0 0) rfl
      have x3 := cell_of hres (i := 3) (v := .string ⟨#[]⟩) rfl
      have f0 := free_of 0 hres
      have f1 := free_of 1 hres
      have f2 := free_of 2 hres
      have f3 := free_of 3 hres
      have hwl := lt_of_block hres
      clear hres hf
      go_wp2_with fail
      have hz0 := block_set4 (a := .int .i64 0) (b := .int .i64 0) (c := .slice none 0 0) (d := .string ⟨#[]⟩) HR.out
      have hz := block_old hz0 (.cells #[.int .i64 xx, .int .i64 xy, .slice xa xn xc, .string xd] 24)
      have e0 := cell_of hz (i := 0) (v := .int .i64 0) rfl
      have e1 := cell_of hz (i := 1) (v := .int .i64 0) rfl
      have e2 := cell_of hz (i := 2) (v := .slice none 0 0) rfl
      have e3 := cell_of hz (i := 3) (v := .string ⟨#[]⟩) rfl
      refine bodyPost_ret (v := .tuple #[.agg #[.int .i64 0, .int .i64 0, .slice none 0 0, .string ⟨#[]⟩], .int .i64 8]) (by simp [results, Tryz.results17, go_sem, e0, e1, e2, e3] <;> rfl) rfl ?_
      exact unp_no HE.out ⟨rfl, (fr_set4 HF.out (Nat.le_refl _)).alloc _⟩
    | some q =>
      obtain ⟨b, long⟩ := q
      obtain ⟨hrb, hbd, hl0, hl4, hxx⟩ := headOf_back hh
      have HH := Lib.hid (rhead_ok_h (w := w2) (show t.length ≤ 1000000 by omega) hh)
      have HD := Lib.hid (fun (e : Int) => unpack_data (e := e) HTK.out hh)
      have HO := Lib.hid (fun (d r2 : Str) => unpack_done (d := d) (r2 := r2) HTK.out hh)
      clear hh hrb hxx
      go_wp2_with fail
      refine Calls.mono HH.out ?_
      rintro e w3 ⟨v, rfl, hbi, hf⟩
      obtain ⟨a, cap, rfl, hcap, hcap2⟩ := hbi.row.form
      have hres3 := hf.keep HR2.out (fun h => h)
      have hF3 := HF2.out.next hf
      have hw23 := hf.size
      have hw02 := HF2.out.size
      have HA : baseV b (.slice a b.voters.length cap) = .agg #[.int .i64 b.index, .int .i64 b.term, .slice a b.voters.length cap, .string ⟨#[]⟩] := by unfold baseV; rw [hbd]; rfl
      rw [HA]
      obtain ⟨w4, hw4⟩ : ∃ w4, w4 = w3.alloc (.cells #[.int .i64 b.index, .int .i64 b.term, .slice a b.voters.length cap, .string ⟨#[]⟩] 24) := ⟨_, rfl⟩
      have HK4 : Hid (w4.heap[w3.heap.size]? = some (.cells #[.int .i64 b.index, .int .i64 b.term, .slice a b.voters.length cap, .string ⟨#[]⟩] 24 (0, 0))) := by show w4.heap[w3.heap.size]? = _; rw [hw4]; exact block_new _ _
      have HF34 : Hid (Fr (fun _ => False) w3 w4) := by show Fr _ _ _; rw [hw4]; exact (Fr.refl _ _).alloc _
      have HR4 := Lib.hid (HF34.out.keep hres3 (fun h => h))
      have HFF := Lib.hid (hF3.next HF34.out)
      have HBI := Lib.hid (hbi.grow HF34.out)
      have hs4 : w4.heap.size = w3.heap.size + 1 := by rw [hw4]; simp
      have hrw : w.heap.size < w3.heap.size := lt_of_block hres3
      have HB3 := Lib.hid (show ∀ k, (w2.heap.size ≤ k ∧ k < w3.heap.size) → (w.heap.size ≤ k ∧ k ≠ w.heap.size ∧ k < w3.heap.size) from fun k h => ⟨by omega, by have := lt_of_block HR2.out; omega, h.2⟩)
      have HS4 := Lib.hid hs4
      have hs4l : w3.heap.size < w4.heap.size := by omega
      clear hbi hf hres3 hF3 HA hs4 hbd
      go_wp2_with fail
      rw [← hw4]
      clear hw4
      go_loopg [5, 10] (r.length + 1) (fun j v5 v10 wr => ∃ (d rest : Str) (at' : Nat), v5 = .int .i64 (at' : Int) ∧ at' ≤ s.length ∧ rest.length < j ∧ d.length + rest.length ≤ 1000000 ∧ d.length ≤ 1000000 ∧ rest.length ≤ 1000000 ∧ Hid (s.drop at' = rest) ∧ Hid (RVRel w4 r long j d rest v10 wr))
      case atStart => exact ⟨[], r, n0, rfl, hn0, by omega, by simp; omega, by simp, by omega, HDR.out, ⟨rfl, World.ownsRow_nil _ _ _ _, Fr.refl _ _⟩⟩
      case round =>
        obtain ⟨d, rest, at', rfl, hat, hlj, hsum, hdl, hrl, HRS, HU⟩ := hrel
        obtain ⟨k, rfl⟩ : ∃ k, gk = k + 1 := ⟨gk - 1, by omega⟩
        obtain ⟨sa, sc, rfl⟩ : ∃ a c, u10 = .slice a d.length c := ownsRow_shape HU.out.row
        have hszr := HU.out.fr.size
        have hres := HU.out.fr.keep HR4.out (fun h => h)
        have hkb := HU.out.fr.keep HK4.out (fun h => h)
        have HRr := Lib.hid hres
        have HKr := Lib.hid hkb
        have HFr := Lib.hid (show Fr (fun _ => False) w wr from HFF.out.next HU.out.fr)
        have HBr := Lib.hid ((HBI.out.grow HU.out.fr).mono HB3.out)
        have x0 := cell_of hres (i := 0) (v := .int .i64 0) rfl
        have x1 := cell_of hres (i := 1) (v := .int .i64 0) rfl
        have x2 := cell_of hres (i := 2) (v := .slice none 0 0) rfl
        have x3 := cell_of hres (i := 3) (v := .string ⟨#[]⟩) rfl
        have f0 := free_of 0 hres
        have f1 := free_of 1 hres
        have f2 := free_of 2 hres
        have f3 := free_of 3 hres
        have hwl := lt_of_block hres
        clear hres hkb
        by_cases hgo : (d.length : Int) < long
        · have hdd : (0 : Int) ≤ long - d.length := by omega
          have e9 := fun (W : World) => slice_from (w := W) s hat rfl
          rw [HRS.out] at e9
          cases htk : takeL rest with
          | error er =>
            have HTk := Lib.hid (rtake_no_h (w := wr) htk hrl)
            have HE := Lib.hid (HD.out er (HU.out.data.trans (data_bad hgo htk)))
            have her : er ≠ 0 := by rcases take_err htk with h | h <;> omega
            have q1 : (er == 0) = false := by simpa using her
            clear htk
            go_wp2_with fail
            refine Calls.mono HTk.out ?_
            rintro e w5 ⟨rfl, hf5⟩
            have hres := hf5.keep HRr.out (fun h => h)
            have HR5 := Lib.hid hres
            have HF5 := Lib.hid (HFr.out.next hf5)
            clear x0 x1 x2 x3 f0 f1 f2 f3 hwl
            have x0 := cell_of hres (i := 0) (v := .int .i64 0) rfl
            have x1 := cell_of hres (i := 1) (v := .int .i64 0) rfl
            have x2 := cell_of hres (i := 2) (v := .slice none 0 0) rfl
            have x3 := cell_of hres (i := 3) (v := .string ⟨#[]⟩) rfl
            have f0 := free_of 0 hres
            have f1 := free_of 1 hres
            have f2 := free_of 2 hres
            have f3 := free_of 3 hres
            have hwl := lt_of_block hres
            clear hres hf5
            go_wp2_with fail
            have hz0 := block_set4 (a := .int .i64 0) (b := .int .i64 0) (c := .slice none 0 0) (d := .string ⟨#[]⟩) HR5.out
            have hz := hz0
            have e0 := cell_of hz (i := 0) (v := .int .i64 0) rfl
            have e1 := cell_of hz (i := 1) (v := .int .i64 0) rfl
            have e2 := cell_of hz (i := 2) (v := .slice none 0 0) rfl
            have e3 := cell_of hz (i := 3) (v := .string ⟨#[]⟩) rfl
            refine bodyPost_ret (v := .tuple #[.agg #[.int .i64 0, .int .i64 0, .slice none 0 0, .string ⟨#[]⟩], .int .i64 er]) (by simp [results, Tryz.results17, go_sem, e0, e1, e2, e3] <;> rfl) rfl ?_
            exact unp_no HE.out ⟨rfl, fr_set4 HF5.out (Nat.le_refl _)⟩
          | ok q =>
            obtain ⟨t2, r2⟩ := q
            obtain ⟨n2, hu2, hn2, hdr2⟩ := unf3_ok htk
            have htl2 := take_len htk
            have HTk := Lib.hid (rtake_ok_h (w := wr) hu2 hrl)
            have hsz2 : (bs t2).size = t2.length := rfl
            obtain ⟨m, hm⟩ : ∃ m : Int, min (1000 : Int) (long - d.length) = m := ⟨_, rfl⟩
            have HM := Lib.hid hm
            have HGO := Lib.hid hgo
            have hrl2 : rest.length = s.length - at' := by rw [← HRS.out, List.length_drop]
            have hwa : IntKind.i64.wrap ((at' : Int) + (n2 : Int)) = ((at' + n2 : Nat) : Int) := by rw [IntWalk.i64_in _ (by omega)]; omega
            have HRS2 := Lib.hid (show s.drop (at' + n2) = r2 by rw [← List.drop_drop, HRS.out]; exact hdr2)
            have hat2 : at' + n2 ≤ s.length := by omega
            clear hu2 hdr2 hrl2
            by_cases hlen : (t2.length : Int) = m
            · have HDm := Lib.hid (HU.out.data.trans (data_more (k := k) hgo htk (hlen.trans hm.symm)))
              have q2 : ((t2.length : Int) == m) = true := by simpa using hlen
              have q3 : decide ((t2.length : Int) = m) = true := by simpa using hlen
              have HLE := Lib.hid hlen
              clear htk hlen
              go_wp2_with fail
              refine Calls.mono HTk.out ?_
              rintro e w5 ⟨rfl, hf5⟩
              have hrow5 : w5.ownsRow w4.heap.size 5 1 (.slice sa d.length sc) d.length (d.map encB) := ownsRow_keep HU.out.row (fun k hk => hf5.block k (HU.out.row.lt k hk).2 (fun h => h))
              have HRW5 := Lib.hid hrow5
              have HF5 := Lib.hid (HU.out.fr.next hf5)
              clear hf5 hrow5
              go_wp2_with (at_builtin; refine Lib.wpList_append_own_string _ rfl _ _ 33 9 rfl w4.heap.size 5 i0 Tryz.underlying33 Tryz.underlying9 hi hz0 hz1 hz2 _ _ _ rfl HRW5.out (bs t2) rfl ?c3 ?c4 ?c5 ?_)
              case c3 => unfold maxLen; omega
              case c4 => omega
              case c5 => exact HF5.out.size
              intro v' w6 hown6 hg6 _
              have HU6 : Hid (RVRel w4 r long k (d ++ t2) r2 v' w6) := ⟨HDm.out, by rw [List.length_append, List.map_append, ← strCells_bs t2]; exact hown6, HF5.out.grown hg6 fun k hk => .inr (HRW5.out.lt k hk).1⟩
              clear hown6 hg6
              have hapl : (d ++ t2).length = d.length + t2.length := List.length_append
              go_wp2_with fail
              go_roundg k
              case measure => omega
              case rel => exact ⟨d ++ t2, r2, at' + n2, by go_num, hat2, by omega, by omega, by omega, by omega, HRS2, HU6⟩
            · have HE := Lib.hid (HD.out 8 (HU.out.data.trans (data_odd (k := k) hgo htk (fun h => hlen (h.trans hm)))))
              have q2 : ((t2.length : Int) == m) = false := by simpa using hlen
              have q3 : decide ((t2.length : Int) = m) = false := by simpa using hlen
              have q4 : ¬ (t2.length : Int) = m := hlen
              clear htk hlen
              go_wp2_with fail
              refine Calls.mono HTk.out ?_
              rintro e w5 ⟨rfl, hf5⟩
              have hres := hf5.keep HRr.out (fun h => h)
              have HR5 := Lib.hid hres
              have HF5 := Lib.hid (HFr.out.next hf5)
              clear x0 x1 x2 x3 f0 f1 f2 f3 hwl hf5
              have x0 := cell_of hres (i := 0) (v := .int .i64 0) rfl
              have x1 := cell_of hres (i := 1) (v := .int .i64 0) rfl
              have x2 := cell_of hres (i := 2) (v := .slice none 0 0) rfl
              have x3 := cell_of hres (i := 3) (v := .string ⟨#[]⟩) rfl
              have f0 := free_of 0 hres
              have f1 := free_of 1 hres
              have f2 := free_of 2 hres
              have f3 := free_of 3 hres
              have hwl := lt_of_block hres
              clear hres
              go_wp2_with fail
              have hz0 := block_set4 (a := .int .i64 0) (b := .int .i64 0) (c := .slice none 0 0) (d := .string ⟨#[]⟩) HR5.out
              have hz := hz0
              have e0 := cell_of hz (i := 0) (v := .int .i64 0) rfl
              have e1 := cell_of hz (i := 1) (v := .int .i64 0) rfl
              have e2 := cell_of hz (i := 2) (v := .slice none 0 0) rfl
              have e3 := cell_of hz (i := 3) (v := .string ⟨#[]⟩) rfl
              refine bodyPost_ret (v := .tuple #[.agg #[.int .i64 0, .int .i64 0, .slice none 0 0, .string ⟨#[]⟩], .int .i64 8]) (by simp [results, Tryz.results17, go_sem, e0, e1, e2, e3] <;> rfl) rfl ?_
              exact unp_no HE.out ⟨rfl, fr_set4 HF5.out (Nat.le_refl _)⟩
        · have HO2 := Lib.hid (HO.out d rest (HU.out.data.trans (data_end (k := k) hgo)))
          have hgoi : ¬ (d.length : Int) < long := hgo
          have hrl2 : rest.length = s.length - at' := by rw [← HRS.out, List.length_drop]
          by_cases hre : rest = []
          · have hae : (at' : Int) = (s.length : Int) := by rw [hre, List.length_nil] at hrl2; omega
            have q1 : ((at' : Int) == (s.length : Int)) = true := by simpa using hae
            have HE : Hid (unpackL s = .ok { b with data := d }) := by show unpackL s = _; rw [HO2.out, if_pos hre]
            have hcv := bytes_conv HU.out.row
            have k0 := cell_of HKr.out (i := 0) (v := .int .i64 b.index) rfl
            have k1 := cell_of HKr.out (i := 1) (v := .int .i64 b.term) rfl
            have k2 := cell_of HKr.out (i := 2) (v := .slice a b.voters.length cap) rfl
            have k3 := cell_of HKr.out (i := 3) (v := .string ⟨#[]⟩) rfl
            have kf := free_of 3 HKr.out
            have HK5 := Lib.hid (block_set HKr.out 3 (.string (bs d)))
            have ne1 : ¬ w.heap.size = w3.heap.size := by omega
            have ne2 : ¬ w3.heap.size = w.heap.size := by omega
            have hkl := lt_of_block HKr.out
            clear hre hgo hae hrl2
            go_wp2_with fail
            have hR6 : (wr.setCell ⟨w3.heap.size, 3, none⟩ (.string (bs d))).heap[w.heap.size]? = _ := (block_set_ne (by omega)).trans HRr.out
            have hz := block_set4 (a := .int .i64 b.index) (b := .int .i64 b.term) (c := .slice a b.voters.length cap) (d := .string (bs d)) hR6
            have e0 := cell_of hz (i := 0) (v := .int .i64 b.index) rfl
            have e1 := cell_of hz (i := 1) (v := .int .i64 b.term) rfl
            have e2 := cell_of hz (i := 2) (v := .slice a b.voters.length cap) rfl
            have e3 := cell_of hz (i := 3) (v := .string (bs d)) rfl
            refine bodyPost_ret (v := .tuple #[.agg #[.int .i64 b.index, .int .i64 b.term, .slice a b.voters.length cap, .string (bs d)], .int .i64 0]) (by simp [results, Tryz.results17, go_sem, e0, e1, e2, e3] <;> rfl) rfl ?_
            refine unp_ok HE.out ⟨_, rfl, unp_fin (d := d) (HBr.out) hdl (by omega) (by omega), fr_set4 (HFr.out.setCell (p := ⟨w3.heap.size, 3, none⟩) (.inr (show w.heap.size ≤ w3.heap.size by omega)) _) (Nat.le_refl _)⟩
          · have hae : ¬ (at' : Int) = (s.length : Int) := by have := List.length_pos_iff.2 hre; omega
            have q1 : ((at' : Int) == (s.length : Int)) = false := by simpa using hae
            have HE : Hid (unpackL s = .error 8) := by show unpackL s = _; rw [HO2.out, if_neg hre]
            clear hre hgo hrl2
            go_wp2_with fail
            have hz0 := block_set4 (a := .int .i64 0) (b := .int .i64 0) (c := .slice none 0 0) (d := .string ⟨#[]⟩) HRr.out
            have hz := hz0
            have e0 := cell_of hz (i := 0) (v := .int .i64 0) rfl
            have e1 := cell_of hz (i := 1) (v := .int .i64 0) rfl
            have e2 := cell_of hz (i := 2) (v := .slice none 0 0) rfl
            have e3 := cell_of hz (i := 3) (v := .string ⟨#[]⟩) rfl
            refine bodyPost_ret (v := .tuple #[.agg #[.int .i64 0, .int .i64 0, .slice none 0 0, .string ⟨#[]⟩], .int .i64 8]) (by simp [results, Tryz.results17, go_sem, e0, e1, e2, e3] <;> rfl) rfl ?_
            exact unp_no HE.out ⟨rfl, fr_set4 HFr.out (Nat.le_refl _)⟩
end Go.Proofs.YtgmghopcppniaaaGreatDoor
