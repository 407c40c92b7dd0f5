/- The law SnapBack: walked. -/
import Derived.Test.YtgmghopcppniaaaGreatDoorS24
namespace Go.Proofs.YtgmghopcppniaaaGreatDoor
open Go.RowKit Go.Lib

/-- a base that came in -/
structure BaseRaw (w : World) (S : Nat → Prop) (b : BaseD) (v : Value) : Prop where
  row : IR w S v b.voters
  nums : ∀ n ∈ b.voters, I64 n
  index : I64 b.index
  term : I64 b.term
  data : b.data.length ≤ 9223372036854775807
theorem BaseRaw.small {w : World} {S : Nat → Prop} {b : BaseD} {v : Value} (h : BaseRaw w S b v) (hs : smallB b = true) : BaseIn w S b v := by
  unfold smallB at hs
  simp only [Bool.and_eq_true, decide_eq_true_eq] at hs
  exact ⟨h.row, h.nums, h.index, h.term, by omega⟩
theorem small_parts {b : BaseD} (hs : smallB b = true) : b.voters.length ≤ 20 ∧ b.data.length ≤ 5000 := by
  unfold smallB at hs
  simpa only [Bool.and_eq_true, decide_eq_true_eq] using hs
theorem pack_is {w : World} {b : BaseD} {v : Value} {t : Str} {er : Int} (h : BaseIn w (fun k => k < w.heap.size) b v) (hp : packD b = (t, er)) : Calls Tryz.prog 21 #[baseV b v] w fun e w' => e = .returned (.tuple #[.string (bs t), .int .i64 er]) ∧ Fr (fun _ => False) w w' := by
  refine (pack_h h).mono ?_
  rintro e w' ⟨rfl, hf⟩
  exact ⟨by rw [hp], hf⟩
theorem unp_no_h {w : World} {s : Str} {er : Int} (hs : s.length ≤ 1000000) (h : unpackL s = .error er) : Calls Tryz.prog 16 #[.string (bs s)] w fun e w' => e = .returned (.tuple #[.agg #[.int .i64 0, .int .i64 0, .slice none 0 0, .string ⟨#[]⟩], .int .i64 er]) ∧ Fr (fun _ => False) w w' := by
  refine (unpack_h s hs).mono ?_
  intro e w' hp
  unfold UnpPost at hp
  rw [h] at hp
  exact hp
theorem unp_ok_h {w : World} {s : Str} {b : BaseD} (hs : s.length ≤ 1000000) (h : unpackL s = .ok b) : Calls Tryz.prog 16 #[.string (bs s)] w fun e w' => ∃ (a : Option Addr) (c : Nat), e = .returned (.tuple #[baseV b (.slice a b.voters.length c), .int .i64 0]) ∧ BaseIn w' (fun k => w.heap.size ≤ k ∧ k < w'.heap.size) b (.slice a b.voters.length c) ∧ Fr (fun _ => False) w w' := by
  refine (unpack_h s hs).mono ?_
  intro e w' hp
  unfold UnpPost at hp
  rw [h] at hp
  obtain ⟨v, rfl, hb, hf⟩ := hp
  obtain ⟨a, c, rfl, _⟩ := hb.row.form
  exact ⟨a, c, rfl, hb, hf⟩
theorem small_is {w : World} {b : BaseD} {a : Option Addr} {cap : Nat} {x : Bool} (hv : b.voters.length ≤ 9223372036854775807) (hd : b.data.length ≤ 9223372036854775807) (hx : smallB b = x) :
    Calls Tryz.prog 15 #[baseV b (.slice a b.voters.length cap)] w fun e w' => e = .returned (.bool x) ∧ Fr (fun _ => False) w w' := by
  refine (small_h hv hd).mono ?_
  rintro e w' ⟨rfl, hf⟩
  exact ⟨by rw [hx], hf⟩
theorem pack_long {b : BaseD} (hr : rightB b = true) (hd : b.data.length ≤ 5000) : (packL b).length ≤ 100000 := by
  rw [pack_bytes]
  have := head_len hr
  omega
set_option maxRecDepth 100000 in
set_option maxHeartbeats 8000000 in
theorem snapback_h {w : World} (hE : Env w) (h8 : 8 ≤ w.heap.size) {b : BaseD} {v : Value} (h : BaseRaw w (fun k => k < w.heap.size) b v) (s : Str) (hs : s.length ≤ 9223372036854775807) :
    Calls Tryz.prog 5 #[baseV b v, .string (bs s)] w fun e w' => e = .returned (.bool true) ∧ Fr (fun _ => False) w w' := by
  obtain ⟨a, cap, rfl, hcap, hcap2⟩ := h.row.form
  have hsz : (bs s).size = s.length := rfl
  have HA : baseV b (.slice a b.voters.length cap) = .agg #[.int .i64 b.index, .int .i64 b.term, .slice a b.voters.length cap, .string (bs b.data)] := rfl
  rw [HA]
  obtain ⟨w1, hw1⟩ : ∃ w1, w1 = w.alloc (.cells #[.int .i64 b.index, .int .i64 b.term, .slice a b.voters.length cap, .string (bs b.data)] 24) := ⟨_, rfl⟩
  have HF1 : Hid (Fr (fun _ => False) w w1) := by show Fr _ _ _; rw [hw1]; exact (Fr.refl _ _).alloc _
  have HB1 : Hid (w1.heap[w.heap.size]? = some (.cells #[.int .i64 b.index, .int .i64 b.term, .slice a b.voters.length cap, .string (bs b.data)] 24 (0, 0))) := by show w1.heap[w.heap.size]? = _; rw [hw1]; exact block_new _ _
  have HSH := Lib.hid (shown_h (hE.grow HF1.out) (Nat.le_trans h8 HF1.out.size))
  have HH := Lib.hid h
  have hdl := h.data
  have HLT := Lib.hid (show ∀ (W : World), Fr (fun _ => False) w W → smallB b = true → BaseIn W (fun k => k < W.heap.size) b (.slice a b.voters.length cap) from fun W hf hsm => ((HH.out.small hsm).grow hf).mono fun k hk => Nat.lt_of_lt_of_le hk hf.size)
  clear h
  go_enter Tryz.func5, Tryz.ntmps5
  go_wp2_with fail
  rw [← hw1]
  clear hw1
  refine Calls.mono HSH.out ?_
  rintro e w2 ⟨rfl, hf2⟩
  have HF2 := Lib.hid (HF1.out.next hf2)
  have hb2 := hf2.keep HB1.out (fun h => h)
  have x0 := cell_of hb2 (i := 0) (v := .int .i64 b.index) rfl
  have x1 := cell_of hb2 (i := 1) (v := .int .i64 b.term) rfl
  have x2 := cell_of hb2 (i := 2) (v := .slice a b.voters.length cap) rfl
  have x3 := cell_of hb2 (i := 3) (v := .string (bs b.data)) rfl
  have HB2 := Lib.hid hb2
  clear hf2 hb2 HSH
  cases hsm : smallB b with
  | false =>
    have HSM := Lib.hid (small_is (w := w2) (a := a) (cap := cap) (by omega) hdl hsm)
    rw [HA] at HSM
    clear HA hsm
    go_wp2_with fail
    refine Calls.mono HSM.out ?_
    rintro e w3 ⟨rfl, hf3⟩
    have HF3 := Lib.hid (HF2.out.next hf3)
    clear hf3
    go_wp2_with fail
    go_ret
    exact ⟨rfl, HF3.out⟩
  | true =>
    have HSM := Lib.hid (small_is (w := w2) (a := a) (cap := cap) (by omega) hdl hsm)
    rw [HA] at HSM
    have HSB := Lib.hid hsm
    clear hsm
    by_cases h5 : s.length ≤ 5000
    · have h5i : ¬ (5000 : Int) < (s.length : Int) := by omega
      have hs5 : s.length ≤ 1000000 := by omega
      cases hr : rightB b with
      | false =>
        have HPK := Lib.hid (fun (W : World) (hf : Fr (fun _ => False) w W) => pack_is (HLT.out _ hf HSB.out) (t := []) (er := 1) (show packD b = ([], 1) by unfold packD; rw [hr]; rfl))
        rw [HA] at HPK
        clear HA hr h5
        go_wp2_with fail
        refine Calls.mono HSM.out ?_
        rintro e w3 ⟨rfl, hf3⟩
        have HF3 := Lib.hid (HF2.out.next hf3)
        have hb3 := hf3.keep HB2.out (fun h => h)
        clear x0 x1 x2 x3
        have x0 := cell_of hb3 (i := 0) (v := .int .i64 b.index) rfl
        have x1 := cell_of hb3 (i := 1) (v := .int .i64 b.term) rfl
        have x2 := cell_of hb3 (i := 2) (v := .slice a b.voters.length cap) rfl
        have x3 := cell_of hb3 (i := 3) (v := .string (bs b.data)) rfl
        clear hf3 hb3 HSM
        go_wp2_with fail
        refine Calls.mono (HPK.out _ HF3.out) ?_
        rintro e wt ⟨rfl, hft⟩
        have HFt := Lib.hid (HF3.out.next hft)
        clear hft HPK x0 x1 x2 x3
        cases hu : unpackL s with
        | error er =>
          have her : er ≠ 0 := by rcases unpack_err hu with h | h <;> omega
          have q1 : (er == 0) = false := by simpa using her
          have q2 : (er != 0) = true := by simpa using her
          have HU := Lib.hid (unp_no_h (w := wt) hs5 hu)
          clear hu
          go_wp2_with fail
          refine Calls.mono HU.out ?_
          rintro e wu ⟨rfl, hfu⟩
          have HFu := Lib.hid (HFt.out.next hfu)
          clear hfu
          go_wp2_with fail
          go_ret
          exact ⟨rfl, HFu.out.alloc _⟩
        | ok y =>
          obtain ⟨hry, hsy⟩ := unpack_back hu
          have HU := Lib.hid (unp_ok_h (w := wt) hs5 hu)
          have hyd : y.data.length ≤ s.length := by rw [hsy, pack_bytes]; omega
          have HPY : Hid (packD y = (s, 0)) := by show packD y = _; unfold packD; rw [if_pos hry, ← hsy]
          clear hu hry hsy
          go_wp2_with fail
          refine Calls.mono HU.out ?_
          rintro e wu ⟨ya, yc, rfl, hbu, hfu⟩
          have HFu := Lib.hid (HFt.out.next hfu)
          have HA : baseV y (.slice ya y.voters.length yc) = .agg #[.int .i64 y.index, .int .i64 y.term, .slice ya y.voters.length yc, .string (bs y.data)] := rfl
          rw [HA]
          obtain ⟨wv, hwv⟩ : ∃ wv, wv = wu.alloc (.cells #[.int .i64 y.index, .int .i64 y.term, .slice ya y.voters.length yc, .string (bs y.data)] 24) := ⟨_, rfl⟩
          have hFv : Fr (fun _ => False) wu wv := by rw [hwv]; exact (Fr.refl _ _).alloc _
          have hcv : wv.heap[wu.heap.size]? = some (.cells #[.int .i64 y.index, .int .i64 y.term, .slice ya y.voters.length yc, .string (bs y.data)] 24 (0, 0)) := by rw [hwv]; exact block_new _ _
          have y0 := cell_of hcv (i := 0) (v := .int .i64 y.index) rfl
          have y1 := cell_of hcv (i := 1) (v := .int .i64 y.term) rfl
          have y2 := cell_of hcv (i := 2) (v := .slice ya y.voters.length yc) rfl
          have y3 := cell_of hcv (i := 3) (v := .string (bs y.data)) rfl
          have HPK := Lib.hid (pack_is ((hbu.grow hFv).mono fun k hk => Nat.lt_of_lt_of_le hk.2 hFv.size) HPY.out)
          rw [HA] at HPK
          have HFv := Lib.hid (HFu.out.next hFv)
          clear hbu hfu hFv hcv HA
          go_upto_region 12 with fail
          rw [← hwv]
          clear hwv
          go_wp2_with fail
          refine Calls.mono HPK.out ?_
          rintro e wz ⟨rfl, hfz⟩
          have HFz := Lib.hid (HFv.out.next hfz)
          clear hfz
          go_wp2_with fail
          go_ret
          exact ⟨by first | rfl | simp, HFz.out⟩
      | true =>
        have HPK := Lib.hid (fun (W : World) (hf : Fr (fun _ => False) w W) => pack_is (HLT.out _ hf HSB.out) (t := packL b) (er := 0) (show packD b = (packL b, 0) by unfold packD; rw [if_pos hr]))
        rw [HA] at HPK
        have hup : unpackL (packL b) = .ok b := by have := unpack_pack hr []; rwa [List.append_nil, if_pos rfl] at this
        have hpl := pack_long hr (small_parts HSB.out).2
        have HUP := Lib.hid (fun (W : World) => unp_ok_h (w := W) (s := packL b) (b := b) (by omega) hup)
        obtain ⟨pk, hpk⟩ : ∃ t, packL b = t := ⟨_, rfl⟩
        rw [hpk] at HPK HUP
        clear hr h5 hup hpl hpk
        go_wp2_with fail
        refine Calls.mono HSM.out ?_
        rintro e w3 ⟨rfl, hf3⟩
        have HF3 := Lib.hid (HF2.out.next hf3)
        have hb3 := hf3.keep HB2.out (fun h => h)
        clear x0 x1 x2 x3
        have x0 := cell_of hb3 (i := 0) (v := .int .i64 b.index) rfl
        have x1 := cell_of hb3 (i := 1) (v := .int .i64 b.term) rfl
        have x2 := cell_of hb3 (i := 2) (v := .slice a b.voters.length cap) rfl
        have x3 := cell_of hb3 (i := 3) (v := .string (bs b.data)) rfl
        have HB3 := Lib.hid hb3
        clear hf3 hb3 HSM
        go_wp2_with fail
        refine Calls.mono (HPK.out _ HF3.out) ?_
        rintro e w4 ⟨rfl, hf4⟩
        have HF4 := Lib.hid (HF3.out.next hf4)
        have HB4 := Lib.hid (hf4.keep HB3.out (fun h => h))
        clear hf4 HPK x0 x1 x2 x3
        go_wp2_with fail
        refine Calls.mono (HUP.out _) ?_
        rintro e w5 ⟨xa, xc, rfl, hb5, hf5⟩
        have HA2 : baseV b (.slice xa b.voters.length xc) = .agg #[.int .i64 b.index, .int .i64 b.term, .slice xa b.voters.length xc, .string (bs b.data)] := rfl
        rw [HA2]
        obtain ⟨w6, hw6⟩ : ∃ w6, w6 = w5.alloc (.cells #[.int .i64 b.index, .int .i64 b.term, .slice xa b.voters.length xc, .string (bs b.data)] 24) := ⟨_, rfl⟩
        have hF6 : Fr (fun _ => False) w5 w6 := by rw [hw6]; exact (Fr.refl _ _).alloc _
        have hc6 : w6.heap[w5.heap.size]? = some (.cells #[.int .i64 b.index, .int .i64 b.term, .slice xa b.voters.length xc, .string (bs b.data)] 24 (0, 0)) := by rw [hw6]; exact block_new _ _
        have hk6 := (hf5.next hF6).keep HB4.out (fun h => h)
        have HF6 := Lib.hid (HF4.out.next (hf5.next hF6))
        have HSE := Lib.hid (same_is (hb5.grow hF6) (HLT.out _ HF6.out HSB.out) rfl)
        rw [HA2, HA] at HSE
        have y0 := cell_of hc6 (i := 0) (v := .int .i64 b.index) rfl
        have y1 := cell_of hc6 (i := 1) (v := .int .i64 b.term) rfl
        have y2 := cell_of hc6 (i := 2) (v := .slice xa b.voters.length xc) rfl
        have y3 := cell_of hc6 (i := 3) (v := .string (bs b.data)) rfl
        have x0 := cell_of hk6 (i := 0) (v := .int .i64 b.index) rfl
        have x1 := cell_of hk6 (i := 1) (v := .int .i64 b.term) rfl
        have x2 := cell_of hk6 (i := 2) (v := .slice a b.voters.length cap) rfl
        have x3 := cell_of hk6 (i := 3) (v := .string (bs b.data)) rfl
        clear hb5 hf5 hF6 hc6 hk6 HA HA2 HUP
        go_upto_region 8 with fail
        rw [← hw6]
        clear hw6
        go_wp2_with fail
        refine Calls.mono HSE.out ?_
        rintro e wt ⟨rfl, hft⟩
        have HFt := Lib.hid (HF6.out.next hft)
        clear hft x0 x1 x2 x3 y0 y1 y2 y3 HSE
        cases hu : unpackL s with
        | error er =>
          have her : er ≠ 0 := by rcases unpack_err hu with h | h <;> omega
          have q1 : (er == 0) = false := by simpa using her
          have q2 : (er != 0) = true := by simpa using her
          have HU := Lib.hid (unp_no_h (w := wt) hs5 hu)
          clear hu
          go_wp2_with fail
          refine Calls.mono HU.out ?_
          rintro e wu ⟨rfl, hfu⟩
          have HFu := Lib.hid (HFt.out.next hfu)
          clear hfu
          go_wp2_with fail
          go_ret
          exact ⟨rfl, HFu.out.alloc _⟩
        | ok y =>
          obtain ⟨hry, hsy⟩ := unpack_back hu
          have HU := Lib.hid (unp_ok_h (w := wt) hs5 hu)
          have hyd : y.data.length ≤ s.length := by rw [hsy, pack_bytes]; omega
          have HPY : Hid (packD y = (s, 0)) := by show packD y = _; unfold packD; rw [if_pos hry, ← hsy]
          clear hu hry hsy
          go_wp2_with fail
          refine Calls.mono HU.out ?_
          rintro e wu ⟨ya, yc, rfl, hbu, hfu⟩
          have HFu := Lib.hid (HFt.out.next hfu)
          have HA : baseV y (.slice ya y.voters.length yc) = .agg #[.int .i64 y.index, .int .i64 y.term, .slice ya y.voters.length yc, .string (bs y.data)] := rfl
          rw [HA]
          obtain ⟨wv, hwv⟩ : ∃ wv, wv = wu.alloc (.cells #[.int .i64 y.index, .int .i64 y.term, .slice ya y.voters.length yc, .string (bs y.data)] 24) := ⟨_, rfl⟩
          have hFv : Fr (fun _ => False) wu wv := by rw [hwv]; exact (Fr.refl _ _).alloc _
          have hcv : wv.heap[wu.heap.size]? = some (.cells #[.int .i64 y.index, .int .i64 y.term, .slice ya y.voters.length yc, .string (bs y.data)] 24 (0, 0)) := by rw [hwv]; exact block_new _ _
          have y0 := cell_of hcv (i := 0) (v := .int .i64 y.index) rfl
          have y1 := cell_of hcv (i := 1) (v := .int .i64 y.term) rfl
          have y2 := cell_of hcv (i := 2) (v := .slice ya y.voters.length yc) rfl
          have y3 := cell_of hcv (i := 3) (v := .string (bs y.data)) rfl
          have HPK := Lib.hid (pack_is ((hbu.grow hFv).mono fun k hk => Nat.lt_of_lt_of_le hk.2 hFv.size) HPY.out)
          rw [HA] at HPK
          have HFv := Lib.hid (HFu.out.next hFv)
          clear hbu hfu hFv hcv HA
          go_upto_region 12 with fail
          rw [← hwv]
          clear hwv
          go_wp2_with fail
          refine Calls.mono HPK.out ?_
          rintro e wz ⟨rfl, hfz⟩
          have HFz := Lib.hid (HFv.out.next hfz)
          clear hfz
          go_wp2_with fail
          go_ret
          exact ⟨by first | rfl | simp, HFz.out⟩
    · have h5i : (5000 : Int) < (s.length : Int) := by omega
      clear HA h5
      go_wp2_with fail
      refine Calls.mono HSM.out ?_
      rintro e w3 ⟨rfl, hf3⟩
      have HF3 := Lib.hid (HF2.out.next hf3)
      clear hf3
      go_wp2_with fail
      go_ret
      exact ⟨rfl, HF3.out⟩
end Go.Proofs.YtgmghopcppniaaaGreatDoor
