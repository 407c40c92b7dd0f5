/- The law SnapLengths: walked. -/
import Derived.Test.YtgmghopcppniaaaGreatDoorS25
namespace Go.Proofs.YtgmghopcppniaaaGreatDoor
open Go.RowKit Go.Lib

theorem pickZ_lt {c n : Int} (hn : 0 < n) : 0 ≤ pickZ c n ∧ pickZ c n < n := by
  unfold pickZ
  exact ⟨Int.emod_nonneg _ (by omega), Int.emod_lt_of_pos _ hn⟩
theorem pick_is {w : World} {c n : Int} {k : Nat} (hc : I64 c) (hn : 0 < n) (hn2 : n ≤ 1000000) (hk : pickZ c n = (k : Int)) : Calls Tryz.prog 20 #[.int .i64 c, .int .i64 n] w fun e w' => e = .returned (.int .i64 (k : Int)) ∧ w = w' := by
  rw [← hk]
  exact pick_h hc.1 hc.2 hn hn2
theorem slice_to {w : World} (s : Str) {k : Nat} (hk : k ≤ s.length) :
    (Instr.slice 9 (.string (bs s)) none (some (.int .i64 (k : Int))) none).run Tryz.prog w = .ok (.string (bs (s.take k))) w := by
  rw [run_slice_string_to_if w 9 (bs s) .i64 (k : Int) Tryz.underlying9, if_pos ⟨by omega, by rw [bs_size]; omega⟩]
  have := bs_mid s 0 k
  simp only [List.drop_zero] at this
  first | (rw [← this]; rfl) | (simp; sorry)
set_option maxRecDepth 100000 in
set_option maxHeartbeats 8000000 in
theorem snaplengths_h {w : World} (hE : Env w) (h8 : 8 ≤ w.heap.size) {b : BaseD} {v : Value} (h : BaseRaw w (fun k => k < w.heap.size) b v) {at' : Int} (hat : I64 at') :
    Calls Tryz.prog 6 #[baseV b v, .int .i64 at'] w fun e w' => e = .returned (.bool true) ∧ Fr (fun _ => False) w w' := by
  obtain ⟨a, cap, rfl, hcap, hcap2⟩ := h.row.form
  have HA : baseV b (.slice a b.voters.length cap) = .agg #[.int .i64 b.index, .int .i64 b.term, .slice a b.voters.length cap, .string (bs b.data)] := rfl
  rw [HA]
  obtain ⟨w1, hw1⟩ : ∃ w1, w1 = w.alloc (.cells #[.int .i64 b.index, .int .i64 b.term, .slice a b.voters.length cap, .string (bs b.data)] 24) := ⟨_, rfl⟩
  have HF1 : Hid (Fr (fun _ => False) w w1) := by show Fr _ _ _; rw [hw1]; exact (Fr.refl _ _).alloc _
  have HB1 : Hid (w1.heap[w.heap.size]? = some (.cells #[.int .i64 b.index, .int .i64 b.term, .slice a b.voters.length cap, .string (bs b.data)] 24 (0, 0))) := by show w1.heap[w.heap.size]? = _; rw [hw1]; exact block_new _ _
  have HSH := Lib.hid (shown_h (hE.grow HF1.out) (Nat.le_trans h8 HF1.out.size))
  have HH := Lib.hid h
  have hdl := h.data
  have HLT := Lib.hid (show ∀ (W : World), Fr (fun _ => False) w W → smallB b = true → BaseIn W (fun k => k < W.heap.size) b (.slice a b.voters.length cap) from fun W hf hsm => ((HH.out.small hsm).grow hf).mono fun k hk => Nat.lt_of_lt_of_le hk hf.size)
  have HAT := Lib.hid hat
  clear h hat
  go_enter Tryz.func6, Tryz.ntmps6
  go_wp2_with fail
  rw [← hw1]
  clear hw1
  refine Calls.mono HSH.out ?_
  rintro e w2 ⟨rfl, hf2⟩
  have HF2 := Lib.hid (HF1.out.next hf2)
  have hb2 := hf2.keep HB1.out (fun h => h)
  have x0 := cell_of hb2 (i := 0) (v := .int .i64 b.index) rfl
  have x1 := cell_of hb2 (i := 1) (v := .int .i64 b.term) rfl
  have x2 := cell_of hb2 (i := 2) (v := .slice a b.voters.length cap) rfl
  have x3 := cell_of hb2 (i := 3) (v := .string (bs b.data)) rfl
  have HB2 := Lib.hid hb2
  clear hf2 hb2 HSH
  cases hsm : smallB b with
  | false =>
    have HSM := Lib.hid (small_is (w := w2) (a := a) (cap := cap) (by omega) hdl hsm)
    rw [HA] at HSM
    clear HA hsm
    go_wp2_with fail
    refine Calls.mono HSM.out ?_
    rintro e w3 ⟨rfl, hf3⟩
    have HF3 := Lib.hid (HF2.out.next hf3)
    clear hf3
    go_wp2_with fail
    go_ret
    exact ⟨rfl, HF3.out⟩
  | true =>
    have HSM := Lib.hid (small_is (w := w2) (a := a) (cap := cap) (by omega) hdl hsm)
    rw [HA] at HSM
    have HSB := Lib.hid hsm
    clear hsm
    cases hr : rightB b with
    | false =>
      have HPK := Lib.hid (fun (W : World) (hf : Fr (fun _ => False) w W) => pack_is (HLT.out _ hf HSB.out) (t := []) (er := 1) (show packD b = ([], 1) by unfold packD; rw [hr]; rfl))
      rw [HA] at HPK
      clear HA hr
      go_wp2_with fail
      refine Calls.mono HSM.out ?_
      rintro e w3 ⟨rfl, hf3⟩
      have HF3 := Lib.hid (HF2.out.next hf3)
      have hb3 := hf3.keep HB2.out (fun h => h)
      clear x0 x1 x2 x3
      have x0 := cell_of hb3 (i := 0) (v := .int .i64 b.index) rfl
      have x1 := cell_of hb3 (i := 1) (v := .int .i64 b.term) rfl
      have x2 := cell_of hb3 (i := 2) (v := .slice a b.voters.length cap) rfl
      have x3 := cell_of hb3 (i := 3) (v := .string (bs b.data)) rfl
      clear hf3 hb3 HSM
      go_wp2_with fail
      refine Calls.mono (HPK.out _ HF3.out) ?_
      rintro e wt ⟨rfl, hft⟩
      have HFt := Lib.hid (HF3.out.next hft)
      clear hft HPK x0 x1 x2 x3
      have q1 : ((bs []).toList == ([] : Str)) = true := by rw [bs_toList]; rfl
      go_wp2_with fail
      go_ret
      exact ⟨by first | rfl | simp, HFt.out⟩
    | true =>
      obtain ⟨bn, hbn⟩ : ∃ bn : BaseD, bn = { b with data := [] } := ⟨_, rfl⟩
      have hrn : rightB bn = true := by
        rw [hbn]
        have hq := hr
        unfold rightB at hq ⊢
        simp only [Bool.and_eq_true, decide_eq_true_eq] at hq ⊢
        exact ⟨hq.1, hq.2.1, hq.2.2.1, hq.2.2.2.1, hq.2.2.2.2.1, hq.2.2.2.2.2.1, Nat.zero_le _⟩
      have HLN := Lib.hid (show ∀ (W : World), Fr (fun _ => False) w W → BaseIn W (fun k => k < W.heap.size) bn (.slice a b.voters.length cap) from fun W hf => by
        have h1 := HLT.out W hf HSB.out
        rw [hbn]
        exact ⟨h1.row, h1.nums, h1.index, h1.term, Nat.zero_le _⟩)
      have HPN := Lib.hid (fun (W : World) (hf : Fr (fun _ => False) w W) => pack_is (HLN.out _ hf) (t := packL bn) (er := 0) (show packD bn = (packL bn, 0) by unfold packD; rw [if_pos hrn]))
      have HPK := Lib.hid (fun (W : World) (hf : Fr (fun _ => False) w W) => pack_is (HLT.out _ hf HSB.out) (t := packL b) (er := 0) (show packD b = (packL b, 0) by unfold packD; rw [if_pos hr]))
      rw [HA] at HPK
      rw [show baseV bn (.slice a b.voters.length cap) = .agg #[.int .i64 b.index, .int .i64 b.term, .slice a b.voters.length cap, .string (bs [])] by rw [hbn]; rfl] at HPN
      rw [bs_nil] at HPN
      have hpl := pack_long hr (small_parts HSB.out).2
      have hpp : 8 ≤ (packL b).length := by rw [pack_bytes]; omega
      obtain ⟨g, hg, hgrow⟩ := pack_grows (b := b) (small_parts HSB.out).2
      rw [← hbn] at hgrow
      have hdl5 := (small_parts HSB.out).2
      obtain ⟨k, hk⟩ : ∃ k : Nat, pickZ at' (packL b).length = (k : Int) := ⟨(pickZ at' (packL b).length).toNat, by have := pickZ_lt (c := at') (n := (packL b).length) (by omega); omega⟩
      have hkl : k < (packL b).length := by have := pickZ_lt (c := at') (n := (packL b).length) (by omega); omega
      obtain ⟨e1, hcut⟩ := unpack_cut hr hkl
      have he1 : e1 ≠ 0 := by rcases unpack_err hcut with h | h <;> omega
      have hx : unpackL (packL b ++ [120]) = .error 8 := by rw [unpack_pack hr, if_neg (by simp)]
      have HPI := Lib.hid (fun (W : World) => pick_is (w := W) HAT.out (by omega) (by omega) hk)
      have HU1 := Lib.hid (fun (W : World) => unp_no_h (w := W) (by rw [List.length_take]; omega) hcut)
      have HU2 := Lib.hid (fun (W : World) => unp_no_h (w := W) (by rw [List.length_append]; simp; omega) hx)
      obtain ⟨pk, hpk⟩ : ∃ t, packL b = t := ⟨_, rfl⟩
      obtain ⟨tn, htn⟩ : ∃ t, packL bn = t := ⟨_, rfl⟩
      rw [hpk] at HPK HU1 HU2 HPI hpl hpp hgrow hkl
      rw [htn] at HPN hgrow
      have HSL := Lib.hid (fun (W : World) => slice_to (w := W) pk (Nat.le_of_lt hkl))
      have hsz : (bs pk).size = pk.length := rfl
      have hszn : (bs tn).size = tn.length := rfl
      have hszd : (bs b.data).size = b.data.length := rfl
      clear hr hcut hx hk hpk htn hbn hrn HLN HA
      go_wp2_with fail
      refine Calls.mono HSM.out ?_
      rintro e w3 ⟨rfl, hf3⟩
      have HF3 := Lib.hid (HF2.out.next hf3)
      have hb3 := hf3.keep HB2.out (fun h => h)
      clear x0 x1 x2 x3
      have x0 := cell_of hb3 (i := 0) (v := .int .i64 b.index) rfl
      have x1 := cell_of hb3 (i := 1) (v := .int .i64 b.term) rfl
      have x2 := cell_of hb3 (i := 2) (v := .slice a b.voters.length cap) rfl
      have x3 := cell_of hb3 (i := 3) (v := .string (bs b.data)) rfl
      have HB3 := Lib.hid hb3
      clear hf3 hb3 HSM
      go_wp2_with fail
      refine Calls.mono (HPK.out _ HF3.out) ?_
      rintro e w4 ⟨rfl, hf4⟩
      have HF4 := Lib.hid (HF3.out.next hf4)
      have hb4 := hf4.keep HB3.out (fun h => h)
      clear hf4 HPK x0 x1 x2 x3
      have x0 := cell_of hb4 (i := 0) (v := .int .i64 b.index) rfl
      have x1 := cell_of hb4 (i := 1) (v := .int .i64 b.term) rfl
      have x2 := cell_of hb4 (i := 2) (v := .slice a b.voters.length cap) rfl
      have x3 := cell_of hb4 (i := 3) (v := .string (bs b.data)) rfl
      have HB4 := Lib.hid hb4
      clear hb4
      go_upto_region 9 with fail
      obtain ⟨w5, hw5⟩ : ∃ w5, w5 = w4.alloc (.cells #[.int .i64 b.index, .int .i64 b.term, .slice a b.voters.length cap, .string (bs b.data)] 24) := ⟨_, rfl⟩
      have hF5 : Fr (fun _ => False) w4 w5 := by rw [hw5]; exact (Fr.refl _ _).alloc _
      have hc5 : w5.heap[w4.heap.size]? = some (.cells #[.int .i64 b.index, .int .i64 b.term, .slice a b.voters.length cap, .string (bs b.data)] 24 (0, 0)) := by rw [hw5]; exact block_new _ _
      rw [← hw5]
      clear hw5
      have y3 := cell_of hc5 (i := 3) (v := .string (bs b.data)) rfl
      have f3 := free_of 3 hc5
      have hs4 := lt_of_block HB4.out
      have hF6 : Fr (fun i => i = w4.heap.size) w5 (w5.setCell ⟨w4.heap.size, 3, none⟩ (.string ⟨#[]⟩)) := Fr.setCell (o := fun i => i = w4.heap.size) (Fr.refl _ _) (p := ⟨w4.heap.size, 3, none⟩) (.inl rfl) _
      have hc6 := block_set hc5 3 (.string ⟨#[]⟩)
      have hb6 := hF6.keep (hF5.keep HB4.out (fun h => h)) (by omega)
      have HF6 := Lib.hid (show Fr (fun _ => False) w (w5.setCell ⟨w4.heap.size, 3, none⟩ (.string ⟨#[]⟩)) from (HF4.out.next hF5).trans hF6 fun i hi => .inr (by omega))
      clear hF5 hF6 x0 x1 x2 x3
      go_upto_region 10 with fail
      generalize w5.setCell ⟨w4.heap.size, 3, none⟩ (.string ⟨#[]⟩) = w6 at *
      have z0 := cell_of hc6 (i := 0) (v := .int .i64 b.index) rfl
      have z1 := cell_of hc6 (i := 1) (v := .int .i64 b.term) rfl
      have z2 := cell_of hc6 (i := 2) (v := .slice a b.voters.length cap) rfl
      have z3 := cell_of hc6 (i := 3) (v := .string ⟨#[]⟩) rfl
      have HB6 := Lib.hid hb6
      clear y3 f3 hc5 hc6 hb6
      go_wp2_with fail
      refine Calls.mono (HPN.out _ HF6.out) ?_
      rintro e w7 ⟨rfl, hf7⟩
      have HF7 := Lib.hid (HF6.out.next hf7)
      have x3 := cell_of (hf7.keep HB6.out (fun h => h)) (i := 3) (v := .string (bs b.data)) rfl
      clear hf7 z0 z1 z2 z3 HPN
      have a1 : IntKind.i64.wrap ((b.data.length : Int) + 999) = (b.data.length : Int) + 999 := IntWalk.i64_in _ (by omega)
      go_upto_region 12 with fail
      have d1 : IntKind.i64.wrap ((pk.length : Int) - tn.length) = (pk.length : Int) - tn.length := IntWalk.i64_in _ (by omega)
      have d2 : IntKind.i64.wrap ((pk.length : Int) - tn.length - b.data.length) = (pk.length : Int) - tn.length - b.data.length := IntWalk.i64_in _ (by omega)
      have d3 : IntKind.i64.wrap (8 * (((b.data.length : Int) + 999) / 1000)) = 8 * (((b.data.length : Int) + 999) / 1000) := IntWalk.i64_in _ (by omega)
      have d4 : IntKind.i64.wrap ((pk.length : Int) - tn.length - b.data.length - 8 * (((b.data.length : Int) + 999) / 1000)) = (g : Int) := by rw [IntWalk.i64_in _ (by omega)]; omega
      have HGR := Lib.hid hgrow
      clear hgrow
      go_wp2_with fail
      clear d1 d2 d3 d4 a1 x3
      have hsl := HSL.out
      refine Calls.mono (HPI.out _) ?_
      rintro e w8 ⟨rfl, hw8⟩
      subst hw8
      go_wp2_with fail
      refine Calls.mono (HU1.out _) ?_
      rintro e w9 ⟨rfl, hf9⟩
      have HF9 := Lib.hid (HF7.out.next hf9)
      have hcc : bs pk ++ ⟨#[120]⟩ = bs (pk ++ [120]) := bs_append pk [120]
      have hsx : (⟨#[120]⟩ : ByteArray).size = 1 := rfl
      clear hf9 hsl
      go_wp2_with fail
      refine Calls.mono (HU2.out _) ?_
      rintro e wa ⟨rfl, hfa⟩
      have HFa := Lib.hid ((HF9.out.alloc _).next hfa)
      clear hfa hcc hsx
      have q1 : (e1 != 0) = true := by simpa using he1
      have q2 : (0 : Int) ≤ (g : Int) := by omega
      have q3 : (g : Int) ≤ 2 := by omega
      go_wp2_with fail
      go_ret
      exact ⟨by first | rfl | simp, HFa.out.alloc _⟩
end Go.Proofs.YtgmghopcppniaaaGreatDoor
