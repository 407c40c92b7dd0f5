/- The law SnapPacks: walked. -/
import Derived.Test.YtgmghopcppniaaaGreatDoorS25
import Derived.Test.YtgmghopcppniaaaGreatDoorR5
namespace Go.Proofs.YtgmghopcppniaaaGreatDoor
open Go.RowKit Go.Lib

theorem right_to {w : World} {S : Nat → Prop} {b : BaseD} {v : Value} {x : Bool} (h : BaseIn w S b v) (hx : rightB b = x) : Calls Tryz.prog 22 #[baseV b v] w fun e w' => e = .returned (.bool x) ∧ Fr (fun _ => False) w w' := by
  refine (right_h h).mono ?_
  rintro e w' ⟨rfl, hf⟩
  exact ⟨by rw [hx], hf⟩
theorem rright_to {w : World} {S : Nat → Prop} {b : BaseD} {v : Value} {x : Bool} (h : BaseIn w S b v) (hx : rightB b = x) : Calls Tryz.prog 23 #[baseV b v] w fun e w' => e = .returned (.bool x) ∧ Fr (fun _ => False) w w' := by
  refine (rright_h h).mono ?_
  rintro e w' ⟨rfl, hf⟩
  exact ⟨by rw [hx], hf⟩
theorem rpack_is {w : World} {b : BaseD} {v : Value} {t : Str} {er : Int} (h : BaseIn w (fun k => k < w.heap.size) b v) (hp : packD b = (t, er)) : Calls Tryz.prog 19 #[baseV b v] w fun e w' => e = .returned (.tuple #[.string (bs t), .int .i64 er]) ∧ Fr (fun _ => False) w w' := by
  refine (rpack_h h).mono ?_
  rintro e w' ⟨rfl, hf⟩
  exact ⟨by rw [hp], hf⟩
set_option maxRecDepth 100000 in
set_option maxHeartbeats 8000000 in
theorem snappacks_h {w : World} (hE : Env w) (h8 : 8 ≤ w.heap.size) {b : BaseD} {v : Value} (h : BaseRaw w (fun k => k < w.heap.size) b v) :
    Calls Tryz.prog 4 #[baseV b v] w fun e w' => e = .returned (.bool true) ∧ Fr (fun _ => False) w w' := by
  obtain ⟨a, cap, rfl, hcap, hcap2⟩ := h.row.form
  have HA : baseV b (.slice a b.voters.length cap) = .agg #[.int .i64 b.index, .int .i64 b.term, .slice a b.voters.length cap, .string (bs b.data)] := rfl
  rw [HA]
  obtain ⟨w1, hw1⟩ : ∃ w1, w1 = w.alloc (.cells #[.int .i64 b.index, .int .i64 b.term, .slice a b.voters.length cap, .string (bs b.data)] 24) := ⟨_, rfl⟩
  have HF1 : Hid (Fr (fun _ => False) w w1) := by show Fr _ _ _; rw [hw1]; exact (Fr.refl _ _).alloc _
  have HB1 : Hid (w1.heap[w.heap.size]? = some (.cells #[.int .i64 b.index, .int .i64 b.term, .slice a b.voters.length cap, .string (bs b.data)] 24 (0, 0))) := by show w1.heap[w.heap.size]? = _; rw [hw1]; exact block_new _ _
  have HSH := Lib.hid (shown_h (hE.grow HF1.out) (Nat.le_trans h8 HF1.out.size))
  have HH := Lib.hid h
  have hdl := h.data
  have HLT := Lib.hid (show ∀ (W : World), Fr (fun _ => False) w W → smallB b = true → BaseIn W (fun k => k < W.heap.size) b (.slice a b.voters.length cap) from fun W hf hsm => ((HH.out.small hsm).grow hf).mono fun k hk => Nat.lt_of_lt_of_le hk hf.size)
  clear h
  go_enter Tryz.func4, Tryz.ntmps4
  go_wp2_with fail
  rw [← hw1]
  clear hw1
  refine Calls.mono HSH.out ?_
  rintro e w2 ⟨rfl, hf2⟩
  have HF2 := Lib.hid (HF1.out.next hf2)
  have hb2 := hf2.keep HB1.out (fun h => h)
  have x0 := cell_of hb2 (i := 0) (v := .int .i64 b.index) rfl
  have x1 := cell_of hb2 (i := 1) (v := .int .i64 b.term) rfl
  have x2 := cell_of hb2 (i := 2) (v := .slice a b.voters.length cap) rfl
  have x3 := cell_of hb2 (i := 3) (v := .string (bs b.data)) rfl
  have HB2 := Lib.hid hb2
  clear hf2 hb2 HSH
  cases hsm : smallB b with
  | false =>
    have HSM := Lib.hid (small_is (w := w2) (a := a) (cap := cap) (by omega) hdl hsm)
    rw [HA] at HSM
    clear HA hsm
    go_wp2_with fail
    refine Calls.mono HSM.out ?_
    rintro e w3 ⟨rfl, hf3⟩
    have HF3 := Lib.hid (HF2.out.next hf3)
    clear hf3
    go_wp2_with fail
    go_ret
    exact ⟨rfl, HF3.out⟩
  | true =>
    have HSM := Lib.hid (small_is (w := w2) (a := a) (cap := cap) (by omega) hdl hsm)
    rw [HA] at HSM
    have HSB := Lib.hid hsm
    clear hsm
    obtain ⟨r, hr⟩ : ∃ r, rightB b = r := ⟨_, rfl⟩
    obtain ⟨T, er, hp⟩ : ∃ T er, packD b = (T, er) := ⟨_, _, rfl⟩
    have HP1 := Lib.hid (fun (W : World) (hf : Fr (fun _ => False) w W) => pack_is (HLT.out _ hf HSB.out) hp)
    have HP2 := Lib.hid (fun (W : World) (hf : Fr (fun _ => False) w W) => rpack_is (HLT.out _ hf HSB.out) hp)
    have HR1 := Lib.hid (fun (W : World) (hf : Fr (fun _ => False) w W) => right_to (HLT.out _ hf HSB.out) hr)
    have HR2 := Lib.hid (fun (W : World) (hf : Fr (fun _ => False) w W) => rright_to (HLT.out _ hf HSB.out) hr)
    rw [HA] at HP1 HP2 HR1 HR2
    clear HA hr hp
    go_wp2_with fail
    refine Calls.mono HSM.out ?_
    rintro e w3 ⟨rfl, hf3⟩
    have HF3 := Lib.hid (HF2.out.next hf3)
    have hb3 := hf3.keep HB2.out (fun h => h)
    clear x0 x1 x2 x3
    have x0 := cell_of hb3 (i := 0) (v := .int .i64 b.index) rfl
    have x1 := cell_of hb3 (i := 1) (v := .int .i64 b.term) rfl
    have x2 := cell_of hb3 (i := 2) (v := .slice a b.voters.length cap) rfl
    have x3 := cell_of hb3 (i := 3) (v := .string (bs b.data)) rfl
    have HB3 := Lib.hid hb3
    clear hf3 hb3 HSM
    go_wp2_with fail
    refine Calls.mono (HP1.out _ HF3.out) ?_
    rintro e w4 ⟨rfl, hf4⟩
    have HF4 := Lib.hid (HF3.out.next hf4)
    have hb4 := hf4.keep HB3.out (fun h => h)
    clear hf4 HP1 x0 x1 x2 x3
    have x0 := cell_of hb4 (i := 0) (v := .int .i64 b.index) rfl
    have x1 := cell_of hb4 (i := 1) (v := .int .i64 b.term) rfl
    have x2 := cell_of hb4 (i := 2) (v := .slice a b.voters.length cap) rfl
    have x3 := cell_of hb4 (i := 3) (v := .string (bs b.data)) rfl
    have HB4 := Lib.hid hb4
    clear hb4
    go_wp2_with fail
    refine Calls.mono (HP2.out _ HF4.out) ?_
    rintro e w5 ⟨rfl, hf5⟩
    have HF5 := Lib.hid (HF4.out.next hf5)
    have hb5 := hf5.keep HB4.out (fun h => h)
    clear hf5 HP2 x0 x1 x2 x3
    have x0 := cell_of hb5 (i := 0) (v := .int .i64 b.index) rfl
    have x1 := cell_of hb5 (i := 1) (v := .int .i64 b.term) rfl
    have x2 := cell_of hb5 (i := 2) (v := .slice a b.voters.length cap) rfl
    have x3 := cell_of hb5 (i := 3) (v := .string (bs b.data)) rfl
    have HB5 := Lib.hid hb5
    clear hb5
    have f5 := HF5.out
    go_upto_region 7 with fail
    go_cut [2] (fun s2 wx => Hid (s2 = .bool true ∧ Fr (fun _ => False) w wx))
    case first =>
      go_region_held (fun w' => w'.cell? ⟨w.heap.size, 0, none⟩ = some (.int .i64 b.index) ∧ w'.cell? ⟨w.heap.size, 1, none⟩ = some (.int .i64 b.term) ∧ w'.cell? ⟨w.heap.size, 2, none⟩ = some (.slice a b.voters.length cap) ∧ w'.cell? ⟨w.heap.size, 3, none⟩ = some (.string (bs b.data)))
        (first | go_keep | (with_reducible exact ⟨s0_fB, s1_fB, s2_fB, s3_fB⟩) | (with_reducible exact ⟨s0_fA, s1_fA, s2_fA, s3_fA⟩) | fail)
        (first
          | (go_at_call 22; (with_reducible refine Calls.mono (HR1.out _ (show Fr (fun _ => False) w _ by repeat (first | exact f5 | refine Fr.drew ?_))) ?_); clear HR1; rintro e wA ⟨rfl, hq⟩; have fA5 := (show Fr (fun _ => False) w5 _ by repeat (first | exact Fr.refl _ _ | refine Fr.drew ?_)).next hq; have fA := f5.next fA5; have s0_fA := fA5.cell x0 (fun h => h); have s1_fA := fA5.cell x1 (fun h => h); have s2_fA := fA5.cell x2 (fun h => h); have s3_fA := fA5.cell x3 (fun h => h); clear hq)
          | (go_at_call 23; (with_reducible refine Calls.mono (HR2.out _ (show Fr (fun _ => False) w _ by repeat (first | exact fA | refine Fr.drew ?_))) ?_); clear HR2; rintro e wB ⟨rfl, hq⟩; have fB5 := (show Fr (fun _ => False) w5 _ by repeat (first | exact fA5 | refine Fr.drew ?_)).next hq; have fB := f5.next fB5; have s0_fB := fB5.cell x0 (fun h => h); have s1_fB := fB5.cell x1 (fun h => h); have s2_fB := fB5.cell x2 (fun h => h); have s3_fB := fB5.cell x3 (fun h => h); clear hq)
          | fail)
      all_goals
        go_wp2_with fail
        go_meet
        exact ⟨by first | rfl | simp, by first | exact fB | exact fB.drew⟩
    case rest =>
      obtain ⟨rfl, hf⟩ := hcut.out
      go_wp2_with fail
      go_ret
      exact ⟨rfl, hf⟩
end Go.Proofs.YtgmghopcppniaaaGreatDoor
