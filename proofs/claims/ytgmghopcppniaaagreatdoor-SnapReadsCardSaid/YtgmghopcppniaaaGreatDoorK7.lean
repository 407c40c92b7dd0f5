/- The functions that Rename hands to 'does'. -/
import Derived.Test.YtgmghopcppniaaaGreatDoorK6
namespace Go.Proofs.YtgmghopcppniaaaGreatDoor
open Go.RowKit Go.Lib

section
variable {w w' : World} {pb mb A B C : Nat} {D : DiskD} {n x to : List UInt8} {f g : FileD}
def checkN (to : List UInt8) : Int := if nameOK to = false then 3 else 0
theorem rename1_h (cC : w.cell? ⟨C, 0, none⟩ = some (.string (bs to))) (ht : to.length ≤ 1000000) (a b : Value) : Calls Tryz.prog 157 #[.agg #[a, b], .pointer (some ⟨C, 0, none⟩)] w fun e w' => e = .returned (.int .i64 (checkN to)) ∧ Fr (fun _ => False) w w' := by
  have hF0 : Fr (fun _ => False) w (w.alloc (.cells #[a, b] 127)) := (Fr.refl _ _).alloc _
  have cC0 := hF0.cell cC (fun h => h)
  have HN := Lib.hid (name_h (w := w.alloc (.cells #[a, b] 127)) ht)
  clear cC
  cases hk : nameOK to with
  | true =>
    have HE := Lib.hid (show checkN to = 0 by unfold checkN; rw [hk]; rfl)
    rw [hk] at HN
    clear hk
    go_enter Tryz.func157, Tryz.ntmps157
    go_wp2_with fail
    refine Calls.mono HN.out ?_
    rintro e w1 ⟨rfl, hf⟩
    go_wp2_with fail
    go_ret
    exact ⟨by rw [HE.out]; rfl, hF0.next hf⟩
  | false =>
    have HE := Lib.hid (show checkN to = 3 by unfold checkN; rw [hk]; rfl)
    rw [hk] at HN
    clear hk
    go_enter Tryz.func157, Tryz.ntmps157
    go_wp2_with fail
    refine Calls.mono HN.out ?_
    rintro e w1 ⟨rfl, hf⟩
    go_wp2_with fail
    go_ret
    exact ⟨by rw [HE.out]; rfl, hF0.next hf⟩

set_option maxRecDepth 100000 in
set_option maxHeartbeats 2000000 in
theorem rename2_h (hD : DiskAt w pb mb D) (cA : w.cell? ⟨A, 0, none⟩ = some (.pointer (some ⟨pb, 0, none⟩))) (cB : w.cell? ⟨B, 0, none⟩ = some (.string (bs n))) (cC : w.cell? ⟨C, 0, none⟩ = some (.string (bs to)))
    (hA : ¬ Own pb mb A) (hC : ¬ Own pb mb C) (hg : getF D.files n = some f) (hi : InvD (setF D (putF (delF D.files n) ⟨to, f.bytes, f.synced⟩))) :
    Calls Tryz.prog 158 #[.agg #[.string (bs f.bytes), .int .i64 f.synced], .pointer (some ⟨A, 0, none⟩), .pointer (some ⟨B, 0, none⟩), .pointer (some ⟨C, 0, none⟩)] w fun e w' => e = .returned (.tuple #[]) ∧ DiskAt w' pb mb (setF D (putF (delF D.files n) ⟨to, f.bytes, f.synced⟩)) ∧ Fr (Own pb mb) w w' := by
  have hF0 : Fr (fun _ => False) w (w.alloc (.cells #[.string (bs f.bytes), .int .i64 f.synced] 127)) := (Fr.refl _ _).alloc _
  have hD0 := hD.grow hF0
  have cA0 := hF0.cell cA (fun h => h)
  have cB0 := hF0.cell cB (fun h => h)
  have cC0 := hF0.cell cC (fun h => h)
  have c0 := hD0.cells.1
  have cf0 : (w.alloc (.cells #[.string (bs f.bytes), .int .i64 f.synced] 127)).cell? ⟨w.heap.size, 0, none⟩ = some (.string (bs f.bytes)) := cell_of (block_new _ _) rfl
  have cf1 : (w.alloc (.cells #[.string (bs f.bytes), .int .i64 f.synced] 127)).cell? ⟨w.heap.size, 1, none⟩ = some (.int .i64 f.synced) := cell_of (block_new _ _) rfl
  have hm := map_old hD0 hg
  have hml : mb < w.heap.size := hD.map.lt
  have hAm : A ≠ mb := fun e => hA (.inr e)
  have hCm : C ≠ mb := fun e => hC (.inr e)
  have hds := del_sorted hD.inv.sorted n
  have HI := Lib.hid (And.intro hi (And.intro hF0 (And.intro hD0 (And.intro hD.ne hds))))
  clear hD hi cA cB cC hD0 hF0 hg hA hC hds
  go_enter Tryz.func158, Tryz.ntmps158
  go_wp2_with fail
  generalize w.alloc (.cells #[.string (bs f.bytes), .int .i64 f.synced] 127) = W at *
  go_still_tail 5, (by kernel_rfl)
  go_wp2_with (at_delete; go_must (refine wpList_map_del rfl _ _ 121 9 rfl 127 Tryz.underlying121 Tryz.underlying9 rfl rfl (hm.keep (w' := W.drewN 1) rfl) ?_; intro w1 hm1 hf1))
  have hF1 : Fr (fun i => i = mb) W w1 := hf1.of_start
  have cA1 := hF1.cell cA0 hAm
  have cC1 := hF1.cell cC0 hCm
  have c01 := hF1.cell c0 HI.out.2.2.2.1
  have cf01 := hF1.cell cf0 (show w.heap.size ≠ mb by omega)
  have cf11 := hF1.cell cf1 (show w.heap.size ≠ mb by omega)
  have HF1 := Lib.hid hF1
  clear hf1 hF1 cA0 cC0 c0 cf0 cf1 hm cB0
  cases hgt : getF (delF D.files n) to with
  | none =>
    have hno : ∀ p ∈ (delF D.files n).map entF, p.1 ≠ .string (bs to) := key_ne (D := setF D (delF D.files n)) (n := to) hgt
    have hdn := del_none hgt
    have HT := Lib.hid (And.intro hno hdn)
    clear hno hdn hgt
    go_still_tail 6, (by kernel_rfl)
    go_wp2_with (at_mapUpdate; go_must (refine wpList_map_add (key := .string (bs to)) (val := .agg #[.string (bs f.bytes), .int .i64 f.synced]) rfl _ _ _ 121 rfl 9 127 Tryz.underlying121 Tryz.underlying9 rfl rfl rfl (hm1.keep (w' := w1.drewN 1) rfl) trivial HT.out.1 ?_; intro w2 hm2 hf2))
    go_end0
    have hF2 : Fr (fun i => i = mb) W w2 := HF1.out.next hf2.of_start
    refine ⟨rfl, ⟨hF2.keep HI.out.2.2.1.head HI.out.2.2.2.1, ?_, HI.out.1⟩, own_of HI.out.2.1 hF2⟩
    refine hm2.perm ?_
    have := (put_perm HI.out.2.2.2.2 ⟨to, f.bytes, f.synced⟩).map entF
    rw [show (⟨to, f.bytes, f.synced⟩ : FileD).name = to from rfl, HT.out.2] at this
    exact this.symm
  | some g =>
    have hp := (get_perm HI.out.2.2.2.2 hgt).map entF
    have hgn := (get_mem hgt).2
    have hm1' : MapOf w1 .string mb ((.string (bs to), valF g) :: (delF (delF D.files n) to).map entF) := by
      have := hm1.perm hp
      subst hgn
      exact this
    clear hp hgn hm1 hgt
    go_still_tail 6, (by kernel_rfl)
    go_wp2_with (at_mapUpdate; go_must (refine wpList_map_set (val := .agg #[.string (bs f.bytes), .int .i64 f.synced]) rfl _ _ _ 121 rfl 9 127 Tryz.underlying121 Tryz.underlying9 rfl rfl rfl (hm1'.keep (w' := w1.drewN 1) rfl) ?_; intro w2 hm2 hf2))
    go_end0
    have hF2 : Fr (fun i => i = mb) W w2 := HF1.out.next hf2.of_start
    refine ⟨rfl, ⟨hF2.keep HI.out.2.2.1.head HI.out.2.2.2.1, ?_, HI.out.1⟩, own_of HI.out.2.1 hF2⟩
    exact hm2.perm ((put_perm HI.out.2.2.2.2 ⟨to, f.bytes, f.synced⟩).map entF).symm
end
end Go.Proofs.YtgmghopcppniaaaGreatDoor
