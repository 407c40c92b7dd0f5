/- The functions that the changes hand to 'does'. -/
import Derived.Test.YtgmghopcppniaaaGreatDoorK3
import Derived.Lib.Strings
namespace Go.Proofs.YtgmghopcppniaaaGreatDoor
open Go.RowKit Go.Lib

theorem bs_take (l : List UInt8) (k : Nat) : (bs l).extract 0 k = bs (l.take k) := by
  rw [extract_eq]; rfl
section
variable {w w' : World} {pb mb A B C : Nat} {D : DiskD} {n x to : List UInt8} {f g : FileD}

theorem map_old (hD : DiskAt w pb mb D) (hg : getF D.files n = some g) : MapOf w .string mb ((.string (bs n), valF g) :: (delF D.files n).map entF) := by
  have := hD.map.perm ((get_perm hD.inv.sorted hg).map entF)
  have e := (get_mem hg).2
  subst e
  exact this
theorem map_put (hs : Sorted D.files) (hm : MapOf w .string mb ((.string (bs f.name), valF f) :: (delF D.files f.name).map entF)) : MapOf w .string mb ((putF D.files f).map entF) :=
  hm.perm ((put_perm hs f).symm.map entF)

theorem own_of {W w1 : World} (h0 : Fr (fun _ => False) w W) (h1 : Fr (fun i => i = mb) W w1) : Fr (Own pb mb) w w1 :=
  (h0.mono fun _ _ h => h.elim).trans h1 fun _ hi => .inl (.inr hi)

theorem fine_h (a b : Value) : Calls Tryz.prog 124 #[.agg #[a, b]] w fun e w' => e = .returned (.int .i64 0) ∧ Fr (fun _ => False) w w' := by
  go_enter Tryz.func124, Tryz.ntmps124
  go_wp2_with fail
  go_ret
  exact ⟨rfl, (Fr.refl _ _).alloc _⟩

set_option maxRecDepth 100000 in
set_option maxHeartbeats 1000000 in
theorem sync1_h (hD : DiskAt w pb mb D) (cA : w.cell? ⟨A, 0, none⟩ = some (.pointer (some ⟨pb, 0, none⟩))) (cB : w.cell? ⟨B, 0, none⟩ = some (.string (bs n))) (hg : getF D.files n = some f) (hi : InvD (setF D (putF D.files ⟨n, f.bytes, f.bytes.length⟩))) :
    Calls Tryz.prog 156 #[.agg #[.string (bs f.bytes), .int .i64 f.synced], .pointer (some ⟨A, 0, none⟩), .pointer (some ⟨B, 0, none⟩)] w fun e w' => e = .returned (.tuple #[]) ∧ DiskAt w' pb mb (setF D (putF D.files ⟨n, f.bytes, f.bytes.length⟩)) ∧ Fr (Own pb mb) w w' := by
  have hF0 : Fr (fun _ => False) w (w.alloc (.cells #[.string (bs f.bytes), .int .i64 f.synced] 127)) := (Fr.refl _ _).alloc _
  have hD0 := hD.grow hF0
  have cA0 := hF0.cell cA (fun h => h)
  have cB0 := hF0.cell cB (fun h => h)
  have c0 := hD0.cells.1
  have cf0 : (w.alloc (.cells #[.string (bs f.bytes), .int .i64 f.synced] 127)).cell? ⟨w.heap.size, 0, none⟩ = some (.string (bs f.bytes)) := cell_of (block_new _ _) rfl
  have hm := map_old hD0 hg
  have hsz : (bs f.bytes).size = f.bytes.length := rfl
  have HI := Lib.hid (And.intro hi (And.intro hF0 (And.intro hD0 hD.ne)))
  have HG := Lib.hid hg
  clear hD hi cA cB hD0 hF0 hg
  go_enter Tryz.func156, Tryz.ntmps156
  go_wp2_with fail
  generalize w.alloc (.cells #[.string (bs f.bytes), .int .i64 f.synced] 127) = W at *
  go_still_tail 11, (by kernel_rfl)
  go_wp2_with (at_mapUpdate; go_must (refine wpList_map_set (val := .agg #[.string (bs f.bytes), .int .i64 f.bytes.length]) rfl _ _ _ 121 rfl 9 127 Tryz.underlying121 Tryz.underlying9 rfl rfl rfl (hm.keep (w' := W.drewN 1) rfl) ?_; intro w1 hm1 hf1))
  go_end0
  have hF1 : Fr (fun i => i = mb) W w1 := hf1.of_start
  refine ⟨rfl, ⟨hF1.keep HI.out.2.2.1.head HI.out.2.2.2, map_put HI.out.2.2.1.inv.sorted hm1, HI.out.1⟩, own_of HI.out.2.1 hF1⟩

/-! ### Truncate -/
def checkT (f : FileD) (k : Int) : Int := if k < 0 ∨ (f.bytes.length : Int) < k then 2 else 0
theorem trunc1_h {k : Int} (cA : w.cell? ⟨A, 0, none⟩ = some (.int .i64 k)) (f : FileD) : Calls Tryz.prog 183 #[.agg #[.string (bs f.bytes), .int .i64 f.synced], .pointer (some ⟨A, 0, none⟩)] w fun e w' => e = .returned (.int .i64 (checkT f k)) ∧ Fr (fun _ => False) w w' := by
  have hF0 : Fr (fun _ => False) w (w.alloc (.cells #[.string (bs f.bytes), .int .i64 f.synced] 127)) := (Fr.refl _ _).alloc _
  have cA0 := hF0.cell cA (fun h => h)
  have hsz : (bs f.bytes).size = f.bytes.length := rfl
  clear cA
  by_cases h1 : k < 0
  · have d1 : decide (k < 0) = true := by simpa using h1
    have HE := Lib.hid (show checkT f k = 2 from if_pos (.inl h1))
    clear h1
    go_enter Tryz.func183, Tryz.ntmps183
    go_wp2_with fail
    go_ret
    exact ⟨by rw [HE.out]; rfl, hF0⟩
  · have d1 : decide (k < 0) = false := by simpa using h1
    by_cases h2 : (f.bytes.length : Int) < k
    · have d2 : decide ((f.bytes.length : Int) < k) = true := by simpa using h2
      have HE := Lib.hid (show checkT f k = 2 from if_pos (.inr h2))
      clear h1 h2
      go_enter Tryz.func183, Tryz.ntmps183
      go_wp2_with fail
      go_ret
      exact ⟨by rw [HE.out]; rfl, hF0⟩
    · have d2 : decide ((f.bytes.length : Int) < k) = false := by simpa using h2
      have HE := Lib.hid (show checkT f k = 0 from if_neg (by omega))
      clear h1 h2
      go_enter Tryz.func183, Tryz.ntmps183
      go_wp2_with fail
      go_ret
      exact ⟨by rw [HE.out]; rfl, hF0⟩
set_option maxRecDepth 100000 in
set_option maxHeartbeats 1000000 in
theorem trunc2_h {k : Nat} (hk : k ≤ f.bytes.length) (_hb : f.bytes.length ≤ 10000000) (cK : w.cell? ⟨C, 0, none⟩ = some (.int .i64 k)) (hD : DiskAt w pb mb D) (cA : w.cell? ⟨A, 0, none⟩ = some (.pointer (some ⟨pb, 0, none⟩))) (cB : w.cell? ⟨B, 0, none⟩ = some (.string (bs n))) (hg : getF D.files n = some f) (hi : InvD (setF D (putF D.files ⟨n, f.bytes.take k, min f.synced k⟩))) :
    Calls Tryz.prog 184 #[.agg #[.string (bs f.bytes), .int .i64 f.synced], .pointer (some ⟨C, 0, none⟩), .pointer (some ⟨A, 0, none⟩), .pointer (some ⟨B, 0, none⟩)] w fun e w' => e = .returned (.tuple #[]) ∧ DiskAt w' pb mb (setF D (putF D.files ⟨n, f.bytes.take k, min f.synced k⟩)) ∧ Fr (Own pb mb) w w' := by
  have hF0 : Fr (fun _ => False) w (w.alloc (.cells #[.string (bs f.bytes), .int .i64 f.synced] 127)) := (Fr.refl _ _).alloc _
  have hD0 := hD.grow hF0
  have cA0 := hF0.cell cA (fun h => h)
  have cK0 := hF0.cell cK (fun h => h)
  have cB0 := hF0.cell cB (fun h => h)
  have c0 := hD0.cells.1
  have cf1 : (w.alloc (.cells #[.string (bs f.bytes), .int .i64 f.synced] 127)).cell? ⟨w.heap.size, 1, none⟩ = some (.int .i64 f.synced) := cell_of (block_new _ _) rfl
  have cf0 : (w.alloc (.cells #[.string (bs f.bytes), .int .i64 f.synced] 127)).cell? ⟨w.heap.size, 0, none⟩ = some (.string (bs f.bytes)) := cell_of (block_new _ _) rfl
  have hm := map_old hD0 hg
  have hext : (bs f.bytes).extract 0 k = bs (f.bytes.take k) := bs_take _ _
  have hsz : (bs f.bytes).size = f.bytes.length := rfl
  have HI := Lib.hid (And.intro hi (And.intro hF0 (And.intro hD0 hD.ne)))
  have HG := Lib.hid hg
  clear hD hi cA cB cK hD0 hF0 hg
  by_cases hm2 : k < f.synced
  · have hmin : min f.synced k = k := by omega
    rw [hmin] at HI ⊢
    have hm3 : (k : Int) < (f.synced : Int) := by omega
    go_enter Tryz.func184, Tryz.ntmps184
    go_wp2_with fail
    generalize w.alloc (.cells #[.string (bs f.bytes), .int .i64 f.synced] 127) = W at *
    go_still_tail 14, (by kernel_rfl)
    go_wp2_with (at_mapUpdate; go_must (refine wpList_map_set (val := .agg #[.string (bs (f.bytes.take k)), .int .i64 k]) rfl _ _ _ 121 rfl 9 127 Tryz.underlying121 Tryz.underlying9 rfl rfl rfl (hm.keep (w' := W.drewN 1) rfl) ?_; intro w1 hm1 hf1))
    go_end0
    have hF1 : Fr (fun i => i = mb) W w1 := hf1.of_start
    refine ⟨rfl, ⟨hF1.keep HI.out.2.2.1.head HI.out.2.2.2, map_put HI.out.2.2.1.inv.sorted hm1, HI.out.1⟩, own_of HI.out.2.1 hF1⟩
  · have hmin : min f.synced k = f.synced := by omega
    rw [hmin] at HI ⊢
    have hm3 : (f.synced : Int) ≤ (k : Int) := by omega
    go_enter Tryz.func184, Tryz.ntmps184
    go_wp2_with fail
    generalize w.alloc (.cells #[.string (bs f.bytes), .int .i64 f.synced] 127) = W at *
    go_still_tail 14, (by kernel_rfl)
    go_wp2_with (at_mapUpdate; go_must (refine wpList_map_set (val := .agg #[.string (bs (f.bytes.take k)), .int .i64 f.synced]) rfl _ _ _ 121 rfl 9 127 Tryz.underlying121 Tryz.underlying9 rfl rfl rfl (hm.keep (w' := W.drewN 1) rfl) ?_; intro w1 hm1 hf1))
    go_end0
    have hF1 : Fr (fun i => i = mb) W w1 := hf1.of_start
    refine ⟨rfl, ⟨hF1.keep HI.out.2.2.1.head HI.out.2.2.2, map_put HI.out.2.2.1.inv.sorted hm1, HI.out.1⟩, own_of HI.out.2.1 hF1⟩

/-! ### Delete and Rename -/
set_option maxRecDepth 100000 in
set_option maxHeartbeats 1000000 in
theorem del1_h (hD : DiskAt w pb mb D) (cA : w.cell? ⟨A, 0, none⟩ = some (.pointer (some ⟨pb, 0, none⟩))) (cB : w.cell? ⟨B, 0, none⟩ = some (.string (bs n))) (hg : getF D.files n = some f) (hi : InvD (setF D (delF D.files n))) (a b : Value) :
    Calls Tryz.prog 125 #[.agg #[a, b], .pointer (some ⟨A, 0, none⟩), .pointer (some ⟨B, 0, none⟩)] w fun e w' => e = .returned (.tuple #[]) ∧ DiskAt w' pb mb (setF D (delF D.files n)) ∧ Fr (Own pb mb) w w' := by
  have hF0 : Fr (fun _ => False) w (w.alloc (.cells #[a, b] 127)) := (Fr.refl _ _).alloc _
  have hD0 := hD.grow hF0
  have cA0 := hF0.cell cA (fun h => h)
  have cB0 := hF0.cell cB (fun h => h)
  have c0 := hD0.cells.1
  have hm := map_old hD0 hg
  have HI := Lib.hid (And.intro hi (And.intro hF0 (And.intro hD0 hD.ne)))
  clear hD hi cA cB hD0 hF0 hg
  go_enter Tryz.func125, Tryz.ntmps125
  go_wp2_with fail
  generalize w.alloc (.cells #[a, b] 127) = W at *
  go_still_tail 5, (by kernel_rfl)
  go_wp2_with (at_delete; go_must (refine wpList_map_del rfl _ _ 121 9 rfl 127 Tryz.underlying121 Tryz.underlying9 rfl rfl (hm.keep (w' := W.drewN 1) rfl) ?_; intro w1 hm1 hf1))
  go_end0
  have hF1 : Fr (fun i => i = mb) W w1 := hf1.of_start
  exact ⟨rfl, ⟨hF1.keep HI.out.2.2.1.head HI.out.2.2.2, hm1, HI.out.1⟩, own_of HI.out.2.1 hF1⟩
end
end Go.Proofs.YtgmghopcppniaaaGreatDoor
