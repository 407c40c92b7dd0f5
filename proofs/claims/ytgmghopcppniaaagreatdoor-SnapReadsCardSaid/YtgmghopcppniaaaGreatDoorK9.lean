/- Sync, Truncate, Rename, Delete. -/
import Derived.Test.YtgmghopcppniaaaGreatDoorK8
namespace Go.Proofs.YtgmghopcppniaaaGreatDoor
open Go.RowKit Go.Lib

section
variable {w w' : World} {pb mb A B C : Nat} {D : DiskD}
theorem Does.from {w W w' : World} {p : Int × DiskD} {e : Ending} (hf : Fr (fun _ => False) w W) (h : Does pb mb p W e w') : Does pb mb p w e w' := ⟨h.1, h.2.1, (hf.mono fun _ _ h => h.elim).next h.2.2⟩

set_option maxHeartbeats 1000000 in
theorem sync_h (hD : DiskAt w pb mb D) (n : List UInt8) : Calls Tryz.prog 126 #[.pointer (some ⟨pb, 0, none⟩), .string (bs n)] w (Does pb mb (syncD D n) w) := by
  have hpm : pb < w.heap.size ∧ mb < w.heap.size := ⟨lt_of_block hD.head, hD.map.lt⟩
  have hF : Fr (fun _ => False) w ((w.alloc (.cells #[.pointer (some ⟨pb, 0, none⟩)] 39)).alloc (.cells #[.string (bs n)] 9)) := (((Fr.refl _ _).alloc _).alloc _)
  have hDW := hD.grow hF
  have cA : (((w.alloc (.cells #[.pointer (some ⟨pb, 0, none⟩)] 39)).alloc (.cells #[.string (bs n)] 9))).cell? ⟨w.heap.size, 0, none⟩ = some (.pointer (some ⟨pb, 0, none⟩)) := cell_of (i := 0) (block_old (block_new_at rfl) _) rfl
  have cB : (((w.alloc (.cells #[.pointer (some ⟨pb, 0, none⟩)] 39)).alloc (.cells #[.string (bs n)] 9))).cell? ⟨w.heap.size + 1, 0, none⟩ = some (.string (bs n)) := cell_of (i := 0) (block_new_at (by simp)) rfl
  have hA : ¬ Own pb mb w.heap.size := fun h => by rcases h with h | h <;> omega
  have hB : ¬ Own pb mb (w.heap.size + 1) := fun h => by rcases h with h | h <;> omega
  have HX := Lib.hid (does_sync (D := D) (n := n) hDW cA cB hA hB)
  have hmf : ∀ (fn : Fn) (first cap : Array Value) (w : World), (Instr.makeFunc fn first cap).run Tryz.prog w = .ok (.func fn first cap) w := fun _ _ _ _ => rfl
  have HF := Lib.hid hF
  clear hDW cA cB hA hB hF hD hpm
  go_enter Tryz.func126, Tryz.ntmps126
  go_wp2_with fail
  refine Calls.mono HX.out ?_
  rintro e w1 ⟨rfl, hD1, hf1⟩
  go_wp2_with fail
  go_ret
  exact ⟨rfl, hD1, (HF.out.mono fun _ _ h => h.elim).next hf1⟩

set_option maxHeartbeats 1000000 in
theorem trunc_h (hD : DiskAt w pb mb D) (n : List UInt8) (k : Int) : Calls Tryz.prog 137 #[.pointer (some ⟨pb, 0, none⟩), .string (bs n), .int .i64 k] w (Does pb mb (truncD D n k) w) := by
  have hpm : pb < w.heap.size ∧ mb < w.heap.size := ⟨lt_of_block hD.head, hD.map.lt⟩
  have hF : Fr (fun _ => False) w (((w.alloc (.cells #[.pointer (some ⟨pb, 0, none⟩)] 39)).alloc (.cells #[.string (bs n)] 9)).alloc (.cells #[.int .i64 k] 3)) := (((Fr.refl _ _).alloc _).alloc _).alloc _
  have hDW := hD.grow hF
  have cA : ((((w.alloc (.cells #[.pointer (some ⟨pb, 0, none⟩)] 39)).alloc (.cells #[.string (bs n)] 9)).alloc (.cells #[.int .i64 k] 3))).cell? ⟨w.heap.size, 0, none⟩ = some (.pointer (some ⟨pb, 0, none⟩)) := cell_of (i := 0) (block_old (block_old (block_new_at rfl) _) _) rfl
  have cB : ((((w.alloc (.cells #[.pointer (some ⟨pb, 0, none⟩)] 39)).alloc (.cells #[.string (bs n)] 9)).alloc (.cells #[.int .i64 k] 3))).cell? ⟨w.heap.size + 1, 0, none⟩ = some (.string (bs n)) := cell_of (i := 0) (block_old (block_new_at (by simp)) _) rfl
  have cC : ((((w.alloc (.cells #[.pointer (some ⟨pb, 0, none⟩)] 39)).alloc (.cells #[.string (bs n)] 9)).alloc (.cells #[.int .i64 k] 3))).cell? ⟨w.heap.size + 2, 0, none⟩ = some (.int .i64 k) := cell_of (i := 0) (block_new_at (by simp)) rfl
  have hC : ¬ Own pb mb (w.heap.size + 2) := fun h => by rcases h with h | h <;> omega
  have hA : ¬ Own pb mb w.heap.size := fun h => by rcases h with h | h <;> omega
  have hB : ¬ Own pb mb (w.heap.size + 1) := fun h => by rcases h with h | h <;> omega
  have HX := Lib.hid (does_trunc (D := D) (n := n) (k := k) hDW cC hC cA cB hA hB)
  have hmf : ∀ (fn : Fn) (first cap : Array Value) (w : World), (Instr.makeFunc fn first cap).run Tryz.prog w = .ok (.func fn first cap) w := fun _ _ _ _ => rfl
  have HF := Lib.hid hF
  clear hDW cA cB hA hB hF hD hpm cC hC
  go_enter Tryz.func137, Tryz.ntmps137
  go_wp2_with fail
  refine Calls.mono HX.out ?_
  rintro e w1 ⟨rfl, hD1, hf1⟩
  go_wp2_with fail
  go_ret
  exact ⟨rfl, hD1, (HF.out.mono fun _ _ h => h.elim).next hf1⟩

set_option maxHeartbeats 1000000 in
theorem rename_h (hD : DiskAt w pb mb D) (n : List UInt8) (to : List UInt8) (hto : to.length ≤ 1000000) : Calls Tryz.prog 127 #[.pointer (some ⟨pb, 0, none⟩), .string (bs n), .string (bs to)] w (Does pb mb (renameD D n to) w) := by
  have hpm : pb < w.heap.size ∧ mb < w.heap.size := ⟨lt_of_block hD.head, hD.map.lt⟩
  have hF : Fr (fun _ => False) w (((w.alloc (.cells #[.pointer (some ⟨pb, 0, none⟩)] 39)).alloc (.cells #[.string (bs n)] 9)).alloc (.cells #[.string (bs to)] 9)) := (((Fr.refl _ _).alloc _).alloc _).alloc _
  have hDW := hD.grow hF
  have cA : ((((w.alloc (.cells #[.pointer (some ⟨pb, 0, none⟩)] 39)).alloc (.cells #[.string (bs n)] 9)).alloc (.cells #[.string (bs to)] 9))).cell? ⟨w.heap.size, 0, none⟩ = some (.pointer (some ⟨pb, 0, none⟩)) := cell_of (i := 0) (block_old (block_old (block_new_at rfl) _) _) rfl
  have cB : ((((w.alloc (.cells #[.pointer (some ⟨pb, 0, none⟩)] 39)).alloc (.cells #[.string (bs n)] 9)).alloc (.cells #[.string (bs to)] 9))).cell? ⟨w.heap.size + 1, 0, none⟩ = some (.string (bs n)) := cell_of (i := 0) (block_old (block_new_at (by simp)) _) rfl
  have cC : ((((w.alloc (.cells #[.pointer (some ⟨pb, 0, none⟩)] 39)).alloc (.cells #[.string (bs n)] 9)).alloc (.cells #[.string (bs to)] 9))).cell? ⟨w.heap.size + 2, 0, none⟩ = some (.string (bs to)) := cell_of (i := 0) (block_new_at (by simp)) rfl
  have hC : ¬ Own pb mb (w.heap.size + 2) := fun h => by rcases h with h | h <;> omega
  have hA : ¬ Own pb mb w.heap.size := fun h => by rcases h with h | h <;> omega
  have hB : ¬ Own pb mb (w.heap.size + 1) := fun h => by rcases h with h | h <;> omega
  have HX := Lib.hid (does_rename (D := D) (n := n) (to := to) hDW cC hC hto cA cB hA hB)
  have hmf : ∀ (fn : Fn) (first cap : Array Value) (w : World), (Instr.makeFunc fn first cap).run Tryz.prog w = .ok (.func fn first cap) w := fun _ _ _ _ => rfl
  have HF := Lib.hid hF
  clear hDW cA cB hA hB hF hD hpm cC hC
  go_enter Tryz.func127, Tryz.ntmps127
  go_wp2_with fail
  refine Calls.mono HX.out ?_
  rintro e w1 ⟨rfl, hD1, hf1⟩
  go_wp2_with fail
  go_ret
  exact ⟨rfl, hD1, (HF.out.mono fun _ _ h => h.elim).next hf1⟩

set_option maxHeartbeats 1000000 in
theorem delete_h (hD : DiskAt w pb mb D) (n : List UInt8) : Calls Tryz.prog 68 #[.pointer (some ⟨pb, 0, none⟩), .string (bs n)] w (Does pb mb (deleteD D n) w) := by
  have hpm : pb < w.heap.size ∧ mb < w.heap.size := ⟨lt_of_block hD.head, hD.map.lt⟩
  have hF : Fr (fun _ => False) w ((w.alloc (.cells #[.pointer (some ⟨pb, 0, none⟩)] 39)).alloc (.cells #[.string (bs n)] 9)) := (((Fr.refl _ _).alloc _).alloc _)
  have hDW := hD.grow hF
  have cA : (((w.alloc (.cells #[.pointer (some ⟨pb, 0, none⟩)] 39)).alloc (.cells #[.string (bs n)] 9))).cell? ⟨w.heap.size, 0, none⟩ = some (.pointer (some ⟨pb, 0, none⟩)) := cell_of (i := 0) (block_old (block_new_at rfl) _) rfl
  have cB : (((w.alloc (.cells #[.pointer (some ⟨pb, 0, none⟩)] 39)).alloc (.cells #[.string (bs n)] 9))).cell? ⟨w.heap.size + 1, 0, none⟩ = some (.string (bs n)) := cell_of (i := 0) (block_new_at (by simp)) rfl
  have hA : ¬ Own pb mb w.heap.size := fun h => by rcases h with h | h <;> omega
  have hB : ¬ Own pb mb (w.heap.size + 1) := fun h => by rcases h with h | h <;> omega
  have HX := Lib.hid (does_delete (D := D) (n := n) hDW cA cB hA hB)
  have hmf : ∀ (fn : Fn) (first cap : Array Value) (w : World), (Instr.makeFunc fn first cap).run Tryz.prog w = .ok (.func fn first cap) w := fun _ _ _ _ => rfl
  have HF := Lib.hid hF
  clear hDW cA cB hA hB hF hD hpm
  go_enter Tryz.func68, Tryz.ntmps68
  go_wp2_with fail
  refine Calls.mono HX.out ?_
  rintro e w1 ⟨rfl, hD1, hf1⟩
  go_wp2_with fail
  go_ret
  exact ⟨rfl, hD1, (HF.out.mono fun _ _ h => h.elim).next hf1⟩
end
end Go.Proofs.YtgmghopcppniaaaGreatDoor
