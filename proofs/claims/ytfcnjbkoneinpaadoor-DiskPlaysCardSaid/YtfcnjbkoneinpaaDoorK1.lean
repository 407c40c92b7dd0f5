/- A disk in memory; the small calls: New, Dead, Fuse, turn, find. -/
import Derived.Test.YtfcnjbkoneinpaaDoorProg
import Derived.Test.YtfcnjbkoneinpaaDoorInts
import Derived.Test.YtfcnjbkoneinpaaDoorMapR
import Derived.Test.YtfcnjbkoneinpaaDoorD3
import Derived.WalkSpells
import Derived.WalkLawsBesides
import Derived.Outline
import Derived.Deep.QuietTactic
import Derived.BigQuiet
import Derived.StillTailTactics
import Derived.Deep.DeepMust
import Derived.Deep.DeepFit
import Derived.Deep.LoopGhost
namespace Go.Proofs.YtfcnjbkoneinpaaDoor
open Go.RowKit Go.Lib

def bs (l : List UInt8) : ByteArray := ⟨l.toArray⟩
theorem bs_of (s : ByteArray) : ∃ l, s = bs l := ⟨s.data.toList, rfl⟩
theorem bs_data (l : List UInt8) : (bs l).data.toList = l := rfl
theorem bs_inj {a b : List UInt8} (h : bs a = bs b) : a = b := by rw [← bs_data a, h, bs_data]
theorem bs_size (l : List UInt8) : (bs l).size = l.length := rfl
theorem bs_append (a b : List UInt8) : bs a ++ bs b = bs (a ++ b) := by
  apply ByteArray.ext
  rw [ByteArray.data_append]
  simp [bs]
theorem bs_nil : bs [] = ⟨#[]⟩ := rfl

def valF (f : FileD) : Value := .agg #[.string (bs f.bytes), .int .i64 f.synced]
def entF (f : FileD) : Value × Value := (.string (bs f.name), valF f)

structure DiskAt (w : World) (pb mb : Nat) (D : DiskD) : Prop where
  head : w.heap[pb]? = some (.cells #[.map (some mb), .int .i64 D.most, .int .i64 D.fuse, .bool D.dead] 63 (0, 0))
  map : MapOf w .string mb (D.files.map entF)
  inv : InvD D
def Own (pb mb : Nat) : Nat → Prop := fun k => k = pb ∨ k = mb

section
variable {w w' : World} {pb mb : Nat} {D : DiskD} {n x : List UInt8} {f : FileD}
theorem DiskAt.ne (h : DiskAt w pb mb D) : pb ≠ mb := by
  obtain ⟨es, c, hb⟩ := h.map.block
  rintro rfl
  have := h.head
  rw [hb] at this
  cases this
theorem DiskAt.fr {o : Nat → Prop} (h : DiskAt w pb mb D) (hf : Fr o w w') (h1 : ¬ o pb) (h2 : ¬ o mb) : DiskAt w' pb mb D :=
  ⟨hf.keep h.head h1, h.map.keep (hf.block mb h.map.lt h2), h.inv⟩
theorem DiskAt.grow (h : DiskAt w pb mb D) (hf : Fr (fun _ => False) w w') : DiskAt w' pb mb D := h.fr hf (fun h => h) (fun h => h)
theorem DiskAt.cells (h : DiskAt w pb mb D) : w.cell? ⟨pb, 0, none⟩ = some (.map (some mb)) ∧ w.cell? ⟨pb, 1, none⟩ = some (.int .i64 D.most) ∧ w.cell? ⟨pb, 2, none⟩ = some (.int .i64 D.fuse) ∧ w.cell? ⟨pb, 3, none⟩ = some (.bool D.dead) :=
  ⟨cell_of h.head rfl, cell_of h.head rfl, cell_of h.head rfl, cell_of h.head rfl⟩

def NewPost2 (most : Int) (w : World) (e : Ending) (w' : World) : Prop := ∃ pb mb, e = .returned (.tuple #[.pointer (some ⟨pb, 0, none⟩), .int .i64 0]) ∧ DiskAt w' pb mb (newD most) ∧ Fr (fun _ => False) w w' ∧ w.heap.size ≤ pb ∧ w.heap.size ≤ mb
theorem new_yes {most : Int} (h0 : 0 ≤ most) (h1 : most ≤ 10000000) : Calls Tryd.prog 11 #[.int .i64 most] w (NewPost2 most w) := by
  have d1 : decide (most < 0) = false := by simpa using h0
  have d2 : decide (10000000 < most) = false := by simpa using h1
  have hmm := @run_makeMap Tryd.prog
  go_enter Tryd.func11, Tryd.ntmps11
  go_wp2_with fail
  go_ret2
  refine ⟨w.heap.size + 1, w.heap.size, rfl, ⟨block_new_at (by simp), (MapOf.made w _).keep (Below.heap_alloc _ _ _ (by simp)), InvD.new h0 h1⟩, ((Fr.refl _ _).alloc _).alloc _, Nat.le_succ _, Nat.le_refl _⟩
theorem new_no {most : Int} (h : most < 0 ∨ 10000000 < most) : Calls Tryd.prog 11 #[.int .i64 most] w fun e w' => e = .returned (.tuple #[.pointer none, .int .i64 2]) ∧ w = w' := by
  by_cases h0 : most < 0
  · have d1 : decide (most < 0) = true := by simpa using h0
    clear h
    go_enter Tryd.func11, Tryd.ntmps11
    go_wp2_with fail
    go_ret2
    exact ⟨rfl, rfl⟩
  · have d1 : decide (most < 0) = false := by simpa using h0
    have d2 : decide (10000000 < most) = true := by rw [decide_eq_true_iff]; omega
    clear h
    go_enter Tryd.func11, Tryd.ntmps11
    go_wp2_with fail
    go_ret2
    exact ⟨rfl, rfl⟩
theorem dead_h (h : DiskAt w pb mb D) : Calls Tryd.prog 18 #[.pointer (some ⟨pb, 0, none⟩)] w fun e w' => e = .returned (.bool D.dead) ∧ w = w' := by
  obtain ⟨c0, c1, c2, c3⟩ := h.cells
  go_enter Tryd.func18, Tryd.ntmps18
  go_wp2_with fail
  go_ret
  exact ⟨rfl, rfl⟩
theorem disk_set (h : DiskAt w pb mb D) {i : Nat} {v : Value} {D' : DiskD} (hf : D'.files = D.files) (hv : InvD D') (hc : (#[.map (some mb), .int .i64 D.most, .int .i64 D.fuse, .bool D.dead] : Array Value).setIfInBounds i v = #[.map (some mb), .int .i64 D'.most, .int .i64 D'.fuse, .bool D'.dead]) :
    DiskAt (w.setCell ⟨pb, i, none⟩ v) pb mb D' := by
  have := block_set h.head i v
  rw [hc] at this
  exact ⟨this, by rw [hf]; exact h.map.keep (block_set_ne h.ne.symm), hv⟩
def Does (pb mb : Nat) (p : Int × DiskD) (w : World) (e : Ending) (w' : World) : Prop := e = .returned (.int .i64 p.1) ∧ DiskAt w' pb mb p.2 ∧ Fr (Own pb mb) w w'
theorem fuse_h (hD : DiskAt w pb mb D) {k : Int} (hk : k ≤ 9223372036854775807) : Calls Tryd.prog 25 #[.pointer (some ⟨pb, 0, none⟩), .int .i64 k] w fun e w' => e = .returned (.tuple #[]) ∧ DiskAt w' pb mb (fuseD D k) ∧ Fr (Own pb mb) w w' := by
  obtain ⟨c0, c1, c2, c3⟩ := hD.cells
  have f2 := free_of 2 hD.head
  by_cases hm : k < -1
  · have hv : max k (-1) = -1 := by omega
    have HV := Lib.hid hv
    clear hv
    go_enter Tryd.func25, Tryd.ntmps25
    go_wp2_with fail
    go_end0
    refine ⟨rfl, ?_, (Fr.refl _ _).setCell (.inl (.inl rfl)) _⟩
    refine disk_set hD rfl (hD.inv.fused k hk) ?_
    simp [fuseD, HV.out]
  · have hm2 : -1 ≤ k := by omega
    have hv : max k (-1) = k := by omega
    have HV := Lib.hid hv
    clear hv hm
    go_enter Tryd.func25, Tryd.ntmps25
    go_wp2_with fail
    go_end0
    refine ⟨rfl, ?_, (Fr.refl _ _).setCell (.inl (.inl rfl)) _⟩
    refine disk_set hD rfl (hD.inv.fused k hk) ?_
    simp [fuseD, HV.out]
theorem turn_h (hD : DiskAt w pb mb D) : Calls Tryd.prog 47 #[.pointer (some ⟨pb, 0, none⟩)] w (Does pb mb (turnD D) w) := by
  obtain ⟨c0, c1, c2, c3⟩ := hD.cells
  have f2 := free_of 2 hD.head
  have f3 := free_of 3 hD.head
  have hi := hD.inv.turn
  have hfu := hD.inv.fuse
  by_cases hz : D.fuse = 0
  · have e : turnD D = (7, { D with dead := true }) := by unfold turnD; rw [if_pos hz]
    have d1 : (D.fuse == 0) = true := by simpa using hz
    have HE := Lib.hid e
    have HI := Lib.hid hi
    clear hz e hi
    go_enter Tryd.func47, Tryd.ntmps47
    go_wp2_with fail
    go_ret
    have hi := HI.out
    rw [HE.out] at hi ⊢
    exact ⟨rfl, disk_set hD rfl hi (by simp), (Fr.refl _ _).setCell (.inl (.inl rfl)) _⟩
  · have e : turnD D = (0, { D with fuse := max (D.fuse - 1) (-1) }) := by unfold turnD; rw [if_neg hz]
    have d1 : (D.fuse == 0) = false := by simpa using hz
    have HE := Lib.hid e
    have HI := Lib.hid hi
    clear e hi
    obtain ⟨hf1, hf2⟩ := hfu
    by_cases hm : D.fuse - 1 < -1
    · have HV := Lib.hid (show max (D.fuse - 1) (-1) = -1 by omega)
      clear hz
      go_enter Tryd.func47, Tryd.ntmps47
      go_wp2_with fail
      go_ret
      have hi := HI.out
      rw [HE.out] at hi ⊢
      exact ⟨rfl, disk_set hD rfl hi (by simp [HV.out]), (Fr.refl _ _).setCell (.inl (.inl rfl)) _⟩
    · have HV := Lib.hid (show max (D.fuse - 1) (-1) = D.fuse - 1 by omega)
      have hm2 : -1 ≤ D.fuse - 1 := by omega
      clear hz hm
      go_enter Tryd.func47, Tryd.ntmps47
      go_wp2_with fail
      go_ret
      have hi := HI.out
      rw [HE.out] at hi ⊢
      exact ⟨rfl, disk_set hD rfl hi (by simp [HV.out]), (Fr.refl _ _).setCell (.inl (.inl rfl)) _⟩
end
end Go.Proofs.YtfcnjbkoneinpaaDoor
