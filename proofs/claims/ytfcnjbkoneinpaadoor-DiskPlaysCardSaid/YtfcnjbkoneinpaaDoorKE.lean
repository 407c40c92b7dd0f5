/- The walk of shown. -/
import Derived.Test.YtfcnjbkoneinpaaDoorKD
namespace Go.Proofs.YtfcnjbkoneinpaaDoor
open Go.RowKit Go.Lib

/-! ### chapter 2's examples, in plain words -/
def sd0 : DiskD := newD 100
def sd1 : DiskD := (appendD sd0 [97] [120, 121]).2
def sd2 : DiskD := (syncD sd1 [97]).2
def sd3 : DiskD := (appendD sd2 [97] [122, 122, 122]).2
def sd4 : DiskD := crashD xbG sd3 [2] [1]
def sc0 : DiskD := newD 3
def sc1 : DiskD := (appendD sc0 [97] [49, 50, 51, 52]).2
def sc2 : DiskD := (appendD sc1 [65] [49]).2
def sc3 : DiskD := (syncD sc2 [98]).2
def sc4 : DiskD := fuseD sc3 1
def sc5 : DiskD := (appendD sc4 [97] [49]).2
def sc6 : DiskD := (syncD sc5 [97]).2
def sc7 : DiskD := crashD xbG sc6 [] []
theorem sv1 : (appendD sd0 [97] [120, 121]).1 = 0 := by decide +kernel
theorem sv2 : (syncD sd1 [97]).1 = 0 := by decide +kernel
theorem sv3 : (appendD sd2 [97] [122, 122, 122]).1 = 0 := by decide +kernel
theorem sv4 : readD sd4 [97] = ([120, 121, 122, 123], 0) := by decide +kernel
theorem sv5 : (appendD sc0 [97] [49, 50, 51, 52]).1 = 6 := by decide +kernel
theorem sv6 : (appendD sc1 [65] [49]).1 = 3 := by decide +kernel
theorem sv7 : (syncD sc2 [98]).1 = 4 := by decide +kernel
theorem sv8 : (appendD sc4 [97] [49]).1 = 0 := by decide +kernel
theorem sv9 : (syncD sc5 [97]).1 = 7 := by decide +kernel
theorem sv10 : readD sc6 [97] = ([], 7) := by decide +kernel
theorem sv11 : sc6.dead = true := by decide +kernel
theorem sv12 : readD sc7 [97] = ([], 0) := by decide +kernel

section
variable {w w' : World} {pb mb : Nat} {D : DiskD}
/-- two disks, and what was there -/
structure TwoAt (w0 w : World) (p1 m1 p2 m2 : Nat) (D C : DiskD) : Prop where
  one : DiskAt w p1 m1 D
  two : DiskAt w p2 m2 C
  apart : ¬ Own p1 m1 p2 ∧ ¬ Own p1 m1 m2 ∧ ¬ Own p2 m2 p1 ∧ ¬ Own p2 m2 m1
  new : w0.heap.size ≤ p1 ∧ w0.heap.size ≤ m1 ∧ w0.heap.size ≤ p2 ∧ w0.heap.size ≤ m2
  fr : Fr (fun _ => False) w0 w
theorem TwoAt.turn1 {w0 w w' : World} {p1 m1 p2 m2 : Nat} {D C D' : DiskD} (h : TwoAt w0 w p1 m1 p2 m2 D C) (hD : DiskAt w' p1 m1 D') (hf : Fr (Own p1 m1) w w') : TwoAt w0 w' p1 m1 p2 m2 D' C :=
  ⟨hD, h.two.fr hf h.apart.1 h.apart.2.1, h.apart, h.new, h.fr.trans hf fun i hi => by rcases hi with e | e <;> rw [e]; exact .inr h.new.1; exact .inr h.new.2.1⟩
theorem TwoAt.turn2 {w0 w w' : World} {p1 m1 p2 m2 : Nat} {D C C' : DiskD} (h : TwoAt w0 w p1 m1 p2 m2 D C) (hC : DiskAt w' p2 m2 C') (hf : Fr (Own p2 m2) w w') : TwoAt w0 w' p1 m1 p2 m2 D C' :=
  ⟨h.one.fr hf h.apart.2.2.1 h.apart.2.2.2, hC, h.apart, h.new, h.fr.trans hf fun i hi => by rcases hi with e | e <;> rw [e]; exact .inr h.new.2.2.1; exact .inr h.new.2.2.2⟩
theorem TwoAt.grow {w0 w w' : World} {p1 m1 p2 m2 : Nat} {D C : DiskD} (h : TwoAt w0 w p1 m1 p2 m2 D C) (hf : Fr (fun _ => False) w w') : TwoAt w0 w' p1 m1 p2 m2 D C :=
  ⟨h.one.grow hf, h.two.grow hf, h.apart, h.new, h.fr.next hf⟩

set_option maxRecDepth 100000 in
set_option maxHeartbeats 8000000 in
theorem shown_h (w : World) : Calls Tryd.prog 9 #[] w fun e w' => e = .returned (.bool true) ∧ Fr (fun _ => False) w w' := by
  have t1 := bs_toList [120, 121, 122, 123]
  have t2 := bs_toList []
  go_enter Tryd.func9, Tryd.ntmps9
  go_wp2_with fail
  refine Calls.mono (new_yes (by decide) (by decide)) ?_
  rintro e w1 ⟨p1, m1, rfl, hD, hf1, hp1, hm1⟩
  have HA := Lib.hid (And.intro hD (And.intro hf1 (And.intro hp1 hm1)))
  clear hD hf1 hp1 hm1
  go_wp2_with fail
  refine Calls.mono (new_yes (by decide) (by decide)) ?_
  rintro e w2 ⟨p2, m2, rfl, hC, hf2, hp2, hm2⟩
  have HT : Hid (TwoAt w w2 p1 m1 p2 m2 sd0 sc0) := by
    obtain ⟨hD, hf1, hp1, hm1⟩ := HA.out
    have l1 := lt_of_block hD.head
    have l2 := hD.map.lt
    have s1 := hf1.size
    exact Lib.hid ⟨hD.grow hf2, hC, ⟨fun h => by rcases h with h | h <;> omega, fun h => by rcases h with h | h <;> omega, fun h => by rcases h with h | h <;> omega, fun h => by rcases h with h | h <;> omega⟩, ⟨hp1, hm1, by omega, by omega⟩, hf1.next hf2⟩
  clear hC hf2 hp2 hm2 HA
  go_wp2_with fail
  refine Calls.mono (new_no (.inl (by decide))) ?_
  rintro e w3 ⟨rfl, rfl⟩
  go_wp2_with fail
  refine Calls.mono (append_h HT.out.one [97] [120, 121] (by decide) (by decide)) ?_
  rintro e w4 ⟨he, hN, hf⟩
  rw [sv1] at he
  subst he
  have HT2 := Lib.hid (HT.out.turn1 hN hf)
  clear hN hf HT
  have HT := HT2
  clear HT2
  go_wp2_with fail
  refine Calls.mono (sync_h (D := sd1) HT.out.one [97]) ?_
  rintro e w5 ⟨he, hN, hf⟩
  rw [sv2] at he
  subst he
  have HT2 := Lib.hid (HT.out.turn1 hN hf)
  clear hN hf HT
  have HT := HT2
  clear HT2
  go_wp2_with fail
  refine Calls.mono (append_h (D := sd2) HT.out.one [97] [122, 122, 122] (by decide) (by decide)) ?_
  rintro e w6 ⟨he, hN, hf⟩
  rw [sv3] at he
  subst he
  have HT2 := Lib.hid (HT.out.turn1 hN hf)
  clear hN hf HT
  have HT := HT2
  clear HT2
  go_wp2_with fail
  have hg1 : ¬ Own p1 m1 w6.heap.size := fun h => by have l1 := lt_of_block HT.out.one.head; have l2 := HT.out.one.map.lt; rcases h with h | h <;> omega
  have hg2 : ¬ Own p1 m1 (w6.heap.size + 1) := fun h => by have l1 := lt_of_block HT.out.one.head; have l2 := HT.out.one.map.lt; rcases h with h | h <;> omega
  have HT2 := Lib.hid (HT.out.grow (((Fr.refl _ w6).alloc (.cells #[.int .i64 2] 3)).alloc (.cells #[.int .i64 1] 3)))
  clear HT
  have HT := HT2
  clear HT2
  refine Calls.mono (crash_h (D := sd3) (keep := [2]) (noise := [1]) (S := fun k => ¬ Own p1 m1 k) (S' := fun k => ¬ Own p1 m1 k) HT.out.one (IR.lit (l := [2]) (block_old (block_new_at rfl) _) (by decide) hg1) (IR.lit (l := [1]) (block_new_at (by simp)) (by decide) hg2) (fun _ h => h) (fun _ h => h) (by decide) (by decide)) ?_
  rintro e w7 ⟨rfl, hN, hf⟩
  have HT2 := Lib.hid (HT.out.turn1 hN hf)
  clear hN hf HT hg1 hg2
  have HT := HT2
  clear HT2
  go_wp2_with fail
  refine Calls.mono (read_h (D := sd4) HT.out.one [97]) ?_
  rintro e w8 ⟨he, hf⟩
  rw [sv4] at he
  subst he
  have HT2 := Lib.hid (HT.out.grow hf)
  clear hf HT
  have HT := HT2
  clear HT2
  go_wp2_with fail
  refine Calls.mono (append_h (D := sc0) HT.out.two [97] [49, 50, 51, 52] (by decide) (by decide)) ?_
  rintro e w9 ⟨he, hN, hf⟩
  rw [sv5] at he
  subst he
  have HT2 := Lib.hid (HT.out.turn2 hN hf)
  clear hN hf HT
  have HT := HT2
  clear HT2
  go_wp2_with fail
  refine Calls.mono (append_h (D := sc1) HT.out.two [65] [49] (by decide) (by decide)) ?_
  rintro e w10 ⟨he, hN, hf⟩
  rw [sv6] at he
  subst he
  have HT2 := Lib.hid (HT.out.turn2 hN hf)
  clear hN hf HT
  have HT := HT2
  clear HT2
  go_wp2_with fail
  refine Calls.mono (sync_h (D := sc2) HT.out.two [98]) ?_
  rintro e w11 ⟨he, hN, hf⟩
  rw [sv7] at he
  subst he
  have HT2 := Lib.hid (HT.out.turn2 hN hf)
  clear hN hf HT
  have HT := HT2
  clear HT2
  go_wp2_with fail
  refine Calls.mono (fuse_h (D := sc3) HT.out.two (by decide)) ?_
  rintro e w12 ⟨rfl, hN, hf⟩
  have HT2 := Lib.hid (HT.out.turn2 hN hf)
  clear hN hf HT
  have HT := HT2
  clear HT2
  go_wp2_with fail
  refine Calls.mono (append_h (D := sc4) HT.out.two [97] [49] (by decide) (by decide)) ?_
  rintro e w13 ⟨he, hN, hf⟩
  rw [sv8] at he
  subst he
  have HT2 := Lib.hid (HT.out.turn2 hN hf)
  clear hN hf HT
  have HT := HT2
  clear HT2
  go_wp2_with fail
  refine Calls.mono (sync_h (D := sc5) HT.out.two [97]) ?_
  rintro e w14 ⟨he, hN, hf⟩
  rw [sv9] at he
  subst he
  have HT2 := Lib.hid (HT.out.turn2 hN hf)
  clear hN hf HT
  have HT := HT2
  clear HT2
  go_wp2_with fail
  refine Calls.mono (read_h (D := sc6) HT.out.two [97]) ?_
  rintro e w15 ⟨he, hf⟩
  rw [sv10] at he
  subst he
  have HT2 := Lib.hid (HT.out.grow hf)
  clear hf HT
  have HT := HT2
  clear HT2
  go_wp2_with fail
  refine Calls.mono (dead_h (D := sc6) HT.out.two) ?_
  rintro e w99 ⟨he, rfl⟩
  rw [sv11] at he
  subst he
  go_wp2_with fail
  refine Calls.mono (crash_h (D := sc6) (keep := []) (noise := []) (S := fun k => ¬ Own p2 m2 k) (S' := fun k => ¬ Own p2 m2 k) HT.out.two (IR.nil _ _) (IR.nil _ _) (fun _ h => h) (fun _ h => h) (by decide) (by decide)) ?_
  rintro e w16 ⟨rfl, hN, hf⟩
  have HT2 := Lib.hid (HT.out.turn2 hN hf)
  clear hN hf HT
  have HT := HT2
  clear HT2
  go_wp2_with fail
  refine Calls.mono (read_h (D := sc7) HT.out.two [97]) ?_
  rintro e w17 ⟨he, hf⟩
  rw [sv12] at he
  subst he
  have HT2 := Lib.hid (HT.out.grow hf)
  clear hf HT
  have HT := HT2
  clear HT2
  go_wp2_with fail
  refine Calls.mono (name_h (n := [97, 49]) (by decide)) ?_
  rintro e w98 ⟨he, hf⟩
  rw [show nameOK [97, 49] = true by decide +kernel] at he
  subst he
  have HT2 := Lib.hid (HT.out.grow hf)
  clear hf HT
  have HT := HT2
  clear HT2
  go_wp2_with fail
  refine Calls.mono (name_h (n := []) (by decide)) ?_
  rintro e w97 ⟨he, hf⟩
  rw [show nameOK [] = false by decide +kernel] at he
  subst he
  have HF := Lib.hid (HT.out.fr.next hf)
  clear hf HT
  go_wp2_with fail
  go_ret
  exact ⟨rfl, HF.out⟩
end
end Go.Proofs.YtfcnjbkoneinpaaDoor
