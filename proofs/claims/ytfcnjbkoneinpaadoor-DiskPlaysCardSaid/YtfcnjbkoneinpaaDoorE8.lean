/- model: an act, done with the reference's disk. -/
import Derived.Test.YtfcnjbkoneinpaaDoorE7
namespace Go.Proofs.YtfcnjbkoneinpaaDoor
open Go.RowKit Go.Lib

section
variable {w w' : World} {rb : Nat} {lv : Value} {D : DiskD}
def RDoPost (rb : Nat) (lv : Value) (r : (List UInt8 × Int) × DiskD) (w : World) (e : Ending) (w' : World) : Prop :=
  ∃ lv', e = .returned (.tuple #[.string (bs r.1.1), .int .i64 r.1.2]) ∧ RefAt w' rb lv' r.2 ∧ Fr (OwnR rb lv) w w' ∧ ∀ k, lv'.ownBlock = some k → lv.ownBlock = some k ∨ w.heap.size ≤ k
theorem own_le {lv lv' : Value} {a b : Nat} (h : ∀ k, lv'.ownBlock = some k → lv.ownBlock = some k ∨ b ≤ k) (hab : a ≤ b) : ∀ k, lv'.ownBlock = some k → lv.ownBlock = some k ∨ a ≤ k :=
  fun k hk => (h k hk).imp id fun h => Nat.le_trans hab h
set_option maxHeartbeats 4000000 in
theorem model_h {S : Nat → Prop} {va vb : Value} {a : ActD} (hD : RefAt w rb lv D) (hA : ActV w S va vb a) (hS : ∀ k, S k → ¬ OwnR rb lv k) : Calls Tryd.prog 17 #[.pointer (some ⟨rb, 0, none⟩), actV va vb a] w (RDoPost rb lv (doesD xbG D a) w) := by
  have hF0 : Fr (fun _ => False) w (w.alloc (.cells #[.int .i64 a.op, .int .i64 a.n, .string (bs a.name), .string (bs a.to), .string (bs a.data), va, vb] 38)) := (Fr.refl _ _).alloc _
  have hb0 := block_new w (.cells #[.int .i64 a.op, .int .i64 a.n, .string (bs a.name), .string (bs a.to), .string (bs a.data), va, vb] 38)
  have hD0 := hD.grow hF0
  have hA0 := hA.fr hF0 (fun _ _ h => h)
  have hpk := pick_h (w := w.alloc (.cells #[.int .i64 a.op, .int .i64 a.n, .string (bs a.name), .string (bs a.to), .string (bs a.data), va, vb] 38)) hA.op.1 hA.op.2 (n := 11) (by decide) (by decide)
  obtain ⟨p, hp⟩ : ∃ p, pickZ a.op 11 = p := ⟨_, rfl⟩
  have hpr := pick_range a.op
  rw [hp] at hpk hpr
  have HP := Lib.hid hp
  have HPK := Lib.hid hpk
  obtain ⟨va1, vac, rfl, hv1, hv2⟩ := hA.keep.form
  obtain ⟨vb1, vbc, rfl, hv3, hv4⟩ := hA.noise.form
  unfold actV
  generalize hWE : w.alloc (.cells #[.int .i64 a.op, .int .i64 a.n, .string (bs a.name), .string (bs a.to), .string (bs a.data), .slice va1 a.keep.length vac, .slice vb1 a.noise.length vbc] 38) = W at hF0 hb0 hD0 hA0 HPK hpk
  have HW := Lib.hid hWE
  have HX := Lib.hid (And.intro hF0 (And.intro hD0 hA0))
  have k0 := cell_of hb0 (i := 0) rfl
  have k1 := cell_of hb0 (i := 1) rfl
  have k2 := cell_of hb0 (i := 2) rfl
  have k3 := cell_of hb0 (i := 3) rfl
  have k4 := cell_of hb0 (i := 4) rfl
  have k5 := cell_of hb0 (i := 5) rfl
  have k6 := cell_of hb0 (i := 6) rfl
  clear hpk hWE hF0 hD0 hA0 hD hA hp hb0 hv1 hv2 hv3 hv4
  by_cases h4 : p = 4
  · have e4 : (p == 4) = true := by simpa using h4
    have HE := Lib.hid (show doesD xbG D a = quietP (syncD D a.name) by unfold doesD; rw [HP.out, if_pos h4])
    have HC := Lib.hid (rsync_h HX.out.2.1 a.name)
    clear h4
    go_enter Tryd.func17, Tryd.ntmps17
    go_wp2_with fail
    rw [HW.out]
    refine Calls.mono HPK.out ?_
    rintro e w1 ⟨rfl, rfl⟩
    go_wp2_with fail
    refine Calls.mono HC.out ?_
    rintro e w2 ⟨lv2, rfl, hD2, hf2, ho2⟩
    go_wp2_with fail
    go_ret2
    rw [HE.out]
    exact ⟨lv2, rfl, hD2, (fr_none HX.out.1).next hf2, own_le ho2 HX.out.1.size⟩
  have e4 : (p == 4) = false := by simpa using h4
  by_cases h5 : p = 5
  · have e5 : (p == 5) = true := by simpa using h5
    have HE := Lib.hid (show doesD xbG D a = quietP (truncD D a.name a.n) by unfold doesD; rw [HP.out, if_neg h4, if_pos h5])
    have HC := Lib.hid (rtrunc_h HX.out.2.1 a.name a.n)
    clear h4 h5
    go_enter Tryd.func17, Tryd.ntmps17
    go_wp2_with fail
    rw [HW.out]
    refine Calls.mono HPK.out ?_
    rintro e w1 ⟨rfl, rfl⟩
    go_wp2_with fail
    refine Calls.mono HC.out ?_
    rintro e w2 ⟨lv2, rfl, hD2, hf2, ho2⟩
    go_wp2_with fail
    go_ret2
    rw [HE.out]
    exact ⟨lv2, rfl, hD2, (fr_none HX.out.1).next hf2, own_le ho2 HX.out.1.size⟩
  have e5 : (p == 5) = false := by simpa using h5
  by_cases h6 : p = 6
  · have e6 : (p == 6) = true := by simpa using h6
    have HE := Lib.hid (show doesD xbG D a = quietP (renameD D a.name a.to) by unfold doesD; rw [HP.out, if_neg h4, if_neg h5, if_pos h6])
    have HC := Lib.hid (rrename_h HX.out.2.1 a.name a.to (by have := HX.out.2.2.small; omega))
    clear h4 h5 h6
    go_enter Tryd.func17, Tryd.ntmps17
    go_wp2_with fail
    rw [HW.out]
    refine Calls.mono HPK.out ?_
    rintro e w1 ⟨rfl, rfl⟩
    go_wp2_with fail
    refine Calls.mono HC.out ?_
    rintro e w2 ⟨lv2, rfl, hD2, hf2, ho2⟩
    go_wp2_with fail
    go_ret2
    rw [HE.out]
    exact ⟨lv2, rfl, hD2, (fr_none HX.out.1).next hf2, own_le ho2 HX.out.1.size⟩
  have e6 : (p == 6) = false := by simpa using h6
  by_cases h7 : p = 7
  · have e7 : (p == 7) = true := by simpa using h7
    have HE := Lib.hid (show doesD xbG D a = quietP (deleteD D a.name) by unfold doesD; rw [HP.out, if_neg h4, if_neg h5, if_neg h6, if_pos h7])
    have HC := Lib.hid (rdelete_h HX.out.2.1 a.name)
    clear h4 h5 h6 h7
    go_enter Tryd.func17, Tryd.ntmps17
    go_wp2_with fail
    rw [HW.out]
    refine Calls.mono HPK.out ?_
    rintro e w1 ⟨rfl, rfl⟩
    go_wp2_with fail
    refine Calls.mono HC.out ?_
    rintro e w2 ⟨lv2, rfl, hD2, hf2, ho2⟩
    go_wp2_with fail
    go_ret2
    rw [HE.out]
    exact ⟨lv2, rfl, hD2, (fr_none HX.out.1).next hf2, own_le ho2 HX.out.1.size⟩
  have e7 : (p == 7) = false := by simpa using h7
  by_cases h8 : p = 8
  · have e8 : (p == 8) = true := by simpa using h8
    have HE := Lib.hid (show doesD xbG D a = (readD D a.name, D) by unfold doesD; rw [HP.out, if_neg h4, if_neg h5, if_neg h6, if_neg h7, if_pos h8])
    have HC := Lib.hid (rread_h HX.out.2.1 a.name)
    clear h4 h5 h6 h7 h8
    go_enter Tryd.func17, Tryd.ntmps17
    go_wp2_with fail
    rw [HW.out]
    refine Calls.mono HPK.out ?_
    rintro e w1 ⟨rfl, rfl⟩
    go_wp2_with fail
    refine Calls.mono HC.out ?_
    rintro e w2 ⟨rfl, hf2⟩
    go_wp2_with fail
    go_ret2
    rw [HE.out]
    exact ⟨lv, rfl, HX.out.2.1.grow hf2, fr_none (HX.out.1.next hf2), fun _ h => .inl h⟩
  have e8 : (p == 8) = false := by simpa using h8
  by_cases h9 : p = 9
  · have e9 : (p == 9) = true := by simpa using h9
    have HE := Lib.hid (show doesD xbG D a = (([], 0), fuseD D a.n) by unfold doesD; rw [HP.out, if_neg h4, if_neg h5, if_neg h6, if_neg h7, if_neg h8, if_pos h9])
    have HC := Lib.hid (rfuse_h HX.out.2.1 HX.out.2.2.num)
    clear h4 h5 h6 h7 h8 h9
    go_enter Tryd.func17, Tryd.ntmps17
    go_wp2_with fail
    rw [HW.out]
    refine Calls.mono HPK.out ?_
    rintro e w1 ⟨rfl, rfl⟩
    go_wp2_with fail
    refine Calls.mono HC.out ?_
    rintro e w2 ⟨rfl, hD2, hf2⟩
    go_wp2_with fail
    go_ret2
    rw [HE.out]
    exact ⟨lv, rfl, hD2, (fr_none HX.out.1).next hf2, fun _ h => .inl h⟩
  have e9 : (p == 9) = false := by simpa using h9
  by_cases h10 : p = 10
  · have e10 : (p == 10) = true := by simpa using h10
    have HE := Lib.hid (show doesD xbG D a = (([], 0), crashD xbG D a.keep a.noise) by unfold doesD; rw [HP.out, if_neg h4, if_neg h5, if_neg h6, if_neg h7, if_neg h8, if_neg h9, if_pos h10])
    have HC := Lib.hid (rcrash_h HX.out.2.1 HX.out.2.2.keep HX.out.2.2.noise hS hS (by have := HX.out.2.2.small; omega) (by have := HX.out.2.2.small; omega))
    clear h4 h5 h6 h7 h8 h9 h10
    go_enter Tryd.func17, Tryd.ntmps17
    go_wp2_with fail
    rw [HW.out]
    refine Calls.mono HPK.out ?_
    rintro e w1 ⟨rfl, rfl⟩
    go_wp2_with fail
    refine Calls.mono HC.out ?_
    rintro e w2 ⟨rfl, hD2, hf2⟩
    go_wp2_with fail
    go_ret2
    rw [HE.out]
    exact ⟨lv, rfl, hD2, (fr_none HX.out.1).next hf2, fun _ h => .inl h⟩
  have e10 : (p == 10) = false := by simpa using h10
  have HE := Lib.hid (show doesD xbG D a = quietP (appendD D a.name a.data) by unfold doesD; rw [HP.out, if_neg h4, if_neg h5, if_neg h6, if_neg h7, if_neg h8, if_neg h9, if_neg h10])
  have HC := Lib.hid (rappend_h HX.out.2.1 a.name a.data (by have := HX.out.2.2.small; omega) (by have := HX.out.2.2.small; omega))
  clear h4 h5 h6 h7 h8 h9 h10
  go_enter Tryd.func17, Tryd.ntmps17
  go_wp2_with fail
  rw [HW.out]
  refine Calls.mono HPK.out ?_
  rintro e w1 ⟨rfl, rfl⟩
  go_wp2_with fail
  refine Calls.mono HC.out ?_
  rintro e w2 ⟨lv2, rfl, hD2, hf2, ho2⟩
  go_wp2_with fail
  go_ret2
  rw [HE.out]
  exact ⟨lv2, rfl, hD2, (fr_none HX.out.1).next hf2, own_le ho2 HX.out.1.size⟩
end
end Go.Proofs.YtfcnjbkoneinpaaDoor

