/- pick, and what the laws do to a disk. -/
import Derived.Test.YtfcnjbkoneinpaaDoorKA
import Derived.Test.YtfcnjbkoneinpaaDoorKB
namespace Go.Proofs.YtfcnjbkoneinpaaDoor
open Go.RowKit Go.Lib

section
variable {w w' : World} {pb mb : Nat} {D : DiskD}
theorem pick_h {c n : Int} (hc1 : -9223372036854775808 ≤ c) (hc2 : c ≤ 9223372036854775807) (hn : 0 < n) (hn2 : n ≤ 1000000) : Calls Tryd.prog 15 #[.int .i64 c, .int .i64 n] w fun e w' => e = .returned (.int .i64 (pickZ c n)) ∧ w = w' := by
  by_cases h : c < 0
  · have d1 : decide (c < 0) = true := by simpa using h
    have HE := Lib.hid (show pickZ c n = (-(c + 1)) % n by unfold pickZ; rw [if_pos h])
    have hb : 0 ≤ -(c + 1) := by omega
    have hne : n ≠ 0 := by omega
    clear h
    go_enter Tryd.func15, Tryd.ntmps15
    go_wp2_with fail
    go_ret
    have HT : -((c + 1).tmod n) = -(c + 1) % n := by rw [← Int.neg_tmod, Int.tmod_eq_emod_of_nonneg hb]
    exact ⟨by rw [HE.out, ← HT]; rfl, rfl⟩
  · have d1 : decide (c < 0) = false := by simpa using h
    have h0 : 0 ≤ c := by omega
    have HE := Lib.hid (show pickZ c n = c % n by unfold pickZ; rw [if_neg h])
    have hne : n ≠ 0 := by omega
    clear h
    go_enter Tryd.func15, Tryd.ntmps15
    go_wp2_with fail
    go_ret
    exact ⟨by rw [HE.out]; rfl, rfl⟩

/-- an act, as a value: its keep and its noise lie in blocks of S -/
structure ActV (w : World) (S : Nat → Prop) (va vb : Value) (a : ActD) : Prop where
  keep : IR w S va a.keep
  noise : IR w S vb a.noise
  small : a.name.length ≤ 100 ∧ a.to.length ≤ 100 ∧ a.data.length ≤ 600 ∧ a.keep.length ≤ 60 ∧ a.noise.length ≤ 60
  op : -9223372036854775808 ≤ a.op ∧ a.op ≤ 9223372036854775807
  num : a.n ≤ 9223372036854775807
def actV (va vb : Value) (a : ActD) : Value := .agg #[.int .i64 a.op, .int .i64 a.n, .string (bs a.name), .string (bs a.to), .string (bs a.data), va, vb]
theorem ActV.fr {w w' : World} {S o : Nat → Prop} {va vb : Value} {a : ActD} (h : ActV w S va vb a) (hf : Fr o w w') (ho : ∀ k, S k → ¬ o k) : ActV w' S va vb a :=
  ⟨h.keep.fr hf ho, h.noise.fr hf ho, h.small, h.op, h.num⟩
def DoPost (pb mb : Nat) (r : (List UInt8 × Int) × DiskD) (w : World) (e : Ending) (w' : World) : Prop :=
  e = .returned (.tuple #[.string (bs r.1.1), .int .i64 r.1.2]) ∧ DiskAt w' pb mb r.2 ∧ Fr (Own pb mb) w w'
theorem pick_range (c : Int) : 0 ≤ pickZ c 11 ∧ pickZ c 11 < 11 := by unfold pickZ; exact ⟨Int.emod_nonneg _ (by decide), Int.emod_lt_of_pos _ (by decide)⟩

set_option maxHeartbeats 4000000 in
theorem does_h {S : Nat → Prop} {va vb : Value} {a : ActD} (hD : DiskAt w pb mb D) (hA : ActV w S va vb a) (hS : ∀ k, S k → ¬ Own pb mb k) : Calls Tryd.prog 16 #[.pointer (some ⟨pb, 0, none⟩), actV va vb a] w (DoPost pb mb (doesD xbG D a) w) := by
  have hF0 : Fr (fun _ => False) w (w.alloc (.cells #[.int .i64 a.op, .int .i64 a.n, .string (bs a.name), .string (bs a.to), .string (bs a.data), va, vb] 38)) := (Fr.refl _ _).alloc _
  have hb0 := block_new w (.cells #[.int .i64 a.op, .int .i64 a.n, .string (bs a.name), .string (bs a.to), .string (bs a.data), va, vb] 38)
  have hD0 := hD.grow hF0
  have hA0 := hA.fr hF0 (fun _ _ h => h)
  have hpk := pick_h (w := w.alloc (.cells #[.int .i64 a.op, .int .i64 a.n, .string (bs a.name), .string (bs a.to), .string (bs a.data), va, vb] 38)) hA.op.1 hA.op.2 (n := 11) (by decide) (by decide)
  obtain ⟨p, hp⟩ : ∃ p, pickZ a.op 11 = p := ⟨_, rfl⟩
  have hpr := pick_range a.op
  rw [hp] at hpk hpr
  have HP := Lib.hid hp
  have HPK := Lib.hid hpk
  obtain ⟨va1, vac, rfl, hv1, hv2⟩ := hA.keep.form
  obtain ⟨vb1, vbc, rfl, hv3, hv4⟩ := hA.noise.form
  unfold actV
  generalize hWE : w.alloc (.cells #[.int .i64 a.op, .int .i64 a.n, .string (bs a.name), .string (bs a.to), .string (bs a.data), .slice va1 a.keep.length vac, .slice vb1 a.noise.length vbc] 38) = W at hF0 hb0 hD0 hA0 HPK hpk
  have HW := Lib.hid hWE
  have HX := Lib.hid (And.intro hF0 (And.intro hD0 hA0))
  have k0 := cell_of hb0 (i := 0) rfl
  have k1 := cell_of hb0 (i := 1) rfl
  have k2 := cell_of hb0 (i := 2) rfl
  have k3 := cell_of hb0 (i := 3) rfl
  have k4 := cell_of hb0 (i := 4) rfl
  have k5 := cell_of hb0 (i := 5) rfl
  have k6 := cell_of hb0 (i := 6) rfl
  clear hpk hWE hF0 hD0 hA0 hD hA hp hb0 hv1 hv2 hv3 hv4
  by_cases h4 : p = 4
  · have e4 : (p == 4) = true := by simpa using h4
    have HE := Lib.hid (show doesD xbG D a = quietP (syncD D a.name) by unfold doesD; rw [HP.out, if_pos h4])
    have HC := Lib.hid (sync_h HX.out.2.1 a.name)
    clear h4
    go_enter Tryd.func16, Tryd.ntmps16
    go_wp2_with fail
    rw [HW.out]
    refine Calls.mono HPK.out ?_
    rintro e w1 ⟨rfl, rfl⟩
    go_wp2_with fail
    refine Calls.mono HC.out ?_
    rintro e w2 ⟨rfl, hD2, hf2⟩
    go_wp2_with fail
    go_ret2
    rw [HE.out]; exact ⟨rfl, hD2, (HX.out.1.mono fun _ _ h => h.elim).next hf2⟩
  have e4 : (p == 4) = false := by simpa using h4
  by_cases h5 : p = 5
  · have e5 : (p == 5) = true := by simpa using h5
    have HE := Lib.hid (show doesD xbG D a = quietP (truncD D a.name a.n) by unfold doesD; rw [HP.out, if_neg h4, if_pos h5])
    have HC := Lib.hid (trunc_h HX.out.2.1 a.name a.n)
    clear h5 h4
    go_enter Tryd.func16, Tryd.ntmps16
    go_wp2_with fail
    rw [HW.out]
    refine Calls.mono HPK.out ?_
    rintro e w1 ⟨rfl, rfl⟩
    go_wp2_with fail
    refine Calls.mono HC.out ?_
    rintro e w2 ⟨rfl, hD2, hf2⟩
    go_wp2_with fail
    go_ret2
    rw [HE.out]; exact ⟨rfl, hD2, (HX.out.1.mono fun _ _ h => h.elim).next hf2⟩
  have e5 : (p == 5) = false := by simpa using h5
  by_cases h6 : p = 6
  · have e6 : (p == 6) = true := by simpa using h6
    have HE := Lib.hid (show doesD xbG D a = quietP (renameD D a.name a.to) by unfold doesD; rw [HP.out, if_neg h4, if_neg h5, if_pos h6])
    have HC := Lib.hid (rename_h HX.out.2.1 a.name a.to (by have := HX.out.2.2.small; omega))
    clear h6 h4 h5
    go_enter Tryd.func16, Tryd.ntmps16
    go_wp2_with fail
    rw [HW.out]
    refine Calls.mono HPK.out ?_
    rintro e w1 ⟨rfl, rfl⟩
    go_wp2_with fail
    refine Calls.mono HC.out ?_
    rintro e w2 ⟨rfl, hD2, hf2⟩
    go_wp2_with fail
    go_ret2
    rw [HE.out]; exact ⟨rfl, hD2, (HX.out.1.mono fun _ _ h => h.elim).next hf2⟩
  have e6 : (p == 6) = false := by simpa using h6
  by_cases h7 : p = 7
  · have e7 : (p == 7) = true := by simpa using h7
    have HE := Lib.hid (show doesD xbG D a = quietP (deleteD D a.name) by unfold doesD; rw [HP.out, if_neg h4, if_neg h5, if_neg h6, if_pos h7])
    have HC := Lib.hid (delete_h HX.out.2.1 a.name)
    clear h7 h4 h5 h6
    go_enter Tryd.func16, Tryd.ntmps16
    go_wp2_with fail
    rw [HW.out]
    refine Calls.mono HPK.out ?_
    rintro e w1 ⟨rfl, rfl⟩
    go_wp2_with fail
    refine Calls.mono HC.out ?_
    rintro e w2 ⟨rfl, hD2, hf2⟩
    go_wp2_with fail
    go_ret2
    rw [HE.out]; exact ⟨rfl, hD2, (HX.out.1.mono fun _ _ h => h.elim).next hf2⟩
  have e7 : (p == 7) = false := by simpa using h7
  by_cases h8 : p = 8
  · have e8 : (p == 8) = true := by simpa using h8
    have HE := Lib.hid (show doesD xbG D a = (readD D a.name, D) by unfold doesD; rw [HP.out, if_neg h4, if_neg h5, if_neg h6, if_neg h7, if_pos h8])
    have HC := Lib.hid (read_h HX.out.2.1 a.name)
    clear h8 h4 h5 h6 h7
    go_enter Tryd.func16, Tryd.ntmps16
    go_wp2_with fail
    rw [HW.out]
    refine Calls.mono HPK.out ?_
    rintro e w1 ⟨rfl, rfl⟩
    go_wp2_with fail
    refine Calls.mono HC.out ?_
    rintro e w2 ⟨rfl, hf2⟩
    go_wp2_with fail
    go_ret2
    rw [HE.out]; exact ⟨rfl, HX.out.2.1.grow hf2, (HX.out.1.next hf2).mono fun _ _ h => h.elim⟩
  have e8 : (p == 8) = false := by simpa using h8
  by_cases h9 : p = 9
  · have e9 : (p == 9) = true := by simpa using h9
    have HE := Lib.hid (show doesD xbG D a = (([], 0), fuseD D a.n) by unfold doesD; rw [HP.out, if_neg h4, if_neg h5, if_neg h6, if_neg h7, if_neg h8, if_pos h9])
    have HC := Lib.hid (fuse_h HX.out.2.1 HX.out.2.2.num)
    clear h9 h4 h5 h6 h7 h8
    go_enter Tryd.func16, Tryd.ntmps16
    go_wp2_with fail
    rw [HW.out]
    refine Calls.mono HPK.out ?_
    rintro e w1 ⟨rfl, rfl⟩
    go_wp2_with fail
    refine Calls.mono HC.out ?_
    rintro e w2 ⟨rfl, hD2, hf2⟩
    go_wp2_with fail
    go_ret2
    rw [HE.out]; exact ⟨rfl, hD2, (HX.out.1.mono fun _ _ h => h.elim).next hf2⟩
  have e9 : (p == 9) = false := by simpa using h9
  by_cases h10 : p = 10
  · have e10 : (p == 10) = true := by simpa using h10
    have HE := Lib.hid (show doesD xbG D a = (([], 0), crashD xbG D a.keep a.noise) by unfold doesD; rw [HP.out, if_neg h4, if_neg h5, if_neg h6, if_neg h7, if_neg h8, if_neg h9, if_pos h10])
    have HC := Lib.hid (crash_h HX.out.2.1 HX.out.2.2.keep HX.out.2.2.noise hS hS (by have := HX.out.2.2.small; omega) (by have := HX.out.2.2.small; omega))
    clear h10 h4 h5 h6 h7 h8 h9
    go_enter Tryd.func16, Tryd.ntmps16
    go_wp2_with fail
    rw [HW.out]
    refine Calls.mono HPK.out ?_
    rintro e w1 ⟨rfl, rfl⟩
    go_wp2_with fail
    refine Calls.mono HC.out ?_
    rintro e w2 ⟨rfl, hD2, hf2⟩
    go_wp2_with fail
    go_ret2
    rw [HE.out]; exact ⟨rfl, hD2, (HX.out.1.mono fun _ _ h => h.elim).next hf2⟩
  have e10 : (p == 10) = false := by simpa using h10
  have HE := Lib.hid (show doesD xbG D a = quietP (appendD D a.name a.data) by unfold doesD; rw [HP.out, if_neg h4, if_neg h5, if_neg h6, if_neg h7, if_neg h8, if_neg h9, if_neg h10])
  have HC := Lib.hid (append_h HX.out.2.1 a.name a.data (by have := HX.out.2.2.small; omega) (by have := HX.out.2.2.small; omega))
  clear h4 h5 h6 h7 h8 h9 h10
  go_enter Tryd.func16, Tryd.ntmps16
  go_wp2_with fail
  rw [HW.out]
  refine Calls.mono HPK.out ?_
  rintro e w1 ⟨rfl, rfl⟩
  go_wp2_with fail
  refine Calls.mono HC.out ?_
  rintro e w2 ⟨rfl, hD2, hf2⟩
  go_wp2_with fail
  go_ret2
  rw [HE.out]; exact ⟨rfl, hD2, (HX.out.1.mono fun _ _ h => h.elim).next hf2⟩
end
end Go.Proofs.YtfcnjbkoneinpaaDoor
