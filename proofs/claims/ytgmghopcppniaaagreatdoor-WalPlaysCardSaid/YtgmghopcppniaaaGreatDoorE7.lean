/- The reference's at and Crash. -/
import Derived.Test.YtgmghopcppniaaaGreatDoorFQ
import Derived.Test.YtgmghopcppniaaaGreatDoorKB
import Derived.Deep.RegionWith
namespace Go.Proofs.YtgmghopcppniaaaGreatDoor
open Go.RowKit Go.Lib

section
variable {w w' w0 w1 : World} {rb : Nat} {lv lv0 v : Value} {D D2 : DiskD} {n : List UInt8} {f g : FileD} {l : List FileD} {S S' : Nat → Prop} {a b : Value} {keep noise : List Int}
theorem rat_h {l : List Int} (ha : IR w S a l) (hl : l.length < 1000000) (k : Nat) : Calls Tryz.prog 142 #[a, .int .i64 k] w fun e w' => e = .returned (.int .i64 (nthD l k)) ∧ w = w' := by
 obtain ⟨a, cap, rfl, hc1, hc2⟩ := ha.form
 by_cases hk : k < l.length
 ·obtain ⟨g, off, rfl, hc⟩ := ha.cells (by omega)
  obtain ⟨p, hp⟩ : ∃ p, l[k]? = some p := ⟨_, List.getElem?_eq_getElem hk⟩
  have c1 := hc k p hp
  have HE := Lib.hid (show nthD l k = p by unfold nthD; rw [List.getD_eq_getElem?_getD, hp]; rfl)
  clear hc hp
  go_enter Tryz.func142, Tryz.ntmps142
  go_wp2_with fail
  go_ret
  exact ⟨by rw [HE.out]; rfl, rfl⟩
 ·have HE := Lib.hid (show nthD l k = 0 by unfold nthD; rw [List.getD_eq_getElem?_getD, List.getElem?_eq_none (by omega)]; rfl)
  go_enter Tryz.func142, Tryz.ntmps142
  go_wp2_with fail
  go_ret
  exact ⟨by rw [HE.out]; rfl, rfl⟩

/-- bytes in a block -/
def BytesAt (w : World) (nb : Nat) (l : List UInt8) : Prop := ∀ j, j < l.length → w.cell? ⟨nb, j, none⟩ = some (.int .u8 ((l.getD j 0).toNat : Int)) ∧ w.frozen? ⟨nb, j, none⟩ = false
theorem conv_bytes (W : World) (l : List UInt8) : ∃ cap W', Sem.run Tryz.prog (convert 9 33 (.string (bs l))) W = .ok (.slice (some ⟨W.heap.size, 0, none⟩) l.length cap) W' ∧ BytesAt W' W.heap.size l ∧ Fr (fun _ => False) W W' := by
 refine ⟨_, _, run_bytes_of_string W 9 33 5 (bs l) Tryz.underlying9 Tryz.underlying33 Tryz.underlying5, fun j hj => ?_, ((Fr.refl _ _).drew).alloc _⟩
 have hb : (W.drew.alloc (.cells (bytesRow (bs l) (grownCap W (bs l).size 0 5)) 5 ((bytesRow (bs l) (grownCap W (bs l).size 0 5)).size, (bytesRow (bs l) (grownCap W (bs l).size 0 5)).size + 1))).heap[W.heap.size]? = some _ := block_new_at (w := W.drew) rfl
 have hrow := bytesRow_at (bs l) (grownCap W (bs l).size 0 5) j (show j < l.toArray.size by simpa using hj)
 refine ⟨(cell_of hb hrow).trans ?_, ?_⟩
 ·rw [List.getD_eq_getElem?_getD, List.getElem?_eq_getElem hj]; rfl
 ·have hlt : j < (bytesRow (bs l) (grownCap W (bs l).size 0 5)).size := (Array.getElem?_eq_some_iff.1 hrow).1
  simp only [World.frozen?, hb]
  simp
  omega
theorem conv_back {l : List UInt8} {nb cap : Nat} (h : BytesAt w nb l) : Sem.run Tryz.prog (convert 33 9 (.slice (some ⟨nb, 0, none⟩) l.length cap)) w = .ok (.string (bs l)) w :=
 run_convert_bytes_back w 33 9 5 ⟨nb, 0, none⟩ cap l Tryz.underlying33 Tryz.underlying5 Tryz.underlying9 fun j hj => by
  rw [Addr.add_lit, Nat.zero_add, (h j hj).1, List.getD_eq_getElem?_getD, List.getElem?_eq_getElem hj]; rfl
theorem fcells_set3 : ∀ {l : List FileD} {i : Nat} (f : FileD), i < l.length → (((fcells l).set (i * 3) (.string (bs f.name))).set (i * 3 + 1) (.string (bs f.bytes))).set (i * 3 + 2) (.int .i64 f.synced) = fcells (l.set i f)
 | [], _, _, h => by simp at h
 | g :: t, 0, f, _ => rfl
 | g :: t, i + 1, f, h => by
  have := fcells_set3 (l := t) (i := i) f (by simpa using h)
  rw [show (i + 1) * 3 = i * 3 + 3 by omega]
  exact congrArg (fun z => Value.string (bs g.name) :: Value.string (bs g.bytes) :: Value.int .i64 g.synced :: z) this

def RMid (D : DiskD) (keep noise : List Int) (rb : Nat) (lv : Value) (w0 : World) (i : Nat) (wr : World) : Prop :=
 wr.heap[rb]? = some (.cells #[lv, .int .i64 D.most, .int .i64 D.fuse, .bool D.dead] 82 (0, 0)) ∧ wr.ownsRow 0 137 3 lv D.files.length (fcells (midL xbG keep noise D.files i)) ∧ Fr (OwnR rb lv) w0 wr
theorem RMid.grow {i : Nat} (h : RMid D keep noise rb lv w0 i w) (hf : Fr (fun _ => False) w w') : RMid D keep noise rb lv w0 i w' :=
 ⟨hf.keep h.1 (fun h => h), ownsRow_keep h.2.1 fun k hk => hf.block k (h.2.1.lt k hk).2 (fun h => h), h.2.2.next (fr_none hf)⟩
theorem mid_len {i : Nat} : (midL xbG keep noise D.files i).length = D.files.length := by
 have := congrArg List.length (mid_names (xb := xbG) (keep := keep) (noise := noise) (l := D.files) i)
 simpa using this
theorem mid_here {i : Nat} (h : D.files[i]? = some f) : (midL xbG keep noise D.files i)[i]? = some f := by
 have hlt := (List.getElem?_eq_some_iff.1 h).1
 have hl : (crashL xbG keep noise 0 (D.files.take i)).length = i := by
  have := congrArg List.length (crash_names (xb := xbG) (keep := keep) (noise := noise) (D.files.take i) 0)
  simp at this; omega
 rw [mid_at h, List.getElem?_append_right (by omega), hl, Nat.sub_self]; rfl
theorem mid_set {i : Nat} (h : D.files[i]? = some f) (e : ¬ f.bytes.length = f.synced) : (midL xbG keep noise D.files i).set i (crashF xbG keep noise (tails (D.files.take i)) f) = midL xbG keep noise D.files (i + 1) := by
 have hlt := (List.getElem?_eq_some_iff.1 h).1
 have hl : (crashL xbG keep noise 0 (D.files.take i)).length = i := by
  have := congrArg List.length (crash_names (xb := xbG) (keep := keep) (noise := noise) (D.files.take i) 0)
  simp at this; omega
 rw [mid_at h, mid_next h, if_neg e, List.set_append_right _ _ (by omega), hl, Nat.sub_self]; rfl
theorem tails_le : ∀ (l : List FileD) (i : Nat), tails (l.take i) ≤ i := fun l i => by
 unfold tails
 have h1 := List.length_filter_le (fun f : FileD => !decide (f.bytes.length = f.synced)) (l.take i)
 have h2 := List.length_take_le i l
 omega

theorem rmid_step {i g cap q : Nat} {y : List UInt8} {W : World} (hM : RMid D keep noise rb (.slice (some ⟨g, 0, none⟩) D.files.length cap) w0 i W) (hf : D.files[i]? = some f) (htt : ¬ f.bytes.length = f.synced) (hne : g ≠ rb) (hcr : crashF xbG keep noise (tails (D.files.take i)) f = ⟨f.name, y, q⟩) :
  RMid D keep noise rb (.slice (some ⟨g, 0, none⟩) D.files.length cap) w0 (i + 1) (((W.setCell ⟨g, i * 3, none⟩ (.string (bs f.name))).setCell ⟨g, i * 3 + 1, none⟩ (.string (bs y))).setCell ⟨g, i * 3 + 2, none⟩ (.int .i64 q)).drew := by
 obtain ⟨h1, h2, h3⟩ := hM
 have hlt := (List.getElem?_eq_some_iff.1 hf).1
 refine ⟨(block_set_ne hne.symm).trans ((block_set_ne hne.symm).trans ((block_set_ne hne.symm).trans h1)), ?_, (Fr.setCell (p := ⟨g, i * 3 + 2, none⟩) (Fr.setCell (p := ⟨g, i * 3 + 1, none⟩) (Fr.setCell (p := ⟨g, i * 3, none⟩) h3 (.inl (.inr rfl)) _) (.inl (.inr rfl)) _) (.inl (.inr rfl)) _).drew⟩
 have h4 := ownsRow_setN (ownsRow_setN (ownsRow_setN h2 (i * 3) (.string (bs f.name))) (i * 3 + 1) (.string (bs y))) (i * 3 + 2) (.int .i64 q)
 rw [fcells_set3 (⟨f.name, y, q⟩ : FileD) (by rw [mid_len]; exact hlt), ← hcr, mid_set hf htt] at h4
 exact h4
theorem rmid_other {i nb p : Nat} {W : World} {u : Value} (hM : RMid D keep noise rb lv w0 i W) (h1 : nb ≠ rb) (h2 : lv.ownBlock ≠ some nb) (h3 : w0.heap.size ≤ nb) : RMid D keep noise rb lv w0 i (W.setCell ⟨nb, p, none⟩ u).drew :=
 ⟨(block_set_ne h1.symm).trans hM.1, ownsRow_keep hM.2.1 fun k hk => block_set_ne (fun e => h2 (by rw [hk, e])), (Fr.setCell (p := ⟨nb, p, none⟩) hM.2.2 (.inr h3) _).drew⟩
theorem bytes_next {W : World} {nb p : Nat} {l : List UInt8} {x : UInt8} (h : BytesAt W nb l) (hl : l.length = p + 1) : BytesAt (W.setCell ⟨nb, p, none⟩ (.int .u8 (x.toNat : Int))).drew nb (l.take p ++ [x]) := by
 intro j hj
 have hlp : (l.take p).length = p := by rw [List.length_take]; omega
 have hj2 : j < p + 1 := by rw [List.length_append, hlp] at hj; exact hj
 obtain ⟨b0, b1⟩ := h p (by omega)
 obtain ⟨d0, d1⟩ := h j (by omega)
 have hfz : (W.setCell ⟨nb, p, none⟩ (.int .u8 (x.toNat : Int))).drew.frozen? ⟨nb, j, none⟩ = W.frozen? ⟨nb, j, none⟩ := by
  show (W.setCell ⟨nb, p, none⟩ (.int .u8 (x.toNat : Int))).frozen? ⟨nb, j, none⟩ = _
  simp
 refine ⟨?_, hfz.trans d1⟩
 by_cases e : j = p
 ·subst e
  rw [List.getD_eq_getElem?_getD, List.getElem?_append_right (by omega), hlp, Nat.sub_self]
  show (W.setCell ⟨nb, j, none⟩ (.int .u8 (x.toNat : Int))).cell? ⟨nb, j, none⟩ = _
  first | exact World.cell?_setCell_same _ b0 | exact World.cell?_setCell_same _ _ b0 | exact World.cell?_setCell_same _ _ _ b0
 ·rw [List.getD_eq_getElem?_getD, List.getElem?_append_left (by omega), List.getElem?_take, if_pos (by omega), ← List.getD_eq_getElem?_getD]
  show (W.setCell ⟨nb, p, none⟩ (.int .u8 (x.toNat : Int))).cell? ⟨nb, j, none⟩ = _
  have hne : (⟨nb, p, none⟩ : Addr) ≠ ⟨nb, j, none⟩ := fun k => e (by injection k with _ k; exact k.symm)
  first | exact (World.cell?_setCell_other _ hne).trans d0 | exact (World.cell?_setCell_other _ _ hne).trans d0 | exact (World.cell?_setCell_other _ _ _ hne).trans d0 | exact (World.cell?_setCell_other _ _ _ _ hne).trans d0
set_option maxRecDepth 100000 in
set_option maxHeartbeats 8000000 in
theorem rcrash_h (hD : RefAt w rb lv D) (ha : IR w S a keep) (hb : IR w S' b noise) (hS : ∀ k, S k → ¬ OwnR rb lv k) (hS' : ∀ k, S' k → ¬ OwnR rb lv k) (hkl : keep.length < 1000000) (hnl : noise.length < 1000000) :
  Calls Tryz.prog 98 #[.pointer (some ⟨rb, 0, none⟩), a, b] w fun e w' => e = .returned (.tuple #[]) ∧ RefAt w' rb lv (crashD xbG D keep noise) ∧ Fr (OwnR rb lv) w w' := by
 have HD := Lib.hid hD
 have HK := Lib.hid (fun (W : World) (hF : Fr (OwnR rb lv) w W) (k : Nat) => rat_h (ha.fr hF hS) hkl k)
 have HN := Lib.hid (fun (W : World) (hF : Fr (OwnR rb lv) w W) (k : Nat) => rat_h (hb.fr hF hS') hnl k)
 have hmany := hD.inv.many
 have HM0 : Hid (RMid D keep noise rb lv w 0 w) := Lib.hid ⟨hD.head, by rw [mid_zero]; exact hD.row, Fr.refl _ _⟩
 obtain ⟨aa, ca, rfl, hca1, hca2⟩ := ha.form
 obtain ⟨ba, cb, rfl, hcb1, hcb2⟩ := hb.form
 clear ha hb hD hca1 hca2 hcb1 hcb2 hS hS' hkl hnl
 go_enter Tryz.func98, Tryz.ntmps98
 go_wp2_with fail
 go_loopg [6, 7] D.files.length (fun j u v wr => ∃ i : Nat, i + j = D.files.length ∧ v = .int .i64 i ∧ u = .int .i64 (tails (D.files.take i)) ∧ RMid D keep noise rb lv w i wr)
 case atStart => exact ⟨0, by omega, rfl, rfl, HM0.out⟩
 case round =>
  obtain ⟨i, hi, rfl, rfl, hmid⟩ := hrel
  have HI := Lib.hid (And.intro hi hmid)
  have hle := tails_le D.files i
  clear hi
  obtain ⟨hh0, hrow0, hfr0⟩ := hmid
  have c0 := cell_of hh0 (i := 0) (v := _) rfl
  obtain ⟨a1, cap1, hlv⟩ := ownsRow_shape hrow0
  by_cases hlt : i < D.files.length
  ·obtain ⟨f, hf⟩ : ∃ f, D.files[i]? = some f := ⟨_, List.getElem?_eq_getElem hlt⟩
   have hfm := List.mem_of_getElem? hf
   have hfs := HD.out.inv.synced f hfm
   have htot : f.bytes.length ≤ 10000000 := by have h1 := mem_total hfm; have h2 := HD.out.inv.full; have h3 := HD.out.inv.most; omega
   obtain ⟨t, ht⟩ : ∃ t, f.bytes.length = f.synced + t := ⟨_, (Nat.add_sub_of_le hfs).symm⟩
   obtain ⟨g, cap, hv, _⟩ := ownsRow_form hrow0 (by omega)
   subst hv
   have hc := hrow0.cells (g := g) rfl
   obtain ⟨k0, k1, k2⟩ := fcells_at (mid_here (keep := keep) (noise := noise) hf)
   have q0 := hc _ _ k0
   have q1 := hc _ _ k1
   have q2 := hc _ _ k2
   rw [Addr.add_lit, Nat.zero_add] at q0 q1 q2
   have hne : g ≠ rb := fun e => HD.out.ne (by rw [e]; rfl)
   have HF := Lib.hid (And.intro hf (And.intro ht hne))
   have hsz : (bs f.bytes).size = f.synced + t := ht
   have hst : f.synced + t ≤ 10000000 := by omega
   have hbF : Fr (fun _ => False) wr (wr.alloc (.cells #[.string (bs f.name), .string (bs f.bytes), .int .i64 f.synced] 137)) := (Fr.refl _ _).alloc _
   have hbB : (wr.alloc (.cells #[.string (bs f.name), .string (bs f.bytes), .int .i64 f.synced] 137)).heap[wr.heap.size]? = some (.cells #[.string (bs f.name), .string (bs f.bytes), .int .i64 f.synced] 137) := block_new _ _
   have hw : IntKind.i64.wrap ((f.synced : Int) + (t : Int) - (f.synced : Int)) = (t : Int) := by rw [IntWalk.i64_in _ (by omega)]; omega
   have hw' : IntKind.i64.wrap ((f.bytes.length : Int) - (f.synced : Int)) = (t : Int) := by rw [IntWalk.i64_in _ (by omega)]; omega
   clear hlv hh0 hrow0 hfr0 hf hfm hfs ht hc k0 k1 k2 hne
   have HB := Lib.hid (And.intro hbF hbB)
   clear hbF hbB
   by_cases h0 : t = 0
   ·subst h0
    go_wp2_with fail
    go_roundg (D.files.length - (i + 1))
    case measure => have := HI.out.1; omega
    case rel =>
     have htt : f.bytes.length = f.synced := by have := HF.out.2.1; omega
     refine ⟨i + 1, by have := HI.out.1; omega, by go_num, by rw [tails_next HF.out.1, if_pos htt, Nat.add_zero], ?_⟩
     have := HI.out.2.grow HB.out.1
     unfold RMid at this ⊢
     rw [mid_same HF.out.1 htt]
     exact this
   ·have ht0 : ((t : Int) == 0) = false := by rw [beq_eq_false_iff_ne]; omega
    have ht0' : (t == 0) = false := by rw [beq_eq_false_iff_ne]; omega
    obtain ⟨kk, hkk⟩ : ∃ kk, tails (D.files.take i) = kk := ⟨_, rfl⟩
    rw [hkk] at hle ⊢
    have HKK := Lib.hid hkk
    clear hkk
    go_wp2_with fail
    have hW := HB.out
    have c0W := hW.1.cell c0 (fun h => h)
    have cb1 := cell_of hW.2 (i := 2) (v := .int .i64 f.synced) rfl
    have hFW : Fr (OwnR rb (.slice (some ⟨g, 0, none⟩) D.files.length cap)) w (wr.alloc (.cells #[.string (bs f.name), .string (bs f.bytes), .int .i64 f.synced] 137)) := HI.out.2.2.2.next (fr_none hW.1)
    obtain ⟨c, hcc⟩ : ∃ c, nthD keep kk = c := ⟨_, rfl⟩
    have HQ := Lib.hid (fun m : Nat => show Calls Tryz.prog 142 #[.slice aa keep.length ca, .int .i64 kk] ((wr.alloc (.cells #[.string (bs f.name), .string (bs f.bytes), .int .i64 f.synced] 137)).drewN m) (fun e w' => e = .returned (.int .i64 c) ∧ w' = (wr.alloc (.cells #[.string (bs f.name), .string (bs f.bytes), .int .i64 f.synced] 137)).drewN m) from (by rw [← hcc]; exact (HK.out _ (hFW.drewN m) kk).mono fun _ _ k => ⟨k.1, k.2.symm⟩))
    obtain ⟨m, hmm⟩ : ∃ m : Nat, max 0 (min c (t : Int)) = (m : Int) := ⟨(max 0 (min c (t : Int))).toNat, by omega⟩
    have hmt : m ≤ t := by omega
    obtain ⟨q, hq⟩ : ∃ q, f.synced + m = q := ⟨_, rfl⟩
    have hw2 : IntKind.i64.wrap ((f.synced : Int) + (m : Int)) = (q : Int) := by rw [IntWalk.i64_in _ (by omega)]; omega
    have HCC := Lib.hid (And.intro hcc (And.intro hmm hq))
    have HB2 := Lib.hid (And.intro hW.1 (And.intro hW.2 hFW))
    have hqt : q ≤ f.synced + t := by omega
    clear hcc hq hW hFW HB hmt hw hw' q0 q1 q2 c0
    generalize wr.alloc (.cells #[.string (bs f.name), .string (bs f.bytes), .int .i64 f.synced] 137) = W at *
    go_quiet ((go_at_call 142; exact Calls.quiet_of_same (HQ.out _)))
    clear hw2 hmm HQ
    generalize hW2 : World.drewN W _ = W2
    have HF2 : Hid (Fr (fun _ => False) wr W2) := Lib.hid (by rw [← hW2]; exact HB2.out.1.drewN _)
    have HBX : Hid (W2.heap[wr.heap.size]? = some (.cells #[.string (bs f.name), .string (bs f.bytes), .int .i64 f.synced] 137)) := Lib.hid (by rw [← hW2]; exact HB2.out.2.1)
    have HFW2 : Hid (Fr (OwnR rb (.slice (some ⟨g, 0, none⟩) D.files.length cap)) w W2) := Lib.hid (by rw [← hW2]; exact HB2.out.2.2.drewN _)
    clear hW2 HB2 c0W cb1
    have cb0 := cell_of HBX.out (i := 1) (v := .string (bs f.bytes)) rfl
    have cb2 := cell_of HBX.out (i := 2) (v := .int .i64 f.synced) rfl
    have hext : (bs f.bytes).extract 0 q = bs (f.bytes.take q) := bs_take _ _
    obtain ⟨cb3, W3, hcv, hBA, hF3⟩ := conv_bytes W2 (f.bytes.take q)
    have hlq : (f.bytes.take q).length = q := by rw [List.length_take]; have := HF.out.2.1; omega
    rw [hlq] at hcv
    have hq0 : 0 ≤ (q : Int) := by omega
    have hqI : (q : Int) ≤ (f.synced : Int) + (t : Int) := by omega
    have HF3 := Lib.hid (HF2.out.next hF3)
    have HFW3 := Lib.hid (HFW2.out.next (fr_none hF3))
    have hbx3 := hF3.keep HBX.out (fun h => h)
    have cx0 := cell_of hbx3 (i := 0) (v := .string (bs f.name)) rfl
    have cx1 := cell_of hbx3 (i := 1) (v := .string (bs f.bytes)) rfl
    have cx2 := cell_of hbx3 (i := 2) (v := .int .i64 f.synced) rfl
    have HBA := Lib.hid (And.intro hBA (And.intro hlq hbx3))
    have HNB := Lib.hid (show wr.heap.size < W2.heap.size from lt_of_block HBX.out)
    clear hBA hF3 hbx3 hlq
    generalize W2.heap.size = nb at *
    have hM3 := HI.out.2.grow HF3.out
    have hr3 := hM3.2.1
    have hc3 := hr3.cells (g := g) rfl
    obtain ⟨k0, k1, k2⟩ := fcells_at (mid_here (keep := keep) (noise := noise) HF.out.1)
    have r0 := hc3 _ _ k0
    have r1 := hc3 _ _ k1
    have r2 := hc3 _ _ k2
    rw [Addr.add_lit, Nat.zero_add] at r0 r1 r2
    have s0 := ownsRow_free hr3 (i * 3)
    have s1 := ownsRow_free hr3 (i * 3 + 1)
    have s2 := ownsRow_free hr3 (i * 3 + 2)
    have c03 := cell_of hM3.1 (i := 0) (v := _) rfl
    have HM3 := Lib.hid hM3
    clear hM3 hr3 hc3 k0 k1 k2
    rcases Nat.eq_zero_or_pos m with hm0 | hmp
    ·have hqs : q = f.synced := by have := HCC.out.2.2; omega
     have hqd : ¬ f.synced < q := by omega
     have hqdI : ¬ (f.synced : Int) < (q : Int) := by omega
     clear hqs
     have hcb := conv_back (w := W3.drew) (cap := cb3) HBA.out.1
     rw [HBA.out.2.1] at hcb
     go_wp2_with fail
     go_still_tail 12, (by kernel_rfl)
     go_wp2_with fail
     go_roundg (D.files.length - (i + 1))
     case measure => have := HI.out.1; omega
     case rel =>
      have htt : ¬ f.bytes.length = f.synced := by have := HF.out.2.1; omega
      have hk := HCC.out
      refine ⟨i + 1, by have := HI.out.1; omega, by go_num, by rw [tails_next HF.out.1, if_neg htt, HKK.out]; rfl, rmid_step HM3.out HF.out.1 htt HF.out.2.2 ?_⟩
      rw [HKK.out]
      have hq : keptD f (nthD keep kk) = q := by unfold keptD; rw [hk.1]; have h2 := HF.out.2.1; rw [show f.bytes.length - f.synced = t by omega]; have h3 := hk.2.1; have h4 := hk.2.2; omega
      unfold crashF
      dsimp only
      rw [hq, if_neg hqd, show f.synced = q by have := hk.2.2; omega]
    ·have hqd : f.synced < q := by have := HCC.out.2.2; omega
     have hqdI : (f.synced : Int) < (q : Int) := by omega
     obtain ⟨p, hp⟩ : ∃ p, q = p + 1 := ⟨q - 1, by omega⟩
     have hw1 : IntKind.i64.wrap ((q : Int) - 1) = (p : Int) := by rw [IntWalk.i64_in _ (by omega)]; omega
     have hpq : p < q := by omega
     obtain ⟨c2, hc2⟩ : ∃ c2, nthD noise kk = c2 := ⟨_, rfl⟩
     have hnth := HN.out W3.drew HFW3.out.drew kk
     rw [hc2] at hnth
     have HC2 := Lib.hid hc2
     have H1 := Lib.hid hnth
     obtain ⟨z, hz⟩ : ∃ z, (f.bytes.take q).getD p 0 = z := ⟨_, rfl⟩
     obtain ⟨b0, b1⟩ := HBA.out.1 p (by rw [HBA.out.2.1]; omega)
     rw [hz] at b0
     have HZ := Lib.hid (And.intro hz hp)
     clear hc2 hnth hz hp
     go_wp2_with fail
     go_region_with (first | (go_at_call 142; with_reducible refine Calls.mono H1.out ?_; rintro e w' ⟨rfl, rfl⟩))
     all_goals
      go_wp2_with fail
      obtain ⟨x, hx⟩ : ∃ x, xbG z c2 = x := ⟨_, rfl⟩
      have hval : bits .xor .u8 (z.toNat : Int) (IntKind.u8.wrap c2) = (x.toNat : Int) := by rw [xb_toNat, hx]
      have hval2 : bits .xor .u8 (z.toNat : Int) (c2 % 256) = (x.toNat : Int) := by rw [← IntKind.wrap_u8, xb_toNat, hx]
      simp only [hval]
      have hBX := bytes_next (x := x) HBA.out.1 (p := p) (by rw [HBA.out.2.1]; exact HZ.out.2)
      have hnb := HNB.out
      have hrl := lt_of_block HI.out.2.1
      have hgl := (HI.out.2.2.1.lt g rfl).2
      have hw0 := HI.out.2.2.2.size
      have n1 : nb ≠ rb := by omega
      have n2 : g ≠ nb := by omega
      have n3 : w.heap.size ≤ nb := by omega
      have n4 : wr.heap.size ≠ nb := by omega
      have hM4 := rmid_other (u := .int .u8 (x.toNat : Int)) (nb := nb) (p := p) HM3.out n1 (fun e => n2 (Option.some.inj e)) n3
      have hF4 : Fr (fun k => k = nb) W3 (W3.setCell ⟨nb, p, none⟩ (.int .u8 (x.toNat : Int))).drew := (Fr.setCell (o := fun k => k = nb) (p := ⟨nb, p, none⟩) (Fr.refl _ _) (.inl rfl) _).drew
      have e0 := hF4.cell cx0 (fun h => n4 h)
      have hr4 := hM4.2.1
      have hc4 := hr4.cells (g := g) rfl
      obtain ⟨k0, k1, k2⟩ := fcells_at (mid_here (keep := keep) (noise := noise) HF.out.1)
      have r0' := hc4 _ _ k0
      have r1' := hc4 _ _ k1
      have r2' := hc4 _ _ k2
      rw [Addr.add_lit, Nat.zero_add] at r0' r1' r2'
      have s0' := ownsRow_free hr4 (i * 3)
      have s1' := ownsRow_free hr4 (i * 3 + 1)
      have s2' := ownsRow_free hr4 (i * 3 + 2)
      have c04 := cell_of hM4.1 (i := 0) (v := _) rfl
      have HM4 := Lib.hid (And.intro hM4 hBX)
      have HX := Lib.hid hx
      clear n1 n2 n3 n4 hval hval2 hx hBX hnb hrl hgl hw0 hM4 hF4 hr4 hc4 k0 k1 k2 r0 r1 r2 s0 s1 s2 c03 cx0 cx1 cx2 b0 b1 hw1
      generalize (W3.setCell ⟨nb, p, none⟩ (.int .u8 (x.toNat : Int))).drew = W4 at *
      have hl4 : ((f.bytes.take q).take p ++ [x]).length = q := by rw [List.length_append, List.length_take, HBA.out.2.1]; have := HZ.out.2; simp; omega
      have hcb := conv_back (w := W4.drew) (cap := cb3) (l := (f.bytes.take q).take p ++ [x]) (nb := nb) HM4.out.2
      rw [hl4] at hcb
      clear hl4
      go_still_tail 12, (by kernel_rfl)
      go_wp2_with fail
      go_roundg (D.files.length - (i + 1))
      case measure => have := HI.out.1; omega
      case rel =>
       have htt : ¬ f.bytes.length = f.synced := by have := HF.out.2.1; omega
       have hk := HCC.out
       refine ⟨i + 1, by have := HI.out.1; omega, by go_num, by rw [tails_next HF.out.1, if_neg htt, HKK.out]; rfl, rmid_step HM4.out.1 HF.out.1 htt HF.out.2.2 ?_⟩
       rw [HKK.out]
       have hq : keptD f (nthD keep kk) = q := by unfold keptD; rw [hk.1]; have h2 := HF.out.2.1; rw [show f.bytes.length - f.synced = t by omega]; have h3 := hk.2.1; have h4 := hk.2.2; omega
       have hzz := HZ.out
       unfold crashF
       dsimp only
       rw [hq, if_pos hqd, hzz.2, Nat.add_sub_cancel, HC2.out, List.take_take, Nat.min_eq_left (Nat.le_succ p), ← HX.out, ← hzz.1, List.getD_eq_getElem?_getD, List.getD_eq_getElem?_getD, List.getElem?_take, if_pos (by omega)]
  ·have hend : midL xbG keep noise D.files i = crashL xbG keep noise 0 D.files := mid_end (by omega)
   rw [hend] at hrow0
   have HR := Lib.hid (And.intro hh0 (And.intro hrow0 hfr0))
   have hlen : (crashL xbG keep noise 0 D.files).length = D.files.length := by
    have := congrArg List.length (crash_names (xb := xbG) (keep := keep) (noise := noise) D.files 0)
    simpa using this
   have HL := Lib.hid hlen
   have f2 := free_of 2 hh0
   have c2 := cell_of hh0 (i := 2) (v := _) rfl
   have f3 := free_of 3 hh0
   have c3 := cell_of hh0 (i := 3) (v := _) rfl
   subst hlv
   clear hend hrow0 hfr0 hh0 hlen
   go_wp2_with fail
   go_end0
   refine ⟨rfl, ?_, Fr.setCell (p := ⟨rb, 3, none⟩) (Fr.setCell (p := ⟨rb, 2, none⟩) HR.out.2.2 (.inl (.inl rfl)) _) (.inl (.inl rfl)) _⟩
   have h1 := block_set HR.out.1 2 (.int .i64 (-1))
   have h2 := block_set h1 3 (.bool false)
   refine ⟨by simpa [crashD] using h2, ?_, HD.out.inv.crash⟩
   show World.ownsRow _ 0 137 3 _ (crashL xbG keep noise 0 D.files).length (fcells (crashL xbG keep noise 0 D.files))
   rw [HL.out]
   have hne : (Value.slice a1 D.files.length cap1).ownBlock ≠ some rb := HD.out.ne
   exact ownsRow_keep (ownsRow_keep HR.out.2.1 fun k hk => block_set_ne (fun e => hne (by rw [hk, e]))) fun k hk => block_set_ne (fun e => hne (by rw [hk, e]))
end
end Go.Proofs.YtgmghopcppniaaaGreatDoor
