/- The reference's Sync, Truncate, Delete, Rename. -/
import Derived.Test.YtgmghopcppniaaaGreatDoorFP
import Derived.StillTailTactics
import Derived.Deep.QuietTactic
import Derived.BigQuiet
namespace Go.Proofs.YtgmghopcppniaaaGreatDoor
open Go.RowKit Go.Lib

theorem thenD_yes {D D2 : DiskD} (h : turnD D = (0, D2)) (l : List FileD) : thenD D l = (0, setF D2 l) := by unfold thenD; rw [h]; rfl
theorem thenD_no {D D2 : DiskD} (h : turnD D = (7, D2)) (l : List FileD) : thenD D l = (7, D2) := by unfold thenD; rw [h]; rfl
theorem turn_two (D : DiskD) : ∃ c D2, turnD D = (c, D2) ∧ (c = 0 ∨ c = 7) ∧ D2.files = D.files := by
 refine ⟨(turnD D).1, (turnD D).2, rfl, ?_, turn_files.1⟩
 unfold turnD; split; exact .inr rfl; exact .inl rfl
section
variable {w w' w1 : World} {rb : Nat} {lv : Value} {D D2 : DiskD} {n tow : List UInt8} {f g : FileD} {l : List FileD}
/-- one file's cell is stored into -/
theorem ref_cell {k : Nat} {a : Nat} {cap : Nat} {v : Value} {l : List FileD} (h : RefAt w rb (.slice (some ⟨a, 0, none⟩) D.files.length cap) D) (hne : a ≠ rb) (hl : l.length = D.files.length) (hc : (fcells D.files).set k v = fcells l) (hi : InvD (setF D l)) :
  RefAt (w.setCell ⟨a, k, none⟩ v) rb (.slice (some ⟨a, 0, none⟩) D.files.length cap) (setF D l) := by
 refine ⟨(block_set_ne hne.symm).trans h.head, ?_, hi⟩
 have := ownsRow_setN h.row k v
 rw [hc] at this
 show World.ownsRow _ 0 137 3 _ l.length (fcells l)
 rw [hl]; exact this
theorem ref_row {base : Nat} {v : Value} (h : RefAt w rb lv D) (hrow : w.ownsRow base 137 3 v l.length (fcells l)) (hb : rb < base) (hi : InvD (setF D l)) : RefAt (w.setCell ⟨rb, 0, none⟩ v) rb v (setF D l) := by
 have := block_set h.head 0 v
 refine ⟨by simpa [setF] using this, ?_, hi⟩
 exact ownsRow_base (ownsRow_keep hrow fun k hk => block_set_ne (fun e => by have := (hrow.lt k hk).1; omega)) (Nat.zero_le _)
theorem RDoes.of (he : RefAt w' rb lv D2) (hf : Fr (OwnR rb lv) w w') {c : Int} : RDoes rb lv (c, D2) w (.returned (.int .i64 c)) w' := ⟨lv, rfl, he, hf, fun _ hk => .inl hk⟩
theorem fr_none {o : Nat → Prop} {a b : World} (h : Fr (fun _ => False) a b) : Fr o a b := h.mono fun _ _ h => h.elim
theorem fr_turn {a b c : World} (h : Fr (fun _ => False) a b) (k : Fr (OwnR rb lv) b c) : Fr (OwnR rb lv) a c := (fr_none h).next k

set_option maxRecDepth 100000 in
set_option maxHeartbeats 4000000 in
theorem rsync_h (h : RefAt w rb lv D) (n : List UInt8) : Calls Tryz.prog 93 #[.pointer (some ⟨rb, 0, none⟩), .string (bs n)] w (RDoes rb lv (syncD D n) w) := by
 have HT := Lib.hid (there_h h n)
 cases hd : D.dead with
 | true =>
  rw [there_dead hd] at HT
  have HE := Lib.hid (show syncD D n = (7, D) by unfold syncD; rw [if_pos hd])
  have HX := Lib.hid h
  clear hd h
  go_enter Tryz.func93, Tryz.ntmps93
  go_wp2_with fail
  refine Calls.mono HT.out ?_
  rintro e w1 ⟨rfl, hf⟩
  have HF1 := Lib.hid hf
  clear hf
  go_wp2_with fail
  go_ret
  rw [HE.out]; exact RDoes.of (HX.out.grow HF1.out) (fr_none HF1.out)
 | false =>
  cases hg : getF D.files n with
  | none =>
  rw [there_none hd hg] at HT
  have HE := Lib.hid (show syncD D n = (4, D) by unfold syncD; rw [if_neg (by rw [hd]; simp), hg])
  have HX := Lib.hid h
  clear hd hg h
  go_enter Tryz.func93, Tryz.ntmps93
  go_wp2_with fail
  refine Calls.mono HT.out ?_
  rintro e w1 ⟨rfl, hf⟩
  have HF1 := Lib.hid hf
  clear hf
  go_wp2_with fail
  go_ret
  rw [HE.out]; exact RDoes.of (HX.out.grow HF1.out) (fr_none HF1.out)
  | some f =>
  rw [there_some hd hg] at HT
  have hne : ¬ D.dead = true := by rw [hd]; simp
  obtain ⟨c, D2, hTD, hc, hfl⟩ := turn_two D
  have hi2 : InvD (syncD D n).2 := h.inv.sync n
  have HX := Lib.hid h
  have HG := Lib.hid (And.intro hg hfl)
  rcases hc with rfl | rfl
  ·have HE := Lib.hid (show syncD D n = (0, setF D2 (putF D.files ⟨n, f.bytes, f.bytes.length⟩)) by unfold syncD; rw [if_neg hne, hg]; exact thenD_yes hTD _)
   rw [HE.out] at hi2
   have HI := Lib.hid (show InvD (setF D2 (putF D.files ⟨n, f.bytes, f.bytes.length⟩)) from hi2)
   have HTD := Lib.hid hTD
   clear hd hg h hne hTD hfl hi2
   go_enter Tryz.func93, Tryz.ntmps93
   go_wp2_with fail
   refine Calls.mono HT.out ?_
   rintro e w1 ⟨rfl, hf⟩
   have HF1 := Lib.hid hf
   clear hf
   go_wp2_with fail
   have hTU := rturn_h (HX.out.grow HF1.out)
   rw [HTD.out] at hTU
   refine Calls.mono hTU ?_
   clear hTU
   rintro e w2 ⟨rfl, hD2, hf2⟩
   have HF2 := Lib.hid (fr_turn HF1.out hf2)
   have HD2 := Lib.hid hD2
   clear hD2 hf2 HF1
   have hgx : D2.files[posF D.files n]? = some f := by rw [HG.out.2]; exact get_at HX.out.inv.sorted HG.out.1
   obtain ⟨c0, _, _, _⟩ := HD2.out.cells
   obtain ⟨a, cap, rfl, hn1, hn2, hrow⟩ := HD2.out.slice
   obtain ⟨g, rfl, hgr, q0, q1, q2, q3, q4⟩ := hrow _ f hgx
   have hlt := (List.getElem?_eq_some_iff.1 hgx).1
   have hl40 := HD2.out.inv.many
   have hbz : (bs f.bytes).size = f.bytes.length := rfl
   have HK := Lib.hid (And.intro hgx hgr)
   clear hgx hrow hgr
   clear q0 q3
   have HP := Lib.hid (put_old (f := ⟨n, f.bytes, f.bytes.length⟩) HX.out.inv.sorted HG.out.1)
   generalize hk : posF D.files n = k at *
   have HKK := Lib.hid hk
   clear hk
   go_wp2_with fail
   go_still_tail 16, (by kernel_rfl)
   go_wp2_with fail
   go_ret
   have hfr : RefAt (w2.drewN 1) rb (.slice (some ⟨g, 0, none⟩) D2.files.length cap) D2 := HD2.out.grow ((Fr.refl _ _).drewN 1)
   rw [HE.out]
   refine ⟨_, rfl, ?_, (Fr.setCell (p := ⟨g, k * 3 + 2, none⟩) HF2.out (.inl (.inr rfl)) _).drew, fun _ hk => .inl hk⟩
   have hset : (fcells D2.files).set (k * 3 + 2) (.int .i64 f.bytes.length) = fcells (putF D.files ⟨n, f.bytes, f.bytes.length⟩) := by
    rw [fcells_set2 _ HK.out.1, HP.out, HG.out.2, (get_mem HG.out.1).2]
   exact ref_cell hfr HK.out.2 (by rw [HP.out, List.length_set, HG.out.2]) hset HI.out
  ·have HE := Lib.hid (show syncD D n = (7, D2) by unfold syncD; rw [if_neg hne, hg]; exact thenD_no hTD _)
   have HTD := Lib.hid hTD
   clear hd hg h hne hTD hfl hi2
   go_enter Tryz.func93, Tryz.ntmps93
   go_wp2_with fail
   refine Calls.mono HT.out ?_
   rintro e w1 ⟨rfl, hf⟩
   have HF1 := Lib.hid hf
   clear hf
   go_wp2_with fail
   have hTU := rturn_h (HX.out.grow HF1.out)
   rw [HTD.out] at hTU
   refine Calls.mono hTU ?_
   clear hTU
   rintro e w2 ⟨rfl, hD2, hf2⟩
   have HF2 := Lib.hid (fr_turn HF1.out hf2)
   have HD2 := Lib.hid hD2
   clear hD2 hf2 HF1
   go_wp2_with fail
   go_ret
   rw [HE.out]; exact RDoes.of HD2.out HF2.out

set_option maxRecDepth 100000 in
set_option maxHeartbeats 4000000 in
theorem rdelete_h (h : RefAt w rb lv D) (n : List UInt8) : Calls Tryz.prog 141 #[.pointer (some ⟨rb, 0, none⟩), .string (bs n)] w (RDoes rb lv (deleteD D n) w) := by
 have HT := Lib.hid (there_h h n)
 cases hd : D.dead with
 | true =>
  rw [there_dead hd] at HT
  have HE := Lib.hid (show deleteD D n = (7, D) by unfold deleteD; rw [if_pos hd])
  have HX := Lib.hid h
  clear hd h
  go_enter Tryz.func141, Tryz.ntmps141
  go_wp2_with fail
  refine Calls.mono HT.out ?_
  rintro e w1 ⟨rfl, hf⟩
  have HF1 := Lib.hid hf
  clear hf
  go_wp2_with fail
  go_ret
  rw [HE.out]; exact RDoes.of (HX.out.grow HF1.out) (fr_none HF1.out)
 | false =>
  cases hg : getF D.files n with
  | none =>
  rw [there_none hd hg] at HT
  have HE := Lib.hid (show deleteD D n = (4, D) by unfold deleteD; rw [if_neg (by rw [hd]; simp), hg])
  have HX := Lib.hid h
  clear hd hg h
  go_enter Tryz.func141, Tryz.ntmps141
  go_wp2_with fail
  refine Calls.mono HT.out ?_
  rintro e w1 ⟨rfl, hf⟩
  have HF1 := Lib.hid hf
  clear hf
  go_wp2_with fail
  go_ret
  rw [HE.out]; exact RDoes.of (HX.out.grow HF1.out) (fr_none HF1.out)
  | some f =>
  rw [there_some hd hg] at HT
  have hne : ¬ D.dead = true := by rw [hd]; simp
  obtain ⟨c, D2, hTD, hc, hfl⟩ := turn_two D
  have hi2 : InvD (deleteD D n).2 := h.inv.delete n
  have HX := Lib.hid h
  have HG := Lib.hid (And.intro hg hfl)
  rcases hc with rfl | rfl
  ·have HE := Lib.hid (show deleteD D n = (0, setF D2 (delF D.files n)) by unfold deleteD; rw [if_neg hne, hg]; exact thenD_yes hTD _)
   rw [HE.out] at hi2
   have HI := Lib.hid (show InvD (setF D2 (delF D.files n)) from hi2)
   have HTD := Lib.hid hTD
   clear hd hg h hne hTD hfl hi2
   go_enter Tryz.func141, Tryz.ntmps141
   go_wp2_with fail
   refine Calls.mono HT.out ?_
   rintro e w1 ⟨rfl, hf⟩
   have HF1 := Lib.hid hf
   clear hf
   go_wp2_with fail
   have hTU := rturn_h (HX.out.grow HF1.out)
   rw [HTD.out] at hTU
   refine Calls.mono hTU ?_
   clear hTU
   rintro e w2 ⟨rfl, hD2, hf2⟩
   have HF2 := Lib.hid (fr_turn HF1.out hf2)
   have HD2 := Lib.hid hD2
   clear hD2 hf2 HF1
   have hgx : D2.files[posF D.files n]? = some f := by rw [HG.out.2]; exact get_at HX.out.inv.sorted HG.out.1
   have hlt := (List.getElem?_eq_some_iff.1 hgx).1
   have HW := Lib.hid (rwithout_h HD2.out hlt)
   have HP := Lib.hid (show D2.files.eraseIdx (posF D.files n) = delF D.files n by rw [HG.out.2]; exact (del_pos HX.out.inv.sorted HG.out.1).symm)
   clear hgx hlt
   generalize posF D.files n = k at *
   go_wp2_with fail
   refine Calls.mono HW.out ?_
   rintro e w3 ⟨v, rfl, hrow, hf3⟩
   rw [HP.out] at hrow
   obtain ⟨vb, vc, rfl⟩ := ownsRow_shape hrow
   have HR := Lib.hid hrow
   have HD3 := Lib.hid (HD2.out.grow hf3)
   have HF3 := Lib.hid (HF2.out.next (fr_none hf3))
   have hlt := HD2.out.lt (.inl rfl)
   have hsz := HF2.out.size
   have f0 := free_of 0 HD3.out.head
   have c0 := HD3.out.cells.1
   clear hrow hf3 HW
   go_wp2_with fail
   go_ret
   rw [HE.out]
   exact ⟨_, rfl, ref_row HD3.out HR.out hlt HI.out, HF3.out.setCell (.inl (.inl rfl)) _, fun k hk => .inr (by have := (HR.out.lt k hk).1; omega)⟩
  ·have HE := Lib.hid (show deleteD D n = (7, D2) by unfold deleteD; rw [if_neg hne, hg]; exact thenD_no hTD _)
   have HTD := Lib.hid hTD
   clear hd hg h hne hTD hfl hi2
   go_enter Tryz.func141, Tryz.ntmps141
   go_wp2_with fail
   refine Calls.mono HT.out ?_
   rintro e w1 ⟨rfl, hf⟩
   have HF1 := Lib.hid hf
   clear hf
   go_wp2_with fail
   have hTU := rturn_h (HX.out.grow HF1.out)
   rw [HTD.out] at hTU
   refine Calls.mono hTU ?_
   clear hTU
   rintro e w2 ⟨rfl, hD2, hf2⟩
   have HF2 := Lib.hid (fr_turn HF1.out hf2)
   have HD2 := Lib.hid hD2
   clear hD2 hf2 HF1
   go_wp2_with fail
   go_ret
   rw [HE.out]; exact RDoes.of HD2.out HF2.out

set_option maxRecDepth 100000 in
set_option maxHeartbeats 4000000 in
theorem rtrunc_h (h : RefAt w rb lv D) (n : List UInt8) (z : Int) : Calls Tryz.prog 92 #[.pointer (some ⟨rb, 0, none⟩), .string (bs n), .int .i64 z] w (RDoes rb lv (truncD D n z) w) := by
 have HT := Lib.hid (there_h h n)
 cases hd : D.dead with
 | true =>
  rw [there_dead hd] at HT
  have HE := Lib.hid (show truncD D n z = (7, D) by unfold truncD; rw [if_pos hd])
  have HX := Lib.hid h
  clear hd h
  go_enter Tryz.func92, Tryz.ntmps92
  go_wp2_with fail
  refine Calls.mono HT.out ?_
  rintro e w1 ⟨rfl, hf⟩
  have HF1 := Lib.hid hf
  clear hf
  go_wp2_with fail
  go_ret
  rw [HE.out]; exact RDoes.of (HX.out.grow HF1.out) (fr_none HF1.out)
 | false =>
  cases hg : getF D.files n with
  | none =>
  rw [there_none hd hg] at HT
  have HE := Lib.hid (show truncD D n z = (4, D) by unfold truncD; rw [if_neg (by rw [hd]; simp), hg])
  have HX := Lib.hid h
  clear hd hg h
  go_enter Tryz.func92, Tryz.ntmps92
  go_wp2_with fail
  refine Calls.mono HT.out ?_
  rintro e w1 ⟨rfl, hf⟩
  have HF1 := Lib.hid hf
  clear hf
  go_wp2_with fail
  go_ret
  rw [HE.out]; exact RDoes.of (HX.out.grow HF1.out) (fr_none HF1.out)
  | some f =>
  rw [there_some hd hg] at HT
  have hne : ¬ D.dead = true := by rw [hd]; simp
  by_cases hz : z < 0
  ·have d1 : decide (z < 0) = true := by simpa using hz
   have HE := Lib.hid (show truncD D n z = (2, D) by unfold truncD; rw [if_neg hne, hg]; dsimp only; rw [if_pos (.inl hz)])
   have HX := Lib.hid h
   clear hd hg h hne hz
   go_enter Tryz.func92, Tryz.ntmps92
   go_wp2_with fail
   refine Calls.mono HT.out ?_
   rintro e w1 ⟨rfl, hf⟩
   have HF1 := Lib.hid hf
   clear hf
   go_wp2_with fail
   go_ret
   rw [HE.out]; exact RDoes.of (HX.out.grow HF1.out) (fr_none HF1.out)
  have d1 : decide (z < 0) = false := by simpa using hz
  by_cases hz2 : (f.bytes.length : Int) < z
  ·have d2 : decide ((f.bytes.length : Int) < z) = true := by simpa using hz2
   have HE := Lib.hid (show truncD D n z = (2, D) by unfold truncD; rw [if_neg hne, hg]; dsimp only; rw [if_pos (.inr hz2)])
   have HX := Lib.hid h
   have HG := Lib.hid hg
   clear hd hg h hne hz hz2
   go_enter Tryz.func92, Tryz.ntmps92
   go_wp2_with fail
   refine Calls.mono HT.out ?_
   rintro e w1 ⟨rfl, hf⟩
   have HF1 := Lib.hid hf
   have hX1 := HX.out.grow hf
   have hgx := get_at HX.out.inv.sorted HG.out
   obtain ⟨c0, _, _, _⟩ := hX1.cells
   obtain ⟨a, cap, rfl, hn1, hn2, hrow⟩ := hX1.slice
   obtain ⟨g, rfl, hgr, q0, q1, q2, q3, q4⟩ := hrow _ f hgx
   have hlt := (List.getElem?_eq_some_iff.1 hgx).1
   have hl40 := hX1.inv.many
   have hbz : (bs f.bytes).size = f.bytes.length := rfl
   clear hf hX1 hgx hrow hgr q0 q2 q3 q4
   generalize posF D.files n = k at *
   go_wp2_with fail
   go_ret
   rw [HE.out]; exact RDoes.of (HX.out.grow HF1.out) (fr_none HF1.out)
  have d2 : decide ((f.bytes.length : Int) < z) = false := by simpa using hz2
  obtain ⟨q, rfl⟩ : ∃ q : Nat, z = q := ⟨z.toNat, by omega⟩
  have hqb : q ≤ f.bytes.length := by omega
  have hz3 : ¬ ((q : Int) < 0 ∨ (f.bytes.length : Int) < q) := by omega
  have HQ := Lib.hid hqb
  clear hz hz2
  obtain ⟨c, D2, hTD, hc, hfl⟩ := turn_two D
  have hi2 : InvD (truncD D n (q : Int)).2 := h.inv.trunc n _
  have HX := Lib.hid h
  have HG := Lib.hid (And.intro hg hfl)
  rcases hc with rfl | rfl
  ·have HE := Lib.hid (show truncD D n (q : Int) = (0, setF D2 (putF D.files ⟨n, f.bytes.take q, min f.synced q⟩)) by unfold truncD; rw [if_neg hne, hg]; dsimp only; rw [if_neg hz3]; exact thenD_yes hTD _)
   rw [HE.out] at hi2
   have HI := Lib.hid (show InvD (setF D2 (putF D.files ⟨n, f.bytes.take q, min f.synced q⟩)) from hi2)
   have HTD := Lib.hid hTD
   clear hd hg h hne hTD hfl hi2
   go_enter Tryz.func92, Tryz.ntmps92
   go_wp2_with fail
   refine Calls.mono HT.out ?_
   rintro e w1 ⟨rfl, hf⟩
   have HF1 := Lib.hid hf
   clear hf
   have hX1 := HX.out.grow HF1.out
   have hgx := get_at HX.out.inv.sorted HG.out.1
   have c01 := hX1.cells.1
   obtain ⟨a1, cap1, rfl, hn11, hn21, hrow1⟩ := hX1.slice
   obtain ⟨g1, rfl, _, _, q11, _, _, _⟩ := hrow1 _ f hgx
   have hlt1 := (List.getElem?_eq_some_iff.1 hgx).1
   have hl401 := hX1.inv.many
   have hbz : (bs f.bytes).size = f.bytes.length := rfl
   clear hX1 hgx hrow1
   go_wp2_with fail
   have hTU := rturn_h (HX.out.grow HF1.out)
   rw [HTD.out] at hTU
   refine Calls.mono hTU ?_
   clear hTU
   rintro e w2 ⟨rfl, hD2, hf2⟩
   have HF2 := Lib.hid (fr_turn HF1.out hf2)
   have HD2 := Lib.hid hD2
   clear hD2 hf2 HF1
   clear c01 hn11 hn21 q11 hlt1 hl401 hbz
   have hgx : D2.files[posF D.files n]? = some f := by rw [HG.out.2]; exact get_at HX.out.inv.sorted HG.out.1
   have c0 := HD2.out.cells.1
   obtain ⟨a, cap, ea, hn1, hn2, hrow⟩ := HD2.out.slice
   injection ea with ea1 ea2 ea3
   obtain ⟨g, eg, hgr, q0, q1, q2, q3, q4⟩ := hrow _ f hgx
   obtain rfl : g1 = g := by rw [← ea1] at eg; injection eg with eg; injection eg
   have hlt := (List.getElem?_eq_some_iff.1 hgx).1
   have hl40 := HD2.out.inv.many
   have hbz : (bs f.bytes).size = f.bytes.length := rfl
   have hD2n : D2.files.length = D.files.length := by rw [HG.out.2]
   have HK := Lib.hid (And.intro hgx (And.intro hgr hD2n))
   have hqb := HQ.out
   have hx : (bs f.bytes).extract 0 q = bs (f.bytes.take q) := bs_take _ _
   rw [hD2n] at hlt
   clear hgx hrow hgr ea1 ea2 ea3 eg hn1 hn2 q0 hD2n
   have HP := Lib.hid (put_old (f := ⟨n, f.bytes.take q, min f.synced q⟩) HX.out.inv.sorted HG.out.1)
   generalize hk : posF D.files n = k at *
   have HKK := Lib.hid hk
   clear hk
   go_wp2_with fail
   go_still_tail 17, (by kernel_rfl)
   go_wp2_with fail
   have hF3 : Fr (OwnR rb (.slice (some ⟨g1, 0, none⟩) D.files.length cap1)) w (w2.setCell ⟨g1, k * 3 + 1, none⟩ (.string (bs (f.bytes.take q)))).drew := (Fr.setCell (p := ⟨g1, k * 3 + 1, none⟩) HF2.out (.inl (.inr rfl)) _).drew
   have hb3 : (w2.setCell ⟨g1, k * 3 + 1, none⟩ (.string (bs (f.bytes.take q)))).drew.heap[rb]? = some (.cells #[.slice (some ⟨g1, 0, none⟩) D.files.length cap1, .int .i64 D2.most, .int .i64 D2.fuse, .bool D2.dead] 82 (0, 0)) := (block_set_ne HK.out.2.1.symm).trans HD2.out.head
   have hr3 : (w2.setCell ⟨g1, k * 3 + 1, none⟩ (.string (bs (f.bytes.take q)))).drew.ownsRow 0 137 3 (.slice (some ⟨g1, 0, none⟩) D.files.length cap1) D.files.length ((fcells D.files).set (k * 3 + 1) (.string (bs (f.bytes.take q)))) := by
    have := HD2.out.row
    rw [HG.out.2] at this
    exact ownsRow_setN this _ _
   rw [fcells_set1 _ (by rw [← HG.out.2]; exact HK.out.1)] at hr3
   have hat3 : (D.files.set k ⟨f.name, f.bytes.take q, f.synced⟩)[k]? = some ⟨f.name, f.bytes.take q, f.synced⟩ := List.getElem?_set_self hlt
   have hc3 := hr3.cells (g := g1) rfl _ _ (fcells_at hat3).2.2
   rw [Addr.add_lit, Nat.zero_add] at hc3
   have hq4 := ownsRow_free hr3 (k * 3 + 2)
   have hc0 := cell_of hb3 (i := 0) (v := _) rfl
   have H3 := Lib.hid (And.intro hF3 (And.intro hb3 (And.intro hr3 hat3)))
   clear hF3 hb3 hr3 hat3 c0 q1 q2 q3 q4
   generalize (w2.setCell ⟨g1, k * 3 + 1, none⟩ (.string (bs (f.bytes.take q)))).drew = W3 at *
   rcases Nat.lt_or_ge q f.synced with hm3 | hm3
   ·have hmin : min f.synced q = q := by omega
    rw [hmin] at HP HI HE
    have hm4 : (q : Int) < (f.synced : Int) := by omega
    clear hm3 hmin
    go_wp2_with fail
    go_still_tail 17, (by kernel_rfl)
    go_wp2_with fail
    go_ret
    rw [HE.out]
    refine ⟨_, rfl, ⟨(block_set_ne HK.out.2.1.symm).trans H3.out.2.1, ?_, HI.out⟩, Fr.setCell (p := ⟨g1, k * 3 + 2, none⟩) (H3.out.1.drewN 1) (.inl (.inr rfl)) _, fun _ hk => .inl hk⟩
    have hrr := ownsRow_setN (w := W3) (H3.out.2.2.1) (k * 3 + 2) (.int .i64 (q : Nat))
    rw [fcells_set2 _ H3.out.2.2.2, List.set_set, (get_mem HG.out.1).2] at hrr
    show World.ownsRow _ 0 137 3 _ (putF D.files ⟨n, f.bytes.take q, q⟩).length (fcells (putF D.files ⟨n, f.bytes.take q, q⟩))
    have hmI : min (f.synced : Int) (q : Int) = ((q : Nat) : Int) := by omega
    rw [HP.out, List.length_set, hmI]
    exact hrr
   ·have hmin : min f.synced q = f.synced := by omega
    rw [hmin] at HP HI HE
    have hm4 : (f.synced : Int) ≤ (q : Int) := by omega
    clear hm3 hmin
    go_wp2_with fail
    go_still_tail 17, (by kernel_rfl)
    go_wp2_with fail
    go_ret
    rw [HE.out]
    refine ⟨_, rfl, ⟨(block_set_ne HK.out.2.1.symm).trans H3.out.2.1, ?_, HI.out⟩, Fr.setCell (p := ⟨g1, k * 3 + 2, none⟩) (H3.out.1.drewN 1) (.inl (.inr rfl)) _, fun _ hk => .inl hk⟩
    have hrr := ownsRow_setN (w := W3) (H3.out.2.2.1) (k * 3 + 2) (.int .i64 (f.synced : Nat))
    rw [fcells_set2 _ H3.out.2.2.2, List.set_set, (get_mem HG.out.1).2] at hrr
    show World.ownsRow _ 0 137 3 _ (putF D.files ⟨n, f.bytes.take q, f.synced⟩).length (fcells (putF D.files ⟨n, f.bytes.take q, f.synced⟩))
    have hmI : min (f.synced : Int) (q : Int) = ((f.synced : Nat) : Int) := by omega
    rw [HP.out, List.length_set, hmI]
    exact hrr
  ·have HE := Lib.hid (show truncD D n (q : Int) = (7, D2) by unfold truncD; rw [if_neg hne, hg]; dsimp only; rw [if_neg hz3]; exact thenD_no hTD _)
   have HTD := Lib.hid hTD
   clear hd hg h hne hTD hfl hi2
   go_enter Tryz.func92, Tryz.ntmps92
   go_wp2_with fail
   refine Calls.mono HT.out ?_
   rintro e w1 ⟨rfl, hf⟩
   have HF1 := Lib.hid hf
   clear hf
   have hX1 := HX.out.grow HF1.out
   have hgx := get_at HX.out.inv.sorted HG.out.1
   have c01 := hX1.cells.1
   obtain ⟨a1, cap1, rfl, hn11, hn21, hrow1⟩ := hX1.slice
   obtain ⟨g1, rfl, _, _, q11, _, _, _⟩ := hrow1 _ f hgx
   have hlt1 := (List.getElem?_eq_some_iff.1 hgx).1
   have hl401 := hX1.inv.many
   have hbz : (bs f.bytes).size = f.bytes.length := rfl
   clear hX1 hgx hrow1
   go_wp2_with fail
   have hTU := rturn_h (HX.out.grow HF1.out)
   rw [HTD.out] at hTU
   refine Calls.mono hTU ?_
   clear hTU
   rintro e w2 ⟨rfl, hD2, hf2⟩
   have HF2 := Lib.hid (fr_turn HF1.out hf2)
   have HD2 := Lib.hid hD2
   clear hD2 hf2 HF1
   go_wp2_with fail
   go_ret
   rw [HE.out]; exact RDoes.of HD2.out HF2.out
end
end Go.Proofs.YtgmghopcppniaaaGreatDoor

/- The reference's Name, Rename, Append. -/
namespace Go.Proofs.YtgmghopcppniaaaGreatDoor
open Go.RowKit Go.Lib

/-! ### Name -/
theorem byte_no {c : UInt8} (h : okByte c = false) : (((c.toNat : Int) < 97 ∨ 122 < (c.toNat : Int)) ∧ ((c.toNat : Int) < 48 ∨ 57 < (c.toNat : Int))) := by
 unfold okByte at h
 simp only [Bool.or_eq_false_iff, Bool.and_eq_false_iff, decide_eq_false_iff_not] at h
 omega
theorem byte_yes {c : UInt8} (h : okByte c = true) : ((97 ≤ (c.toNat : Int) ∧ (c.toNat : Int) ≤ 122) ∨ (48 ≤ (c.toNat : Int) ∧ (c.toNat : Int) ≤ 57)) := by
 unfold okByte at h
 simp only [Bool.or_eq_true, Bool.and_eq_true, decide_eq_true_eq] at h
 omega
theorem all_next {n : List UInt8} {k : Nat} (h : (n.take k).all okByte = true) (hk : k < n.length) (hb : okByte (n.getD k 0) = true) : (n.take (k + 1)).all okByte = true := by
 rw [List.take_add_one, List.getElem?_eq_getElem hk, List.all_append, h]
 rw [List.getD_eq_getElem?_getD, List.getElem?_eq_getElem hk] at hb
 simpa using hb
set_option maxHeartbeats 4000000 in
theorem rname_h {w : World} {n : List UInt8} (hn : n.length ≤ 1000000) : Calls Tryz.prog 77 #[.string (bs n)] w fun e w' => e = .returned (.bool (nameOK n)) ∧ Fr (fun _ => False) w w' := by
 have hsz : (bs n).size = n.length := rfl
 go_enter Tryz.func77, Tryz.ntmps77
 go_wp2_with fail
 go_loopg [3] (n.length) (fun j v wr => (∃ k : Nat, k + j = n.length ∧ v = .int .i64 k ∧ (n.take k).all okByte = true) ∧ w = wr)
 case atStart => exact ⟨⟨0, by omega, rfl, by simp⟩, rfl⟩
 case round =>
  obtain ⟨⟨k, hk, rfl, hall⟩, rfl⟩ := hrel
  have HK := Lib.hid (And.intro hk hall)
  clear hk hall
  by_cases hlt : k < n.length
  ·have hz : k < (bs n).size := by rw [hsz]; exact hlt
   have hg := bs_at n k hz
   have HN := Lib.hid (fun (hb : okByte (n.getD k 0) = true) => all_next HK.out.2 hlt hb)
   have HF := Lib.hid (fun (hb : okByte (n.getD k 0) = false) => show nameOK n = false from by
    unfold nameOK
    have : n.all okByte = false := by
     rw [List.all_eq_false]
     rw [List.getD_eq_getElem?_getD, List.getElem?_eq_getElem hlt] at hb
     exact ⟨n[k]'hlt, List.getElem_mem hlt, fun e => by rw [show (some (n[k]'hlt)).getD 0 = n[k]'hlt from rfl, e] at hb; cases hb⟩
    rw [this, Bool.and_false])
   generalize hc : n.getD k 0 = c at *
   clear hc
   have hgn : ((bs n)[k].toNat : Int) = (c.toNat : Int) := by rw [hg]
   have key : ∀ b : Bool, (b = okByte c) → True := fun _ _ => trivial
   clear key hg
   cases hb : okByte c with
   | true =>
    have hN := Lib.hid (HN.out hb)
    rcases byte_yes hb with ⟨h1, h2⟩ | ⟨h1, h2⟩
    ·have d1 : decide ((c.toNat : Int) < 97) = false := by rw [decide_eq_false_iff_not]; omega
     have d2 : decide (122 < (c.toNat : Int)) = false := by rw [decide_eq_false_iff_not]; omega
     clear hb h1 h2
     go_wp2_with fail
     go_roundg (n.length - (k + 1))
     case measure => have := HK.out.1; omega
     case rel => exact ⟨⟨k + 1, by omega, by go_num, hN.out⟩, rfl⟩
    ·have d1 : decide ((c.toNat : Int) < 97) = true := by rw [decide_eq_true_iff]; omega
     have d3 : decide ((c.toNat : Int) < 48) = false := by rw [decide_eq_false_iff_not]; omega
     have d4 : decide (57 < (c.toNat : Int)) = false := by rw [decide_eq_false_iff_not]; omega
     clear hb h1 h2
     go_wp2_with fail
     go_roundg (n.length - (k + 1))
     case measure => have := HK.out.1; omega
     case rel => exact ⟨⟨k + 1, by omega, by go_num, hN.out⟩, rfl⟩
   | false =>
    have hF := Lib.hid (HF.out hb)
    obtain ⟨h1, h2⟩ := byte_no hb
    have e1 : ∃ b, decide ((c.toNat : Int) < 97) = b := ⟨_, rfl⟩
    have e2 : ∃ b, decide ((c.toNat : Int) < 48) = b := ⟨_, rfl⟩
    obtain ⟨b1, d1⟩ := e1
    obtain ⟨b2, d2⟩ := e2
    have d3 : b1 = false → decide (122 < (c.toNat : Int)) = true := by intro h; subst h; rw [decide_eq_false_iff_not] at d1; rw [decide_eq_true_iff]; omega
    have d4 : b2 = false → decide (57 < (c.toNat : Int)) = true := by intro h; subst h; rw [decide_eq_false_iff_not] at d2; rw [decide_eq_true_iff]; omega
    clear hb h1 h2
    cases b1
    all_goals cases b2
    all_goals simp only [forall_const, Bool.true_eq_false, false_implies] at d3 d4
    all_goals (go_wp2_with fail)
    all_goals go_ret
    all_goals exact ⟨by rw [hF.out] <;> rfl, Fr.refl _ _⟩
  ·have hE : n.take k = n := List.take_of_length_le (by omega)
   have hall := HK.out.2
   rw [hE] at hall
   by_cases h1 : 1 ≤ n.length
   ·have d1 : decide ((1 : Int) ≤ (n.length : Int)) = true := by rw [decide_eq_true_iff]; omega
    have d1' : decide (1 ≤ n.length) = true := by simpa using h1
    have HE := Lib.hid (show nameOK n = decide (n.length ≤ 24) by unfold nameOK; rw [hall, d1']; simp)
    clear hE hall
    go_wp2_with fail
    go_ret
    exact ⟨by rw [HE.out, show decide (n.length ≤ 24) = decide ((n.length : Int) ≤ 24) from decide_eq_decide.2 (by omega)] <;> rfl, Fr.refl _ _⟩
   ·have d1 : decide ((1 : Int) ≤ (n.length : Int)) = false := by rw [decide_eq_false_iff_not]; omega
    have d1' : decide (1 ≤ n.length) = false := by simpa using h1
    have HE := Lib.hid (show nameOK n = false by unfold nameOK; rw [d1']; simp)
    clear hE hall h1
    go_wp2_with fail
    go_ret
    exact ⟨by rw [HE.out] <;> rfl, Fr.refl _ _⟩
end Go.Proofs.YtgmghopcppniaaaGreatDoor

/- The reference's Rename and Append. -/
namespace Go.Proofs.YtgmghopcppniaaaGreatDoor
open Go.RowKit Go.Lib

/-- a reference's disk on its way: what was there, and what it owned -/
structure RefSt (w0 w : World) (rb : Nat) (lv0 lv : Value) (D : DiskD) : Prop where
 ref : RefAt w rb lv D
 fr : Fr (OwnR rb lv0) w0 w
 own : ∀ k, lv.ownBlock = some k → lv0.ownBlock = some k ∨ w0.heap.size ≤ k
section
variable {w w' w0 w1 : World} {rb : Nat} {lv lv0 v : Value} {D D2 : DiskD} {n tow : List UInt8} {f g : FileD} {l : List FileD} {base : Nat}
theorem RefSt.row (h : RefSt w0 w rb lv0 lv D) (hrow : w'.ownsRow w.heap.size 137 3 v l.length (fcells l)) (hf : Fr (fun _ => False) w w') (hi : InvD (setF D l)) : RefSt w0 (w'.setCell ⟨rb, 0, none⟩ v) rb lv0 v (setF D l) :=
 ⟨ref_row (h.ref.grow hf) hrow (h.ref.lt (.inl rfl)) hi, (h.fr.next (fr_none hf)).setCell (.inl (.inl rfl)) _, fun k hk => .inr (Nat.le_trans h.fr.size (hrow.lt k hk).1)⟩
theorem RefSt.does (h : RefSt w0 w rb lv0 lv D) {c : Int} : RDoes rb lv0 (c, D) w0 (.returned (.int .i64 c)) w := ⟨lv, rfl, h.ref, h.fr, h.own⟩
end
end Go.Proofs.YtgmghopcppniaaaGreatDoor

/- The reference's Append. -/
namespace Go.Proofs.YtgmghopcppniaaaGreatDoor
open Go.RowKit Go.Lib

section
variable {w w' w0 w1 : World} {rb : Nat} {lv lv0 v : Value} {D D2 : DiskD} {n : List UInt8} {f g : FileD} {l : List FileD}
theorem new_at (hs : Sorted l) (h : getF l f.name = none) : (putF l f)[posF l f.name]? = some f ∧ ∀ g : FileD, g.name = f.name → (putF l f).set (posF l f.name) g = putF l g := by
 have hp := pos_le l f.name
 have hl : (l.take (posF l f.name)).length = posF l f.name := by rw [List.length_take]; omega
 refine ⟨?_, fun g hg => ?_⟩
 ·rw [put_new hs h, List.getElem?_append_right (by omega), hl, Nat.sub_self]; rfl
 ·rw [put_new hs h, put_new (f := g) hs (by rw [hg]; exact h), List.set_append_right _ _ (by omega), hl, Nat.sub_self, hg]; rfl
theorem append_yes (hd : D.dead = false) (hok : nameOK n = true) (h1 : ¬ (getF D.files n = none ∧ D.files.length = 40)) {x : List UInt8} (h2 : ¬ D.most < (total D.files : Int) + x.length) (hT : turnD D = (0, D2)) : appendD D n x = (0, setF D2 (putF D.files (grown D.files n x))) := by
 unfold appendD; rw [if_neg (by rw [hd]; simp), if_neg (by rw [hok]; simp), if_neg h1, if_neg h2]; exact thenD_yes hT _
theorem append_dies (hd : D.dead = false) (hok : nameOK n = true) (h1 : ¬ (getF D.files n = none ∧ D.files.length = 40)) {x : List UInt8} (h2 : ¬ D.most < (total D.files : Int) + x.length) (hT : turnD D = (7, D2)) : appendD D n x = (7, D2) := by
 unfold appendD; rw [if_neg (by rw [hd]; simp), if_neg (by rw [hok]; simp), if_neg h1, if_neg h2]; exact thenD_no hT _

set_option maxRecDepth 100000 in
set_option maxHeartbeats 8000000 in
theorem rappend_h (h : RefAt w rb lv D) (n x : List UInt8) (hn : n.length ≤ 1000000) (hx : x.length ≤ 1000000) : Calls Tryz.prog 33 #[.pointer (some ⟨rb, 0, none⟩), .string (bs n), .string (bs x)] w (RDoes rb lv (appendD D n x) w) := by
 have c3 := h.cells.2.2.2
 have zx : (bs x).size = x.length := rfl
 cases hd : D.dead with
 | true =>
  have HE := Lib.hid (show appendD D n x = (7, D) by unfold appendD; rw [if_pos hd])
  rw [hd] at c3
  clear hd hn hx
  go_enter Tryz.func33, Tryz.ntmps33
  go_wp2_with fail
  go_ret
  rw [HE.out]; exact RDoes.of h (Fr.refl _ _)
 | false =>
 rw [hd] at c3
 have HX := Lib.hid (And.intro h hd)
 have HNM := Lib.hid (rname_h (w := w) hn)
 cases hok : nameOK n with
 | false =>
  have HE := Lib.hid (show appendD D n x = (3, D) by unfold appendD; rw [if_neg (by rw [hd]; simp), if_pos hok])
  rw [hok] at HNM
  clear hd hok h hn hx
  go_enter Tryz.func33, Tryz.ntmps33
  go_wp2_with fail
  refine Calls.mono HNM.out ?_
  rintro e w1 ⟨rfl, hf⟩
  have HF1 := Lib.hid hf
  clear hf
  go_wp2_with fail
  go_ret
  rw [HE.out]; exact RDoes.of (HX.out.1.grow HF1.out) (fr_none HF1.out)
 | true =>
 rw [hok] at HNM
 have hl40 := h.inv.many
 have hmost := h.inv.most
 have hfull := h.inv.full
 have HFI := Lib.hid (fun (w1 : World) (hf : Fr (fun _ => False) w w1) => rfind_h (h.grow hf) n)
 unfold FindPost at HFI
 cases hg : getF D.files n with
 | none =>
  rw [show (getF D.files n).isSome = false by rw [hg]; rfl] at HFI
  by_cases h40 : D.files.length = 40
  ·have HE := Lib.hid (show appendD D n x = (11, D) by unfold appendD; rw [if_neg (by rw [hd]; simp), if_neg (by rw [hok]; simp), if_pos ⟨hg, h40⟩])
   have d1 : decide (40 ≤ (D.files.length : Int)) = true := by rw [decide_eq_true_iff]; omega
   have d1' : decide (40 ≤ D.files.length) = true := by rw [decide_eq_true_iff]; omega
   clear hd hok h hn hx hg h40 hmost hfull
   go_enter Tryz.func33, Tryz.ntmps33
   go_wp2_with fail
   refine Calls.mono HNM.out ?_
   rintro e w1 ⟨rfl, hf⟩
   have HF1 := Lib.hid hf
   clear hf
   go_wp2_with fail
   refine Calls.mono (HFI.out w1 HF1.out) ?_
   rintro e w2 ⟨rfl, hf⟩
   have HF2 := Lib.hid (HF1.out.next hf)
   have hX2 := HX.out.1.grow HF2.out
   obtain ⟨c0, _, _, _⟩ := hX2.cells
   obtain ⟨a, cap, rfl, hn1, hn2, hrow⟩ := hX2.slice
   clear hf hrow hX2
   go_wp2_with fail
   go_ret
   rw [HE.out]; exact RDoes.of (HX.out.1.grow HF2.out) (fr_none HF2.out)
  have d1 : decide (40 ≤ (D.files.length : Int)) = false := by rw [decide_eq_false_iff_not]; omega
  have d1' : decide (40 ≤ D.files.length) = false := by rw [decide_eq_false_iff_not]; omega
  by_cases hf2 : D.most < (total D.files : Int) + x.length
  ·have HE := Lib.hid (show appendD D n x = (6, D) by unfold appendD; rw [if_neg (by rw [hd]; simp), if_neg (by rw [hok]; simp), if_neg (fun k => h40 k.2), if_pos hf2])
   have d2 : decide (D.most - (total D.files : Int) < (x.length : Int)) = true := by rw [decide_eq_true_iff]; omega
   have hw : IntKind.i64.wrap (D.most - (total D.files : Int)) = D.most - (total D.files : Int) := by rw [IntWalk.i64_in _ (by omega)]
   clear hd hok h hn hx hg h40 hmost hfull hf2
   go_enter Tryz.func33, Tryz.ntmps33
   go_wp2_with fail
   refine Calls.mono HNM.out ?_
   rintro e w1 ⟨rfl, hf⟩
   have HF1 := Lib.hid hf
   clear hf
   go_wp2_with fail
   refine Calls.mono (HFI.out w1 HF1.out) ?_
   rintro e w2 ⟨rfl, hf⟩
   have HF2 := Lib.hid (HF1.out.next hf)
   have hX2 := HX.out.1.grow HF2.out
   obtain ⟨c0, c1, _, _⟩ := hX2.cells
   have HQ := Lib.hid (fun m : Nat => show Calls Tryz.prog 79 #[.pointer (some ⟨rb, 0, none⟩)] (w2.drewN m) (fun e w' => e = .returned (.int .i64 (total D.files)) ∧ w' = w2.drewN m) from (rsize_h (hX2.grow ((Fr.refl _ _).drewN m))).mono fun _ _ k => ⟨k.1, k.2.symm⟩)
   obtain ⟨a, cap, rfl, hn1, hn2, hrow⟩ := hX2.slice
   clear hf hrow hX2
   go_wp2_with fail
   go_quiet ((go_at_call 79; exact Calls.quiet_of_same (HQ.out _)))
   go_wp2_with fail
   go_ret
   rw [HE.out]; exact RDoes.of (HX.out.1.grow (HF2.out.drewN _)) (fr_none (HF2.out.drewN _))
  have d2 : decide (D.most - (total D.files : Int) < (x.length : Int)) = false := by rw [decide_eq_false_iff_not]; omega
  have hw : IntKind.i64.wrap (D.most - (total D.files : Int)) = D.most - (total D.files : Int) := by rw [IntWalk.i64_in _ (by omega)]
  obtain ⟨c, D2, hTD, hc, hfl⟩ := turn_two D
  have HTD := Lib.hid hTD
  rcases hc with rfl | rfl
  ·have hinvA : InvD (setF D2 (putF D.files ⟨n, [], 0⟩)) := by
    have := h.inv.append n []
    rw [append_yes hd hok (fun k => h40 k.2) (x := []) (by simp; omega) hTD, grown_none hg] at this
    exact this
   have hinvB : InvD (setF D2 (putF D.files ⟨n, x, 0⟩)) := by
    have := h.inv.append n x
    rw [append_yes hd hok (fun k => h40 k.2) hf2 hTD, grown_none hg] at this
    exact this
   have HE := Lib.hid (show appendD D n x = (0, setF D2 (putF D.files ⟨n, x, 0⟩)) by rw [append_yes hd hok (fun k => h40 k.2) hf2 hTD, grown_none hg])
   have HI := Lib.hid (And.intro hinvA hinvB)
   have HA := Lib.hid (new_at (f := ⟨n, [], 0⟩) h.inv.sorted hg)
   have HPN := Lib.hid (put_new (f := ⟨n, [], 0⟩) h.inv.sorted hg)
   have HLL := Lib.hid (show (putF D.files ⟨n, [], 0⟩).length = (putF D.files ⟨n, x, 0⟩).length by rw [len_put h.inv.sorted, len_put h.inv.sorted])
   have hpl := pos_le D.files n
   have HFL := Lib.hid hfl
   have zn : bs [] ++ bs x = bs x := bs_append _ _
   have z0 : (bs []).size = 0 := rfl
   clear hd hok h hn hg h40 hmost hfull hf2 hTD hinvA hinvB hfl
   generalize hk : posF D.files n = k at *
   have HK := Lib.hid hk
   clear hk
   go_enter Tryz.func33, Tryz.ntmps33
   go_wp2_with fail
   refine Calls.mono HNM.out ?_
   rintro e w1 ⟨rfl, hf⟩
   have HF1 := Lib.hid hf
   clear hf
   go_wp2_with fail
   refine Calls.mono (HFI.out w1 HF1.out) ?_
   rintro e w2 ⟨rfl, hf⟩
   have HF2 := Lib.hid (HF1.out.next hf)
   have hX2 := HX.out.1.grow HF2.out
   obtain ⟨c0, c1, _, _⟩ := hX2.cells
   have HQ := Lib.hid (fun m : Nat => show Calls Tryz.prog 79 #[.pointer (some ⟨rb, 0, none⟩)] (w2.drewN m) (fun e w' => e = .returned (.int .i64 (total D.files)) ∧ w' = w2.drewN m) from (rsize_h (hX2.grow ((Fr.refl _ _).drewN m))).mono fun _ _ k => ⟨k.1, k.2.symm⟩)
   obtain ⟨a, cap, rfl, hn1, hn2, hrow⟩ := hX2.slice
   clear hf hrow hX2
   go_wp2_with fail
   go_quiet ((go_at_call 79; exact Calls.quiet_of_same (HQ.out _)))
   clear c0 c1 HQ
   go_wp2_with fail
   have hTU := rturn_h (HX.out.1.grow (HF2.out.drewN nq))
   rw [HTD.out] at hTU
   refine Calls.mono hTU ?_
   clear hTU
   rintro e w3 ⟨rfl, hD3, hf3⟩
   have HS3 := Lib.hid (show RefSt w w3 rb _ _ D2 from ⟨hD3, fr_turn (HF2.out.drewN nq) hf3, fun _ hk => .inl hk⟩)
   clear hD3 hf3
   go_wp2_with fail
   have hwi := rwith_h HS3.out.ref ⟨n, [], 0⟩
   rw [HFL.out, show (FileD.mk n [] 0).name = n from rfl, HK.out] at hwi
   rw [← HPN.out] at hwi
   refine Calls.mono hwi ?_
   clear hwi
   rintro e w4 ⟨v4, rfl, hrow4, hf4⟩
   obtain ⟨vb4, vc4, rfl⟩ := ownsRow_shape hrow4
   have hh4 := (HS3.out.ref.grow hf4).head
   have f0 := free_of 0 hh4
   have c0 := cell_of hh4 (i := 0) (v := _) rfl
   have HS5 := Lib.hid (HS3.out.row hrow4 hf4 HI.out.1)
   clear hrow4 hf4 hh4 HS3
   go_wp2_with fail
   clear f0 c0
   generalize w4.setCell ⟨rb, 0, none⟩ (.slice vb4 (putF D.files ⟨n, [], 0⟩).length vc4) = W5 at *
   have c0 := HS5.out.ref.cells.1
   obtain ⟨a5, cap5, e5, hn5, hm5, hrow5⟩ := HS5.out.ref.slice
   injection e5 with e51 e52 e53
   subst e51
   subst e53
   clear e52
   have hat := HA.out.1
   obtain ⟨g5, rfl, hgr, q0, q1, q2, q3, q4⟩ := hrow5 k _ hat
   have hlt := (List.getElem?_eq_some_iff.1 hat).1
   have hl405 : (putF D.files ⟨n, [], 0⟩).length ≤ 40 := HS5.out.ref.inv.many
   have HGR := Lib.hid (And.intro hgr hat)
   change W5.cell? _ = some (.string (bs [])) at q1
   clear hrow5 hat q0 q2 q4 hgr hn5 hm5
   have hsm : ¬ 9223372036854775807 < x.length := by omega
   go_still_tail 17, (by kernel_rfl)
   go_wp2_with fail
   go_ret
   rw [HE.out]
   have hset : (fcells (putF D.files ⟨n, [], 0⟩)).set (k * 3 + 1) (.string (bs x)) = fcells (putF D.files ⟨n, x, 0⟩) := by
    rw [fcells_set1 x HGR.out.2]; exact congrArg fcells (HA.out.2 ⟨n, x, 0⟩ rfl)
   have hfin := ref_cell (D := setF D2 (putF D.files ⟨n, [], 0⟩)) (l := putF D.files ⟨n, x, 0⟩) HS5.out.ref HGR.out.1 HLL.out.symm hset HI.out.2
   exact ⟨_, rfl, hfin.grow ((Fr.refl _ _).drew), (HS5.out.fr.trans (Fr.setCell (p := ⟨g5, k * 3 + 1, none⟩) (o := fun i => i = g5) (Fr.refl _ _) (.inl rfl) _) (fun i hi => by rw [hi]; rcases HS5.out.own g5 rfl with h | h; exact .inl (.inr h); exact .inr h)).drew, HS5.out.own⟩
  ·have HE := Lib.hid (show appendD D n x = (7, D2) from append_dies hd hok (fun k => h40 k.2) hf2 hTD)
   clear hd hok h hn hg h40 hmost hfull hf2 hTD hfl
   generalize hk : posF D.files n = k at *
   have HK := Lib.hid hk
   clear hk
   go_enter Tryz.func33, Tryz.ntmps33
   go_wp2_with fail
   refine Calls.mono HNM.out ?_
   rintro e w1 ⟨rfl, hf⟩
   have HF1 := Lib.hid hf
   clear hf
   go_wp2_with fail
   refine Calls.mono (HFI.out w1 HF1.out) ?_
   rintro e w2 ⟨rfl, hf⟩
   have HF2 := Lib.hid (HF1.out.next hf)
   have hX2 := HX.out.1.grow HF2.out
   obtain ⟨c0, c1, _, _⟩ := hX2.cells
   have HQ := Lib.hid (fun m : Nat => show Calls Tryz.prog 79 #[.pointer (some ⟨rb, 0, none⟩)] (w2.drewN m) (fun e w' => e = .returned (.int .i64 (total D.files)) ∧ w' = w2.drewN m) from (rsize_h (hX2.grow ((Fr.refl _ _).drewN m))).mono fun _ _ k => ⟨k.1, k.2.symm⟩)
   obtain ⟨a, cap, rfl, hn1, hn2, hrow⟩ := hX2.slice
   clear hf hrow hX2
   go_wp2_with fail
   go_quiet ((go_at_call 79; exact Calls.quiet_of_same (HQ.out _)))
   clear c0 c1 HQ
   go_wp2_with fail
   have hTU := rturn_h (HX.out.1.grow (HF2.out.drewN nq))
   rw [HTD.out] at hTU
   refine Calls.mono hTU ?_
   clear hTU
   rintro e w3 ⟨rfl, hD3, hf3⟩
   have HS3 := Lib.hid (show RefSt w w3 rb _ _ D2 from ⟨hD3, fr_turn (HF2.out.drewN nq) hf3, fun _ hk => .inl hk⟩)
   clear hD3 hf3
   go_wp2_with fail
   go_ret
   rw [HE.out]; exact HS3.out.does
 | some f =>
  rw [show (getF D.files n).isSome = true by rw [hg]; rfl] at HFI
  have h40 : ¬ (getF D.files n = none ∧ D.files.length = 40) := fun k => by rw [hg] at k; cases k.1
  by_cases hf2 : D.most < (total D.files : Int) + x.length
  ·have HE := Lib.hid (show appendD D n x = (6, D) by unfold appendD; rw [if_neg (by rw [hd]; simp), if_neg (by rw [hok]; simp), if_neg h40, if_pos hf2])
   have d2 : decide (D.most - (total D.files : Int) < (x.length : Int)) = true := by rw [decide_eq_true_iff]; omega
   have hw : IntKind.i64.wrap (D.most - (total D.files : Int)) = D.most - (total D.files : Int) := by rw [IntWalk.i64_in _ (by omega)]
   clear hd hok h hn hx hg h40 hmost hfull hf2
   go_enter Tryz.func33, Tryz.ntmps33
   go_wp2_with fail
   refine Calls.mono HNM.out ?_
   rintro e w1 ⟨rfl, hf⟩
   have HF1 := Lib.hid hf
   clear hf
   go_wp2_with fail
   refine Calls.mono (HFI.out w1 HF1.out) ?_
   rintro e w2 ⟨rfl, hf⟩
   have HF2 := Lib.hid (HF1.out.next hf)
   have hX2 := HX.out.1.grow HF2.out
   obtain ⟨c0, c1, _, _⟩ := hX2.cells
   have HQ := Lib.hid (fun m : Nat => show Calls Tryz.prog 79 #[.pointer (some ⟨rb, 0, none⟩)] (w2.drewN m) (fun e w' => e = .returned (.int .i64 (total D.files)) ∧ w' = w2.drewN m) from (rsize_h (hX2.grow ((Fr.refl _ _).drewN m))).mono fun _ _ k => ⟨k.1, k.2.symm⟩)
   obtain ⟨a, cap, rfl, hn1, hn2, hrow⟩ := hX2.slice
   clear hf hrow hX2
   go_wp2_with fail
   go_quiet ((go_at_call 79; exact Calls.quiet_of_same (HQ.out _)))
   go_wp2_with fail
   go_ret
   rw [HE.out]; exact RDoes.of (HX.out.1.grow (HF2.out.drewN _)) (fr_none (HF2.out.drewN _))
  have d2 : decide (D.most - (total D.files : Int) < (x.length : Int)) = false := by rw [decide_eq_false_iff_not]; omega
  have hw : IntKind.i64.wrap (D.most - (total D.files : Int)) = D.most - (total D.files : Int) := by rw [IntWalk.i64_in _ (by omega)]
  obtain ⟨c, D2, hTD, hc, hfl⟩ := turn_two D
  have HTD := Lib.hid hTD
  rcases hc with rfl | rfl
  ·have hinvB : InvD (setF D2 (putF D.files ⟨n, f.bytes ++ x, f.synced⟩)) := by
    have := h.inv.append n x
    rw [append_yes hd hok h40 hf2 hTD, grown_some hg] at this
    exact this
   have HE := Lib.hid (show appendD D n x = (0, setF D2 (putF D.files ⟨n, f.bytes ++ x, f.synced⟩)) by rw [append_yes hd hok h40 hf2 hTD, grown_some hg])
   have HI := Lib.hid hinvB
   have HAT := Lib.hid (get_at h.inv.sorted hg)
   have HP := Lib.hid (put_old (f := ⟨n, f.bytes ++ x, f.synced⟩) h.inv.sorted hg)
   have hfl2 := mem_total (get_mem hg).1
   have hpl := pos_le D.files n
   have HFL := Lib.hid hfl
   have HNF := Lib.hid (get_mem hg).2
   have zn : bs f.bytes ++ bs x = bs (f.bytes ++ x) := bs_append _ _
   have z0 : (bs f.bytes).size = f.bytes.length := rfl
   have hsm : ¬ 9223372036854775807 < f.bytes.length + x.length := by omega
   clear hd hok h hn hg h40 hmost hfull hf2 hTD hinvB hfl hfl2
   generalize hk : posF D.files n = k at *
   have HK := Lib.hid hk
   clear hk
   go_enter Tryz.func33, Tryz.ntmps33
   go_wp2_with fail
   refine Calls.mono HNM.out ?_
   rintro e w1 ⟨rfl, hf⟩
   have HF1 := Lib.hid hf
   clear hf
   go_wp2_with fail
   refine Calls.mono (HFI.out w1 HF1.out) ?_
   rintro e w2 ⟨rfl, hf⟩
   have HF2 := Lib.hid (HF1.out.next hf)
   have hX2 := HX.out.1.grow HF2.out
   obtain ⟨c0, c1, _, _⟩ := hX2.cells
   have HQ := Lib.hid (fun m : Nat => show Calls Tryz.prog 79 #[.pointer (some ⟨rb, 0, none⟩)] (w2.drewN m) (fun e w' => e = .returned (.int .i64 (total D.files)) ∧ w' = w2.drewN m) from (rsize_h (hX2.grow ((Fr.refl _ _).drewN m))).mono fun _ _ k => ⟨k.1, k.2.symm⟩)
   obtain ⟨a, cap, rfl, hn1, hn2, hrow⟩ := hX2.slice
   clear hf hrow hX2
   go_wp2_with fail
   go_quiet ((go_at_call 79; exact Calls.quiet_of_same (HQ.out _)))
   clear c0 c1 HQ
   go_wp2_with fail
   have hTU := rturn_h (HX.out.1.grow (HF2.out.drewN nq))
   rw [HTD.out] at hTU
   refine Calls.mono hTU ?_
   clear hTU
   rintro e w3 ⟨rfl, hD3, hf3⟩
   have HS3 := Lib.hid (show RefSt w w3 rb _ _ D2 from ⟨hD3, fr_turn (HF2.out.drewN nq) hf3, fun _ hk => .inl hk⟩)
   have c0 := hD3.cells.1
   obtain ⟨a5, cap5, e5, hn5, hm5, hrow5⟩ := hD3.slice
   injection e5 with e51 e52 e53
   subst e51
   subst e53
   clear e52
   have hat : D2.files[k]? = some f := by rw [HFL.out]; exact HAT.out
   obtain ⟨g5, rfl, hgr, q0, q1, q2, q3, q4⟩ := hrow5 k _ hat
   have hlt : k < D.files.length := (List.getElem?_eq_some_iff.1 HAT.out).1
   have HGR := Lib.hid (And.intro hgr hat)
   clear hrow5 hat q0 q2 q4 hgr hn5 hm5 hD3 hf3
   go_wp2_with fail
   go_still_tail 17, (by kernel_rfl)
   go_wp2_with fail
   go_ret
   rw [HE.out]
   have hset : (fcells D2.files).set (k * 3 + 1) (.string (bs (f.bytes ++ x))) = fcells (putF D.files ⟨n, f.bytes ++ x, f.synced⟩) := by
    rw [fcells_set1 _ HGR.out.2, HP.out, HFL.out, HNF.out]
   have hrr := HS3.out.ref
   rw [show D.files.length = D2.files.length by rw [HFL.out]] at hrr
   have hfin := ref_cell (D := D2) (l := putF D.files ⟨n, f.bytes ++ x, f.synced⟩) hrr HGR.out.1 (by rw [HP.out, List.length_set, HFL.out]) hset HI.out
   rw [show D2.files.length = D.files.length by rw [HFL.out]] at hfin
   exact ⟨_, rfl, hfin.grow ((Fr.refl _ _).drew), (HS3.out.fr.trans (Fr.setCell (p := ⟨g5, k * 3 + 1, none⟩) (o := fun i => i = g5) (Fr.refl _ _) (.inl rfl) _) (fun i hi => by rw [hi]; exact .inl (.inr rfl))).drew, fun _ hk => .inl hk⟩
  ·have HE := Lib.hid (show appendD D n x = (7, D2) from append_dies hd hok h40 hf2 hTD)
   clear hd hok h hn hg h40 hmost hfull hf2 hTD hfl
   generalize hk : posF D.files n = k at *
   have HK := Lib.hid hk
   clear hk
   go_enter Tryz.func33, Tryz.ntmps33
   go_wp2_with fail
   refine Calls.mono HNM.out ?_
   rintro e w1 ⟨rfl, hf⟩
   have HF1 := Lib.hid hf
   clear hf
   go_wp2_with fail
   refine Calls.mono (HFI.out w1 HF1.out) ?_
   rintro e w2 ⟨rfl, hf⟩
   have HF2 := Lib.hid (HF1.out.next hf)
   have hX2 := HX.out.1.grow HF2.out
   obtain ⟨c0, c1, _, _⟩ := hX2.cells
   have HQ := Lib.hid (fun m : Nat => show Calls Tryz.prog 79 #[.pointer (some ⟨rb, 0, none⟩)] (w2.drewN m) (fun e w' => e = .returned (.int .i64 (total D.files)) ∧ w' = w2.drewN m) from (rsize_h (hX2.grow ((Fr.refl _ _).drewN m))).mono fun _ _ k => ⟨k.1, k.2.symm⟩)
   obtain ⟨a, cap, rfl, hn1, hn2, hrow⟩ := hX2.slice
   clear hf hrow hX2
   go_wp2_with fail
   go_quiet ((go_at_call 79; exact Calls.quiet_of_same (HQ.out _)))
   clear c0 c1 HQ
   go_wp2_with fail
   have hTU := rturn_h (HX.out.1.grow (HF2.out.drewN nq))
   rw [HTD.out] at hTU
   refine Calls.mono hTU ?_
   clear hTU
   rintro e w3 ⟨rfl, hD3, hf3⟩
   have HS3 := Lib.hid (show RefSt w w3 rb _ _ D2 from ⟨hD3, fr_turn (HF2.out.drewN nq) hf3, fun _ hk => .inl hk⟩)
   clear hD3 hf3
   go_wp2_with fail
   go_ret
   rw [HE.out]; exact HS3.out.does
end
end Go.Proofs.YtgmghopcppniaaaGreatDoor
