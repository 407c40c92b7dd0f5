/- The reference's Sync, Truncate, Delete, Rename. -/
import Derived.Test.YtfcnjbkoneinpaaDoorE2
import Derived.StillTailTactics
namespace Go.Proofs.YtfcnjbkoneinpaaDoor
open Go.RowKit Go.Lib

theorem thenD_yes {D D2 : DiskD} (h : turnD D = (0, D2)) (l : List FileD) : thenD D l = (0, setF D2 l) := by unfold thenD; rw [h]; rfl
theorem thenD_no {D D2 : DiskD} (h : turnD D = (7, D2)) (l : List FileD) : thenD D l = (7, D2) := by unfold thenD; rw [h]; rfl
theorem turn_two (D : DiskD) : ∃ c D2, turnD D = (c, D2) ∧ (c = 0 ∨ c = 7) ∧ D2.files = D.files := by
  refine ⟨(turnD D).1, (turnD D).2, rfl, ?_, turn_files.1⟩
  unfold turnD; split; exact .inr rfl; exact .inl rfl
section
variable {w w' w1 : World} {rb : Nat} {lv : Value} {D D2 : DiskD} {n to : List UInt8} {f g : FileD} {l : List FileD}
theorem InvD.del (h : InvD D) (m : List UInt8) : InvD (setF D (delF D.files m)) :=
  h.set (del_sorted h.sorted m) (fun f hf => h.names f (mem_del.1 hf).1) (fun f hf => h.synced f (mem_del.1 hf).1) (by have := h.full; have := del_total_le D.files m; omega) (by have := h.many; have := del_len_le D.files m; omega)
theorem put_below : ∀ {l : List FileD}, (∀ x ∈ l, f.name < x.name) → putF l f = f :: l
  | [], _ => rfl
  | g :: t, h => by
    have hg := h g (List.mem_cons_self ..)
    unfold putF
    rw [if_neg (fun e => str_lt_irrefl (show f.name < f.name by rw [e] at hg; exact hg)), if_neg (fun k => str_lt_irrefl (str_lt_trans hg k))]
theorem put_del : ∀ {l : List FileD}, Sorted l → putF (delF l f.name) f = putF l f
  | [], _ => rfl
  | g :: t, hs => by
    have hs' := sorted_cons.1 hs
    rw [del_cons]
    by_cases e : g.name = f.name
    · rw [if_pos e, del_none (get_none.2 fun x hx => by rw [← e]; exact (str_lt_ne (hs'.1 x hx)).symm), put_below (fun x hx => by rw [← e]; exact hs'.1 x hx)]
      conv => rhs; unfold putF
      rw [if_pos e]
    · rw [if_neg e]
      unfold putF
      rw [if_neg e, if_neg e]
      by_cases lt : g.name < f.name
      · rw [if_pos lt, if_pos lt, put_del hs'.2]
      · rw [if_neg lt, if_neg lt, del_none (get_none.2 fun x hx => (str_lt_ne (str_lt_trans (str_tri lt e) (hs'.1 x hx))).symm)]
/-- one file's cell is stored into -/
theorem ref_cell {k : Nat} {a : Nat} {cap : Nat} {v : Value} {l : List FileD} (h : RefAt w rb (.slice (some ⟨a, 0, none⟩) D.files.length cap) D) (hne : a ≠ rb) (hl : l.length = D.files.length) (hc : (fcells D.files).set k v = fcells l) (hi : InvD (setF D l)) :
    RefAt (w.setCell ⟨a, k, none⟩ v) rb (.slice (some ⟨a, 0, none⟩) D.files.length cap) (setF D l) := by
  refine ⟨(block_set_ne hne.symm).trans h.head, ?_, hi⟩
  have := ownsRow_setN h.row k v
  rw [hc] at this
  show World.ownsRow _ 0 48 3 _ l.length (fcells l)
  rw [hl]; exact this
theorem ref_row {base : Nat} {v : Value} (h : RefAt w rb lv D) (hrow : w.ownsRow base 48 3 v l.length (fcells l)) (hb : rb < base) (hi : InvD (setF D l)) : RefAt (w.setCell ⟨rb, 0, none⟩ v) rb v (setF D l) := by
  have := block_set h.head 0 v
  refine ⟨by simpa [setF] using this, ?_, hi⟩
  exact ownsRow_base (ownsRow_keep hrow fun k hk => block_set_ne (fun e => by have := (hrow.lt k hk).1; omega)) (Nat.zero_le _)
theorem RDoes.of (he : RefAt w' rb lv D2) (hf : Fr (OwnR rb lv) w w') {c : Int} : RDoes rb lv (c, D2) w (.returned (.int .i64 c)) w' := ⟨lv, rfl, he, hf, fun _ hk => .inl hk⟩
theorem fr_none {o : Nat → Prop} {a b : World} (h : Fr (fun _ => False) a b) : Fr o a b := h.mono fun _ _ h => h.elim
theorem fr_turn {a b c : World} (h : Fr (fun _ => False) a b) (k : Fr (OwnR rb lv) b c) : Fr (OwnR rb lv) a c := (fr_none h).next k

set_option maxRecDepth 100000 in
set_option maxHeartbeats 4000000 in
theorem rsync_h (h : RefAt w rb lv D) (n : List UInt8) : Calls Tryd.prog 32 #[.pointer (some ⟨rb, 0, none⟩), .string (bs n)] w (RDoes rb lv (syncD D n) w) := by
  have HT := Lib.hid (there_h h n)
  cases hd : D.dead with
  | true =>
    rw [there_dead hd] at HT
    have HE := Lib.hid (show syncD D n = (7, D) by unfold syncD; rw [if_pos hd])
    have HX := Lib.hid h
    clear hd h
    go_enter Tryd.func32, Tryd.ntmps32
    go_wp2_with fail
    refine Calls.mono HT.out ?_
    rintro e w1 ⟨rfl, hf⟩
    have HF1 := Lib.hid hf
    clear hf
    go_wp2_with fail
    go_ret
    rw [HE.out]; exact RDoes.of (HX.out.grow HF1.out) (fr_none HF1.out)
  | false =>
   cases hg : getF D.files n with
   | none =>
    rw [there_none hd hg] at HT
    have HE := Lib.hid (show syncD D n = (4, D) by unfold syncD; rw [if_neg (by rw [hd]; simp), hg])
    have HX := Lib.hid h
    clear hd hg h
    go_enter Tryd.func32, Tryd.ntmps32
    go_wp2_with fail
    refine Calls.mono HT.out ?_
    rintro e w1 ⟨rfl, hf⟩
    have HF1 := Lib.hid hf
    clear hf
    go_wp2_with fail
    go_ret
    rw [HE.out]; exact RDoes.of (HX.out.grow HF1.out) (fr_none HF1.out)
   | some f =>
    rw [there_some hd hg] at HT
    have hne : ¬ D.dead = true := by rw [hd]; simp
    obtain ⟨c, D2, hTD, hc, hfl⟩ := turn_two D
    have hi2 : InvD (syncD D n).2 := h.inv.sync n
    have HX := Lib.hid h
    have HG := Lib.hid (And.intro hg hfl)
    rcases hc with rfl | rfl
    · have HE := Lib.hid (show syncD D n = (0, setF D2 (putF D.files ⟨n, f.bytes, f.bytes.length⟩)) by unfold syncD; rw [if_neg hne, hg]; exact thenD_yes hTD _)
      rw [HE.out] at hi2
      have HI := Lib.hid (show InvD (setF D2 (putF D.files ⟨n, f.bytes, f.bytes.length⟩)) from hi2)
      have HTD := Lib.hid hTD
      clear hd hg h hne hTD hfl hi2
      go_enter Tryd.func32, Tryd.ntmps32
      go_wp2_with fail
      refine Calls.mono HT.out ?_
      rintro e w1 ⟨rfl, hf⟩
      have HF1 := Lib.hid hf
      clear hf
      go_wp2_with fail
      have hTU := rturn_h (HX.out.grow HF1.out)
      rw [HTD.out] at hTU
      refine Calls.mono hTU ?_
      clear hTU
      rintro e w2 ⟨rfl, hD2, hf2⟩
      have HF2 := Lib.hid (fr_turn HF1.out hf2)
      have HD2 := Lib.hid hD2
      clear hD2 hf2 HF1
      have hgx : D2.files[posF D.files n]? = some f := by rw [HG.out.2]; exact get_at HX.out.inv.sorted HG.out.1
      obtain ⟨c0, _, _, _⟩ := HD2.out.cells
      obtain ⟨a, cap, rfl, hn1, hn2, hrow⟩ := HD2.out.slice
      obtain ⟨g, rfl, hgr, q0, q1, q2, q3, q4⟩ := hrow _ f hgx
      have hlt := (List.getElem?_eq_some_iff.1 hgx).1
      have hl40 := HD2.out.inv.many
      have hbz : (bs f.bytes).size = f.bytes.length := rfl
      have HK := Lib.hid (And.intro hgx hgr)
      clear hgx hrow hgr
      clear q0 q3
      have HP := Lib.hid (put_old (f := ⟨n, f.bytes, f.bytes.length⟩) HX.out.inv.sorted HG.out.1)
      generalize hk : posF D.files n = k at *
      have HKK := Lib.hid hk
      clear hk
      go_wp2_with fail
      go_still_tail 16, (by kernel_rfl)
      go_wp2_with fail
      go_ret
      have hfr : RefAt (w2.drewN 1) rb (.slice (some ⟨g, 0, none⟩) D2.files.length cap) D2 := HD2.out.grow ((Fr.refl _ _).drewN 1)
      rw [HE.out]
      refine ⟨_, rfl, ?_, (Fr.setCell (p := ⟨g, k * 3 + 2, none⟩) HF2.out (.inl (.inr rfl)) _).drew, fun _ hk => .inl hk⟩
      have hset : (fcells D2.files).set (k * 3 + 2) (.int .i64 f.bytes.length) = fcells (putF D.files ⟨n, f.bytes, f.bytes.length⟩) := by
        rw [fcells_set2 _ HK.out.1, HP.out, HG.out.2, (get_mem HG.out.1).2]
      exact ref_cell hfr HK.out.2 (by rw [HP.out, List.length_set, HG.out.2]) hset HI.out
    · have HE := Lib.hid (show syncD D n = (7, D2) by unfold syncD; rw [if_neg hne, hg]; exact thenD_no hTD _)
      have HTD := Lib.hid hTD
      clear hd hg h hne hTD hfl hi2
      go_enter Tryd.func32, Tryd.ntmps32
      go_wp2_with fail
      refine Calls.mono HT.out ?_
      rintro e w1 ⟨rfl, hf⟩
      have HF1 := Lib.hid hf
      clear hf
      go_wp2_with fail
      have hTU := rturn_h (HX.out.grow HF1.out)
      rw [HTD.out] at hTU
      refine Calls.mono hTU ?_
      clear hTU
      rintro e w2 ⟨rfl, hD2, hf2⟩
      have HF2 := Lib.hid (fr_turn HF1.out hf2)
      have HD2 := Lib.hid hD2
      clear hD2 hf2 HF1
      go_wp2_with fail
      go_ret
      rw [HE.out]; exact RDoes.of HD2.out HF2.out

set_option maxRecDepth 100000 in
set_option maxHeartbeats 4000000 in
theorem rdelete_h (h : RefAt w rb lv D) (n : List UInt8) : Calls Tryd.prog 35 #[.pointer (some ⟨rb, 0, none⟩), .string (bs n)] w (RDoes rb lv (deleteD D n) w) := by
  have HT := Lib.hid (there_h h n)
  cases hd : D.dead with
  | true =>
    rw [there_dead hd] at HT
    have HE := Lib.hid (show deleteD D n = (7, D) by unfold deleteD; rw [if_pos hd])
    have HX := Lib.hid h
    clear hd h
    go_enter Tryd.func35, Tryd.ntmps35
    go_wp2_with fail
    refine Calls.mono HT.out ?_
    rintro e w1 ⟨rfl, hf⟩
    have HF1 := Lib.hid hf
    clear hf
    go_wp2_with fail
    go_ret
    rw [HE.out]; exact RDoes.of (HX.out.grow HF1.out) (fr_none HF1.out)
  | false =>
   cases hg : getF D.files n with
   | none =>
    rw [there_none hd hg] at HT
    have HE := Lib.hid (show deleteD D n = (4, D) by unfold deleteD; rw [if_neg (by rw [hd]; simp), hg])
    have HX := Lib.hid h
    clear hd hg h
    go_enter Tryd.func35, Tryd.ntmps35
    go_wp2_with fail
    refine Calls.mono HT.out ?_
    rintro e w1 ⟨rfl, hf⟩
    have HF1 := Lib.hid hf
    clear hf
    go_wp2_with fail
    go_ret
    rw [HE.out]; exact RDoes.of (HX.out.grow HF1.out) (fr_none HF1.out)
   | some f =>
    rw [there_some hd hg] at HT
    have hne : ¬ D.dead = true := by rw [hd]; simp
    obtain ⟨c, D2, hTD, hc, hfl⟩ := turn_two D
    have hi2 : InvD (deleteD D n).2 := h.inv.delete n
    have HX := Lib.hid h
    have HG := Lib.hid (And.intro hg hfl)
    rcases hc with rfl | rfl
    · have HE := Lib.hid (show deleteD D n = (0, setF D2 (delF D.files n)) by unfold deleteD; rw [if_neg hne, hg]; exact thenD_yes hTD _)
      rw [HE.out] at hi2
      have HI := Lib.hid (show InvD (setF D2 (delF D.files n)) from hi2)
      have HTD := Lib.hid hTD
      clear hd hg h hne hTD hfl hi2
      go_enter Tryd.func35, Tryd.ntmps35
      go_wp2_with fail
      refine Calls.mono HT.out ?_
      rintro e w1 ⟨rfl, hf⟩
      have HF1 := Lib.hid hf
      clear hf
      go_wp2_with fail
      have hTU := rturn_h (HX.out.grow HF1.out)
      rw [HTD.out] at hTU
      refine Calls.mono hTU ?_
      clear hTU
      rintro e w2 ⟨rfl, hD2, hf2⟩
      have HF2 := Lib.hid (fr_turn HF1.out hf2)
      have HD2 := Lib.hid hD2
      clear hD2 hf2 HF1
      have hgx : D2.files[posF D.files n]? = some f := by rw [HG.out.2]; exact get_at HX.out.inv.sorted HG.out.1
      have hlt := (List.getElem?_eq_some_iff.1 hgx).1
      have HW := Lib.hid (rwithout_h HD2.out hlt)
      have HP := Lib.hid (show D2.files.eraseIdx (posF D.files n) = delF D.files n by rw [HG.out.2]; exact (del_pos HX.out.inv.sorted HG.out.1).symm)
      clear hgx hlt
      generalize posF D.files n = k at *
      go_wp2_with fail
      refine Calls.mono HW.out ?_
      rintro e w3 ⟨v, rfl, hrow, hf3⟩
      rw [HP.out] at hrow
      obtain ⟨vb, vc, rfl⟩ := ownsRow_shape hrow
      have HR := Lib.hid hrow
      have HD3 := Lib.hid (HD2.out.grow hf3)
      have HF3 := Lib.hid (HF2.out.next (fr_none hf3))
      have hlt := HD2.out.lt (.inl rfl)
      have hsz := HF2.out.size
      have f0 := free_of 0 HD3.out.head
      have c0 := HD3.out.cells.1
      clear hrow hf3 HW
      go_wp2_with fail
      go_ret
      rw [HE.out]
      exact ⟨_, rfl, ref_row HD3.out HR.out hlt HI.out, HF3.out.setCell (.inl (.inl rfl)) _, fun k hk => .inr (by have := (HR.out.lt k hk).1; omega)⟩
    · have HE := Lib.hid (show deleteD D n = (7, D2) by unfold deleteD; rw [if_neg hne, hg]; exact thenD_no hTD _)
      have HTD := Lib.hid hTD
      clear hd hg h hne hTD hfl hi2
      go_enter Tryd.func35, Tryd.ntmps35
      go_wp2_with fail
      refine Calls.mono HT.out ?_
      rintro e w1 ⟨rfl, hf⟩
      have HF1 := Lib.hid hf
      clear hf
      go_wp2_with fail
      have hTU := rturn_h (HX.out.grow HF1.out)
      rw [HTD.out] at hTU
      refine Calls.mono hTU ?_
      clear hTU
      rintro e w2 ⟨rfl, hD2, hf2⟩
      have HF2 := Lib.hid (fr_turn HF1.out hf2)
      have HD2 := Lib.hid hD2
      clear hD2 hf2 HF1
      go_wp2_with fail
      go_ret
      rw [HE.out]; exact RDoes.of HD2.out HF2.out

set_option maxRecDepth 100000 in
set_option maxHeartbeats 4000000 in
theorem rtrunc_h (h : RefAt w rb lv D) (n : List UInt8) (z : Int) : Calls Tryd.prog 33 #[.pointer (some ⟨rb, 0, none⟩), .string (bs n), .int .i64 z] w (RDoes rb lv (truncD D n z) w) := by
  have HT := Lib.hid (there_h h n)
  cases hd : D.dead with
  | true =>
    rw [there_dead hd] at HT
    have HE := Lib.hid (show truncD D n z = (7, D) by unfold truncD; rw [if_pos hd])
    have HX := Lib.hid h
    clear hd h
    go_enter Tryd.func33, Tryd.ntmps33
    go_wp2_with fail
    refine Calls.mono HT.out ?_
    rintro e w1 ⟨rfl, hf⟩
    have HF1 := Lib.hid hf
    clear hf
    go_wp2_with fail
    go_ret
    rw [HE.out]; exact RDoes.of (HX.out.grow HF1.out) (fr_none HF1.out)
  | false =>
   cases hg : getF D.files n with
   | none =>
    rw [there_none hd hg] at HT
    have HE := Lib.hid (show truncD D n z = (4, D) by unfold truncD; rw [if_neg (by rw [hd]; simp), hg])
    have HX := Lib.hid h
    clear hd hg h
    go_enter Tryd.func33, Tryd.ntmps33
    go_wp2_with fail
    refine Calls.mono HT.out ?_
    rintro e w1 ⟨rfl, hf⟩
    have HF1 := Lib.hid hf
    clear hf
    go_wp2_with fail
    go_ret
    rw [HE.out]; exact RDoes.of (HX.out.grow HF1.out) (fr_none HF1.out)
   | some f =>
    rw [there_some hd hg] at HT
    have hne : ¬ D.dead = true := by rw [hd]; simp
    by_cases hz : z < 0
    · have d1 : decide (z < 0) = true := by simpa using hz
      have HE := Lib.hid (show truncD D n z = (2, D) by unfold truncD; rw [if_neg hne, hg]; dsimp only; rw [if_pos (.inl hz)])
      have HX := Lib.hid h
      clear hd hg h hne hz
      go_enter Tryd.func33, Tryd.ntmps33
      go_wp2_with fail
      refine Calls.mono HT.out ?_
      rintro e w1 ⟨rfl, hf⟩
      have HF1 := Lib.hid hf
      clear hf
      go_wp2_with fail
      go_ret
      rw [HE.out]; exact RDoes.of (HX.out.grow HF1.out) (fr_none HF1.out)
    have d1 : decide (z < 0) = false := by simpa using hz
    by_cases hz2 : (f.bytes.length : Int) < z
    · have d2 : decide ((f.bytes.length : Int) < z) = true := by simpa using hz2
      have HE := Lib.hid (show truncD D n z = (2, D) by unfold truncD; rw [if_neg hne, hg]; dsimp only; rw [if_pos (.inr hz2)])
      have HX := Lib.hid h
      have HG := Lib.hid hg
      clear hd hg h hne hz hz2
      go_enter Tryd.func33, Tryd.ntmps33
      go_wp2_with fail
      refine Calls.mono HT.out ?_
      rintro e w1 ⟨rfl, hf⟩
      have HF1 := Lib.hid hf
      have hX1 := HX.out.grow hf
      have hgx := get_at HX.out.inv.sorted HG.out
      obtain ⟨c0, _, _, _⟩ := hX1.cells
      obtain ⟨a, cap, rfl, hn1, hn2, hrow⟩ := hX1.slice
      obtain ⟨g, rfl, hgr, q0, q1, q2, q3, q4⟩ := hrow _ f hgx
      have hlt := (List.getElem?_eq_some_iff.1 hgx).1
      have hl40 := hX1.inv.many
      have hbz : (bs f.bytes).size = f.bytes.length := rfl
      clear hf hX1 hgx hrow hgr q0 q2 q3 q4
      generalize posF D.files n = k at *
      go_wp2_with fail
      go_ret
      rw [HE.out]; exact RDoes.of (HX.out.grow HF1.out) (fr_none HF1.out)
    have d2 : decide ((f.bytes.length : Int) < z) = false := by simpa using hz2
    obtain ⟨q, rfl⟩ : ∃ q : Nat, z = q := ⟨z.toNat, by omega⟩
    have hqb : q ≤ f.bytes.length := by omega
    have hz3 : ¬ ((q : Int) < 0 ∨ (f.bytes.length : Int) < q) := by omega
    have HQ := Lib.hid hqb
    clear hz hz2
    obtain ⟨c, D2, hTD, hc, hfl⟩ := turn_two D
    have hi2 : InvD (truncD D n (q : Int)).2 := h.inv.trunc n _
    have HX := Lib.hid h
    have HG := Lib.hid (And.intro hg hfl)
    rcases hc with rfl | rfl
    · have HE := Lib.hid (show truncD D n (q : Int) = (0, setF D2 (putF D.files ⟨n, f.bytes.take q, min f.synced q⟩)) by unfold truncD; rw [if_neg hne, hg]; dsimp only; rw [if_neg hz3]; exact thenD_yes hTD _)
      rw [HE.out] at hi2
      have HI := Lib.hid (show InvD (setF D2 (putF D.files ⟨n, f.bytes.take q, min f.synced q⟩)) from hi2)
      have HTD := Lib.hid hTD
      clear hd hg h hne hTD hfl hi2
      go_enter Tryd.func33, Tryd.ntmps33
      go_wp2_with fail
      refine Calls.mono HT.out ?_
      rintro e w1 ⟨rfl, hf⟩
      have HF1 := Lib.hid hf
      clear hf
      have hX1 := HX.out.grow HF1.out
      have hgx := get_at HX.out.inv.sorted HG.out.1
      have c01 := hX1.cells.1
      obtain ⟨a1, cap1, rfl, hn11, hn21, hrow1⟩ := hX1.slice
      obtain ⟨g1, rfl, _, _, q11, _, _, _⟩ := hrow1 _ f hgx
      have hlt1 := (List.getElem?_eq_some_iff.1 hgx).1
      have hl401 := hX1.inv.many
      have hbz : (bs f.bytes).size = f.bytes.length := rfl
      clear hX1 hgx hrow1
      go_wp2_with fail
      have hTU := rturn_h (HX.out.grow HF1.out)
      rw [HTD.out] at hTU
      refine Calls.mono hTU ?_
      clear hTU
      rintro e w2 ⟨rfl, hD2, hf2⟩
      have HF2 := Lib.hid (fr_turn HF1.out hf2)
      have HD2 := Lib.hid hD2
      clear hD2 hf2 HF1
      clear c01 hn11 hn21 q11 hlt1 hl401 hbz
      have hgx : D2.files[posF D.files n]? = some f := by rw [HG.out.2]; exact get_at HX.out.inv.sorted HG.out.1
      have c0 := HD2.out.cells.1
      obtain ⟨a, cap, ea, hn1, hn2, hrow⟩ := HD2.out.slice
      injection ea with ea1 ea2 ea3
      obtain ⟨g, eg, hgr, q0, q1, q2, q3, q4⟩ := hrow _ f hgx
      obtain rfl : g1 = g := by rw [← ea1] at eg; injection eg with eg; injection eg
      have hlt := (List.getElem?_eq_some_iff.1 hgx).1
      have hl40 := HD2.out.inv.many
      have hbz : (bs f.bytes).size = f.bytes.length := rfl
      have hD2n : D2.files.length = D.files.length := by rw [HG.out.2]
      have HK := Lib.hid (And.intro hgx (And.intro hgr hD2n))
      have hqb := HQ.out
      have hx : (bs f.bytes).extract 0 q = bs (f.bytes.take q) := bs_take _ _
      rw [hD2n] at hlt
      clear hgx hrow hgr ea1 ea2 ea3 eg hn1 hn2 q0 hD2n
      have HP := Lib.hid (put_old (f := ⟨n, f.bytes.take q, min f.synced q⟩) HX.out.inv.sorted HG.out.1)
      generalize hk : posF D.files n = k at *
      have HKK := Lib.hid hk
      clear hk
      go_wp2_with fail
      go_still_tail 17, (by kernel_rfl)
      go_wp2_with fail
      have hF3 : Fr (OwnR rb (.slice (some ⟨g1, 0, none⟩) D.files.length cap1)) w (w2.setCell ⟨g1, k * 3 + 1, none⟩ (.string (bs (f.bytes.take q)))).drew := (Fr.setCell (p := ⟨g1, k * 3 + 1, none⟩) HF2.out (.inl (.inr rfl)) _).drew
      have hb3 : (w2.setCell ⟨g1, k * 3 + 1, none⟩ (.string (bs (f.bytes.take q)))).drew.heap[rb]? = some (.cells #[.slice (some ⟨g1, 0, none⟩) D.files.length cap1, .int .i64 D2.most, .int .i64 D2.fuse, .bool D2.dead] 42 (0, 0)) := (block_set_ne HK.out.2.1.symm).trans HD2.out.head
      have hr3 : (w2.setCell ⟨g1, k * 3 + 1, none⟩ (.string (bs (f.bytes.take q)))).drew.ownsRow 0 48 3 (.slice (some ⟨g1, 0, none⟩) D.files.length cap1) D.files.length ((fcells D.files).set (k * 3 + 1) (.string (bs (f.bytes.take q)))) := by
        have := HD2.out.row
        rw [HG.out.2] at this
        exact ownsRow_setN this _ _
      rw [fcells_set1 _ (by rw [← HG.out.2]; exact HK.out.1)] at hr3
      have hat3 : (D.files.set k ⟨f.name, f.bytes.take q, f.synced⟩)[k]? = some ⟨f.name, f.bytes.take q, f.synced⟩ := List.getElem?_set_self hlt
      have hc3 := hr3.cells (g := g1) rfl _ _ (fcells_at hat3).2.2
      rw [Addr.add_lit, Nat.zero_add] at hc3
      have hq4 := ownsRow_free hr3 (k * 3 + 2)
      have hc0 := cell_of hb3 (i := 0) (v := _) rfl
      have H3 := Lib.hid (And.intro hF3 (And.intro hb3 (And.intro hr3 hat3)))
      clear hF3 hb3 hr3 hat3 c0 q1 q2 q3 q4
      generalize (w2.setCell ⟨g1, k * 3 + 1, none⟩ (.string (bs (f.bytes.take q)))).drew = W3 at *
      rcases Nat.lt_or_ge q f.synced with hm3 | hm3
      · have hmin : min f.synced q = q := by omega
        rw [hmin] at HP HI HE
        have hm4 : (q : Int) < (f.synced : Int) := by omega
        clear hm3 hmin
        go_wp2_with fail
        go_still_tail 17, (by kernel_rfl)
        go_wp2_with fail
        go_ret
        rw [HE.out]
        refine ⟨_, rfl, ⟨(block_set_ne HK.out.2.1.symm).trans H3.out.2.1, ?_, HI.out⟩, Fr.setCell (p := ⟨g1, k * 3 + 2, none⟩) (H3.out.1.drewN 1) (.inl (.inr rfl)) _, fun _ hk => .inl hk⟩
        have hrr := ownsRow_setN (w := W3) (H3.out.2.2.1) (k * 3 + 2) (.int .i64 (q : Nat))
        rw [fcells_set2 _ H3.out.2.2.2, List.set_set, (get_mem HG.out.1).2] at hrr
        show World.ownsRow _ 0 48 3 _ (putF D.files ⟨n, f.bytes.take q, q⟩).length (fcells (putF D.files ⟨n, f.bytes.take q, q⟩))
        have hmI : min (f.synced : Int) (q : Int) = ((q : Nat) : Int) := by omega
        rw [HP.out, List.length_set, hmI]
        exact hrr
      · have hmin : min f.synced q = f.synced := by omega
        rw [hmin] at HP HI HE
        have hm4 : (f.synced : Int) ≤ (q : Int) := by omega
        clear hm3 hmin
        go_wp2_with fail
        go_still_tail 17, (by kernel_rfl)
        go_wp2_with fail
        go_ret
        rw [HE.out]
        refine ⟨_, rfl, ⟨(block_set_ne HK.out.2.1.symm).trans H3.out.2.1, ?_, HI.out⟩, Fr.setCell (p := ⟨g1, k * 3 + 2, none⟩) (H3.out.1.drewN 1) (.inl (.inr rfl)) _, fun _ hk => .inl hk⟩
        have hrr := ownsRow_setN (w := W3) (H3.out.2.2.1) (k * 3 + 2) (.int .i64 (f.synced : Nat))
        rw [fcells_set2 _ H3.out.2.2.2, List.set_set, (get_mem HG.out.1).2] at hrr
        show World.ownsRow _ 0 48 3 _ (putF D.files ⟨n, f.bytes.take q, f.synced⟩).length (fcells (putF D.files ⟨n, f.bytes.take q, f.synced⟩))
        have hmI : min (f.synced : Int) (q : Int) = ((f.synced : Nat) : Int) := by omega
        rw [HP.out, List.length_set, hmI]
        exact hrr
    · have HE := Lib.hid (show truncD D n (q : Int) = (7, D2) by unfold truncD; rw [if_neg hne, hg]; dsimp only; rw [if_neg hz3]; exact thenD_no hTD _)
      have HTD := Lib.hid hTD
      clear hd hg h hne hTD hfl hi2
      go_enter Tryd.func33, Tryd.ntmps33
      go_wp2_with fail
      refine Calls.mono HT.out ?_
      rintro e w1 ⟨rfl, hf⟩
      have HF1 := Lib.hid hf
      clear hf
      have hX1 := HX.out.grow HF1.out
      have hgx := get_at HX.out.inv.sorted HG.out.1
      have c01 := hX1.cells.1
      obtain ⟨a1, cap1, rfl, hn11, hn21, hrow1⟩ := hX1.slice
      obtain ⟨g1, rfl, _, _, q11, _, _, _⟩ := hrow1 _ f hgx
      have hlt1 := (List.getElem?_eq_some_iff.1 hgx).1
      have hl401 := hX1.inv.many
      have hbz : (bs f.bytes).size = f.bytes.length := rfl
      clear hX1 hgx hrow1
      go_wp2_with fail
      have hTU := rturn_h (HX.out.grow HF1.out)
      rw [HTD.out] at hTU
      refine Calls.mono hTU ?_
      clear hTU
      rintro e w2 ⟨rfl, hD2, hf2⟩
      have HF2 := Lib.hid (fr_turn HF1.out hf2)
      have HD2 := Lib.hid hD2
      clear hD2 hf2 HF1
      go_wp2_with fail
      go_ret
      rw [HE.out]; exact RDoes.of HD2.out HF2.out
end
end Go.Proofs.YtfcnjbkoneinpaaDoor

