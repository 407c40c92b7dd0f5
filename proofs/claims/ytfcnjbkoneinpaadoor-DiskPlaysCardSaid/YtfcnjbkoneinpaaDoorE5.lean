/- The reference's Rename and Append. -/
import Derived.Test.YtfcnjbkoneinpaaDoorE4
namespace Go.Proofs.YtfcnjbkoneinpaaDoor
open Go.RowKit Go.Lib

/-- a reference's disk on its way: what was there, and what it owned -/
structure RefSt (w0 w : World) (rb : Nat) (lv0 lv : Value) (D : DiskD) : Prop where
  ref : RefAt w rb lv D
  fr : Fr (OwnR rb lv0) w0 w
  own : ∀ k, lv.ownBlock = some k → lv0.ownBlock = some k ∨ w0.heap.size ≤ k
section
variable {w w' w0 w1 : World} {rb : Nat} {lv lv0 v : Value} {D D2 : DiskD} {n to : List UInt8} {f g : FileD} {l : List FileD} {base : Nat}
theorem RefSt.grow (h : RefSt w0 w rb lv0 lv D) (hf : Fr (fun _ => False) w w') : RefSt w0 w' rb lv0 lv D := ⟨h.ref.grow hf, h.fr.next (fr_none hf), h.own⟩
theorem RefSt.row (h : RefSt w0 w rb lv0 lv D) (hrow : w'.ownsRow w.heap.size 48 3 v l.length (fcells l)) (hf : Fr (fun _ => False) w w') (hi : InvD (setF D l)) : RefSt w0 (w'.setCell ⟨rb, 0, none⟩ v) rb lv0 v (setF D l) :=
  ⟨ref_row (h.ref.grow hf) hrow (h.ref.lt (.inl rfl)) hi, (h.fr.next (fr_none hf)).setCell (.inl (.inl rfl)) _, fun k hk => .inr (Nat.le_trans h.fr.size (hrow.lt k hk).1)⟩
theorem RefSt.does (h : RefSt w0 w rb lv0 lv D) {c : Int} : RDoes rb lv0 (c, D) w0 (.returned (.int .i64 c)) w := ⟨lv, rfl, h.ref, h.fr, h.own⟩
theorem box_keep {b : Nat} {x : Obj} (h : w.heap[b]? = some x) (hf : Fr (fun _ => False) w w') (hb : b ≠ rb) : (w'.setCell ⟨rb, 0, none⟩ v).heap[b]? = some x := (block_set_ne hb).trans (hf.keep h fun h => h)

set_option maxRecDepth 100000 in
set_option maxHeartbeats 4000000 in
theorem rrename_h (h : RefAt w rb lv D) (n to : List UInt8) (hto : to.length ≤ 1000000) : Calls Tryd.prog 34 #[.pointer (some ⟨rb, 0, none⟩), .string (bs n), .string (bs to)] w (RDoes rb lv (renameD D n to) w) := by
  have HT := Lib.hid (there_h h n)
  cases hd : D.dead with
  | true =>
    rw [there_dead hd] at HT
    have HE := Lib.hid (show renameD D n to = (7, D) by unfold renameD; rw [if_pos hd])
    have HX := Lib.hid h
    clear hd h
    go_enter Tryd.func34, Tryd.ntmps34
    go_wp2_with fail
    refine Calls.mono HT.out ?_
    rintro e w1 ⟨rfl, hf⟩
    have HF1 := Lib.hid hf
    clear hf
    go_wp2_with fail
    go_ret
    rw [HE.out]; exact RDoes.of (HX.out.grow HF1.out) (fr_none HF1.out)
  | false =>
   cases hg : getF D.files n with
   | none =>
    rw [there_none hd hg] at HT
    have HE := Lib.hid (show renameD D n to = (4, D) by unfold renameD; rw [if_neg (by rw [hd]; simp), hg])
    have HX := Lib.hid h
    clear hd hg h
    go_enter Tryd.func34, Tryd.ntmps34
    go_wp2_with fail
    refine Calls.mono HT.out ?_
    rintro e w1 ⟨rfl, hf⟩
    have HF1 := Lib.hid hf
    clear hf
    go_wp2_with fail
    go_ret
    rw [HE.out]; exact RDoes.of (HX.out.grow HF1.out) (fr_none HF1.out)
   | some f =>
    rw [there_some hd hg] at HT
    have hne : ¬ D.dead = true := by rw [hd]; simp
    have HNM := Lib.hid (fun w1 : World => rname_h (w := w1) hto)
    cases hok : nameOK to with
    | false =>
      rw [hok] at HNM
      have HE := Lib.hid (show renameD D n to = (3, D) by unfold renameD; rw [if_neg hne, hg]; dsimp only; rw [if_pos hok])
      have HX := Lib.hid h
      clear hd hg h hne hok
      go_enter Tryd.func34, Tryd.ntmps34
      go_wp2_with fail
      refine Calls.mono HT.out ?_
      rintro e w1 ⟨rfl, hf⟩
      have HF1 := Lib.hid hf
      clear hf
      go_wp2_with fail
      refine Calls.mono (HNM.out w1) ?_
      rintro e w2 ⟨rfl, hf⟩
      have HF2 := Lib.hid (HF1.out.next hf)
      clear hf
      go_wp2_with fail
      go_ret
      rw [HE.out]; exact RDoes.of (HX.out.grow HF2.out) (fr_none HF2.out)
    | true =>
    rw [hok] at HNM
    have hok2 : ¬ nameOK to = false := by rw [hok]; simp
    obtain ⟨c, D2, hTD, hc, hfl⟩ := turn_two D
    have hi2 : InvD (renameD D n to).2 := h.inv.rename n to
    have HX := Lib.hid h
    have HG := Lib.hid (And.intro hg hfl)
    rcases hc with rfl | rfl
    · have HE := Lib.hid (show renameD D n to = (0, setF D2 (putF (delF D.files n) ⟨to, f.bytes, f.synced⟩)) by unfold renameD; rw [if_neg hne, hg]; dsimp only; rw [if_neg hok2]; exact thenD_yes hTD _)
      rw [HE.out] at hi2
      have HI := Lib.hid (show InvD (setF D2 (putF (delF D.files n) ⟨to, f.bytes, f.synced⟩)) from hi2)
      have HTD := Lib.hid hTD
      clear hd hg h hne hTD hfl hi2
      go_enter Tryd.func34, Tryd.ntmps34
      go_wp2_with fail
      refine Calls.mono HT.out ?_
      rintro e w1 ⟨rfl, hf⟩
      have HF1 := Lib.hid hf
      clear hf
      go_wp2_with fail
      refine Calls.mono (HNM.out w1) ?_
      rintro e w1 ⟨rfl, hf⟩
      have HF1x := Lib.hid (HF1.out.next hf)
      clear hf HF1
      have HF1 := HF1x
      clear HF1x
      go_wp2_with fail
      have hTU := rturn_h (HX.out.grow HF1.out)
      rw [HTD.out] at hTU
      refine Calls.mono hTU ?_
      clear hTU
      rintro e w2 ⟨rfl, hD2, hf2⟩
      have HF2 := Lib.hid (fr_turn HF1.out hf2)
      have HD2 := Lib.hid hD2
      clear hD2 hf2 HF1
      have hgx : D2.files[posF D.files n]? = some f := by rw [HG.out.2]; exact get_at HX.out.inv.sorted HG.out.1
      have hlt := (List.getElem?_eq_some_iff.1 hgx).1
      have HP := Lib.hid (show D2.files.eraseIdx (posF D.files n) = delF D2.files n by rw [HG.out.2]; exact (del_pos HX.out.inv.sorted HG.out.1).symm)
      have HK := Lib.hid hgx
      have c0 := HD2.out.cells.1
      obtain ⟨a, cap, rfl, hn1, hn2, hrow⟩ := HD2.out.slice
      obtain ⟨g, rfl, hgr, q0, q1, q2, q3, q4⟩ := hrow _ f hgx
      have hl40 := HD2.out.inv.many
      have HS2 := Lib.hid (show RefSt w w2 rb _ _ D2 from ⟨HD2.out, HF2.out, fun _ hk => .inl hk⟩)
      clear hgx hrow hgr q3 q4 HD2 HF2
      generalize posF D.files n = k at *
      go_wp2_with fail
      have hF0 : Fr (fun _ => False) w2 (w2.alloc (.cells #[.string (bs to), .string (bs f.bytes), .int .i64 f.synced] 48)) := (Fr.refl _ _).alloc _
      have hb0 : (w2.alloc (.cells #[.string (bs to), .string (bs f.bytes), .int .i64 f.synced] 48)).heap[w2.heap.size]? = some (.cells #[.string (bs to), .string (bs f.bytes), .int .i64 f.synced] 48) := block_new _ _
      have HS0 := Lib.hid (HS2.out.grow hF0)
      have HB := Lib.hid (show w2.heap.size ≠ rb from fun e => by have := HS2.out.ref.lt (.inl rfl); omega)
      clear hF0 HS2 c0 q0 q1 q2
      generalize w2.alloc (.cells #[.string (bs to), .string (bs f.bytes), .int .i64 f.synced] 48) = W0 at *
      have HB0 := Lib.hid hb0
      clear hb0
      refine Calls.mono (rwithout_h HS0.out.ref hlt) ?_
      rintro e w3 ⟨v1, rfl, hrow1, hf3⟩
      rw [HP.out] at hrow1
      obtain ⟨vb1, vc1, rfl⟩ := ownsRow_shape hrow1
      have hh3 := (HS0.out.ref.grow hf3).head
      have f0 := free_of 0 hh3
      have c0 := cell_of hh3 (i := 0) (v := _) rfl
      have HS3 := Lib.hid (HS0.out.row hrow1 hf3 (HS0.out.ref.inv.del n))
      have HB3 := Lib.hid (box_keep (rb := rb) (v := .slice vb1 (delF D2.files n).length vc1) HB0.out hf3 HB.out)
      clear hrow1 hf3 hh3 HS0 HB0 HP
      go_wp2_with fail
      clear f0 c0
      generalize w3.setCell ⟨rb, 0, none⟩ (.slice vb1 (delF D2.files n).length vc1) = W4 at *
      have hfi := rfind_h HS3.out.ref to
      unfold FindPost at hfi
      have HFI := Lib.hid hfi
      clear hfi
      cases hgt : getF (delF D2.files n) to with
      | none =>
        rw [show getF (setF D2 (delF D2.files n)).files to = none from hgt] at HFI
        refine Calls.mono HFI.out ?_
        rintro e w5 ⟨rfl, hf5⟩
        have HS5 := Lib.hid (HS3.out.grow hf5)
        have hb5 := hf5.keep HB3.out fun h => h
        have k0 := cell_of hb5 (i := 0) (v := .string (bs to)) rfl
        have k1 := cell_of hb5 (i := 1) (v := .string (bs f.bytes)) rfl
        have k2 := cell_of hb5 (i := 2) (v := .int .i64 f.synced) rfl
        have HGT := Lib.hid hgt
        clear hgt hf5 hb5 HS3 HB3 HFI
        go_wp2_with fail
        refine Calls.mono (rwith_h HS5.out.ref ⟨to, f.bytes, f.synced⟩) ?_
        rintro e w6 ⟨v2, rfl, hrow2, hf6⟩
        rw [← put_new (f := ⟨to, f.bytes, f.synced⟩) (l := (setF D2 (delF D2.files n)).files) HS5.out.ref.inv.sorted HGT.out] at hrow2
        change w6.ownsRow _ 48 3 v2 (putF (delF D2.files n) ⟨to, f.bytes, f.synced⟩).length (fcells (putF (delF D2.files n) ⟨to, f.bytes, f.synced⟩)) at hrow2
        obtain ⟨vb2, vc2, rfl⟩ := ownsRow_shape hrow2
        have hh6 := (HS5.out.ref.grow hf6).head
        have f0 := free_of 0 hh6
        have c0 := cell_of hh6 (i := 0) (v := _) rfl
        have HS6 := Lib.hid (HS5.out.row hrow2 hf6 (by have := HI.out; rw [← HG.out.2] at this; exact this))
        clear hrow2 hf6 hh6 k0 k1 k2
        go_wp2_with fail
        go_ret
        rw [HE.out, ← HG.out.2]
        exact HS6.out.does
      | some g2 =>
        rw [show getF (setF D2 (delF D2.files n)).files to = some g2 from hgt] at HFI
        refine Calls.mono HFI.out ?_
        rintro e w5 ⟨rfl, hf5⟩
        have HS5 := Lib.hid (HS3.out.grow hf5)
        have HB5 := Lib.hid (hf5.keep HB3.out fun h => h)
        have hg2 := get_at HS5.out.ref.inv.sorted (n := to) (f := g2) hgt
        have hlt2 := (List.getElem?_eq_some_iff.1 hg2).1
        have HP2 := Lib.hid (show (setF D2 (delF D2.files n)).files.eraseIdx (posF (setF D2 (delF D2.files n)).files to) = delF (delF D2.files n) to from (del_pos HS5.out.ref.inv.sorted hgt).symm)
        clear hgt hf5 HS3 HB3 HFI hg2
        generalize hpz : posF (setF D2 (delF D2.files n)).files to = k2 at *
        clear hpz
        go_wp2_with fail
        refine Calls.mono (rwithout_h HS5.out.ref hlt2) ?_
        rintro e w6 ⟨v2, rfl, hrow2, hf6⟩
        rw [HP2.out] at hrow2
        obtain ⟨vb2, vc2, rfl⟩ := ownsRow_shape hrow2
        have hh6 := (HS5.out.ref.grow hf6).head
        have f0 := free_of 0 hh6
        have c0 := cell_of hh6 (i := 0) (v := _) rfl
        have HS6 := Lib.hid (HS5.out.row hrow2 hf6 (HS5.out.ref.inv.del to))
        have hb6 := box_keep (rb := rb) (v := .slice vb2 (delF (delF D2.files n) to).length vc2) HB5.out hf6 HB.out
        clear hrow2 hf6 hh6 HS5 HB5
        have k0 := cell_of hb6 (i := 0) (v := .string (bs to)) rfl
        have k1 := cell_of hb6 (i := 1) (v := .string (bs f.bytes)) rfl
        have k2' := cell_of hb6 (i := 2) (v := .int .i64 f.synced) rfl
        clear hb6
        go_wp2_with fail
        clear f0 c0
        generalize w6.setCell ⟨rb, 0, none⟩ (.slice vb2 (delF (delF D2.files n) to).length vc2) = W7 at *
        refine Calls.mono (rwith_h HS6.out.ref ⟨to, f.bytes, f.synced⟩) ?_
        rintro e w8 ⟨v3, rfl, hrow3, hf8⟩
        have hnone : getF (delF (delF D2.files n) to) to = none := by rw [get_del, if_pos rfl]
        rw [← put_new (f := ⟨to, f.bytes, f.synced⟩) HS6.out.ref.inv.sorted hnone] at hrow3
        change w8.ownsRow _ 48 3 v3 (putF (delF (delF D2.files n) to) ⟨to, f.bytes, f.synced⟩).length (fcells (putF (delF (delF D2.files n) to) ⟨to, f.bytes, f.synced⟩)) at hrow3
        rw [show putF (delF (delF D2.files n) to) ⟨to, f.bytes, f.synced⟩ = putF (delF D2.files n) ⟨to, f.bytes, f.synced⟩ from put_del (f := ⟨to, f.bytes, f.synced⟩) (del_sorted (by rw [HG.out.2]; exact HX.out.inv.sorted) n)] at hrow3
        obtain ⟨vb3, vc3, rfl⟩ := ownsRow_shape hrow3
        have hh8 := (HS6.out.ref.grow hf8).head
        have f0 := free_of 0 hh8
        have c0 := cell_of hh8 (i := 0) (v := _) rfl
        have HS8 := Lib.hid (HS6.out.row hrow3 hf8 (by have := HI.out; rw [← HG.out.2] at this; exact this))
        clear hrow3 hf8 hh8 k0 k1 k2'
        go_wp2_with fail
        go_ret
        rw [HE.out, ← HG.out.2]
        exact HS8.out.does
    · have HE := Lib.hid (show renameD D n to = (7, D2) by unfold renameD; rw [if_neg hne, hg]; dsimp only; rw [if_neg hok2]; exact thenD_no hTD _)
      have HTD := Lib.hid hTD
      clear hd hg h hne hTD hfl hi2
      go_enter Tryd.func34, Tryd.ntmps34
      go_wp2_with fail
      refine Calls.mono HT.out ?_
      rintro e w1 ⟨rfl, hf⟩
      have HF1 := Lib.hid hf
      clear hf
      go_wp2_with fail
      refine Calls.mono (HNM.out w1) ?_
      rintro e w1 ⟨rfl, hf⟩
      have HF1x := Lib.hid (HF1.out.next hf)
      clear hf HF1
      have HF1 := HF1x
      clear HF1x
      go_wp2_with fail
      have hTU := rturn_h (HX.out.grow HF1.out)
      rw [HTD.out] at hTU
      refine Calls.mono hTU ?_
      clear hTU
      rintro e w2 ⟨rfl, hD2, hf2⟩
      have HF2 := Lib.hid (fr_turn HF1.out hf2)
      have HD2 := Lib.hid hD2
      clear hD2 hf2 HF1
      go_wp2_with fail
      go_ret
      rw [HE.out]; exact RDoes.of HD2.out HF2.out
end
end Go.Proofs.YtfcnjbkoneinpaaDoor

