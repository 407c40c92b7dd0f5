/- The reference's Append. -/
import Derived.Test.YtfcnjbkoneinpaaDoorE5
import Derived.Deep.QuietTactic
import Derived.BigQuiet
namespace Go.Proofs.YtfcnjbkoneinpaaDoor
open Go.RowKit Go.Lib

section
variable {w w' w0 w1 : World} {rb : Nat} {lv lv0 v : Value} {D D2 : DiskD} {n : List UInt8} {f g : FileD} {l : List FileD}
theorem new_at (hs : Sorted l) (h : getF l f.name = none) : (putF l f)[posF l f.name]? = some f ∧ ∀ g : FileD, g.name = f.name → (putF l f).set (posF l f.name) g = putF l g := by
  have hp := pos_le l f.name
  have hl : (l.take (posF l f.name)).length = posF l f.name := by rw [List.length_take]; omega
  refine ⟨?_, fun g hg => ?_⟩
  · rw [put_new hs h, List.getElem?_append_right (by omega), hl, Nat.sub_self]; rfl
  · rw [put_new hs h, put_new (f := g) hs (by rw [hg]; exact h), List.set_append_right _ _ (by omega), hl, Nat.sub_self, hg]; rfl
theorem append_yes (hd : D.dead = false) (hok : nameOK n = true) (h1 : ¬ (getF D.files n = none ∧ D.files.length = 40)) {x : List UInt8} (h2 : ¬ D.most < (total D.files : Int) + x.length) (hT : turnD D = (0, D2)) : appendD D n x = (0, setF D2 (putF D.files (grown D.files n x))) := by
  unfold appendD; rw [if_neg (by rw [hd]; simp), if_neg (by rw [hok]; simp), if_neg h1, if_neg h2]; exact thenD_yes hT _
theorem append_dies (hd : D.dead = false) (hok : nameOK n = true) (h1 : ¬ (getF D.files n = none ∧ D.files.length = 40)) {x : List UInt8} (h2 : ¬ D.most < (total D.files : Int) + x.length) (hT : turnD D = (7, D2)) : appendD D n x = (7, D2) := by
  unfold appendD; rw [if_neg (by rw [hd]; simp), if_neg (by rw [hok]; simp), if_neg h1, if_neg h2]; exact thenD_no hT _

set_option maxRecDepth 100000 in
set_option maxHeartbeats 8000000 in
theorem rappend_h (h : RefAt w rb lv D) (n x : List UInt8) (hn : n.length ≤ 1000000) (hx : x.length ≤ 1000000) : Calls Tryd.prog 39 #[.pointer (some ⟨rb, 0, none⟩), .string (bs n), .string (bs x)] w (RDoes rb lv (appendD D n x) w) := by
  have c3 := h.cells.2.2.2
  have zx : (bs x).size = x.length := rfl
  cases hd : D.dead with
  | true =>
    have HE := Lib.hid (show appendD D n x = (7, D) by unfold appendD; rw [if_pos hd])
    rw [hd] at c3
    clear hd hn hx
    go_enter Tryd.func39, Tryd.ntmps39
    go_wp2_with fail
    go_ret
    rw [HE.out]; exact RDoes.of h (Fr.refl _ _)
  | false =>
  rw [hd] at c3
  have HX := Lib.hid (And.intro h hd)
  have HNM := Lib.hid (rname_h (w := w) hn)
  cases hok : nameOK n with
  | false =>
    have HE := Lib.hid (show appendD D n x = (3, D) by unfold appendD; rw [if_neg (by rw [hd]; simp), if_pos hok])
    rw [hok] at HNM
    clear hd hok h hn hx
    go_enter Tryd.func39, Tryd.ntmps39
    go_wp2_with fail
    refine Calls.mono HNM.out ?_
    rintro e w1 ⟨rfl, hf⟩
    have HF1 := Lib.hid hf
    clear hf
    go_wp2_with fail
    go_ret
    rw [HE.out]; exact RDoes.of (HX.out.1.grow HF1.out) (fr_none HF1.out)
  | true =>
  rw [hok] at HNM
  have hl40 := h.inv.many
  have hmost := h.inv.most
  have hfull := h.inv.full
  have HFI := Lib.hid (fun (w1 : World) (hf : Fr (fun _ => False) w w1) => rfind_h (h.grow hf) n)
  unfold FindPost at HFI
  cases hg : getF D.files n with
  | none =>
    rw [show (getF D.files n).isSome = false by rw [hg]; rfl] at HFI
    by_cases h40 : D.files.length = 40
    · have HE := Lib.hid (show appendD D n x = (11, D) by unfold appendD; rw [if_neg (by rw [hd]; simp), if_neg (by rw [hok]; simp), if_pos ⟨hg, h40⟩])
      have d1 : decide (40 ≤ (D.files.length : Int)) = true := by rw [decide_eq_true_iff]; omega
      have d1' : decide (40 ≤ D.files.length) = true := by rw [decide_eq_true_iff]; omega
      clear hd hok h hn hx hg h40 hmost hfull
      go_enter Tryd.func39, Tryd.ntmps39
      go_wp2_with fail
      refine Calls.mono HNM.out ?_
      rintro e w1 ⟨rfl, hf⟩
      have HF1 := Lib.hid hf
      clear hf
      go_wp2_with fail
      refine Calls.mono (HFI.out w1 HF1.out) ?_
      rintro e w2 ⟨rfl, hf⟩
      have HF2 := Lib.hid (HF1.out.next hf)
      have hX2 := HX.out.1.grow HF2.out
      obtain ⟨c0, _, _, _⟩ := hX2.cells
      obtain ⟨a, cap, rfl, hn1, hn2, hrow⟩ := hX2.slice
      clear hf hrow hX2
      go_wp2_with fail
      go_ret
      rw [HE.out]; exact RDoes.of (HX.out.1.grow HF2.out) (fr_none HF2.out)
    have d1 : decide (40 ≤ (D.files.length : Int)) = false := by rw [decide_eq_false_iff_not]; omega
    have d1' : decide (40 ≤ D.files.length) = false := by rw [decide_eq_false_iff_not]; omega
    by_cases hf2 : D.most < (total D.files : Int) + x.length
    · have HE := Lib.hid (show appendD D n x = (6, D) by unfold appendD; rw [if_neg (by rw [hd]; simp), if_neg (by rw [hok]; simp), if_neg (fun k => h40 k.2), if_pos hf2])
      have d2 : decide (D.most - (total D.files : Int) < (x.length : Int)) = true := by rw [decide_eq_true_iff]; omega
      have hw : IntKind.i64.wrap (D.most - (total D.files : Int)) = D.most - (total D.files : Int) := by rw [IntWalk.i64_in _ (by omega)]
      clear hd hok h hn hx hg h40 hmost hfull hf2
      go_enter Tryd.func39, Tryd.ntmps39
      go_wp2_with fail
      refine Calls.mono HNM.out ?_
      rintro e w1 ⟨rfl, hf⟩
      have HF1 := Lib.hid hf
      clear hf
      go_wp2_with fail
      refine Calls.mono (HFI.out w1 HF1.out) ?_
      rintro e w2 ⟨rfl, hf⟩
      have HF2 := Lib.hid (HF1.out.next hf)
      have hX2 := HX.out.1.grow HF2.out
      obtain ⟨c0, c1, _, _⟩ := hX2.cells
      have HQ := Lib.hid (fun m : Nat => show Calls Tryd.prog 20 #[.pointer (some ⟨rb, 0, none⟩)] (w2.drewN m) (fun e w' => e = .returned (.int .i64 (total D.files)) ∧ w' = w2.drewN m) from (rsize_h (hX2.grow ((Fr.refl _ _).drewN m))).mono fun _ _ k => ⟨k.1, k.2.symm⟩)
      obtain ⟨a, cap, rfl, hn1, hn2, hrow⟩ := hX2.slice
      clear hf hrow hX2
      go_wp2_with fail
      go_quiet ((go_at_call 20; exact Calls.quiet_of_same (HQ.out _)))
      go_wp2_with fail
      go_ret
      rw [HE.out]; exact RDoes.of (HX.out.1.grow (HF2.out.drewN _)) (fr_none (HF2.out.drewN _))
    have d2 : decide (D.most - (total D.files : Int) < (x.length : Int)) = false := by rw [decide_eq_false_iff_not]; omega
    have hw : IntKind.i64.wrap (D.most - (total D.files : Int)) = D.most - (total D.files : Int) := by rw [IntWalk.i64_in _ (by omega)]
    obtain ⟨c, D2, hTD, hc, hfl⟩ := turn_two D
    have HTD := Lib.hid hTD
    rcases hc with rfl | rfl
    · have hinvA : InvD (setF D2 (putF D.files ⟨n, [], 0⟩)) := by
        have := h.inv.append n []
        rw [append_yes hd hok (fun k => h40 k.2) (x := []) (by simp; omega) hTD, grown_none hg] at this
        exact this
      have hinvB : InvD (setF D2 (putF D.files ⟨n, x, 0⟩)) := by
        have := h.inv.append n x
        rw [append_yes hd hok (fun k => h40 k.2) hf2 hTD, grown_none hg] at this
        exact this
      have HE := Lib.hid (show appendD D n x = (0, setF D2 (putF D.files ⟨n, x, 0⟩)) by rw [append_yes hd hok (fun k => h40 k.2) hf2 hTD, grown_none hg])
      have HI := Lib.hid (And.intro hinvA hinvB)
      have HA := Lib.hid (new_at (f := ⟨n, [], 0⟩) h.inv.sorted hg)
      have HPN := Lib.hid (put_new (f := ⟨n, [], 0⟩) h.inv.sorted hg)
      have HLL := Lib.hid (show (putF D.files ⟨n, [], 0⟩).length = (putF D.files ⟨n, x, 0⟩).length by rw [len_put h.inv.sorted, len_put h.inv.sorted])
      have hpl := pos_le D.files n
      have HFL := Lib.hid hfl
      have zn : bs [] ++ bs x = bs x := bs_append _ _
      have z0 : (bs []).size = 0 := rfl
      clear hd hok h hn hg h40 hmost hfull hf2 hTD hinvA hinvB hfl
      generalize hk : posF D.files n = k at *
      have HK := Lib.hid hk
      clear hk
      go_enter Tryd.func39, Tryd.ntmps39
      go_wp2_with fail
      refine Calls.mono HNM.out ?_
      rintro e w1 ⟨rfl, hf⟩
      have HF1 := Lib.hid hf
      clear hf
      go_wp2_with fail
      refine Calls.mono (HFI.out w1 HF1.out) ?_
      rintro e w2 ⟨rfl, hf⟩
      have HF2 := Lib.hid (HF1.out.next hf)
      have hX2 := HX.out.1.grow HF2.out
      obtain ⟨c0, c1, _, _⟩ := hX2.cells
      have HQ := Lib.hid (fun m : Nat => show Calls Tryd.prog 20 #[.pointer (some ⟨rb, 0, none⟩)] (w2.drewN m) (fun e w' => e = .returned (.int .i64 (total D.files)) ∧ w' = w2.drewN m) from (rsize_h (hX2.grow ((Fr.refl _ _).drewN m))).mono fun _ _ k => ⟨k.1, k.2.symm⟩)
      obtain ⟨a, cap, rfl, hn1, hn2, hrow⟩ := hX2.slice
      clear hf hrow hX2
      go_wp2_with fail
      go_quiet ((go_at_call 20; exact Calls.quiet_of_same (HQ.out _)))
      clear c0 c1 HQ
      go_wp2_with fail
      have hTU := rturn_h (HX.out.1.grow (HF2.out.drewN nq))
      rw [HTD.out] at hTU
      refine Calls.mono hTU ?_
      clear hTU
      rintro e w3 ⟨rfl, hD3, hf3⟩
      have HS3 := Lib.hid (show RefSt w w3 rb _ _ D2 from ⟨hD3, fr_turn (HF2.out.drewN nq) hf3, fun _ hk => .inl hk⟩)
      clear hD3 hf3
      go_wp2_with fail
      have hwi := rwith_h HS3.out.ref ⟨n, [], 0⟩
      rw [HFL.out, show (FileD.mk n [] 0).name = n from rfl, HK.out] at hwi
      rw [← HPN.out] at hwi
      refine Calls.mono hwi ?_
      clear hwi
      rintro e w4 ⟨v4, rfl, hrow4, hf4⟩
      obtain ⟨vb4, vc4, rfl⟩ := ownsRow_shape hrow4
      have hh4 := (HS3.out.ref.grow hf4).head
      have f0 := free_of 0 hh4
      have c0 := cell_of hh4 (i := 0) (v := _) rfl
      have HS5 := Lib.hid (HS3.out.row hrow4 hf4 HI.out.1)
      clear hrow4 hf4 hh4 HS3
      go_wp2_with fail
      clear f0 c0
      generalize w4.setCell ⟨rb, 0, none⟩ (.slice vb4 (putF D.files ⟨n, [], 0⟩).length vc4) = W5 at *
      have c0 := HS5.out.ref.cells.1
      obtain ⟨a5, cap5, e5, hn5, hm5, hrow5⟩ := HS5.out.ref.slice
      injection e5 with e51 e52 e53
      subst e51
      subst e53
      clear e52
      have hat := HA.out.1
      obtain ⟨g5, rfl, hgr, q0, q1, q2, q3, q4⟩ := hrow5 k _ hat
      have hlt := (List.getElem?_eq_some_iff.1 hat).1
      have hl405 : (putF D.files ⟨n, [], 0⟩).length ≤ 40 := HS5.out.ref.inv.many
      have HGR := Lib.hid (And.intro hgr hat)
      change W5.cell? _ = some (.string (bs [])) at q1
      clear hrow5 hat q0 q2 q4 hgr hn5 hm5
      have hsm : ¬ 9223372036854775807 < x.length := by omega
      go_still_tail 17, (by kernel_rfl)
      go_wp2_with fail
      go_ret
      rw [HE.out]
      have hset : (fcells (putF D.files ⟨n, [], 0⟩)).set (k * 3 + 1) (.string (bs x)) = fcells (putF D.files ⟨n, x, 0⟩) := by
        rw [fcells_set1 x HGR.out.2]; exact congrArg fcells (HA.out.2 ⟨n, x, 0⟩ rfl)
      have hfin := ref_cell (D := setF D2 (putF D.files ⟨n, [], 0⟩)) (l := putF D.files ⟨n, x, 0⟩) HS5.out.ref HGR.out.1 HLL.out.symm hset HI.out.2
      exact ⟨_, rfl, hfin.grow ((Fr.refl _ _).drew), (HS5.out.fr.trans (Fr.setCell (p := ⟨g5, k * 3 + 1, none⟩) (o := fun i => i = g5) (Fr.refl _ _) (.inl rfl) _) (fun i hi => by rw [hi]; rcases HS5.out.own g5 rfl with h | h; exact .inl (.inr h); exact .inr h)).drew, HS5.out.own⟩
    · have HE := Lib.hid (show appendD D n x = (7, D2) from append_dies hd hok (fun k => h40 k.2) hf2 hTD)
      clear hd hok h hn hg h40 hmost hfull hf2 hTD hfl
      generalize hk : posF D.files n = k at *
      have HK := Lib.hid hk
      clear hk
      go_enter Tryd.func39, Tryd.ntmps39
      go_wp2_with fail
      refine Calls.mono HNM.out ?_
      rintro e w1 ⟨rfl, hf⟩
      have HF1 := Lib.hid hf
      clear hf
      go_wp2_with fail
      refine Calls.mono (HFI.out w1 HF1.out) ?_
      rintro e w2 ⟨rfl, hf⟩
      have HF2 := Lib.hid (HF1.out.next hf)
      have hX2 := HX.out.1.grow HF2.out
      obtain ⟨c0, c1, _, _⟩ := hX2.cells
      have HQ := Lib.hid (fun m : Nat => show Calls Tryd.prog 20 #[.pointer (some ⟨rb, 0, none⟩)] (w2.drewN m) (fun e w' => e = .returned (.int .i64 (total D.files)) ∧ w' = w2.drewN m) from (rsize_h (hX2.grow ((Fr.refl _ _).drewN m))).mono fun _ _ k => ⟨k.1, k.2.symm⟩)
      obtain ⟨a, cap, rfl, hn1, hn2, hrow⟩ := hX2.slice
      clear hf hrow hX2
      go_wp2_with fail
      go_quiet ((go_at_call 20; exact Calls.quiet_of_same (HQ.out _)))
      clear c0 c1 HQ
      go_wp2_with fail
      have hTU := rturn_h (HX.out.1.grow (HF2.out.drewN nq))
      rw [HTD.out] at hTU
      refine Calls.mono hTU ?_
      clear hTU
      rintro e w3 ⟨rfl, hD3, hf3⟩
      have HS3 := Lib.hid (show RefSt w w3 rb _ _ D2 from ⟨hD3, fr_turn (HF2.out.drewN nq) hf3, fun _ hk => .inl hk⟩)
      clear hD3 hf3
      go_wp2_with fail
      go_ret
      rw [HE.out]; exact HS3.out.does
  | some f =>
    rw [show (getF D.files n).isSome = true by rw [hg]; rfl] at HFI
    have h40 : ¬ (getF D.files n = none ∧ D.files.length = 40) := fun k => by rw [hg] at k; cases k.1
    by_cases hf2 : D.most < (total D.files : Int) + x.length
    · have HE := Lib.hid (show appendD D n x = (6, D) by unfold appendD; rw [if_neg (by rw [hd]; simp), if_neg (by rw [hok]; simp), if_neg h40, if_pos hf2])
      have d2 : decide (D.most - (total D.files : Int) < (x.length : Int)) = true := by rw [decide_eq_true_iff]; omega
      have hw : IntKind.i64.wrap (D.most - (total D.files : Int)) = D.most - (total D.files : Int) := by rw [IntWalk.i64_in _ (by omega)]
      clear hd hok h hn hx hg h40 hmost hfull hf2
      go_enter Tryd.func39, Tryd.ntmps39
      go_wp2_with fail
      refine Calls.mono HNM.out ?_
      rintro e w1 ⟨rfl, hf⟩
      have HF1 := Lib.hid hf
      clear hf
      go_wp2_with fail
      refine Calls.mono (HFI.out w1 HF1.out) ?_
      rintro e w2 ⟨rfl, hf⟩
      have HF2 := Lib.hid (HF1.out.next hf)
      have hX2 := HX.out.1.grow HF2.out
      obtain ⟨c0, c1, _, _⟩ := hX2.cells
      have HQ := Lib.hid (fun m : Nat => show Calls Tryd.prog 20 #[.pointer (some ⟨rb, 0, none⟩)] (w2.drewN m) (fun e w' => e = .returned (.int .i64 (total D.files)) ∧ w' = w2.drewN m) from (rsize_h (hX2.grow ((Fr.refl _ _).drewN m))).mono fun _ _ k => ⟨k.1, k.2.symm⟩)
      obtain ⟨a, cap, rfl, hn1, hn2, hrow⟩ := hX2.slice
      clear hf hrow hX2
      go_wp2_with fail
      go_quiet ((go_at_call 20; exact Calls.quiet_of_same (HQ.out _)))
      go_wp2_with fail
      go_ret
      rw [HE.out]; exact RDoes.of (HX.out.1.grow (HF2.out.drewN _)) (fr_none (HF2.out.drewN _))
    have d2 : decide (D.most - (total D.files : Int) < (x.length : Int)) = false := by rw [decide_eq_false_iff_not]; omega
    have hw : IntKind.i64.wrap (D.most - (total D.files : Int)) = D.most - (total D.files : Int) := by rw [IntWalk.i64_in _ (by omega)]
    obtain ⟨c, D2, hTD, hc, hfl⟩ := turn_two D
    have HTD := Lib.hid hTD
    rcases hc with rfl | rfl
    · have hinvB : InvD (setF D2 (putF D.files ⟨n, f.bytes ++ x, f.synced⟩)) := by
        have := h.inv.append n x
        rw [append_yes hd hok h40 hf2 hTD, grown_some hg] at this
        exact this
      have HE := Lib.hid (show appendD D n x = (0, setF D2 (putF D.files ⟨n, f.bytes ++ x, f.synced⟩)) by rw [append_yes hd hok h40 hf2 hTD, grown_some hg])
      have HI := Lib.hid hinvB
      have HAT := Lib.hid (get_at h.inv.sorted hg)
      have HP := Lib.hid (put_old (f := ⟨n, f.bytes ++ x, f.synced⟩) h.inv.sorted hg)
      have hfl2 := mem_total (get_mem hg).1
      have hpl := pos_le D.files n
      have HFL := Lib.hid hfl
      have HNF := Lib.hid (get_mem hg).2
      have zn : bs f.bytes ++ bs x = bs (f.bytes ++ x) := bs_append _ _
      have z0 : (bs f.bytes).size = f.bytes.length := rfl
      have hsm : ¬ 9223372036854775807 < f.bytes.length + x.length := by omega
      clear hd hok h hn hg h40 hmost hfull hf2 hTD hinvB hfl hfl2
      generalize hk : posF D.files n = k at *
      have HK := Lib.hid hk
      clear hk
      go_enter Tryd.func39, Tryd.ntmps39
      go_wp2_with fail
      refine Calls.mono HNM.out ?_
      rintro e w1 ⟨rfl, hf⟩
      have HF1 := Lib.hid hf
      clear hf
      go_wp2_with fail
      refine Calls.mono (HFI.out w1 HF1.out) ?_
      rintro e w2 ⟨rfl, hf⟩
      have HF2 := Lib.hid (HF1.out.next hf)
      have hX2 := HX.out.1.grow HF2.out
      obtain ⟨c0, c1, _, _⟩ := hX2.cells
      have HQ := Lib.hid (fun m : Nat => show Calls Tryd.prog 20 #[.pointer (some ⟨rb, 0, none⟩)] (w2.drewN m) (fun e w' => e = .returned (.int .i64 (total D.files)) ∧ w' = w2.drewN m) from (rsize_h (hX2.grow ((Fr.refl _ _).drewN m))).mono fun _ _ k => ⟨k.1, k.2.symm⟩)
      obtain ⟨a, cap, rfl, hn1, hn2, hrow⟩ := hX2.slice
      clear hf hrow hX2
      go_wp2_with fail
      go_quiet ((go_at_call 20; exact Calls.quiet_of_same (HQ.out _)))
      clear c0 c1 HQ
      go_wp2_with fail
      have hTU := rturn_h (HX.out.1.grow (HF2.out.drewN nq))
      rw [HTD.out] at hTU
      refine Calls.mono hTU ?_
      clear hTU
      rintro e w3 ⟨rfl, hD3, hf3⟩
      have HS3 := Lib.hid (show RefSt w w3 rb _ _ D2 from ⟨hD3, fr_turn (HF2.out.drewN nq) hf3, fun _ hk => .inl hk⟩)
      have c0 := hD3.cells.1
      obtain ⟨a5, cap5, e5, hn5, hm5, hrow5⟩ := hD3.slice
      injection e5 with e51 e52 e53
      subst e51
      subst e53
      clear e52
      have hat : D2.files[k]? = some f := by rw [HFL.out]; exact HAT.out
      obtain ⟨g5, rfl, hgr, q0, q1, q2, q3, q4⟩ := hrow5 k _ hat
      have hlt : k < D.files.length := (List.getElem?_eq_some_iff.1 HAT.out).1
      have HGR := Lib.hid (And.intro hgr hat)
      clear hrow5 hat q0 q2 q4 hgr hn5 hm5 hD3 hf3
      go_wp2_with fail
      go_still_tail 17, (by kernel_rfl)
      go_wp2_with fail
      go_ret
      rw [HE.out]
      have hset : (fcells D2.files).set (k * 3 + 1) (.string (bs (f.bytes ++ x))) = fcells (putF D.files ⟨n, f.bytes ++ x, f.synced⟩) := by
        rw [fcells_set1 _ HGR.out.2, HP.out, HFL.out, HNF.out]
      have hrr := HS3.out.ref
      rw [show D.files.length = D2.files.length by rw [HFL.out]] at hrr
      have hfin := ref_cell (D := D2) (l := putF D.files ⟨n, f.bytes ++ x, f.synced⟩) hrr HGR.out.1 (by rw [HP.out, List.length_set, HFL.out]) hset HI.out
      rw [show D2.files.length = D.files.length by rw [HFL.out]] at hfin
      exact ⟨_, rfl, hfin.grow ((Fr.refl _ _).drew), (HS3.out.fr.trans (Fr.setCell (p := ⟨g5, k * 3 + 1, none⟩) (o := fun i => i = g5) (Fr.refl _ _) (.inl rfl) _) (fun i hi => by rw [hi]; exact .inl (.inr rfl))).drew, fun _ hk => .inl hk⟩
    · have HE := Lib.hid (show appendD D n x = (7, D2) from append_dies hd hok h40 hf2 hTD)
      clear hd hok h hn hg h40 hmost hfull hf2 hTD hfl
      generalize hk : posF D.files n = k at *
      have HK := Lib.hid hk
      clear hk
      go_enter Tryd.func39, Tryd.ntmps39
      go_wp2_with fail
      refine Calls.mono HNM.out ?_
      rintro e w1 ⟨rfl, hf⟩
      have HF1 := Lib.hid hf
      clear hf
      go_wp2_with fail
      refine Calls.mono (HFI.out w1 HF1.out) ?_
      rintro e w2 ⟨rfl, hf⟩
      have HF2 := Lib.hid (HF1.out.next hf)
      have hX2 := HX.out.1.grow HF2.out
      obtain ⟨c0, c1, _, _⟩ := hX2.cells
      have HQ := Lib.hid (fun m : Nat => show Calls Tryd.prog 20 #[.pointer (some ⟨rb, 0, none⟩)] (w2.drewN m) (fun e w' => e = .returned (.int .i64 (total D.files)) ∧ w' = w2.drewN m) from (rsize_h (hX2.grow ((Fr.refl _ _).drewN m))).mono fun _ _ k => ⟨k.1, k.2.symm⟩)
      obtain ⟨a, cap, rfl, hn1, hn2, hrow⟩ := hX2.slice
      clear hf hrow hX2
      go_wp2_with fail
      go_quiet ((go_at_call 20; exact Calls.quiet_of_same (HQ.out _)))
      clear c0 c1 HQ
      go_wp2_with fail
      have hTU := rturn_h (HX.out.1.grow (HF2.out.drewN nq))
      rw [HTD.out] at hTU
      refine Calls.mono hTU ?_
      clear hTU
      rintro e w3 ⟨rfl, hD3, hf3⟩
      have HS3 := Lib.hid (show RefSt w w3 rb _ _ D2 from ⟨hD3, fr_turn (HF2.out.drewN nq) hf3, fun _ hk => .inl hk⟩)
      clear hD3 hf3
      go_wp2_with fail
      go_ret
      rw [HE.out]; exact HS3.out.does
end
end Go.Proofs.YtfcnjbkoneinpaaDoor
