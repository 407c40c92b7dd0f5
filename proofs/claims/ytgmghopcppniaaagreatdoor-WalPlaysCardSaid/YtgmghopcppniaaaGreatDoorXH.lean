/- wal's laws: what any act does with the program's log: walked. -/
import Derived.Test.YtgmghopcppniaaaGreatDoorXG
import Derived.Test.YtgmghopcppniaaaGreatDoorFH
namespace Go.Proofs.YtgmghopcppniaaaGreatDoor
open Go.RowKit Go.Lib

theorem cut_same (L : LogD) (D : DiskD) (z : Int) : (cutL L D z).2.1.st = L.st ∧ (cutL L D z).2.1.last = L.last := by
 unfold cutL; split <;> exact ⟨rfl, rfl⟩
section
variable {w w' w1 : World} {A S Q : Nat → Prop} {xb lp pb mb : Nat} {ve vs : Value} {L : LogD} {D : DiskD} {i : Nat}
theorem WalAt.besides {st : StD} {segs : List SegD} {o : Nat → Prop} (h : WalAt w S lp pb mb ve vs st segs D) (hf : Fr o w w') (h1 : ∀ k, S k → ¬ o k) (h2 : ∀ k, Own pb mb k → ¬ o k) (h8 : ∀ k, k < 8 → ¬ o k) : WalAt w' S lp pb mb ve vs st segs D :=
 ⟨h.log.fr hf h1, h.disk.fr hf (h2 _ (.inl rfl)) (h2 _ (.inr rfl)), h.far, h.env.fr hf (fun k hk e => h8 k hk e), h.low, h.dlow⟩
set_option maxRecDepth 100000 in
set_option maxHeartbeats 16000000 in
theorem wdoesA_h {m : ActWM} (hW : WLaw w A xb L D) (hP : PlayInv L D i) (hi : i ≤ 50) (hA : ActWIn w Q m) (hQ : ∀ k, Q k → ¬ A k) (hx8 : 8 ≤ xb) (hs : SmallWM m) :
  Calls Tryz.prog 43 #[.pointer (some ⟨xb, 0, none⟩), actWV m] w (DoesPost (doesA L D m.act) A xb w) := by
 have hfit : Fit L D := hP.fit.fit (by omega) hP.most
 by_cases hop : pickZ m.act.op 10 < 7
 ·rw [doesA_L hop]; exact wdoes_h hW hfit hA hs hop
 obtain ⟨S, lp, pb, mb, ve, vs, h⟩ := hW
 obtain ⟨w1, hw1⟩ : ∃ w1, w1 = w.alloc (.cells (cellsWM m).toArray 77) := ⟨_, rfl⟩
 have hf1 : Fr (fun _ => False) w w1 := by rw [hw1]; exact (Fr.refl _ _).alloc _
 have hb : w1.heap[w.heap.size]? = some (.cells (cellsWM m).toArray 77 (0, 0)) := by rw [hw1]; exact block_new _ _
 have h1 := h.quiet hf1
 have HF1 := Lib.hid hf1
 have HH := Lib.hid h
 have HH1 := Lib.hid h1
 have HFIT := Lib.hid hfit
 have HP := Lib.hid hP
 have HAA := Lib.hid (hA.fr hf1 (fun _ _ h => h))
 have HNQ := Lib.hid hQ
 have HX8 := Lib.hid hx8
 have HPO := Lib.hid (fun W : World => wpick_h (w := W) hA.op.1 hA.op.2 (n := 10) (by decide) (by decide))
 have HPN := Lib.hid (fun W : World => wpick_h (w := W) hA.n.1 hA.n.2 (n := 30) (by decide) (by decide))
 have HSM := Lib.hid hs
 have q0 := cell_of h1.head (i := 0) (v := .pointer (some ⟨pb, 0, none⟩)) rfl
 have q1 := cell_of h1.head (i := 1) (v := .pointer (some ⟨lp, 0, none⟩)) rfl
 have x0 := cell_of hb (i := 0) (v := .int .i64 m.act.op) rfl
 have x3 := cell_of hb (i := 3) (v := .int .i64 m.act.index) rfl
 have x4 := cell_of hb (i := 4) (v := .int .i64 m.act.n) rfl
 have x6 := cell_of hb (i := 6) (v := m.va) rfl
 have x7 := cell_of hb (i := 7) (v := m.vb) rfl
 obtain ⟨o, ho⟩ : ∃ o, pickZ m.act.op 10 = o := ⟨_, rfl⟩
 have hop0 := (pick_in (c := m.act.op) (n := 10) (by decide))
 rw [ho] at HPO hop0 hop
 have HO := Lib.hid ho
 obtain ⟨k, hk⟩ : ∃ k, pickZ m.act.n 30 = k := ⟨_, rfl⟩
 have hk0 := (pick_in (c := m.act.n) (n := 30) (by decide))
 rw [hk] at HPN hk0
 have HK := Lib.hid (And.intro hk hk0)
 unfold actWV cellsWM
 unfold cellsWM at hw1
 have h6 : ¬ o = 6 := by omega
 have r6 : (o == 6) = false := by simpa using h6
 have HXA := Lib.hid (show ∀ k, Own pb mb k → k ≠ xb from fun k hk e => h.far.2 (by rw [← e]; exact hk))
 clear h h1 hP hA hs ho hf1 hk hk0 hQ hfit hx8 hb
 go_enter Tryz.func43, Tryz.ntmps43
 go_upto_region 1 with fail
 rw [← hw1]
 clear hw1
 go_wp2_with fail
 refine Calls.mono (HPO.out _) ?_
 rintro e w2 ⟨rfl, rfl⟩
 by_cases h7 : o = 7
 ·have r7 : (o == 7) = true := by simpa using h7
  have HE : Hid (doesA L D m.act = cutL L D m.act.index) := by show Go.Proofs.YtgmghopcppniaaaGreatDoor.doesA _ _ _ = _; unfold Go.Proofs.YtgmghopcppniaaaGreatDoor.doesA; rw [HO.out, if_neg h6, if_pos h7]
  have HR := Lib.hid (fun (W : World) (hq : Fr (fun _ => False) w1 W) => (wcut_h (st := L.st) (pre := L.pre) (last := L.last) (HH1.out.wal.quiet hq) HFIT.out.pre (by have := HFIT.out.many; omega) m.act.index).mono (R' := fun e w' => e = .returned (.int .i64 (cutL L D m.act.index).1) ∧ (∃ ve' vs', WalAt w' (Plus S W w') lp pb mb ve' vs' (cutL L D m.act.index).2.1.st ((cutL L D m.act.index).2.1.pre ++ [(cutL L D m.act.index).2.1.last]) (cutL L D m.act.index).2.2) ∧ Fr (WAll S pb mb) W w') (by
   rintro e w' ⟨rfl, ⟨vs', h2⟩, h3⟩
   refine ⟨rfl, ⟨ve, vs', ?_⟩, h3⟩
   rw [(cut_same L D m.act.index).1, (cut_same L D m.act.index).2]
   exact h2))
  obtain ⟨p, hp⟩ : ∃ p, cutL L D m.act.index = p := ⟨_, rfl⟩
  rw [hp] at HE HR
  clear h6 h7 hp x0 x4 x6 x7 q0 hop0 hop
  go_upto_region 5 with fail
  go_region_with (first
   | (go_at_call 51; (with_reducible refine Calls.mono (HR.out _ (show Fr (fun _ => False) w1 _ by repeat (first | exact Fr.refl _ _ | refine Fr.drew ?_))) ?_); clear HR; rintro r wA ⟨rfl, ⟨ve2, vs2, hwA⟩, hfA⟩; have HX := Lib.hid (HH.out.does (HF1.out.next (show Fr (fun _ => False) w1 _ by repeat (first | exact Fr.refl _ _ | refine Fr.drew ?_))) hwA hfA); clear hwA hfA)
   | fail)
  all_goals
   go_wp2_with fail
   go_ret
   refine ⟨by rw [HE.out] <;> rfl, ?_, ?_⟩
   ·rw [HE.out]
    first
     | exact HX.out.1
     | exact HX.out.1.quiet (Fr.refl (fun _ => False) _).drew
   ·first | exact HX.out.2 | exact HX.out.2.drew
 have r7 : (o == 7) = false := by simpa using h7
 by_cases h8 : o = 8
 ·have r8 : (o == 8) = true := by simpa using h8
  have HE : Hid (doesA L D m.act = (0, (L, fuseD D k))) := by show Go.Proofs.YtgmghopcppniaaaGreatDoor.doesA _ _ _ = _; unfold Go.Proofs.YtgmghopcppniaaaGreatDoor.doesA; rw [HO.out, if_neg h6, if_neg h7, if_pos h8, HK.out.1]
  have HR := Lib.hid (fun (W : World) (hq : Fr (fun _ => False) w1 W) => fuse_h (k := k) (HH1.out.wal.quiet hq).disk (by have := HK.out.2; omega))
  clear h6 h7 h8 x0 x3 x6 x7 q1 hop0 hop
  go_upto_region 7 with fail
  go_cut [] (fun wx => Hid (WLaw wx (Plus A w wx) xb L (fuseD D k) ∧ Fr A w wx))
  case first =>
   go_region_with (first
    | (go_at_call 42; (with_reducible refine Calls.mono (HPN.out _) ?_); rintro r wA ⟨rfl, hq⟩; have fA : Fr (fun _ => False) w1 wA := (by rw [← hq]; (repeat (first | exact Fr.refl _ _ | refine Fr.drew ?_))); subst hq)
    | (go_at_call 25; (with_reducible refine Calls.mono (HR.out _ (show Fr (fun _ => False) w1 _ by repeat (first | exact Fr.refl _ _ | refine Fr.drew ?_))) ?_); clear HR; rintro r wB ⟨rfl, hdB, hfB⟩; have HX := Lib.hid (HH.out.does (p := (0, (L, fuseD D k))) (HF1.out.next (show Fr (fun _ => False) w1 _ by repeat (first | exact Fr.refl _ _ | refine Fr.drew ?_))) ((HH1.out.wal.quiet (show Fr (fun _ => False) w1 _ by repeat (first | exact Fr.refl _ _ | refine Fr.drew ?_))).plus0 ((HH1.out.wal.quiet (show Fr (fun _ => False) w1 _ by repeat (first | exact Fr.refl _ _ | refine Fr.drew ?_))).done hdB hfB) hfB.size) (hfB.mono fun _ _ h => .inr h)); clear hdB hfB)
    | fail)
   all_goals
    go_wp2_with fail
    go_meet
    first
     | exact HX
     | exact Lib.hid ⟨HX.out.1.quiet (Fr.refl (fun _ => False) _).drew, HX.out.2.drew⟩
  case rest =>
  obtain ⟨wn, hwn⟩ : ∃ x, x = wc := ⟨_, rfl⟩
  have HX := hcut
  rw [← hwn] at HX ⊢
  clear hwn
  go_wp2_with fail
  go_ret
  exact ⟨by rw [HE.out] <;> rfl, by rw [HE.out]; exact HX.out.1, HX.out.2⟩
 have r8 : (o == 8) = false := by simpa using h8
 have h9 : o = 9 := by omega
 have r9 : (o == 9) = true := by simpa using h9
 obtain ⟨st2, segs2, D2, hopn, hne, hPI⟩ := HP.out.opened (keep := m.act.keep) (noise := m.act.noise) (by omega)
 have HE : Hid (doesA L D m.act = (0, (logOf st2 segs2, D2))) := by
  show Go.Proofs.YtgmghopcppniaaaGreatDoor.doesA _ _ _ = _
  unfold Go.Proofs.YtgmghopcppniaaaGreatDoor.doesA
  rw [HO.out, if_neg h6, if_neg h7, if_neg h8, if_pos h9, hopn]
  rfl
 have HNE := Lib.hid hne
 have HR := Lib.hid (fun (W : World) (hq : Fr (fun _ => False) w1 W) => crash_h (HH1.out.wal.quiet hq).disk (HAA.out.fr hq (fun _ _ h => h)).keep (HAA.out.fr hq (fun _ _ h => h)).noise (fun k hk e => HNQ.out k hk (HH.out.own k e)) (fun k hk e => HNQ.out k hk (HH.out.own k e)) (by have := HSM.out.2.1; omega) (by have := HSM.out.2.2; omega))
 obtain ⟨Dc, hDc⟩ : ∃ x, crashD xbG D m.act.keep m.act.noise = x := ⟨_, rfl⟩
 have hdm : Dc.most ≤ 100000 := by rw [← hDc]; exact HP.out.most
 rw [hDc] at HR hopn
 have HOP := Lib.hid hopn
 have HDD := Lib.hid hdm
 have HHD1 := Lib.hid HH1.out.head
 clear h6 h7 h8 h9 x0 x3 x4 q1 hop0 hop hopn hdm hne hPI hDc
 go_upto_region 10 with fail
 go_cut [] (fun wx => Hid (WalAt wx S lp pb mb ve vs L.st (L.pre ++ [L.last]) Dc ∧ Fr (Own pb mb) w1 wx))
 case first =>
  go_region_with (first
   | (go_at_call 28; (with_reducible refine Calls.mono (HR.out _ (show Fr (fun _ => False) w1 _ by repeat (first | exact Fr.refl _ _ | refine Fr.drew ?_))) ?_); clear HR; rintro r wB ⟨rfl, hdB, hfB⟩; have HX : Hid (WalAt wB S lp pb mb ve vs L.st (L.pre ++ [L.last]) Dc ∧ Fr (Own pb mb) w1 wB) := Lib.hid ⟨(HH1.out.wal.quiet (show Fr (fun _ => False) w1 _ by repeat (first | exact Fr.refl _ _ | refine Fr.drew ?_))).done hdB hfB, ((show Fr (fun _ => False) w1 _ by repeat (first | exact Fr.refl _ _ | refine Fr.drew ?_)).mono (o2 := Own pb mb) fun _ _ h => h.elim).next hfB⟩; clear hdB hfB)
   | fail)
  all_goals
   go_wp2_with fail
   go_meet
   first
    | exact HX
    | exact Lib.hid ⟨HX.out.1.quiet (Fr.refl (fun _ => False) _).drew, HX.out.2.drew⟩
 case rest =>
 have HX := hcut
 obtain ⟨w3, hwn⟩ : ∃ x, x = wc := ⟨_, rfl⟩
 rw [← hwn] at HX ⊢
 clear hwn hcut HR q0 x6 x7
 have hh3 := HX.out.2.keep HHD1.out (fun e => HXA.out _ e rfl)
 have q0 := cell_of hh3 (i := 0) (v := .pointer (some ⟨pb, 0, none⟩)) rfl
 have HH3 := Lib.hid hh3
 have HRO := Lib.hid (open_h HX.out.1.disk HX.out.1.env HX.out.1.dlow HDD.out)
 unfold OpenPost at HRO
 rw [HOP.out] at HRO
 clear hh3
 go_wp2_with fail
 refine Calls.mono HRO.out ?_
 rintro e w4 ⟨lp2, rfl, hw4, hd4, hf4⟩
 obtain ⟨ve2, vs2, hw4⟩ := hw4 (by first | exact trivial | rfl)
 have hp0 : (if (0 : Int) = 0 then Value.pointer (some ⟨lp2, 0, none⟩) else .pointer none) = .pointer (some ⟨lp2, 0, none⟩) := rfl
 have hh4 := hf4.keep HH3.out (fun e => HXA.out _ e rfl)
 have HH4 := Lib.hid hh4
 have HW4 := Lib.hid hw4
 have HF4 := Lib.hid hf4
 have q1 := cell_of hh4 (i := 1) (v := .pointer (some ⟨lp, 0, none⟩)) rfl
 have g1 := free_of 1 hh4
 have hl4 := lt_of_block hh4
 clear hd4 hw4 hf4 hh4 q0 HRO
 clear hp0
 go_wp2_with fail
 go_ret
 have hz1 := HF1.out.size
 have hz3 := HX.out.2.size
 have hz4 := HF4.out.size
 have hxl := HH.out.lt _ HH.out.axb
 have hFx : Fr (fun k => k = xb) w4 (w4.setCell ⟨xb, 1, none⟩ (.pointer (some ⟨lp2, 0, none⟩))) := (Fr.refl (fun k => k = xb) _).setCell (p := ⟨xb, 1, none⟩) (.inl rfl) _
 have hFA : Fr A w (w4.setCell ⟨xb, 1, none⟩ (.pointer (some ⟨lp2, 0, none⟩))) := by
  refine ((((HF1.out.mono (o2 := A) fun _ _ h => h.elim).trans HX.out.2 fun k hk => .inl (HH.out.own k hk)).trans HF4.out fun k hk => .inl (HH.out.own k hk))).setCell (p := ⟨xb, 1, none⟩) (.inl HH.out.axb) _
 have hzs : (w4.setCell ⟨xb, 1, none⟩ (.pointer (some ⟨lp2, 0, none⟩))).heap.size = w4.heap.size := by simp
 refine ⟨by rw [HE.out] <;> rfl, ?_, hFA⟩
 rw [HE.out]
 refine ⟨fun k => w3.heap.size ≤ k ∧ k < w4.heap.size, lp2, pb, mb, ve2, vs2, ⟨block_set HH4.out 1 _, ?_, fun k hk => .inr ⟨by omega, by omega⟩, fun k hk => .inl (HH.out.own k hk), .inl HH.out.axb, ⟨fun e => by omega, HH.out.far.2⟩, Plus.lt HH.out.lt (by omega)⟩⟩
 show WalAt _ _ lp2 pb mb ve2 vs2 (logOf st2 segs2).st ((logOf st2 segs2).pre ++ [(logOf st2 segs2).last]) D2
 rw [logOf_segs HNE.out]
 exact HW4.out.besides hFx (fun k hk e => by omega) (fun k hk e => HXA.out _ hk e) (fun k hk e => by have := HX8.out; omega)
end
end Go.Proofs.YtgmghopcppniaaaGreatDoor
