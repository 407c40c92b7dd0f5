/- wal's laws: what an act does with the reference's log: walked. -/
import Derived.Test.YtgmghopcppniaaaGreatDoorXE
import Derived.Test.YtgmghopcppniaaaGreatDoorXF
import Derived.Test.YtgmghopcppniaaaGreatDoorE7

import Derived.Test.YtgmghopcppniaaaGreatDoorFOa
namespace Go.Proofs.YtgmghopcppniaaaGreatDoor
open Go.RowKit Go.Lib

/-- all acts, and what holds between them -/
theorem PlayInv.opened {L : LogD} {D : DiskD} {i : Nat} {keep noise : List Int} (h : PlayInv L D i) (hi : i ≤ 60) : ∃ st segs D2, openD (crashD xbG D keep noise) = ((0, (st, segs)), D2) ∧ segs ≠ [] ∧ PlayInv (logOf st segs) D2 (i + 1) := by
 obtain ⟨st, pre, n, R, D2, h1, h2⟩ := h.crash (xb := xbG) (keep := keep) (noise := noise) hi
 refine ⟨st, _, D2, h1, by simp, ?_⟩
 rw [List.map_append]
 show PlayInv (logOf st (pre.map (segOf R) ++ [segOf R n])) D2 (i + 1)
 rw [logOf_same]; exact h2
theorem PlayInv.doesA {L : LogD} {D : DiskD} {i : Nat} {a : ActW} (h : PlayInv L D i) (ha : GoodW a) (hi : i ≤ 60) : PlayInv (doesA L D a).2.1 (doesA L D a).2.2 (i + 1) := by
 by_cases h7 : pickZ a.op 10 < 7
 ·rw [doesA_L h7]; exact h.does ha hi
 ·have h10 := (pick_in (c := a.op) (n := 10) (by decide))
  unfold Go.Proofs.YtgmghopcppniaaaGreatDoor.doesA
  rw [if_neg (by omega)]
  split
  ·exact h.cut
  ·split
   ·have := (pick_in (c := a.n) (n := 30) (by decide))
    exact h.fuse (by omega)
   ·rw [if_pos (by omega)]
    obtain ⟨st, segs, D2, h1, _, h2⟩ := h.opened (keep := a.keep) (noise := a.noise) hi
    rw [h1]; exact h2
theorem PlayInv.ok {L : LogD} {D : DiskD} {i : Nat} (h : PlayInv L D i) (hi : i ≤ 50) : D.dead = true ∨ ∃ R b, LogOK L D R b ∧ b < 2000 := by
 rcases h.state with ⟨_, R, h1⟩ | ⟨h1, _⟩
 ·exact .inr ⟨R, _, h1, by omega⟩
 ·exact .inl h1
def RDoesPost (p : Int × (LogD × DiskD)) (B : Nat → Prop) (yb : Nat) (w : World) (e : Ending) (w' : World) : Prop := e = .returned (.int .i64 p.1) ∧ RLaw w' (Plus B w w') yb p.2.1.st p.2.2 ∧ Fr B w w'
section
variable {w w' w1 : World} {B T Q : Nat → Prop} {yb rl rb : Nat} {lv le lv' le' : Value} {st st' : StD} {D D' : DiskD} {L : LogD} {i : Nat}
theorem RLawAt.quiet (h : RLawAt w B T yb rl rb lv le st D) (hf : Fr (fun _ => False) w w') : RLawAt w' B T yb rl rb lv le st D :=
 ⟨hf.keep h.head (fun h => h), h.wal.quiet hf, h.sub, h.byb, h.far, fun k hk => Nat.lt_of_lt_of_le (h.lt k hk) hf.size⟩
theorem RLawAt.fr {o : Nat → Prop} (h : RLawAt w B T yb rl rb lv le st D) (hf : Fr o w w') (ho : ∀ k, B k → ¬ o k) : RLawAt w' B T yb rl rb lv le st D :=
 ⟨hf.keep h.head (ho _ h.byb), h.wal.fr hf (fun k hk => ho k (h.sub k hk)), h.sub, h.byb, h.far, fun k hk => Nat.lt_of_lt_of_le (h.lt k hk) hf.size⟩
theorem RLaw.fr {o : Nat → Prop} (h : RLaw w B yb st D) (hf : Fr o w w') (ho : ∀ k, B k → ¬ o k) : RLaw w' B yb st D := by
 obtain ⟨T, rl, rb, lv, le, h⟩ := h
 exact ⟨T, rl, rb, lv, le, h.fr hf ho⟩
theorem RLawAt.all (h : RLawAt w B T yb rl rb lv le st D) {k : Nat} (hk : RAll rl rb lv k) : T k := by
 rcases hk with hk | hk
 ·rw [hk]; exact h.wal.srl
 ·exact h.wal.srb k hk
/-- behind a call upon the log, some quiet ones ahead of it -/
theorem RLawAt.does (h : RLawAt w B T yb rl rb lv le st D) (h1 : Fr (fun _ => False) w w1) (hw : RWal w' (Plus T w1 w') rl rb lv' le' st' D') (hf : Fr (RAll rl rb lv) w1 w') : RLaw w' (Plus B w w') yb st' D' ∧ Fr B w w' := by
 have hs := h1.size
 have hs2 := hf.size
 have hy := h.lt _ h.byb
 have hF : Fr B w w' := (h1.mono (o2 := B) fun _ _ h => h.elim).trans hf fun k hk => .inl (h.sub k (h.all hk))
 refine ⟨⟨Plus T w1 w', rl, rb, lv', le', ⟨hf.keep (h1.keep h.head (fun h => h)) (fun e => h.far (h.all e)), hw, fun k hk => ?_, .inl h.byb, fun e => ?_, Plus.lt h.lt hF.size⟩⟩, hF⟩
 ·rcases hk with hk | ⟨hk, hk2⟩
  ·exact .inl (h.sub k hk)
  ·exact .inr ⟨by omega, hk2⟩
 ·rcases e with e | ⟨e, _⟩
  ·exact h.far e
  ·omega
set_option maxRecDepth 100000 in
set_option maxHeartbeats 16000000 in
theorem rdoes_h {m : ActWM} (hR : RLaw w B yb L.st D) (hP : PlayInv L D i) (hi : i ≤ 50) (hA : ActWIn w Q m) (hQ : ∀ k, Q k → ¬ B k) (hs : SmallWM m) :
  Calls Tryz.prog 44 #[.pointer (some ⟨yb, 0, none⟩), actWV m] w (RDoesPost (doesA L D m.act) B yb w) := by
 obtain ⟨T, rl, rb, lv, le, h⟩ := hR
 have hgood := hA.good hs
 have HGOOD := Lib.hid hgood
 obtain ⟨w1, hw1⟩ : ∃ w1, w1 = w.alloc (.cells (cellsWM m).toArray 77) := ⟨_, rfl⟩
 have hf1 : Fr (fun _ => False) w w1 := by rw [hw1]; exact (Fr.refl _ _).alloc _
 have hb : w1.heap[w.heap.size]? = some (.cells (cellsWM m).toArray 77 (0, 0)) := by rw [hw1]; exact block_new _ _
 have h1 := h.quiet hf1
 have HF1 := Lib.hid hf1
 have HH := Lib.hid h
 have HH1 := Lib.hid h1
 have HP := Lib.hid hP
 have HOKD := Lib.hid (hP.ok hi)
 have HAA := Lib.hid (hA.fr hf1 (fun _ _ h => h))
 have HNQ := Lib.hid hQ
 have HPO := Lib.hid (fun W : World => wpick_h (w := W) hA.op.1 hA.op.2 (n := 10) (by decide) (by decide))
 have HPN := Lib.hid (fun W : World => wpick_h (w := W) hA.n.1 hA.n.2 (n := 30) (by decide) (by decide))
 have HHA := Lib.hid (fun (W : World) (hq : Fr (fun _ => False) w1 W) => whard_h (w := W) (HAA.out.fr hq (fun _ _ h => h)))
 have HEN := Lib.hid (fun (W : World) (hq : Fr (fun _ => False) w1 W) => wentries_h (w := W) (HAA.out.fr hq (fun _ _ h => h)) hs.1)
 have HSM := Lib.hid hs
 have q0 := cell_of h1.head (i := 0) (v := .pointer (some ⟨rb, 0, none⟩)) rfl
 have q1 := cell_of h1.head (i := 1) (v := .pointer (some ⟨rl, 0, none⟩)) rfl
 have x0 := cell_of hb (i := 0) (v := .int .i64 m.act.op) rfl
 have x3 := cell_of hb (i := 3) (v := .int .i64 m.act.index) rfl
 have x4 := cell_of hb (i := 4) (v := .int .i64 m.act.n) rfl
 have x6 := cell_of hb (i := 6) (v := m.va) rfl
 have x7 := cell_of hb (i := 7) (v := m.vb) rfl
 obtain ⟨o, ho⟩ : ∃ o, pickZ m.act.op 10 = o := ⟨_, rfl⟩
 have hop0 := (pick_in (c := m.act.op) (n := 10) (by decide))
 rw [ho] at HPO hop0
 have HO := Lib.hid ho
 obtain ⟨k, hk⟩ : ∃ k, pickZ m.act.n 30 = k := ⟨_, rfl⟩
 have hk0 := (pick_in (c := m.act.n) (n := 30) (by decide))
 rw [hk] at HPN hk0
 have HK := Lib.hid (And.intro hk hk0)
 have hv0 : actWV m = .agg (cellsWM m).toArray := rfl
 unfold actWV cellsWM at HHA HEN ⊢
 unfold cellsWM at hw1 hb
 have HB := Lib.hid hb
 clear h h1 hP hA hs ho hgood hf1 hv0 hk hk0 hQ
 go_enter Tryz.func44, Tryz.ntmps44
 go_upto_region 1 with fail
 rw [← hw1]
 clear hw1
 go_wp2_with fail
 refine Calls.mono (HPO.out _) ?_
 rintro e w2 ⟨rfl, rfl⟩
 by_cases h6 : o = 6
 ·have r6 : (o == 6) = true := by simpa using h6
  have HE : Hid (doesA L D m.act = resetL L D) := by show Go.Proofs.YtgmghopcppniaaaGreatDoor.doesA _ _ _ = _; unfold Go.Proofs.YtgmghopcppniaaaGreatDoor.doesA; rw [HO.out, if_pos h6]
  have HR := Lib.hid (rreset_h HH1.out.wal HP.out.fit.ok.hard.2.2 HP.out.most (by rcases HOKD.out with h | ⟨R, b, h, _⟩; exact .inl h; exact .inr ⟨R, b, h⟩))
  obtain ⟨p, hp⟩ : ∃ p, resetL L D = p := ⟨_, rfl⟩
  rw [hp] at HE HR
  unfold RActPost RPost at HR
  clear h6 hp x0 x3 x4 x6 x7 q0 hop0
  go_wp2_with fail
  refine Calls.mono HR.out ?_
  rintro e w3 ⟨rfl, ⟨lv2, le2, hw3⟩, hf3⟩
  have HX := Lib.hid (HH.out.does HF1.out hw3 hf3)
  clear hw3 hf3 HR
  go_wp2_with fail
  go_ret
  exact ⟨by rw [HE.out] <;> rfl, by rw [HE.out]; exact HX.out.1, HX.out.2⟩
 have r6 : (o == 6) = false := by simpa using h6
 by_cases h7 : o = 7
 ·have r7 : (o == 7) = true := by simpa using h7
  have HE : Hid (doesA L D m.act = cutL L D m.act.index) := by show Go.Proofs.YtgmghopcppniaaaGreatDoor.doesA _ _ _ = _; unfold Go.Proofs.YtgmghopcppniaaaGreatDoor.doesA; rw [HO.out, if_neg h6, if_pos h7]
  have HR := Lib.hid (fun (W : World) (hq : Fr (fun _ => False) w1 W) => rcut_h (z := m.act.index) (HH1.out.wal.quiet hq) HP.out.most HOKD.out)
  obtain ⟨p, hp⟩ : ∃ p, cutL L D m.act.index = p := ⟨_, rfl⟩
  rw [hp] at HE HR
  unfold RActPost RPost at HR
  clear h6 h7 hp x0 x4 x6 x7 q0 hop0
  go_upto_region 5 with fail
  go_region_with (first
   | (go_at_call 96; (with_reducible refine Calls.mono (HR.out _ (show Fr (fun _ => False) w1 _ by repeat (first | exact Fr.refl _ _ | refine Fr.drew ?_))) ?_); clear HR; rintro r wA ⟨rfl, ⟨lv2, le2, hwA⟩, hfA⟩; have HX := Lib.hid (HH.out.does (HF1.out.next (show Fr (fun _ => False) w1 _ by repeat (first | exact Fr.refl _ _ | refine Fr.drew ?_))) hwA hfA); clear hwA hfA)
   | fail)
  all_goals
   go_wp2_with fail
   go_ret
   refine ⟨by rw [HE.out] <;> rfl, ?_, ?_⟩
   ·rw [HE.out]
    first
     | exact HX.out.1
     | exact HX.out.1.fr ((Fr.refl (fun _ => False) _).drew) (fun _ _ h => h)
   ·first | exact HX.out.2 | exact HX.out.2.drew
 have r7 : (o == 7) = false := by simpa using h7
 by_cases h8 : o = 8
 ·have r8 : (o == 8) = true := by simpa using h8
  have HE : Hid (doesA L D m.act = (0, (L, fuseD D k))) := by show Go.Proofs.YtgmghopcppniaaaGreatDoor.doesA _ _ _ = _; unfold Go.Proofs.YtgmghopcppniaaaGreatDoor.doesA; rw [HO.out, if_neg h6, if_neg h7, if_pos h8, HK.out.1]
  have HR := Lib.hid (fun (W : World) (hq : Fr (fun _ => False) w1 W) => rfuse_h (k := k) (HH1.out.wal.quiet hq).disk (by have := HK.out.2; omega))
  clear h6 h7 h8 x0 x3 x6 x7 q1 hop0
  go_upto_region 7 with fail
  go_cut [] (fun wx => Hid (RLaw wx (Plus B w wx) yb L.st (fuseD D k) ∧ Fr B w wx))
  case first =>
   go_region_with (first
    | (go_at_call 42; (with_reducible refine Calls.mono (HPN.out _) ?_); rintro r wA ⟨rfl, hq⟩; have fA : Fr (fun _ => False) w1 wA := (by rw [← hq]; (repeat (first | exact Fr.refl _ _ | refine Fr.drew ?_))); subst hq)
    | (go_at_call 97; (with_reducible refine Calls.mono (HR.out _ (show Fr (fun _ => False) w1 _ by repeat (first | exact Fr.refl _ _ | refine Fr.drew ?_))) ?_); clear HR; rintro r wB ⟨rfl, hdB, hfB⟩; have HX := Lib.hid (HH.out.does (lv' := lv) (st' := L.st) (HF1.out.next (show Fr (fun _ => False) w1 _ by repeat (first | exact Fr.refl _ _ | refine Fr.drew ?_))) ((HH1.out.wal.quiet (show Fr (fun _ => False) w1 _ by repeat (first | exact Fr.refl _ _ | refine Fr.drew ?_))).done hdB hfB (fun k hk => .inl hk)) (hfB.mono fun _ _ h => .inr h)); clear hdB hfB)
    | fail)
   all_goals
    go_wp2_with fail
    go_meet
    first
     | exact HX
     | exact Lib.hid ⟨HX.out.1.fr ((Fr.refl (fun _ => False) _).drew) (fun _ _ h => h), HX.out.2.drew⟩
  case rest =>
  obtain ⟨wn, hwn⟩ : ∃ x, x = wc := ⟨_, rfl⟩
  have HX := hcut
  rw [← hwn] at HX ⊢
  clear hwn
  go_wp2_with fail
  go_ret
  exact ⟨by rw [HE.out] <;> rfl, by rw [HE.out]; exact HX.out.1, HX.out.2⟩
 have r8 : (o == 8) = false := by simpa using h8
 have hyT : ∀ k, RAll rl rb lv k → k ≠ yb := fun k hk e => HH.out.far (by rw [← e]; exact HH.out.all hk)
 have HYT := Lib.hid hyT
 have hlt1 : ∀ k, RAll rl rb lv k → k < w.heap.size := fun k hk => HH.out.lt k (HH.out.sub k (HH.out.all hk))
 have HLT1 := Lib.hid hlt1
 have hyl := HH.out.lt _ HH.out.byb
 clear hyT hlt1
 by_cases h9 : o = 9
 ·have r9 : (o == 9) = true := by simpa using h9
  obtain ⟨st2, segs2, D2, hop, hne, hPI⟩ := HP.out.opened (keep := m.act.keep) (noise := m.act.noise) (by omega)
  have HE : Hid (doesA L D m.act = (0, (logOf st2 segs2, D2))) := by
   show Go.Proofs.YtgmghopcppniaaaGreatDoor.doesA _ _ _ = _
   unfold Go.Proofs.YtgmghopcppniaaaGreatDoor.doesA
   rw [HO.out, if_neg h6, if_neg h7, if_neg h8, if_pos h9, hop]
   rfl
  have HR := Lib.hid (fun (W : World) (hq : Fr (fun _ => False) w1 W) => rcrash_h (HH1.out.wal.quiet hq).disk (HAA.out.fr hq (fun _ _ h => h)).keep (HAA.out.fr hq (fun _ _ h => h)).noise (fun k hk e => HNQ.out k hk (HH.out.sub k (HH.out.wal.srb k e))) (fun k hk e => HNQ.out k hk (HH.out.sub k (HH.out.wal.srb k e))) (by have := HSM.out.2.1; omega) (by have := HSM.out.2.2; omega))
  obtain ⟨Dc, hDc⟩ : ∃ x, crashD xbG D m.act.keep m.act.noise = x := ⟨_, rfl⟩
  have hdd : Dc.dead = false := by rw [← hDc]; rfl
  have hdm : Dc.most ≤ 100000 := by rw [← hDc]; exact HP.out.most
  rw [hDc] at HR hop
  have HOP := Lib.hid hop
  have HDD := Lib.hid (And.intro hdd hdm)
  have HHD1 := Lib.hid HH1.out.head
  clear h6 h7 h8 h9 x0 x3 x4 q1 hop0 hop hdd hdm hne hPI hDc
  go_upto_region 10 with fail
  go_cut [] (fun wx => Hid (RefAt wx rb lv Dc ∧ Fr (OwnR rb lv) w1 wx))
  case first =>
   go_region_with (first
    | (go_at_call 98; (with_reducible refine Calls.mono (HR.out _ (show Fr (fun _ => False) w1 _ by repeat (first | exact Fr.refl _ _ | refine Fr.drew ?_))) ?_); clear HR; rintro r wB ⟨rfl, hdB, hfB⟩; have HX : Hid (RefAt wB rb lv Dc ∧ Fr (OwnR rb lv) w1 wB) := Lib.hid ⟨hdB, ((show Fr (fun _ => False) w1 _ by repeat (first | exact Fr.refl _ _ | refine Fr.drew ?_)).mono (o2 := OwnR rb lv) fun _ _ h => h.elim).next hfB⟩; clear hdB hfB)
    | fail)
   all_goals
    go_wp2_with fail
    go_meet
    first
     | exact HX
     | exact Lib.hid ⟨HX.out.1.fr ((Fr.refl (fun _ => False) _).drew) (fun _ _ h => h), HX.out.2.drew⟩
  case rest =>
  have HX := hcut
  obtain ⟨w3, hwn⟩ : ∃ x, x = wc := ⟨_, rfl⟩
  rw [← hwn] at HX ⊢
  clear hwn hcut HR q0 x6 x7
  have hh3 := HX.out.2.keep HHD1.out (fun e => HYT.out _ (.inr e) rfl)
  have q0 := cell_of hh3 (i := 0) (v := .pointer (some ⟨rb, 0, none⟩)) rfl
  have HH3 := Lib.hid hh3
  have HRO := Lib.hid (ropen_h HX.out.1 HDD.out.1 HDD.out.2)
  unfold ROpenAll ROpenPost at HRO
  rw [HOP.out] at HRO
  clear hh3
  go_wp2_with fail
  refine Calls.mono HRO.out ?_
  rintro e w4 ⟨rl2, lv2, rfl, hd4, ho4, hw4, hf4⟩
  obtain ⟨le2, hw4⟩ := hw4 (by first | exact trivial | rfl)
  have hp0 : (if (0 : Int) = 0 then Value.pointer (some ⟨rl2, 0, none⟩) else .pointer none) = .pointer (some ⟨rl2, 0, none⟩) := rfl
  have hh4 := hf4.keep HH3.out (fun e => HYT.out _ (.inr e) rfl)
  have HH4 := Lib.hid hh4
  have HW4 := Lib.hid hw4
  have HF4 := Lib.hid hf4
  have q1 := cell_of hh4 (i := 1) (v := .pointer (some ⟨rl, 0, none⟩)) rfl
  have g1 := free_of 1 hh4
  have hl4 := lt_of_block hh4
  clear hd4 ho4 hw4 hf4 hh4 q0 HRO
  go_wp2_with fail
  go_ret
  have hz1 := HF1.out.size
  have hz3 := HX.out.2.size
  have hz4 := HF4.out.size
  have hFy : Fr (fun k => k = yb) w4 (w4.setCell ⟨yb, 1, none⟩ (.pointer (some ⟨rl2, 0, none⟩))) := (Fr.refl (fun k => k = yb) _).setCell (p := ⟨yb, 1, none⟩) (.inl rfl) _
  have hFB : Fr B w (w4.setCell ⟨yb, 1, none⟩ (.pointer (some ⟨rl2, 0, none⟩))) := by
   refine ((((HF1.out.mono (o2 := B) fun _ _ h => h.elim).trans HX.out.2 fun k hk => .inl (HH.out.sub k (HH.out.wal.srb k hk))).trans HF4.out fun k hk => .inl (HH.out.sub k (HH.out.wal.srb k hk)))).setCell (p := ⟨yb, 1, none⟩) (.inl HH.out.byb) _
  have hzs : (w4.setCell ⟨yb, 1, none⟩ (.pointer (some ⟨rl2, 0, none⟩))).heap.size = w4.heap.size := by simp
  refine ⟨by rw [HE.out] <;> rfl, ?_, hFB⟩
  rw [HE.out]
  refine ⟨Plus (OwnR rb lv) w3 w4, rl2, rb, lv2, le2, ⟨block_set HH4.out 1 _, HW4.out.fr hFy (fun k hk e => ?_), fun k hk => ?_, .inl HH.out.byb, fun e => ?_, Plus.lt HH.out.lt (by omega)⟩⟩
  ·subst e
   rcases hk with hk | ⟨hk, _⟩
   ·exact HYT.out _ (.inr hk) rfl
   ·omega
  ·rcases hk with hk | ⟨hk, hk2⟩
   ·exact .inl (HH.out.sub k (HH.out.wal.srb k hk))
   ·exact .inr ⟨by omega, by omega⟩
  ·rcases e with e | ⟨e, _⟩
   ·exact HYT.out _ (.inr e) rfl
   ·omega
 have r9 : (o == 9) = false := by simpa using h9
 have HE : Hid (doesA L D m.act = saveL L D (hardW m.act).1 (hardW m.act).2 (entriesW m.act)) := by show Go.Proofs.YtgmghopcppniaaaGreatDoor.doesA _ _ _ = _; unfold Go.Proofs.YtgmghopcppniaaaGreatDoor.doesA; rw [HO.out, if_neg h6, if_neg h7, if_neg h8, if_neg h9]
 have hti := (hardW_in HGOOD.out).1
 have hvi := (hardW_in HGOOD.out).2
 have hli := entriesW_in HGOOD.out
 have hll := entriesW_len m.act
 have hl7 : ∀ e ∈ entriesW m.act, e.data.length ≤ 700 := fun e he => by
  obtain ⟨j, _, rfl⟩ := entriesW_mem he
  have h1 : (entW m.act j).data = m.act.data := by unfold entW; split <;> rfl
  rw [h1]; exact HSM.out.1
 obtain ⟨l, hl⟩ : ∃ l, entriesW m.act = l := ⟨_, rfl⟩
 obtain ⟨t, ht⟩ : ∃ t, (hardW m.act).1 = t := ⟨_, rfl⟩
 obtain ⟨v, hv⟩ : ∃ v, (hardW m.act).2 = v := ⟨_, rfl⟩
 have HEN2 := Lib.hid (fun (W : World) (hq : Fr (fun _ => False) w1 W) => (HEN.out W hq).mono (R' := fun e w' => ∃ (a : Option Addr) (cap : Nat), e = .returned (.slice a l.length cap) ∧ SRow w' (fun k => W.heap.size ≤ k ∧ k < w'.heap.size) 4 (.slice a l.length cap) l.length (entsC l) ∧ Fr (fun _ => False) W w') (by
  rintro e w' ⟨v', rfl, hr, hf⟩
  rw [hl] at hr
  obtain ⟨a, cap, rfl⟩ := ownsRow_shape hr
  exact ⟨a, cap, rfl, (SRow.of_owns hr).mono fun k hk => hr.lt k hk, hf⟩))
 rw [hl, ht, hv] at HE
 rw [ht, hv] at HHA
 rw [ht] at hti
 rw [hv] at hvi
 rw [hl] at hli hll hl7
 have HSV := Lib.hid (fun (W : World) (hq : Fr (fun _ => False) w1 W) (a : Option Addr) (cap : Nat) (hr : SRow W (fun k => w1.heap.size ≤ k ∧ k < W.heap.size) 4 (.slice a l.length cap) l.length (entsC l)) =>
  rsave_h (L := L) (D := D) (HH1.out.wal.quiet hq) HP.out.fit.ok (by rcases HOKD.out with h | ⟨R, b, h, _⟩; exact .inl h; exact .inr ⟨R, b, h⟩) (by have := HP.out.fit.num; omega) hti hvi hr (fun k hk e => by have := HH.out.lt k (HH.out.sub k e); have := HF1.out.size; omega) (by omega) (fun e he => ⟨⟨(hli e he).1, (hli e he).2.1, (hli e he).2.2.1⟩, hl7 e he⟩) (by have := HP.out.fit.few; omega))
 obtain ⟨p, hp⟩ : ∃ p, saveL L D t v l = p := ⟨_, rfl⟩
 rw [hp] at HE HSV
 unfold RActPost RPost at HSV
 have HCW := Lib.hid (fun (o : Nat → Prop) (W : World) (hq : Fr o w1 W) (h1 : ¬ o yb) (h2 : ¬ o w.heap.size) => show W.cell? ⟨yb, 1, none⟩ = some (.pointer (some ⟨rl, 0, none⟩)) ∧ W.cell? ⟨w.heap.size, 0, none⟩ = some (.int .i64 m.act.op) ∧ W.cell? ⟨w.heap.size, 1, none⟩ = some (.int .i64 m.act.term) ∧ W.cell? ⟨w.heap.size, 2, none⟩ = some (.int .i64 m.act.vote) ∧ W.cell? ⟨w.heap.size, 3, none⟩ = some (.int .i64 m.act.index) ∧ W.cell? ⟨w.heap.size, 4, none⟩ = some (.int .i64 m.act.n) ∧ W.cell? ⟨w.heap.size, 5, none⟩ = some (.string (bs m.act.data)) ∧ W.cell? ⟨w.heap.size, 6, none⟩ = some m.va ∧ W.cell? ⟨w.heap.size, 7, none⟩ = some m.vb from
  ⟨hq.cell q1 h1, hq.cell (cell_of hb rfl) h2, hq.cell (cell_of hb rfl) h2, hq.cell (cell_of hb rfl) h2, hq.cell (cell_of hb rfl) h2, hq.cell (cell_of hb rfl) h2, hq.cell (cell_of hb rfl) h2, hq.cell (cell_of hb rfl) h2, hq.cell (cell_of hb rfl) h2⟩)
 have HFX := Lib.hid (fun (W W2 : World) (hq : Fr (fun _ => False) w1 W) (hf : Fr (RAll rl rb lv) W W2) => show Fr (RAll rl rb lv) w1 W2 from (hq.mono (o2 := RAll rl rb lv) fun _ _ h => h.elim).next hf)
 have HNX := Lib.hid (show ¬ RAll rl rb lv yb ∧ ¬ RAll rl rb lv w.heap.size from ⟨fun e => HYT.out _ e rfl, fun e => by have := HLT1.out _ e; omega⟩)
 obtain ⟨y1, y2, y3, y4, y5, y6, y7, y8, y9⟩ := HCW.out (fun _ => False) w1 (Fr.refl _ _) (fun h => h) (fun h => h)
 clear h6 h7 h8 h9 hop0 hl ht hv hti hvi hli hll hl7 hp hb q0 q1 x0 x3 x4 x6 x7 HEN
 go_upto_region 15 with fail
 go_region_held (fun W => W.cell? ⟨yb, 1, none⟩ = some (.pointer (some ⟨rl, 0, none⟩)) ∧ W.cell? ⟨w.heap.size, 0, none⟩ = some (.int .i64 m.act.op) ∧ W.cell? ⟨w.heap.size, 1, none⟩ = some (.int .i64 m.act.term) ∧ W.cell? ⟨w.heap.size, 2, none⟩ = some (.int .i64 m.act.vote) ∧ W.cell? ⟨w.heap.size, 3, none⟩ = some (.int .i64 m.act.index) ∧ W.cell? ⟨w.heap.size, 4, none⟩ = some (.int .i64 m.act.n) ∧ W.cell? ⟨w.heap.size, 5, none⟩ = some (.string (bs m.act.data)) ∧ W.cell? ⟨w.heap.size, 6, none⟩ = some m.va ∧ W.cell? ⟨w.heap.size, 7, none⟩ = some m.vb)
  (first | go_keep | (with_reducible exact pC) | (with_reducible exact pB) | (with_reducible exact pA) | fail)
  (first
   | (go_at_call 49; (with_reducible refine Calls.mono (HHA.out _ (show Fr (fun _ => False) w1 _ by repeat (first | exact Fr.refl _ _ | refine Fr.drew ?_))) ?_); clear HHA; rintro r wA ⟨rfl, hq⟩; have fA := (show Fr (fun _ => False) w1 _ by repeat (first | exact Fr.refl _ _ | refine Fr.drew ?_)).next hq; have pA := HCW.out _ _ fA (fun h => h) (fun h => h); clear hq)
   | (have tok := pA; clear tok; go_at_call 48; (with_reducible refine Calls.mono (HEN2.out _ (show Fr (fun _ => False) w1 _ by repeat (first | exact fA | refine Fr.drew ?_))) ?_); clear HEN2; rintro r wB ⟨ea, ec, rfl, hrow, hq⟩; have fB := (show Fr (fun _ => False) w1 _ by repeat (first | exact fA | refine Fr.drew ?_)).next hq; have HROW := Lib.hid (hrow.mono (S' := fun k => w1.heap.size ≤ k ∧ k < wB.heap.size) fun k hk => ⟨Nat.le_trans fA.size hk.1, hk.2⟩); have pB := HCW.out _ _ fB (fun h => h) (fun h => h); clear hq hrow)
   | (have tok := pB; clear tok; go_at_call 99; (with_reducible refine Calls.mono (HSV.out _ (show Fr (fun _ => False) w1 _ by repeat (first | exact fB | refine Fr.drew ?_)) _ _ (by first | exact HROW.out | exact HROW.out.fr ((Fr.refl (fun _ => False) _).drew) (fun _ _ h => h))) ?_); clear HSV; rintro r wC ⟨rfl, hwC, hq⟩; have HWC := Lib.hid (And.intro hwC hq); have pC := HCW.out _ _ (HFX.out _ _ (show Fr (fun _ => False) w1 _ by repeat (first | exact fB | refine Fr.drew ?_)) hq) HNX.out.1 HNX.out.2; clear hq hwC)
   | fail)
 all_goals
  go_wp2_with fail
  go_ret
  obtain ⟨⟨lv2, le2, hwC⟩, hfC⟩ := HWC.out
  have hX := by first
   | exact HH.out.does (HF1.out.next fB) hwC hfC
   | exact HH.out.does (HF1.out.next fB.drew) hwC hfC
  exact ⟨by rw [HE.out] <;> rfl, by rw [HE.out]; exact hX.1, hX.2⟩
end
end Go.Proofs.YtgmghopcppniaaaGreatDoor
