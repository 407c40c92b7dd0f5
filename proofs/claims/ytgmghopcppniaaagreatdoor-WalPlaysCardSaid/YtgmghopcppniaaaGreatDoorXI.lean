/- The law WalPlays: walked. -/
import Derived.Test.YtgmghopcppniaaaGreatDoorXH
import Derived.Test.YtgmghopcppniaaaGreatDoorXB
namespace Go.Proofs.YtgmghopcppniaaaGreatDoor
open Go.RowKit Go.Lib

theorem anyH_mono {P : Program} {ops : Array Oper} {Q : Exit → Act → World → Prop} {md : Region.Mode} {S S2 : World → Prop} (h : ∀ w, S2 w → S w) : ∀ (k : Nat) (listed : Array Bool) (a : Act) (w : World), wpAnyH P md ops Q S2 k listed a w → wpAnyH P md ops Q S k listed a w
 | 0, _, _, _, h1 => h1
 | k + 1, _, _, _, h1 => ⟨h1.1, fun i hi => wpOp_mono (fun a' w' h' => ⟨h _ h'.1, anyH_mono h k _ a' w' h'.2⟩) (h1.2 i hi)⟩
/-- the program's log and the reference's, side by side -/
def PSt (w0 : World) (xb yb : Nat) (L : LogD) (D : DiskD) (st : StD) (DR : DiskD) (wr : World) : Prop :=
 ∃ A B, WLaw wr A xb L D ∧ RLaw wr B yb st DR ∧ (∀ k, A k → w0.heap.size ≤ k) ∧ (∀ k, B k → w0.heap.size ≤ k ∧ ¬ A k) ∧ Fr (fun _ => False) w0 wr
section
variable {w w' wr w0 : World} {xb yb i : Nat} {L : LogD} {D DR : DiskD} {st : StD} {m : ActWM}
theorem PSt.quiet (h : PSt w0 xb yb L D st DR wr) (hf : Fr (fun _ => False) wr w') : PSt w0 xb yb L D st DR w' := by
 obtain ⟨A, B, h1, h2, h3, h4, h5⟩ := h
 exact ⟨A, B, h1.quiet hf, h2.fr hf fun _ _ h => h, h3, h4, h5.next hf⟩
theorem pst_wdoes (h : PSt w0 xb yb L D st DR wr) (hP : PlayInv L D i) (hi : i ≤ 50) (h8 : 8 ≤ w0.heap.size) (hA : ActWIn wr (fun k => k < w0.heap.size) m) (hs : SmallWM m) :
  Calls Tryz.prog 43 #[.pointer (some ⟨xb, 0, none⟩), actWV m] wr fun e w' => e = .returned (.int .i64 (doesA L D m.act).1) ∧ PSt w0 xb yb (doesA L D m.act).2.1 (doesA L D m.act).2.2 st DR w' := by
 obtain ⟨A, B, h1, h2, h3, h4, h5⟩ := h
 have hx8 : 8 ≤ xb := by
  obtain ⟨S, lp, pb, mb, ve, vs, h⟩ := h1
  have := h3 xb h.axb
  omega
 have hbl : ∀ k, B k → k < wr.heap.size := by
  obtain ⟨T, rl, rb, lv, le, h⟩ := h2
  exact h.lt
 refine (wdoesA_h h1 hP hi hA (fun k hk e => by have := h3 k e; omega) hx8 hs).mono ?_
 rintro e w' ⟨rfl, h6, h7⟩
 refine ⟨rfl, _, B, h6, h2.fr h7 (fun k hk e => (h4 k hk).2 e), fun k hk => ?_, fun k hk => ⟨(h4 k hk).1, fun e => ?_⟩, h5.trans h7 fun k hk => .inr (h3 k hk)⟩
 ·rcases hk with hk | ⟨hk, _⟩
  ·exact h3 k hk
  ·have := h5.size; omega
 ·rcases e with e | ⟨e, _⟩
  ·exact (h4 k hk).2 e
  ·have := hbl k hk; omega
theorem pst_rdoes {L2 : LogD} {D2 : DiskD} (h : PSt w0 xb yb L2 D2 L.st D wr) (hP : PlayInv L D i) (hi : i ≤ 50) (h8 : 8 ≤ w0.heap.size) (hA : ActWIn wr (fun k => k < w0.heap.size) m) (hs : SmallWM m) :
  Calls Tryz.prog 44 #[.pointer (some ⟨yb, 0, none⟩), actWV m] wr fun e w' => e = .returned (.int .i64 (doesA L D m.act).1) ∧ PSt w0 xb yb L2 D2 (doesA L D m.act).2.1.st (doesA L D m.act).2.2 w' := by
 obtain ⟨A, B, h1, h2, h3, h4, h5⟩ := h
 refine (rdoes_h (L := L) h2 hP hi hA (fun k hk e => by have := (h4 k e).1; omega) hs).mono ?_
 rintro e w' ⟨rfl, h6, h7⟩
 obtain ⟨S, lp, pb, mb, ve, vs, h⟩ := h1
 refine ⟨rfl, A, _, ⟨S, lp, pb, mb, ve, vs, h.fr h7 (fun k hk e => (h4 k e).2 hk) (h.wal.env.fr h7 (fun k hk e => by have := (h4 k e).1; omega))⟩, h6, h3, fun k hk => ?_, h5.trans h7 fun k hk => .inr (h4 k hk).1⟩
 rcases hk with hk | ⟨hk, _⟩
 ·exact h4 k hk
 ·exact ⟨by have := h5.size; omega, fun e => by have := h.lt k e; omega⟩
theorem nums_segs {R : Nat → List RecD} {b : Nat} (h : LogOK L D R b) : ∃ nl : List Nat, nl.length = L.pre.length + 1 ∧ segNames (L.pre ++ [L.last]) = nl.map nameW ∧ numsD D.files = nl.map (fun n => ((n : Nat) : Int)) ∧ ∀ n ∈ nl, 0 < n ∧ n < 1000000 := by
 refine ⟨L.pre.map (·.num) ++ [L.last.num], by simp, ?_, h.numsI, fun n hn => h.held.at'.range n hn⟩
 unfold segNames
 simp
set_option maxRecDepth 100000 in
set_option maxHeartbeats 16000000 in
theorem walplays_h {z : Int} {v : Value} {l : List ActWM} (hE : Env w) (h8 : 8 ≤ w.heap.size) (hz : I64 z) (hA : ActsW w (fun k => k < w.heap.size) v l) :
  Calls Tryz.prog 9 #[.int .i64 z, v] w fun e w' => e = .returned (.bool true) ∧ Fr (fun _ => False) w w' := by
 have HSH := Lib.hid (wshown_h hE h8)
 have HA := Lib.hid hA
 have HE := Lib.hid hE
 have H8 := Lib.hid h8
 have HPO := Lib.hid (fun W : World => wpick_h (w := W) hz.1 hz.2 (n := 20000) (by decide) (by decide))
 have hz0 := (pick_in (c := z) (n := 20000) (by decide))
 obtain ⟨y, hy⟩ : ∃ y, pickZ z 20000 = y := ⟨_, rfl⟩
 rw [hy] at HPO hz0
 have i1 : IntKind.i64.wrap (100 + y) = 100 + y := IntWalk.i64_in _ (by omega)
 have HY := Lib.hid hz0
 clear hA hE h8 hz hy hz0
 go_enter Tryz.func9, Tryz.ntmps9
 go_wp2_with fail
 refine Calls.mono HSH.out ?_
 rintro e w1 ⟨rfl, hf1⟩
 have HF1 := Lib.hid hf1
 have hs1 := hf1.size
 clear hf1 HSH
 have HSM := Lib.hid (wsmall_h (HA.out.grow HF1.out))
 unfold SmallWPost at HSM
 go_wp2_with fail
 refine Calls.mono HSM.out ?_
 rintro e w2 ⟨r, rfl, hrl, rfl⟩
 clear HSM
 cases r with
 | false =>
  clear hrl
  go_wp2_with fail
  go_ret
  exact ⟨rfl, HF1.out⟩
 | true =>
 have HSL := Lib.hid (hrl.1 rfl)
 have HBE := Lib.hid (begin_h (HE.out.grow HF1.out) (by have := H8.out; omega) (most := 100 + y) (by have := HY.out; omega) (by have := HY.out; omega))
 have HP0 := Lib.hid (PlayInv.start (most := 100 + y) (by have := HY.out; omega) (by have := HY.out; omega))
 unfold BeginPost at HBE
 clear hrl
 go_wp2_with fail
 refine Calls.mono (HPO.out _) ?_
 rintro e w3 ⟨rfl, hw3⟩
 subst hw3
 clear HPO
 go_wp2_with fail
 refine Calls.mono HBE.out ?_
 rintro e w2 ⟨xb, yb, A, B, rfl, hW, hAA, hR, hBB, hf2⟩
 have HL0 : Hid (PSt w xb yb beginL (beginD (100 + y)) beginL.st (beginD (100 + y)) w2 ∧ PlayInv beginL (beginD (100 + y)) 0) := Lib.hid ⟨⟨A, B, hW, hR, fun k hk => by have := hAA k hk; omega, fun k hk => ⟨by have := (hBB k hk).1; omega, (hBB k hk).2⟩, HF1.out.next hf2⟩, HP0.out⟩
 clear hW hAA hR hBB hf2 HBE
 have hl40 := HSL.out.1
 go_wp2_with fail
 go_loopg [10] l.length (fun j v10 wr => ∃ (i : Nat) (L : LogD) (D : DiskD), i + j = l.length ∧ v10 = .int .i64 (i : Int) ∧ Hid (PSt w xb yb L D L.st D wr ∧ PlayInv L D i))
 case atStart => exact ⟨0, _, _, by omega, rfl, HL0⟩
 case round =>
  obtain ⟨i, L, D, hi, rfl, HK⟩ := hrel
  have HI := Lib.hid hi
  clear hi HL0
  have hfw : Fr (fun _ => False) w wr := by obtain ⟨_, _, _, _, _, _, h⟩ := HK.out.1; exact h
  obtain ⟨⟨a, cap, rfl, hc1, hc2, hcell⟩, hacts⟩ := HA.out
  have HFW := Lib.hid hfw
  clear hfw
  by_cases hlt : i < l.length
  ·have hlti : (i : Int) < (l.length : Int) := by omega
   obtain ⟨m, hm⟩ : ∃ m, l[i]? = some m := ⟨_, List.getElem?_eq_getElem hlt⟩
   obtain ⟨g, off, rfl, hS, hcs⟩ := hcell (by omega)
   have hin := hacts m (List.mem_of_getElem? hm)
   have HSMA := Lib.hid (HSL.out.2 m (List.mem_of_getElem? hm))
   have HIN := Lib.hid (fun (W : World) (hF : Fr (fun _ => False) w W) => hin.fr hF (fun _ _ h => h))
   have HCE := Lib.hid (fun (W : World) (hF : Fr (fun _ => False) w W) => show W.cell? ⟨g, off + i * 8, none⟩ = some (.int .i64 m.act.op) ∧ W.cell? ⟨g, off + i * 8 + 1, none⟩ = some (.int .i64 m.act.term) ∧ W.cell? ⟨g, off + i * 8 + 2, none⟩ = some (.int .i64 m.act.vote) ∧ W.cell? ⟨g, off + i * 8 + 3, none⟩ = some (.int .i64 m.act.index) ∧ W.cell? ⟨g, off + i * 8 + 4, none⟩ = some (.int .i64 m.act.n) ∧ W.cell? ⟨g, off + i * 8 + 5, none⟩ = some (.string (bs m.act.data)) ∧ W.cell? ⟨g, off + i * 8 + 6, none⟩ = some m.va ∧ W.cell? ⟨g, off + i * 8 + 7, none⟩ = some m.vb from
    ⟨hF.cell (by have h := hcs i m 0 _ hm rfl; rw [Nat.add_zero] at h; exact h) (fun h => h), hF.cell (hcs i m 1 _ hm rfl) (fun h => h), hF.cell (hcs i m 2 _ hm rfl) (fun h => h), hF.cell (hcs i m 3 _ hm rfl) (fun h => h), hF.cell (hcs i m 4 _ hm rfl) (fun h => h), hF.cell (hcs i m 5 _ hm rfl) (fun h => h), hF.cell (hcs i m 6 _ hm rfl) (fun h => h), hF.cell (hcs i m 7 _ hm rfl) (fun h => h)⟩)
   have HPI := Lib.hid (HK.out.2.doesA (a := m.act) (hin.good HSMA.out) (by omega))
   have HD1 := Lib.hid (fun (W : World) (hq : Fr (fun _ => False) wr W) => pst_wdoes (m := m) (HK.out.1.quiet hq) HK.out.2 (by omega) H8.out (HIN.out _ (HFW.out.next hq)) HSMA.out)
   have HD2 := Lib.hid (fun (L2 : LogD) (D2 : DiskD) (W : World) (h : PSt w xb yb L2 D2 L.st D W) => pst_rdoes (m := m) h HK.out.2 (by omega) H8.out (HIN.out _ (by obtain ⟨_, _, _, _, _, _, h⟩ := h; exact h)) HSMA.out)
   obtain ⟨⟨c, L2, D2⟩, hp⟩ : ∃ p, doesA L D m.act = p := ⟨_, rfl⟩
   rw [hp] at HPI HD1 HD2
   dsimp only at HPI HD1 HD2
   have HD3 := Lib.hid (HD2.out L2 D2)
   have HFP := Lib.hid (fun (L : LogD) (D : DiskD) (st : StD) (DR : DiskD) (W : World) (h : PSt w xb yb L D st DR W) => show Fr (fun _ => False) w W by obtain ⟨_, _, _, _, _, _, h⟩ := h; exact h)
   have HDL := Lib.hid (fun (W : World) (h : PSt w xb yb L2 D2 L2.st D2 W) => show ∃ pb rb : Nat, W.cell? ⟨xb, 0, none⟩ = some (.pointer (some ⟨pb, 0, none⟩)) ∧ W.cell? ⟨yb, 0, none⟩ = some (.pointer (some ⟨rb, 0, none⟩)) ∧ W.cell? ⟨rb, 3, none⟩ = some (.bool D2.dead) ∧ (∀ V : World, Fr (fun _ => False) W V → Calls Tryz.prog 26 #[.pointer (some ⟨pb, 0, none⟩)] V fun e w' => e = .returned (.bool D2.dead) ∧ V = w') by
    obtain ⟨A, B, ⟨S, lp, pb, mb, ve, vs, hW⟩, ⟨T, rl, rb, lv, le, hR⟩, _, _, _⟩ := h
    exact ⟨pb, rb, cell_of hW.head rfl, cell_of hR.head rfl, hR.wal.disk.cells.2.2.2, fun V hV => dead_h (hW.quiet hV).wal.disk⟩)
   have hcc : (c != c) = false := by simp
   have HIL := Lib.hid (And.intro hlt hl40)
   clear hm hcs hin hS hcell hacts hp HD2 hc1 hc2
   obtain ⟨q0, q1, q2, q3, q4, q5, q6, q7⟩ := HCE.out wr HFW.out
   unfold actWV cellsWM at HD1 HD3
   go_upto_region 11 with fail
   go_cut [67] (fun s67 wx => s67 = .bool false ∧ Hid (PSt w xb yb L2 D2 L2.st D2 wx))
   case first =>
    obtain ⟨dd, hdd⟩ : ∃ d, D2.dead = d := ⟨_, rfl⟩
    rw [hdd] at HDL
    clear hdd
    have hddd : (dd != dd) = false := by simp
    refine wp_region_held_drew (S := (fun W => W.cell? ⟨g, off + i * 8, none⟩ = some (.int .i64 m.act.op) ∧ W.cell? ⟨g, off + i * 8 + 1, none⟩ = some (.int .i64 m.act.term) ∧ W.cell? ⟨g, off + i * 8 + 2, none⟩ = some (.int .i64 m.act.vote) ∧ W.cell? ⟨g, off + i * 8 + 3, none⟩ = some (.int .i64 m.act.index) ∧ W.cell? ⟨g, off + i * 8 + 4, none⟩ = some (.int .i64 m.act.n) ∧ W.cell? ⟨g, off + i * 8 + 5, none⟩ = some (.string (bs m.act.data)) ∧ W.cell? ⟨g, off + i * 8 + 6, none⟩ = some (m.va) ∧ W.cell? ⟨g, off + i * 8 + 7, none⟩ = some (m.vb))) (by kernel_rfl) ?hS0 (fun hHeld => ?hR0)
    case hS0 => (try dsimp only); go_keep
    clear q0 q1 q2 q3 q4 q5 q6 q7
    refine tk (i := 0) (o := ⟨some 40, _, _, _, _, _⟩) (v := ?v0) rfl (Or.inl ⟨by rfl, ?hy0⟩) hHeld ?rest0
    case hy0 => intro wS hSw; (try dsimp only at hSw); go_simp; (try with_reducible rfl)
    (try simp only [Act.put, List.setIfInBounds_toArray, List.set_cons_zero, List.set_cons_succ])
    refine tk (i := 1) (o := ⟨some 41, _, _, _, _, _⟩) (v := ?v1) rfl (Or.inl ⟨by rfl, ?hy1⟩) hHeld ?rest1
    case hy1 => intro wS hSw; (try dsimp only at hSw); go_simp; (try with_reducible rfl)
    (try simp only [Act.put, List.setIfInBounds_toArray, List.set_cons_zero, List.set_cons_succ])
    refine tk (i := 2) (o := ⟨some 42, _, _, _, _, _⟩) (v := ?v2) rfl (Or.inl ⟨by rfl, ?hy2⟩) hHeld ?rest2
    case hy2 => intro wS hSw; (try dsimp only at hSw); go_simp; (try with_reducible rfl)
    (try simp only [Act.put, List.setIfInBounds_toArray, List.set_cons_zero, List.set_cons_succ])
    refine tk (i := 3) (o := ⟨some 43, _, _, _, _, _⟩) (v := ?v3) rfl (Or.inl ⟨by rfl, ?hy3⟩) hHeld ?rest3
    case hy3 => intro wS hSw; (try dsimp only at hSw); go_simp; (try with_reducible rfl)
    (try simp only [Act.put, List.setIfInBounds_toArray, List.set_cons_zero, List.set_cons_succ])
    refine tk (i := 4) (o := ⟨some 44, _, _, _, _, _⟩) (v := ?v4) rfl (Or.inl ⟨by rfl, ?hy4⟩) hHeld ?rest4
    case hy4 => intro wS hSw; (try dsimp only at hSw); go_simp; (try with_reducible rfl)
    (try simp only [Act.put, List.setIfInBounds_toArray, List.set_cons_zero, List.set_cons_succ])
    refine tk (i := 6) (o := ⟨some 46, _, _, _, _, _⟩) (v := ?v6) rfl (Or.inl ⟨by rfl, ?hy6⟩) hHeld ?rest6
    case hy6 => intro wS hSw; (try dsimp only at hSw); go_simp; (try with_reducible rfl)
    (try simp only [Act.put, List.setIfInBounds_toArray, List.set_cons_zero, List.set_cons_succ])
    refine tk (i := 7) (o := ⟨some 47, _, _, _, _, _⟩) (v := ?v7) rfl (Or.inl ⟨by rfl, ?hy7⟩) hHeld ?rest7
    case hy7 => intro wS hSw; (try dsimp only at hSw); go_simp; (try with_reducible rfl)
    (try simp only [Act.put, List.setIfInBounds_toArray, List.set_cons_zero, List.set_cons_succ])
    refine tk (i := 8) (o := ⟨some 48, _, _, _, _, _⟩) (v := ?v8) rfl (Or.inl ⟨by rfl, ?hy8⟩) hHeld ?rest8
    case hy8 => intro wS hSw; (try dsimp only at hSw); go_simp; (try with_reducible rfl)
    (try simp only [Act.put, List.setIfInBounds_toArray, List.set_cons_zero, List.set_cons_succ])
    refine tk (i := 9) (o := ⟨some 49, _, _, _, _, _⟩) (v := ?v9) rfl (Or.inl ⟨by rfl, ?hy9⟩) hHeld ?rest9
    case hy9 => intro wS hSw; (try dsimp only at hSw); go_simp; (try with_reducible rfl)
    (try simp only [Act.put, List.setIfInBounds_toArray, List.set_cons_zero, List.set_cons_succ])
    refine tk (i := 10) (o := ⟨some 50, _, _, _, _, _⟩) (v := ?v10) rfl (Or.inl ⟨by rfl, ?hy10⟩) hHeld ?rest10
    case hy10 => intro wS hSw; (try dsimp only at hSw); go_simp; (try with_reducible rfl)
    (try simp only [Act.put, List.setIfInBounds_toArray, List.set_cons_zero, List.set_cons_succ])
    refine wpAnyH_ready (rs := [5]) (by kernel_rfl) (by simp) ?_
    refine AllReadyH.cons rfl (fun K hK => ?_) AllReadyH.nil
    go_simp
    refine Calls.mono (HD1.out _ ((Fr.refl (fun _ => False) wr).drew)) ?_
    rintro r wA ⟨rfl, hA⟩
    have HPA := Lib.hid hA
    have pA := HCE.out wA (HFP.out _ _ _ _ _ hA)
    clear hA hHeld HD1
    refine hK.out _ _ pA (fun hHeld => ?_)
    clear hK K
    (try simp only [Act.put, List.setIfInBounds_toArray, List.set_cons_zero, List.set_cons_succ])
    refine wpAnyH_ready (rs := [11]) (by kernel_rfl) (by simp) ?_
    refine AllReadyH.cons rfl (fun K hK => ?_) AllReadyH.nil
    go_simp
    refine Calls.mono (HD3.out _ HPA.out) ?_
    rintro r wB ⟨rfl, hB⟩
    have HPB := Lib.hid hB
    have pB := HCE.out wB (HFP.out _ _ _ _ _ hB)
    obtain ⟨pb, rb, b0, b1, b2, hd⟩ := HDL.out wB hB
    have HDE := Lib.hid hd
    clear hB hd hHeld HD3 HDL
    refine hK.out _ _ pB (fun hHeld => ?_)
    clear hK K
    (try simp only [Act.put, List.setIfInBounds_toArray, List.set_cons_zero, List.set_cons_succ])
    refine tk (i := 12) (o := ⟨some 52, _, _, _, _, _⟩) (v := ?v12) rfl (Or.inl ⟨by rfl, ?hy12⟩) hHeld ?rest12
    case hy12 => intro wS hSw; (try dsimp only at hSw); go_simp; (try with_reducible rfl)
    (try simp only [Act.put, List.setIfInBounds_toArray, List.set_cons_zero, List.set_cons_succ])
    refine tk (i := 13) (o := ⟨some 53, _, _, _, _, _⟩) (v := ?v13) rfl (Or.inl ⟨by rfl, ?hy13⟩) hHeld ?rest13
    case hy13 => intro wS hSw; (try dsimp only at hSw); go_simp; (try with_reducible rfl)
    (try simp only [Act.put, List.setIfInBounds_toArray, List.set_cons_zero, List.set_cons_succ])
    refine anyH_mono (S2 := (fun W => W.cell? ⟨xb, 0, none⟩ = some (.pointer (some ⟨pb, 0, none⟩)) ∧ W.cell? ⟨yb, 0, none⟩ = some (.pointer (some ⟨rb, 0, none⟩)) ∧ W.cell? ⟨rb, 3, none⟩ = some (.bool dd) ∧ W.cell? ⟨g, off + i * 8, none⟩ = some (.int .i64 m.act.op) ∧ W.cell? ⟨g, off + i * 8 + 1, none⟩ = some (.int .i64 m.act.term) ∧ W.cell? ⟨g, off + i * 8 + 2, none⟩ = some (.int .i64 m.act.vote) ∧ W.cell? ⟨g, off + i * 8 + 3, none⟩ = some (.int .i64 m.act.index) ∧ W.cell? ⟨g, off + i * 8 + 4, none⟩ = some (.int .i64 m.act.n) ∧ W.cell? ⟨g, off + i * 8 + 5, none⟩ = some (.string (bs m.act.data)) ∧ W.cell? ⟨g, off + i * 8 + 6, none⟩ = some (m.va) ∧ W.cell? ⟨g, off + i * 8 + 7, none⟩ = some (m.vb))) (fun W h => h.2.2.2) _ _ _ _ ?_
    have hHeld2 : (fun W => W.cell? ⟨xb, 0, none⟩ = some (.pointer (some ⟨pb, 0, none⟩)) ∧ W.cell? ⟨yb, 0, none⟩ = some (.pointer (some ⟨rb, 0, none⟩)) ∧ W.cell? ⟨rb, 3, none⟩ = some (.bool dd) ∧ W.cell? ⟨g, off + i * 8, none⟩ = some (.int .i64 m.act.op) ∧ W.cell? ⟨g, off + i * 8 + 1, none⟩ = some (.int .i64 m.act.term) ∧ W.cell? ⟨g, off + i * 8 + 2, none⟩ = some (.int .i64 m.act.vote) ∧ W.cell? ⟨g, off + i * 8 + 3, none⟩ = some (.int .i64 m.act.index) ∧ W.cell? ⟨g, off + i * 8 + 4, none⟩ = some (.int .i64 m.act.n) ∧ W.cell? ⟨g, off + i * 8 + 5, none⟩ = some (.string (bs m.act.data)) ∧ W.cell? ⟨g, off + i * 8 + 6, none⟩ = some (m.va) ∧ W.cell? ⟨g, off + i * 8 + 7, none⟩ = some (m.vb)) wB := ⟨b0, b1, b2, pB⟩
    clear hHeld
    have hHeld := hHeld2
    clear hHeld2 b0 b1 b2 pB
    refine tk (i := 14) (o := ⟨some 54, _, _, _, _, _⟩) (v := ?v14) rfl (Or.inl ⟨by rfl, ?hy14⟩) hHeld ?rest14
    case hy14 => intro wS hSw; (try dsimp only at hSw); go_simp; (try with_reducible rfl)
    (try simp only [Act.put, List.setIfInBounds_toArray, List.set_cons_zero, List.set_cons_succ])
    refine tk (i := 15) (o := ⟨some 55, _, _, _, _, _⟩) (v := ?v15) rfl (Or.inl ⟨by rfl, ?hy15⟩) hHeld ?rest15
    case hy15 => intro wS hSw; (try dsimp only at hSw); go_simp; (try with_reducible rfl)
    (try simp only [Act.put, List.setIfInBounds_toArray, List.set_cons_zero, List.set_cons_succ])
    refine tk (i := 16) (o := ⟨some 56, _, _, _, _, _⟩) (v := ?v16) rfl (Or.inl ⟨by rfl, ?hy16⟩) hHeld ?rest16
    case hy16 => intro wS hSw; (try dsimp only at hSw); go_simp; (try with_reducible rfl)
    (try simp only [Act.put, List.setIfInBounds_toArray, List.set_cons_zero, List.set_cons_succ])
    refine tk (i := 17) (o := ⟨some 57, _, _, _, _, _⟩) (v := ?v17) rfl (Or.inl ⟨by rfl, ?hy17⟩) hHeld ?rest17
    case hy17 => intro wS hSw; (try dsimp only at hSw); go_simp; (try with_reducible rfl)
    (try simp only [Act.put, List.setIfInBounds_toArray, List.set_cons_zero, List.set_cons_succ])
    refine tk (i := 19) (o := ⟨some 59, _, _, _, _, _⟩) (v := ?v19) rfl (Or.inl ⟨by rfl, ?hy19⟩) hHeld ?rest19
    case hy19 => intro wS hSw; (try dsimp only at hSw); go_simp; (try with_reducible rfl)
    (try simp only [Act.put, List.setIfInBounds_toArray, List.set_cons_zero, List.set_cons_succ])
    refine tk (i := 20) (o := ⟨some 60, _, _, _, _, _⟩) (v := ?v20) rfl (Or.inl ⟨by rfl, ?hy20⟩) hHeld ?rest20
    case hy20 => intro wS hSw; (try dsimp only at hSw); go_simp; (try with_reducible rfl)
    (try simp only [Act.put, List.setIfInBounds_toArray, List.set_cons_zero, List.set_cons_succ])
    refine tk (i := 21) (o := ⟨some 61, _, _, _, _, _⟩) (v := ?v21) rfl (Or.inl ⟨by rfl, ?hy21⟩) hHeld ?rest21
    case hy21 => intro wS hSw; (try dsimp only at hSw); go_simp; (try with_reducible rfl)
    (try simp only [Act.put, List.setIfInBounds_toArray, List.set_cons_zero, List.set_cons_succ])
    refine tk (i := 22) (o := ⟨some 62, _, _, _, _, _⟩) (v := ?v22) rfl (Or.inl ⟨by rfl, ?hy22⟩) hHeld ?rest22
    case hy22 => intro wS hSw; (try dsimp only at hSw); go_simp; (try with_reducible rfl)
    (try simp only [Act.put, List.setIfInBounds_toArray, List.set_cons_zero, List.set_cons_succ])
    refine tk (i := 23) (o := ⟨some 63, _, _, _, _, _⟩) (v := ?v23) rfl (Or.inl ⟨by rfl, ?hy23⟩) hHeld ?rest23
    case hy23 => intro wS hSw; (try dsimp only at hSw); go_simp; (try with_reducible rfl)
    (try simp only [Act.put, List.setIfInBounds_toArray, List.set_cons_zero, List.set_cons_succ])
    refine tk (i := 24) (o := ⟨some 64, _, _, _, _, _⟩) (v := ?v24) rfl (Or.inl ⟨by rfl, ?hy24⟩) hHeld ?rest24
    case hy24 => intro wS hSw; (try dsimp only at hSw); go_simp; (try with_reducible rfl)
    (try simp only [Act.put, List.setIfInBounds_toArray, List.set_cons_zero, List.set_cons_succ])
    refine tk (i := 25) (o := ⟨some 65, _, _, _, _, _⟩) (v := ?v25) rfl (Or.inl ⟨by rfl, ?hy25⟩) hHeld ?rest25
    case hy25 => intro wS hSw; (try dsimp only at hSw); go_simp; (try with_reducible rfl)
    (try simp only [Act.put, List.setIfInBounds_toArray, List.set_cons_zero, List.set_cons_succ])
    refine wpAnyH_ready (rs := [18]) (by kernel_rfl) (by simp) ?_
    refine AllReadyH.cons rfl (fun K hK => ?_) AllReadyH.nil
    go_simp
    refine Calls.mono (HDE.out _ (Fr.refl _ _)) ?_
    rintro r wC ⟨rfl, hwC⟩
    subst hwC
    clear HDE
    refine hK.out _ _ hHeld (fun hHeld => ?_)
    clear hK K
    (try simp only [Act.put, List.setIfInBounds_toArray, List.set_cons_zero, List.set_cons_succ])
    refine tk (i := 26) (o := ⟨some 66, _, _, _, _, _⟩) (v := ?v26) rfl (Or.inl ⟨by rfl, ?hy26⟩) hHeld ?rest26
    case hy26 => intro wS hSw; (try dsimp only at hSw); go_simp; (try with_reducible rfl)
    (try simp only [Act.put, List.setIfInBounds_toArray, List.set_cons_zero, List.set_cons_succ])
    refine tk (i := 27) (o := ⟨some 67, _, _, _, _, _⟩) (v := ?v27) rfl (Or.inl ⟨by rfl, ?hy27⟩) hHeld ?rest27
    case hy27 => intro wS hSw; (try dsimp only at hSw); go_simp; (try with_reducible rfl)
    (try simp only [Act.put, List.setIfInBounds_toArray, List.set_cons_zero, List.set_cons_succ])
    refine wpAnyH_done (by kernel_rfl) ?_ _
    go_wp2_with fail
    go_meet
    exact ⟨rfl, HPB⟩
   case rest =>
   obtain ⟨rfl, HX⟩ := hcut
   obtain ⟨wn, hwn⟩ : ∃ x, x = wc := ⟨_, rfl⟩
   rw [← hwn] at HX ⊢
   clear hwn q0 q1 q2 q3 q4 q5 q6 q7 HCE HD1 HD3 HDL hcc HIN
   obtain ⟨A2, B2, ⟨S, lp, pb, mb, ve, vs, hW⟩, ⟨T, rl, rb, lv, le, hR⟩, hAw, hBw, hF⟩ := HX.out
   have HW := Lib.hid hW
   have HR := Lib.hid hR
   have x0 := cell_of hW.head (i := 0) (v := .pointer (some ⟨pb, 0, none⟩)) rfl
   have x1 := cell_of hW.head (i := 1) (v := .pointer (some ⟨lp, 0, none⟩)) rfl
   have y1 := cell_of hR.head (i := 1) (v := .pointer (some ⟨rl, 0, none⟩)) rfl
   have HDE := Lib.hid (dead_h hW.wal.disk)
   clear hW hR hAw hBw hF
   obtain ⟨dd, hdd⟩ : ∃ d, D2.dead = d := ⟨_, rfl⟩
   rw [hdd] at HDE
   have HDD := Lib.hid hdd
   clear hdd
   go_wp2_with fail
   refine Calls.mono HDE.out ?_
   rintro e w4 ⟨rfl, hw4⟩
   subst hw4
   clear HDE
   cases dd with
   | true =>
    go_wp2_with fail
    go_roundg (l.length - (i + 1))
    case measure => have := HI.out; omega
    case rel => exact ⟨i + 1, L2, D2, by have := HI.out; omega, by go_num, Lib.hid ⟨HX.out, HPI.out⟩⟩
   | false =>
   obtain ⟨R, b, hOK⟩ : ∃ R b, LogOK L2 D2 R b := by
    rcases HPI.out.state with ⟨_, R, h⟩ | ⟨h, _⟩
    ·exact ⟨R, _, h⟩
    ·rw [HDD.out] at h; cases h
   obtain ⟨nl, hnl, hsn, hnm, hnr⟩ := nums_segs hOK
   have hmany := hOK.many
   have hfit := HPI.out.fit
   have hnl20 : nl.length ≤ 20 := by omega
   have HNU := Lib.hid (rnumbers_h HR.out.wal)
   unfold NumbPost at HNU
   rw [hnm, List.length_map] at HNU
   have HNR := Lib.hid hnr
   have HSG := Lib.hid (fun (W : World) (hq : Fr (fun _ => False) wn W) => sh_segments (HW.out.sh.quiet hq) (fun s hs => by
    rcases List.mem_append.1 hs with hs | hs
    ·exact hfit.pre s hs
    ·rw [List.mem_singleton.1 hs]; exact ⟨hfit.num0, by have := hfit.num; omega⟩) (by have := hfit.many; simp; omega) hsn)
   rw [List.length_map] at HSG
   have HHD := Lib.hid (fun (W : World) (hq : Fr (fun _ => False) wn W) => sh_hard (HW.out.sh.quiet hq))
   have HEN := Lib.hid (fun (W : World) (hq : Fr (fun _ => False) wn W) => sh_entries (l := L2.st.ents) (HW.out.sh.quiet hq) (by have := hfit.few; omega) rfl)
   have HRE := Lib.hid (fun (W : World) (hq : Fr (fun _ => False) wn W) => (HR.out.quiet hq).wal.ents)
   have HRC := Lib.hid (fun (W : World) (hq : Fr (fun _ => False) wn W) => (HR.out.quiet hq).wal.cells)
   obtain ⟨ts, hts⟩ : ∃ x, L2.st.t = x := ⟨_, rfl⟩
   obtain ⟨us, hus⟩ : ∃ x, L2.st.v = x := ⟨_, rfl⟩
   obtain ⟨es, hes⟩ : ∃ x, L2.st.ents = x := ⟨_, rfl⟩
   have hel : es.length ≤ 1000000 := by rw [← hes]; have := hfit.few; omega
   have HEL := Lib.hid hel
   rw [hts, hus] at HHD
   rw [hes] at HEN HRE
   rw [hts, hus] at HRC
   have hnq := neq61 ts us ts us
   rw [show (!(ts == ts && us == us)) = false by simp] at hnq
   have hnn : ((nl.length : Int) != (nl.length : Int)) = false := by simp
   clear hOK hnl hsn hnm hnr hmany hfit hts hus hes hel x0
   go_wp2_with fail
   refine Calls.mono HNU.out ?_
   rintro e w5 ⟨v5, rfl, hrow5, hf5⟩
   obtain ⟨na, nc, rfl⟩ : ∃ a c, v5 = .slice a nl.length c := ownsRow_shape hrow5
   have HN5 : Hid (SRow w5 (fun _ => True) 1 (.slice na nl.length nc) nl.length ((nl.map fun n => ((n : Nat) : Int)).map (Value.int .i64))) := Lib.hid ((SRow.of_owns hrow5).mono fun _ _ => trivial)
   have HF5 := Lib.hid hf5
   have x5 := hf5.cell x1 (fun h => h)
   clear hrow5 hf5 HNU
   have HS5 := Lib.hid (HSG.out _ HF5.out)
   go_wp2_with fail
   refine Calls.mono HS5.out ?_
   rintro e w6 ⟨sa, sc, rfl, hr6, hf6⟩
   have HS6 : Hid (SRow w6 (fun _ => True) 1 (.slice sa nl.length sc) nl.length ((nl.map nameW).map encS)) := Lib.hid (hr6.mono fun _ _ => trivial)
   have HN6 := Lib.hid (HN5.out.fr hf6 (fun _ _ h => h))
   have HF6 := Lib.hid (HF5.out.next hf6)
   clear hr6 hf6 HS5 HSG x5 HN5
   have HCX := Lib.hid (fun (W : World) (hq : Fr (fun _ => False) wn W) => show W.cell? ⟨xb, 1, none⟩ = some (.pointer (some ⟨lp, 0, none⟩)) ∧ W.cell? ⟨yb, 1, none⟩ = some (.pointer (some ⟨rl, 0, none⟩)) ∧ W.cell? ⟨rl, 1, none⟩ = some (.int .i64 ts) ∧ W.cell? ⟨rl, 2, none⟩ = some (.int .i64 us) ∧ W.cell? ⟨rl, 3, none⟩ = some le from
    ⟨hq.cell x1 (fun h => h), hq.cell y1 (fun h => h), (HRC.out W hq).2.1, (HRC.out W hq).2.2.1, (HRC.out W hq).2.2.2⟩)
   have HSE := Lib.hid (fun (W : World) (hq : Fr (fun _ => False) wn W) (S1 : Nat → Prop) (a : Option Addr) (cap : Nat) (hr : SRow W S1 4 (.slice a es.length cap) es.length (entsC es)) => show Calls Tryz.prog 38 #[.slice a es.length cap, le] W fun e w' => e = .returned (.bool true) ∧ Fr (fun _ => False) W w' by
    have h := sameents_h hr (HRE.out W hq) HEL.out
    rw [decide_eq_true (rfl : es = es)] at h
    exact h)
   clear HRE HRC x1 y1 HEL
   obtain ⟨z1, z2, z3, z4, z5⟩ := HCX.out w6 HF6.out
   go_upto_region 16 with fail
   go_cut [118] (fun s118 wx => s118 = .bool false ∧ Hid (Fr (fun _ => False) w6 wx))
   case first =>
    go_region_held (fun W => W.cell? ⟨xb, 1, none⟩ = some (.pointer (some ⟨lp, 0, none⟩)) ∧ W.cell? ⟨yb, 1, none⟩ = some (.pointer (some ⟨rl, 0, none⟩)) ∧ W.cell? ⟨rl, 1, none⟩ = some (.int .i64 ts) ∧ W.cell? ⟨rl, 2, none⟩ = some (.int .i64 us) ∧ W.cell? ⟨rl, 3, none⟩ = some le)
     (first | go_keep | (with_reducible exact pC) | (with_reducible exact pB) | (with_reducible exact pA) | fail)
     (first
      | (go_at_call 37; (with_reducible refine Calls.mono (HHD.out _ (HF6.out.next (show Fr (fun _ => False) w6 _ by repeat (first | exact Fr.refl _ _ | refine Fr.drew ?_)))) ?_); clear HHD; rintro r wA ⟨rfl, hq⟩; have fA := (show Fr (fun _ => False) w6 _ by repeat (first | exact Fr.refl _ _ | refine Fr.drew ?_)).next hq; have pA := HCX.out _ (HF6.out.next fA); clear hq)
      | (have tok := pA; clear tok; go_at_call 39; (with_reducible refine Calls.mono (HEN.out _ (HF6.out.next (show Fr (fun _ => False) w6 _ by repeat (first | exact fA | refine Fr.drew ?_)))) ?_); clear HEN; rintro r wB ⟨ea, ec, rfl, hrow, hq⟩; have fB := (show Fr (fun _ => False) w6 _ by repeat (first | exact fA | refine Fr.drew ?_)).next hq; have HROW := Lib.hid hrow; have pB := HCX.out _ (HF6.out.next fB); clear hq hrow)
      | (have tok := pB; clear tok; go_at_call 38; (with_reducible refine Calls.mono (HSE.out _ (HF6.out.next (show Fr (fun _ => False) w6 _ by repeat (first | exact fB | refine Fr.drew ?_))) _ _ _ (by first | exact HROW.out | exact HROW.out.fr ((Fr.refl (fun _ => False) _).drew) (fun _ _ h => h))) ?_); clear HSE; rintro r wC ⟨rfl, hq⟩; have fC := (show Fr (fun _ => False) w6 _ by repeat (first | exact fB | refine Fr.drew ?_)).next hq; have pC := HCX.out _ (HF6.out.next fC); clear hq)
      | fail)
    all_goals
     go_wp2_with fail
     go_meet
     exact ⟨rfl, by first | exact fC | exact fC.drew⟩
   case rest =>
   obtain ⟨rfl, HFY⟩ := hcut
   obtain ⟨w7, hwn⟩ : ∃ x, x = wc := ⟨_, rfl⟩
   rw [← hwn] at HFY ⊢
   clear hwn z1 z2 z3 z4 z5 HHD HEN HSE HCX hnq hnn
   have HN7 := Lib.hid (HN6.out.fr HFY.out (fun _ _ h => h))
   have HS7 := Lib.hid (HS6.out.fr HFY.out (fun _ _ h => h))
   clear HN6 HS6
   go_wp2_with fail
   go_loopg [13] nl.length (fun j v13 wx => ∃ k : Nat, k + j = nl.length ∧ v13 = .int .i64 (k : Int) ∧ Hid (Fr (fun _ => False) w7 wx))
   case atStart => exact ⟨0, by omega, rfl, Lib.hid (Fr.refl _ _)⟩
   case round =>
    obtain ⟨k, hk, rfl, HJ⟩ := hrel
    have HKK := Lib.hid hk
    clear hk
    by_cases hkl : k < nl.length
    ·have hklI : (k : Int) < (nl.length : Int) := by omega
     obtain ⟨n, hn⟩ : ∃ n, nl[k]? = some n := ⟨_, List.getElem?_eq_getElem hkl⟩
     obtain ⟨g1, o1, rfl, hc1⟩ := (HN7.out.fr HJ.out (fun _ _ h => h)).cell (by omega)
     obtain ⟨g2, o2, rfl, hc2⟩ := (HS7.out.fr HJ.out (fun _ _ h => h)).cell (by omega)
     have k1 := hc1 k (.int .i64 (n : Int)) (by rw [List.getElem?_map, List.getElem?_map, hn]; rfl)
     have k2 := hc2 k (.string (bs (nameW n))) (by rw [List.getElem?_map, List.getElem?_map, hn]; rfl)
     have hrn := HNR.out n (List.mem_of_getElem? hn)
     have HDG := Lib.hid (fun W : World => rdigits_h n n (Nat.le_refl _) (by omega) W)
     have hx : 119 :: digL n = nameW n := nameX_is hrn.1
     have hdl := digL_len 6 n (by omega)
     obtain ⟨dg, hdg⟩ : ∃ d, digL n = d := ⟨_, rfl⟩
     obtain ⟨x, hxx⟩ : ∃ x, nameW n = x := ⟨_, rfl⟩
     rw [hdg] at HDG hdl hx
     rw [hxx] at hx k2
     have zD : (bs dg).size = dg.length := rfl
     have happ : (⟨#[119]⟩ : ByteArray) ++ bs dg = bs x := by rw [w_app, hx]
     have hne : ((bs x).toList != (bs x).toList) = false := by simp
     clear hc1 hc2 hn hrn hdg hxx hx
     go_upto_region 21 with fail
     go_cut [135] (fun s135 wx => s135 = .bool false ∧ Hid (Fr (fun _ => False) w7 wx))
     case first =>
      go_region_with (first
       | (go_at_call 47; (with_reducible refine Calls.mono (HDG.out _) ?_); rintro r wA ⟨rfl, hq⟩; have fA := (show Fr (fun _ => False) wr _ by repeat (first | exact Fr.refl _ _ | refine Fr.drew ?_)).next hq; have cA := fA.cell k2 (fun h => h); clear hq)
       | fail)
      all_goals
       go_wp2_with fail
       go_meet
       exact ⟨rfl, by first | exact Lib.hid (HJ.out.next fA) | exact Lib.hid (HJ.out.next fA.drew)⟩
     case rest =>
     obtain ⟨rfl, HJ2⟩ := hcut
     obtain ⟨w8, hwn⟩ : ∃ x, x = wc := ⟨_, rfl⟩
     rw [← hwn] at HJ2 ⊢
     clear hwn k1 k2 HDG happ hne
     go_wp2_with fail
     go_roundg (nl.length - (k + 1))
     case measure => have := HKK.out; omega
     case rel => exact ⟨k + 1, by have := HKK.out; omega, by go_num, HJ2⟩
    ·have hklI : ¬ (k : Int) < (nl.length : Int) := by omega
     clear hkl
     have HXN := Lib.hid (HX.out.quiet ((HF6.out.next HFY.out).next HJ.out))
     go_wp2_with fail
     go_roundg (l.length - (i + 1))
     case measure => have := HI.out; omega
     case rel => exact ⟨i + 1, L2, D2, by have := HI.out; omega, by go_num, Lib.hid ⟨HXN.out, HPI.out⟩⟩
  ·have hil : i = l.length := by have := HI.out; omega
   have hlti : ¬ (i : Int) < (l.length : Int) := by omega
   obtain ⟨A2, B2, ⟨S, lp, pb, mb, ve, vs, hW⟩, ⟨T, rl, rb, lv, le, hR⟩, hAw, hBw, hF⟩ := HK.out.1
   have x0 := cell_of hW.head (i := 0) (v := .pointer (some ⟨pb, 0, none⟩)) rfl
   have y0 := cell_of hR.head (i := 0) (v := .pointer (some ⟨rb, 0, none⟩)) rfl
   have HSD := Lib.hid (fun (W : World) (hq : Fr (fun _ => False) wr W) => sames_h (hW.quiet hq).wal.disk (hR.quiet hq).wal.disk)
   clear hlt hcell hacts hW hR hAw hBw hF hc1 hc2
   go_upto_region 23 with fail
   go_region_with (first
    | (go_at_call 36; (with_reducible refine Calls.mono (HSD.out _ (show Fr (fun _ => False) wr _ by repeat (first | exact Fr.refl _ _ | refine Fr.drew ?_))) ?_); clear HSD; rintro r wA ⟨rfl, hq⟩; have fA := HFW.out.next ((show Fr (fun _ => False) wr _ by repeat (first | exact Fr.refl _ _ | refine Fr.drew ?_)).next hq); clear hq)
    | fail)
   all_goals
    go_wp2_with fail
    go_ret
    exact ⟨rfl, by first | exact fA | exact fA.drew⟩
end
end Go.Proofs.YtgmghopcppniaaaGreatDoor
