/- wal's laws: WalAgain: walked. -/
import Derived.Test.YtgmghopcppniaaaGreatDoorFN
namespace Go.Proofs.YtgmghopcppniaaaGreatDoor
open Go.RowKit Go.Lib

/-- behind so many acts of a law -/
def LSt (w0 : World) (xb : Nat) (M : Int) (i : Nat) (wr : World) : Prop := ∃ (A : Nat → Prop) (L : LogD) (D : DiskD), WLaw wr A xb L D ∧ (∀ k, A k → w0.heap.size ≤ k) ∧ RunInv L D i M ∧ Fr (fun _ => False) w0 wr
section
variable {w wr w' : World} {A S : Nat → Prop} {xb lp pb mb : Nat} {ve vs : Value} {L : LogD} {D : DiskD} {M : Int} {i : Nat}
theorem WLaw.quiet (h : WLaw w A xb L D) (hf : Fr (fun _ => False) w w') : WLaw w' A xb L D := by
  obtain ⟨S, lp, pb, mb, ve, vs, h⟩ := h
  exact ⟨S, lp, pb, mb, ve, vs, h.quiet hf⟩
theorem LSt.skip (h : LSt w xb M i wr) (hf : Fr (fun _ => False) wr w') : LSt w xb M (i + 1) w' := by
  obtain ⟨A, L, D, h1, h2, h3, h4⟩ := h
  exact ⟨A, L, D, h1.quiet hf, h2, h3.skip, h4.next hf⟩
theorem LSt.quiet (h : LSt w xb M i wr) (hf : Fr (fun _ => False) wr w') : LSt w xb M i w' := by
  obtain ⟨A, L, D, h1, h2, h3, h4⟩ := h
  exact ⟨A, L, D, h1.quiet hf, h2, h3, h4.next hf⟩
theorem lst_does {Q : Nat → Prop} {m : ActWM} (h : LSt w xb M i wr) (hi : i ≤ 100) (hM : M ≤ 100000) (hA : ActWIn wr Q m) (hs : SmallWM m) (hop : pickZ m.act.op 10 < 7) :
    Calls Tryz.prog 43 #[.pointer (some ⟨xb, 0, none⟩), actWV m] wr fun e w' => (∃ c : Int, e = .returned (.int .i64 c)) ∧ LSt w xb M (i + 1) w' := by
  obtain ⟨A, L, D, h1, h2, h3, h4⟩ := h
  refine (wdoes_h h1 (h3.fit hi hM) hA hs hop).mono ?_
  rintro e w' ⟨rfl, h5, h6⟩
  refine ⟨⟨_, rfl⟩, _, _, _, h5, fun k hk => ?_, h3.step (hA.good hs) hi, h4.trans h6 fun k hk => .inr (h2 k hk)⟩
  rcases hk with hk | hk
  · exact h2 k hk
  · have := h4.size; omega
/-- a law's log by itself -/
theorem WLawAt.sh (h : WLawAt w A S xb lp pb mb ve vs L D) : ShAt w (fun k => A k ∧ k ≠ xb) lp pb mb L D :=
  ⟨S, ve, vs, h.wal, fun k hk => ⟨h.all hk, fun e => by subst e; rcases hk with hk | hk; exact h.far.1 hk; exact h.far.2 hk⟩, fun k hk => h.lt k hk.1⟩
/-- opened anew, the old one still there -/
theorem open_two (h : WLawAt w A S xb lp pb mb ve vs L D) (hm : D.most ≤ 100000) {p : (Int × (StD × List SegD)) × DiskD} (hp : openD D = p) (h0 : p.1.1 = 0) (hs : p.1.2.2 ≠ []) :
    Calls Tryz.prog 34 #[.pointer (some ⟨pb, 0, none⟩)] w fun e w' => ∃ lp2 : Nat, e = .returned (.tuple #[.pointer (some ⟨lp2, 0, none⟩), .int .i64 0]) ∧ ShAt w' (fun k => Own pb mb k ∨ (w.heap.size ≤ k ∧ k < w'.heap.size)) lp2 pb mb (logOf p.1.2.1 p.1.2.2) p.2 ∧
      WLawAt w' A S xb lp pb mb ve vs L p.2 ∧ Fr (Own pb mb) w w' := by
  have ho := open_h h.wal.disk h.wal.env h.wal.dlow hm
  rw [hp] at ho
  refine ho.mono ?_
  rintro e w' ⟨lp2, rfl, h1, h2, h3⟩
  obtain ⟨ve2, vs2, h4⟩ := h1 h0
  rw [if_pos h0, h0]
  refine ⟨lp2, rfl, ⟨fun k => w.heap.size ≤ k ∧ k < w'.heap.size, ve2, vs2, ?_, fun k hk => ?_, fun k hk => ?_⟩, ?_, h3⟩
  · rw [logOf_segs hs]; exact h4
  · rcases hk with hk | hk
    · exact .inr hk
    · exact .inl hk
  · rcases hk with hk | hk
    · have := h.lt k (h.own k hk); have := h3.size; omega
    · exact hk.2
  · exact ⟨h3.keep h.head h.far.2, h.wal.done h2 h3, h.sub, h.own, h.axb, h.far, fun k hk => Nat.lt_of_lt_of_le (h.lt k hk) h3.size⟩
theorem logOf_same {st : StD} {pre : List SegD} {last : SegD} : logOf st (pre ++ [last]) = ⟨st, pre, last⟩ := by unfold logOf; simp
set_option maxRecDepth 100000 in
set_option maxHeartbeats 16000000 in
theorem walagain_h {v : Value} {l : List ActWM} (hE : Env w) (h8 : 8 ≤ w.heap.size) (hA : ActsW w (fun k => k < w.heap.size) v l) :
    Calls Tryz.prog 12 #[v] w fun e w' => e = .returned (.bool true) ∧ Fr (fun _ => False) w w' := by
  have HSH := Lib.hid (wshown_h hE h8)
  have HA := Lib.hid hA
  have HE := Lib.hid hE
  clear hA hE
  go_enter Tryz.func12, Tryz.ntmps12
  go_wp2_with fail
  refine Calls.mono HSH.out ?_
  rintro e w1 ⟨rfl, hf1⟩
  have HF1 := Lib.hid hf1
  have hs1 := hf1.size
  clear hf1 HSH
  have HSM := Lib.hid (wsmall_h (HA.out.grow HF1.out))
  unfold SmallWPost at HSM
  go_wp2_with fail
  refine Calls.mono HSM.out ?_
  rintro e w2 ⟨r, rfl, hrl, rfl⟩
  clear HSM
  cases r with
  | false =>
    clear hrl
    go_wp2_with fail
    go_ret
    exact ⟨rfl, HF1.out⟩
  | true =>
  have HSL := Lib.hid (hrl.1 rfl)
  have HBE := Lib.hid (begin_h (HE.out.grow HF1.out) (by omega) (most := 100000) (by decide) (by decide))
  unfold BeginPost at HBE
  clear hrl
  go_wp2_with fail
  refine Calls.mono HBE.out ?_
  rintro e w2 ⟨xb, yb, A, B, rfl, hW, hAA, hR, hBB, hf2⟩
  have HF2 := Lib.hid (HF1.out.next hf2)
  have HL0 : Hid (LSt w xb 100000 0 w2) := ⟨A, _, _, hW, fun k hk => by have := hAA k hk; omega, RunInv.start (by decide) (by decide), HF1.out.next hf2⟩
  clear hW hAA hR hBB hf2 HBE
  have hl40 := HSL.out.1
  go_wp2_with fail
  go_loopg [8] l.length (fun j v8 wr => ∃ i : Nat, i + j = l.length ∧ v8 = .int .i64 (i : Int) ∧ Hid (LSt w xb 100000 i wr))
  case atStart => exact ⟨0, by omega, rfl, HL0⟩
  case round =>
    obtain ⟨i, hi, rfl, HK⟩ := hrel
    have HI := Lib.hid hi
    clear hi HL0
    have hfw : Fr (fun _ => False) w wr := by obtain ⟨_, _, _, _, _, _, h⟩ := HK.out; exact h
    obtain ⟨⟨a, cap, rfl, hc1, hc2, hcell⟩, hacts⟩ := HA.out.grow hfw
    have HFW := Lib.hid hfw
    clear hfw
    by_cases hlt : i < l.length
    · have hlti : (i : Int) < (l.length : Int) := by omega
      obtain ⟨m, hm⟩ : ∃ m, l[i]? = some m := ⟨_, List.getElem?_eq_getElem hlt⟩
      obtain ⟨g, off, rfl, hS, hcs⟩ := hcell (by omega)
      have hin := hacts m (List.mem_of_getElem? hm)
      have hsm := HSL.out.2 m (List.mem_of_getElem? hm)
      have q0 := hcs i m 0 _ hm rfl
      rw [Nat.add_zero] at q0
      have q1 := hcs i m 1 _ hm rfl
      have q2 := hcs i m 2 _ hm rfl
      have q3 := hcs i m 3 _ hm rfl
      have q4 := hcs i m 4 _ hm rfl
      have q5 := hcs i m 5 _ hm rfl
      have q6 := hcs i m 6 _ hm rfl
      have q7 := hcs i m 7 _ hm rfl
      have HPO := Lib.hid (fun W : World => wpick_h (w := W) hin.op.1 hin.op.2 (n := 10) (by decide) (by decide))
      obtain ⟨o, ho⟩ : ∃ o, pickZ m.act.op 10 = o := ⟨_, rfl⟩
      rw [ho] at HPO
      have HIN := Lib.hid hin
      have HSMA := Lib.hid hsm
      have HO := Lib.hid ho
      clear hm hcs hin hsm hS hcell hacts ho
      go_wp2_with fail
      refine Calls.mono (HPO.out _) ?_
      rintro e w3 ⟨rfl, hw3⟩
      subst hw3
      by_cases h7 : o < 7
      · have HDO := Lib.hid (lst_does HK.out (by omega) (by decide) HIN.out HSMA.out (by rw [HO.out]; exact h7))
        unfold actWV cellsWM at HDO
        go_wp2_with fail
        refine Calls.mono HDO.out ?_
        rintro e w4 ⟨⟨c, rfl⟩, hk4⟩
        have HK4 := Lib.hid hk4
        clear hk4 HDO
        go_wp2_with fail
        go_roundg (l.length - (i + 1))
        case measure => have := HI.out; omega
        case rel => exact ⟨i + 1, by omega, by go_num, HK4⟩
      · have HK4 := Lib.hid (HK.out.skip (Fr.refl _ _))
        go_wp2_with fail
        go_roundg (l.length - (i + 1))
        case measure => have := HI.out; omega
        case rel => exact ⟨i + 1, by omega, by go_num, HK4⟩
    · obtain rfl : i = l.length := by have := HI.out; omega
      have hlti : ¬ (l.length : Int) < (l.length : Int) := by omega
      obtain ⟨A2, L, D, ⟨S, lp, pb, mb, ve, vs, hW⟩, hA2, hRI, hfr⟩ := HK.out
      obtain ⟨R, b, hWh⟩ := hRI.whole
      have HW := Lib.hid hW
      have HRI := Lib.hid hRI
      have HA2 := Lib.hid hA2
      have HWH := Lib.hid hWh
      have HFIT := Lib.hid (hRI.fit (by omega) (by decide))
      have HOP := Lib.hid (open_two hW HFIT.out.most hWh.open rfl (by simp))
      rw [logOf_same] at HOP
      have q0 := cell_of hW.head (i := 0) (v := .pointer (some ⟨pb, 0, none⟩)) rfl
      clear hW hRI hA2 hWh hfr hcell hacts
      go_wp2_with fail
      refine Calls.mono HOP.out ?_
      rintro e w4 ⟨lp2, rfl, hX, hW4, hf4⟩
      have HX := Lib.hid hX
      have HW4 := Lib.hid hW4
      have HF4 : Hid (Fr (fun _ => False) w w4) := HFW.out.trans hf4 fun k hk => .inr (HA2.out k (HW.out.own k hk))
      have x1 := cell_of hW4.head (i := 1) (v := .pointer (some ⟨lp, 0, none⟩)) rfl
      have HXH : Hid (∀ (W : World) (_ : Fr (fun _ => False) w4 W), Calls Tryz.prog 37 #[.pointer (some ⟨lp2, 0, none⟩)] W fun r w' => r = .returned (.agg #[.int .i64 L.st.t, .int .i64 L.st.v]) ∧ Fr (fun _ => False) W w') := Lib.hid (fun W hq => sh_hard (HX.out.quiet hq))
      have HOH : Hid (∀ (W : World) (_ : Fr (fun _ => False) w4 W), Calls Tryz.prog 37 #[.pointer (some ⟨lp, 0, none⟩)] W fun r w' => r = .returned (.agg #[.int .i64 L.st.t, .int .i64 L.st.v]) ∧ Fr (fun _ => False) W w') := Lib.hid (fun W hq => sh_hard (HW4.out.sh.quiet hq))
      have hel : L.st.ents.length ≤ 10000000 := by have := HFIT.out.few; omega
      obtain ⟨l2, hl2⟩ : ∃ l2, L.st.ents = l2 := ⟨_, rfl⟩
      have HXE := Lib.hid (fun (W : World) (hq : Fr (fun _ => False) w4 W) => sh_entries (HX.out.quiet hq) hel hl2)
      have HOE := Lib.hid (fun (W : World) (hq : Fr (fun _ => False) w4 W) => sh_entries (HW4.out.sh.quiet hq) hel hl2)
      have hll2 : l2.length ≤ 1000000 := by rw [← hl2]; have := HFIT.out.few; omega
      have HSE : Hid (∀ (W : World) (Q1 Q2 : Nat → Prop) (a b : Option Addr) (c d : Nat) (_ : SRow W Q1 4 (.slice a l2.length c) l2.length (entsC l2)) (_ : SRow W Q2 4 (.slice b l2.length d) l2.length (entsC l2)), Calls Tryz.prog 38 #[.slice a l2.length c, .slice b l2.length d] W fun e w' => e = .returned (.bool true) ∧ Fr (fun _ => False) W w') := Lib.hid (fun W Q1 Q2 a b c d h1 h2 => (sameents_h h1 h2 hll2).mono fun e w' h => by
        rw [decide_eq_true rfl] at h; exact h)
      have hnq := neq61 L.st.t L.st.v L.st.t L.st.v
      have hbb : (!(L.st.t == L.st.t && L.st.v == L.st.v)) = false := by simp
      rw [hbb] at hnq
      have HCW := Lib.hid (fun (W : World) (hq : Fr (fun _ => False) w4 W) => hq.cell x1 (fun h => h))
      clear hX hW4 hf4 HOP q0 hbb hl2
      go_upto_region 14 with fail
      go_cut [84] (fun s84 wx => s84 = .bool false ∧ Hid (Fr (fun _ => False) w4 wx))
      case first =>
        go_region_held (fun W => W.cell? ⟨xb, 1, none⟩ = some (.pointer (some ⟨lp, 0, none⟩)))
          (first | go_keep | (with_reducible exact p4) | (with_reducible exact p3) | (with_reducible exact p2) | (with_reducible exact p1) | (with_reducible exact p0) | fail)
          (first
            | (go_at_call 37; (with_reducible refine Calls.mono (HXH.out _ (show Fr (fun _ => False) w4 _ by repeat (first | exact Fr.refl _ _ | refine Fr.drew ?_))) ?_); clear HXH; rintro r wA0 ⟨rfl, hq⟩; have f0 := (show Fr (fun _ => False) w4 _ by repeat (first | exact Fr.refl _ _ | refine Fr.drew ?_)).next hq; have p0 := HCW.out _ f0; clear hq)
            | (have tok := p0; clear tok; go_at_call 37; (with_reducible refine Calls.mono (HOH.out _ (show Fr (fun _ => False) w4 _ by repeat (first | exact f0 | refine Fr.drew ?_))) ?_); clear HOH; rintro r wA1 ⟨rfl, hq⟩; have f1 := (show Fr (fun _ => False) w4 _ by repeat (first | exact f0 | refine Fr.drew ?_)).next hq; have p1 := HCW.out _ f1; clear hq)
            | (have tok := p1; clear tok; go_at_call 39; (with_reducible refine Calls.mono (HXE.out _ (show Fr (fun _ => False) w4 _ by repeat (first | exact f1 | refine Fr.drew ?_))) ?_); clear HXE; rintro r wA2 ⟨na, nc, rfl, hr2, hq⟩; have f2 := (show Fr (fun _ => False) w4 _ by repeat (first | exact f1 | refine Fr.drew ?_)).next hq; have p2 := HCW.out _ f2; have HR2 := Lib.hid hr2; clear hq hr2)
            | (have tok := p2; clear tok; go_at_call 39; (with_reducible refine Calls.mono (HOE.out _ (show Fr (fun _ => False) w4 _ by repeat (first | exact f2 | refine Fr.drew ?_))) ?_); clear HOE; rintro r wA3 ⟨oa, oc, rfl, hr3, hq⟩; have HR2b := Lib.hid (HR2.out.fr ((show Fr (fun _ => False) wA2 _ by repeat (first | exact Fr.refl _ _ | refine Fr.drew ?_)).next hq) (fun _ _ h => h)); have f3 := (show Fr (fun _ => False) w4 _ by repeat (first | exact f2 | refine Fr.drew ?_)).next hq; have p3 := HCW.out _ f3; have HR3 := Lib.hid hr3; clear hq hr3)
            | (have tok := p3; clear tok; go_at_call 38; (with_reducible refine Calls.mono (HSE.out _ _ _ _ _ _ _ (by first | exact HR2b.out | exact HR2b.out.fr ((Fr.refl (fun _ => False) _).drew) (fun _ _ h => h)) (by first | exact HR3.out | exact HR3.out.fr ((Fr.refl (fun _ => False) _).drew) (fun _ _ h => h))) ?_); clear HSE; rintro r wA4 ⟨rfl, hq⟩; have f4 := (show Fr (fun _ => False) w4 _ by repeat (first | exact f3 | refine Fr.drew ?_)).next hq; have p4 := HCW.out _ f4; clear hq)
            | fail)
        all_goals
          go_wp2_with fail
          go_meet
          exact ⟨rfl, by first | exact f4 | exact f4.drew⟩
      case rest =>
      obtain ⟨rfl, HFC⟩ := hcut
      obtain ⟨w5, hwn⟩ : ∃ x, x = wc := ⟨_, rfl⟩
      rw [← hwn] at HFC ⊢
      clear hwn HXH HOH HXE HOE HSE hnq HCW
      obtain ⟨sl, hsl⟩ : ∃ sl, segNames (L.pre ++ [L.last]) = sl := ⟨_, rfl⟩
      have hsn : ∀ s ∈ L.pre ++ [L.last], 0 < s.num ∧ s.num < 1000000 := fun s hs => by
        rcases List.mem_append.1 hs with hs | hs
        · exact HFIT.out.pre s hs
        · rw [List.mem_singleton.1 hs]; exact ⟨HFIT.out.num0, by have := HFIT.out.num1; omega⟩
      have hslen : (L.pre ++ [L.last]).length ≤ 100000 := by have := HFIT.out.many; simp; omega
      have hsll : sl.length ≤ 1000 := by rw [← hsl]; unfold segNames; have := HFIT.out.many; simp; omega
      have HXS := Lib.hid (sh_segments (HX.out.quiet HFC.out) hsn hslen hsl)
      have HOS := Lib.hid (fun (W : World) (hq : Fr (fun _ => False) w5 W) => sh_segments ((HW4.out.sh.quiet HFC.out).quiet hq) hsn hslen hsl)
      have x2 := HFC.out.cell x1 (fun h => h)
      clear hsn hslen hsl x1
      go_wp2_with fail
      refine Calls.mono HXS.out ?_
      rintro e w6 ⟨sa, sc, rfl, hr6, hf6⟩
      have HF6 := Lib.hid hf6
      have x3 := hf6.cell x2 (fun h => h)
      have HOS6 := Lib.hid (HOS.out _ hf6)
      clear hf6 HXS HOS x2
      have HR6 := Lib.hid hr6
      clear hr6
      go_wp2_with fail
      refine Calls.mono HOS6.out ?_
      rintro e w7 ⟨ta, tc, rfl, hr7, hf7⟩
      have HR7 := Lib.hid hr7
      have HR67 := Lib.hid (HR6.out.fr hf7 (fun _ _ h => h))
      have HF7 : Hid (Fr (fun _ => False) w w7) := ((HF4.out.next HFC.out).next HF6.out).next hf7
      clear hr7 hf7 HOS6 x3
      have hne : ((sl.length : Int) != (sl.length : Int)) = false := by simp
      go_wp2_with fail
      go_loopg [13] sl.length (fun j v13 wx => ∃ i p : Nat, i + j = sl.length ∧ v13 = .int .i64 (i : Int) ∧ wx = w7.drewN p)
      case atStart => exact ⟨0, 0, by omega, rfl, rfl⟩
      case round =>
        obtain ⟨i, p, hi, rfl, rfl⟩ := hrel
        have HI2 := Lib.hid hi
        clear hi
        by_cases hlt : i < sl.length
        · have hlti : (i : Int) < (sl.length : Int) := by omega
          obtain ⟨u, hu⟩ : ∃ u, sl[i]? = some u := ⟨_, List.getElem?_eq_getElem hlt⟩
          obtain ⟨g1, o1, rfl, hc1⟩ := HR67.out.cell (by omega)
          obtain ⟨g2, o2, rfl, hc2⟩ := HR7.out.cell (by omega)
          have k1 := hc1 i (.string (bs u)) (by rw [List.getElem?_map, hu]; rfl)
          have k2 := hc2 i (.string (bs u)) (by rw [List.getElem?_map, hu]; rfl)
          clear hc1 hc2 hu
          go_wp2_with fail
          go_big_quiet (fail)
          go_wp2_with fail
          go_roundg (sl.length - (i + 1))
          case measure => have := HI2.out; omega
          case rel => exact ⟨i + 1, _, by omega, by go_num, by first | rfl | exact World.drewN_drewN _ _ _⟩
        · obtain rfl : i = sl.length := by have := HI2.out; omega
          have hlti : ¬ (sl.length : Int) < (sl.length : Int) := by omega
          go_wp2_with fail
          go_ret
          exact ⟨rfl, HF7.out.drewN _⟩
end
end Go.Proofs.YtgmghopcppniaaaGreatDoor
