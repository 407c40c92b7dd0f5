/- wal's laws: WalCuts: walked. -/
import Derived.Test.YtgmghopcppniaaaGreatDoorFOa
namespace Go.Proofs.YtgmghopcppniaaaGreatDoor
open Go.RowKit Go.Lib

section
variable {w wr w' : World} {xb : Nat}
set_option maxRecDepth 100000 in
set_option maxHeartbeats 16000000 in
theorem walcuts_h {v : Value} {l : List ActWM} {index : Int} (hE : Env w) (h8 : 8 ≤ w.heap.size) (hA : ActsW w (fun k => k < w.heap.size) v l) (hix : I64 index) :
    Calls Tryz.prog 11 #[v, .int .i64 index] w fun e w' => e = .returned (.bool true) ∧ Fr (fun _ => False) w w' := by
  have HSH := Lib.hid (wshown_h hE h8)
  have HA := Lib.hid hA
  have HE := Lib.hid hE
  have HPK := Lib.hid (fun W : World => wpick_h (w := W) hix.1 hix.2 (n := 40) (by decide) (by decide))
  obtain ⟨K, hK⟩ : ∃ K, pickZ index 40 = K := ⟨_, rfl⟩
  rw [hK] at HPK
  clear hA hE hix hK
  go_enter Tryz.func11, Tryz.ntmps11
  go_wp2_with fail
  refine Calls.mono HSH.out ?_
  rintro e w1 ⟨rfl, hf1⟩
  have HF1 := Lib.hid hf1
  have hs1 := hf1.size
  clear hf1 HSH
  have HSM := Lib.hid (wsmall_h (HA.out.grow HF1.out))
  unfold SmallWPost at HSM
  go_wp2_with fail
  refine Calls.mono HSM.out ?_
  rintro e w2 ⟨r, rfl, hrl, rfl⟩
  clear HSM
  cases r with
  | false =>
    clear hrl
    go_wp2_with fail
    go_ret
    exact ⟨rfl, HF1.out⟩
  | true =>
  have HSL := Lib.hid (hrl.1 rfl)
  have HBE := Lib.hid (begin_h (HE.out.grow HF1.out) (by omega) (most := 100000) (by decide) (by decide))
  unfold BeginPost at HBE
  clear hrl
  go_wp2_with fail
  refine Calls.mono HBE.out ?_
  rintro e w2 ⟨xb, yb, A, B, rfl, hW, hAA, hR, hBB, hf2⟩
  have HF2 := Lib.hid (HF1.out.next hf2)
  have HL0 : Hid (LSt w xb 100000 0 w2) := ⟨A, _, _, hW, fun k hk => by have := hAA k hk; omega, RunInv.start (by decide) (by decide), HF1.out.next hf2⟩
  clear hW hAA hR hBB hf2 HBE
  have hl40 := HSL.out.1
  go_wp2_with fail
  go_loopg [10] l.length (fun j v10 wr => ∃ i : Nat, i + j = l.length ∧ v10 = .int .i64 (i : Int) ∧ Hid (LSt w xb 100000 i wr))
  case atStart => exact ⟨0, by omega, rfl, HL0⟩
  case round =>
    obtain ⟨i, hi, rfl, HK⟩ := hrel
    have HI := Lib.hid hi
    clear hi HL0
    have hfw : Fr (fun _ => False) w wr := by obtain ⟨_, _, _, _, _, _, h⟩ := HK.out; exact h
    obtain ⟨⟨a, cap, rfl, hc1, hc2, hcell⟩, hacts⟩ := HA.out.grow hfw
    have HFW := Lib.hid hfw
    clear hfw
    by_cases hlt : i < l.length
    · have hlti : (i : Int) < (l.length : Int) := by omega
      obtain ⟨m, hm⟩ : ∃ m, l[i]? = some m := ⟨_, List.getElem?_eq_getElem hlt⟩
      obtain ⟨g, off, rfl, hS, hcs⟩ := hcell (by omega)
      have hin := hacts m (List.mem_of_getElem? hm)
      have hsm := HSL.out.2 m (List.mem_of_getElem? hm)
      have q0 := hcs i m 0 _ hm rfl
      rw [Nat.add_zero] at q0
      have q1 := hcs i m 1 _ hm rfl
      have q2 := hcs i m 2 _ hm rfl
      have q3 := hcs i m 3 _ hm rfl
      have q4 := hcs i m 4 _ hm rfl
      have q5 := hcs i m 5 _ hm rfl
      have q6 := hcs i m 6 _ hm rfl
      have q7 := hcs i m 7 _ hm rfl
      have HPO := Lib.hid (fun W : World => wpick_h (w := W) hin.op.1 hin.op.2 (n := 10) (by decide) (by decide))
      obtain ⟨o, ho⟩ : ∃ o, pickZ m.act.op 10 = o := ⟨_, rfl⟩
      rw [ho] at HPO
      have HIN := Lib.hid hin
      have HSMA := Lib.hid hsm
      have HO := Lib.hid ho
      clear hm hcs hin hsm hS hcell hacts ho
      go_wp2_with fail
      refine Calls.mono (HPO.out _) ?_
      rintro e w3 ⟨rfl, hw3⟩
      subst hw3
      by_cases h7 : o < 7
      · have HDO := Lib.hid (lst_does HK.out (by omega) (by decide) HIN.out HSMA.out (by rw [HO.out]; exact h7))
        unfold actWV cellsWM at HDO
        go_wp2_with fail
        refine Calls.mono HDO.out ?_
        rintro e w4 ⟨⟨c, rfl⟩, hk4⟩
        have HK4 := Lib.hid hk4
        clear hk4 HDO
        go_wp2_with fail
        go_roundg (l.length - (i + 1))
        case measure => have := HI.out; omega
        case rel => exact ⟨i + 1, by omega, by go_num, HK4⟩
      · have HK4 := Lib.hid (HK.out.skip (Fr.refl _ _))
        go_wp2_with fail
        go_roundg (l.length - (i + 1))
        case measure => have := HI.out; omega
        case rel => exact ⟨i + 1, by omega, by go_num, HK4⟩
    · obtain rfl : i = l.length := by have := HI.out; omega
      have hlti : ¬ (l.length : Int) < (l.length : Int) := by omega
      obtain ⟨A2, L, D, ⟨S, lp, pb, mb, ve, vs, hW⟩, hA2, hRI, hfr⟩ := HK.out
      obtain ⟨R, b, hWh⟩ := hRI.whole
      have HW := Lib.hid hW
      have HA2 := Lib.hid hA2
      have HFIT := Lib.hid (hRI.fit (by omega) (by decide))
      obtain ⟨L2, D2, st2, segs2, hct, hst2, hopn, ht2, hv2, hkp, hla, hok2, ⟨j, hL2⟩, hmost2, hsne, hlen2⟩ := hWh.cut hRI.fuse (i := K)
      obtain ⟨t, ht⟩ : ∃ t, L.st.t = t := ⟨_, rfl⟩
      obtain ⟨u, hu⟩ : ∃ u, L.st.v = u := ⟨_, rfl⟩
      obtain ⟨l2, hl2⟩ : ∃ l2, L.st.ents = l2 := ⟨_, rfl⟩
      obtain ⟨m2, hm2⟩ : ∃ m2, st2.ents = m2 := ⟨_, rfl⟩
      have hel : L.st.ents.length ≤ 1000000 := by have := HFIT.out.few; omega
      have hll2 : l2.length ≤ 1000000 := by rw [← hl2]; exact hel
      have hlm2 : m2.length ≤ 1000000 := by rw [← hm2]; omega
      rw [ht] at ht2
      rw [hu] at hv2
      rw [hl2, hm2] at hkp hla
      have HKP := Lib.hid hkp
      have HLA := Lib.hid hla
      have HTU := Lib.hid (And.intro ht (And.intro hu hl2))
      have HTU2 := Lib.hid (And.intro ht2 (And.intro hv2 hm2))
      have HOPN := Lib.hid hopn
      have HSNE := Lib.hid hsne
      have hmost3 : D2.most ≤ 100000 := by rw [hmost2]; exact HFIT.out.most
      have x1 := cell_of hW.head (i := 1) (v := .pointer (some ⟨lp, 0, none⟩)) rfl
      have HEN := Lib.hid (sh_entries hW.sh (by omega) hl2)
      have HCT : Hid (∀ (W : World) (_ : Fr (fun _ => False) wr W), Calls Tryz.prog 51 #[.pointer (some ⟨lp, 0, none⟩), .int .i64 K] W fun e w' => e = .returned (.int .i64 0) ∧ (∃ vs', WalAt w' (Plus S W w') lp pb mb ve vs' L.st (L.pre.drop j ++ [L.last]) D2) ∧ Fr (WAll S pb mb) W w') := Lib.hid (fun W hq =>
        (wcut_h (hW.quiet hq).wal HFIT.out.pre (by have := HFIT.out.many; omega) K).mono fun e w' h => by
          unfold CutPost at h
          rw [show cutL ⟨L.st, L.pre, L.last⟩ D K = (0, (L2, D2)) from hct, hL2] at h
          exact h)
      clear hW hRI hA2 hWh hfr hcell hacts ht hu hl2 hm2 ht2 hv2 hkp hla hopn hsne hct hst2 hL2 hok2 hmost2 hlen2 hel
      go_wp2_with fail
      refine Calls.mono HEN.out ?_
      rintro e w3 ⟨wa, wc2, rfl, hr3, hf3⟩
      have HR3 := Lib.hid hr3
      have HF3 := Lib.hid hf3
      have x2 := hf3.cell x1 (fun h => h)
      have HHD : Hid (Calls Tryz.prog 37 #[.pointer (some ⟨lp, 0, none⟩)] w3 fun r w' => r = .returned (.agg #[.int .i64 t, .int .i64 u]) ∧ Fr (fun _ => False) w3 w') := Lib.hid (by rw [← HTU.out.1, ← HTU.out.2.1]; exact sh_hard (HW.out.sh.quiet hf3))
      have hs3 := hf3.size
      clear hr3 hf3 HEN x1
      go_wp2_with fail
      refine Calls.mono HHD.out ?_
      rintro e w4 ⟨rfl, hf4⟩
      have HF4 := Lib.hid (HF3.out.next hf4)
      have HR4 := Lib.hid (HR3.out.fr hf4 (fun _ _ h => h))
      have hs4 := hf4.size
      clear hf4 HHD x2
      go_upto_region 15 with fail
      obtain ⟨w5, hw5⟩ : ∃ w5, w5 = w4.alloc (.cells #[.int .i64 t, .int .i64 u] 61) := ⟨_, rfl⟩
      rw [← hw5]
      have hf5 : Fr (fun _ => False) w4 w5 := by rw [hw5]; exact (Fr.refl _ _).alloc _
      have hb5 : w5.heap[w4.heap.size]? = some (.cells #[.int .i64 t, .int .i64 u] 61 (0, 0)) := by rw [hw5]; exact block_new _ _
      have HF5 := Lib.hid (HF4.out.next hf5)
      have HR5 := Lib.hid (HR4.out.fr hf5 (fun _ _ h => h))
      have HB5 := Lib.hid hb5
      have HW5 := Lib.hid (HW.out.quiet HF5.out)
      have y1 := cell_of HW5.out.head (i := 1) (v := .pointer (some ⟨lp, 0, none⟩)) rfl
      clear hw5 hf5 hb5
      go_wp2_with fail
      refine Calls.mono (HPK.out _) ?_
      rintro e wq ⟨rfl, hwq⟩
      subst hwq
      have HCU := Lib.hid (HCT.out _ HF5.out)
      clear HCT HPK
      go_wp2_with fail
      refine Calls.mono HCU.out ?_
      rintro e w6 ⟨rfl, ⟨vs', hw6⟩, hf6⟩
      have HW6 : Hid (WLawAt w6 (Plus A2 w5 w6) (Plus S w5 w6) xb lp pb mb ve vs' ⟨L.st, L.pre.drop j, L.last⟩ D2) := HW5.out.next hw6 hf6
      have HF6 := Lib.hid hf6
      have HNO : Hid (∀ k, wr.heap.size ≤ k → ¬ WAll S pb mb k) := Lib.hid (fun k hk h => by have := HW.out.lt _ (HW.out.all h); omega)
      have HR6 := Lib.hid (HR5.out.fr hf6 (fun k hk => HNO.out k hk.1))
      have HB6 := Lib.hid (hf6.keep HB5.out (HNO.out _ (by omega)))
      have HEN2 := Lib.hid (sh_entries HW6.out.sh (by show L.st.ents.length ≤ _; rw [HTU.out.2.2]; omega) (show L.st.ents = l2 from HTU.out.2.2))
      have y2 := cell_of HW6.out.head (i := 1) (v := .pointer (some ⟨lp, 0, none⟩)) rfl
      clear hw6 hf6 HCU y1
      go_wp2_with fail
      refine Calls.mono HEN2.out ?_
      rintro e w7 ⟨na, nc, rfl, hr7, hf7⟩
      have HF7 := Lib.hid hf7
      have y3 := hf7.cell y2 (fun h => h)
      have HSE : Hid (Calls Tryz.prog 38 #[.slice na l2.length nc, .slice wa l2.length wc2] w7 fun e w' => e = .returned (.bool true) ∧ Fr (fun _ => False) w7 w') := (sameents_h hr7 (HR6.out.fr hf7 (fun _ _ h => h)) hll2).mono fun e w' h => by
        rw [decide_eq_true rfl] at h; exact h
      clear hr7 hf7 HEN2 y2
      go_wp2_with fail
      refine Calls.mono HSE.out ?_
      rintro e w8 ⟨rfl, hf8⟩
      have HF8 := Lib.hid (HF7.out.next hf8)
      have y4 := hf8.cell y3 (fun h => h)
      obtain ⟨sl, hsl⟩ : ∃ sl, segNames (L.pre.drop j ++ [L.last]) = sl := ⟨_, rfl⟩
      have hsll : 1 ≤ sl.length := by rw [← hsl]; unfold segNames; simp
      have hsl1 : ¬ (sl.length : Int) < 1 := by omega
      have HSG := Lib.hid (sh_segments (HW6.out.sh.quiet HF8.out) (fun s hs => by
        rcases List.mem_append.1 hs with hs | hs
        · exact HFIT.out.pre s (List.mem_of_mem_drop hs)
        · rw [List.mem_singleton.1 hs]; exact ⟨HFIT.out.num0, show L.last.num < 1000000 by have := HFIT.out.num1; omega⟩) (by have := HFIT.out.many; simp; omega) hsl)
      clear hf8 HSE y3 hsl
      go_wp2_with fail
      refine Calls.mono HSG.out ?_
      rintro e w9 ⟨sa, sc, rfl, _, hf9⟩
      have HF9 := Lib.hid (HF8.out.next hf9)
      have HW9 := Lib.hid (HW6.out.quiet HF9.out)
      have HOP := Lib.hid (open_two HW9.out hmost3 HOPN.out rfl HSNE.out)
      have y5 := cell_of HW9.out.head (i := 0) (v := .pointer (some ⟨pb, 0, none⟩)) rfl
      clear hf9 HSG y4
      go_wp2_with fail
      refine Calls.mono HOP.out ?_
      rintro e w10 ⟨lp2, rfl, hX, hW10, hf10⟩
      have HX := Lib.hid hX
      have HNW : Hid (∀ k, wr.heap.size ≤ k → ¬ Own pb mb k) := Lib.hid (fun k hk h => by have := HW.out.lt _ (HW.out.own k h); omega)
      have HR10 := Lib.hid ((HR6.out.fr HF9.out (fun _ _ h => h)).fr hf10 (fun k hk => HNW.out k hk.1))
      have hb10 := hf10.keep (HF9.out.keep HB6.out (fun h => h)) (HNW.out _ (by omega))
      have h0 := cell_of hb10 (i := 0) (v := .int .i64 t) rfl
      have h1 := cell_of hb10 (i := 1) (v := .int .i64 u) rfl
      have HT10 : Hid (Fr (fun _ => False) w w10) := (((HFW.out.next HF5.out).trans HF6.out fun k hk => .inr (HA2.out k (HW.out.all hk))).next HF9.out).trans hf10 fun k hk => .inr (HA2.out k (HW.out.own k hk))
      have HXH : Hid (∀ (W : World) (_ : Fr (fun _ => False) w10 W), Calls Tryz.prog 37 #[.pointer (some ⟨lp2, 0, none⟩)] W fun r w' => r = .returned (.agg #[.int .i64 t, .int .i64 u]) ∧ Fr (fun _ => False) W w') := Lib.hid (fun W hq => by
        have := sh_hard (HX.out.quiet hq)
        rw [show (logOf st2 segs2).st.t = t from HTU2.out.1, show (logOf st2 segs2).st.v = u from HTU2.out.2.1] at this
        exact this)
      have hnq := neq61 t u t u
      have hbb : (!(t == t && u == u)) = false := by simp
      rw [hbb] at hnq
      have HCW := Lib.hid (fun (W : World) (hq : Fr (fun _ => False) w10 W) => And.intro (hq.cell h0 (fun h => h)) (hq.cell h1 (fun h => h)))
      clear hX hW10 hf10 HOP y5 hbb hb10
      go_upto_region 19 with fail
      go_cut [111] (fun s111 wx => s111 = .bool false ∧ Hid (Fr (fun _ => False) w10 wx))
      case first =>
        go_region_held (fun W => W.cell? ⟨w4.heap.size, 0, none⟩ = some (.int .i64 t) ∧ W.cell? ⟨w4.heap.size, 1, none⟩ = some (.int .i64 u))
          (first | go_keep | (with_reducible exact p0) | fail)
          (first
            | (go_at_call 37; (with_reducible refine Calls.mono (HXH.out _ (show Fr (fun _ => False) w10 _ by repeat (first | exact Fr.refl _ _ | refine Fr.drew ?_))) ?_); clear HXH; rintro r wA0 ⟨rfl, hq⟩; have f0 := (show Fr (fun _ => False) w10 _ by repeat (first | exact Fr.refl _ _ | refine Fr.drew ?_)).next hq; have p0 := HCW.out _ f0; clear hq)
            | fail)
        all_goals
          go_wp2_with fail
          go_meet
          exact ⟨rfl, by first | exact f0 | exact f0.drew⟩
      case rest =>
      obtain ⟨rfl, HFC⟩ := hcut
      obtain ⟨w11, hwn⟩ : ∃ x, x = wc := ⟨_, rfl⟩
      rw [← hwn] at HFC ⊢
      clear hwn HXH hnq HCW h0 h1
      have HXE := Lib.hid (sh_entries (HX.out.quiet HFC.out) (show (logOf st2 segs2).st.ents.length ≤ _ by show st2.ents.length ≤ _; rw [HTU2.out.2.2]; omega) (show (logOf st2 segs2).st.ents = m2 from HTU2.out.2.2))
      go_wp2_with fail
      refine Calls.mono HXE.out ?_
      rintro e w12 ⟨xa, xc, rfl, hr12, hf12⟩
      have HX12 := Lib.hid hr12
      have HR12 := Lib.hid ((HR10.out.fr HFC.out (fun _ _ h => h)).fr hf12 (fun _ _ h => h))
      have HT12 := Lib.hid ((HT10.out.next HFC.out).next hf12)
      clear hr12 hf12 HXE HFC
      go_wp2_with fail
      go_loopg [17] l2.length (fun j v17 wx => ∃ i : Nat, i + j = l2.length ∧ v17 = .int .i64 (i : Int) ∧ Hid (Fr (fun _ => False) w12 wx))
      case atStart => exact ⟨0, by omega, rfl, Fr.refl _ _⟩
      case round =>
        obtain ⟨i, hi, rfl, HQ⟩ := hrel
        have HI2 := Lib.hid hi
        clear hi
        by_cases hlt : i < l2.length
        · have hlt2 : (i : Int) < (l2.length : Int) := by omega
          obtain ⟨e, he⟩ : ∃ e, l2[i]? = some e := ⟨_, List.getElem?_eq_getElem hlt⟩
          obtain ⟨g, off, rfl, hc⟩ := ent_cells (HR12.out.fr HQ.out (fun _ _ h => h)) (by omega)
          obtain ⟨c0, c1, c2, c3⟩ := hc i e he
          have hmem := List.mem_of_getElem? he
          have HHAS := Lib.hid (has_h (HX12.out.fr HQ.out (fun _ _ h => h)) e hlm2)
          unfold entV at HHAS
          by_cases hgt : K < e.index
          · rw [decide_eq_true (HKP.out _ hmem hgt)] at HHAS
            obtain ⟨e1, e2, e3, e4⟩ := e
            dsimp only at c0 c1 c2 c3 HHAS hgt
            clear hc he hmem
            go_wp2_with fail
            refine Calls.mono HHAS.out ?_
            rintro e w13 ⟨rfl, hf13⟩
            have HQ2 := Lib.hid (HQ.out.next hf13)
            clear hf13 HHAS c0 c1 c2 c3
            go_wp2_with fail
            go_roundg (l2.length - (i + 1))
            case measure => have := HI2.out; omega
            case rel => exact ⟨i + 1, by omega, by go_num, HQ2⟩
          · obtain ⟨e1, e2, e3, e4⟩ := e
            dsimp only at c0 c1 c2 c3 HHAS hgt
            clear hc he hmem HHAS
            go_wp2_with fail
            go_roundg (l2.length - (i + 1))
            case measure => have := HI2.out; omega
            case rel => exact ⟨i + 1, by omega, by go_num, HQ⟩
        · obtain rfl : i = l2.length := by have := HI2.out; omega
          have hlt2 : ¬ (l2.length : Int) < (l2.length : Int) := by omega
          have hrx := HX12.out.fr HQ.out (fun _ _ h => h)
          have hrw := HR12.out.fr HQ.out (fun _ _ h => h)
          by_cases hm0 : m2 = []
          · have hz : (m2.length : Int) = 0 := by rw [hm0]; rfl
            clear hrx hrw
            go_wp2_with fail
            go_ret
            exact ⟨rfl, HT12.out.next HQ.out⟩
          · obtain ⟨e, hee, hle⟩ := HLA.out.resolve_left hm0
            have hmp : 0 < m2.length := List.length_pos_iff.2 hm0
            have hme : m2[m2.length - 1]? = some e := by rw [← hle]; exact getD_some (by omega)
            obtain ⟨n, hn⟩ : ∃ n, m2.length = n + 1 := ⟨m2.length - 1, by omega⟩
            obtain ⟨g, off, rfl, hc⟩ := ent_cells hrx hmp
            obtain ⟨c0, c1, c2, c3⟩ := hc _ e hme
            rw [show m2.length - 1 = n by omega] at c0 c1 c2 c3
            have HHAS := Lib.hid (has_h hrw e hll2)
            unfold entV at HHAS
            rw [decide_eq_true hee] at HHAS
            have i4 : IntKind.i64.wrap ((m2.length : Int) - 1) = (n : Int) := by rw [IntWalk.i64_in _ (by omega)]; omega
            have hnz : ((m2.length : Int) == 0) = false := by simp; omega
            have hn1 : (n : Int) < (m2.length : Int) := by omega
            obtain ⟨e1, e2, e3, e4⟩ := e
            dsimp only at c0 c1 c2 c3 HHAS
            clear hc hme hee hle hrx hrw hm0 hn hmp
            go_wp2_with fail
            refine Calls.mono HHAS.out ?_
            rintro e w13 ⟨rfl, hf13⟩
            go_wp2_with fail
            go_ret
            exact ⟨rfl, (HT12.out.next HQ.out).next hf13⟩
end
end Go.Proofs.YtgmghopcppniaaaGreatDoor
