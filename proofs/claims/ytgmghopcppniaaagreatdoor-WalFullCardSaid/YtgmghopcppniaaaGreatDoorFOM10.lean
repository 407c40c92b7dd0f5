/- wal's laws: WalFull: walked. -/
import Derived.Test.YtgmghopcppniaaaGreatDoorFOa
namespace Go.Proofs.YtgmghopcppniaaaGreatDoor
open Go.RowKit Go.Lib

section
variable {w wr w' : World} {xb : Nat}
set_option maxRecDepth 100000 in
set_option maxHeartbeats 16000000 in
theorem walfull_h {v : Value} {l : List ActWM} {most : Int} {d : Str} (hE : Env w) (h8 : 8 ≤ w.heap.size) (hA : ActsW w (fun k => k < w.heap.size) v l) (hmost : I64 most) (hdl0 : d.length ≤ 9223372036854775807) :
    Calls Tryz.prog 13 #[v, .int .i64 most, .string (bs d)] w fun e w' => e = .returned (.bool true) ∧ Fr (fun _ => False) w w' := by
  have HSH := Lib.hid (wshown_h hE h8)
  have HA := Lib.hid hA
  have HE := Lib.hid hE
  have hbd : (bs d).size = d.length := rfl
  have hpm := pick_in (c := most) (n := 4000) (by decide)
  have HPM := Lib.hid (fun W : World => wpick_h (w := W) hmost.1 hmost.2 (n := 4000) (by decide) (by decide))
  obtain ⟨pm, hpm2⟩ : ∃ pm, pickZ most 4000 = pm := ⟨_, rfl⟩
  rw [hpm2] at hpm HPM
  obtain ⟨M, hM⟩ : ∃ M, 100 + pm = M := ⟨_, rfl⟩
  have hMw : IntKind.i64.wrap (100 + pm) = M := by rw [IntWalk.i64_in _ (by omega)]; exact hM
  have hM1 : 100 ≤ M := by omega
  have hM2 : M ≤ 100000 := by omega
  clear hA hE hpm2 hM
  go_enter Tryz.func13, Tryz.ntmps13
  go_wp2_with fail
  refine Calls.mono HSH.out ?_
  rintro e w1 ⟨rfl, hf1⟩
  have HF1 := Lib.hid hf1
  have hs1 := hf1.size
  clear hf1 HSH
  have HSM := Lib.hid (wsmall_h (HA.out.grow HF1.out))
  unfold SmallWPost at HSM
  go_wp2_with fail
  refine Calls.mono HSM.out ?_
  rintro e w2 ⟨r, rfl, hrl, rfl⟩
  clear HSM
  cases r with
  | false =>
    clear hrl
    go_wp2_with fail
    go_ret
    exact ⟨rfl, HF1.out⟩
  | true =>
  have HSL := Lib.hid (hrl.1 rfl)
  have HBE := Lib.hid (begin_h (HE.out.grow HF1.out) (by omega) (most := M) (by omega) (by omega))
  unfold BeginPost at HBE
  clear hrl
  by_cases hdl : 3000 < d.length
  · have hdi : (3000 : Int) < (d.length : Int) := by omega
    go_wp2_with fail
    go_ret
    exact ⟨rfl, HF1.out⟩
  have hdi : ¬ (3000 : Int) < (d.length : Int) := by omega
  go_wp2_with fail
  refine Calls.mono (HPM.out _) ?_
  rintro e w3 ⟨rfl, hw3⟩
  subst hw3
  go_wp2_with fail
  refine Calls.mono HBE.out ?_
  rintro e w2 ⟨xb, yb, A, B, rfl, hW, hAA, hR, hBB, hf2⟩
  have HF2 := Lib.hid (HF1.out.next hf2)
  have HL0 : Hid (LSt w xb M 0 w2) := ⟨A, _, _, hW, fun k hk => by have := hAA k hk; omega, RunInv.start (by omega) (by omega), HF1.out.next hf2⟩
  clear hW hAA hR hBB hf2 HBE
  have hl40 := HSL.out.1
  go_wp2_with fail
  go_loopg [12] l.length (fun j v12 wr => ∃ i : Nat, i + j = l.length ∧ v12 = .int .i64 (i : Int) ∧ Hid (LSt w xb M i wr))
  case atStart => exact ⟨0, by omega, rfl, HL0⟩
  case round =>
    obtain ⟨i, hi, rfl, HK⟩ := hrel
    have HI := Lib.hid hi
    clear hi HL0
    have hfw : Fr (fun _ => False) w wr := by obtain ⟨_, _, _, _, _, _, h⟩ := HK.out; exact h
    obtain ⟨⟨a, cap, rfl, hc1, hc2, hcell⟩, hacts⟩ := HA.out.grow hfw
    have HFW := Lib.hid hfw
    clear hfw
    by_cases hlt : i < l.length
    · have hlti : (i : Int) < (l.length : Int) := by omega
      obtain ⟨m, hm⟩ : ∃ m, l[i]? = some m := ⟨_, List.getElem?_eq_getElem hlt⟩
      obtain ⟨g, off, rfl, hS, hcs⟩ := hcell (by omega)
      have hin := hacts m (List.mem_of_getElem? hm)
      have hsm := HSL.out.2 m (List.mem_of_getElem? hm)
      have q0 := hcs i m 0 _ hm rfl
      rw [Nat.add_zero] at q0
      have q1 := hcs i m 1 _ hm rfl
      have q2 := hcs i m 2 _ hm rfl
      have q3 := hcs i m 3 _ hm rfl
      have q4 := hcs i m 4 _ hm rfl
      have q5 := hcs i m 5 _ hm rfl
      have q6 := hcs i m 6 _ hm rfl
      have q7 := hcs i m 7 _ hm rfl
      have HPO := Lib.hid (fun W : World => wpick_h (w := W) hin.op.1 hin.op.2 (n := 10) (by decide) (by decide))
      obtain ⟨o, ho⟩ : ∃ o, pickZ m.act.op 10 = o := ⟨_, rfl⟩
      rw [ho] at HPO
      have HIN := Lib.hid hin
      have HSMA := Lib.hid hsm
      have HO := Lib.hid ho
      clear hm hcs hin hsm hS hcell hacts ho
      go_wp2_with fail
      refine Calls.mono (HPO.out _) ?_
      rintro e w3 ⟨rfl, hw3⟩
      subst hw3
      by_cases h7 : o < 7
      · have HDO := Lib.hid (lst_does HK.out (by omega) (by omega) HIN.out HSMA.out (by rw [HO.out]; exact h7))
        unfold actWV cellsWM at HDO
        go_wp2_with fail
        refine Calls.mono HDO.out ?_
        rintro e w4 ⟨⟨c, rfl⟩, hk4⟩
        have HK4 := Lib.hid hk4
        clear hk4 HDO
        go_wp2_with fail
        go_roundg (l.length - (i + 1))
        case measure => have := HI.out; omega
        case rel => exact ⟨i + 1, by omega, by go_num, HK4⟩
      · have HK4 := Lib.hid (HK.out.skip (Fr.refl _ _))
        go_wp2_with fail
        go_roundg (l.length - (i + 1))
        case measure => have := HI.out; omega
        case rel => exact ⟨i + 1, by omega, by go_num, HK4⟩
    · obtain rfl : i = l.length := by have := HI.out; omega
      have hlti : ¬ (l.length : Int) < (l.length : Int) := by omega
      obtain ⟨A2, L, D, ⟨S, lp, pb, mb, ve, vs, hW⟩, hA2, hRI, hfr⟩ := HK.out
      obtain ⟨R, b, hWh⟩ := hRI.whole
      have HW := Lib.hid hW
      have HRI := Lib.hid hRI
      have HA2 := Lib.hid hA2
      have HWH := Lib.hid hWh
      have HFIT := Lib.hid (hRI.fit (by omega) (by omega))
      have x1 := cell_of hW.head (i := 1) (v := .pointer (some ⟨lp, 0, none⟩)) rfl
      have x0 := cell_of hW.head (i := 0) (v := .pointer (some ⟨pb, 0, none⟩)) rfl
      obtain ⟨t, ht⟩ : ∃ t, L.st.t = t := ⟨_, rfl⟩
      obtain ⟨u, hu⟩ : ∃ u, L.st.v = u := ⟨_, rfl⟩
      have HHD : Hid (Calls Tryz.prog 37 #[.pointer (some ⟨lp, 0, none⟩)] wr fun r w' => r = .returned (.agg #[.int .i64 t, .int .i64 u]) ∧ Fr (fun _ => False) wr w') := Lib.hid (by rw [← ht, ← hu]; exact sh_hard hW.sh)
      obtain ⟨l2, hl2⟩ : ∃ l2, L.st.ents = l2 := ⟨_, rfl⟩
      have hel : L.st.ents.length ≤ 1000000 := by have := HFIT.out.few; omega
      have HTU := Lib.hid (And.intro ht (And.intro hu hl2))
      have hll2 : l2.length ≤ 1000000 := by rw [← hl2]; exact hel
      clear hW hRI hA2 hWh hfr hcell hacts ht hu hl2
      go_wp2_with fail
      refine Calls.mono HHD.out ?_
      rintro e w4 ⟨rfl, hf4⟩
      have HF4 := Lib.hid hf4
      have x2 := hf4.cell x1 (fun h => h)
      clear hf4 HHD x1
      go_upto_region 14 with fail
      obtain ⟨w5, hw5⟩ : ∃ w5, w5 = w4.alloc (.cells #[.int .i64 t, .int .i64 u] 61) := ⟨_, rfl⟩
      rw [← hw5]
      have hf5 : Fr (fun _ => False) wr w5 := by rw [hw5]; exact HF4.out.alloc _
      have hb5 : w5.heap[w4.heap.size]? = some (.cells #[.int .i64 t, .int .i64 u] 61 (0, 0)) := by rw [hw5]; exact block_new _ _
      have HF5 := Lib.hid hf5
      have HB5 := Lib.hid hb5
      have hs4 := HF4.out.size
      have hs5 := hf5.size
      have hlt5 := lt_of_block hb5
      have y1 := hf5.cell (cell_of HW.out.head (i := 1) (v := .pointer (some ⟨lp, 0, none⟩)) rfl) (fun h => h)
      have HEN := Lib.hid (sh_entries (HW.out.sh.quiet hf5) (by omega) HTU.out.2.2)
      clear hw5 x2 hf5 hb5
      go_wp2_with fail
      refine Calls.mono HEN.out ?_
      rintro e w6 ⟨wa, wc2, rfl, hr6, hf6⟩
      have HR6 := Lib.hid hr6
      have HF6 := Lib.hid (HF5.out.next hf6)
      have HF56 := Lib.hid hf6
      have hs6 := hf6.size
      have y0 := HF6.out.cell x0 (fun h => h)
      have HSZ := Lib.hid (size_h (HW.out.wal.disk.grow HF6.out))
      obtain ⟨T, hT⟩ : ∃ T, total D.files = T := ⟨_, rfl⟩
      rw [hT] at HSZ
      have HTT := Lib.hid hT
      clear hr6 hf6 HEN x0 y1 hT
      go_wp2_with fail
      refine Calls.mono HSZ.out ?_
      rintro e w7 ⟨rfl, hf7⟩
      have HF7 := Lib.hid (HF6.out.next hf7)
      have HF57 := Lib.hid (HF56.out.next hf7)
      have HR7 := Lib.hid (HR6.out.fr hf7 (fun _ _ h => h))
      have hs7 := hf7.size
      have z1 := HF7.out.cell (cell_of HW.out.head (i := 1) (v := .pointer (some ⟨lp, 0, none⟩)) rfl) (fun h => h)
      have hb7 := HF57.out.keep HB5.out (fun h => h)
      have h0 := cell_of hb7 (i := 0) (v := .int .i64 t) rfl
      have h1 := cell_of hb7 (i := 1) (v := .int .i64 u) rfl
      have HB7 := Lib.hid hb7
      clear hf7 hb7 y0 HSZ HR6 HF56 HF6
      have hxl := HW.out.lt _ HW.out.axb
      have HEE : Hid (∀ W : World, Calls Tryz.prog 55 #[.int .i64 500, .int .i64 9, .string (bs d)] W fun e w' => e = .returned (.agg #[.int .i64 500, .int .i64 9, .int .i64 2, .string (bs d)]) ∧ Fr (fun _ => False) W w') := Lib.hid (fun W => wentry_h (w := W) 500 9 d)
      obtain ⟨p, hp⟩ : ∃ p, saveL L D t u [⟨500, 9, 2, d⟩] = p := ⟨_, rfl⟩
      have hfull := HWH.out.full (p := p) (by have := HRI.out.num; omega) HRI.out.fuse HRI.out.few (d := d) (by omega) (by rw [HTU.out.1, HTU.out.2.1]; exact hp)
      have HFU := Lib.hid hfull
      have hI5 : I64 500 ∧ I64 9 ∧ I64 2 := ⟨i64_small (by decide) (by decide), i64_small (by decide) (by decide), i64_small (by decide) (by decide)⟩
      have hIt : I64 t ∧ I64 u := by rw [← HTU.out.1, ← HTU.out.2.1]; exact HFIT.out.ok.hard.2.2
      have HSV : Hid (∀ (W : World) (_ : Fr (fun _ => False) w7 W) (k : Nat) (_ : W.heap[k]? = some (.cells #[.int .i64 500, .int .i64 9, .int .i64 2, .string (bs d)] 95 (0, 0))) (_ : w7.heap.size ≤ k), Calls Tryz.prog 54 #[.pointer (some ⟨lp, 0, none⟩), .agg #[.int .i64 t, .int .i64 u], .slice (some ⟨k, 0, none⟩) 1 1] W fun e w' => e = .returned (.int .i64 p.1) ∧ ShAt w' (Plus (fun k => A2 k ∧ k ≠ xb) W w') lp pb mb p.2.1 p.2.2 ∧ Fr (fun k => A2 k ∧ k ≠ xb) W w') := Lib.hid (fun W hq k hb hk =>
        sh_save ((HW.out.sh.quiet HF7.out).quiet hq) HFIT.out hIt.1 hIt.2 (Q := fun j => j = k) [⟨500, 9, 2, d⟩] (SRow.of_block (xs := entsC [⟨500, 9, 2, d⟩]) (n := 1) hb rfl (by decide) rfl) (fun j hj => ⟨by rw [hj]; exact lt_of_block hb, fun e => by have := HW.out.lt _ e.1; omega⟩) (by simp) (fun e he => by
          rw [List.mem_singleton.1 he]; exact ⟨hI5.1, hI5.2.1, hI5.2.2, by dsimp only; omega⟩) (by
          have h1 := hard_bytes hIt.1 hIt.2
          have h5 := ints_len [2, 500, 9, 2] (by intro n hn; simp at hn; rcases hn with rfl | rfl | rfl | rfl <;> exact i64_small (by decide) (by decide))
          have h6 := intL_len (n := (d.length : Int)) (by unfold I64; omega)
          rw [recsL_cons, List.length_append]
          show _ + (recF (.ent ⟨500, 9, 2, d⟩) ++ []).length ≤ _
          rw [List.append_nil]
          have h7 : (recF (.ent ⟨500, 9, 2, d⟩)).length ≤ 3100 := by
            unfold recF
            rw [frame_len]
            show 8 + (entTx ⟨500, 9, 2, d⟩).length ≤ 3100
            unfold entTx textL
            rw [List.length_append, List.length_append]
            simp at h5
            dsimp only
            omega
          omega) hp)
      have HCW := Lib.hid (fun (o : Nat → Prop) (W : World) (hq : Fr o w7 W) (g1 : ¬ o xb) (g2 : ¬ o w4.heap.size) => And.intro (hq.cell z1 g1) (And.intro (hq.cell h0 g2) (hq.cell h1 g2)))
      have HAW := Lib.hid (And.intro (show ¬ (A2 xb ∧ xb ≠ xb) from fun e => e.2 rfl) (show ¬ (A2 w4.heap.size ∧ w4.heap.size ≠ xb) from fun e => by have := HW.out.lt _ e.1; omega))
      clear hfull hI5 hIt hp
      go_upto_region 16 with fail
      go_cut [16] (fun s16 wx => s16 = .int .i64 p.1 ∧ Hid (ShAt wx (Plus (fun k => A2 k ∧ k ≠ xb) w7 wx) lp pb mb p.2.1 p.2.2 ∧ Fr (fun k => A2 k ∧ k ≠ xb) w7 wx))
      case first =>
        go_region_held (fun W => W.cell? ⟨xb, 1, none⟩ = some (.pointer (some ⟨lp, 0, none⟩)) ∧ W.cell? ⟨w4.heap.size, 0, none⟩ = some (.int .i64 t) ∧ W.cell? ⟨w4.heap.size, 1, none⟩ = some (.int .i64 u))
          (first | go_keep | (with_reducible exact pC) | (with_reducible exact p0) | fail)
          (first
            | (go_at_call 55; (with_reducible refine Calls.mono (HEE.out _) ?_); clear HEE; rintro r wA0 ⟨rfl, hq⟩; have f0 := (show Fr (fun _ => False) w7 _ by repeat (first | exact Fr.refl _ _ | refine Fr.drew ?_)).next hq; have p0 := HCW.out _ _ f0 (fun h => h) (fun h => h); have s0 := f0.size; have n0 : ¬ w4.heap.size = wA0.heap.size := (by omega); have n1 : ¬ xb = wA0.heap.size := (by omega); clear hq)
            | (have tok := p0; clear tok; go_at_call 54; (with_reducible refine Calls.mono (HSV.out _ (show Fr (fun _ => False) w7 _ by repeat (first | exact f0 | refine Fr.drew ?_ | refine Fr.alloc ?_ _)) wA0.heap.size (by first | exact block_new _ _ | exact block_new_drew rfl) s0) ?_); clear HSV; rintro r wC ⟨rfl, hsC, hq⟩; have fC := ((show Fr (fun _ => False) w7 _ by repeat (first | exact f0 | refine Fr.drew ?_ | refine Fr.alloc ?_ _)).mono (o2 := fun k => A2 k ∧ k ≠ xb) fun _ _ h => h.elim).next hq; have HSC := Lib.hid (And.intro hsC fC); have pC := HCW.out _ _ fC HAW.out.1 HAW.out.2; clear hq hsC)
            | fail)
        all_goals
          go_wp2_with fail
          go_meet
          refine ⟨rfl, HSC.out.1.mono (fun k hk => ?_) (Plus.lt (fun k hk => by have := HW.out.lt _ hk.1; omega) HSC.out.2.size), HSC.out.2⟩
          rcases hk with hk | ⟨hk, hk2⟩
          · exact .inl hk
          · exact .inr ⟨by (try simp at hk); omega, hk2⟩
      case rest =>
      obtain ⟨rfl, HSX⟩ := hcut
      clear HEE HSV
      obtain ⟨w8, hwn⟩ : ∃ x, x = wc := ⟨_, rfl⟩
      rw [← hwn] at HSX ⊢
      clear hwn z1 h0 h1
      have HS8 := Lib.hid HSX.out.1
      have HF8 := Lib.hid HSX.out.2
      have HFW8 : Hid (Fr (fun _ => False) w w8) := (HFW.out.next HF7.out).trans HSX.out.2 fun k hk => .inr (HA2.out k hk.1)
      have HR8 := Lib.hid (HR7.out.fr HSX.out.2 (fun k hk h => by have := HW.out.lt _ h.1; omega))
      have hs8 := HSX.out.2.size
      obtain ⟨y1, h0, h1⟩ := HCW.out _ _ HSX.out.2 HAW.out.1 HAW.out.2
      have y0 := HSX.out.2.cell (HF7.out.cell (cell_of HW.out.head (i := 0) (v := .pointer (some ⟨pb, 0, none⟩)) rfl) (fun h => h)) HAW.out.1
      have HDS : Hid (∃ S8 ve8 vs8, WalAt w8 S8 lp pb mb ve8 vs8 p.2.1.st (p.2.1.pre ++ [p.2.1.last]) p.2.2) := by obtain ⟨S8, ve8, vs8, h, _⟩ := HS8.out; exact ⟨S8, ve8, vs8, h⟩
      have HSZ : Hid (∀ (W : World) (_ : Fr (fun _ => False) w8 W), Calls Tryz.prog 53 #[.pointer (some ⟨pb, 0, none⟩)] W fun e w' => e = .returned (.int .i64 (total p.2.2.files)) ∧ Fr (fun _ => False) W w') := Lib.hid (fun W hq => by obtain ⟨S8, ve8, vs8, h⟩ := HDS.out; exact size_h (h.disk.grow hq))
      clear HSX HCW HAW HR7
      by_cases hp0 : p.1 = 0
      · have r1 : (p.1 == 0) = true := by simpa using hp0
        have hfin : p.2.1.st.ents = [⟨500, 9, 2, d⟩] ∧ T < total p.2.2.files := by
          rcases HFU.out with ⟨_, h2, h3⟩ | h2
          · rw [HTT.out] at h3; exact ⟨h2, h3⟩
          · rw [h2] at hp0; cases hp0
        have HFIN := Lib.hid hfin.1
        obtain ⟨T2, hT2⟩ : ∃ T2, total p.2.2.files = T2 := ⟨_, rfl⟩
        rw [hT2] at HSZ
        have hTT : (T : Int) < (T2 : Int) := by have := hfin.2; omega
        have HEN := Lib.hid (sh_entries HS8.out (by rw [hfin.1]; simp) hfin.1)
        have HEE : Hid (∀ W : World, Calls Tryz.prog 55 #[.int .i64 500, .int .i64 9, .string (bs d)] W fun e w' => e = .returned (.agg #[.int .i64 500, .int .i64 9, .int .i64 2, .string (bs d)]) ∧ Fr (fun _ => False) W w') := Lib.hid (fun W => wentry_h (w := W) 500 9 d)
        clear hp0 hfin hT2
        go_wp2_with fail
        refine Calls.mono HEN.out ?_
        rintro e w9 ⟨ea, ec2, rfl, hr9, hf9⟩
        have HR9 := Lib.hid hr9
        have HF9 := Lib.hid hf9
        clear hr9 hf9 HEN
        go_wp2_with fail
        refine Calls.mono (HEE.out _) ?_
        rintro e w10 ⟨rfl, hf10⟩
        have HF10 := Lib.hid (HF9.out.next hf10)
        have HR10 := Lib.hid (HR9.out.fr hf10 (fun _ _ h => h))
        clear hf10
        have HSE : Hid (Calls Tryz.prog 38 #[.slice ea 1 ec2, .slice (some ⟨w10.heap.size, 0, none⟩) 1 1] (w10.alloc (.cells #[.int .i64 500, .int .i64 9, .int .i64 2, .string (bs d)] 95)) fun e w' => e = .returned (.bool true) ∧ Fr (fun _ => False) (w10.alloc (.cells #[.int .i64 500, .int .i64 9, .int .i64 2, .string (bs d)] 95)) w') :=
          (sameents_h (l := [⟨500, 9, 2, d⟩]) (m := [⟨500, 9, 2, d⟩]) (HR10.out.fr ((Fr.refl (fun _ => False) _).alloc (.cells #[.int .i64 500, .int .i64 9, .int .i64 2, .string (bs d)] 95)) fun _ _ h => h) (SRow.of_block (S := fun _ => True) (xs := entsC [⟨500, 9, 2, d⟩]) (n := 1) (block_new _ _) rfl (by decide) trivial) (by simp)).mono fun e w' h => by
            rw [decide_eq_true rfl] at h; exact h
        go_wp2_with fail
        refine Calls.mono HSE.out ?_
        rintro e w11 ⟨rfl, hf11⟩
        have HF11 : Hid (Fr (fun _ => False) w8 w11) := (HF10.out.alloc _).next hf11
        have y2 := HF11.out.cell y0 (fun h => h)
        have HS11 := Lib.hid (HSZ.out _ HF11.out)
        clear hf11 HSE y0 y1 h0 h1
        go_wp2_with fail
        refine Calls.mono HS11.out ?_
        rintro e w12 ⟨rfl, hf12⟩
        have HF12 := Lib.hid (HF11.out.next hf12)
        clear hf12 HS11 y2
        go_wp2_with fail
        go_ret
        exact ⟨rfl, HFW8.out.next HF12.out⟩
      · have r1 : (p.1 == 0) = false := by simpa using hp0
        have hpe : p = (6, (L, D)) := by
          rcases HFU.out with ⟨h2, _⟩ | h2
          · exact absurd h2 hp0
          · exact h2
        subst hpe
        dsimp only at HS8 HSZ r1 ⊢
        rw [HTT.out] at HSZ
        have HHD : Hid (∀ (W : World) (_ : Fr (fun _ => False) w8 W), Calls Tryz.prog 37 #[.pointer (some ⟨lp, 0, none⟩)] W fun r w' => r = .returned (.agg #[.int .i64 t, .int .i64 u]) ∧ Fr (fun _ => False) W w') := Lib.hid (fun W hq => by rw [← HTU.out.1, ← HTU.out.2.1]; exact sh_hard (HS8.out.quiet hq))
        have HEN := Lib.hid (fun (W : World) (hq : Fr (fun _ => False) w8 W) => sh_entries (HS8.out.quiet hq) (by rw [HTU.out.2.2]; omega) HTU.out.2.2)
        have HSE : Hid (∀ (W : World) (Q1 Q2 : Nat → Prop) (a b : Option Addr) (c d : Nat) (_ : SRow W Q1 4 (.slice a l2.length c) l2.length (entsC l2)) (_ : SRow W Q2 4 (.slice b l2.length d) l2.length (entsC l2)), Calls Tryz.prog 38 #[.slice a l2.length c, .slice b l2.length d] W fun e w' => e = .returned (.bool true) ∧ Fr (fun _ => False) W w') := Lib.hid (fun W Q1 Q2 a b c d g1 g2 => (sameents_h g1 g2 hll2).mono fun e w' h => by
          rw [decide_eq_true rfl] at h; exact h)
        have hq61 := eqq61 t u t u
        have hbb : (t == t && u == u) = true := by simp
        rw [hbb] at hq61
        have HCW := Lib.hid (fun (W : World) (hq : Fr (fun _ => False) w8 W) => And.intro (hq.cell y1 (fun h => h)) (And.intro (hq.cell y0 (fun h => h)) (And.intro (hq.cell h0 (fun h => h)) (hq.cell h1 (fun h => h)))))
        clear hp0 hbb
        go_upto_region 19 with fail
        go_region_held (fun W => W.cell? ⟨xb, 1, none⟩ = some (.pointer (some ⟨lp, 0, none⟩)) ∧ W.cell? ⟨xb, 0, none⟩ = some (.pointer (some ⟨pb, 0, none⟩)) ∧ W.cell? ⟨w4.heap.size, 0, none⟩ = some (.int .i64 t) ∧ W.cell? ⟨w4.heap.size, 1, none⟩ = some (.int .i64 u))
          (first | go_keep | (with_reducible exact p3) | (with_reducible exact p2) | (with_reducible exact p1) | (with_reducible exact p0) | fail)
          (first
            | (go_at_call 37; (with_reducible refine Calls.mono (HHD.out _ (show Fr (fun _ => False) w8 _ by repeat (first | exact Fr.refl _ _ | refine Fr.drew ?_))) ?_); clear HHD; rintro r wA0 ⟨rfl, hq⟩; have f0 := (show Fr (fun _ => False) w8 _ by repeat (first | exact Fr.refl _ _ | refine Fr.drew ?_)).next hq; have p0 := HCW.out _ f0; clear hq)
            | (have tok := p0; clear tok; go_at_call 39; (with_reducible refine Calls.mono (HEN.out _ (show Fr (fun _ => False) w8 _ by repeat (first | exact f0 | refine Fr.drew ?_))) ?_); clear HEN; rintro r wA1 ⟨na, nc, rfl, hr2, hq⟩; have f1 := (show Fr (fun _ => False) w8 _ by repeat (first | exact f0 | refine Fr.drew ?_)).next hq; have p1 := HCW.out _ f1; have HR2 := Lib.hid hr2; clear hq hr2)
            | (have tok := p1; clear tok; go_at_call 38; (with_reducible refine Calls.mono (HSE.out _ _ _ _ _ _ _ (by first | exact HR2.out | exact HR2.out.fr ((Fr.refl (fun _ => False) _).drew) (fun _ _ h => h)) (HR8.out.fr (show Fr (fun _ => False) w8 _ by repeat (first | exact f1 | refine Fr.drew ?_)) (fun _ _ h => h))) ?_); clear HSE; rintro r wA2 ⟨rfl, hq⟩; have f2 := (show Fr (fun _ => False) w8 _ by repeat (first | exact f1 | refine Fr.drew ?_)).next hq; have p2 := HCW.out _ f2; clear hq)
            | (have tok := p2; clear tok; go_at_call 53; (with_reducible refine Calls.mono (HSZ.out _ (show Fr (fun _ => False) w8 _ by repeat (first | exact f2 | refine Fr.drew ?_))) ?_); clear HSZ; rintro r wA3 ⟨rfl, hq⟩; have f3 := (show Fr (fun _ => False) w8 _ by repeat (first | exact f2 | refine Fr.drew ?_)).next hq; have p3 := HCW.out _ f3; clear hq)
            | fail)
        all_goals
          go_wp2_with fail
          go_ret
          exact ⟨rfl, by first | exact HFW8.out.next f3 | exact HFW8.out.next f3.drew⟩
end
end Go.Proofs.YtgmghopcppniaaaGreatDoor
