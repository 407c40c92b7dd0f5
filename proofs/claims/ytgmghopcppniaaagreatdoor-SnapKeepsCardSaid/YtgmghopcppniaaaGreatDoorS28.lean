/- The law SnapKeeps: walked. -/
import Derived.Test.YtgmghopcppniaaaGreatDoorS27
namespace Go.Proofs.YtgmghopcppniaaaGreatDoor
open Go.RowKit Go.Lib

theorem dead_is {w : World} {pb mb : Nat} {D : DiskD} {x : Bool} (h : DiskAt w pb mb D) (hx : D.dead = x) : Calls Tryz.prog 26 #[.pointer (some ⟨pb, 0, none⟩)] w fun e w' => e = .returned (.bool x) ∧ w = w' := by
  rw [← hx]; exact dead_h h
theorem same_as {w : World} {S S' : Nat → Prop} {a b : BaseD} {va vb : Value} {x : Bool} (hA : BaseIn w S a va) (hB : BaseIn w S' b vb) (h : decide (a = b) = x) : Calls Tryz.prog 18 #[baseV a va, baseV b vb] w fun e w' => e = .returned (.bool x) ∧ Fr (fun _ => False) w w' := by
  refine (same_h hA hB).mono ?_
  rintro e w' ⟨rfl, hf⟩
  exact ⟨by rw [h], hf⟩
def KLoop (w : World) (pb mb B1 B2 : Nat) (l : List (BaseD × Value)) (j : Nat) (u : Value) (wr : World) : Prop :=
  ∃ (k : Nat) (D : DiskD) (a n : BaseD) (va vn : Value), k + j = l.length ∧ u = .int .i64 (k : Int) ∧ Hid (KeepSt D a n) ∧ Hid (KBox w pb mb B1 B2 D a n va vn wr)
set_option maxRecDepth 100000 in
set_option maxHeartbeats 16000000 in
theorem snapkeeps_h {w : World} (hE : Env w) (h8 : 8 ≤ w.heap.size) {v kv nv : Value} {l : List (BaseD × Value)} {turn : Int} {keep noise : List Int} (hl : BasesAt w (fun k => k < w.heap.size) v l) (ht : I64 turn) (hk : IR w (fun k => k < w.heap.size) kv keep) (hn : IR w (fun k => k < w.heap.size) nv noise) :
    Calls Tryz.prog 7 #[v, .int .i64 turn, kv, nv] w fun e w' => e = .returned (.bool true) ∧ Fr (fun _ => False) w w' := by
  have HL := Lib.hid hl
  have HKE := Lib.hid hk
  have HNO := Lib.hid hn
  have HEN := Lib.hid (And.intro hE h8)
  obtain ⟨⟨a0, cap, rfl, hc1, hc2, hz1⟩, hz2⟩ := hl
  obtain ⟨ka, kc, rfl, hk1, hk2⟩ := hk.form
  obtain ⟨na, nc, rfl, hn1, hn2⟩ := hn.form
  have HPK := Lib.hid (fun (W : World) => pick_is (w := W) (c := turn) (n := 40) (k := (pickZ turn 40).toNat) ht (by decide) (by decide) (by have := pickZ_lt (c := turn) (n := 40) (by decide); omega))
  have hp40 : ((pickZ turn 40).toNat : Int) ≤ 40 := by have := pickZ_lt (c := turn) (n := 40) (by decide); omega
  generalize (pickZ turn 40).toNat = p at *
  clear hz1 hz2 hk hn ht
  go_enter Tryz.func7, Tryz.ntmps7
  go_wp2_with fail
  refine Calls.mono (shown_h HEN.out.1 HEN.out.2) ?_
  rintro e w1 ⟨rfl, hf1⟩
  have HF1 := Lib.hid hf1
  clear hf1
  by_cases h10 : l.length ≤ 10
  · have g1 : ¬ (10 : Int) < (l.length : Int) := by omega
    by_cases h60 : keep.length ≤ 60
    · have g2 : ¬ (60 : Int) < (keep.length : Int) := by omega
      by_cases h61 : noise.length ≤ 60
      · have g3 : ¬ (60 : Int) < (noise.length : Int) := by omega
        go_wp2_with fail
        refine Calls.mono (new_yes (by decide) (by decide)) ?_
        rintro e w2 ⟨pb, mb, rfl, hD2, hf2, hp2, hm2⟩
        have HD2 := Lib.hid hD2
        have HF2 := Lib.hid (HF1.out.next hf2)
        have HPB := Lib.hid (show w.heap.size ≤ pb ∧ w.heap.size ≤ mb ∧ pb < w2.heap.size ∧ mb < w2.heap.size from ⟨Nat.le_trans HF1.out.size hp2, Nat.le_trans HF1.out.size hm2, lt_of_block hD2.head, hD2.map.lt⟩)
        clear hD2 hf2 hp2 hm2 g1 g2 g3
        go_wp2_with fail
        refine Calls.mono (HPK.out _) ?_
        rintro e w2' ⟨rfl, hw2⟩
        subst hw2
        go_wp2_with fail
        refine Calls.mono (fuse_h HD2.out (k := (p : Int)) (by omega)) ?_
        rintro e w3 ⟨rfl, hD3, hf3⟩
        have HD3 := Lib.hid hD3
        have HF3 := Lib.hid (HF2.out.trans hf3 fun i hi => by have := HPB.out; rcases hi with h | h <;> exact .inr (by omega) : Fr (fun _ => False) w w3)
        have HP3 := Lib.hid (show w.heap.size ≤ pb ∧ w.heap.size ≤ mb ∧ pb < w3.heap.size ∧ mb < w3.heap.size from ⟨HPB.out.1, HPB.out.2.1, lt_of_block hD3.head, hD3.map.lt⟩)
        clear hD3 hf3 HD2 HPB HF2
        go_upto_region 9 with fail
        obtain ⟨w4, hw4⟩ : ∃ w4, w4 = w3.alloc (.cells #[.int .i64 0, .int .i64 0, .slice none 0 0, .string ⟨#[]⟩] 24) := ⟨_, rfl⟩
        have hF4 : Fr (fun _ => False) w3 w4 := by rw [hw4]; exact (Fr.refl _ _).alloc _
        have hc4 : w4.heap[w3.heap.size]? = some (.cells #[.int .i64 0, .int .i64 0, .slice none 0 0, .string ⟨#[]⟩] 24 (0, 0)) := by rw [hw4]; exact block_new _ _
        rw [← hw4]
        clear hw4
        go_upto_region 10 with fail
        obtain ⟨w5, hw5⟩ : ∃ w5, w5 = w4.alloc (.cells #[.int .i64 0, .int .i64 0, .slice none 0 0, .string ⟨#[]⟩] 24) := ⟨_, rfl⟩
        have hF5 : Fr (fun _ => False) w4 w5 := by rw [hw5]; exact (Fr.refl _ _).alloc _
        have hc5 : w5.heap[w4.heap.size]? = some (.cells #[.int .i64 0, .int .i64 0, .slice none 0 0, .string ⟨#[]⟩] 24 (0, 0)) := by rw [hw5]; exact block_new _ _
        rw [← hw5]
        clear hw5
        have hlt4 := lt_of_block hc4
        have HSP : Hid (Sep w.heap.size pb mb w3.heap.size w4.heap.size) := by
          have h1 := HP3.out; have h2 := HF3.out.size
          exact ⟨h1.1, h1.2.1, by omega, by omega, by omega, by omega, by omega, by omega, by omega⟩
        have HBX : Hid (KBox w pb mb w3.heap.size w4.heap.size (fuseD (newD 100000) (p : Int)) zeroB zeroB (.slice none 0 0) (.slice none 0 0) w5) :=
          ⟨(HD3.out.grow hF4).grow hF5, hF5.keep hc4 (fun h => h), hc5, zero_in _ _, zero_in _ _, (HF3.out.next hF4).next hF5⟩
        have HST := Lib.hid (KeepSt.start (p : Int))
        generalize fuseD (newD 100000) (p : Int) = D0 at *
        have H88 := Lib.hid (show 8 ≤ pb ∧ 8 ≤ mb from ⟨Nat.le_trans HEN.out.2 HP3.out.1, Nat.le_trans HEN.out.2 HP3.out.2.1⟩)
        clear hF4 hF5 hc4 hc5 hlt4 HD3 HF3 HP3 HF1
        generalize w3.heap.size = B1 at *
        generalize w4.heap.size = B2 at *
        go_wp2_with fail
        go_loopg [14] (l.length) (fun j u wr => KLoop w pb mb B1 B2 l j u wr)
        case atStart => exact ⟨0, D0, zeroB, zeroB, _, _, by omega, rfl, HST.out, HBX.out⟩
        case round =>
          obtain ⟨k, D, a, n, va, vn, hk, rfl, HS, HX⟩ := hrel
          have HKK := Lib.hid hk
          clear hk HST HBX
          obtain ⟨xa, xc, rfl, hx1, hx2⟩ := HX.out.in1.row.form
          obtain ⟨ya, yc, rfl, hy1, hy2⟩ := HX.out.in2.row.form
          by_cases hlt : k < l.length
          · cases hdd : D.dead with
            | true =>
              have HDE := Lib.hid (dead_is HX.out.disk hdd)
              clear hdd
              go_wp2_with fail
              refine Calls.mono HDE.out ?_
              rintro e w6 ⟨rfl, hw6⟩
              subst hw6
              go_wp2_with fail
              refine Calls.mono (crash_h HX.out.disk (HKE.out.fr HX.out.fr (fun _ _ h => h)) (HNO.out.fr HX.out.fr (fun _ _ h => h)) (fun i hi ho => by have h1 := HSP.out.p; have h2 := HSP.out.m; rcases ho with h | h <;> omega) (fun i hi ho => by have h1 := HSP.out.p; have h2 := HSP.out.m; rcases ho with h | h <;> omega) (by omega) (by omega)) ?_
              rintro e wc ⟨rfl, hDc, hfc⟩
              obtain ⟨x, hx1, hx2, hxm⟩ := HS.out.fin xbG keep noise
              have HXc := Lib.hid (HX.out.save HSP.out hDc hfc)
              have HLO := Lib.hid (load_is (HEN.out.1.grow HXc.out.fr) HXc.out.disk hxm hx1)
              have HXX := Lib.hid hx2
              clear hDc hfc hx1 hx2 hxm
              generalize crashD xbG D keep noise = Dc at *
              go_wp2_with fail
              refine Calls.mono HLO.out ?_
              rintro e wd ⟨za, zc, rfl, hbz, hfd⟩
              have HA : baseV x (.slice za x.voters.length zc) = .agg #[.int .i64 x.index, .int .i64 x.term, .slice za x.voters.length zc, .string (bs x.data)] := rfl
              have HA1 : baseV a (.slice xa a.voters.length xc) = .agg #[.int .i64 a.index, .int .i64 a.term, .slice xa a.voters.length xc, .string (bs a.data)] := rfl
              have HA2 : baseV n (.slice ya n.voters.length yc) = .agg #[.int .i64 n.index, .int .i64 n.term, .slice ya n.voters.length yc, .string (bs n.data)] := rfl
              rw [HA]
              obtain ⟨we, hwe⟩ : ∃ we, we = wd.alloc (.cells #[.int .i64 x.index, .int .i64 x.term, .slice za x.voters.length zc, .string (bs x.data)] 24) := ⟨_, rfl⟩
              have hFe : Fr (fun _ => False) wd we := by rw [hwe]; exact (Fr.refl _ _).alloc _
              have hce : we.heap[wd.heap.size]? = some (.cells #[.int .i64 x.index, .int .i64 x.term, .slice za x.voters.length zc, .string (bs x.data)] 24 (0, 0)) := by rw [hwe]; exact block_new _ _
              have HXe := Lib.hid ((HXc.out.carry hfd).carry hFe)
              obtain ⟨o1, ho1⟩ : ∃ o, decide (x = a) = o := ⟨_, rfl⟩
              obtain ⟨o2, ho2⟩ : ∃ o, decide (x = n) = o := ⟨_, rfl⟩
              have HO : Hid (o1 = true ∨ o2 = true) := by
                show _ ∨ _
                rw [← ho1, ← ho2, decide_eq_true_eq, decide_eq_true_eq]
                exact HXX.out
              have HS1 := Lib.hid (same_as (hbz.grow hFe) HXe.out.in1 ho1)
              have HS2 := Lib.hid (fun (W : World) (hf : Fr (fun _ => False) we W) => same_as ((hbz.grow hFe).grow hf) (HXe.out.in2.grow hf) ho2)
              rw [HA, HA1] at HS1
              rw [HA, HA2] at HS2
              have HCE := Lib.hid hce
              clear hbz hfd hFe ho1 ho2 HA HA1 HA2 HLO HXX
              go_upto_region 24 with fail
              rw [← hwe]
              clear hwe
              have x0 := cell_of hce (i := 0) (v := .int .i64 x.index) rfl
              have x1 := cell_of hce (i := 1) (v := .int .i64 x.term) rfl
              have x2 := cell_of hce (i := 2) (v := .slice za x.voters.length zc) rfl
              have x3 := cell_of hce (i := 3) (v := .string (bs x.data)) rfl
              have y0 := cell_of HXe.out.box1 (i := 0) (v := .int .i64 a.index) rfl
              have y1 := cell_of HXe.out.box1 (i := 1) (v := .int .i64 a.term) rfl
              have y2 := cell_of HXe.out.box1 (i := 2) (v := .slice xa a.voters.length xc) rfl
              have y3 := cell_of HXe.out.box1 (i := 3) (v := .string (bs a.data)) rfl
              clear hce
              go_wp2_with fail
              refine Calls.mono HS1.out ?_
              rintro e wf ⟨rfl, hff⟩
              have HFF := Lib.hid hff
              have HXf := Lib.hid (HXe.out.carry hff)
              have HCF := Lib.hid (hff.keep HCE.out (fun h => h))
              clear x0 x1 x2 x3 y0 y1 y2 y3 hff HS1
              have x0 := cell_of HCF.out (i := 0) (v := .int .i64 x.index) rfl
              have x1 := cell_of HCF.out (i := 1) (v := .int .i64 x.term) rfl
              have x2 := cell_of HCF.out (i := 2) (v := .slice za x.voters.length zc) rfl
              have x3 := cell_of HCF.out (i := 3) (v := .string (bs x.data)) rfl
              have y0 := cell_of HXf.out.box2 (i := 0) (v := .int .i64 n.index) rfl
              have y1 := cell_of HXf.out.box2 (i := 1) (v := .int .i64 n.term) rfl
              have y2 := cell_of HXf.out.box2 (i := 2) (v := .slice ya n.voters.length yc) rfl
              have y3 := cell_of HXf.out.box2 (i := 3) (v := .string (bs n.data)) rfl
              go_wp2_with fail
              refine Calls.mono (HS2.out _ HFF.out) ?_
              rintro e wg ⟨rfl, hfg⟩
              have HXg := Lib.hid (HXf.out.fr.next hfg)
              have HCG := Lib.hid (hfg.keep HCF.out (fun h => h))
              clear x0 x1 x2 x3 y0 y1 y2 y3 hfg HS2
              have x0 := cell_of HCG.out (i := 0) (v := .int .i64 x.index) rfl
              cases o1 with
              | true =>
                cases hok : decide ((0 : Int) < x.index)
                all_goals
                  go_wp2_with fail
                  go_ret
                  exact ⟨by first | rfl | simp, HXg.out⟩
              | false =>
                cases o2 with
                | false => rcases HO.out with h | h <;> cases h
                | true =>
                  cases hok : decide ((0 : Int) < x.index)
                  all_goals
                    go_wp2_with fail
                    go_ret
                    exact ⟨by first | rfl | simp, HXg.out⟩
            | false =>
              have HDE := Lib.hid (dead_is HX.out.disk hdd)
              have HDD := Lib.hid hdd
              obtain ⟨m, hm⟩ : ∃ m, l[k]? = some m := ⟨_, List.getElem?_eq_getElem hlt⟩
              obtain ⟨⟨a', cap', e1, hz1, hz2, hcell⟩, hbases⟩ := HL.out.grow HX.out.fr
              obtain ⟨rfl, rfl⟩ : a0 = a' ∧ cap = cap' := by injection e1 with h1 h2 h3; exact ⟨h1, h3⟩
              obtain ⟨g, off, rfl, hS, hcs⟩ := hcell (by omega)
              obtain ⟨b, bv⟩ := m
              have hbr : BaseRaw wr (fun k => k < w.heap.size) b bv := hbases _ (List.mem_of_getElem? hm)
              obtain ⟨ba, bc, rfl, hb1, hb2⟩ := hbr.row.form
              have q0 := hcs k _ 0 _ hm rfl
              have q1 := hcs k _ 1 _ hm rfl
              have q2 := hcs k _ 2 _ hm rfl
              have q3 := hcs k _ 3 _ hm rfl
              rw [Nat.add_zero] at q0
              have HBR := Lib.hid hbr
              have HA : baseV b (.slice ba b.voters.length bc) = .agg #[.int .i64 b.index, .int .i64 b.term, .slice ba b.voters.length bc, .string (bs b.data)] := rfl
              have hbd := hbr.data
              have HGL := Lib.hid hS
              clear hz1 hz2 hcs hm hbr e1 hcell hbases hdd hS
              cases hsm : smallB b with
              | false =>
                have HSM := Lib.hid (small_is (w := wr) (a := ba) (cap := bc) (by omega) hbd hsm)
                rw [HA] at HSM
                clear HA hsm
                go_wp2_with fail
                refine Calls.mono HDE.out ?_
                rintro e w6 ⟨rfl, hw6⟩
                subst hw6
                go_wp2_with fail
                refine Calls.mono HSM.out ?_
                rintro e w7 ⟨rfl, hf7⟩
                have HF7 := Lib.hid (HX.out.fr.next hf7)
                clear hf7
                go_wp2_with fail
                go_ret
                exact ⟨rfl, HF7.out⟩
              | true =>
                have HSM := Lib.hid (small_is (w := wr) (a := ba) (cap := bc) (by omega) hbd hsm)
                have HBI := Lib.hid (fun (W : World) (hf : Fr (fun _ => False) wr W) => (HBR.out.small hsm).grow hf)
                have HSV := Lib.hid (fun (W : World) (hf : Fr (fun _ => False) wr W) => save_h (hE := HEN.out.1.grow (HX.out.fr.next hf)) H88.out (HX.out.disk.grow hf) (HBI.out W hf) (fun i hi => ⟨Nat.lt_of_lt_of_le hi (HX.out.fr.next hf).size, fun ho => by have h1 := HSP.out.p; have h2 := HSP.out.m; rcases ho with h | h <;> omega⟩))
                rw [HA] at HSM HSV
                clear hsm
                go_wp2_with fail
                refine Calls.mono HDE.out ?_
                rintro e w6 ⟨rfl, hw6⟩
                subst hw6
                go_wp2_with fail
                refine Calls.mono HSM.out ?_
                rintro e w7 ⟨rfl, hf7⟩
                have HF7 := Lib.hid hf7
                have r0 := hf7.cell q0 (fun h => h)
                have r1 := hf7.cell q1 (fun h => h)
                have r2 := hf7.cell q2 (fun h => h)
                have r3 := hf7.cell q3 (fun h => h)
                clear hf7 q0 q1 q2 q3 HSM
                go_wp2_with fail
                refine Calls.mono (HSV.out _ HF7.out) ?_
                rintro e w8 ⟨rfl, hD8, hf8⟩
                have HX8 := Lib.hid ((HX.out.carry HF7.out).save HSP.out hD8 hf8)
                have HC8 := Lib.hid ((HBI.out w7 HF7.out).fr hf8 (fun i hi ho => by have h1 := HSP.out.p; have h2 := HSP.out.m; rcases ho with h | h <;> omega))
                have hno : ¬ Own pb mb g := fun ho => by have h1 := HSP.out.p; have h2 := HSP.out.m; have h3 := HGL.out; rcases ho with h | h <;> omega
                have t0 := hf8.cell r0 hno
                have t1 := hf8.cell r1 hno
                have t2 := hf8.cell r2 hno
                have t3 := hf8.cell r3 hno
                clear hD8 hf8 hno r0 r1 r2 r3 HSV HBI
                have hg1 : ¬ g = B1 := by have := HGL.out; have := HSP.out.b1; omega
                have hg2 : ¬ g = B2 := by have := HGL.out; have := HSP.out.b2; omega
                have hg3 : ¬ B1 = g := by omega
                have hg4 : ¬ B2 = g := by omega
                have hne := HSP.out.ne
                have hne2 := HSP.out.ne.symm
                have e10 := cell_of HX8.out.box1 (i := 0) (v := .int .i64 a.index) rfl
                have e11 := cell_of HX8.out.box1 (i := 1) (v := .int .i64 a.term) rfl
                have e12 := cell_of HX8.out.box1 (i := 2) (v := .slice xa a.voters.length xc) rfl
                have e13 := cell_of HX8.out.box1 (i := 3) (v := .string (bs a.data)) rfl
                have HER : Hid (Hid (KeepSt D a n) ∧ D.dead = false) := ⟨HS, HDD.out⟩
                by_cases he0 : (saveD D b).1 = 0
                · have HS2 := Lib.hid (HS.out.save0 HDD.out he0)
                  rw [he0]
                  clear he0 HER
                  generalize (saveD D b).2 = D' at *
                  have f10 := free_of 0 HX8.out.box1
                  have f11 := free_of 1 HX8.out.box1
                  have f12 := free_of 2 HX8.out.box1
                  have f13 := free_of 3 HX8.out.box1
                  have l1 := lt_of_block HX8.out.box1
                  obtain ⟨h9, hb9⟩ := HX8.out.set1 HSP.out HC8.out
                  have HX9 : Hid (KBox w pb mb B1 B2 D' b n (.slice ba b.voters.length bc) (.slice ya n.voters.length yc) ((((w8.setCell ⟨B1, 0, none⟩ (.int .i64 b.index)).setCell ⟨B1, 1, none⟩ (.int .i64 b.term)).setCell ⟨B1, 2, none⟩ (.slice ba b.voters.length bc)).setCell ⟨B1, 3, none⟩ (.string (bs b.data)))) := h9
                  have HC9 : Hid (BaseIn ((((w8.setCell ⟨B1, 0, none⟩ (.int .i64 b.index)).setCell ⟨B1, 1, none⟩ (.int .i64 b.term)).setCell ⟨B1, 2, none⟩ (.slice ba b.voters.length bc)).setCell ⟨B1, 3, none⟩ (.string (bs b.data))) (fun k => k < w.heap.size) b (.slice ba b.voters.length bc)) := hb9
                  clear h9 hb9
                  go_upto_region 19 with fail
                  generalize ((((w8.setCell ⟨B1, 0, none⟩ (.int .i64 b.index)).setCell ⟨B1, 1, none⟩ (.int .i64 b.term)).setCell ⟨B1, 2, none⟩ (.slice ba b.voters.length bc)).setCell ⟨B1, 3, none⟩ (.string (bs b.data))) = w9 at *
                  clear e10 e11 e12 e13 f10 f11 f12 f13 l1 t0 t1 t2 t3
                  have e10 := cell_of HX9.out.box1 (i := 0) (v := .int .i64 b.index) rfl
                  have e11 := cell_of HX9.out.box1 (i := 1) (v := .int .i64 b.term) rfl
                  have e12 := cell_of HX9.out.box1 (i := 2) (v := .slice ba b.voters.length bc) rfl
                  have e13 := cell_of HX9.out.box1 (i := 3) (v := .string (bs b.data)) rfl
                  have e20 := cell_of HX9.out.box2 (i := 0) (v := .int .i64 n.index) rfl
                  have e21 := cell_of HX9.out.box2 (i := 1) (v := .int .i64 n.term) rfl
                  have e22 := cell_of HX9.out.box2 (i := 2) (v := .slice ya n.voters.length yc) rfl
                  have e23 := cell_of HX9.out.box2 (i := 3) (v := .string (bs n.data)) rfl
                  have f20 := free_of 0 HX9.out.box2
                  have f21 := free_of 1 HX9.out.box2
                  have f22 := free_of 2 HX9.out.box2
                  have f23 := free_of 3 HX9.out.box2
                  have l2 := lt_of_block HX9.out.box2
                  have HV := Lib.hid (HX9.out.set2 HSP.out HC9.out).1
                  go_wp2_with fail
                  go_roundg (l.length - (k + 1))
                  case measure => have := HKK.out; omega
                  case rel => exact ⟨k + 1, D', b, b, _, _, by omega, by go_num, HS2, HV⟩
                · have n0 : ((saveD D b).1 == 0) = false := by simpa using he0
                  have n1 : decide ((saveD D b).1 = 0) = false := by simpa using he0
                  have e20 := cell_of HX8.out.box2 (i := 0) (v := .int .i64 n.index) rfl
                  have e21 := cell_of HX8.out.box2 (i := 1) (v := .int .i64 n.term) rfl
                  have e22 := cell_of HX8.out.box2 (i := 2) (v := .slice ya n.voters.length yc) rfl
                  have e23 := cell_of HX8.out.box2 (i := 3) (v := .string (bs n.data)) rfl
                  have f20 := free_of 0 HX8.out.box2
                  have f21 := free_of 1 HX8.out.box2
                  have f22 := free_of 2 HX8.out.box2
                  have f23 := free_of 3 HX8.out.box2
                  have l2 := lt_of_block HX8.out.box2
                  obtain ⟨h9, hb9⟩ := HX8.out.set2 HSP.out HX8.out.in1
                  have HX9 : Hid (KBox w pb mb B1 B2 (saveD D b).2 a a (.slice xa a.voters.length xc) (.slice xa a.voters.length xc) ((((w8.setCell ⟨B2, 0, none⟩ (.int .i64 a.index)).setCell ⟨B2, 1, none⟩ (.int .i64 a.term)).setCell ⟨B2, 2, none⟩ (.slice xa a.voters.length xc)).setCell ⟨B2, 3, none⟩ (.string (bs a.data)))) := h9
                  have HC9 : Hid (BaseIn ((((w8.setCell ⟨B2, 0, none⟩ (.int .i64 a.index)).setCell ⟨B2, 1, none⟩ (.int .i64 a.term)).setCell ⟨B2, 2, none⟩ (.slice xa a.voters.length xc)).setCell ⟨B2, 3, none⟩ (.string (bs a.data))) (fun k => k < w.heap.size) b (.slice ba b.voters.length bc)) := HC8.out.fr (set4_fr w8 B2 a (.slice xa a.voters.length xc)) (fun i hi => by have := HSP.out.b2; omega)
                  have HT9 : Hid (Fr (fun i => i = B2) w8 ((((w8.setCell ⟨B2, 0, none⟩ (.int .i64 a.index)).setCell ⟨B2, 1, none⟩ (.int .i64 a.term)).setCell ⟨B2, 2, none⟩ (.slice xa a.voters.length xc)).setCell ⟨B2, 3, none⟩ (.string (bs a.data)))) := set4_fr w8 B2 a (.slice xa a.voters.length xc)
                  clear h9 hb9
                  by_cases he7 : (saveD D b).1 = 7
                  · have HS2 := Lib.hid (HS.out.save7 HDD.out he7)
                    rw [he7]
                    clear he7 he0 HER n0 n1
                    generalize (saveD D b).2 = D' at *
                    go_upto_region 20 with fail
                    have u0 := HT9.out.cell t0 hg2
                    have u1 := HT9.out.cell t1 hg2
                    have u2 := HT9.out.cell t2 hg2
                    have u3 := HT9.out.cell t3 hg2
                    generalize ((((w8.setCell ⟨B2, 0, none⟩ (.int .i64 a.index)).setCell ⟨B2, 1, none⟩ (.int .i64 a.term)).setCell ⟨B2, 2, none⟩ (.slice xa a.voters.length xc)).setCell ⟨B2, 3, none⟩ (.string (bs a.data))) = w9 at *
                    clear e10 e11 e12 e13 f20 f21 f22 f23 l2 t0 t1 t2 t3
                    clear e20 e21 e22 e23
                    have e20 := cell_of HX9.out.box2 (i := 0) (v := .int .i64 a.index) rfl
                    have e21 := cell_of HX9.out.box2 (i := 1) (v := .int .i64 a.term) rfl
                    have e22 := cell_of HX9.out.box2 (i := 2) (v := .slice xa a.voters.length xc) rfl
                    have e23 := cell_of HX9.out.box2 (i := 3) (v := .string (bs a.data)) rfl
                    have f20 := free_of 0 HX9.out.box2
                    have f21 := free_of 1 HX9.out.box2
                    have f22 := free_of 2 HX9.out.box2
                    have f23 := free_of 3 HX9.out.box2
                    have l2 := lt_of_block HX9.out.box2
                    have HV := Lib.hid (HX9.out.set2 HSP.out HC9.out).1
                    go_wp2_with fail
                    go_roundg (l.length - (k + 1))
                    case measure => have := HKK.out; omega
                    case rel => exact ⟨k + 1, D', a, b, _, _, by omega, by go_num, HS2, HV⟩
                  · have n2 : ((saveD D b).1 == 7) = false := by simpa using he7
                    have n3 : decide ((saveD D b).1 = 7) = false := by simpa using he7
                    have HS2 := Lib.hid (HS.out.saveN HDD.out he0 he7)
                    clear he7 he0 HER
                    generalize (saveD D b).2 = D' at *
                    generalize (saveD D b).1 = er at *
                    go_wp2_with fail
                    go_roundg (l.length - (k + 1))
                    case measure => have := HKK.out; omega
                    case rel => exact ⟨k + 1, D', a, a, _, _, by omega, by go_num, HS2, HX9⟩
          · obtain rfl : k = l.length := by have := HKK.out; omega
            go_wp2_with fail
            refine Calls.mono (crash_h HX.out.disk (HKE.out.fr HX.out.fr (fun _ _ h => h)) (HNO.out.fr HX.out.fr (fun _ _ h => h)) (fun i hi ho => by have h1 := HSP.out.p; have h2 := HSP.out.m; rcases ho with h | h <;> omega) (fun i hi ho => by have h1 := HSP.out.p; have h2 := HSP.out.m; rcases ho with h | h <;> omega) (by omega) (by omega)) ?_
            rintro e wc ⟨rfl, hDc, hfc⟩
            obtain ⟨x, hx1, hx2, hxm⟩ := HS.out.fin xbG keep noise
            have HXc := Lib.hid (HX.out.save HSP.out hDc hfc)
            have HLO := Lib.hid (load_is (HEN.out.1.grow HXc.out.fr) HXc.out.disk hxm hx1)
            have HXX := Lib.hid hx2
            clear hDc hfc hx1 hx2 hxm
            generalize crashD xbG D keep noise = Dc at *
            go_wp2_with fail
            refine Calls.mono HLO.out ?_
            rintro e wd ⟨za, zc, rfl, hbz, hfd⟩
            have HA : baseV x (.slice za x.voters.length zc) = .agg #[.int .i64 x.index, .int .i64 x.term, .slice za x.voters.length zc, .string (bs x.data)] := rfl
            have HA1 : baseV a (.slice xa a.voters.length xc) = .agg #[.int .i64 a.index, .int .i64 a.term, .slice xa a.voters.length xc, .string (bs a.data)] := rfl
            have HA2 : baseV n (.slice ya n.voters.length yc) = .agg #[.int .i64 n.index, .int .i64 n.term, .slice ya n.voters.length yc, .string (bs n.data)] := rfl
            rw [HA]
            obtain ⟨we, hwe⟩ : ∃ we, we = wd.alloc (.cells #[.int .i64 x.index, .int .i64 x.term, .slice za x.voters.length zc, .string (bs x.data)] 24) := ⟨_, rfl⟩
            have hFe : Fr (fun _ => False) wd we := by rw [hwe]; exact (Fr.refl _ _).alloc _
            have hce : we.heap[wd.heap.size]? = some (.cells #[.int .i64 x.index, .int .i64 x.term, .slice za x.voters.length zc, .string (bs x.data)] 24 (0, 0)) := by rw [hwe]; exact block_new _ _
            have HXe := Lib.hid ((HXc.out.carry hfd).carry hFe)
            obtain ⟨o1, ho1⟩ : ∃ o, decide (x = a) = o := ⟨_, rfl⟩
            obtain ⟨o2, ho2⟩ : ∃ o, decide (x = n) = o := ⟨_, rfl⟩
            have HO : Hid (o1 = true ∨ o2 = true) := by
              show _ ∨ _
              rw [← ho1, ← ho2, decide_eq_true_eq, decide_eq_true_eq]
              exact HXX.out
            have HS1 := Lib.hid (same_as (hbz.grow hFe) HXe.out.in1 ho1)
            have HS2 := Lib.hid (fun (W : World) (hf : Fr (fun _ => False) we W) => same_as ((hbz.grow hFe).grow hf) (HXe.out.in2.grow hf) ho2)
            rw [HA, HA1] at HS1
            rw [HA, HA2] at HS2
            have HCE := Lib.hid hce
            clear hbz hfd hFe ho1 ho2 HA HA1 HA2 HLO HXX
            go_upto_region 24 with fail
            rw [← hwe]
            clear hwe
            have x0 := cell_of hce (i := 0) (v := .int .i64 x.index) rfl
            have x1 := cell_of hce (i := 1) (v := .int .i64 x.term) rfl
            have x2 := cell_of hce (i := 2) (v := .slice za x.voters.length zc) rfl
            have x3 := cell_of hce (i := 3) (v := .string (bs x.data)) rfl
            have y0 := cell_of HXe.out.box1 (i := 0) (v := .int .i64 a.index) rfl
            have y1 := cell_of HXe.out.box1 (i := 1) (v := .int .i64 a.term) rfl
            have y2 := cell_of HXe.out.box1 (i := 2) (v := .slice xa a.voters.length xc) rfl
            have y3 := cell_of HXe.out.box1 (i := 3) (v := .string (bs a.data)) rfl
            clear hce
            go_wp2_with fail
            refine Calls.mono HS1.out ?_
            rintro e wf ⟨rfl, hff⟩
            have HFF := Lib.hid hff
            have HXf := Lib.hid (HXe.out.carry hff)
            have HCF := Lib.hid (hff.keep HCE.out (fun h => h))
            clear x0 x1 x2 x3 y0 y1 y2 y3 hff HS1
            have x0 := cell_of HCF.out (i := 0) (v := .int .i64 x.index) rfl
            have x1 := cell_of HCF.out (i := 1) (v := .int .i64 x.term) rfl
            have x2 := cell_of HCF.out (i := 2) (v := .slice za x.voters.length zc) rfl
            have x3 := cell_of HCF.out (i := 3) (v := .string (bs x.data)) rfl
            have y0 := cell_of HXf.out.box2 (i := 0) (v := .int .i64 n.index) rfl
            have y1 := cell_of HXf.out.box2 (i := 1) (v := .int .i64 n.term) rfl
            have y2 := cell_of HXf.out.box2 (i := 2) (v := .slice ya n.voters.length yc) rfl
            have y3 := cell_of HXf.out.box2 (i := 3) (v := .string (bs n.data)) rfl
            go_wp2_with fail
            refine Calls.mono (HS2.out _ HFF.out) ?_
            rintro e wg ⟨rfl, hfg⟩
            have HXg := Lib.hid (HXf.out.fr.next hfg)
            have HCG := Lib.hid (hfg.keep HCF.out (fun h => h))
            clear x0 x1 x2 x3 y0 y1 y2 y3 hfg HS2
            have x0 := cell_of HCG.out (i := 0) (v := .int .i64 x.index) rfl
            cases o1 with
            | true =>
              cases hok : decide ((0 : Int) < x.index)
              all_goals
                go_wp2_with fail
                go_ret
                exact ⟨by first | rfl | simp, HXg.out⟩
            | false =>
              cases o2 with
              | false => rcases HO.out with h | h <;> cases h
              | true =>
                cases hok : decide ((0 : Int) < x.index)
                all_goals
                  go_wp2_with fail
                  go_ret
                  exact ⟨by first | rfl | simp, HXg.out⟩
      · have g3 : (60 : Int) < (noise.length : Int) := by omega
        go_wp2_with fail
        go_ret
        exact ⟨rfl, HF1.out⟩
    · have g2 : (60 : Int) < (keep.length : Int) := by omega
      go_wp2_with fail
      go_ret
      exact ⟨rfl, HF1.out⟩
  · have g1 : (10 : Int) < (l.length : Int) := by omega
    go_wp2_with fail
    go_ret
    exact ⟨rfl, HF1.out⟩
end Go.Proofs.YtgmghopcppniaaaGreatDoor
