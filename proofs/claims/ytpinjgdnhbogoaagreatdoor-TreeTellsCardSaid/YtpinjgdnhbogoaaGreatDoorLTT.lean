/- The walk of the law TreeTells. -/
import Derived.Test.YtpinjgdnhbogoaaGreatDoorNH
import Derived.Test.YtpinjgdnhbogoaaGreatDoorNG
import Derived.Test.YtpinjgdnhbogoaaGreatDoorND
import Derived.Test.YtpinjgdnhbogoaaGreatDoorO1
import Derived.Test.YtpinjgdnhbogoaaGreatDoorO2
import Derived.Test.YtpinjgdnhbogoaaGreatDoorO3
import Derived.Test.YtpinjgdnhbogoaaGreatDoorO4
import Derived.Test.YtpinjgdnhbogoaaGreatDoorO5
namespace Go.Proofs.YtpinjgdnhbogoaaGreatDoor
open Go.RowKit Go.Lib

theorem RTk.viewS {S : Nat → Prop} {B : Nat} {w : World} {lv : Value} {ps : List (TokD × Value)} (h : RTk S B w lv ps) : TokV w (fun k => S k ∨ (B ≤ k ∧ k < w.heap.size)) lv (ps.map Prod.fst) :=
  ⟨ps, rfl, (SRow.of_owns h.row).mono fun k hk => .inr (h.row.lt k hk), fun p hp => (h.att p hp).mono fun _ hk => .inl hk⟩
set_option maxRecDepth 100000 in
set_option maxHeartbeats 8000000 in
theorem treetells_h {w : World} (hE : Env w) {n : NodeD} {c0 c1 c2 c3 : Value} (hn : NodeV w (fun k => k < w.heap.size) n [c0, c1, c2, c3]) (nm s : Str) : Calls Tryz.prog 12 #[.agg #[c0, c1, c2, c3], .string (bs nm), .string (bs s)] w fun e w' => e = .returned (.bool true) ∧ Fr (fun _ => False) w w' := by
  have hsz : (bs s).size = s.length := rfl
  obtain ⟨av, kv, xs, hcs, ha, hk, hks⟩ := hn.parts
  simp only [List.cons.injEq, and_true] at hcs
  obtain ⟨rfl, rfl, rfl, rfl⟩ := hcs
  obtain ⟨-, a1, p1, rfl, -⟩ := id ha
  obtain ⟨-, a3, p3, rfl, -, -, -, -⟩ := id hk
  have HN := Lib.hid (fun (W : World) (hF : Fr (fun _ => False) (w.alloc (.cells #[.string (bs n.name), .slice a1 n.attrs.length p1, .string (bs n.text), .slice a3 n.kids.length p3] 30)) W) => show NodeV W (fun k => k < w.heap.size) n [.string (bs n.name), .slice a1 n.attrs.length p1, .string (bs n.text), .slice a3 n.kids.length p3] from NodeV.fr (((Fr.refl (fun _ => False) w).alloc _).next hF) (fun _ _ h => h) n hn)
  have HZ := Lib.hid (fun (W : World) (hF : Fr (fun _ => False) (w.alloc (.cells #[.string (bs n.name), .slice a1 n.attrs.length p1, .string (bs n.text), .slice a3 n.kids.length p3] 30)) W) => show w.heap.size < W.heap.size by have h := hF.size; simp at h; omega)
  have HS := Lib.hid (tshown_h (hE.grow ((Fr.refl (fun _ => False) w).alloc (.cells #[.string (bs n.name), .slice a1 n.attrs.length p1, .string (bs n.text), .slice a3 n.kids.length p3] 30))))
  have HB0 : Hid ((w.alloc (.cells #[.string (bs n.name), .slice a1 n.attrs.length p1, .string (bs n.text), .slice a3 n.kids.length p3] 30)).heap[w.heap.size]? = some (.cells #[.string (bs n.name), .slice a1 n.attrs.length p1, .string (bs n.text), .slice a3 n.kids.length p3] 30 (0, 0))) := block_new _ _
  have HAs := Lib.hid (fun (W : World) (hF : Fr (fun _ => False) (w.alloc (.cells #[.string (bs n.name), .slice a1 n.attrs.length p1, .string (bs n.text), .slice a3 n.kids.length p3] 30)) W) => tas_h (HN.out W hF) (fun k hk => Nat.lt_trans hk (HZ.out W hF)))
  have HW0 : Hid (Fr (fun _ => False) w (w.alloc (.cells #[.string (bs n.name), .slice a1 n.attrs.length p1, .string (bs n.text), .slice a3 n.kids.length p3] 30))) := (Fr.refl _ _).alloc _
  obtain ⟨nc, hnc⟩ : ∃ nc, (cpN n 40 300).1 = nc := ⟨_, rfl⟩
  obtain ⟨lf, hlf⟩ : ∃ lf, (cpN n 40 300).2 = lf := ⟨_, rfl⟩
  obtain ⟨ok, hok⟩ : ∃ ok, (sameN n nc && decide (0 < lf)) = ok := ⟨_, rfl⟩
  have HC := Lib.hid (And.intro hnc (And.intro hlf hok))
  clear hn ha hk hks hE hnc hlf hok
  go_enter Tryz.func12, Tryz.ntmps12
  go_wp2_with fail
  refine Calls.mono HS.out ?_
  rintro e w1 ⟨rfl, hF⟩
  have HF1 := Lib.hid hF
  clear hF
  have bkx := HF1.out.keep HB0.out (fun h => h)
  have x0 := cell_of bkx (i := 0) (v := .string (bs n.name)) rfl
  have x1 := cell_of bkx (i := 1) (v := .slice a1 n.attrs.length p1) rfl
  have x2 := cell_of bkx (i := 2) (v := .string (bs n.text)) rfl
  have x3 := cell_of bkx (i := 3) (v := .slice a3 n.kids.length p3) rfl
  have xl := lt_of_block bkx
  clear bkx
  go_wp2_with fail
  refine Calls.mono (HAs.out _ HF1.out) ?_
  rintro e w2 ⟨d0, d1, d2, d3, rfl, ⟨s0, b1, n1, q1, s2, b3, n3, q3, rfl, rfl, rfl, rfl⟩, hnv, hF⟩
  rw [HC.out.1] at hnv
  rw [HC.out.1, HC.out.2.1, HC.out.2.2]
  have HM2a := Lib.hid hnv
  have HF2 := Lib.hid ((HF1.out.next hF).alloc (.cells #[.string s0, .slice b1 n1 q1, .string s2, .slice b3 n3 q3] 37))
  have HB2 : Hid ((w2.alloc (.cells #[.string s0, .slice b1 n1 q1, .string s2, .slice b3 n3 q3] 37)).heap[w2.heap.size]? = some (.cells #[.string s0, .slice b1 n1 q1, .string s2, .slice b3 n3 q3] 37 (0, 0))) := block_new _ _
  have HZ2 := Lib.hid (fun (W : World) (hF : Fr (fun _ => False) (w2.alloc (.cells #[.string s0, .slice b1 n1 q1, .string s2, .slice b3 n3 q3] 37)) W) => show ∀ k, (w1.heap.size ≤ k ∧ k < w2.heap.size) → k < W.heap.size from fun k hk => by have h := hF.size; simp at h; omega)
  have HM2 := Lib.hid (fun (W : World) (hF : Fr (fun _ => False) (w2.alloc (.cells #[.string s0, .slice b1 n1 q1, .string s2, .slice b3 n3 q3] 37)) W) => And.intro (NodeV.fr (((Fr.refl (fun _ => False) w2).alloc _).next hF) (fun _ _ h => h) nc HM2a.out) (HZ2.out W hF))
  clear hnv hF
  clear x0 x1 x2 x3 xl
  have bkx := HF2.out.keep HB0.out (fun h => h)
  have x0 := cell_of bkx (i := 0) (v := .string (bs n.name)) rfl
  have x1 := cell_of bkx (i := 1) (v := .slice a1 n.attrs.length p1) rfl
  have x2 := cell_of bkx (i := 2) (v := .string (bs n.text)) rfl
  have x3 := cell_of bkx (i := 3) (v := .slice a3 n.kids.length p3) rfl
  have xl := lt_of_block bkx
  clear bkx
  cases ok with
  | false =>
    go_wp2_with fail
    go_ret
    exact ⟨rfl, HW0.out.next HF2.out⟩
  | true =>
    have hsm : sameN n nc = true := by have := HC.out.2.2; rw [Bool.and_eq_true] at this; exact this.1
    have hlf0 : 0 < lf := by have := HC.out.2.2; rw [Bool.and_eq_true] at this; exact of_decide_eq_true this.2
    have hnn : n = nc := (sameN_iff n nc).1 hsm
    have hmf := cpN_many n 40 300 (HC.out.1.trans hnn.symm)
    rw [HC.out.2.1] at hmf
    have hmany : manyN n ≤ 300 := by omega
    have hdm := deep_many n
    have HFew := Lib.hid hmf.2
    clear hsm hlf0 hmf HC HAs
    subst hnn
    have hk300 : n.kids.length ≤ 300 := by have := manyK_len n.kids; have := many_node n; omega
    have HMany := Lib.hid (And.intro hmany (And.intro hdm hk300))
    by_cases hsl : 2000 < s.length
    · have hsi : (2000 : Int) < (s.length : Int) := by omega
      clear hsl
      go_wp2_with fail
      go_ret
      exact ⟨rfl, HW0.out.next HF2.out⟩
    have hsi : ¬ (2000 : Int) < (s.length : Int) := by omega
    have HSl := Lib.hid hsl
    clear hsl
    go_wp2_with fail
    refine Calls.mono (tokens_h (HN.out _ HF2.out) (fun k hk => Nat.lt_trans hk (HZ.out _ HF2.out)) HFew.out (by omega)) ?_
    rintro e w3 ⟨ta, tc, rfl, hv, hF⟩
    have HF3 := Lib.hid (HF2.out.next hF)
    have HB3 := Lib.hid (hF.keep HB2.out (fun h => h))
    have HM3 := Lib.hid (fun W (hF2 : Fr (fun _ => False) _ W) => HM2.out W (hF.next hF2))
    have HV := Lib.hid hv
    clear hF hv
    clear x0 x1 x2 x3 xl
    go_wp2_with fail
    refine Calls.mono (toksm_h HV.out) ?_
    rintro e w4 ⟨u4, b4, rfl, -, hr4, hF⟩
    have HF4 := Lib.hid (HF3.out.next hF)
    have HB4 := Lib.hid (hF.keep HB3.out (fun h => h))
    have HM4 := Lib.hid (fun W (hF2 : Fr (fun _ => False) _ W) => HM3.out W (hF.next hF2))
    have HR4 := Lib.hid hr4
    clear hF hr4
    have m0 := cell_of HB4.out (i := 0) (v := .string s0) rfl
    have m1 := cell_of HB4.out (i := 1) (v := .slice b1 n1 q1) rfl
    have m2 := cell_of HB4.out (i := 2) (v := .string s2) rfl
    have m3 := cell_of HB4.out (i := 3) (v := .slice b3 n3 q3) rfl
    have ml := lt_of_block HB4.out
    go_wp2_with fail
    refine Calls.mono (rtokens_h (weighN n + 1) n (Nat.lt_succ_self _) _ _ _ _ _ _ (HM4.out _ (Fr.refl _ _)).1 (HM4.out _ (Fr.refl _ _)).2 (by omega)) ?_
    rintro e w5 ⟨ra, rc, rps, rfl, hrp, hrt, hF⟩
    have HF5 := Lib.hid (HF4.out.next hF)
    have HB5 := Lib.hid (hF.keep HB4.out (fun h => h))
    have HM5 := Lib.hid (fun W (hF2 : Fr (fun _ => False) _ W) => HM4.out W (hF.next hF2))
    have hrv := hrt.viewS
    rw [hrp] at hrv
    have HRV := Lib.hid hrv
    have HR5 := Lib.hid (fun (h : b4 = true) => (HR4.out h).view.fr hF fun _ _ h => h)
    clear hF hrp hrt hrv
    clear m0 m1 m2 m3 ml
    cases b4 with
    | false =>
      have HAt := Lib.hid (few_node HFew.out).1
      have bkx := HF5.out.keep HB0.out (fun h => h)
      have x0 := cell_of bkx (i := 0) (v := .string (bs n.name)) rfl
      have x1 := cell_of bkx (i := 1) (v := .slice a1 n.attrs.length p1) rfl
      have x2 := cell_of bkx (i := 2) (v := .string (bs n.text)) rfl
      have x3 := cell_of bkx (i := 3) (v := .slice a3 n.kids.length p3) rfl
      have xl := lt_of_block bkx
      clear bkx
      go_wp2_with fail
      refine Calls.mono (all_h (HN.out _ HF5.out) (fun k hk => Nat.lt_trans hk (HZ.out _ HF5.out)) (by omega) nm) ?_
      obtain ⟨al, hal⟩ : ∃ al, allN n nm = al := ⟨_, rfl⟩
      have hall : al.length ≤ 300 := by rw [← hal]; exact Nat.le_trans (List.length_filter_le _ _) hk300
      have HAL := Lib.hid hal
      rw [hal]
      clear hal
      rintro e w7 ⟨aa, ac, axs, rfl, har, hav, hF⟩
      have HF7 := Lib.hid (HF5.out.next hF)
      have HB7 := Lib.hid (hF.keep HB5.out (fun h => h))
      have HM7 := Lib.hid (fun W (hF2 : Fr (fun _ => False) _ W) => HM5.out W (hF.next hF2))
      have HA7 := Lib.hid (And.intro har hav)
      clear hF har hav
      clear x0 x1 x2 x3 xl
      have m0 := cell_of HB7.out (i := 0) (v := .string s0) rfl
      have m1 := cell_of HB7.out (i := 1) (v := .slice b1 n1 q1) rfl
      have m2 := cell_of HB7.out (i := 2) (v := .string s2) rfl
      have m3 := cell_of HB7.out (i := 3) (v := .slice b3 n3 q3) rfl
      have ml := lt_of_block HB7.out
      go_wp2_with fail
      refine Calls.mono (rall_h (HM7.out _ (Fr.refl _ _)).1 (HM7.out _ (Fr.refl _ _)).2 (by omega) nm) ?_
      rw [HAL.out]
      rintro e w8 ⟨ba, bc, bxs, rfl, hbr, hbv, hF⟩
      have HF8 := Lib.hid (HF7.out.next hF)
      have HB8 := Lib.hid (hF.keep HB7.out (fun h => h))
      have HM8 := Lib.hid (fun W (hF2 : Fr (fun _ => False) _ W) => HM7.out W (hF.next hF2))
      have HA8 := Lib.hid (And.intro (HA7.out.1.fr hF fun _ _ h => h) (KidsV.fr hF (fun _ _ h => h) al HA7.out.2))
      have HQ8 := Lib.hid (And.intro hbr hbv)
      clear hF hbr hbv
      clear m0 m1 m2 m3 ml
      have bkx := HF8.out.keep HB0.out (fun h => h)
      have x0 := cell_of bkx (i := 0) (v := .string (bs n.name)) rfl
      have x1 := cell_of bkx (i := 1) (v := .slice a1 n.attrs.length p1) rfl
      have x2 := cell_of bkx (i := 2) (v := .string (bs n.text)) rfl
      have x3 := cell_of bkx (i := 3) (v := .slice a3 n.kids.length p3) rfl
      have xl := lt_of_block bkx
      clear bkx
      go_wp2_with fail
      refine Calls.mono (kid_h (HN.out _ HF8.out) (fun k hk => Nat.lt_trans hk (HZ.out _ HF8.out)) (by omega) nm) ?_
      rw [HAL.out]
      rintro e w9 ⟨k1, k2, k3, k4, k5, k6, rfl, hkv, hF⟩
      obtain ⟨kd, hkd⟩ : ∃ kd, hdN al = kd := ⟨_, rfl⟩
      rw [hkd] at hkv ⊢
      have HKD := Lib.hid hkd
      have hFa := hF.alloc (.cells #[.string (bs kd.name), .slice k1 k2 k3, .string (bs kd.text), .slice k4 k5 k6] 30)
      have HF10 := Lib.hid (HF8.out.next hFa)
      have HB10 := Lib.hid (hFa.keep HB8.out (fun h => h))
      have HM10 := Lib.hid (fun W (hF2 : Fr (fun _ => False) _ W) => HM8.out W (hFa.next hF2))
      have HA10 := Lib.hid (And.intro (HA8.out.1.fr hFa fun _ _ h => h) (KidsV.fr hFa (fun _ _ h => h) al HA8.out.2))
      have HQ10 := Lib.hid (And.intro (HQ8.out.1.fr hFa fun _ _ h => h) (KidsV.fr hFa (fun _ _ h => h) al HQ8.out.2))
      have HT15 := Lib.hid (block_new w9 (.cells #[.string (bs kd.name), .slice k1 k2 k3, .string (bs kd.text), .slice k4 k5 k6] 30))
      have HKV := Lib.hid (NodeV.fr ((Fr.refl (fun _ => False) w9).alloc (.cells #[.string (bs kd.name), .slice k1 k2 k3, .string (bs kd.text), .slice k4 k5 k6] 30)) (fun _ _ h => h) _ hkv)
      clear hkv hF hFa hkd
      clear x0 x1 x2 x3 xl
      obtain ⟨aln, haln⟩ : ∃ aln, al.length = aln := ⟨_, rfl⟩
      rw [haln] at hall HA10 HQ10 ⊢
      have HALN := Lib.hid haln
      have hne1 : ((aln : Int) != (aln : Int)) = false := by simp
      clear haln
      go_wp2_with fail
      go_loopg [17] aln (fun j v17 w' => ∃ W, W = w' ∧ ∃ i : Nat, i + j = aln ∧ v17 = .int .i64 i ∧ Hid (Fr (fun _ => False) (w9.alloc (.cells #[.string (bs kd.name), .slice k1 k2 k3, .string (bs kd.text), .slice k4 k5 k6] 30)) W))
      case atStart => exact ⟨_, rfl, 0, by omega, rfl, Fr.refl _ _⟩
      case round =>
        obtain ⟨W, rfl, i, hi, rfl, HI⟩ := hrel
        by_cases hlt : i < aln
        · obtain ⟨x, hx⟩ : ∃ x, al[i]? = some x := ⟨_, List.getElem?_eq_getElem (by rw [HALN.out]; exact hlt)⟩
          obtain ⟨g, off, rfl, hc⟩ := (HA10.out.1.fr HI.out fun _ _ h => h).cell (by omega)
          obtain ⟨g2, off2, rfl, hc2⟩ := (HQ10.out.1.fr HI.out fun _ _ h => h).cell (by omega)
          obtain ⟨y1, y2, y3, y4, y5, y6, hyv, q0, q1, q2, q3⟩ := kid_cells hc (KidsV.fr HI.out (fun _ _ h => h) al HA10.out.2) hx
          obtain ⟨z1, z2, z3, z4, z5, z6, hzv, r0, r1, r2, r3⟩ := kid_cells hc2 (KidsV.fr HI.out (fun _ _ h => h) al HQ10.out.2) hx
          have HSame := Lib.hid (fun (W' : World) (hF : Fr (fun _ => False) W W') => same_h (weighN x + 1) x (Nat.lt_succ_self _) W' _ _ x _ _ _ _ _ _ _ _ (NodeV.fr hF (fun _ _ h => h) x hyv) (NodeV.fr hF (fun _ _ h => h) x hzv))
          have HXx := Lib.hid hi
          clear hx hc hc2 hyv hzv hi
          go_wp2_with fail
          go_still_tail 8, (by kernel_rfl)
          go_wp2_with fail
          refine Calls.mono (HSame.out _ ((Fr.refl _ _).drewN 1)) ?_
          rintro e w11 ⟨rfl, hF⟩
          rw [(sameN_iff x x).2 rfl]
          have HF11 := Lib.hid (HI.out.next hF.of_start)
          clear hF q0 q1 q2 q3 r0 r1 r2 r3
          go_wp2_with fail
          go_roundg (aln - (i + 1))
          case measure => have := HXx.out; omega
          case rel => exact ⟨_, rfl, i + 1, by have := HXx.out; omega, by go_num, HF11.out⟩
        · obtain rfl : i = aln := by omega
          clear hi hlt
          have HF12 := Lib.hid (HF10.out.next HI.out)
          have HB12 := Lib.hid (HI.out.keep HB10.out (fun h => h))
          have HM12 := Lib.hid (fun W2 (hF2 : Fr (fun _ => False) W W2) => HM10.out W2 (HI.out.next hF2))
          by_cases hp : 0 < i
          · have hpi : (0 : Int) < (i : Int) := by omega
            have hpd : decide (0 < i) = true := decide_eq_true hp
            obtain ⟨x, hx⟩ : ∃ x, al[0]? = some x := ⟨_, List.getElem?_eq_getElem (by rw [HALN.out]; exact hp)⟩
            have hkx : kd = x := by
              rw [← HKD.out]
              cases al with | nil => cases hx | cons y l => exact Option.some.inj hx
            subst hkx
            obtain ⟨g2, off2, rfl, hc2⟩ := (HQ10.out.1.fr HI.out fun _ _ h => h).cell hp
            obtain ⟨z1, z2, z3, z4, z5, z6, hzv, r0, r1, r2, r3⟩ := kid_cells (i := 0) hc2 (KidsV.fr HI.out (fun _ _ h => h) al HQ10.out.2) hx
            simp only [Nat.zero_mul, Nat.add_zero] at r0 r1 r2 r3
            have h15 := HI.out.keep HT15.out (fun h => h)
            have t0 := cell_of h15 (i := 0) (v := .string (bs kd.name)) rfl
            have t1 := cell_of h15 (i := 1) (v := .slice k1 k2 k3) rfl
            have t2 := cell_of h15 (i := 2) (v := .string (bs kd.text)) rfl
            have t3 := cell_of h15 (i := 3) (v := .slice k4 k5 k6) rfl
            have tl := lt_of_block h15
            have HSame := Lib.hid (fun (W' : World) (hF : Fr (fun _ => False) W W') => same_h (weighN kd + 1) kd (Nat.lt_succ_self _) W' _ _ kd _ _ _ _ _ _ _ _ (NodeV.fr (HI.out.next hF) (fun _ _ h => h) kd HKV.out) (NodeV.fr hF (fun _ _ h => h) kd hzv))
            clear hx hc2 hzv h15 hp
            go_wp2_with fail
            go_still_tail 4, (by kernel_rfl)
            go_wp2_with fail
            refine Calls.mono (HSame.out _ ((Fr.refl _ _).drewN 1)) ?_
            rintro e w13 ⟨rfl, hF⟩
            rw [(sameN_iff kd kd).2 rfl]
            have hF := hF.of_start
            have HF13 := Lib.hid (HF12.out.next hF)
            have HB13 := Lib.hid (hF.keep HB12.out (fun h => h))
            have HM13 := Lib.hid (fun W (hF2 : Fr (fun _ => False) _ W) => HM12.out W (hF.next hF2))
            clear hF r0 r1 r2 r3 t0 t1 t2 t3 tl
            have bkx := HF13.out.keep HB0.out (fun h => h)
            have x0 := cell_of bkx (i := 0) (v := .string (bs n.name)) rfl
            have x1 := cell_of bkx (i := 1) (v := .slice a1 n.attrs.length p1) rfl
            have x2 := cell_of bkx (i := 2) (v := .string (bs n.text)) rfl
            have x3 := cell_of bkx (i := 3) (v := .slice a3 n.kids.length p3) rfl
            have xl := lt_of_block bkx
            clear bkx
            go_wp2_with fail
            refine Calls.mono (attr_at_h (HN.out _ HF13.out) (Nat.le_trans HAt.out (by decide)) nm) ?_
            rintro e w20 ⟨rfl, hF⟩
            have HF20 := Lib.hid (HF13.out.next hF)
            have HB20 := Lib.hid (hF.keep HB13.out (fun h => h))
            have HM20 := Lib.hid (fun W (hF2 : Fr (fun _ => False) _ W) => HM13.out W (hF.next hF2))
            clear hF
            clear x0 x1 x2 x3 xl
            have m0 := cell_of HB20.out (i := 0) (v := .string s0) rfl
            have m1 := cell_of HB20.out (i := 1) (v := .slice b1 n1 q1) rfl
            have m2 := cell_of HB20.out (i := 2) (v := .string s2) rfl
            have m3 := cell_of HB20.out (i := 3) (v := .slice b3 n3 q3) rfl
            have ml := lt_of_block HB20.out
            go_wp2_with fail
            refine Calls.mono (rattr_at_h (HM20.out _ (Fr.refl _ _)).1 (Nat.le_trans HAt.out (by decide)) nm) ?_
            rintro e w21 ⟨rfl, hF⟩
            have HF21 := Lib.hid (HF20.out.next hF)
            have HB21 := Lib.hid (hF.keep HB20.out (fun h => h))
            have HM21 := Lib.hid (fun W (hF2 : Fr (fun _ => False) _ W) => HM20.out W (hF.next hF2))
            clear hF
            clear m0 m1 m2 m3 ml
            have bkx := HF21.out.keep HB0.out (fun h => h)
            have x0 := cell_of bkx (i := 0) (v := .string (bs n.name)) rfl
            have x1 := cell_of bkx (i := 1) (v := .slice a1 n.attrs.length p1) rfl
            have x2 := cell_of bkx (i := 2) (v := .string (bs n.text)) rfl
            have x3 := cell_of bkx (i := 3) (v := .slice a3 n.kids.length p3) rfl
            have xl := lt_of_block bkx
            clear bkx
            go_wp2_with fail
            refine Calls.mono (size_h (HN.out _ HF21.out) (fun k hk => Nat.lt_trans hk (HZ.out _ HF21.out)) (by omega)) ?_
            rintro e w22 ⟨rfl, hF⟩
            have HF22 := Lib.hid (HF21.out.next hF)
            have HB22 := Lib.hid (hF.keep HB21.out (fun h => h))
            have HM22 := Lib.hid (fun W (hF2 : Fr (fun _ => False) _ W) => HM21.out W (hF.next hF2))
            clear hF
            clear x0 x1 x2 x3 xl
            have m0 := cell_of HB22.out (i := 0) (v := .string s0) rfl
            have m1 := cell_of HB22.out (i := 1) (v := .slice b1 n1 q1) rfl
            have m2 := cell_of HB22.out (i := 2) (v := .string s2) rfl
            have m3 := cell_of HB22.out (i := 3) (v := .slice b3 n3 q3) rfl
            have ml := lt_of_block HB22.out
            go_wp2_with fail
            refine Calls.mono (rsize_h (weighN n + 1) n (Nat.lt_succ_self _) _ _ _ _ _ _ (HM22.out _ (Fr.refl _ _)).1 (by omega) (by omega)) ?_
            rintro e w23 ⟨rfl, hF⟩
            have HF23 := Lib.hid (HF22.out.next hF)
            have HB23 := Lib.hid (hF.keep HB22.out (fun h => h))
            have HM23 := Lib.hid (fun W (hF2 : Fr (fun _ => False) _ W) => HM22.out W (hF.next hF2))
            clear hF
            clear m0 m1 m2 m3 ml
            obtain ⟨o, ho⟩ : ∃ o, attrO n nm = o := ⟨_, rfl⟩
            rw [ho]
            clear ho
            go_wp2_with fail
            refine Calls.mono (squeeze_h s (by have := HSl.out; omega)) ?_
            rintro e w24 ⟨rfl, hF⟩
            have HF24 := Lib.hid (HF23.out.next hF)
            clear hF
            go_wp2_with fail
            refine Calls.mono (rsqueeze_h s (by have := HSl.out; omega)) ?_
            rintro e w25 ⟨rfl, hF⟩
            have HF25 := Lib.hid (HF24.out.next hF)
            clear hF
            go_wp2_with fail
            go_ret
            exact ⟨rfl, HW0.out.next HF25.out⟩
          · have hpd : decide (0 < i) = false := decide_eq_false hp
            have hpi : ¬ (0 : Int) < (i : Int) := by omega
            clear hp
            have bkx := HF12.out.keep HB0.out (fun h => h)
            have x0 := cell_of bkx (i := 0) (v := .string (bs n.name)) rfl
            have x1 := cell_of bkx (i := 1) (v := .slice a1 n.attrs.length p1) rfl
            have x2 := cell_of bkx (i := 2) (v := .string (bs n.text)) rfl
            have x3 := cell_of bkx (i := 3) (v := .slice a3 n.kids.length p3) rfl
            have xl := lt_of_block bkx
            clear bkx
            go_wp2_with fail
            refine Calls.mono (attr_at_h (HN.out _ HF12.out) (Nat.le_trans HAt.out (by decide)) nm) ?_
            rintro e w20 ⟨rfl, hF⟩
            have HF20 := Lib.hid (HF12.out.next hF)
            have HB20 := Lib.hid (hF.keep HB12.out (fun h => h))
            have HM20 := Lib.hid (fun W (hF2 : Fr (fun _ => False) _ W) => HM12.out W (hF.next hF2))
            clear hF
            clear x0 x1 x2 x3 xl
            have m0 := cell_of HB20.out (i := 0) (v := .string s0) rfl
            have m1 := cell_of HB20.out (i := 1) (v := .slice b1 n1 q1) rfl
            have m2 := cell_of HB20.out (i := 2) (v := .string s2) rfl
            have m3 := cell_of HB20.out (i := 3) (v := .slice b3 n3 q3) rfl
            have ml := lt_of_block HB20.out
            go_wp2_with fail
            refine Calls.mono (rattr_at_h (HM20.out _ (Fr.refl _ _)).1 (Nat.le_trans HAt.out (by decide)) nm) ?_
            rintro e w21 ⟨rfl, hF⟩
            have HF21 := Lib.hid (HF20.out.next hF)
            have HB21 := Lib.hid (hF.keep HB20.out (fun h => h))
            have HM21 := Lib.hid (fun W (hF2 : Fr (fun _ => False) _ W) => HM20.out W (hF.next hF2))
            clear hF
            clear m0 m1 m2 m3 ml
            have bkx := HF21.out.keep HB0.out (fun h => h)
            have x0 := cell_of bkx (i := 0) (v := .string (bs n.name)) rfl
            have x1 := cell_of bkx (i := 1) (v := .slice a1 n.attrs.length p1) rfl
            have x2 := cell_of bkx (i := 2) (v := .string (bs n.text)) rfl
            have x3 := cell_of bkx (i := 3) (v := .slice a3 n.kids.length p3) rfl
            have xl := lt_of_block bkx
            clear bkx
            go_wp2_with fail
            refine Calls.mono (size_h (HN.out _ HF21.out) (fun k hk => Nat.lt_trans hk (HZ.out _ HF21.out)) (by omega)) ?_
            rintro e w22 ⟨rfl, hF⟩
            have HF22 := Lib.hid (HF21.out.next hF)
            have HB22 := Lib.hid (hF.keep HB21.out (fun h => h))
            have HM22 := Lib.hid (fun W (hF2 : Fr (fun _ => False) _ W) => HM21.out W (hF.next hF2))
            clear hF
            clear x0 x1 x2 x3 xl
            have m0 := cell_of HB22.out (i := 0) (v := .string s0) rfl
            have m1 := cell_of HB22.out (i := 1) (v := .slice b1 n1 q1) rfl
            have m2 := cell_of HB22.out (i := 2) (v := .string s2) rfl
            have m3 := cell_of HB22.out (i := 3) (v := .slice b3 n3 q3) rfl
            have ml := lt_of_block HB22.out
            go_wp2_with fail
            refine Calls.mono (rsize_h (weighN n + 1) n (Nat.lt_succ_self _) _ _ _ _ _ _ (HM22.out _ (Fr.refl _ _)).1 (by omega) (by omega)) ?_
            rintro e w23 ⟨rfl, hF⟩
            have HF23 := Lib.hid (HF22.out.next hF)
            have HB23 := Lib.hid (hF.keep HB22.out (fun h => h))
            have HM23 := Lib.hid (fun W (hF2 : Fr (fun _ => False) _ W) => HM22.out W (hF.next hF2))
            clear hF
            clear m0 m1 m2 m3 ml
            obtain ⟨o, ho⟩ : ∃ o, attrO n nm = o := ⟨_, rfl⟩
            rw [ho]
            clear ho
            go_wp2_with fail
            refine Calls.mono (squeeze_h s (by have := HSl.out; omega)) ?_
            rintro e w24 ⟨rfl, hF⟩
            have HF24 := Lib.hid (HF23.out.next hF)
            clear hF
            go_wp2_with fail
            refine Calls.mono (rsqueeze_h s (by have := HSl.out; omega)) ?_
            rintro e w25 ⟨rfl, hF⟩
            have HF25 := Lib.hid (HF24.out.next hF)
            clear hF
            go_wp2_with fail
            go_ret
            exact ⟨rfl, HW0.out.next HF25.out⟩
    | true =>
      have HAt := Lib.hid (few_node HFew.out).1
      go_wp2_with fail
      refine Calls.mono (sametoks_h (HR5.out (by first | rfl | trivial)) HRV.out (by have := tok_len n; omega) (fun x hx => Nat.le_trans (tok_few n HFew.out x hx) (by decide))) ?_
      rintro e w6 ⟨rfl, p, rfl⟩
      have hF : Fr (fun _ => False) w5 (w5.drewN p) := (Fr.refl _ _).drewN p
      have HF6 := Lib.hid (HF5.out.next hF)
      have HB6 := Lib.hid (hF.keep HB5.out (fun h => h))
      have HM6 := Lib.hid (fun W (hF2 : Fr (fun _ => False) _ W) => HM5.out W (hF.next hF2))
      clear hF
      generalize w5.drewN p = w6 at *
      have bkx := HF6.out.keep HB0.out (fun h => h)
      have x0 := cell_of bkx (i := 0) (v := .string (bs n.name)) rfl
      have x1 := cell_of bkx (i := 1) (v := .slice a1 n.attrs.length p1) rfl
      have x2 := cell_of bkx (i := 2) (v := .string (bs n.text)) rfl
      have x3 := cell_of bkx (i := 3) (v := .slice a3 n.kids.length p3) rfl
      have xl := lt_of_block bkx
      clear bkx
      go_wp2_with fail
      refine Calls.mono (all_h (HN.out _ HF6.out) (fun k hk => Nat.lt_trans hk (HZ.out _ HF6.out)) (by omega) nm) ?_
      obtain ⟨al, hal⟩ : ∃ al, allN n nm = al := ⟨_, rfl⟩
      have hall : al.length ≤ 300 := by rw [← hal]; exact Nat.le_trans (List.length_filter_le _ _) hk300
      have HAL := Lib.hid hal
      rw [hal]
      clear hal
      rintro e w7 ⟨aa, ac, axs, rfl, har, hav, hF⟩
      have HF7 := Lib.hid (HF6.out.next hF)
      have HB7 := Lib.hid (hF.keep HB6.out (fun h => h))
      have HM7 := Lib.hid (fun W (hF2 : Fr (fun _ => False) _ W) => HM6.out W (hF.next hF2))
      have HA7 := Lib.hid (And.intro har hav)
      clear hF har hav
      clear x0 x1 x2 x3 xl
      have m0 := cell_of HB7.out (i := 0) (v := .string s0) rfl
      have m1 := cell_of HB7.out (i := 1) (v := .slice b1 n1 q1) rfl
      have m2 := cell_of HB7.out (i := 2) (v := .string s2) rfl
      have m3 := cell_of HB7.out (i := 3) (v := .slice b3 n3 q3) rfl
      have ml := lt_of_block HB7.out
      go_wp2_with fail
      refine Calls.mono (rall_h (HM7.out _ (Fr.refl _ _)).1 (HM7.out _ (Fr.refl _ _)).2 (by omega) nm) ?_
      rw [HAL.out]
      rintro e w8 ⟨ba, bc, bxs, rfl, hbr, hbv, hF⟩
      have HF8 := Lib.hid (HF7.out.next hF)
      have HB8 := Lib.hid (hF.keep HB7.out (fun h => h))
      have HM8 := Lib.hid (fun W (hF2 : Fr (fun _ => False) _ W) => HM7.out W (hF.next hF2))
      have HA8 := Lib.hid (And.intro (HA7.out.1.fr hF fun _ _ h => h) (KidsV.fr hF (fun _ _ h => h) al HA7.out.2))
      have HQ8 := Lib.hid (And.intro hbr hbv)
      clear hF hbr hbv
      clear m0 m1 m2 m3 ml
      have bkx := HF8.out.keep HB0.out (fun h => h)
      have x0 := cell_of bkx (i := 0) (v := .string (bs n.name)) rfl
      have x1 := cell_of bkx (i := 1) (v := .slice a1 n.attrs.length p1) rfl
      have x2 := cell_of bkx (i := 2) (v := .string (bs n.text)) rfl
      have x3 := cell_of bkx (i := 3) (v := .slice a3 n.kids.length p3) rfl
      have xl := lt_of_block bkx
      clear bkx
      go_wp2_with fail
      refine Calls.mono (kid_h (HN.out _ HF8.out) (fun k hk => Nat.lt_trans hk (HZ.out _ HF8.out)) (by omega) nm) ?_
      rw [HAL.out]
      rintro e w9 ⟨k1, k2, k3, k4, k5, k6, rfl, hkv, hF⟩
      obtain ⟨kd, hkd⟩ : ∃ kd, hdN al = kd := ⟨_, rfl⟩
      rw [hkd] at hkv ⊢
      have HKD := Lib.hid hkd
      have hFa := hF.alloc (.cells #[.string (bs kd.name), .slice k1 k2 k3, .string (bs kd.text), .slice k4 k5 k6] 30)
      have HF10 := Lib.hid (HF8.out.next hFa)
      have HB10 := Lib.hid (hFa.keep HB8.out (fun h => h))
      have HM10 := Lib.hid (fun W (hF2 : Fr (fun _ => False) _ W) => HM8.out W (hFa.next hF2))
      have HA10 := Lib.hid (And.intro (HA8.out.1.fr hFa fun _ _ h => h) (KidsV.fr hFa (fun _ _ h => h) al HA8.out.2))
      have HQ10 := Lib.hid (And.intro (HQ8.out.1.fr hFa fun _ _ h => h) (KidsV.fr hFa (fun _ _ h => h) al HQ8.out.2))
      have HT15 := Lib.hid (block_new w9 (.cells #[.string (bs kd.name), .slice k1 k2 k3, .string (bs kd.text), .slice k4 k5 k6] 30))
      have HKV := Lib.hid (NodeV.fr ((Fr.refl (fun _ => False) w9).alloc (.cells #[.string (bs kd.name), .slice k1 k2 k3, .string (bs kd.text), .slice k4 k5 k6] 30)) (fun _ _ h => h) _ hkv)
      clear hkv hF hFa hkd
      clear x0 x1 x2 x3 xl
      obtain ⟨aln, haln⟩ : ∃ aln, al.length = aln := ⟨_, rfl⟩
      rw [haln] at hall HA10 HQ10 ⊢
      have HALN := Lib.hid haln
      have hne1 : ((aln : Int) != (aln : Int)) = false := by simp
      clear haln
      go_wp2_with fail
      go_loopg [17] aln (fun j v17 w' => ∃ W, W = w' ∧ ∃ i : Nat, i + j = aln ∧ v17 = .int .i64 i ∧ Hid (Fr (fun _ => False) (w9.alloc (.cells #[.string (bs kd.name), .slice k1 k2 k3, .string (bs kd.text), .slice k4 k5 k6] 30)) W))
      case atStart => exact ⟨_, rfl, 0, by omega, rfl, Fr.refl _ _⟩
      case round =>
        obtain ⟨W, rfl, i, hi, rfl, HI⟩ := hrel
        by_cases hlt : i < aln
        · obtain ⟨x, hx⟩ : ∃ x, al[i]? = some x := ⟨_, List.getElem?_eq_getElem (by rw [HALN.out]; exact hlt)⟩
          obtain ⟨g, off, rfl, hc⟩ := (HA10.out.1.fr HI.out fun _ _ h => h).cell (by omega)
          obtain ⟨g2, off2, rfl, hc2⟩ := (HQ10.out.1.fr HI.out fun _ _ h => h).cell (by omega)
          obtain ⟨y1, y2, y3, y4, y5, y6, hyv, q0, q1, q2, q3⟩ := kid_cells hc (KidsV.fr HI.out (fun _ _ h => h) al HA10.out.2) hx
          obtain ⟨z1, z2, z3, z4, z5, z6, hzv, r0, r1, r2, r3⟩ := kid_cells hc2 (KidsV.fr HI.out (fun _ _ h => h) al HQ10.out.2) hx
          have HSame := Lib.hid (fun (W' : World) (hF : Fr (fun _ => False) W W') => same_h (weighN x + 1) x (Nat.lt_succ_self _) W' _ _ x _ _ _ _ _ _ _ _ (NodeV.fr hF (fun _ _ h => h) x hyv) (NodeV.fr hF (fun _ _ h => h) x hzv))
          have HXx := Lib.hid hi
          clear hx hc hc2 hyv hzv hi
          go_wp2_with fail
          go_still_tail 8, (by kernel_rfl)
          go_wp2_with fail
          refine Calls.mono (HSame.out _ ((Fr.refl _ _).drewN 1)) ?_
          rintro e w11 ⟨rfl, hF⟩
          rw [(sameN_iff x x).2 rfl]
          have HF11 := Lib.hid (HI.out.next hF.of_start)
          clear hF q0 q1 q2 q3 r0 r1 r2 r3
          go_wp2_with fail
          go_roundg (aln - (i + 1))
          case measure => have := HXx.out; omega
          case rel => exact ⟨_, rfl, i + 1, by have := HXx.out; omega, by go_num, HF11.out⟩
        · obtain rfl : i = aln := by omega
          clear hi hlt
          have HF12 := Lib.hid (HF10.out.next HI.out)
          have HB12 := Lib.hid (HI.out.keep HB10.out (fun h => h))
          have HM12 := Lib.hid (fun W2 (hF2 : Fr (fun _ => False) W W2) => HM10.out W2 (HI.out.next hF2))
          by_cases hp : 0 < i
          · have hpi : (0 : Int) < (i : Int) := by omega
            have hpd : decide (0 < i) = true := decide_eq_true hp
            obtain ⟨x, hx⟩ : ∃ x, al[0]? = some x := ⟨_, List.getElem?_eq_getElem (by rw [HALN.out]; exact hp)⟩
            have hkx : kd = x := by
              rw [← HKD.out]
              cases al with | nil => cases hx | cons y l => exact Option.some.inj hx
            subst hkx
            obtain ⟨g2, off2, rfl, hc2⟩ := (HQ10.out.1.fr HI.out fun _ _ h => h).cell hp
            obtain ⟨z1, z2, z3, z4, z5, z6, hzv, r0, r1, r2, r3⟩ := kid_cells (i := 0) hc2 (KidsV.fr HI.out (fun _ _ h => h) al HQ10.out.2) hx
            simp only [Nat.zero_mul, Nat.add_zero] at r0 r1 r2 r3
            have h15 := HI.out.keep HT15.out (fun h => h)
            have t0 := cell_of h15 (i := 0) (v := .string (bs kd.name)) rfl
            have t1 := cell_of h15 (i := 1) (v := .slice k1 k2 k3) rfl
            have t2 := cell_of h15 (i := 2) (v := .string (bs kd.text)) rfl
            have t3 := cell_of h15 (i := 3) (v := .slice k4 k5 k6) rfl
            have tl := lt_of_block h15
            have HSame := Lib.hid (fun (W' : World) (hF : Fr (fun _ => False) W W') => same_h (weighN kd + 1) kd (Nat.lt_succ_self _) W' _ _ kd _ _ _ _ _ _ _ _ (NodeV.fr (HI.out.next hF) (fun _ _ h => h) kd HKV.out) (NodeV.fr hF (fun _ _ h => h) kd hzv))
            clear hx hc2 hzv h15 hp
            go_wp2_with fail
            go_still_tail 4, (by kernel_rfl)
            go_wp2_with fail
            refine Calls.mono (HSame.out _ ((Fr.refl _ _).drewN 1)) ?_
            rintro e w13 ⟨rfl, hF⟩
            rw [(sameN_iff kd kd).2 rfl]
            have hF := hF.of_start
            have HF13 := Lib.hid (HF12.out.next hF)
            have HB13 := Lib.hid (hF.keep HB12.out (fun h => h))
            have HM13 := Lib.hid (fun W (hF2 : Fr (fun _ => False) _ W) => HM12.out W (hF.next hF2))
            clear hF r0 r1 r2 r3 t0 t1 t2 t3 tl
            have bkx := HF13.out.keep HB0.out (fun h => h)
            have x0 := cell_of bkx (i := 0) (v := .string (bs n.name)) rfl
            have x1 := cell_of bkx (i := 1) (v := .slice a1 n.attrs.length p1) rfl
            have x2 := cell_of bkx (i := 2) (v := .string (bs n.text)) rfl
            have x3 := cell_of bkx (i := 3) (v := .slice a3 n.kids.length p3) rfl
            have xl := lt_of_block bkx
            clear bkx
            go_wp2_with fail
            refine Calls.mono (attr_at_h (HN.out _ HF13.out) (Nat.le_trans HAt.out (by decide)) nm) ?_
            rintro e w20 ⟨rfl, hF⟩
            have HF20 := Lib.hid (HF13.out.next hF)
            have HB20 := Lib.hid (hF.keep HB13.out (fun h => h))
            have HM20 := Lib.hid (fun W (hF2 : Fr (fun _ => False) _ W) => HM13.out W (hF.next hF2))
            clear hF
            clear x0 x1 x2 x3 xl
            have m0 := cell_of HB20.out (i := 0) (v := .string s0) rfl
            have m1 := cell_of HB20.out (i := 1) (v := .slice b1 n1 q1) rfl
            have m2 := cell_of HB20.out (i := 2) (v := .string s2) rfl
            have m3 := cell_of HB20.out (i := 3) (v := .slice b3 n3 q3) rfl
            have ml := lt_of_block HB20.out
            go_wp2_with fail
            refine Calls.mono (rattr_at_h (HM20.out _ (Fr.refl _ _)).1 (Nat.le_trans HAt.out (by decide)) nm) ?_
            rintro e w21 ⟨rfl, hF⟩
            have HF21 := Lib.hid (HF20.out.next hF)
            have HB21 := Lib.hid (hF.keep HB20.out (fun h => h))
            have HM21 := Lib.hid (fun W (hF2 : Fr (fun _ => False) _ W) => HM20.out W (hF.next hF2))
            clear hF
            clear m0 m1 m2 m3 ml
            have bkx := HF21.out.keep HB0.out (fun h => h)
            have x0 := cell_of bkx (i := 0) (v := .string (bs n.name)) rfl
            have x1 := cell_of bkx (i := 1) (v := .slice a1 n.attrs.length p1) rfl
            have x2 := cell_of bkx (i := 2) (v := .string (bs n.text)) rfl
            have x3 := cell_of bkx (i := 3) (v := .slice a3 n.kids.length p3) rfl
            have xl := lt_of_block bkx
            clear bkx
            go_wp2_with fail
            refine Calls.mono (size_h (HN.out _ HF21.out) (fun k hk => Nat.lt_trans hk (HZ.out _ HF21.out)) (by omega)) ?_
            rintro e w22 ⟨rfl, hF⟩
            have HF22 := Lib.hid (HF21.out.next hF)
            have HB22 := Lib.hid (hF.keep HB21.out (fun h => h))
            have HM22 := Lib.hid (fun W (hF2 : Fr (fun _ => False) _ W) => HM21.out W (hF.next hF2))
            clear hF
            clear x0 x1 x2 x3 xl
            have m0 := cell_of HB22.out (i := 0) (v := .string s0) rfl
            have m1 := cell_of HB22.out (i := 1) (v := .slice b1 n1 q1) rfl
            have m2 := cell_of HB22.out (i := 2) (v := .string s2) rfl
            have m3 := cell_of HB22.out (i := 3) (v := .slice b3 n3 q3) rfl
            have ml := lt_of_block HB22.out
            go_wp2_with fail
            refine Calls.mono (rsize_h (weighN n + 1) n (Nat.lt_succ_self _) _ _ _ _ _ _ (HM22.out _ (Fr.refl _ _)).1 (by omega) (by omega)) ?_
            rintro e w23 ⟨rfl, hF⟩
            have HF23 := Lib.hid (HF22.out.next hF)
            have HB23 := Lib.hid (hF.keep HB22.out (fun h => h))
            have HM23 := Lib.hid (fun W (hF2 : Fr (fun _ => False) _ W) => HM22.out W (hF.next hF2))
            clear hF
            clear m0 m1 m2 m3 ml
            obtain ⟨o, ho⟩ : ∃ o, attrO n nm = o := ⟨_, rfl⟩
            rw [ho]
            clear ho
            go_wp2_with fail
            refine Calls.mono (squeeze_h s (by have := HSl.out; omega)) ?_
            rintro e w24 ⟨rfl, hF⟩
            have HF24 := Lib.hid (HF23.out.next hF)
            clear hF
            go_wp2_with fail
            refine Calls.mono (rsqueeze_h s (by have := HSl.out; omega)) ?_
            rintro e w25 ⟨rfl, hF⟩
            have HF25 := Lib.hid (HF24.out.next hF)
            clear hF
            go_wp2_with fail
            go_ret
            exact ⟨rfl, HW0.out.next HF25.out⟩
          · have hpd : decide (0 < i) = false := decide_eq_false hp
            have hpi : ¬ (0 : Int) < (i : Int) := by omega
            clear hp
            have bkx := HF12.out.keep HB0.out (fun h => h)
            have x0 := cell_of bkx (i := 0) (v := .string (bs n.name)) rfl
            have x1 := cell_of bkx (i := 1) (v := .slice a1 n.attrs.length p1) rfl
            have x2 := cell_of bkx (i := 2) (v := .string (bs n.text)) rfl
            have x3 := cell_of bkx (i := 3) (v := .slice a3 n.kids.length p3) rfl
            have xl := lt_of_block bkx
            clear bkx
            go_wp2_with fail
            refine Calls.mono (attr_at_h (HN.out _ HF12.out) (Nat.le_trans HAt.out (by decide)) nm) ?_
            rintro e w20 ⟨rfl, hF⟩
            have HF20 := Lib.hid (HF12.out.next hF)
            have HB20 := Lib.hid (hF.keep HB12.out (fun h => h))
            have HM20 := Lib.hid (fun W (hF2 : Fr (fun _ => False) _ W) => HM12.out W (hF.next hF2))
            clear hF
            clear x0 x1 x2 x3 xl
            have m0 := cell_of HB20.out (i := 0) (v := .string s0) rfl
            have m1 := cell_of HB20.out (i := 1) (v := .slice b1 n1 q1) rfl
            have m2 := cell_of HB20.out (i := 2) (v := .string s2) rfl
            have m3 := cell_of HB20.out (i := 3) (v := .slice b3 n3 q3) rfl
            have ml := lt_of_block HB20.out
            go_wp2_with fail
            refine Calls.mono (rattr_at_h (HM20.out _ (Fr.refl _ _)).1 (Nat.le_trans HAt.out (by decide)) nm) ?_
            rintro e w21 ⟨rfl, hF⟩
            have HF21 := Lib.hid (HF20.out.next hF)
            have HB21 := Lib.hid (hF.keep HB20.out (fun h => h))
            have HM21 := Lib.hid (fun W (hF2 : Fr (fun _ => False) _ W) => HM20.out W (hF.next hF2))
            clear hF
            clear m0 m1 m2 m3 ml
            have bkx := HF21.out.keep HB0.out (fun h => h)
            have x0 := cell_of bkx (i := 0) (v := .string (bs n.name)) rfl
            have x1 := cell_of bkx (i := 1) (v := .slice a1 n.attrs.length p1) rfl
            have x2 := cell_of bkx (i := 2) (v := .string (bs n.text)) rfl
            have x3 := cell_of bkx (i := 3) (v := .slice a3 n.kids.length p3) rfl
            have xl := lt_of_block bkx
            clear bkx
            go_wp2_with fail
            refine Calls.mono (size_h (HN.out _ HF21.out) (fun k hk => Nat.lt_trans hk (HZ.out _ HF21.out)) (by omega)) ?_
            rintro e w22 ⟨rfl, hF⟩
            have HF22 := Lib.hid (HF21.out.next hF)
            have HB22 := Lib.hid (hF.keep HB21.out (fun h => h))
            have HM22 := Lib.hid (fun W (hF2 : Fr (fun _ => False) _ W) => HM21.out W (hF.next hF2))
            clear hF
            clear x0 x1 x2 x3 xl
            have m0 := cell_of HB22.out (i := 0) (v := .string s0) rfl
            have m1 := cell_of HB22.out (i := 1) (v := .slice b1 n1 q1) rfl
            have m2 := cell_of HB22.out (i := 2) (v := .string s2) rfl
            have m3 := cell_of HB22.out (i := 3) (v := .slice b3 n3 q3) rfl
            have ml := lt_of_block HB22.out
            go_wp2_with fail
            refine Calls.mono (rsize_h (weighN n + 1) n (Nat.lt_succ_self _) _ _ _ _ _ _ (HM22.out _ (Fr.refl _ _)).1 (by omega) (by omega)) ?_
            rintro e w23 ⟨rfl, hF⟩
            have HF23 := Lib.hid (HF22.out.next hF)
            have HB23 := Lib.hid (hF.keep HB22.out (fun h => h))
            have HM23 := Lib.hid (fun W (hF2 : Fr (fun _ => False) _ W) => HM22.out W (hF.next hF2))
            clear hF
            clear m0 m1 m2 m3 ml
            obtain ⟨o, ho⟩ : ∃ o, attrO n nm = o := ⟨_, rfl⟩
            rw [ho]
            clear ho
            go_wp2_with fail
            refine Calls.mono (squeeze_h s (by have := HSl.out; omega)) ?_
            rintro e w24 ⟨rfl, hF⟩
            have HF24 := Lib.hid (HF23.out.next hF)
            clear hF
            go_wp2_with fail
            refine Calls.mono (rsqueeze_h s (by have := HSl.out; omega)) ?_
            rintro e w25 ⟨rfl, hF⟩
            have HF25 := Lib.hid (HF24.out.next hF)
            clear hF
            go_wp2_with fail
            go_ret
            exact ⟨rfl, HW0.out.next HF25.out⟩
end Go.Proofs.YtpinjgdnhbogoaaGreatDoor
