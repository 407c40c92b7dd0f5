/- The walk of the law TreeBack. -/
import Derived.Test.YtpinjgdnhbogoaaGreatDoorNH
import Derived.Test.YtpinjgdnhbogoaaGreatDoorNG
import Derived.Test.YtpinjgdnhbogoaaGreatDoorND
namespace Go.Proofs.YtpinjgdnhbogoaaGreatDoor
open Go.RowKit Go.Lib

theorem text_toks {n : NodeD} (h : textN n) (hf : fewN n) : TextOK (tokN n) := fun x hx => ⟨tok_text n h x hx, Nat.le_trans (tok_few n hf x hx) (by decide)⟩
set_option maxRecDepth 100000 in
set_option maxHeartbeats 8000000 in
theorem treeback_h {w : World} (hE : Env w) {n : NodeD} {c0 c1 c2 c3 : Value} (hn : NodeV w (fun k => k < w.heap.size) n [c0, c1, c2, c3]) (htx : textN n) : Calls Tryz.prog 5 #[.agg #[c0, c1, c2, c3]] w fun e w' => e = .returned (.bool true) ∧ Fr (fun _ => False) w w' := by
  obtain ⟨av, kv, xs, hcs, ha, hk, hks⟩ := hn.parts
  simp only [List.cons.injEq, and_true] at hcs
  obtain ⟨rfl, rfl, rfl, rfl⟩ := hcs
  obtain ⟨-, a1, p1, rfl, -⟩ := id ha
  obtain ⟨-, a3, p3, rfl, -, -, -, -⟩ := id hk
  have HN := Lib.hid (fun (W : World) (hF : Fr (fun _ => False) (w.alloc (.cells #[.string (bs n.name), .slice a1 n.attrs.length p1, .string (bs n.text), .slice a3 n.kids.length p3] 30)) W) => show NodeV W (fun k => k < w.heap.size) n [.string (bs n.name), .slice a1 n.attrs.length p1, .string (bs n.text), .slice a3 n.kids.length p3] from NodeV.fr (((Fr.refl (fun _ => False) w).alloc _).next hF) (fun _ _ h => h) n hn)
  have HZ := Lib.hid (fun (W : World) (hF : Fr (fun _ => False) (w.alloc (.cells #[.string (bs n.name), .slice a1 n.attrs.length p1, .string (bs n.text), .slice a3 n.kids.length p3] 30)) W) => show w.heap.size < W.heap.size by have h := hF.size; simp at h; omega)
  have HS := Lib.hid (tshown_h (hE.grow ((Fr.refl (fun _ => False) w).alloc (.cells #[.string (bs n.name), .slice a1 n.attrs.length p1, .string (bs n.text), .slice a3 n.kids.length p3] 30))))
  have HB0 : Hid ((w.alloc (.cells #[.string (bs n.name), .slice a1 n.attrs.length p1, .string (bs n.text), .slice a3 n.kids.length p3] 30)).heap[w.heap.size]? = some (.cells #[.string (bs n.name), .slice a1 n.attrs.length p1, .string (bs n.text), .slice a3 n.kids.length p3] 30 (0, 0))) := block_new _ _
  have HAs := Lib.hid (fun (W : World) (hF : Fr (fun _ => False) (w.alloc (.cells #[.string (bs n.name), .slice a1 n.attrs.length p1, .string (bs n.text), .slice a3 n.kids.length p3] 30)) W) => tas_h (HN.out W hF) (fun k hk => Nat.lt_trans hk (HZ.out W hF)))
  have HW0 : Hid (Fr (fun _ => False) w (w.alloc (.cells #[.string (bs n.name), .slice a1 n.attrs.length p1, .string (bs n.text), .slice a3 n.kids.length p3] 30))) := (Fr.refl _ _).alloc _
  obtain ⟨nc, hnc⟩ : ∃ nc, (cpN n 40 300).1 = nc := ⟨_, rfl⟩
  obtain ⟨lf, hlf⟩ : ∃ lf, (cpN n 40 300).2 = lf := ⟨_, rfl⟩
  obtain ⟨ok, hok⟩ : ∃ ok, (sameN n nc && decide (0 < lf)) = ok := ⟨_, rfl⟩
  have HTx := Lib.hid htx
  have HC := Lib.hid (And.intro hnc (And.intro hlf hok))
  clear hn ha hk hks hE htx hnc hlf hok
  go_enter Tryz.func5, Tryz.ntmps5
  go_wp2_with fail
  refine Calls.mono HS.out ?_
  rintro e w1 ⟨rfl, hF⟩
  have HF1 := Lib.hid hF
  clear hF
  have bk1 := HF1.out.keep HB0.out (fun h => h)
  have x0 := cell_of bk1 (i := 0) (v := .string (bs n.name)) rfl
  have x1 := cell_of bk1 (i := 1) (v := .slice a1 n.attrs.length p1) rfl
  have x2 := cell_of bk1 (i := 2) (v := .string (bs n.text)) rfl
  have x3 := cell_of bk1 (i := 3) (v := .slice a3 n.kids.length p3) rfl
  have xl := lt_of_block bk1
  clear bk1
  go_wp2_with fail
  refine Calls.mono (HAs.out _ HF1.out) ?_
  rintro e w2 ⟨d0, d1, d2, d3, rfl, ⟨s0, b1, n1, q1, s2, b3, n3, q3, rfl, rfl, rfl, rfl⟩, hnv, hF⟩
  rw [HC.out.1] at hnv
  rw [HC.out.1, HC.out.2.1, HC.out.2.2]
  have HM2 := Lib.hid hnv
  have HF2 := Lib.hid ((HF1.out.next hF).alloc (.cells #[.string s0, .slice b1 n1 q1, .string s2, .slice b3 n3 q3] 37))
  have HB2 : Hid ((w2.alloc (.cells #[.string s0, .slice b1 n1 q1, .string s2, .slice b3 n3 q3] 37)).heap[w2.heap.size]? = some (.cells #[.string s0, .slice b1 n1 q1, .string s2, .slice b3 n3 q3] 37 (0, 0))) := block_new _ _
  have HM3 := Lib.hid (fun (W : World) (hF : Fr (fun _ => False) (w2.alloc (.cells #[.string s0, .slice b1 n1 q1, .string s2, .slice b3 n3 q3] 37)) W) => NodeV.fr (((Fr.refl (fun _ => False) w2).alloc _).next hF) (fun _ _ h => h) nc HM2.out)
  clear hnv hF
  clear x0 x1 x2 x3 xl
  have bk2 := HF2.out.keep HB0.out (fun h => h)
  have x0 := cell_of bk2 (i := 0) (v := .string (bs n.name)) rfl
  have x1 := cell_of bk2 (i := 1) (v := .slice a1 n.attrs.length p1) rfl
  have x2 := cell_of bk2 (i := 2) (v := .string (bs n.text)) rfl
  have x3 := cell_of bk2 (i := 3) (v := .slice a3 n.kids.length p3) rfl
  have xl := lt_of_block bk2
  clear bk2
  cases ok with
  | false =>
    go_wp2_with fail
    go_ret
    exact ⟨rfl, HW0.out.next HF2.out⟩
  | true =>
    have hsm : sameN n nc = true := by have := HC.out.2.2; rw [Bool.and_eq_true] at this; exact this.1
    have hlf0 : 0 < lf := by have := HC.out.2.2; rw [Bool.and_eq_true] at this; exact of_decide_eq_true this.2
    have hnn : nc = n := ((sameN_iff n nc).1 hsm).symm
    have hmf := cpN_many n 40 300 (HC.out.1.trans hnn)
    rw [HC.out.2.1] at hmf
    have hmany : manyN n ≤ 300 := by omega
    have hdm := deep_many n
    have HFew := Lib.hid hmf.2
    have HNn := Lib.hid hnn
    have HSm := Lib.hid hsm
    clear hsm hlf0 hnn hmf
    have hb1 : buildL (tokN n) = if deepN n ≤ 20 then .ok n else .error 19 := build_tok n
    have htl : (tokN n).length ≤ 60010 := by have := tok_len n; omega
    have HTO := Lib.hid (text_toks HTx.out HFew.out)
    go_wp2_with fail
    refine Calls.mono (size_h (HN.out _ HF2.out) (fun k hk => Nat.lt_trans hk (HZ.out _ HF2.out)) (by omega)) ?_
    rintro e w3 ⟨rfl, hF⟩
    have HF3 := Lib.hid (HF2.out.next hF)
    have HB3 := Lib.hid (hF.keep HB2.out (fun h => h))
    have HM4 := Lib.hid (fun (W : World) (hF2 : Fr (fun _ => False) w3 W) => HM3.out W (hF.next hF2))
    clear hF x0 x1 x2 x3 xl
    have bk3 := HF3.out.keep HB0.out (fun h => h)
    have x0 := cell_of bk3 (i := 0) (v := .string (bs n.name)) rfl
    have x1 := cell_of bk3 (i := 1) (v := .slice a1 n.attrs.length p1) rfl
    have x2 := cell_of bk3 (i := 2) (v := .string (bs n.text)) rfl
    have x3 := cell_of bk3 (i := 3) (v := .slice a3 n.kids.length p3) rfl
    have xl := lt_of_block bk3
    clear bk3
    go_wp2_with fail
    refine Calls.mono (tokens_h (HN.out _ HF3.out) (fun k hk => Nat.lt_trans hk (HZ.out _ HF3.out)) HFew.out (by omega)) ?_
    rintro e w4 ⟨ta, tc, rfl, hv, hF⟩
    have HF4 := Lib.hid (HF3.out.next hF)
    have HB4 := Lib.hid (hF.keep HB3.out (fun h => h))
    have HM5 := Lib.hid (fun (W : World) (hF2 : Fr (fun _ => False) w4 W) => HM4.out W (hF.next hF2))
    have HV := Lib.hid hv
    clear hF hv
    go_wp2_with fail
    refine Calls.mono (tbuild_at HV.out (fun k hk => hk.2) HTO.out htl) ?_
    rintro e w5 ⟨g0, g1, g2, g3, rfl, ⟨s0', b1', n1', q1', s2', b3', n3', q3', rfl, rfl, rfl, rfl⟩, hF, hnv⟩
    have HF5 := Lib.hid ((HF4.out.next hF).alloc (.cells #[.string s0', .slice b1' n1' q1', .string s2', .slice b3' n3' q3'] 30))
    have hB5 := block_old (hF.keep HB4.out (fun h => h)) (.cells #[.string s0', .slice b1' n1' q1', .string s2', .slice b3' n3' q3'] 30)
    have HM6 := Lib.hid (HM5.out _ (hF.alloc (.cells #[.string s0', .slice b1' n1' q1', .string s2', .slice b3' n3' q3'] 30)))
    have HX5 := Lib.hid (NodeV.fr ((Fr.refl (fun _ => False) w5).alloc (.cells #[.string s0', .slice b1' n1' q1', .string s2', .slice b3' n3' q3'] 30)) (fun _ _ h => h) _ hnv)
    have m0 := cell_of hB5 (i := 0) (v := .string s0) rfl
    have m1 := cell_of hB5 (i := 1) (v := .slice b1 n1 q1) rfl
    have m2 := cell_of hB5 (i := 2) (v := .string s2) rfl
    have m3 := cell_of hB5 (i := 3) (v := .slice b3 n3 q3) rfl
    have ml := lt_of_block (hF.keep HB4.out (fun h => h))
    clear hF hnv hB5 x0 x1 x2 x3 xl htl
    by_cases hdeep : deepN n ≤ 20
    · rw [if_pos hdeep] at hb1
      rw [hb1]
      have HX6 : Hid (NodeV (w5.alloc (.cells #[.string s0', .slice b1' n1' q1', .string s2', .slice b3' n3' q3'] 30)) (fun k => w4.heap.size ≤ k ∧ k < w5.heap.size) n [.string s0', .slice b1' n1' q1', .string s2', .slice b3' n3' q3']) := by have h := HX5.out; rw [hb1] at h; exact h
      have ho : outE (.ok n) = 0 := rfl
      rw [ho]
      have hd20 : ¬ (20 : Int) < (deepN n : Int) := by omega
      clear hb1 ho hdeep
      go_wp2_with fail
      refine Calls.mono (same_h (weighN n + 1) n (Nat.lt_succ_self _) _ _ _ nc _ _ _ _ _ _ _ _ HX6.out HM6.out) ?_
      rintro e w6 ⟨rfl, hF⟩
      rw [HSm.out]
      have HF6 := Lib.hid (HF5.out.next hF)
      clear hF
      go_wp2_with fail
      go_ret
      exact ⟨rfl, HW0.out.next HF6.out⟩
    · rw [if_neg hdeep] at hb1
      rw [hb1]
      have h := HX5.out
      rw [hb1] at h
      obtain ⟨av5, kv5, xs5, hcs5, _, hk5, _⟩ := h.parts
      simp only [List.cons.injEq, and_true] at hcs5
      have hs5 : s0' = ⟨#[]⟩ := by have := hcs5.1; injection this
      have hn5 : n3' = 0 := by
        have h5 := hcs5.2.2.2
        rw [← h5] at hk5
        obtain ⟨_, a, c, e, _⟩ := hk5
        injection e
      subst hs5 hn5
      have ho : outE (.error 19) = 19 := rfl
      rw [ho]
      have hd20 : (20 : Int) < (deepN n : Int) := by omega
      clear hb1 ho hdeep h hcs5 hk5
      go_wp2_with fail
      go_ret
      exact ⟨rfl, HW0.out.next HF5.out⟩
end Go.Proofs.YtpinjgdnhbogoaaGreatDoor
