/- The walk of the law TreeWraps. -/
import Derived.Test.YtpinjgdnhbogoaaGreatDoorNH
import Derived.Test.YtpinjgdnhbogoaaGreatDoorNG
import Derived.Test.YtpinjgdnhbogoaaGreatDoorND
namespace Go.Proofs.YtpinjgdnhbogoaaGreatDoor
open Go.RowKit Go.Lib

theorem text_toksW {n : NodeD} (h : textN n) (hf : fewN n) : TextOK (tokN n) := fun x hx => ⟨tok_text n h x hx, Nat.le_trans (tok_few n hf x hx) (by decide)⟩
theorem own_lit {w : World} {base g e size n : Nat} {xs : List Value} (h : w.heap[g]? = some (.cells xs.toArray e (0, 0))) (hb : base ≤ g) (hl : xs.length = n * size) (hn : n ≤ maxLen) : w.ownsRow base e size (.slice (some ⟨g, 0, none⟩) n n) n xs :=
  ⟨hl, .inr ⟨g, n, xs.toArray, rfl, hb, h, Nat.le_refl _, hn, by simpa using hl, by rw [← hl]; simp⟩⟩
theorem tokV_open {W : World} {l : List TokD} {S : Nat → Prop} {v : Value} (h : TokV W S v l) : ∃ ps, ps.map Prod.fst = l ∧ SRow W S 4 v l.length (tcells ps) ∧ (∀ p ∈ ps, SRow W S 2 p.2 p.1.attrs.length (acells p.1.attrs)) ∧ ∀ u ∈ tcells ps, u.oneCell' = true := by
  obtain ⟨ps, e, h1, h2⟩ := h
  have hl : ps.length = l.length := by rw [← e, List.length_map]
  rw [hl] at h1
  exact ⟨ps, e, h1, h2, tcells_one2 fun p hp => (h2 p hp).sliced⟩
set_option maxRecDepth 100000 in
set_option maxHeartbeats 8000000 in
theorem treewraps_h {w : World} (hE : Env w) {n : NodeD} {c0 c1 c2 c3 : Value} (hn : NodeV w (fun k => k < w.heap.size) n [c0, c1, c2, c3]) (htx : textN n) (s : Str) : Calls Tryz.prog 6 #[.agg #[c0, c1, c2, c3], .string (bs s)] w fun e w' => e = .returned (.bool true) ∧ Fr (fun _ => False) w w' := by
  obtain ⟨av, kv, xs, hcs, ha, hk, hks⟩ := hn.parts
  simp only [List.cons.injEq, and_true] at hcs
  obtain ⟨rfl, rfl, rfl, rfl⟩ := hcs
  obtain ⟨-, a1, p1, rfl, -⟩ := id ha
  obtain ⟨-, a3, p3, rfl, -, -, -, -⟩ := id hk
  have HN := Lib.hid (fun (W : World) (hF : Fr (fun _ => False) (w.alloc (.cells #[.string (bs n.name), .slice a1 n.attrs.length p1, .string (bs n.text), .slice a3 n.kids.length p3] 30)) W) => show NodeV W (fun k => k < w.heap.size) n [.string (bs n.name), .slice a1 n.attrs.length p1, .string (bs n.text), .slice a3 n.kids.length p3] from NodeV.fr (((Fr.refl (fun _ => False) w).alloc _).next hF) (fun _ _ h => h) n hn)
  have HZ := Lib.hid (fun (W : World) (hF : Fr (fun _ => False) (w.alloc (.cells #[.string (bs n.name), .slice a1 n.attrs.length p1, .string (bs n.text), .slice a3 n.kids.length p3] 30)) W) => show w.heap.size < W.heap.size by have h := hF.size; simp at h; omega)
  have HS := Lib.hid (tshown_h (hE.grow ((Fr.refl (fun _ => False) w).alloc (.cells #[.string (bs n.name), .slice a1 n.attrs.length p1, .string (bs n.text), .slice a3 n.kids.length p3] 30))))
  have HB0 : Hid ((w.alloc (.cells #[.string (bs n.name), .slice a1 n.attrs.length p1, .string (bs n.text), .slice a3 n.kids.length p3] 30)).heap[w.heap.size]? = some (.cells #[.string (bs n.name), .slice a1 n.attrs.length p1, .string (bs n.text), .slice a3 n.kids.length p3] 30 (0, 0))) := block_new _ _
  have HAs := Lib.hid (fun (W : World) (hF : Fr (fun _ => False) (w.alloc (.cells #[.string (bs n.name), .slice a1 n.attrs.length p1, .string (bs n.text), .slice a3 n.kids.length p3] 30)) W) => tas_h (HN.out W hF) (fun k hk => Nat.lt_trans hk (HZ.out W hF)))
  have HW0 : Hid (Fr (fun _ => False) w (w.alloc (.cells #[.string (bs n.name), .slice a1 n.attrs.length p1, .string (bs n.text), .slice a3 n.kids.length p3] 30))) := (Fr.refl _ _).alloc _
  obtain ⟨nc, hnc⟩ : ∃ nc, (cpN n 40 300).1 = nc := ⟨_, rfl⟩
  obtain ⟨lf, hlf⟩ : ∃ lf, (cpN n 40 300).2 = lf := ⟨_, rfl⟩
  obtain ⟨ok, hok⟩ : ∃ ok, (sameN n nc && decide (0 < lf)) = ok := ⟨_, rfl⟩
  have HTx := Lib.hid htx
  have HC := Lib.hid (And.intro hnc (And.intro hlf hok))
  
  have hsz : (bs s).size = s.length := rfl
  obtain ⟨i54, hi54, hz54, hs54, hby54⟩ := info_parts info54b
  clear hn ha hk hks hE htx hnc hlf hok
  go_enter Tryz.func6, Tryz.ntmps6
  go_wp2_with fail
  refine Calls.mono HS.out ?_
  rintro e w1 ⟨rfl, hF⟩
  have HF1 := Lib.hid hF
  clear hF
  have bk1 := HF1.out.keep HB0.out (fun h => h)
  have x0 := cell_of bk1 (i := 0) (v := .string (bs n.name)) rfl
  have x1 := cell_of bk1 (i := 1) (v := .slice a1 n.attrs.length p1) rfl
  have x2 := cell_of bk1 (i := 2) (v := .string (bs n.text)) rfl
  have x3 := cell_of bk1 (i := 3) (v := .slice a3 n.kids.length p3) rfl
  have xl := lt_of_block bk1
  clear bk1
  go_wp2_with fail
  refine Calls.mono (HAs.out _ HF1.out) ?_
  rintro e w2 ⟨d0, d1, d2, d3, rfl, ⟨s0, b1, n1, q1, s2, b3, n3, q3, rfl, rfl, rfl, rfl⟩, hnv, hF⟩
  rw [HC.out.1] at hnv
  rw [HC.out.1, HC.out.2.1, HC.out.2.2]
  have HM2 := Lib.hid hnv
  have HF2a := Lib.hid (HF1.out.next hF)
  have HF2 := Lib.hid ((HF1.out.next hF).alloc (.cells #[.string s0, .slice b1 n1 q1, .string s2, .slice b3 n3 q3] 37))
  have HB2 : Hid ((w2.alloc (.cells #[.string s0, .slice b1 n1 q1, .string s2, .slice b3 n3 q3] 37)).heap[w2.heap.size]? = some (.cells #[.string s0, .slice b1 n1 q1, .string s2, .slice b3 n3 q3] 37 (0, 0))) := block_new _ _
  have HM3 := Lib.hid (fun (W : World) (hF : Fr (fun _ => False) (w2.alloc (.cells #[.string s0, .slice b1 n1 q1, .string s2, .slice b3 n3 q3] 37)) W) => NodeV.fr (((Fr.refl (fun _ => False) w2).alloc _).next hF) (fun _ _ h => h) nc HM2.out)
  clear hnv hF
  clear x0 x1 x2 x3 xl
  have bk2 := HF2.out.keep HB0.out (fun h => h)
  have x0 := cell_of bk2 (i := 0) (v := .string (bs n.name)) rfl
  have x1 := cell_of bk2 (i := 1) (v := .slice a1 n.attrs.length p1) rfl
  have x2 := cell_of bk2 (i := 2) (v := .string (bs n.text)) rfl
  have x3 := cell_of bk2 (i := 3) (v := .slice a3 n.kids.length p3) rfl
  have xl := lt_of_block bk2
  clear bk2
  cases ok with
  | false =>
    go_wp2_with fail
    go_ret
    exact ⟨rfl, HW0.out.next HF2.out⟩
  | true =>
    have hsm : sameN n nc = true := by have := HC.out.2.2; rw [Bool.and_eq_true] at this; exact this.1
    have hlf0 : 0 < lf := by have := HC.out.2.2; rw [Bool.and_eq_true] at this; exact of_decide_eq_true this.2
    have hnn : nc = n := ((sameN_iff n nc).1 hsm).symm
    have hmf := cpN_many n 40 300 (HC.out.1.trans hnn)
    rw [HC.out.2.1] at hmf
    have hmany : manyN n ≤ 300 := by omega
    have hdm := deep_many n
    have HFew := Lib.hid hmf.2
    have HNn := Lib.hid hnn
    have HSm := Lib.hid hsm
    clear hsm hlf0 hnn hmf
    by_cases hlong : 300 < s.length
    · have hd : decide ((300 : Int) < (s.length : Int)) = true := decide_eq_true (by omega)
      go_wp2_with fail
      go_ret
      exact ⟨rfl, HW0.out.next HF2.out⟩
    have hd : decide ((300 : Int) < (s.length : Int)) = false := decide_eq_false (by omega)
    have hs3 : s.length ≤ 300 := by omega
    have htl : (tokN n).length ≤ 1000 := by have := tok_len n; omega
    have HTO := Lib.hid (text_toksW HTx.out HFew.out)
    
    have HW := Lib.hid hs3
    clear hlong x0 x1 x2 x3 xl
    have bk2a := HF2a.out.keep HB0.out (fun h => h)
    have x0 := cell_of bk2a (i := 0) (v := .string (bs n.name)) rfl
    have x1 := cell_of bk2a (i := 1) (v := .slice a1 n.attrs.length p1) rfl
    have x2 := cell_of bk2a (i := 2) (v := .string (bs n.text)) rfl
    have x3 := cell_of bk2a (i := 3) (v := .slice a3 n.kids.length p3) rfl
    have xl := lt_of_block bk2a
    clear bk2a
    have xl1 : w.heap.size < w2.heap.size + 1 := by omega
    have xl2 : w.heap.size < w2.heap.size + 1 + 1 := by omega
    have HFo : Hid (Fr (fun _ => False) (w2.alloc (.cells #[.string s0, .slice b1 n1 q1, .string s2, .slice b3 n3 q3] 37)) ((w2.alloc (.cells #[.string s0, .slice b1 n1 q1, .string s2, .slice b3 n3 q3] 37)).alloc (.cells #[.int .i64 1, .string ⟨#[119]⟩, .slice none 0 0, .string ⟨#[]⟩] 54))) := (Fr.refl _ _).alloc _
    have HBo : Hid (((w2.alloc (.cells #[.string s0, .slice b1 n1 q1, .string s2, .slice b3 n3 q3] 37)).alloc (.cells #[.int .i64 1, .string ⟨#[119]⟩, .slice none 0 0, .string ⟨#[]⟩] 54)).heap[w2.heap.size + 1]? = some (.cells #[.int .i64 1, .string ⟨#[119]⟩, .slice none 0 0, .string ⟨#[]⟩] 54 (0, 0))) := block_new_at (by simp)
    go_wp2_with fail
    refine Calls.mono (tokens_h (HN.out _ (HF2.out.next HFo.out)) (fun k hk => Nat.lt_trans hk (HZ.out _ (HF2.out.next HFo.out))) HFew.out (by omega)) ?_
    rintro e w3 ⟨ta, tc, rfl, hv, hF⟩
    obtain ⟨ps, hps, hpr, hpa, hp1⟩ := tokV_open hv
    have htp : 0 < (tokN n).length := by rw [tokN_eq]; simp
    obtain ⟨g, off, rfl, hpc⟩ := hpr.cell htp
    have hpn : ∀ (j : Nat) (u : Value), (tcells ps)[j]? = some u → w3.cell? ((⟨g, off, none⟩ : Addr).add j) = some u := fun j u hu => by rw [Addr.add_lit]; exact hpc j u hu
    have HF3 := Lib.hid (HFo.out.next hF)
    have HR3 := Lib.hid (own_lit (base := w2.heap.size + 1) (size := 4) (n := 1) (xs := tcells [(⟨1, [119], [], []⟩, .slice none 0 0)]) (hF.keep HBo.out (fun h => h)) (Nat.le_refl _) rfl (by decide))
    have hz3 : w2.heap.size + 1 + 1 ≤ w3.heap.size := by have := HF3.out.size; have h2 := hF.size; simp at h2; omega
    have HP := Lib.hid (And.intro hps (And.intro hpr.len (And.intro hpn hp1)))
    have HPa := Lib.hid (fun p (hp : p ∈ ps) => row_behind (A := fun _ => False) (B := w2.heap.size + 1) (lv := .slice (some ⟨w2.heap.size + 1, 0, none⟩) 1 1) (hpa p hp) (by simp) (fun k hk => by cases hk; simp))
    have hpl : ps.length = (tokN n).length := by rw [← hps, List.length_map]
    obtain ⟨tl, htl2⟩ : ∃ tl, (tokN n).length = tl := ⟨_, rfl⟩
    rw [htl2] at htl htp hpl HP ⊢
    clear hF hv hps hpr hpa hp1 hpc hpn x0 x1 x2 x3 xl xl1 xl2 htl2
    go_wp2_with (first
      | (at_builtin; refine wpList_append_shape rfl (.tmp 37) (.tmp 39) 22 rfl (w2.heap.size + 1) 54 i54 (.agg #[.int .i64 0, .string ⟨#[]⟩, .slice none 0 0, .string ⟨#[]⟩]) 4 64 Tryz.underlying22 hi54 hz54 hs54 hby54 rfl (by decide) (.slice (some ⟨w2.heap.size + 1, 0, none⟩) 1 1) 1 (tcells [(⟨1, [119], [], []⟩, .slice none 0 0)]) rfl HR3.out ⟨g, off, none⟩ tl tc (tcells ps) rfl HP.out.2.1 HP.out.2.2.1 HP.out.2.2.2 (by unfold maxLen; omega) (by omega) (by omega) (by omega) ?_; intro g7 cap7 w7 hown7 hgrow7 hat7; have HF7 := Lib.hid (HF3.out.trans ((Fr.refl (fun k => k = w2.heap.size + 1) w3).grown hgrow7 fun k hk => .inl (by cases hk; rfl)) (fun k e => .inr (by simp; omega))); have HT7 := Lib.hid (TokO.push (T := 54) (B := w2.heap.size + 1) (A := fun _ => False) (o := fun _ => False) (lv := .slice (some ⟨w2.heap.size + 1, 0, none⟩) 1 1) (lv2 := .slice (some ⟨g7, 0, none⟩) (1 + tl) cap7) (ps := [(⟨1, [119], [], []⟩, .slice none 0 0)]) (qs := ps) HR3.out (fun p hp => by simp at hp; subst hp; exact SRow.nil _ _ _) (Fr.refl _ w3) (fun _ h => h.elim) HPa.out hgrow7 (hat7.elim (fun e => .inl (by rw [e]; rfl)) (fun e => .inr (by rw [e]; rfl))) (by rw [hpl]; exact hown7)); have hz7 : w2.heap.size + 1 ≤ w7.heap.size := (by have := hgrow7.size; omega); clear hown7 hgrow7 hat7)
      | (at_builtin; obtain ⟨ps7, hps7, hr7, ha7⟩ := HT7.out; have hl7 : ps7.length = 1 + tl := (by rw [← List.length_map (f := Prod.fst), hps7, HP.out.1]; simp; have h := congrArg List.length HP.out.1; rw [List.length_map] at h; omega); have HA7 := Lib.hid ha7; have HR7 := Lib.hid hr7; rw [hl7] at HR7; clear hr7 ha7; refine wpList_append_shape rfl (.tmp 41) (.tmp 45) 22 rfl (w2.heap.size + 1) 54 i54 (.agg #[.int .i64 0, .string ⟨#[]⟩, .slice none 0 0, .string ⟨#[]⟩]) 4 64 Tryz.underlying22 hi54 hz54 hs54 hby54 rfl (by decide) (.slice (some ⟨g7, 0, none⟩) (1 + tl) cap7) (1 + tl) (tcells ps7) rfl (ownsRow_fr HR7.out ((Fr.refl (fun _ => False) w7).alloc _)) ⟨w7.heap.size, 0, none⟩ 2 2 (tcells [(⟨3, [], [], s⟩, .slice none 0 0), (⟨2, [119], [], []⟩, .slice none 0 0)]) rfl rfl (news_at (block_new _ _)) (tcells_one2 (fun p hp => by simp at hp; rcases hp with rfl | rfl <;> exact ⟨_, _, _, rfl⟩)) (by unfold maxLen; omega) (by omega) (by simp; omega) (by omega) ?_; intro g8 cap8 w8 hown8 hgrow8 hat8; have HF8 := Lib.hid ((HF7.out.alloc (.cells (tcells [(⟨3, [], [], s⟩, .slice none 0 0), (⟨2, [119], [], []⟩, .slice none 0 0)]).toArray 54)).trans ((Fr.refl (fun k => Value.ownBlock (.slice (some ⟨g7, 0, none⟩) (1 + tl) cap7) = some k) _).grown hgrow8 fun k hk => .inl hk) (fun k e => .inr (by have := (HR7.out.lt k e).1; simp; omega))); have HT8 := Lib.hid (TokO.push (T := 54) (B := w2.heap.size + 1) (A := fun _ => False) (o := fun _ => False) (w := w7) (lv := .slice (some ⟨g7, 0, none⟩) (1 + tl) cap7) (lv2 := .slice (some ⟨g8, 0, none⟩) (1 + tl + 2) cap8) (ps := ps7) (qs := [(⟨3, [], [], s⟩, .slice none 0 0), (⟨2, [119], [], []⟩, .slice none 0 0)]) (by rw [hl7]; exact HR7.out) HA7.out ((Fr.refl (fun _ => False) w7).alloc _) (fun _ h => h.elim) (fun p hp => by simp at hp; rcases hp with rfl | rfl <;> exact SRow.nil _ _ _) hgrow8 (hat8.elim (fun e => .inl (by rw [e]; rfl)) (fun e => .inr (by rw [e]; rfl))) (by rw [hl7]; exact hown8)); have HP7 := Lib.hid hps7; clear hown8 hgrow8 hat8 hps7 hl7)
      | fail)
    have HL : Hid (ps7.map Prod.fst ++ [((⟨3, [], [], s⟩ : TokD), Value.slice none 0 0), (⟨2, [119], [], []⟩, .slice none 0 0)].map Prod.fst = ⟨1, [119], [], []⟩ :: (tokN n ++ [⟨3, [], [], s⟩, ⟨2, [119], [], []⟩])) := by
      show _ = _
      rw [HP7.out, HP.out.1]; rfl
    have HBW := Lib.hid (build_wrap n [119] s)
    have hv9 := HT8.out.view
    rw [HL.out] at hv9
    have HV9 := Lib.hid hv9
    have hTO9 : TextOK (⟨1, [119], [], []⟩ :: (tokN n ++ [⟨3, [], [], s⟩, ⟨2, [119], [], []⟩])) := by
      intro x hx
      simp only [List.mem_cons, List.mem_append, List.not_mem_nil, or_false] at hx
      rcases hx with rfl | hx | rfl | rfl
      · exact ⟨Nat.zero_le _, Nat.zero_le _⟩
      · exact HTO.out x hx
      · exact ⟨by show s.length ≤ txM; unfold txM; omega, Nat.zero_le _⟩
      · exact ⟨Nat.zero_le _, Nat.zero_le _⟩
    have hlen9 : (⟨1, [119], [], []⟩ :: (tokN n ++ [⟨3, [], [], s⟩, ⟨2, [119], [], []⟩]) : List TokD).length ≤ 60010 := by
      have h := congrArg List.length HP.out.1
      rw [List.length_map] at h
      simp; omega
    have HTO9 := Lib.hid hTO9
    clear hv9 hTO9
    refine Calls.mono (tbuild_at HV9.out (fun k hk => by rcases hk with hk | hk; exact hk.1.elim; exact hk.2) HTO9.out hlen9) ?_
    rintro e w9 ⟨g0', g1', g2', g3', rfl, ⟨s0', b1', n1', q1', s2', b3', n3', q3', rfl, rfl, rfl, rfl⟩, hF, hnv⟩
    rw [HBW.out] at hnv ⊢
    have HF9 := Lib.hid ((HF8.out.next hF).alloc (.cells #[.string s0', .slice b1' n1' q1', .string s2', .slice b3' n3' q3'] 30))
    have HBx9 : Hid ((w9.alloc (.cells #[.string s0', .slice b1' n1' q1', .string s2', .slice b3' n3' q3'] 30)).heap[w9.heap.size]? = some (.cells #[.string s0', .slice b1' n1' q1', .string s2', .slice b3' n3' q3'] 30 (0, 0))) := block_new _ _
    have HX9 := Lib.hid (NodeV.fr ((Fr.refl (fun _ => False) w9).alloc (.cells #[.string s0', .slice b1' n1' q1', .string s2', .slice b3' n3' q3'] 30)) (fun _ _ h => h) _ hnv)
    have hA9 := HF2a.out
    have HK9 := Lib.hid (fun (W : World) (hF2 : Fr (fun _ => False) (w9.alloc (.cells #[.string s0', .slice b1' n1' q1', .string s2', .slice b3' n3' q3'] 30)) W) => HF9.out.next hF2)
    have HF9b := Lib.hid ((HF8.out.next hF))
    have hbx := (HF2.out.next HF9b.out).keep HB0.out (fun h => h)
    have x0 := cell_of hbx (i := 0) (v := .string (bs n.name)) rfl
    have x1 := cell_of hbx (i := 1) (v := .slice a1 n.attrs.length p1) rfl
    have x2 := cell_of hbx (i := 2) (v := .string (bs n.text)) rfl
    have x3 := cell_of hbx (i := 3) (v := .slice a3 n.kids.length p3) rfl
    have xl := lt_of_block hbx
    have xl1 : w.heap.size < w9.heap.size + 1 := by omega
    clear hF hnv hA9 hbx hlen9
    by_cases hdeep : deepN n < 20
    case neg =>
      rw [if_neg hdeep]
      have ho : outE (.error 19) = 19 := rfl
      rw [ho]
      have hd20 : (20 : Int) ≤ (deepN n : Int) := by omega
      clear ho hdeep
      go_wp2_with fail
      refine Calls.mono (size_h (HN.out _ (HF2.out.next HF9.out)) (fun k hk => Nat.lt_trans hk (HZ.out _ (HF2.out.next HF9.out))) (by omega)) ?_
      rintro e w10 ⟨rfl, hF⟩
      have HF10 := Lib.hid (HF2.out.next (HK9.out _ hF))
      clear hF
      go_wp2_with fail
      go_ret
      exact ⟨rfl, HW0.out.next HF10.out⟩
    case pos =>
      rw [if_pos hdeep]
      have ho : outE (.ok (.mk [119] [] s [n])) = 0 := rfl
      rw [ho]
      have hx9 := HX9.out
      rw [if_pos hdeep] at hx9
      have hx9' : NodeV (w9.alloc (.cells #[.string s0', .slice b1' n1' q1', .string s2', .slice b3' n3' q3'] 30)) (fun k => w8.heap.size ≤ k ∧ k < w9.heap.size) (.mk [119] [] s [n]) [.string s0', .slice b1' n1' q1', .string s2', .slice b3' n3' q3'] := hx9
      obtain ⟨av5, kv5, xs5, hcs5, _, hk5, _⟩ := hx9'.parts
      simp only [List.cons.injEq, and_true] at hcs5
      have hs5 : s0' = bs [119] := by have := hcs5.1; injection this
      have hs6 : s2' = bs s := by have := hcs5.2.2.1; injection this
      subst hs5 hs6
      have HXV := Lib.hid (fun (W : World) (hF2 : Fr (fun _ => False) (w9.alloc (.cells #[.string (bs [119]), .slice b1' n1' q1', .string (bs s), .slice b3' n3' q3'] 30)) W) => NodeV.fr hF2 (fun _ _ h => h) _ hx9')
      have hd20 : ¬ (20 : Int) ≤ (deepN n : Int) := by omega
      have hmx : manyN (.mk [119] [] s [n]) = manyN n + 1 := by simp [manyN, manyK]
      have hdx : deepN (.mk [119] [] s [n]) = deepN n + 1 := by simp [deepN, deepK]
      have hal : allN (.mk [119] [] s [n]) n.name = [n] := by unfold allN; simp [NodeD.kids]
      have HMx := Lib.hid hmx
      have HDx := Lib.hid hdx
      have HAl := Lib.hid hal
      have HXS := Lib.hid (fun (W : World) (hF2 : Fr (fun _ => False) (w9.alloc (.cells #[.string (bs [119]), .slice b1' n1' q1', .string (bs s), .slice b3' n3' q3'] 30)) W) (k : Nat) (hk : w8.heap.size ≤ k ∧ k < w9.heap.size) => show k < W.heap.size by have h := hF2.size; simp at h; omega)
      clear ho hdeep hx9 hx9' hcs5 hk5 hmx hdx hal
      go_wp2_with fail
      refine Calls.mono (size_h (HN.out _ (HF2.out.next HF9.out)) (fun k hk => Nat.lt_trans hk (HZ.out _ (HF2.out.next HF9.out))) (by omega)) ?_
      rintro e w10 ⟨rfl, hF⟩
      have HG10 := Lib.hid hF
      clear hF x0 x1 x2 x3 xl xl1
      have HB10 := Lib.hid ((HF2.out.next (HK9.out _ HG10.out)).keep HB0.out (fun h => h))
      have HT10 := Lib.hid (HG10.out.keep HBx9.out (fun h => h))
      have x0 := cell_of HB10.out (i := 0) (v := .string (bs n.name)) rfl
      have x1 := cell_of HB10.out (i := 1) (v := .slice a1 n.attrs.length p1) rfl
      have x2 := cell_of HB10.out (i := 2) (v := .string (bs n.text)) rfl
      have x3 := cell_of HB10.out (i := 3) (v := .slice a3 n.kids.length p3) rfl
      have xl := lt_of_block HB10.out
      have t0 := cell_of HT10.out (i := 0) (v := .string (bs [119])) rfl
      have t1 := cell_of HT10.out (i := 1) (v := .slice b1' n1' q1') rfl
      have t2 := cell_of HT10.out (i := 2) (v := .string (bs s)) rfl
      have t3 := cell_of HT10.out (i := 3) (v := .slice b3' n3' q3') rfl
      have tl9 := lt_of_block HT10.out
    
      go_wp2_with fail
      refine Calls.mono (size_h (HXV.out _ HG10.out) (HXS.out _ HG10.out) (by rw [HMx.out]; omega)) ?_
      rintro e w11 ⟨rfl, hF⟩
      have HG11 := Lib.hid (HG10.out.next hF)
      rw [HMx.out, HDx.out]
      clear hF x0 x1 x2 x3 xl t0 t1 t2 t3 tl9
      have HB11 := Lib.hid ((HF2.out.next (HK9.out _ HG11.out)).keep HB0.out (fun h => h))
      have HT11 := Lib.hid (HG11.out.keep HBx9.out (fun h => h))
      have x0 := cell_of HB11.out (i := 0) (v := .string (bs n.name)) rfl
      have x1 := cell_of HB11.out (i := 1) (v := .slice a1 n.attrs.length p1) rfl
      have x2 := cell_of HB11.out (i := 2) (v := .string (bs n.text)) rfl
      have x3 := cell_of HB11.out (i := 3) (v := .slice a3 n.kids.length p3) rfl
      have xl := lt_of_block HB11.out
      have t0 := cell_of HT11.out (i := 0) (v := .string (bs [119])) rfl
      have t1 := cell_of HT11.out (i := 1) (v := .slice b1' n1' q1') rfl
      have t2 := cell_of HT11.out (i := 2) (v := .string (bs s)) rfl
      have t3 := cell_of HT11.out (i := 3) (v := .slice b3' n3' q3') rfl
      have tl9 := lt_of_block HT11.out
    
      go_wp2_with fail
      refine Calls.mono (kid_h (HXV.out _ HG11.out) (HXS.out _ HG11.out) (by simp [NodeD.kids]) n.name) ?_
      rintro e w12 ⟨k1, k2, k3, k4, k5, k6, rfl, hkv, hF⟩
      rw [HAl.out] at hkv ⊢
      have hone : decide (0 < ([n] : List NodeD).length) = true := rfl
      have hhd : hdN [n] = n := rfl
      rw [hone]
      rw [hhd] at hkv ⊢
      have HG12 := Lib.hid ((HG11.out.next hF).alloc (.cells #[.string (bs n.name), .slice k1 k2 k3, .string (bs n.text), .slice k4 k5 k6] 30))
      have HKv := Lib.hid (NodeV.fr ((Fr.refl (fun _ => False) w12).alloc (.cells #[.string (bs n.name), .slice k1 k2 k3, .string (bs n.text), .slice k4 k5 k6] 30)) (fun _ _ h => h) _ hkv)
      have HBm := Lib.hid ((HK9.out _ HG12.out).keep HB2.out (fun h => h))
      have HMv := Lib.hid (HM3.out _ (HK9.out _ HG12.out))
      have hG12a := HG11.out.next hF
      have hbm := (HK9.out _ hG12a).keep HB2.out (fun h => h)
      have m0 := cell_of hbm (i := 0) (v := .string s0) rfl
      have m1 := cell_of hbm (i := 1) (v := .slice b1 n1 q1) rfl
      have m2 := cell_of hbm (i := 2) (v := .string s2) rfl
      have m3 := cell_of hbm (i := 3) (v := .slice b3 n3 q3) rfl
      have ml := lt_of_block hbm
      have ml1 : w2.heap.size < w12.heap.size + 1 := by omega
      clear hF hkv hone hhd hG12a hbm x0 x1 x2 x3 xl t0 t1 t2 t3 tl9
      go_wp2_with fail
      refine Calls.mono (same_h (weighN n + 1) n (Nat.lt_succ_self _) _ _ _ nc _ _ _ _ _ _ _ _ HKv.out HMv.out) ?_
      rintro e w13 ⟨rfl, hF⟩
      rw [HSm.out]
      have HG13 := Lib.hid (HG12.out.next hF)
      clear hF m0 m1 m2 m3 ml ml1
      have HB13 := Lib.hid ((HF2.out.next (HK9.out _ HG13.out)).keep HB0.out (fun h => h))
      have HT13 := Lib.hid (HG13.out.keep HBx9.out (fun h => h))
      have x0 := cell_of HB13.out (i := 0) (v := .string (bs n.name)) rfl
      have x1 := cell_of HB13.out (i := 1) (v := .slice a1 n.attrs.length p1) rfl
      have x2 := cell_of HB13.out (i := 2) (v := .string (bs n.text)) rfl
      have x3 := cell_of HB13.out (i := 3) (v := .slice a3 n.kids.length p3) rfl
      have xl := lt_of_block HB13.out
      have t0 := cell_of HT13.out (i := 0) (v := .string (bs [119])) rfl
      have t1 := cell_of HT13.out (i := 1) (v := .slice b1' n1' q1') rfl
      have t2 := cell_of HT13.out (i := 2) (v := .string (bs s)) rfl
      have t3 := cell_of HT13.out (i := 3) (v := .slice b3' n3' q3') rfl
      have tl9 := lt_of_block HT13.out
    
      have e1 : (((manyN n + 1 : Nat) : Int) == (manyN n : Int) + 1) = true := by rw [beq_iff_eq]; omega
      have e2 : (((deepN n + 1 : Nat) : Int) == (deepN n : Int) + 1) = true := by rw [beq_iff_eq]; omega
      have e3 : ((bs [119]).toList == [119]) = true := by rw [bs_toList]; rfl
      have e4 : ((bs s).toList == (bs s).toList) = true := by simp
      go_wp2_with fail
      refine Calls.mono (all_h (HXV.out _ HG13.out) (HXS.out _ HG13.out) (by simp [NodeD.kids]) n.name) ?_
      rintro e w14 ⟨aa, ac, axs, rfl, _, _, hF⟩
      rw [HAl.out]
      have HG14 := Lib.hid (HG13.out.next hF)
      have hone : ([n] : List NodeD).length = 1 := rfl
      rw [hone]
      clear hF
      go_wp2_with fail
      go_ret
      exact ⟨rfl, HW0.out.next (HF2.out.next (HK9.out _ HG14.out))⟩
end Go.Proofs.YtpinjgdnhbogoaaGreatDoor
