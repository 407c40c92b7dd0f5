/- The reference's Tokens of an element. -/
import Derived.Test.YtpinjgdnhbogoaaGreatDoorNE
import Derived.Test.YtpinjgdnhbogoaaGreatDoorN8
import Derived.Test.YtpinjgdnhbogoaaGreatDoorNA
namespace Go.Proofs.YtpinjgdnhbogoaaGreatDoor
open Go.RowKit Go.Lib

/-- tokens in a row of one's own; their attributes are the tree's -/
structure RTk (S : Nat → Prop) (B : Nat) (w : World) (lv : Value) (ps : List (TokD × Value)) : Prop where
  row : w.ownsRow B 97 4 lv ps.length (tcells ps)
  att : ∀ p ∈ ps, SRow w S 2 p.2 p.1.attrs.length (acells p.1.attrs)
theorem RTk.fr {S : Nat → Prop} {B : Nat} {w W : World} {lv : Value} {ps : List (TokD × Value)} (h : RTk S B w lv ps) (hf : Fr (fun _ => False) w W) : RTk S B W lv ps :=
  ⟨ownsRow_fr h.row hf, fun p hp => (h.att p hp).fr hf fun _ _ h => h⟩
theorem RTk.push {S : Nat → Prop} {B : Nat} {w w7 : World} {lv lv2 : Value} {ps qs : List (TokD × Value)} (h : RTk S B w lv ps) (hS : ∀ k, S k → k < B) (hq : ∀ q ∈ qs, SRow w S 2 q.2 q.1.attrs.length (acells q.1.attrs))
    (hg : w.grownBy w7 lv.ownBlock) (hr : w7.ownsRow B 97 4 lv2 (ps.length + qs.length) (tcells ps ++ tcells qs)) : RTk S B w7 lv2 (ps ++ qs) := by
  have hfg : Fr (fun k => lv.ownBlock = some k) w w7 := (Fr.refl _ _).grown hg fun k hk => .inl hk
  have hno : ∀ k, S k → ¬ lv.ownBlock = some k := fun k hk e => by have := (h.row.lt k e).1; have := hS k hk; omega
  refine ⟨by rw [List.length_append, ← tcells_app]; exact hr, fun p hp => ?_⟩
  rcases List.mem_append.1 hp with hp | hp
  · exact (h.att p hp).fr hfg hno
  · exact (hq p hp).fr hfg hno
structure TkR (S : Nat → Prop) (n : NodeD) (w1 : World) (i : Nat) (lv : Value) (ps : List (TokD × Value)) (W : World) : Prop where
  tk : RTk S w1.heap.size W lv ps
  eq : ps.map Prod.fst = ⟨1, n.name, n.attrs, []⟩ :: (wordsT n.text ++ tokK (n.kids.take i))
  fr : Fr (fun _ => False) w1 W
theorem own_lift {S : Nat → Prop} {B : Nat} {w : World} {lv : Value} {ps : List (TokD × Value)} (h : RTk S B w lv ps) {w7 : World} (hg : w.grownBy w7 lv.ownBlock) {w1 : World} (hB : B = w1.heap.size) (hf : Fr (fun _ => False) w1 w) : Fr (fun _ => False) w1 w7 :=
  hf.trans ((Fr.refl (fun k => lv.ownBlock = some k) w).grown hg fun k hk => .inl hk) fun k hk => .inr (by rw [← hB]; exact (h.row.lt k hk).1)
def RTkPost (S : Nat → Prop) (l : List TokD) (w : World) (e : Ending) (w' : World) : Prop :=
  ∃ a c ps, e = .returned (.slice a l.length c) ∧ ps.map Prod.fst = l ∧ RTk S w.heap.size w' (.slice a l.length c) ps ∧ Fr (fun _ => False) w w'
theorem ownsRow_one {w : World} {base g e : Nat} {xs : List Value} {size : Nat} (h : w.heap[g]? = some (.cells xs.toArray e (0, 0))) (hb : base ≤ g) (hx : xs.length = 1 * size) : w.ownsRow base e size (.slice (some ⟨g, 0, none⟩) 1 1) 1 xs :=
  ⟨hx, .inr ⟨g, 1, xs.toArray, rfl, hb, h, Nat.le_refl _, by decide, by simpa using hx, by rw [← hx]; simp⟩⟩
theorem info97o : (Tryz.prog.info? 97).map (fun i => (i.zero, i.size, i.bytes)) = some (some (.agg #[.int .i64 0, .string ⟨#[]⟩, .slice none 0 0, .string ⟨#[]⟩]), 4, 64) := by kernel_rfl
set_option maxRecDepth 100000 in
set_option maxHeartbeats 16000000 in
theorem rtokens_h : ∀ (m : Nat) (n : NodeD), weighN n < m → ∀ (w : World) (S : Nat → Prop) (c0 c1 c2 c3 : Value), NodeV w S n [c0, c1, c2, c3] → (∀ k, S k → k < w.heap.size) → manyN n ≤ 1000 →
    Calls Tryz.prog 43 #[.agg #[c0, c1, c2, c3]] w (RTkPost S (tokN n) w)
  | 0, _, h => by omega
  | m + 1, n, hm => by
    intro w S c0 c1 c2 c3 hn hS hmany
    obtain ⟨i97, hi97, hz97, hs97, hb97⟩ := info_parts info97o
    obtain ⟨av, kv, xs, hcs, ha, hk, hks⟩ := hn.parts
    simp only [List.cons.injEq, and_true] at hcs
    obtain ⟨rfl, rfl, rfl, rfl⟩ := hcs
    obtain ⟨-, a1, p1, rfl, -⟩ := id ha
    obtain ⟨-, a3, p3, rfl, hl1, -, -, -⟩ := id hk
    have hmn := many_node n
    have hkl := manyK_len n.kids
    obtain ⟨kn, hkn⟩ : ∃ kn, n.kids.length = kn := ⟨_, rfl⟩
    rw [hkn] at hk hkl hl1 ⊢
    have hkn2 : kn ≤ 1000 := by omega
    obtain ⟨w1, hw1⟩ : ∃ w1, w1 = w.alloc (.cells #[.string (bs n.name), .slice a1 n.attrs.length p1, .string (bs n.text), .slice a3 kn p3] 37) := ⟨_, rfl⟩
    have hfw : Fr (fun _ => False) w w1 := by rw [hw1]; exact (Fr.refl _ _).alloc _
    have hbx : w1.heap[w.heap.size]? = some (.cells #[.string (bs n.name), .slice a1 n.attrs.length p1, .string (bs n.text), .slice a3 kn p3] 37 (0, 0)) := by rw [hw1]; exact block_new _ _
    have HA := Lib.hid (ha.fr hfw fun _ _ h => h)
    have HK := Lib.hid (And.intro (hk.fr hfw fun _ _ h => h) (KidsV.fr hfw (fun _ _ h => h) n.kids hks))
    have HFW := Lib.hid hfw
    have HB := Lib.hid hbx
    have HM := Lib.hid hm
    have HX := Lib.hid (And.intro hmn hmany)
    have HL := Lib.hid hkn
    have HS := Lib.hid (show ∀ k, S k → k < w1.heap.size from fun k h => Nat.lt_of_lt_of_le (hS k h) hfw.size)
    have hIH := Lib.hid (rtokens_h m)
    have x0 := cell_of hbx (i := 0) (v := .string (bs n.name)) rfl
    have x1 := cell_of hbx (i := 1) (v := .slice a1 n.attrs.length p1) rfl
    have x2 := cell_of hbx (i := 2) (v := .string (bs n.text)) rfl
    have xl := lt_of_block hbx
    subst hw1
    have HP0 : Hid (RTk S (w.alloc (.cells #[.string (bs n.name), .slice a1 n.attrs.length p1, .string (bs n.text), .slice a3 kn p3] 37)).heap.size ((w.alloc (.cells #[.string (bs n.name), .slice a1 n.attrs.length p1, .string (bs n.text), .slice a3 kn p3] 37)).alloc (.cells #[.int .i64 1, .string (bs n.name), .slice a1 n.attrs.length p1, .string ⟨#[]⟩] 97)) (.slice (some ⟨w.heap.size + 1, 0, none⟩) 1 1) [(⟨1, n.name, n.attrs, []⟩, .slice a1 n.attrs.length p1)]) :=
      ⟨ownsRow_one (block_new_at (by simp)) (by simp) rfl, fun p hp => by
        rw [List.mem_singleton] at hp; subst hp; exact HA.out.fr ((Fr.refl _ _).alloc _) fun _ _ h => h⟩
    have HF0 : Hid (Fr (fun _ => False) (w.alloc (.cells #[.string (bs n.name), .slice a1 n.attrs.length p1, .string (bs n.text), .slice a3 kn p3] 37)) ((w.alloc (.cells #[.string (bs n.name), .slice a1 n.attrs.length p1, .string (bs n.text), .slice a3 kn p3] 37)).alloc (.cells #[.int .i64 1, .string (bs n.name), .slice a1 n.attrs.length p1, .string ⟨#[]⟩] 97))) := (Fr.refl _ _).alloc _
    clear hn ha hk hks hm hmn hkn hmany hkl hl1 hfw hbx hS
    by_cases htx : n.text = []
    · have tx1 : (bs n.text).toList.isEmpty = true := by rw [bs_toList, htx]; rfl
      have HS0 : Hid (TkR S n (w.alloc (.cells #[.string (bs n.name), .slice a1 n.attrs.length p1, .string (bs n.text), .slice a3 kn p3] 37)) 0 (.slice (some ⟨w.heap.size + 1, 0, none⟩) 1 1) [(⟨1, n.name, n.attrs, []⟩, .slice a1 n.attrs.length p1)] ((w.alloc (.cells #[.string (bs n.name), .slice a1 n.attrs.length p1, .string (bs n.text), .slice a3 kn p3] 37)).alloc (.cells #[.int .i64 1, .string (bs n.name), .slice a1 n.attrs.length p1, .string ⟨#[]⟩] 97))) := ⟨HP0.out, by rw [htx]; simp [wordsT, tokK], HF0.out⟩
      clear htx
      go_enter Tryz.func43, Tryz.ntmps43
      go_wp2_with fail
      go_loopg [3, 4] kn (fun j v3 v4 w' => ∃ W v ps, W = w' ∧ v = v3 ∧ ∃ i : Nat, i + j = kn ∧ v4 = .int .i64 i ∧ Hid (TkR S n (w.alloc (.cells #[.string (bs n.name), .slice a1 n.attrs.length p1, .string (bs n.text), .slice a3 kn p3] 37)) i v ps W))
      case atStart => exact ⟨_, _, _, rfl, rfl, 0, by omega, rfl, HS0.out⟩
      case round =>
        obtain ⟨W, v, ps, rfl, rfl, i, hi, rfl, HI⟩ := hrel
        obtain ⟨bv, cv, rfl⟩ := ownsRow_shape HI.out.tk.row
        have hpl : ps.length ≤ 3 * manyN n := by
          have h := congrArg List.length HI.out.eq
          rw [List.length_map, List.length_cons, List.length_append] at h
          have h1 := tokK_len (n.kids.take i)
          have h2 := many_le (l := n.kids) i
          have h3 : (wordsT n.text).length ≤ 1 := by unfold wordsT; split <;> simp
          have := HX.out.1
          omega
        have hpl2 : ps.length ≤ 3000 := by have := HX.out.2; omega
        obtain ⟨pl, hpl3⟩ : ∃ pl, ps.length = pl := ⟨_, rfl⟩
        have HPL := Lib.hid hpl3
        have HPLn := Lib.hid hpl
        rw [hpl3] at hpl2
        rw [hpl3]
        have bk := HI.out.fr.keep HB.out (fun h => h)
        have y0 := cell_of bk (i := 0) (v := .string (bs n.name)) rfl
        have y3 := cell_of bk (i := 3) (v := .slice a3 kn p3) rfl
        have yl := lt_of_block bk
        have HO := Lib.hid HI.out.tk.row
        rw [hpl3] at HO
        clear bk hpl hpl3
        by_cases hlt : i < kn
        · obtain ⟨x, hx⟩ : ∃ x, n.kids[i]? = some x := ⟨_, List.getElem?_eq_getElem (by rw [HL.out]; exact hlt)⟩
          have hkr := HK.out.1.fr HI.out.fr fun _ _ h => h
          have hkk := KidsV.fr HI.out.fr (fun _ _ h => h) n.kids HK.out.2
          obtain ⟨g, off, rfl, hc⟩ := hkr.cell (by omega)
          obtain ⟨j1, j2, j3, j4, j5, j6, hxv, q0, q1, q2, q3⟩ := kid_cells hc hkk hx
          have HC := Lib.hid (hIH.out x (by have := weigh_in hx; have := HM.out; omega) W S _ _ _ _ hxv (fun k hk => Nat.lt_of_lt_of_le (HS.out k hk) HI.out.fr.size) (by have := many_kid hx; have := HX.out.1; have := HX.out.2; omega))
          have HXx := Lib.hid (And.intro hx hi)
          clear hx hi hkr hkk hc hxv
          go_wp2_with fail
          refine Calls.mono HC.out ?_
          rintro e w3 ⟨ra, rc, qs, rfl, hqs, hrt, hF3⟩
          have hql : qs.length = (tokN x).length := by rw [← hqs, List.length_map]
          rw [← hql] at hrt ⊢
          have hq3 : qs.length ≤ 3000 := by have := tok_len x; have := many_kid HXx.out.1; have := HX.out.1; have := HX.out.2; omega
          have hqp : 0 < qs.length := by rw [hql]; cases x; simp [tokN]
          have HRT := Lib.hid (And.intro hrt (And.intro hqs hF3))
          have HI3 := Lib.hid (HI.out.fr.next hF3)
          have HTK3 := Lib.hid (HI.out.tk.fr hF3)
          have hone : ∀ u ∈ tcells qs, u.oneCell' = true := tcells_one2 fun q hq => by
            obtain ⟨_, a, c, e, _⟩ := hrt.att q hq
            exact ⟨a, _, c, e⟩
          have HONE := Lib.hid hone
          have hsz3 := hF3.size
          have y0' := cell_of (HI3.out.keep HB.out (fun h => h)) (i := 0) (v := .string (bs n.name)) rfl
          clear hqs hrt hF3 hql hone y0 y3 q0 q1 q2 q3
          go_wp2_with (at_builtin; refine wpList_append_row rfl (.tmp 27) (.tmp 33) 24 rfl (w.alloc (.cells #[.string (bs n.name), .slice a1 n.attrs.length p1, .string (bs n.text), .slice (some ⟨g, off, none⟩) kn p3] 37)).heap.size 97 i97 (.agg #[.int .i64 0, .string ⟨#[]⟩, .slice none 0 0, .string ⟨#[]⟩]) 4 64 Tryz.underlying24 hi97 hz97 hs97 hb97 rfl (by decide)  (.slice bv pl cv) pl (tcells ps) rfl (by have h := HTK3.out.row; rw [HPL.out] at h; exact h) (fun k => W.heap.size ≤ k ∧ k < w3.heap.size) _ qs.length (tcells qs) rfl ((SRow.of_owns HRT.out.1.row).mono fun k hk => HRT.out.1.row.lt k hk) HONE.out (by unfold maxLen; omega) (by omega) HI3.out.size ?_; intro b7 cap7 w7 hown7 hgrow7 hfr7; have HN7 : Hid (TkR S n (w.alloc (.cells #[.string (bs n.name), .slice a1 n.attrs.length p1, .string (bs n.text), .slice (some ⟨g, off, none⟩) kn p3] 37)) (i + 1) (.slice b7 (pl + qs.length) cap7) (ps ++ qs) w7) := ⟨HTK3.out.push HS.out HRT.out.1.att (by rw [HPL.out]; exact hgrow7) (by rw [HPL.out]; exact hown7), by rw [List.map_append, HI.out.eq, HRT.out.2.1, tokK_take HXx.out.1]; simp, own_lift HTK3.out (by rw [HPL.out]; exact hgrow7) rfl HI3.out⟩; clear hown7 hgrow7 hfr7)
          go_roundg (kn - (i + 1))
          case measure => have := HXx.out.2; omega
          case rel => exact ⟨_, _, _, rfl, rfl, i + 1, by have := HXx.out.2; omega, by go_num, HN7.out⟩
        · have hik : i = kn := by omega
          have htk : n.kids.take i = n.kids := by rw [hik, ← HL.out, List.take_length]
          have HE : Hid (ps.map Prod.fst = ⟨1, n.name, n.attrs, []⟩ :: (wordsT n.text ++ tokK n.kids)) := by have h := HI.out.eq; rw [htk] at h; exact h
          have HF1 : Hid (Fr (fun _ => False) W (W.alloc (.cells #[.int .i64 2, .string (bs n.name), .slice none 0 0, .string ⟨#[]⟩] 97))) := (Fr.refl _ _).alloc _
          have hWs := HI.out.fr.size
          clear hi htk hlt
          have hki := hik.symm
          clear hik
          subst hki
          have HBL : Hid (SRow (W.alloc (.cells #[.int .i64 2, .string (bs n.name), .slice none 0 0, .string ⟨#[]⟩] 97)) (fun _ => True) 4 (.slice (some ⟨W.heap.size, 0, none⟩) 1 1) 1 (tcells [(⟨2, n.name, [], []⟩, .slice none 0 0)])) := news_cells (vs := tcells [(⟨2, n.name, [], []⟩, .slice none 0 0)]) (block_new W _) _ trivial 1 rfl (by decide)
          go_wp2_with (at_builtin; refine wpList_append_row rfl (.tmp 35) (.tmp 39) 24 rfl (w.alloc (.cells #[.string (bs n.name), .slice a1 n.attrs.length p1, .string (bs n.text), .slice a3 kn p3] 37)).heap.size 97 i97 (.agg #[.int .i64 0, .string ⟨#[]⟩, .slice none 0 0, .string ⟨#[]⟩]) 4 64 Tryz.underlying24 hi97 hz97 hs97 hb97 rfl (by decide)  (.slice bv pl cv) pl (tcells ps) rfl (ownsRow_fr HO.out HF1.out) (fun _ => True) _ 1 (tcells [(⟨2, n.name, [], []⟩, .slice none 0 0)]) rfl HBL.out (by intro u hu; simp [tcells, tc] at hu; rcases hu with rfl | rfl | rfl | rfl <;> rfl) (by unfold maxLen; omega) (by omega) (Nat.le_trans hWs HF1.out.size) ?_; intro b7 cap7 w7 hown7 hgrow7 hfr7; have HN7 : Hid (RTk S (w.alloc (.cells #[.string (bs n.name), .slice a1 n.attrs.length p1, .string (bs n.text), .slice a3 kn p3] 37)).heap.size w7 (.slice b7 (pl + 1) cap7) (ps ++ [(⟨2, n.name, [], []⟩, .slice none 0 0)])) := (HI.out.tk.fr HF1.out).push HS.out (fun q hq => by rw [List.mem_singleton] at hq; subst hq; exact SRow.nil _ _ _) (by rw [HPL.out]; exact hgrow7) (by rw [HPL.out]; exact hown7); have HN8 : Hid (Fr (fun _ => False) (w.alloc (.cells #[.string (bs n.name), .slice a1 n.attrs.length p1, .string (bs n.text), .slice a3 kn p3] 37)) w7) := own_lift (HI.out.tk.fr HF1.out) (by rw [HPL.out]; exact hgrow7) rfl (HI.out.fr.next HF1.out); clear hown7 hgrow7 hfr7)
          go_ret
          have htn : (ps ++ [((⟨2, n.name, [], []⟩ : TokD), Value.slice none 0 0)]).map Prod.fst = tokN n := by
            rw [List.map_append, HE.out]; cases n; simp [tokN, NodeD.name, NodeD.attrs, NodeD.text, NodeD.kids]
          have hln : (tokN n).length = pl + 1 := by rw [← htn, List.length_map, List.length_append, HPL.out]; rfl
          exact ⟨b7, cap7, _, by rw [hln] <;> rfl, htn, by rw [hln]; exact ⟨ownsRow_base HN7.out.row (by simp), HN7.out.att⟩, HFW.out.next HN8.out⟩
    · have tx1 : (bs n.text).toList.isEmpty = false := by
        rw [bs_toList]
        cases h : n.text with | nil => exact absurd h htx | cons c l => rfl
      have HTX := Lib.hid htx
      have HF1 : Hid (Fr (fun _ => False) ((w.alloc (.cells #[.string (bs n.name), .slice a1 n.attrs.length p1, .string (bs n.text), .slice a3 kn p3] 37)).alloc (.cells #[.int .i64 1, .string (bs n.name), .slice a1 n.attrs.length p1, .string ⟨#[]⟩] 97)) (((w.alloc (.cells #[.string (bs n.name), .slice a1 n.attrs.length p1, .string (bs n.text), .slice a3 kn p3] 37)).alloc (.cells #[.int .i64 1, .string (bs n.name), .slice a1 n.attrs.length p1, .string ⟨#[]⟩] 97)).alloc (.cells #[.int .i64 3, .string ⟨#[]⟩, .slice none 0 0, .string (bs n.text)] 97))) := (Fr.refl _ _).alloc _
      clear htx
      go_enter Tryz.func43, Tryz.ntmps43
      go_wp2_with (at_builtin; refine wpList_append_row rfl (.tmp 14) (.tmp 18) 24 rfl (w.alloc (.cells #[.string (bs n.name), .slice a1 n.attrs.length p1, .string (bs n.text), .slice a3 kn p3] 37)).heap.size 97 i97 (.agg #[.int .i64 0, .string ⟨#[]⟩, .slice none 0 0, .string ⟨#[]⟩]) 4 64 Tryz.underlying24 hi97 hz97 hs97 hb97 rfl (by decide)  (.slice (some ⟨w.heap.size + 1, 0, none⟩) 1 1) 1 (tcells [(⟨1, n.name, n.attrs, []⟩, .slice a1 n.attrs.length p1)]) rfl (ownsRow_fr HP0.out.row HF1.out) (fun _ => True) _ 1 (tcells [(⟨3, [], [], n.text⟩, .slice none 0 0)]) rfl (news_cells (block_new_at (by simp)) _ trivial 1 rfl (by decide)) (by intro u hu; simp [tcells, tc] at hu; rcases hu with rfl | rfl | rfl | rfl <;> rfl) (by decide) (by decide) (by simp <;> omega) ?_; intro b6 cap6 w6 hown6 hgrow6 hfr6; have HS0 : Hid (TkR S n (w.alloc (.cells #[.string (bs n.name), .slice a1 n.attrs.length p1, .string (bs n.text), .slice a3 kn p3] 37)) 0 (.slice b6 (1 + 1) cap6) ([(⟨1, n.name, n.attrs, []⟩, .slice a1 n.attrs.length p1)] ++ [(⟨3, [], [], n.text⟩, .slice none 0 0)]) w6) := ⟨(HP0.out.fr HF1.out).push HS.out (fun q hq => by rw [List.mem_singleton] at hq; subst hq; exact SRow.nil _ _ _) hgrow6 hown6, by cases h : n.text with | nil => exact absurd h HTX.out | cons c l => simp [wordsT, tokK], own_lift (HP0.out.fr HF1.out) hgrow6 rfl (HF0.out.next HF1.out)⟩; clear hown6 hgrow6 hfr6)
      go_loopg [3, 4] kn (fun j v3 v4 w' => ∃ W v ps, W = w' ∧ v = v3 ∧ ∃ i : Nat, i + j = kn ∧ v4 = .int .i64 i ∧ Hid (TkR S n (w.alloc (.cells #[.string (bs n.name), .slice a1 n.attrs.length p1, .string (bs n.text), .slice a3 kn p3] 37)) i v ps W))
      case atStart => exact ⟨_, _, _, rfl, rfl, 0, by omega, rfl, HS0.out⟩
      case round =>
        obtain ⟨W, v, ps, rfl, rfl, i, hi, rfl, HI⟩ := hrel
        obtain ⟨bv, cv, rfl⟩ := ownsRow_shape HI.out.tk.row
        have hpl : ps.length ≤ 3 * manyN n := by
          have h := congrArg List.length HI.out.eq
          rw [List.length_map, List.length_cons, List.length_append] at h
          have h1 := tokK_len (n.kids.take i)
          have h2 := many_le (l := n.kids) i
          have h3 : (wordsT n.text).length ≤ 1 := by unfold wordsT; split <;> simp
          have := HX.out.1
          omega
        have hpl2 : ps.length ≤ 3000 := by have := HX.out.2; omega
        obtain ⟨pl, hpl3⟩ : ∃ pl, ps.length = pl := ⟨_, rfl⟩
        have HPL := Lib.hid hpl3
        have HPLn := Lib.hid hpl
        rw [hpl3] at hpl2
        rw [hpl3]
        have bk := HI.out.fr.keep HB.out (fun h => h)
        have y0 := cell_of bk (i := 0) (v := .string (bs n.name)) rfl
        have y3 := cell_of bk (i := 3) (v := .slice a3 kn p3) rfl
        have yl := lt_of_block bk
        have HO := Lib.hid HI.out.tk.row
        rw [hpl3] at HO
        clear bk hpl hpl3
        by_cases hlt : i < kn
        · obtain ⟨x, hx⟩ : ∃ x, n.kids[i]? = some x := ⟨_, List.getElem?_eq_getElem (by rw [HL.out]; exact hlt)⟩
          have hkr := HK.out.1.fr HI.out.fr fun _ _ h => h
          have hkk := KidsV.fr HI.out.fr (fun _ _ h => h) n.kids HK.out.2
          obtain ⟨g, off, rfl, hc⟩ := hkr.cell (by omega)
          obtain ⟨j1, j2, j3, j4, j5, j6, hxv, q0, q1, q2, q3⟩ := kid_cells hc hkk hx
          have HC := Lib.hid (hIH.out x (by have := weigh_in hx; have := HM.out; omega) W S _ _ _ _ hxv (fun k hk => Nat.lt_of_lt_of_le (HS.out k hk) HI.out.fr.size) (by have := many_kid hx; have := HX.out.1; have := HX.out.2; omega))
          have HXx := Lib.hid (And.intro hx hi)
          clear hx hi hkr hkk hc hxv
          go_wp2_with fail
          refine Calls.mono HC.out ?_
          rintro e w3 ⟨ra, rc, qs, rfl, hqs, hrt, hF3⟩
          have hql : qs.length = (tokN x).length := by rw [← hqs, List.length_map]
          rw [← hql] at hrt ⊢
          have hq3 : qs.length ≤ 3000 := by have := tok_len x; have := many_kid HXx.out.1; have := HX.out.1; have := HX.out.2; omega
          have hqp : 0 < qs.length := by rw [hql]; cases x; simp [tokN]
          have HRT := Lib.hid (And.intro hrt (And.intro hqs hF3))
          have HI3 := Lib.hid (HI.out.fr.next hF3)
          have HTK3 := Lib.hid (HI.out.tk.fr hF3)
          have hone : ∀ u ∈ tcells qs, u.oneCell' = true := tcells_one2 fun q hq => by
            obtain ⟨_, a, c, e, _⟩ := hrt.att q hq
            exact ⟨a, _, c, e⟩
          have HONE := Lib.hid hone
          have hsz3 := hF3.size
          have y0' := cell_of (HI3.out.keep HB.out (fun h => h)) (i := 0) (v := .string (bs n.name)) rfl
          clear hqs hrt hF3 hql hone y0 y3 q0 q1 q2 q3
          go_wp2_with (at_builtin; refine wpList_append_row rfl (.tmp 27) (.tmp 33) 24 rfl (w.alloc (.cells #[.string (bs n.name), .slice a1 n.attrs.length p1, .string (bs n.text), .slice (some ⟨g, off, none⟩) kn p3] 37)).heap.size 97 i97 (.agg #[.int .i64 0, .string ⟨#[]⟩, .slice none 0 0, .string ⟨#[]⟩]) 4 64 Tryz.underlying24 hi97 hz97 hs97 hb97 rfl (by decide)  (.slice bv pl cv) pl (tcells ps) rfl (by have h := HTK3.out.row; rw [HPL.out] at h; exact h) (fun k => W.heap.size ≤ k ∧ k < w3.heap.size) _ qs.length (tcells qs) rfl ((SRow.of_owns HRT.out.1.row).mono fun k hk => HRT.out.1.row.lt k hk) HONE.out (by unfold maxLen; omega) (by omega) HI3.out.size ?_; intro b7 cap7 w7 hown7 hgrow7 hfr7; have HN7 : Hid (TkR S n (w.alloc (.cells #[.string (bs n.name), .slice a1 n.attrs.length p1, .string (bs n.text), .slice (some ⟨g, off, none⟩) kn p3] 37)) (i + 1) (.slice b7 (pl + qs.length) cap7) (ps ++ qs) w7) := ⟨HTK3.out.push HS.out HRT.out.1.att (by rw [HPL.out]; exact hgrow7) (by rw [HPL.out]; exact hown7), by rw [List.map_append, HI.out.eq, HRT.out.2.1, tokK_take HXx.out.1]; simp, own_lift HTK3.out (by rw [HPL.out]; exact hgrow7) rfl HI3.out⟩; clear hown7 hgrow7 hfr7)
          go_roundg (kn - (i + 1))
          case measure => have := HXx.out.2; omega
          case rel => exact ⟨_, _, _, rfl, rfl, i + 1, by have := HXx.out.2; omega, by go_num, HN7.out⟩
        · have hik : i = kn := by omega
          have htk : n.kids.take i = n.kids := by rw [hik, ← HL.out, List.take_length]
          have HE : Hid (ps.map Prod.fst = ⟨1, n.name, n.attrs, []⟩ :: (wordsT n.text ++ tokK n.kids)) := by have h := HI.out.eq; rw [htk] at h; exact h
          have HF1 : Hid (Fr (fun _ => False) W (W.alloc (.cells #[.int .i64 2, .string (bs n.name), .slice none 0 0, .string ⟨#[]⟩] 97))) := (Fr.refl _ _).alloc _
          have hWs := HI.out.fr.size
          clear hi htk hlt
          have hki := hik.symm
          clear hik
          subst hki
          have HBL : Hid (SRow (W.alloc (.cells #[.int .i64 2, .string (bs n.name), .slice none 0 0, .string ⟨#[]⟩] 97)) (fun _ => True) 4 (.slice (some ⟨W.heap.size, 0, none⟩) 1 1) 1 (tcells [(⟨2, n.name, [], []⟩, .slice none 0 0)])) := news_cells (vs := tcells [(⟨2, n.name, [], []⟩, .slice none 0 0)]) (block_new W _) _ trivial 1 rfl (by decide)
          go_wp2_with (at_builtin; refine wpList_append_row rfl (.tmp 35) (.tmp 39) 24 rfl (w.alloc (.cells #[.string (bs n.name), .slice a1 n.attrs.length p1, .string (bs n.text), .slice a3 kn p3] 37)).heap.size 97 i97 (.agg #[.int .i64 0, .string ⟨#[]⟩, .slice none 0 0, .string ⟨#[]⟩]) 4 64 Tryz.underlying24 hi97 hz97 hs97 hb97 rfl (by decide)  (.slice bv pl cv) pl (tcells ps) rfl (ownsRow_fr HO.out HF1.out) (fun _ => True) _ 1 (tcells [(⟨2, n.name, [], []⟩, .slice none 0 0)]) rfl HBL.out (by intro u hu; simp [tcells, tc] at hu; rcases hu with rfl | rfl | rfl | rfl <;> rfl) (by unfold maxLen; omega) (by omega) (Nat.le_trans hWs HF1.out.size) ?_; intro b7 cap7 w7 hown7 hgrow7 hfr7; have HN7 : Hid (RTk S (w.alloc (.cells #[.string (bs n.name), .slice a1 n.attrs.length p1, .string (bs n.text), .slice a3 kn p3] 37)).heap.size w7 (.slice b7 (pl + 1) cap7) (ps ++ [(⟨2, n.name, [], []⟩, .slice none 0 0)])) := (HI.out.tk.fr HF1.out).push HS.out (fun q hq => by rw [List.mem_singleton] at hq; subst hq; exact SRow.nil _ _ _) (by rw [HPL.out]; exact hgrow7) (by rw [HPL.out]; exact hown7); have HN8 : Hid (Fr (fun _ => False) (w.alloc (.cells #[.string (bs n.name), .slice a1 n.attrs.length p1, .string (bs n.text), .slice a3 kn p3] 37)) w7) := own_lift (HI.out.tk.fr HF1.out) (by rw [HPL.out]; exact hgrow7) rfl (HI.out.fr.next HF1.out); clear hown7 hgrow7 hfr7)
          go_ret
          have htn : (ps ++ [((⟨2, n.name, [], []⟩ : TokD), Value.slice none 0 0)]).map Prod.fst = tokN n := by
            rw [List.map_append, HE.out]; cases n; simp [tokN, NodeD.name, NodeD.attrs, NodeD.text, NodeD.kids]
          have hln : (tokN n).length = pl + 1 := by rw [← htn, List.length_map, List.length_append, HPL.out]; rfl
          exact ⟨b7, cap7, _, by rw [hln] <;> rfl, htn, by rw [hln]; exact ⟨ownsRow_base HN7.out.row (by simp), HN7.out.att⟩, HFW.out.next HN8.out⟩
end Go.Proofs.YtpinjgdnhbogoaaGreatDoor
