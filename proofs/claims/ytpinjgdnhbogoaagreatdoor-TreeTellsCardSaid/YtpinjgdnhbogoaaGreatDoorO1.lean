/- The reference's All, Attr, Size of an element. -/
import Derived.Test.YtpinjgdnhbogoaaGreatDoorNE
namespace Go.Proofs.YtpinjgdnhbogoaaGreatDoor
open Go.RowKit Go.Lib

theorem info37o : (Tryz.prog.info? 37).map (fun i => (i.zero, i.size, i.bytes)) = some (some (.agg #[.string ⟨#[]⟩, .slice none 0 0, .string ⟨#[]⟩, .slice none 0 0]), 4, 80) := by kernel_rfl
structure AllRIn (S : Nat → Prop) (n : NodeD) (nm : Str) (w : World) (i : Nat) (v : Value) (W : World) : Prop where
  row : ∃ xs, W.ownsRow w.heap.size 37 4 v ((n.kids.take i).filter fun k => k.name == nm).length xs ∧ KidsV W S ((n.kids.take i).filter fun k => k.name == nm) xs
  fr : Fr (fun _ => False) w W
theorem AllRIn.fr2 {S : Nat → Prop} {n : NodeD} {nm : Str} {w W W2 : World} {i : Nat} {v : Value} (h : AllRIn S n nm w i v W) (hf : Fr (fun _ => False) W W2) : AllRIn S n nm w i v W2 := by
  obtain ⟨⟨xs, h1, h2⟩, h3⟩ := h
  exact ⟨⟨xs, ownsRow_fr h1 hf, KidsV.fr hf (fun _ _ h => h) _ h2⟩, h3.next hf⟩
theorem AllRIn.skip {S : Nat → Prop} {n x : NodeD} {nm : Str} {w W : World} {i : Nat} {v : Value} (h : AllRIn S n nm w i v W) (hx : n.kids[i]? = some x) (hn : x.name ≠ nm) : AllRIn S n nm w (i + 1) v W := by
  have e := all_take (nm := nm) hx
  rw [if_neg hn, List.append_nil] at e
  exact ⟨by rw [e]; exact h.row, h.fr⟩
theorem AllRIn.take {S : Nat → Prop} {n x : NodeD} {nm : Str} {w W W2 w7 : World} {i : Nat} {v v7 : Value} {xs cs : List Value} (h : AllRIn S n nm w i v W) (hx : n.kids[i]? = some x) (hn : x.name = nm) (hxs : KidsV W S ((n.kids.take i).filter fun k => k.name == nm) xs) (hcs : NodeV W S x cs) (hS : ∀ k, S k → k < w.heap.size) (hf : Fr (fun _ => False) W W2)
    (hb : ∀ k, v.ownBlock = some k → w.heap.size ≤ k) (hg : W2.grownBy w7 v.ownBlock) (hr : w7.ownsRow w.heap.size 37 4 v7 (((n.kids.take i).filter fun k => k.name == nm).length + 1) (xs ++ cs)) : AllRIn S n nm w (i + 1) v7 w7 := by
  have e := all_take (nm := nm) hx
  rw [if_pos hn] at e
  have h7 : Fr (fun k => v.ownBlock = some k) W2 w7 := (Fr.refl _ _).grown hg fun k hk => .inl hk
  refine ⟨⟨xs ++ cs, ?_, ?_⟩, (h.fr.next hf).trans h7 fun k hk => .inr (hb k hk)⟩
  · rw [e, List.length_append]; exact hr
  · rw [e]
    exact KidsV.snoc (NodeV.fr h7 (fun k hk e => by have := hb k e; have := hS k hk; omega) x (NodeV.fr hf (fun _ _ h => h) x hcs)) (KidsV.fr h7 (fun k hk e => by have := hb k e; have := hS k hk; omega) _ (KidsV.fr hf (fun _ _ h => h) _ hxs))
set_option maxRecDepth 100000 in
set_option maxHeartbeats 8000000 in
theorem rall_h {w : World} {S : Nat → Prop} {n : NodeD} {c0 c1 c2 c3 : Value} (hn : NodeV w S n [c0, c1, c2, c3]) (hS : ∀ k, S k → k < w.heap.size) (hk : n.kids.length ≤ 1000000) (nm : Str) :
    Calls Tryz.prog 45 #[.agg #[c0, c1, c2, c3], .string (bs nm)] w (AllPost S (allN n nm) w) := by
  obtain ⟨i0, hi0, hz0, hz1, hz2⟩ := info_parts info37o
  obtain ⟨av, kv, xs, hcs, ha, hkr, hks⟩ := hn.parts
  simp only [List.cons.injEq, and_true] at hcs
  obtain ⟨rfl, rfl, rfl, rfl⟩ := hcs
  obtain ⟨-, a1, p1, rfl, -⟩ := id ha
  obtain ⟨-, a3, p3, rfl, -, -, -, -⟩ := id hkr
  obtain ⟨kn, hkn⟩ : ∃ kn, n.kids.length = kn := ⟨_, rfl⟩
  rw [hkn] at hkr hk ⊢
  have hfw : Fr (fun _ => False) w (w.alloc (.cells #[.string (bs n.name), .slice a1 n.attrs.length p1, .string (bs n.text), .slice a3 kn p3] 37)) := (Fr.refl _ _).alloc _
  have HK := Lib.hid (And.intro (hkr.fr hfw fun _ _ h => h) (KidsV.fr hfw (fun _ _ h => h) n.kids hks))
  have HFW := Lib.hid hfw
  have HS := Lib.hid hS
  have HL := Lib.hid hkn
  have HB := Lib.hid (block_new w (.cells #[.string (bs n.name), .slice a1 n.attrs.length p1, .string (bs n.text), .slice a3 kn p3] 37))
  have HB0 : Hid (AllRIn S n nm (w.alloc (.cells #[.string (bs n.name), .slice a1 n.attrs.length p1, .string (bs n.text), .slice a3 kn p3] 37)) 0 (.slice none 0 0) (w.alloc (.cells #[.string (bs n.name), .slice a1 n.attrs.length p1, .string (bs n.text), .slice a3 kn p3] 37))) := ⟨⟨[], World.ownsRow_nil _ _ _ _, KidsV.nil.2 rfl⟩, Fr.refl _ _⟩
  clear hn ha hkr hks hS hkn hfw
  go_enter Tryz.func45, Tryz.ntmps45
  go_wp2_with fail
  go_loopg [5, 6] kn (fun j v5 v6 w' => ∃ W v, W = w' ∧ v = v5 ∧ ∃ i : Nat, i + j = kn ∧ v6 = .int .i64 i ∧ Hid (AllRIn S n nm (w.alloc (.cells #[.string (bs n.name), .slice a1 n.attrs.length p1, .string (bs n.text), .slice a3 kn p3] 37)) i v W))
  case atStart => exact ⟨_, _, rfl, rfl, 0, by omega, rfl, HB0.out⟩
  case round =>
    obtain ⟨W, v, rfl, rfl, i, hi, rfl, HI⟩ := hrel
    have bk := HI.out.fr.keep HB.out (fun h => h)
    have x3 := cell_of bk (i := 3) (v := .slice a3 kn p3) rfl
    have xl := lt_of_block bk
    clear bk
    by_cases hlt : i < kn
    · obtain ⟨x, hx⟩ : ∃ x, n.kids[i]? = some x := ⟨_, List.getElem?_eq_getElem (by rw [HL.out]; exact hlt)⟩
      have hrw := HK.out.1.fr HI.out.fr fun _ _ h => h
      have hkk := KidsV.fr HI.out.fr (fun _ _ h => h) n.kids HK.out.2
      obtain ⟨g, off, rfl, hc⟩ := hrw.cell (by omega)
      obtain ⟨j1, j2, j3, j4, j5, j6, hxv, q0, q1, q2, q3⟩ := kid_cells hc hkk hx
      have HX := Lib.hid (And.intro hx (And.intro hi hxv))
      clear hx hi hrw hkk hc hxv
      by_cases hnm : x.name = nm
      · have t1 : ((bs x.name).toList == (bs nm).toList) = true := by rw [hnm]; simp
        have HN := Lib.hid hnm
        obtain ⟨xs2, ho2, hk2⟩ := HI.out.row
        have hfl : ((n.kids.take i).filter fun k => k.name == nm).length ≤ kn := Nat.le_trans (List.length_filter_le _ _) (by rw [List.length_take, HL.out]; omega)
        obtain ⟨fl, hfl2⟩ : ∃ fl, ((n.kids.take i).filter fun k => k.name == nm).length = fl := ⟨_, rfl⟩
        rw [hfl2] at hfl
        rw [hfl2] at ho2
        have HO := Lib.hid ho2
        have HK2 := Lib.hid (And.intro hk2 (And.intro hfl2 fun k hk => (ho2.lt k hk).1))
        obtain ⟨bv, cv, rfl⟩ := ownsRow_shape ho2
        have HF1 : Hid (Fr (fun _ => False) W (W.alloc (.cells #[.string (bs x.name), .slice j1 j2 j3, .string (bs x.text), .slice j4 j5 j6] 37))) := (Fr.refl _ _).alloc _
        clear hnm ho2 hk2 hfl2
        go_wp2_with (at_builtin; refine wpList_append_row rfl (.tmp 22) (.tmp 28) 35 rfl (w.alloc (.cells #[.string (bs n.name), .slice a1 n.attrs.length p1, .string (bs n.text), .slice (some ⟨g, off, none⟩) kn p3] 37)).heap.size 37 i0 (.agg #[.string ⟨#[]⟩, .slice none 0 0, .string ⟨#[]⟩, .slice none 0 0]) 4 80 Tryz.underlying35 hi0 hz0 hz1 hz2 rfl (by decide) (.slice bv fl cv) fl xs2 rfl (ownsRow_fr HO.out HF1.out) (fun _ => True) _ 1 [.string (bs x.name), .slice j1 j2 j3, .string (bs x.text), .slice j4 j5 j6] rfl (news_cells (block_new_at (by simp)) _ trivial 1 rfl (by decide)) (by intro u hu; simp at hu; rcases hu with rfl | rfl | rfl | rfl <;> rfl) (by unfold maxLen; omega) (by omega) (by simp; omega) ?_; intro b7 cap7 w7 hown7 hgrow7 hfr7; have HN7 := Lib.hid (HI.out.take HX.out.1 HN.out HK2.out.1 HX.out.2.2 (fun k hk => by have := HS.out k hk; have := HFW.out.size; omega) HF1.out HK2.out.2.2 hgrow7 (by rw [HK2.out.2.1]; exact hown7)); clear hown7 hgrow7 hfr7)
        go_roundg (kn - (i + 1))
        case measure => have := HX.out.2.1; omega
        case rel => exact ⟨_, _, rfl, rfl, i + 1, by have := HX.out.2.1; omega, by go_num, HN7.out⟩
      · have t := str_eq_f hnm
        have t1 := t.1
        have t2 := t.2
        have HN := Lib.hid (HI.out.skip HX.out.1 hnm)
        clear t hnm
        go_wp2_with fail
        go_roundg (kn - (i + 1))
        case measure => have := HX.out.2.1; omega
        case rel => exact ⟨_, _, rfl, rfl, i + 1, by have := HX.out.2.1; omega, by go_num, HN.out⟩
    · have hik : i = kn := by omega
      have htk : n.kids.take i = n.kids := by rw [hik, ← HL.out, List.take_length]
      obtain ⟨xs2, ho2, hk2⟩ := HI.out.row
      rw [htk] at ho2 hk2
      obtain ⟨bv, cv, rfl⟩ := ownsRow_shape ho2
      have HE : Hid (AllPost S (allN n nm) w (.returned (.slice bv (allN n nm).length cv)) W) := ⟨bv, cv, xs2, rfl, (SRow.of_owns ho2).mono fun k hk => ⟨Nat.le_trans HFW.out.size (ho2.lt k hk).1, (ho2.lt k hk).2⟩, hk2, HFW.out.next HI.out.fr⟩
      clear hi hik htk ho2 hk2
      rw [show (n.kids.filter fun k => k.name == nm) = allN n nm from rfl]
      go_wp2_with fail
      go_ret
      exact HE.out
set_option maxRecDepth 100000 in
set_option maxHeartbeats 8000000 in
theorem rattr_at_h {w : World} {S : Nat → Prop} {n : NodeD} {c0 c1 c2 c3 : Value} (hn : NodeV w S n [c0, c1, c2, c3]) (hk : n.attrs.length ≤ 1000000) (nm : Str) :
    Calls Tryz.prog 47 #[.agg #[c0, c1, c2, c3], .string (bs nm)] w (AtPost (attrO n nm) w) := by
  obtain ⟨av, kv, xs, hcs, ha, hkr, hks⟩ := hn.parts
  simp only [List.cons.injEq, and_true] at hcs
  obtain ⟨rfl, rfl, rfl, rfl⟩ := hcs
  obtain ⟨-, a1, p1, rfl, -⟩ := id ha
  obtain ⟨-, a3, p3, rfl, -, -, -, -⟩ := id hkr
  obtain ⟨kn, hkn⟩ : ∃ kn, n.attrs.length = kn := ⟨_, rfl⟩
  rw [hkn] at ha hk ⊢
  have hfw : Fr (fun _ => False) w (w.alloc (.cells #[.string (bs n.name), .slice a1 kn p1, .string (bs n.text), .slice a3 n.kids.length p3] 37)) := (Fr.refl _ _).alloc _
  have HA := Lib.hid (ha.fr hfw fun _ _ h => h)
  have HFW := Lib.hid hfw
  have HL := Lib.hid hkn
  have HB := Lib.hid (block_new w (.cells #[.string (bs n.name), .slice a1 kn p1, .string (bs n.text), .slice a3 n.kids.length p3] 37))
  clear hn ha hkr hks hkn hfw
  go_enter Tryz.func47, Tryz.ntmps47
  go_wp2_with fail
  go_loopg [6] kn (fun j v6 w' => ∃ W, W = w' ∧ ∃ i : Nat, i + j = kn ∧ v6 = .int .i64 i ∧ Hid ((n.attrs.take i).find? (fun a => a.1 == nm) = none ∧ Fr (fun _ => False) (w.alloc (.cells #[.string (bs n.name), .slice a1 kn p1, .string (bs n.text), .slice a3 n.kids.length p3] 37)) W))
  case atStart => exact ⟨_, rfl, 0, by omega, rfl, by simp, Fr.refl _ _⟩
  case round =>
    obtain ⟨W, rfl, i, hi, rfl, HI⟩ := hrel
    have bk := HI.out.2.keep HB.out (fun h => h)
    have x1 := cell_of bk (i := 1) (v := .slice a1 kn p1) rfl
    have xl := lt_of_block bk
    clear bk
    by_cases hlt : i < kn
    · obtain ⟨x, hx⟩ : ∃ x, n.attrs[i]? = some x := ⟨_, List.getElem?_eq_getElem (by rw [HL.out]; exact hlt)⟩
      have hrw := HA.out.fr HI.out.2 fun _ _ h => h
      obtain ⟨g, off, rfl, hc⟩ := hrw.cell (by omega)
      obtain ⟨m0, m1⟩ := acells_at hx
      have q0 := hc _ _ m0
      have q1 := hc _ _ m1
      rw [← Nat.add_assoc] at q1
      have HX := Lib.hid (And.intro hx hi)
      clear hx hi hrw hc m0 m1
      by_cases hnm : x.1 = nm
      · have t1 : ((bs x.1).toList == (bs nm).toList) = true := by rw [hnm]; simp
        have HE : Hid (attrO n nm = some x.2) := by
          show (n.attrs.find? fun a => a.1 == nm).map (·.2) = some x.2
          rw [find_here HI.out.1 HX.out.1 (by simp [hnm])]; rfl
        clear hnm
        go_wp2_with fail
        go_ret2
        exact ⟨by rw [HE.out] <;> rfl, HFW.out.next HI.out.2⟩
      · have t := str_eq_f hnm
        have t1 := t.1
        have t2 := t.2
        have HN := Lib.hid (find_skip HI.out.1 HX.out.1 (by simp [hnm]))
        clear t hnm
        go_wp2_with fail
        go_roundg (kn - (i + 1))
        case measure => have := HX.out.2; omega
        case rel => exact ⟨_, rfl, i + 1, by have := HX.out.2; omega, by go_num, HN.out, HI.out.2⟩
    · have hik : i = kn := by omega
      have htk : n.attrs.take i = n.attrs := by rw [hik, ← HL.out, List.take_length]
      have h1 := HI.out.1
      rw [htk] at h1
      have HE : Hid (attrO n nm = none) := by show (n.attrs.find? fun a => a.1 == nm).map (·.2) = none; rw [h1]; rfl
      clear hi hik htk h1
      go_wp2_with fail
      go_ret2
      exact ⟨by rw [HE.out] <;> rfl, HFW.out.next HI.out.2⟩
/-- Size -/
def RszPost (n : NodeD) (w : World) (e : Ending) (w' : World) : Prop :=
  e = .returned (.tuple #[.int .i64 ((manyN n : Nat) : Int), .int .i64 ((deepN n : Nat) : Int)]) ∧ Fr (fun _ => False) w w'
set_option maxRecDepth 100000 in
set_option maxHeartbeats 8000000 in
theorem rsize_h : ∀ (m : Nat) (n : NodeD), weighN n < m → ∀ (w : World) (S : Nat → Prop) (c0 c1 c2 c3 : Value), NodeV w S n [c0, c1, c2, c3] → manyN n ≤ 1000000 → deepN n ≤ 1000000 →
    Calls Tryz.prog 48 #[.agg #[c0, c1, c2, c3]] w (RszPost n w)
  | 0, _, h => by omega
  | m + 1, n, hm => by
    intro w S c0 c1 c2 c3 hn hmany hdeep
    obtain ⟨av, kv, xs, hcs, ha, hk, hks⟩ := hn.parts
    simp only [List.cons.injEq, and_true] at hcs
    obtain ⟨rfl, rfl, rfl, rfl⟩ := hcs
    obtain ⟨-, a1, p1, rfl, -⟩ := id ha
    obtain ⟨-, a3, p3, rfl, hl1, -, -, -⟩ := id hk
    have hmn := many_node n
    have hdn := deep_node n
    have hkl := manyK_len n.kids
    obtain ⟨kn, hkn⟩ : ∃ kn, n.kids.length = kn := ⟨_, rfl⟩
    rw [hkn] at hk hkl hl1 ⊢
    have hkn2 : kn ≤ 1000000 := by omega
    have hfw : Fr (fun _ => False) w (w.alloc (.cells #[.string (bs n.name), .slice a1 n.attrs.length p1, .string (bs n.text), .slice a3 kn p3] 37)) := (Fr.refl _ _).alloc _
    have HK := Lib.hid (And.intro (hk.fr hfw fun _ _ h => h) (KidsV.fr hfw (fun _ _ h => h) n.kids hks))
    have HFW := Lib.hid hfw
    have HB := Lib.hid (block_new w (.cells #[.string (bs n.name), .slice a1 n.attrs.length p1, .string (bs n.text), .slice a3 kn p3] 37))
    have HM := Lib.hid hm
    have HX := Lib.hid (And.intro hmn (And.intro hdn (And.intro hmany hdeep)))
    have HL := Lib.hid hkn
    have hIH := Lib.hid (rsize_h m)
    clear hn ha hk hks hm hmn hdn hkn hmany hdeep hkl hl1 hfw
    go_enter Tryz.func48, Tryz.ntmps48
    go_wp2_with fail
    go_loopg [4, 5, 6] kn (fun j v4 v5 v6 w' => ∃ W, W = w' ∧ ∃ i : Nat, i + j = kn ∧ v6 = .int .i64 i ∧ v4 = .int .i64 ((1 + manyK (n.kids.take i) : Nat) : Int) ∧ v5 = .int .i64 ((deepK (n.kids.take i) : Nat) : Int) ∧ Hid (Fr (fun _ => False) (w.alloc (.cells #[.string (bs n.name), .slice a1 n.attrs.length p1, .string (bs n.text), .slice a3 kn p3] 37)) W))
    case atStart => exact ⟨_, rfl, 0, by omega, rfl, by rw [List.take_zero]; rfl, by rw [List.take_zero]; rfl, Fr.refl _ _⟩
    case round =>
      obtain ⟨W, rfl, i, hi, rfl, rfl, rfl, HI⟩ := hrel
      have bk := HI.out.keep HB.out (fun h => h)
      have x3 := cell_of bk (i := 3) (v := .slice a3 kn p3) rfl
      have xl := lt_of_block bk
      clear bk
      by_cases hlt : i < kn
      · obtain ⟨x, hx⟩ : ∃ x, n.kids[i]? = some x := ⟨_, List.getElem?_eq_getElem (by rw [HL.out]; exact hlt)⟩
        have hkr := HK.out.1.fr HI.out fun _ _ h => h
        have hkk := KidsV.fr HI.out (fun _ _ h => h) n.kids HK.out.2
        obtain ⟨g, off, rfl, hc⟩ := hkr.cell (by omega)
        obtain ⟨j1, j2, j3, j4, j5, j6, hxv, q0, q1, q2, q3⟩ := kid_cells hc hkk hx
        have hmx : manyN x ≤ 1000000 := by have := many_kid hx; have := HX.out.1; have := HX.out.2.2.1; omega
        have hdx : deepN x ≤ 1000000 := by have := deep_kid hx; have := HX.out.2.1; have := HX.out.2.2.2; omega
        have HC := Lib.hid (fun (W' : World) (hF : Fr (fun _ => False) W W') => hIH.out x (by have := weigh_in hx; have := HM.out; omega) W' S _ _ _ _ (NodeV.fr hF (fun _ _ h => h) x hxv) hmx hdx)
        have e1 := manyK_take hx
        have e2 := deepK_take hx
        have hms0 := many_kid hx
        have hms1 := HX.out.1
        have hms2 := HX.out.2.2.1
        obtain ⟨ma, hma⟩ : ∃ ma, 1 + manyK (n.kids.take i) = ma := ⟨_, rfl⟩
        obtain ⟨da, hda⟩ : ∃ da, deepK (n.kids.take i) = da := ⟨_, rfl⟩
        have hms : ma + manyN x ≤ 1000000 := by omega
        clear hms0 hms1 hms2
        have HXx := Lib.hid (And.intro hx (And.intro hi (And.intro (show 1 + manyK (n.kids.take (i + 1)) = ma + manyN x by omega) (show deepK (n.kids.take (i + 1)) = max da (deepN x) by omega))))
        rw [hma, hda]
        clear hx hi hkr hkk hc hxv e1 e2 hma hda
        obtain ⟨mn, hmn⟩ : ∃ mn, manyN x = mn := ⟨_, rfl⟩
        obtain ⟨dn, hdn⟩ : ∃ dn, deepN x = dn := ⟨_, rfl⟩
        rw [hmn] at hms
        obtain ⟨mx, hmx2⟩ : ∃ mx, max da dn = mx := ⟨_, rfl⟩
        have hmx3 : max (da : Int) (dn : Int) = (mx : Int) := by omega
        have HE := Lib.hid (And.intro hmn (And.intro hdn hmx2))
        clear hmx hdx hmn hdn hmx2
        go_wp2_with fail
        refine Calls.mono (HC.out _ (Fr.refl _ _)) ?_
        rintro e w3 ⟨rfl, hF3⟩
        rw [HE.out.1, HE.out.2.1]
        have HF3 := Lib.hid (HI.out.next hF3)
        clear hF3 x3 xl q0 q1 q2 q3
        go_wp2_with fail
        go_roundg (kn - (i + 1))
        case measure => have := HXx.out.2.1; omega
        case rel => exact ⟨_, rfl, i + 1, by have := HXx.out.2.1; omega, by go_num, by rw [HXx.out.2.2.1, HE.out.1]; go_num, by rw [HXx.out.2.2.2, HE.out.2.1, HE.out.2.2], HF3.out⟩
      · have hik : i = kn := by omega
        have htk : n.kids.take i = n.kids := by rw [hik, ← HL.out, List.take_length]
        rw [htk]
        obtain ⟨dk, hdk⟩ : ∃ dk, deepK n.kids = dk := ⟨_, rfl⟩
        have hdb : dk + 1 ≤ 1000000 := by have := HX.out.2.1; have := HX.out.2.2.2; omega
        have HE : Hid (RszPost n w (.returned (.tuple #[.int .i64 ((1 + manyK n.kids : Nat) : Int), .int .i64 ((dk : Int) + 1)])) W) := by
          refine ⟨?_, HFW.out.next HI.out⟩
          rw [HX.out.1, HX.out.2.1, hdk, Nat.add_comm 1]; simp
        rw [hdk]
        obtain ⟨mk, hmk⟩ : ∃ mk, 1 + manyK n.kids = mk := ⟨_, rfl⟩
        rw [hmk] at HE ⊢
        clear hi hik htk hdk hmk
        go_wp2_with fail
        go_ret2
        exact HE.out
end Go.Proofs.YtpinjgdnhbogoaaGreatDoor
