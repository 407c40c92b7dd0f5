/- Size: how many elements, and how many in one another. -/
import Derived.Test.YtpinjgdnhbogoaaGreatDoorN3
import Derived.Test.YtpinjgdnhbogoaaGreatDoorM0
import Derived.Laws.EntriesVeiled
import Derived.BigQuiet
namespace Go.Proofs.YtpinjgdnhbogoaaGreatDoor
open Go.RowKit Go.Lib

/-- one element of a row of elements, cell by cell -/
theorem kid_cells {w : World} {S : Nat → Prop} {g off i : Nat} {ks : List NodeD} {xs : List Value} {x : NodeD} (hc : ∀ i u, xs[i]? = some u → w.cell? ⟨g, off + i, none⟩ = some u) (hk : KidsV w S ks xs) (hx : ks[i]? = some x) :
    ∃ a1 n1 p1 a3 n3 p3, NodeV w S x [.string (bs x.name), .slice a1 n1 p1, .string (bs x.text), .slice a3 n3 p3] ∧ w.cell? ⟨g, off + i * 4, none⟩ = some (.string (bs x.name)) ∧ w.cell? ⟨g, off + i * 4 + 1, none⟩ = some (.slice a1 n1 p1) ∧ w.cell? ⟨g, off + i * 4 + 2, none⟩ = some (.string (bs x.text)) ∧ w.cell? ⟨g, off + i * 4 + 3, none⟩ = some (.slice a3 n3 p3) := by
  obtain ⟨ys, h1, h2⟩ := hk.at hx
  obtain ⟨av, kv, zs, rfl, ha, hb, _⟩ := h1.parts
  obtain ⟨-, a1, p1, rfl, -⟩ := id ha
  obtain ⟨-, a3, p3, rfl, -⟩ := id hb
  have c0 := hc _ _ (h2 0 _ rfl)
  have c1 := hc _ _ (h2 1 _ rfl)
  have c2 := hc _ _ (h2 2 _ rfl)
  have c3 := hc _ _ (h2 3 _ rfl)
  rw [Nat.add_zero] at c0
  rw [← Nat.add_assoc] at c1 c2 c3
  exact ⟨a1, _, p1, a3, _, p3, h1, c0, c1, c2, c3⟩
def szF (mb db wb : Nat) : Value := .func (.func 71) #[] #[.pointer (some ⟨mb, 0, none⟩), .pointer (some ⟨db, 0, none⟩), .pointer (some ⟨wb, 0, none⟩)]
def SzPost (mb db many best d : Nat) (n : NodeD) (w : World) (e : Ending) (w' : World) : Prop :=
  e = .returned (.tuple #[]) ∧ w'.heap[mb]? = some (.cells #[.int .i64 ((many + manyN n : Nat) : Int)] 3 (0, 0)) ∧ w'.heap[db]? = some (.cells #[.int .i64 ((deepTo best d n : Nat) : Int)] 3 (0, 0)) ∧ Fr (fun k => k = mb ∨ k = db) w w'
structure SzIn (mb db many best d : Nat) (n : NodeD) (w : World) (i : Nat) (W : World) : Prop where
  cm : W.heap[mb]? = some (.cells #[.int .i64 ((many + 1 + manyK (n.kids.take i) : Nat) : Int)] 3 (0, 0))
  cd : W.heap[db]? = some (.cells #[.int .i64 ((max (max best d) (d + deepK (n.kids.take i)) : Nat) : Int)] 3 (0, 0))
  fr : Fr (fun k => k = mb ∨ k = db) w W
theorem SzIn.next {mb db many best d : Nat} {n x : NodeD} {w W W2 w3 : World} {i : Nat} (h : SzIn mb db many best d n w i W) (hx : n.kids[i]? = some x) (hf : Fr (fun _ => False) W W2) {e : Ending}
    (hp : SzPost mb db (many + 1 + manyK (n.kids.take i)) (max (max best d) (d + deepK (n.kids.take i))) (d + 1) x W2 e w3) : SzIn mb db many best d n w (i + 1) w3 := by
  obtain ⟨_, h1, h2, h3⟩ := hp
  refine ⟨?_, ?_, (h.fr.trans hf fun _ h => h.elim).next h3⟩
  · rw [manyK_take hx, ← Nat.add_assoc]; exact h1
  · rw [← deepTo_kids best d n.kids i hx]; exact h2
end Go.Proofs.YtpinjgdnhbogoaaGreatDoor

/- All, Kid, Attr of an element. -/
namespace Go.Proofs.YtpinjgdnhbogoaaGreatDoor
open Go.RowKit Go.Lib

theorem info30b : (Tryz.prog.info? 30).map (fun i => (i.zero, i.size, i.bytes)) = some (some (.agg #[.string ⟨#[]⟩, .slice none 0 0, .string ⟨#[]⟩, .slice none 0 0]), 4, 80) := by kernel_rfl
theorem news_cells {w : World} {b : Nat} {vs : List Value} {e : TypeId} {f : Nat × Nat} (h : w.heap[b]? = some (.cells vs.toArray e f)) (S : Nat → Prop) (hS : S b) (n : Nat) (hl : vs.length = n * 4) (hn : n ≤ maxLen) : SRow w S 4 (.slice (some ⟨b, 0, none⟩) n n) n vs := SRow.of_block h hl hn hS
theorem str_eq_f {s t : Str} (h : s ≠ t) : decide (bs s = bs t) = false ∧ ((bs s).toList == (bs t).toList) = false := ⟨decide_eq_false fun e => h (bs_inj e), by rw [bs_eqv]; exact beq_eq_false_iff_ne.2 h⟩
def allN (n : NodeD) (nm : Str) : List NodeD := n.kids.filter fun k => k.name == nm
structure AllIn (S : Nat → Prop) (n : NodeD) (nm : Str) (w : World) (i : Nat) (v : Value) (W : World) : Prop where
  row : ∃ xs, W.ownsRow w.heap.size 30 4 v ((n.kids.take i).filter fun k => k.name == nm).length xs ∧ KidsV W S ((n.kids.take i).filter fun k => k.name == nm) xs
  fr : Fr (fun _ => False) w W
theorem AllIn.fr2 {S : Nat → Prop} {n : NodeD} {nm : Str} {w W W2 : World} {i : Nat} {v : Value} (h : AllIn S n nm w i v W) (hf : Fr (fun _ => False) W W2) : AllIn S n nm w i v W2 := by
  obtain ⟨⟨xs, h1, h2⟩, h3⟩ := h
  exact ⟨⟨xs, ownsRow_fr h1 hf, KidsV.fr hf (fun _ _ h => h) _ h2⟩, h3.next hf⟩
theorem AllIn.skip {S : Nat → Prop} {n x : NodeD} {nm : Str} {w W : World} {i : Nat} {v : Value} (h : AllIn S n nm w i v W) (hx : n.kids[i]? = some x) (hn : x.name ≠ nm) : AllIn S n nm w (i + 1) v W := by
  have e := all_take (nm := nm) hx
  rw [if_neg hn, List.append_nil] at e
  exact ⟨by rw [e]; exact h.row, h.fr⟩
theorem AllIn.take {S : Nat → Prop} {n x : NodeD} {nm : Str} {w W W2 w7 : World} {i : Nat} {v v7 : Value} {xs cs : List Value} (h : AllIn S n nm w i v W) (hx : n.kids[i]? = some x) (hn : x.name = nm) (hxs : KidsV W S ((n.kids.take i).filter fun k => k.name == nm) xs) (hcs : NodeV W S x cs) (hS : ∀ k, S k → k < w.heap.size) (hf : Fr (fun _ => False) W W2)
    (hb : ∀ k, v.ownBlock = some k → w.heap.size ≤ k) (hg : W2.grownBy w7 v.ownBlock) (hr : w7.ownsRow w.heap.size 30 4 v7 (((n.kids.take i).filter fun k => k.name == nm).length + 1) (xs ++ cs)) : AllIn S n nm w (i + 1) v7 w7 := by
  have e := all_take (nm := nm) hx
  rw [if_pos hn] at e
  have h7 : Fr (fun k => v.ownBlock = some k) W2 w7 := (Fr.refl _ _).grown hg fun k hk => .inl hk
  refine ⟨⟨xs ++ cs, ?_, ?_⟩, (h.fr.next hf).trans h7 fun k hk => .inr (hb k hk)⟩
  · rw [e, List.length_append]; exact hr
  · rw [e]
    exact KidsV.snoc (NodeV.fr h7 (fun k hk e => by have := hb k e; have := hS k hk; omega) x (NodeV.fr hf (fun _ _ h => h) x hcs)) (KidsV.fr h7 (fun k hk e => by have := hb k e; have := hS k hk; omega) _ (KidsV.fr hf (fun _ _ h => h) _ hxs))
def AllPost (S : Nat → Prop) (l : List NodeD) (w : World) (e : Ending) (w' : World) : Prop :=
  ∃ a c xs, e = .returned (.slice a l.length c) ∧ SRow w' (fun k => w.heap.size ≤ k ∧ k < w'.heap.size) 4 (.slice a l.length c) l.length xs ∧ KidsV w' S l xs ∧ Fr (fun _ => False) w w'
set_option maxRecDepth 100000 in
set_option maxHeartbeats 8000000 in
theorem all_h {w : World} {S : Nat → Prop} {n : NodeD} {c0 c1 c2 c3 : Value} (hn : NodeV w S n [c0, c1, c2, c3]) (hS : ∀ k, S k → k < w.heap.size) (hk : n.kids.length ≤ 1000000) (nm : Str) :
    Calls Tryz.prog 30 #[.agg #[c0, c1, c2, c3], .string (bs nm)] w (AllPost S (allN n nm) w) := by
  obtain ⟨i0, hi0, hz0, hz1, hz2⟩ := info_parts info30b
  obtain ⟨av, kv, xs, hcs, ha, hkr, hks⟩ := hn.parts
  simp only [List.cons.injEq, and_true] at hcs
  obtain ⟨rfl, rfl, rfl, rfl⟩ := hcs
  obtain ⟨-, a1, p1, rfl, -⟩ := id ha
  obtain ⟨-, a3, p3, rfl, -, -, -, -⟩ := id hkr
  obtain ⟨kn, hkn⟩ : ∃ kn, n.kids.length = kn := ⟨_, rfl⟩
  rw [hkn] at hkr hk ⊢
  have HK := Lib.hid (And.intro hkr hks)
  have HS := Lib.hid hS
  have HL := Lib.hid hkn
  have HB0 : Hid (AllIn S n nm w 0 (.slice none 0 0) (w.alloc (.cells #[.string (bs n.name), .slice a1 n.attrs.length p1, .string (bs n.text), .slice a3 kn p3] 30))) := ⟨⟨[], World.ownsRow_nil _ _ _ _, KidsV.nil.2 rfl⟩, (Fr.refl _ _).alloc _⟩
  clear hn ha hkr hks hS hkn
  go_enter Tryz.func30, Tryz.ntmps30
  go_wp2_with fail
  go_loopg [5, 11] kn (fun j v5 v11 w' => ∃ W v, W = w' ∧ v = v5 ∧ ∃ i : Nat, i + j = kn ∧ v11 = .int .i64 i ∧ Hid (AllIn S n nm w i v W))
  case atStart => exact ⟨_, _, rfl, rfl, 0, by omega, rfl, HB0.out⟩
  case round =>
    obtain ⟨W, v, rfl, rfl, i, hi, rfl, HI⟩ := hrel
    by_cases hlt : i < kn
    · obtain ⟨x, hx⟩ : ∃ x, n.kids[i]? = some x := ⟨_, List.getElem?_eq_getElem (by rw [HL.out]; exact hlt)⟩
      have hrw := HK.out.1.fr HI.out.fr fun _ _ h => h
      have hkk := KidsV.fr HI.out.fr (fun _ _ h => h) n.kids HK.out.2
      obtain ⟨g, off, rfl, hc⟩ := hrw.cell (by omega)
      obtain ⟨j1, j2, j3, j4, j5, j6, hxv, q0, q1, q2, q3⟩ := kid_cells hc hkk hx
      have HX := Lib.hid (And.intro hx (And.intro hi hxv))
      have hsz := HI.out.fr.size
      clear hx hi hrw hkk hc hxv
      by_cases hnm : x.name = nm
      · have t1 : ((bs x.name).toList == (bs nm).toList) = true := by rw [hnm]; simp
        have HN := Lib.hid hnm
        obtain ⟨xs2, ho2, hk2⟩ := HI.out.row
        have hfl : ((n.kids.take i).filter fun k => k.name == nm).length ≤ kn := Nat.le_trans (List.length_filter_le _ _) (by rw [List.length_take, HL.out]; omega)
        obtain ⟨fl, hfl2⟩ : ∃ fl, ((n.kids.take i).filter fun k => k.name == nm).length = fl := ⟨_, rfl⟩
        rw [hfl2] at hfl
        rw [hfl2] at ho2
        have HO := Lib.hid ho2
        have HK2 := Lib.hid (And.intro hk2 (And.intro hfl2 fun k hk => (ho2.lt k hk).1))
        obtain ⟨bv, cv, rfl⟩ := ownsRow_shape ho2
        have HF1 : Hid (Fr (fun _ => False) W ((W.alloc (.cells #[.string (bs x.name), .slice j1 j2 j3, .string (bs x.text), .slice j4 j5 j6] 30)).alloc (.cells #[.string (bs x.name), .slice j1 j2 j3, .string (bs x.text), .slice j4 j5 j6] 30))) := ((Fr.refl _ _).alloc _).alloc _
        clear hnm ho2 hk2 hfl2
        go_wp2_with (at_builtin; refine wpList_append_row rfl (.tmp 19) (.tmp 21) 28 rfl w.heap.size 30 i0 (.agg #[.string ⟨#[]⟩, .slice none 0 0, .string ⟨#[]⟩, .slice none 0 0]) 4 80 Tryz.underlying28 hi0 hz0 hz1 hz2 rfl (by decide) (.slice bv fl cv) fl xs2 rfl (ownsRow_fr HO.out HF1.out) (fun _ => True) _ 1 [.string (bs x.name), .slice j1 j2 j3, .string (bs x.text), .slice j4 j5 j6] rfl (news_cells (block_new_at (by simp)) _ trivial 1 rfl (by decide)) (by intro u hu; simp at hu; rcases hu with rfl | rfl | rfl | rfl <;> rfl) (by unfold maxLen; omega) (by omega) (by simp; omega) ?_; intro b7 cap7 w7 hown7 hgrow7 hfr7; have HN7 := Lib.hid (HI.out.take HX.out.1 HN.out HK2.out.1 HX.out.2.2 HS.out HF1.out HK2.out.2.2 hgrow7 (by rw [HK2.out.2.1]; exact hown7)); clear hown7 hgrow7 hfr7)
        go_roundg (kn - (i + 1))
        case measure => have := HX.out.2.1; omega
        case rel => exact ⟨_, _, rfl, rfl, i + 1, by have := HX.out.2.1; omega, by go_num, HN7.out⟩
      · have t := str_eq_f hnm
        have t1 := t.1
        have t2 := t.2
        have HN := Lib.hid (HI.out.skip HX.out.1 hnm)
        clear t hnm
        go_wp2_with fail
        go_roundg (kn - (i + 1))
        case measure => have := HX.out.2.1; omega
        case rel => exact ⟨_, _, rfl, rfl, i + 1, by have := HX.out.2.1; omega, by go_num, HN.out.fr2 ((Fr.refl _ _).alloc _)⟩
    · have hik : i = kn := by omega
      have htk : n.kids.take i = n.kids := by rw [hik, ← HL.out, List.take_length]
      obtain ⟨xs2, ho2, hk2⟩ := HI.out.row
      rw [htk] at ho2 hk2
      obtain ⟨bv, cv, rfl⟩ := ownsRow_shape ho2
      have HE : Hid (AllPost S (allN n nm) w (.returned (.slice bv (allN n nm).length cv)) W) := ⟨bv, cv, xs2, rfl, (SRow.of_owns ho2).mono fun k hk => ho2.lt k hk, hk2, HI.out.fr⟩
      clear hi hik htk ho2 hk2
      rw [show (n.kids.filter fun k => k.name == nm) = allN n nm from rfl]
      go_wp2_with fail
      go_ret
      exact HE.out
def hdN (l : List NodeD) : NodeD := match l with | [] => .mk [] [] [] [] | x :: _ => x
def KidPost (S : Nat → Prop) (l : List NodeD) (w : World) (e : Ending) (w' : World) : Prop :=
  ∃ a1 n1 p1 a3 n3 p3, e = .returned (.tuple #[.agg #[.string (bs (hdN l).name), .slice a1 n1 p1, .string (bs (hdN l).text), .slice a3 n3 p3], .bool (decide (0 < l.length))]) ∧ NodeV w' S (hdN l) [.string (bs (hdN l).name), .slice a1 n1 p1, .string (bs (hdN l).text), .slice a3 n3 p3] ∧ Fr (fun _ => False) w w'
theorem fr_set4b (w : World) (n : Nat) (a b c d : Value) : Fr (fun k => k = n) w ((((w.setCell ⟨n, 0, none⟩ a).setCell ⟨n, 1, none⟩ b).setCell ⟨n, 2, none⟩ c).setCell ⟨n, 3, none⟩ d) :=
  (((fr_set w n 0 a).next (fr_set _ n 1 b)).next (fr_set _ n 2 c)).next (fr_set _ n 3 d)
theorem block_set4b {w : World} {n : Nat} {x0 x1 x2 x3 a b c d : Value} {e : TypeId} {f : Nat × Nat} (h : w.heap[n]? = some (.cells #[x0, x1, x2, x3] e f)) : ((((w.setCell ⟨n, 0, none⟩ a).setCell ⟨n, 1, none⟩ b).setCell ⟨n, 2, none⟩ c).setCell ⟨n, 3, none⟩ d).heap[n]? = some (.cells #[a, b, c, d] e f) :=
  block_set (block_set (block_set (block_set h 0 a) 1 b) 2 c) 3 d
set_option maxRecDepth 100000 in
set_option maxHeartbeats 8000000 in
theorem kid_h {w : World} {S : Nat → Prop} {n : NodeD} {c0 c1 c2 c3 : Value} (hn : NodeV w S n [c0, c1, c2, c3]) (hS : ∀ k, S k → k < w.heap.size) (hk : n.kids.length ≤ 1000000) (nm : Str) :
    Calls Tryz.prog 31 #[.agg #[c0, c1, c2, c3], .string (bs nm)] w (KidPost S (allN n nm) w) := by
  have HAll := Lib.hid (fun (W : World) (hF : Fr (fun _ => False) w W) => all_h (NodeV.fr hF (fun _ _ h => h) n hn) (fun k h => Nat.lt_of_lt_of_le (hS k h) hF.size) hk nm)
  obtain ⟨av, kv, xs, hcs, ha, hkr, hks⟩ := hn.parts
  simp only [List.cons.injEq, and_true] at hcs
  obtain ⟨rfl, rfl, rfl, rfl⟩ := hcs
  obtain ⟨-, a1, p1, rfl, -⟩ := id ha
  obtain ⟨-, a3, p3, rfl, -, -, -, -⟩ := id hkr
  have HB0 := Lib.hid (block_new_at (w := w.alloc (.cells #[.string (bs n.name), .slice a1 n.attrs.length p1, .string (bs n.text), .slice a3 n.kids.length p3] 30)) (x := .cells #[.string ⟨#[]⟩, .slice none 0 0, .string ⟨#[]⟩, .slice none 0 0] 30) (n := w.heap.size + 1) (by simp))
  have HF0 : Hid (Fr (fun _ => False) w ((w.alloc (.cells #[.string (bs n.name), .slice a1 n.attrs.length p1, .string (bs n.text), .slice a3 n.kids.length p3] 30)).alloc (.cells #[.string ⟨#[]⟩, .slice none 0 0, .string ⟨#[]⟩, .slice none 0 0] 30))) := ((Fr.refl _ _).alloc _).alloc _
  have HS := Lib.hid hS
  clear hn ha hkr hks hk hS
  go_enter Tryz.func31, Tryz.ntmps31
  go_wp2_with fail
  refine Calls.mono (HAll.out _ HF0.out) ?_
  rintro e w2 ⟨a, c, xs2, rfl, hr, hv, hF⟩
  have hb2 := hF.keep HB0.out (fun h => h)
  have HB2 := Lib.hid hb2
  have HF2 := Lib.hid (HF0.out.next hF)
  have hlt2 := lt_of_block hb2
  have f0 := free_of 0 hb2
  have f1 := free_of 1 hb2
  have f2 := free_of 2 hb2
  have f3 := free_of 3 hb2
  have y0 := cell_of hb2 (i := 0) (v := .string ⟨#[]⟩) rfl
  have y1 := cell_of hb2 (i := 1) (v := .slice none 0 0) rfl
  have y2 := cell_of hb2 (i := 2) (v := .string ⟨#[]⟩) rfl
  have y3 := cell_of hb2 (i := 3) (v := .slice none 0 0) rfl
  have HV := Lib.hid (And.intro hr hv)
  cases hl : allN n nm with
  | nil =>
    rw [hl] at HV
    have hl0 : ([] : List NodeD).length = 0 := rfl
    rw [hl0]
    have HLl := Lib.hid hl
    clear hr hv hF hb2 hl0 hl
    go_wp2_with fail
    have hz := block_set4b (a := .string ⟨#[]⟩) (b := .slice none 0 0) (c := .string ⟨#[]⟩) (d := .slice none 0 0) HB2.out
    have e0 := cell_of hz (i := 0) (v := .string ⟨#[]⟩) rfl
    have e1 := cell_of hz (i := 1) (v := .slice none 0 0) rfl
    have e2 := cell_of hz (i := 2) (v := .string ⟨#[]⟩) rfl
    have e3 := cell_of hz (i := 3) (v := .slice none 0 0) rfl
    refine bodyPost_ret (v := .tuple #[.agg #[.string ⟨#[]⟩, .slice none 0 0, .string ⟨#[]⟩, .slice none 0 0], .bool false]) (by simp [results, Tryz.results31, go_sem, e0, e1, e2, e3] <;> rfl) rfl ?_
    show KidPost S (allN n nm) w _ _
    rw [HLl.out]
    exact ⟨_, _, _, _, _, _, rfl, NodeV.intro (nm := []) (tx := []) (la := []) (ks := []) (xs := []) (SRow.nil _ _ _) (SRow.nil _ _ _) (KidsV.nil.2 rfl), HF2.out.trans (fr_set4b _ _ _ _ _ _) fun k e => .inr (by omega)⟩
  | cons x l =>
    rw [hl] at HV
    obtain ⟨g, off, rfl, hc⟩ := HV.out.1.cell (by simp)
    obtain ⟨j1, j2, j3, j4, j5, j6, hxv, q0, q1, q2, q3⟩ := kid_cells (i := 0) hc HV.out.2 rfl
    simp only [Nat.zero_mul, Nat.add_zero] at q0 q1 q2 q3
    have HX := Lib.hid hxv
    have hpos : (0 : Int) < ((x :: l).length : Int) := by simp
    have hpos2 : 0 < (x :: l).length := by simp
    have HLl := Lib.hid hl
    clear hr hv hF hb2 hl hc hxv
    go_wp2_with fail
    have hz := block_set4b (a := .string (bs x.name)) (b := .slice j1 j2 j3) (c := .string (bs x.text)) (d := .slice j4 j5 j6) HB2.out
    have e0 := cell_of hz (i := 0) (v := .string (bs x.name)) rfl
    have e1 := cell_of hz (i := 1) (v := .slice j1 j2 j3) rfl
    have e2 := cell_of hz (i := 2) (v := .string (bs x.text)) rfl
    have e3 := cell_of hz (i := 3) (v := .slice j4 j5 j6) rfl
    refine bodyPost_ret (v := .tuple #[.agg #[.string (bs x.name), .slice j1 j2 j3, .string (bs x.text), .slice j4 j5 j6], .bool true]) (by simp [results, Tryz.results31, go_sem, e0, e1, e2, e3] <;> rfl) rfl ?_
    have hfs := fr_set4b w2 (w.heap.size + 1) (.string (bs x.name)) (.slice j1 j2 j3) (.string (bs x.text)) (.slice j4 j5 j6)
    show KidPost S (allN n nm) w _ _
    rw [HLl.out]
    exact ⟨_, _, _, _, _, _, rfl, NodeV.fr hfs (fun k hk e => by have := HS.out k hk; omega) x HX.out, HF2.out.trans hfs fun k e => .inr (by omega)⟩
/-- Attr -/
def attrO (n : NodeD) (nm : Str) : Option Str := (n.attrs.find? fun a => a.1 == nm).map (·.2)
def AtPost (o : Option Str) (w : World) (e : Ending) (w' : World) : Prop := e = .returned (.tuple #[.string (bs (o.getD [])), .bool o.isSome]) ∧ Fr (fun _ => False) w w'
theorem find_skip {α : Type} {p : α → Bool} {l : List α} {i : Nat} {x : α} (h : (l.take i).find? p = none) (hx : l[i]? = some x) (hp : p x = false) : (l.take (i + 1)).find? p = none := by
  rw [List.take_add_one, hx, List.find?_append, h]; simp [hp]
theorem find_here {α : Type} {p : α → Bool} {l : List α} {i : Nat} {x : α} (h : (l.take i).find? p = none) (hx : l[i]? = some x) (hp : p x = true) : l.find? p = some x := by
  have e : l = l.take (i + 1) ++ l.drop (i + 1) := (List.take_append_drop _ _).symm
  rw [e, List.find?_append, List.take_add_one, hx, List.find?_append, h]; simp [hp]
set_option maxRecDepth 100000 in
set_option maxHeartbeats 8000000 in
theorem attr_at_h {w : World} {S : Nat → Prop} {n : NodeD} {c0 c1 c2 c3 : Value} (hn : NodeV w S n [c0, c1, c2, c3]) (hk : n.attrs.length ≤ 1000000) (nm : Str) :
    Calls Tryz.prog 46 #[.agg #[c0, c1, c2, c3], .string (bs nm)] w (AtPost (attrO n nm) w) := by
  obtain ⟨av, kv, xs, hcs, ha, hkr, hks⟩ := hn.parts
  simp only [List.cons.injEq, and_true] at hcs
  obtain ⟨rfl, rfl, rfl, rfl⟩ := hcs
  obtain ⟨-, a1, p1, rfl, -⟩ := id ha
  obtain ⟨-, a3, p3, rfl, -, -, -, -⟩ := id hkr
  obtain ⟨kn, hkn⟩ : ∃ kn, n.attrs.length = kn := ⟨_, rfl⟩
  rw [hkn] at ha hk ⊢
  have HA := Lib.hid ha
  have HL := Lib.hid hkn
  have HF0 : Hid (Fr (fun _ => False) w (w.alloc (.cells #[.string (bs n.name), .slice a1 kn p1, .string (bs n.text), .slice a3 n.kids.length p3] 30))) := (Fr.refl _ _).alloc _
  clear hn ha hkr hks hkn
  go_enter Tryz.func46, Tryz.ntmps46
  go_wp2_with fail
  go_loopg [11] kn (fun j v11 w' => ∃ W, W = w' ∧ ∃ i : Nat, i + j = kn ∧ v11 = .int .i64 i ∧ Hid ((n.attrs.take i).find? (fun a => a.1 == nm) = none ∧ Fr (fun _ => False) w W))
  case atStart => exact ⟨_, rfl, 0, by omega, rfl, by simp, HF0.out⟩
  case round =>
    obtain ⟨W, rfl, i, hi, rfl, HI⟩ := hrel
    by_cases hlt : i < kn
    · obtain ⟨x, hx⟩ : ∃ x, n.attrs[i]? = some x := ⟨_, List.getElem?_eq_getElem (by rw [HL.out]; exact hlt)⟩
      have hrw := HA.out.fr HI.out.2 fun _ _ h => h
      obtain ⟨g, off, rfl, hc⟩ := hrw.cell (by omega)
      obtain ⟨m0, m1⟩ := acells_at hx
      have q0 := hc _ _ m0
      have q1 := hc _ _ m1
      rw [← Nat.add_assoc] at q1
      have HX := Lib.hid (And.intro hx hi)
      have HFA : Hid (Fr (fun _ => False) w (W.alloc (.cells #[.string (bs x.1), .string (bs x.2)] 64))) := HI.out.2.alloc _
      clear hx hi hrw hc m0 m1
      by_cases hnm : x.1 = nm
      · have t1 : ((bs x.1).toList == (bs nm).toList) = true := by rw [hnm]; simp
        have HE : Hid (attrO n nm = some x.2) := by
          show (n.attrs.find? fun a => a.1 == nm).map (·.2) = some x.2
          rw [find_here HI.out.1 HX.out.1 (by simp [hnm])]; rfl
        clear hnm
        go_wp2_with fail
        go_ret2
        exact ⟨by rw [HE.out] <;> rfl, HFA.out⟩
      · have t := str_eq_f hnm
        have t1 := t.1
        have t2 := t.2
        have HN := Lib.hid (find_skip HI.out.1 HX.out.1 (by simp [hnm]))
        clear t hnm
        go_wp2_with fail
        go_roundg (kn - (i + 1))
        case measure => have := HX.out.2; omega
        case rel => exact ⟨_, rfl, i + 1, by have := HX.out.2; omega, by go_num, HN.out, HFA.out⟩
    · have hik : i = kn := by omega
      have htk : n.attrs.take i = n.attrs := by rw [hik, ← HL.out, List.take_length]
      have h1 := HI.out.1
      rw [htk] at h1
      have HE : Hid (attrO n nm = none) := by show (n.attrs.find? fun a => a.1 == nm).map (·.2) = none; rw [h1]; rfl
      clear hi hik htk h1
      go_wp2_with fail
      go_ret2
      exact ⟨by rw [HE.out] <;> rfl, HI.out.2⟩
end Go.Proofs.YtpinjgdnhbogoaaGreatDoor
