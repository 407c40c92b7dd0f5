/- The law's copy of a tree, while it is made: invariants (no walk). -/
import Derived.Test.YtpinjgdnhbogoaaGreatDoorN3
import Derived.Test.YtpinjgdnhbogoaaGreatDoorM0
namespace Go.Proofs.YtpinjgdnhbogoaaGreatDoor
open Go.RowKit Go.Lib

/-- kids in a row of one's own of type T, in blocks from nk on -/
def KidsE (T : TypeId) (nk : Nat) (w : World) (kv : Value) (ks : List NodeD) : Prop :=
  ∃ xs, w.ownsRow nk T 4 kv ks.length xs ∧ KidsV w (fun k => nk ≤ k ∧ k < w.heap.size ∧ kv.ownBlock ≠ some k) ks xs
theorem KidsE.nil (T : TypeId) (nk : Nat) (w : World) : KidsE T nk w (.slice none 0 0) [] := ⟨[], World.ownsRow_nil _ _ _ _, KidsV.nil.2 rfl⟩
theorem KidsE.fr {T : TypeId} {nk : Nat} {w w' : World} {kv : Value} {ks : List NodeD} {o : Nat → Prop} (h : KidsE T nk w kv ks) (hf : Fr o w w') (ho : ∀ k, o k → k < nk) : KidsE T nk w' kv ks := by
  obtain ⟨xs, h1, h2⟩ := h
  refine ⟨xs, ownsRow_keep h1 fun k hk => hf.block k (h1.lt k hk).2 fun e => ?_, KidsV.mono (fun k hk => ⟨hk.1, Nat.lt_of_lt_of_le hk.2.1 hf.size, hk.2.2⟩) ks (KidsV.fr hf (fun k hk e => ?_) ks h2)⟩
  · have := ho k e; have := (h1.lt k hk).1; omega
  · have := ho k e; omega
theorem KidsE.view {T : TypeId} {nk : Nat} {w : World} {kv : Value} {ks : List NodeD} (h : KidsE T nk w kv ks) : ∃ xs, SRow w (fun k => nk ≤ k ∧ k < w.heap.size) 4 kv ks.length xs ∧ KidsV w (fun k => nk ≤ k ∧ k < w.heap.size) ks xs := by
  obtain ⟨xs, h1, h2⟩ := h
  exact ⟨xs, (SRow.of_owns h1).mono fun k hk => h1.lt k hk, KidsV.mono (fun k hk => ⟨hk.1, hk.2.1⟩) ks h2⟩
/-- one more kid, which lies in blocks from B on -/
theorem KidsE.push {T : TypeId} {nk B : Nat} {w W w7 : World} {kv kv2 : Value} {ks : List NodeD} {xs cs : List Value} {n : NodeD} (h1 : w.ownsRow nk T 4 kv ks.length xs) (h2 : KidsV w (fun k => nk ≤ k ∧ k < w.heap.size ∧ kv.ownBlock ≠ some k) ks xs) {o : Nat → Prop} (hf : Fr o w W) (ho : ∀ k, o k → k < nk)
    (hn : NodeV W (fun k => B ≤ k ∧ k < W.heap.size) n cs) (hB : w.heap.size ≤ B) (hnb : nk ≤ B) (hg : W.grownBy w7 kv.ownBlock) (hat : kv2.ownBlock = kv.ownBlock ∨ kv2.ownBlock = some W.heap.size) (hr : w7.ownsRow nk T 4 kv2 (ks.length + 1) (xs ++ cs)) : KidsE T nk w7 kv2 (ks ++ [n]) := by
  have hlt : ∀ k, kv.ownBlock = some k → k < w.heap.size := fun k hk => (h1.lt k hk).2
  have hfg : Fr (fun k => kv.ownBlock = some k) W w7 := (Fr.refl _ _).grown hg fun k hk => .inl hk
  have hk1 : KidsV w7 (fun k => nk ≤ k ∧ k < w.heap.size ∧ kv.ownBlock ≠ some k) ks xs := KidsV.fr hfg (fun k hk => hk.2.2) ks (KidsV.fr hf (fun k hk e => by have := ho k e; omega) ks h2)
  have hn1 : NodeV w7 (fun k => B ≤ k ∧ k < W.heap.size) n cs := NodeV.fr hfg (fun k hk e => by have := hlt k e; omega) n hn
  have hsz := hf.size
  have hsz7 := hg.size
  refine ⟨xs ++ cs, by rw [List.length_append]; exact hr, KidsV.snoc (NodeV.mono (fun k hk => ⟨by omega, by omega, fun e => ?_⟩) n hn1) (KidsV.mono (fun k hk => ⟨hk.1, by omega, fun e => ?_⟩) ks hk1)⟩
  · rcases hat with h | h
    · rw [h] at e; have := hlt k e; omega
    · rw [h] at e; cases e; omega
  · rcases hat with h | h
    · rw [h] at e; exact hk.2.2 e
    · rw [h] at e; cases e; omega

/-! ### the copy -/
/-- its attributes are being copied -/
structure CpA (T E lt : TypeId) (lb nb : Nat) (n : NodeD) (left : Int) (w0 : World) (i : Nat) (av : Value) (W : World) : Prop where
  le : i ≤ n.attrs.length ∧ i ≤ 30
  cnt : W.heap[lb]? = some (.cells #[.int .i64 left] lt (0, 0))
  node : W.heap[nb]? = some (.cells #[.string (bs n.name), av, .string (bs n.text), .slice none 0 0] T (0, 0))
  row : W.ownsRow (w0.heap.size + 2) E 2 av i (acells (n.attrs.take i))
  fr : Fr (fun k => k = lb) w0 W
  pos : w0.heap.size + 2 ≤ nb ∧ nb < W.heap.size ∧ lb < w0.heap.size ∧ av.ownBlock ≠ some nb
theorem CpA.fr2 {T E lt : TypeId} {lb nb : Nat} {n : NodeD} {left : Int} {w0 W w2 : World} {i : Nat} {av : Value} (h : CpA T E lt lb nb n left w0 i av W) (hf : Fr (fun _ => False) W w2) : CpA T E lt lb nb n left w0 i av w2 where
  le := h.le
  cnt := hf.keep h.cnt (fun h => h)
  node := hf.keep h.node (fun h => h)
  row := ownsRow_fr h.row hf
  fr := h.fr.trans hf fun _ h => h.elim
  pos := ⟨h.pos.1, Nat.lt_of_lt_of_le h.pos.2.1 hf.size, h.pos.2.2⟩
theorem CpA.push {T E lt : TypeId} {lb nb : Nat} {n : NodeD} {left : Int} {w0 W W2 w7 : World} {i : Nat} {av av2 : Value} {p : Str × Str} (h : CpA T E lt lb nb n left w0 i av W) (hET : T ≠ E) (hx : n.attrs[i]? = some p) (hi : i < 30) (hF : Fr (fun _ => False) W W2)
    (hg : W2.grownBy w7 av.ownBlock) (hr : w7.ownsRow (w0.heap.size + 2) E 2 av2 (i + 1) (acells (n.attrs.take i) ++ acells [p])) :
    w7.heap[nb]? = some (.cells #[.string (bs n.name), av, .string (bs n.text), .slice none 0 0] T (0, 0)) ∧ CpA T E lt lb nb n left w0 (i + 1) av2 (w7.setCell ⟨nb, 1, none⟩ av2) := by
  have h2 := h.fr2 hF
  have hp := h2.pos
  have hlt : i < n.attrs.length := by rcases Nat.lt_or_ge i n.attrs.length with h | h; exact h; rw [List.getElem?_eq_none h] at hx; cases hx
  have htk : n.attrs.take (i + 1) = n.attrs.take i ++ [p] := by rw [List.take_add_one, hx]; rfl
  have hb7 := block_grown h2.node hg (fun e => hp.2.2.2 e.symm)
  have hne := own_ne hr hb7 hET
  have hc7 := block_grown h2.cnt hg (fun e => by have := (h2.row.lt _ e.symm).1; omega)
  refine ⟨hb7, { le := ⟨hlt, hi⟩, cnt := (block_set_ne (by omega)).trans hc7, node := block_set hb7 1 av2, row := ?_, fr := ?_, pos := ⟨hp.1, by have := hg.size; simp; omega, hp.2.2.1, fun e => hne e⟩ }⟩
  · rw [htk, ← acells_app]
    exact ownsRow_keep hr fun j hj => block_set_ne (fun e => hne (by rw [hj, e]))
  · exact Fr.setCell (p := ⟨nb, 1, none⟩) (h2.fr.grown hg fun j hj => .inr (by have := (h2.row.lt _ hj).1; omega)) (.inr (show w0.heap.size ≤ nb by omega)) _
/-- its kids are being copied -/
structure CpK (T lt : TypeId) (lb nb nk : Nat) (n : NodeD) (deep : Nat) (left0 : Int) (w0 : World) (i : Nat) (out : List NodeD) (left : Int) (av kv : Value) (W : World) : Prop where
  eq : cpK n.kids deep left0 = (out ++ (cpK (n.kids.drop i) deep left).1, (cpK (n.kids.drop i) deep left).2)
  le : i ≤ n.kids.length
  len : (out.length : Int) + left ≤ left0
  cnt : W.heap[lb]? = some (.cells #[.int .i64 left] lt (0, 0))
  node : W.heap[nb]? = some (.cells #[.string (bs n.name), av, .string (bs n.text), kv] T (0, 0))
  att : SRow W (fun k => w0.heap.size + 2 ≤ k ∧ k < nk ∧ k ≠ nb) 2 av (n.attrs.take 30).length (acells (n.attrs.take 30))
  kids : KidsE T nk W kv out
  fr : Fr (fun k => k = lb) w0 W
  pos : w0.heap.size + 2 ≤ nb ∧ nb < nk ∧ nk ≤ W.heap.size ∧ lb < w0.heap.size
theorem CpA.kids {T E lt : TypeId} {lb nb : Nat} {n : NodeD} {left : Int} {w0 W : World} {i : Nat} {av : Value} (h : CpA T E lt lb nb n left w0 i av W) (deep : Nat) (hi : ¬ (i < n.attrs.length ∧ i < 30)) : CpK T lt lb nb W.heap.size n deep left w0 0 [] left av (.slice none 0 0) W := by
  have hle := h.le
  have hp := h.pos
  have htk : n.attrs.take i = n.attrs.take 30 := by
    rcases Nat.lt_or_ge i 30 with h1 | h1
    · rw [List.take_of_length_le (by omega), List.take_of_length_le (by omega)]
    · rw [show i = 30 by omega]
  have hlen : (n.attrs.take 30).length = i := by rw [← htk, List.length_take]; omega
  have hr := SRow.of_owns h.row
  rw [htk] at hr
  exact { eq := by rw [List.drop_zero]; simp, le := Nat.zero_le _, len := by simp, cnt := h.cnt, node := h.node, att := by rw [hlen]; exact hr.mono fun k hk => ⟨(h.row.lt k hk).1, (h.row.lt k hk).2, fun e => hp.2.2.2 (by rw [hk, e])⟩, kids := KidsE.nil _ _ _, fr := h.fr, pos := ⟨hp.1, hp.2.1, Nat.le_refl _, hp.2.2.1⟩ }
theorem CpK.fr2 {T lt : TypeId} {lb nb nk : Nat} {n : NodeD} {deep : Nat} {left0 left : Int} {w0 W w2 : World} {i : Nat} {out : List NodeD} {av kv : Value} (h : CpK T lt lb nb nk n deep left0 w0 i out left av kv W) (hf : Fr (fun _ => False) W w2) : CpK T lt lb nb nk n deep left0 w0 i out left av kv w2 where
  eq := h.eq
  le := h.le
  len := h.len
  cnt := hf.keep h.cnt (fun h => h)
  node := hf.keep h.node (fun h => h)
  att := h.att.fr hf fun _ _ h => h
  kids := h.kids.fr hf fun _ h => h.elim
  fr := h.fr.trans hf fun _ h => h.elim
  pos := ⟨h.pos.1, h.pos.2.1, Nat.le_trans h.pos.2.2.1 hf.size, h.pos.2.2.2⟩
theorem cpK_at {ks : List NodeD} {i deep : Nat} {left : Int} {x : NodeD} (hx : ks[i]? = some x) (hd : 0 < deep) (hl : 0 < left) : cpK (ks.drop i) deep left = ((cpN x (deep - 1) left).1 :: (cpK (ks.drop (i + 1)) deep (cpN x (deep - 1) left).2).1, (cpK (ks.drop (i + 1)) deep (cpN x (deep - 1) left).2).2) := by
  have hlt : i < ks.length := by rcases Nat.lt_or_ge i ks.length with h | h; exact h; rw [List.getElem?_eq_none h] at hx; cases hx
  have e : ks.drop i = x :: ks.drop (i + 1) := by
    rw [List.drop_eq_getElem_cons hlt]
    rw [List.getElem?_eq_getElem hlt] at hx
    rw [Option.some.inj hx]
  rw [e, cpK_cons, if_pos ⟨hd, hl⟩]
mutual
theorem cpN_left : ∀ (n : NodeD) (deep : Nat) (left : Int), (cpN n deep left).2 < left
  | .mk nm la tx ks, deep, left => by
    rw [cpN_eq]
    have := cpK_left ks deep (left - 1)
    show (cpK ks deep (left - 1)).2 < left
    omega
theorem cpK_left : ∀ (ks : List NodeD) (deep : Nat) (left : Int), (cpK ks deep left).2 ≤ left
  | [], deep, left => by rw [cpK_nil]; exact Int.le_refl _
  | k :: ks, deep, left => by
    rw [cpK_cons]
    split
    · have h1 := cpN_left k (deep - 1) left
      have h2 := cpK_left ks deep (cpN k (deep - 1) left).2
      show (cpK ks deep (cpN k (deep - 1) left).2).2 ≤ left
      omega
    · exact Int.le_refl _
end
/-- a kid was copied -/
theorem CpK.kid {T lt : TypeId} {lb nb nk : Nat} {n : NodeD} {deep : Nat} {left0 left : Int} {w0 W w5 w6 w7 : World} {i : Nat} {out : List NodeD} {av kv kv7 : Value} {x : NodeD} {xs cs : List Value} (h : CpK T lt lb nb nk n deep left0 w0 i out left av kv W) (hx : n.kids[i]? = some x) (hd : 0 < deep) (hl : 0 < left)
    (hrow : W.ownsRow nk T 4 kv out.length xs) (hkids : KidsV W (fun k => nk ≤ k ∧ k < W.heap.size ∧ kv.ownBlock ≠ some k) out xs)
    (hf5 : Fr (fun k => k = lb) W w5) (hb5 : w5.heap[lb]? = some (.cells #[.int .i64 (cpN x (deep - 1) left).2] lt (0, 0)))
    (hn : NodeV w5 (fun k => W.heap.size ≤ k ∧ k < w5.heap.size) (cpN x (deep - 1) left).1 cs)
    (hf6 : Fr (fun _ => False) w5 w6) (hg : w6.grownBy w7 kv.ownBlock) (hat : kv7.ownBlock = kv.ownBlock ∨ kv7.ownBlock = some w6.heap.size) (hr : w7.ownsRow nk T 4 kv7 (out.length + 1) (xs ++ cs)) :
    w7.heap[nb]? = some (.cells #[.string (bs n.name), av, .string (bs n.text), kv] T (0, 0)) ∧ CpK T lt lb nb nk n deep left0 w0 (i + 1) (out ++ [(cpN x (deep - 1) left).1]) (cpN x (deep - 1) left).2 av kv7 (w7.setCell ⟨nb, 3, none⟩ kv7) := by
  have hp := h.pos
  have hlt : i < n.kids.length := by rcases Nat.lt_or_ge i n.kids.length with h | h; exact h; rw [List.getElem?_eq_none h] at hx; cases hx
  have h6 : Fr (fun k => k = lb) W w6 := hf5.trans hf6 fun _ h => h.elim
  have hs6 := h6.size
  have hs7 := hg.size
  have hkb : ∀ k, kv.ownBlock = some k → nk ≤ k ∧ k < W.heap.size := fun k hk => hrow.lt k hk
  have hf7 : Fr (fun k => k = lb ∨ kv.ownBlock = some k) W w7 := (h6.mono fun k _ e => .inl e).grown hg fun k e => .inl (.inr e)
  have hb7 : w7.heap[nb]? = some (.cells #[.string (bs n.name), av, .string (bs n.text), kv] T (0, 0)) := hf7.keep h.node (by rintro (e | e); omega; have := hkb nb e; omega)
  have hK : KidsE T nk w7 kv7 (out ++ [(cpN x (deep - 1) left).1]) := KidsE.push hrow hkids h6 (fun k e => by omega) (NodeV.mono (fun k hk => ⟨hk.1, Nat.lt_of_lt_of_le hk.2 hf6.size⟩) _ (NodeV.fr hf6 (fun _ _ h => h) _ hn)) (Nat.le_refl _) hp.2.2.1 hg hat hr
  have hfs : Fr (fun k => k = nb) w7 (w7.setCell ⟨nb, 3, none⟩ kv7) := fr_set _ _ _ _
  have hc7 : w7.heap[lb]? = some (.cells #[.int .i64 (cpN x (deep - 1) left).2] lt (0, 0)) := (Fr.refl (fun k => kv.ownBlock = some k) w6 |>.grown hg fun k e => .inl e).keep (hf6.keep hb5 (fun h => h)) (fun e => by have := hkb lb e; omega)
  have hle := cpN_left x (deep - 1) left
  refine ⟨hb7, {
    eq := by rw [h.eq, cpK_at hx hd hl]; simp
    le := hlt
    len := by have := h.len; rw [List.length_append, List.length_singleton]; omega
    cnt := hfs.keep hc7 (by omega)
    node := block_set hb7 3 _
    att := (h.att.fr hf7 fun k hk => by rintro (e | e); omega; have := hkb k e; omega).fr hfs fun k hk e => by omega
    kids := hK.fr hfs fun k e => by omega
    fr := Fr.setCell (p := ⟨nb, 3, none⟩) (h.fr.trans hf7 fun k e => by rcases e with e | e; exact .inl e; have := hkb k e; exact .inr (by omega)) (.inr (show w0.heap.size ≤ nb by omega)) _
    pos := ⟨hp.1, hp.2.1, by have := hfs.size; omega, hp.2.2.2⟩ }⟩
/-- the copy is whole -/
theorem CpK.done {T lt : TypeId} {lb nb nk : Nat} {n : NodeD} {deep : Nat} {left0 left : Int} {w0 W : World} {i : Nat} {out : List NodeD} {av kv : Value} (h : CpK T lt lb nb nk n deep (left0 - 1) w0 i out left av kv W) (hi : ¬ (i < n.kids.length ∧ 0 < deep ∧ 0 < left)) :
    (cpN n deep left0).2 = left ∧ NodeV W (fun k => w0.heap.size + 2 ≤ k ∧ k < W.heap.size) (cpN n deep left0).1 [.string (bs n.name), av, .string (bs n.text), kv] := by
  have hp := h.pos
  have hend : cpK (n.kids.drop i) deep left = ([], left) := by
    by_cases h1 : i < n.kids.length
    · exact cpK_stop _ fun h2 => hi ⟨h1, h2⟩
    · rw [List.drop_eq_nil_of_le (by omega)]; exact cpK_nil _ _
  have he := h.eq
  rw [hend, List.append_nil] at he
  obtain ⟨xs, h1, h2⟩ := h.kids.view
  have hV : NodeV W (fun k => w0.heap.size + 2 ≤ k ∧ k < W.heap.size) (.mk n.name (n.attrs.take 30) n.text out) [.string (bs n.name), av, .string (bs n.text), kv] :=
    NodeV.intro (h.att.mono fun k hk => by omega) (h1.mono fun k hk => by omega) (KidsV.mono (fun k hk => by omega) out h2)
  obtain ⟨nm, la, tx, ks⟩ := n
  rw [cpN_eq]
  simp only [NodeD.kids, NodeD.name, NodeD.attrs, NodeD.text] at he hV ⊢
  rw [he]
  exact ⟨rfl, hV⟩
end Go.Proofs.YtpinjgdnhbogoaaGreatDoor

/- Tokens that are gathered: invariants (no walk). -/
namespace Go.Proofs.YtpinjgdnhbogoaaGreatDoor
open Go.RowKit Go.Lib

/-- tokens in a row of one's own of type T from block B on; their attributes lie in blocks of A, or from B on -/
def TokO (T : TypeId) (B : Nat) (A : Nat → Prop) (w : World) (lv : Value) (l : List TokD) : Prop :=
  ∃ ps : List (TokD × Value), ps.map Prod.fst = l ∧ w.ownsRow B T 4 lv ps.length (tcells ps) ∧ ∀ p ∈ ps, SRow w (fun k => (A k ∧ k < B) ∨ (B ≤ k ∧ k < w.heap.size ∧ lv.ownBlock ≠ some k)) 2 p.2 p.1.attrs.length (acells p.1.attrs)
theorem TokO.nil (T : TypeId) (B : Nat) (A : Nat → Prop) (w : World) : TokO T B A w (.slice none 0 0) [] := ⟨[], rfl, World.ownsRow_nil _ _ _ _, fun _ h => by cases h⟩
theorem TokO.fr {T : TypeId} {B : Nat} {A : Nat → Prop} {w w' : World} {lv : Value} {l : List TokD} {o : Nat → Prop} (h : TokO T B A w lv l) (hf : Fr o w w') (ho : ∀ k, o k → k < B ∧ ¬ A k) : TokO T B A w' lv l := by
  obtain ⟨ps, h1, h2, h3⟩ := h
  refine ⟨ps, h1, ownsRow_keep h2 fun k hk => hf.block k (h2.lt k hk).2 fun e => ?_, fun p hp => ((h3 p hp).fr hf fun k hk e => ?_).mono fun k hk => ?_⟩
  · have := (ho k e).1; have := (h2.lt k hk).1; omega
  · have := ho k e
    rcases hk with hk | hk
    · exact this.2 hk.1
    · omega
  · rcases hk with hk | hk
    · exact .inl hk
    · exact .inr ⟨hk.1, Nat.lt_of_lt_of_le hk.2.1 hf.size, hk.2.2⟩
theorem TokO.view {T : TypeId} {B : Nat} {A : Nat → Prop} {w : World} {lv : Value} {l : List TokD} (h : TokO T B A w lv l) : TokV w (fun k => (A k ∧ k < B) ∨ (B ≤ k ∧ k < w.heap.size)) lv l := by
  obtain ⟨ps, h1, h2, h3⟩ := h
  refine ⟨ps, h1, (SRow.of_owns h2).mono fun k hk => .inr (h2.lt k hk), fun p hp => (h3 p hp).mono fun k hk => ?_⟩
  rcases hk with hk | hk
  · exact .inl hk
  · exact .inr ⟨hk.1, hk.2.1⟩
/-- some more tokens -/
theorem TokO.push {T : TypeId} {B : Nat} {A o : Nat → Prop} {w W w7 : World} {lv lv2 : Value} {ps qs : List (TokD × Value)} (h2 : w.ownsRow B T 4 lv ps.length (tcells ps))
    (h3 : ∀ p ∈ ps, SRow w (fun k => (A k ∧ k < B) ∨ (B ≤ k ∧ k < w.heap.size ∧ lv.ownBlock ≠ some k)) 2 p.2 p.1.attrs.length (acells p.1.attrs))
    (hf : Fr o w W) (ho : ∀ k, o k → k < B ∧ ¬ A k) (hq : ∀ q ∈ qs, SRow W (fun k => (A k ∧ k < B) ∨ (B ≤ k ∧ k < W.heap.size ∧ lv.ownBlock ≠ some k)) 2 q.2 q.1.attrs.length (acells q.1.attrs))
    (hg : W.grownBy w7 lv.ownBlock) (hat : lv2.ownBlock = lv.ownBlock ∨ lv2.ownBlock = some W.heap.size) (hr : w7.ownsRow B T 4 lv2 (ps.length + qs.length) (tcells ps ++ tcells qs)) : TokO T B A w7 lv2 (ps.map Prod.fst ++ qs.map Prod.fst) := by
  have hlt : ∀ k, lv.ownBlock = some k → B ≤ k ∧ k < w.heap.size := fun k hk => h2.lt k hk
  have hfg : Fr (fun k => lv.ownBlock = some k) W w7 := (Fr.refl _ _).grown hg fun k hk => .inl hk
  have hsz := hf.size
  have hsz7 := hg.size
  have key : ∀ {u : Value} {n : Nat} {xs : List Value}, SRow W (fun k => (A k ∧ k < B) ∨ (B ≤ k ∧ k < W.heap.size ∧ lv.ownBlock ≠ some k)) 2 u n xs → SRow w7 (fun k => (A k ∧ k < B) ∨ (B ≤ k ∧ k < w7.heap.size ∧ lv2.ownBlock ≠ some k)) 2 u n xs := by
    intro u n xs hu
    refine (hu.fr hfg fun k hk e => ?_).mono fun k hk => ?_
    · have := hlt k e
      rcases hk with hk | hk
      · omega
      · exact hk.2.2 e
    · rcases hk with hk | hk
      · exact .inl hk
      · refine .inr ⟨hk.1, by omega, fun e => ?_⟩
        rcases hat with h | h
        · rw [h] at e; exact hk.2.2 e
        · rw [h] at e; cases e; omega
  refine ⟨ps ++ qs, by rw [List.map_append], by rw [List.length_append, ← tcells_app]; exact hr, fun p hp => ?_⟩
  rcases List.mem_append.1 hp with hp | hp
  · refine key (((h3 p hp).fr hf fun k hk e => ?_).mono fun k hk => ?_)
    · have := ho k e
      rcases hk with hk | hk
      · exact this.2 hk.1
      · omega
    · rcases hk with hk | hk
      · exact .inl hk
      · exact .inr ⟨hk.1, by omega, hk.2.2⟩
  · exact key (hq p hp)
end Go.Proofs.YtpinjgdnhbogoaaGreatDoor
