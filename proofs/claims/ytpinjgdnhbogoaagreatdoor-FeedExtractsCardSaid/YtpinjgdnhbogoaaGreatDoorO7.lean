/- The reference's stack of open elements in memory (no walk). -/
import Derived.Test.YtpinjgdnhbogoaaGreatDoorN8
import Derived.Test.YtpinjgdnhbogoaaGreatDoorNE
import Derived.Test.YtpinjgdnhbogoaaGreatDoorN5
import Derived.Test.YtpinjgdnhbogoaaGreatDoorM0
import Derived.Test.YtpinjgdnhbogoaaGreatDoorO2
import Derived.Test.YtpinjgdnhbogoaaGreatDoorNB
import Derived.BigQuiet
namespace Go.Proofs.YtpinjgdnhbogoaaGreatDoor
open Go.RowKit Go.Lib

/-- where what the nodes name may lie -/
def Far (A : Nat → Prop) (B : Nat) (w : World) (ov : Value) (k : Nat) : Prop := A k ∨ (B ≤ k ∧ k < w.heap.size ∧ ov.ownBlock ≠ some k)
/-- open elements (the innermost first) in a row of one's own, the outermost first -/
structure Stk (E : Nat → Prop) (B : Nat) (w : World) (ov : Value) (st : List NodeD) (xs : List Value) : Prop where
  row : w.ownsRow B 37 4 ov st.length xs
  kids : KidsV w (Far E B w ov) st.reverse xs
theorem Stk.nil (E : Nat → Prop) (B : Nat) (w : World) : Stk E B w (.slice none 0 0) [] [] := ⟨World.ownsRow_nil _ _ _ _, KidsV.nil.2 rfl⟩
theorem Stk.fr {E : Nat → Prop} {B : Nat} {w W : World} {ov : Value} {st : List NodeD} {xs : List Value} {o : Nat → Prop} (h : Stk E B w ov st xs) (hf : Fr o w W) (ho : ∀ k, o k → ¬ E k ∧ k < B) : Stk E B W ov st xs := by
  have h1 := hf.size
  refine ⟨ownsRow_keep h.row fun k hk => hf.block k (h.row.lt k hk).2 fun e => ?_, KidsV.mono (fun k hk => ?_) _ (KidsV.fr hf (fun k hk e => ?_) _ h.kids)⟩
  · have := (ho k e).2; have := (h.row.lt k hk).1; omega
  · rcases hk with hk | hk
    · exact .inl hk
    · exact .inr ⟨hk.1, by omega, hk.2.2⟩
  · have := ho k e
    rcases hk with hk | hk
    · exact this.1 hk
    · omega
theorem KidsV.split {w : World} {S : Nat → Prop} : ∀ {a b : List NodeD} {xs : List Value}, KidsV w S (a ++ b) xs → ∃ ys zs, xs = ys ++ zs ∧ KidsV w S a ys ∧ KidsV w S b zs
  | [], b, xs, h => ⟨[], xs, rfl, KidsV.nil.2 rfl, h⟩
  | k :: a, b, xs, h => by
    obtain ⟨ys, zs, rfl, h1, h2⟩ := KidsV.cons.1 (show KidsV w S (k :: (a ++ b)) xs from h)
    obtain ⟨us, vs, rfl, h3, h4⟩ := KidsV.split h2
    exact ⟨ys ++ us, vs, by rw [List.append_assoc], KidsV.cons.2 ⟨ys, us, rfl, h1, h3⟩, h4⟩
theorem KidsV.one1 {w : World} {S : Nat → Prop} {n : NodeD} {xs : List Value} : KidsV w S [n] xs ↔ NodeV w S n xs := by
  rw [KidsV.cons]
  constructor
  · rintro ⟨ys, zs, rfl, h1, h2⟩
    rw [KidsV.nil.1 h2, List.append_nil]; exact h1
  · exact fun h => ⟨xs, [], by rw [List.append_nil], h, KidsV.nil.2 rfl⟩
theorem KidsV.two {w : World} {S : Nat → Prop} {a b : List NodeD} {xs ys : List Value} (h1 : KidsV w S a xs) (h2 : KidsV w S b ys) : KidsV w S (a ++ b) (xs ++ ys) := by
  induction a generalizing xs with
  | nil => rw [KidsV.nil.1 h1]; exact h2
  | cons k a ih =>
    obtain ⟨us, vs, rfl, h3, h4⟩ := KidsV.cons.1 h1
    rw [List.append_assoc]
    exact KidsV.cons.2 ⟨us, vs ++ ys, rfl, h3, ih h4⟩
/-- the innermost one -/
theorem Stk.top {E : Nat → Prop} {B : Nat} {w : World} {ov : Value} {y : NodeD} {s : List NodeD} {xs : List Value} (h : Stk E B w ov (y :: s) xs) :
    ∃ g cap ys av kv zs, ov = .slice (some ⟨g, 0, none⟩) (s.length + 1) cap ∧ B ≤ g ∧ g < w.heap.size ∧ (∃ cur, w.heap[g]? = some (.cells cur 37 (0, 0))) ∧ s.length + 1 ≤ cap ∧ cap ≤ maxLen ∧ xs = ys ++ [.string (bs y.name), av, .string (bs y.text), kv] ∧ ys.length = s.length * 4 ∧
      KidsV w (Far E B w ov) s.reverse ys ∧ SRow w (Far E B w ov) 2 av y.attrs.length (acells y.attrs) ∧ SRow w (Far E B w ov) 4 kv y.kids.length zs ∧ KidsV w (Far E B w ov) y.kids zs ∧
      ∀ j u, xs[j]? = some u → w.cell? ⟨g, j, none⟩ = some u := by
  obtain ⟨g, cap, rfl, hg, hc, hm⟩ := ownsRow_form h.row (by simp)
  have hk := h.kids
  rw [List.reverse_cons] at hk
  obtain ⟨ys, zs, e, h1, h2⟩ := hk.split
  obtain ⟨av, kv, us, e2, h3, h4, h5⟩ := (KidsV.one1.1 h2).parts
  subst e2
  refine ⟨g, cap, ys, av, kv, us, rfl, hg, (h.row.lt g rfl).2, ownsRow_block h.row, hc, hm, e, by rw [h1.len, List.length_reverse], h1, h3, h4, h5, fun j u hj => ?_⟩
  obtain ⟨g2, off, e3, h6⟩ := (SRow.of_owns h.row).cell (by simp)
  have e4 : g2 = g ∧ off = 0 := by
    injection e3 with e3
    injection e3 with e5 e6
    exact ⟨e5.symm, e6.symm⟩
  obtain ⟨rfl, rfl⟩ := e4
  have := h6 j u hj
  rwa [Nat.zero_add] at this
theorem ownsRow_less {w : World} {B e n m cap g : Nat} {xs : List Value} (h : w.ownsRow B e 4 (.slice (some ⟨g, 0, none⟩) n cap) n xs) (hm : m ≤ n) : w.ownsRow B e 4 (.slice (some ⟨g, 0, none⟩) m cap) m (xs.take (m * 4)) := by
  obtain ⟨hl, h2⟩ := h
  refine ⟨by rw [List.length_take]; omega, ?_⟩
  rcases h2 with ⟨e1, _⟩ | ⟨g2, cap2, cur, e1, hB, hh, hc, hmx, hsz, ht⟩
  · cases e1
  · simp only [Value.slice.injEq, Option.some.injEq, Addr.mk.injEq] at e1
    obtain ⟨⟨rfl, _⟩, _, rfl⟩ := e1
    refine .inr ⟨g, cap, cur, rfl, hB, hh, by omega, hmx, hsz, ?_⟩
    rw [← ht, List.take_take]
    congr 1
    omega
/-- the innermost one taken off -/
theorem Stk.pop {E : Nat → Prop} {B g cap : Nat} {w : World} {y : NodeD} {s : List NodeD} {xs : List Value} (h : Stk E B w (.slice (some ⟨g, 0, none⟩) (s.length + 1) cap) (y :: s) xs) {ys zs : List Value} (e : xs = ys ++ zs) (hl : ys.length = s.length * 4) (hk : KidsV w (Far E B w (.slice (some ⟨g, 0, none⟩) (s.length + 1) cap)) s.reverse ys) :
    Stk E B w (.slice (some ⟨g, 0, none⟩) s.length cap) s ys := by
  refine ⟨?_, hk⟩
  have h1 := ownsRow_less h.row (m := s.length) (by simp)
  rw [e, List.take_left' hl] at h1
  exact h1
theorem ownsRow_put {w : World} {B e n cap g : Nat} {ys zs zs2 : List Value} (h : w.ownsRow B e 4 (.slice (some ⟨g, 0, none⟩) n cap) n (ys ++ zs)) (j : Nat) (v : Value) (he : zs2 = zs.set j v) : (w.setCell ⟨g, ys.length + j, none⟩ v).ownsRow B e 4 (.slice (some ⟨g, 0, none⟩) n cap) n (ys ++ zs2) := by
  obtain ⟨hl, h2⟩ := h
  have hz : (ys ++ zs2).length = (ys ++ zs).length := by rw [he]; simp
  refine ⟨by rw [hz]; exact hl, ?_⟩
  rcases h2 with ⟨e1, _⟩ | ⟨g2, cap2, cur, e1, hB, hh, hc, hmx, hsz, ht⟩
  · cases e1
  · simp only [Value.slice.injEq, Option.some.injEq, Addr.mk.injEq] at e1
    obtain ⟨⟨rfl, _⟩, _, rfl⟩ := e1
    refine .inr ⟨g, cap, cur.setIfInBounds (ys.length + j) v, rfl, hB, block_set hh _ v, hc, hmx, by rw [Array.size_setIfInBounds]; exact hsz, ?_⟩
    rw [he, Array.toList_setIfInBounds, List.take_set, ht, List.set_append_right _ _ (by omega), Nat.add_sub_cancel_left]
/-- one cell of the innermost one is stored -/
theorem Stk.put {E : Nat → Prop} {B g cap : Nat} {w W : World} {y y2 : NodeD} {s : List NodeD} {ys zs zs2 : List Value} {v : Value} (hEB : ∀ k, E k → k < B) (j : Nat) (h : Stk E B w (.slice (some ⟨g, 0, none⟩) (s.length + 1) cap) (y :: s) (ys ++ zs)) (hl : ys.length = s.length * 4)
    (hf : Fr (fun _ => False) w W) (hk : KidsV w (Far E B w (.slice (some ⟨g, 0, none⟩) (s.length + 1) cap)) s.reverse ys) (he : zs2 = zs.set j v) (hn : NodeV W (Far E B W (.slice (some ⟨g, 0, none⟩) (s.length + 1) cap)) y2 zs2) :
    Stk E B (W.setCell ⟨g, s.length * 4 + j, none⟩ v) (.slice (some ⟨g, 0, none⟩) (s.length + 1) cap) (y2 :: s) (ys ++ zs2) ∧ Fr (fun k => k = g) w (W.setCell ⟨g, s.length * 4 + j, none⟩ v) := by
  have hF := fr_set W g (s.length * 4 + j) v
  have hsz := hF.size
  have hfar : ∀ k, Far E B W (.slice (some ⟨g, 0, none⟩) (s.length + 1) cap) k → ¬ k = g ∨ E k := fun k hk => by
    rcases hk with hk | hk
    · exact .inr hk
    · exact .inl fun e => hk.2.2 (by rw [e]; rfl)
  have hB : B ≤ g := (h.row.lt g rfl).1
  have hmono : ∀ k, Far E B W (.slice (some ⟨g, 0, none⟩) (s.length + 1) cap) k → Far E B (W.setCell ⟨g, s.length * 4 + j, none⟩ v) (.slice (some ⟨g, 0, none⟩) (s.length + 1) cap) k := fun k hk => by
    rcases hk with hk | hk
    · exact .inl hk
    · exact .inr ⟨hk.1, by omega, hk.2.2⟩
  refine ⟨⟨?_, ?_⟩, ?_⟩
  · have h1 := ownsRow_put (ownsRow_fr h.row hf) j v he
    rw [hl] at h1
    exact h1
  · rw [List.reverse_cons]
    have hk2 : KidsV W (Far E B W (.slice (some ⟨g, 0, none⟩) (s.length + 1) cap)) s.reverse ys := KidsV.mono (fun k hk => by
      rcases hk with hk | hk
      · exact .inl hk
      · exact .inr ⟨hk.1, Nat.lt_of_lt_of_le hk.2.1 hf.size, hk.2.2⟩) _ (KidsV.fr hf (fun _ _ h => h) _ hk)
    refine KidsV.two (KidsV.mono hmono _ (KidsV.fr hF (fun k hk e => ?_) _ hk2)) (KidsV.one1.2 (NodeV.mono hmono _ (NodeV.fr hF (fun k hk e => ?_) _ hn)))
    · have e : k = g := e
      rcases hfar k hk with h | h
      · exact h e
      · have := hEB k h; omega
    · have e : k = g := e
      rcases hfar k hk with h | h
      · exact h e
      · have := hEB k h; omega
  · exact (hf.mono fun _ _ e => e.elim).next hF
/-- nodes named by a memory that stays, by a stack that lies in newer memory -/
theorem far_new {E : Nat → Prop} {B : Nat} {w W : World} {ov ov2 : Value} (hs : w.heap.size ≤ W.heap.size) (hn : ∀ k, ov2.ownBlock = some k → w.heap.size ≤ k) : ∀ k, Far E B w ov k → Far E B W ov2 k := fun k hk => by
  rcases hk with hk | hk
  · exact .inl hk
  · exact .inr ⟨hk.1, by omega, fun e => by have := hn k e; omega⟩
/-- the reference's Build behind i tokens -/
structure RB (l0 : List TokD) (w : World) (S : Nat → Prop) (i : Nat) (st : List NodeD) (dn : Option NodeD) (ov : Value) (xs : List Value) (d0 d1 d2 d3 : Value) (W : World) : Prop where
  eq : refB [] none l0 = refB st dn (l0.drop i)
  stk : Stk S (w.heap.size + 2) W ov st xs
  done : W.heap[w.heap.size + 1]? = some (.cells #[d0, d1, d2, d3] 37 (0, 0))
  shape : NShape d0 d1 d2 d3
  node : NodeV W (Far S (w.heap.size + 2) W ov) (dn.getD zeroD) [d0, d1, d2, d3]
  res : W.heap[w.heap.size]? = some (.cells zeroNode 37 (0, 0))
  fr : Fr (fun _ => False) w W
  txt : ∀ y ∈ st, y.text.length ≤ i * txM
  kid : ∀ y ∈ st, y.kids.length ≤ i
  deep : st.length ≤ 20
  low : ∀ k, S k → k < w.heap.size
section
variable {l0 : List TokD} {S : Nat → Prop} {w W W2 : World} {i : Nat} {st : List NodeD} {dn : Option NodeD} {ov : Value} {xs : List Value} {d0 d1 d2 d3 : Value} {t : TokD} {y z : NodeD} {s : List NodeD}
theorem RB.size (h : RB l0 w S i st dn ov xs d0 d1 d2 d3 W) : w.heap.size + 2 ≤ W.heap.size := lt_of_block h.done
theorem RB.fr2 (h : RB l0 w S i st dn ov xs d0 d1 d2 d3 W) (hf : Fr (fun _ => False) W W2) : RB l0 w S i st dn ov xs d0 d1 d2 d3 W2 where
  eq := h.eq
  stk := h.stk.fr hf fun _ e => e.elim
  done := hf.keep h.done fun e => e
  shape := h.shape
  node := NodeV.mono (fun k hk => by
    rcases hk with hk | hk
    · exact .inl hk
    · exact .inr ⟨hk.1, Nat.lt_of_lt_of_le hk.2.1 hf.size, hk.2.2⟩) _ (NodeV.fr hf (fun _ _ e => e) _ h.node)
  res := hf.keep h.res fun e => e
  fr := h.fr.next hf
  txt := h.txt
  kid := h.kid
  deep := h.deep
  low := h.low
theorem drop_at {α : Type} {l : List α} {i : Nat} {x : α} (h : l[i]? = some x) : l.drop i = x :: l.drop (i + 1) := by
  obtain ⟨hi, e⟩ := List.getElem?_eq_some_iff.1 h
  rw [List.drop_eq_getElem_cons hi, e]
theorem RB.tok (h : RB l0 w S i st dn ov xs d0 d1 d2 d3 W) (ht : l0[i]? = some t) : refB [] none l0 = refB st dn (t :: l0.drop (i + 1)) := by rw [h.eq, drop_at ht]
/-- an Open -/
theorem RB.push (h : RB l0 w S i st dn ov xs d0 d1 d2 d3 W) (ht : l0[i]? = some t) (hk : t.kind = 1) (h20 : st.length < 20) (h0 : st = [] → dn = none) (hf : Fr (fun _ => False) W W2) {n c : Nat} {b : Option Addr} {av : Value} (hn : st.length = n)
    (hr : W2.ownsRow W.heap.size 37 4 (.slice b (n + 1) c) (n + 1) (xs ++ [.string (bs t.name), av, .string ⟨#[]⟩, .slice none 0 0])) (ha : SRow w S 2 av t.attrs.length (acells t.attrs)) :
    RB l0 w S (i + 1) (.mk t.name t.attrs [] [] :: st) dn (.slice b (n + 1) c) (xs ++ [.string (bs t.name), av, .string ⟨#[]⟩, .slice none 0 0]) d0 d1 d2 d3 W2 := by
  subst hn
  obtain ⟨g, c', e, hg, _, _⟩ := ownsRow_form hr (Nat.succ_pos _)
  injection e with e _ _
  subst e
  have hsz := h.size
  have hfar := far_new (E := S) (B := w.heap.size + 2) (ov := ov) (ov2 := .slice (some ⟨g, 0, none⟩) (st.length + 1) c) hf.size (fun k e => by rw [← Option.some.inj e]; exact hg)
  have hfr : ∀ k, Far S (w.heap.size + 2) W ov k → ¬ (fun _ : Nat => False) k := fun _ _ e => e
  exact {
    eq := by
      rw [h.tok ht, refB_open hk, if_neg (by omega)]
      rw [if_neg]
      rintro hc
      rw [Bool.and_eq_true, List.isEmpty_iff] at hc
      rw [h0 hc.1] at hc
      cases hc.2
    stk := ⟨by rw [List.length_cons]; exact ownsRow_base hr hsz, by
      rw [List.reverse_cons]
      refine KidsV.two (KidsV.mono hfar _ (KidsV.fr hf hfr _ h.stk.kids)) (KidsV.one1.2 ?_)
      exact NodeV.intro (nm := t.name) (la := t.attrs) (tx := []) (ks := []) (xs := []) ((ha.fr (h.fr.next hf) fun _ _ e => e).mono fun k hk => .inl hk) (SRow.nil _ _ _) (KidsV.nil.2 rfl)⟩
    done := hf.keep h.done fun e => e
    shape := h.shape
    node := NodeV.mono hfar _ (NodeV.fr hf hfr _ h.node)
    res := hf.keep h.res fun e => e
    fr := h.fr.next hf
    txt := fun y hy => by
      rcases List.mem_cons.1 hy with rfl | hy
      · exact Nat.zero_le _
      · exact Nat.le_trans (h.txt y hy) (Nat.mul_le_mul_right _ (Nat.le_succ i))
    kid := fun y hy => by
      rcases List.mem_cons.1 hy with rfl | hy
      · exact Nat.zero_le _
      · exact Nat.le_trans (h.kid y hy) (Nat.le_succ i)
    deep := by rw [List.length_cons]; omega
    low := h.low }
/-- a Close of the outermost one -/
theorem RB.last {g cap : Nat} (h : RB l0 w S i [y] dn (.slice (some ⟨g, 0, none⟩) 1 cap) xs d0 d1 d2 d3 W) (ht : l0[i]? = some t) (hk : t.kind = 2) (hn : y.name = t.name) {c0 c1 c2 c3 : Value} (hf : Fr (fun _ => False) W W2) (hx : xs = [c0, c1, c2, c3]) (hs : NShape c0 c1 c2 c3) :
    RB l0 w S (i + 1) [] (some y) (.slice (some ⟨g, 0, none⟩) 0 cap) [] c0 c1 c2 c3 ((((W2.setCell ⟨w.heap.size + 1, 0, none⟩ c0).setCell ⟨w.heap.size + 1, 1, none⟩ c1).setCell ⟨w.heap.size + 1, 2, none⟩ c2).setCell ⟨w.heap.size + 1, 3, none⟩ c3) := by
  have h2 := h.fr2 hf
  have hF := fr_set4 W2 (w.heap.size + 1) c0 c1 c2 c3
  have hsz := hF.size
  have hk4 := h2.stk.kids
  rw [show [y].reverse = [y] from rfl, KidsV.one1, hx] at hk4
  have hpop : Stk S (w.heap.size + 2) W2 (.slice (some ⟨g, 0, none⟩) 0 cap) [] [] := Stk.pop (y := y) (s := []) (ys := []) (zs := xs) h2.stk rfl rfl (KidsV.nil.2 rfl)
  exact {
    eq := by rw [h.tok ht, refB_close1 hk, if_pos hn]; rfl
    stk := hpop.fr hF fun k e => by have e : k = w.heap.size + 1 := e; exact ⟨fun hk => by have := h.low k hk; omega, by omega⟩
    done := block_set4 h2.done
    shape := hs
    node := by
      refine NodeV.mono (fun k hk => ?_) _ (NodeV.fr hF (fun k hk e => ?_) y hk4)
      · rcases hk with hk | hk
        · exact .inl hk
        · exact .inr ⟨hk.1, Nat.lt_of_lt_of_le hk.2.1 hsz, hk.2.2⟩
      · have e : k = w.heap.size + 1 := e
        rcases hk with hk | hk
        · have := h.low k hk; omega
        · omega
    res := hF.keep h2.res (by show ¬ w.heap.size = w.heap.size + 1; omega)
    fr := h2.fr.trans hF fun k e => .inr (by have e : k = w.heap.size + 1 := e; omega)
    txt := fun _ hy => by cases hy
    kid := fun _ hy => by cases hy
    deep := Nat.zero_le _
    low := h.low }
/-- a Close of an inner one -/
theorem RB.close {g cap : Nat} {ys us : List Value} {av kv kv2 : Value} (h : RB l0 w S i (y :: z :: s) dn (.slice (some ⟨g, 0, none⟩) (s.length + 1 + 1) cap) xs d0 d1 d2 d3 W) (ht : l0[i]? = some t) (hk : t.kind = 2) (hn : y.name = t.name)
    {c0 c1 c2 c3 : Value} (hx : xs = (ys ++ [.string (bs z.name), av, .string (bs z.text), kv]) ++ [c0, c1, c2, c3]) (hl : ys.length = s.length * 4) (hf : Fr (fun _ => False) W W2)
    (hy : NodeV W (Far S (w.heap.size + 2) W (.slice (some ⟨g, 0, none⟩) (s.length + 1 + 1) cap)) y [c0, c1, c2, c3]) (hks : KidsV W (Far S (w.heap.size + 2) W (.slice (some ⟨g, 0, none⟩) (s.length + 1 + 1) cap)) s.reverse ys)
    (ha : SRow W (Far S (w.heap.size + 2) W (.slice (some ⟨g, 0, none⟩) (s.length + 1 + 1) cap)) 2 av z.attrs.length (acells z.attrs)) (hz : KidsV W (Far S (w.heap.size + 2) W (.slice (some ⟨g, 0, none⟩) (s.length + 1 + 1) cap)) z.kids us)
    {B : Nat} (hB : W.heap.size ≤ B) (hr : W2.ownsRow B 37 4 kv2 (z.kids.length + 1) (us ++ [c0, c1, c2, c3])) :
    RB l0 w S (i + 1) (z.addKid y :: s) dn (.slice (some ⟨g, 0, none⟩) (s.length + 1) cap) (ys ++ [.string (bs z.name), av, .string (bs z.text), kv2]) d0 d1 d2 d3 (W2.setCell ⟨g, s.length * 4 + 3, none⟩ kv2) := by
  have hgr : w.heap.size + 2 ≤ g ∧ g < W.heap.size := h.stk.row.lt g rfl
  have hsz2 := h.size
  -- the popped stack
  have hfe : ∀ k, Far S (w.heap.size + 2) W (.slice (some ⟨g, 0, none⟩) (s.length + 1 + 1) cap) k ↔ Far S (w.heap.size + 2) W (.slice (some ⟨g, 0, none⟩) (s.length + 1) cap) k := fun k => Iff.rfl
  have hkz : KidsV W (Far S (w.heap.size + 2) W (.slice (some ⟨g, 0, none⟩) (s.length + 1 + 1) cap)) (z :: s).reverse (ys ++ [.string (bs z.name), av, .string (bs z.text), kv]) := by
    have h1 := h.stk.kids
    rw [List.reverse_cons] at h1
    obtain ⟨p, q, e, k1, k2⟩ := h1.split
    have k3 := KidsV.one1.1 k2
    have e2 : p.length = (ys ++ [Value.string (bs z.name), av, .string (bs z.text), kv]).length := by
      have h3 := congrArg List.length e
      have h4 := k3.len
      rw [hx] at h3
      simp only [List.length_append, List.length_cons, List.length_nil] at h3 ⊢
      omega
    rw [hx] at e
    obtain ⟨e3, _⟩ := List.append_inj e e2.symm
    rw [e3]; exact k1
  have hpop : Stk S (w.heap.size + 2) W (.slice (some ⟨g, 0, none⟩) (s.length + 1) cap) (z :: s) (ys ++ [.string (bs z.name), av, .string (bs z.text), kv]) :=
    Stk.pop (y := y) (s := z :: s) (ys := ys ++ [.string (bs z.name), av, .string (bs z.text), kv]) (zs := [c0, c1, c2, c3]) h.stk hx (by rw [List.length_append, hl, List.length_cons]; simp only [List.length_cons, List.length_nil]; omega) hkz
  have hfm : ∀ k, Far S (w.heap.size + 2) W (.slice (some ⟨g, 0, none⟩) (s.length + 1 + 1) cap) k → Far S (w.heap.size + 2) W2 (.slice (some ⟨g, 0, none⟩) (s.length + 1) cap) k := fun k hk => by
    rcases hk with hk | hk
    · exact .inl hk
    · exact .inr ⟨hk.1, Nat.lt_of_lt_of_le hk.2.1 hf.size, hk.2.2⟩
  have hnode : NodeV W2 (Far S (w.heap.size + 2) W2 (.slice (some ⟨g, 0, none⟩) (s.length + 1) cap)) (z.addKid y) [.string (bs z.name), av, .string (bs z.text), kv2] := by
    obtain ⟨zn, za, zt, zk⟩ := z
    refine NodeV.intro (ks := zk ++ [y]) ((ha.fr hf fun _ _ e => e).mono hfm) (xs := us ++ [c0, c1, c2, c3]) ?_ (KidsV.two (KidsV.mono hfm _ (KidsV.fr hf (fun _ _ e => e) _ hz)) (KidsV.one1.2 (NodeV.mono hfm _ (NodeV.fr hf (fun _ _ e => e) _ hy))))
    have h3 := SRow.of_owns hr
    rw [List.length_append]
    refine h3.mono fun k hk => .inr ?_
    have h4 := hr.lt k hk
    exact ⟨by omega, h4.2, fun e => by have e : g = k := Option.some.inj e; omega⟩
  obtain ⟨hst, hF⟩ := Stk.put (y2 := z.addKid y) (fun k hk => by have := h.low k hk; omega) 3 hpop hl hf hks rfl hnode (zs2 := [.string (bs z.name), av, .string (bs z.text), kv2])
  have hFW : Fr (fun k => k = g) W2 (W2.setCell ⟨g, s.length * 4 + 3, none⟩ kv2) := fr_set _ _ _ _
  have hsw := hFW.size
  exact {
    eq := by rw [h.tok ht, refB_close1 hk, if_pos hn]; rfl
    stk := hst
    done := hF.keep h.done (by show ¬ _ = g; omega)
    shape := h.shape
    node := NodeV.mono (fun k hk => by
      rcases hk with hk | hk
      · exact .inl hk
      · exact .inr ⟨hk.1, Nat.lt_of_lt_of_le hk.2.1 hF.size, hk.2.2⟩) _ (NodeV.fr hF (fun k hk e => by
        have e : k = g := e
        rcases hk with hk | hk
        · have := h.low k hk; omega
        · exact hk.2.2 (by rw [e]; rfl)) _ h.node)
    res := hF.keep h.res (by show ¬ _ = g; omega)
    fr := h.fr.trans hF fun k e => .inr (by have e : k = g := e; omega)
    txt := fun x hx => by
      rcases List.mem_cons.1 hx with rfl | hx
      · have := h.txt z (by simp)
        obtain ⟨zn, za, zt, zk⟩ := z
        exact Nat.le_trans this (Nat.mul_le_mul_right _ (Nat.le_succ i))
      · exact Nat.le_trans (h.txt x (by simp [hx])) (Nat.mul_le_mul_right _ (Nat.le_succ i))
    kid := fun x hx => by
      rcases List.mem_cons.1 hx with rfl | hx
      · have := h.kid z (by simp)
        obtain ⟨zn, za, zt, zk⟩ := z
        show (zk ++ [y]).length ≤ i + 1
        rw [List.length_append]
        exact Nat.succ_le_succ this
      · exact Nat.le_trans (h.kid x (by simp [hx])) (Nat.le_succ i)
    deep := by have := h.deep; simp only [List.length_cons] at this ⊢; omega
    low := h.low }
/-- Words within an element -/
theorem RB.words {g cap : Nat} {ys us : List Value} {av kv : Value} (h : RB l0 w S i (y :: s) dn (.slice (some ⟨g, 0, none⟩) (s.length + 1) cap) xs d0 d1 d2 d3 W) (ht : l0[i]? = some t) (hk : t.kind = 3) (hT : t.text.length ≤ txM)
    (hx : xs = ys ++ [.string (bs y.name), av, .string (bs y.text), kv]) (hl : ys.length = s.length * 4) (hf : Fr (fun _ => False) W W2)
    (hks : KidsV W (Far S (w.heap.size + 2) W (.slice (some ⟨g, 0, none⟩) (s.length + 1) cap)) s.reverse ys)
    (ha : SRow W (Far S (w.heap.size + 2) W (.slice (some ⟨g, 0, none⟩) (s.length + 1) cap)) 2 av y.attrs.length (acells y.attrs))
    (hz1 : SRow W (Far S (w.heap.size + 2) W (.slice (some ⟨g, 0, none⟩) (s.length + 1) cap)) 4 kv y.kids.length us) (hz : KidsV W (Far S (w.heap.size + 2) W (.slice (some ⟨g, 0, none⟩) (s.length + 1) cap)) y.kids us) :
    RB l0 w S (i + 1) (y.addText t.text :: s) dn (.slice (some ⟨g, 0, none⟩) (s.length + 1) cap) (ys ++ [.string (bs y.name), av, .string (bs (y.text ++ t.text)), kv]) d0 d1 d2 d3 (W2.setCell ⟨g, s.length * 4 + 2, none⟩ (.string (bs (y.text ++ t.text)))) := by
  have hgr : w.heap.size + 2 ≤ g ∧ g < W.heap.size := h.stk.row.lt g rfl
  have hfm : ∀ k, Far S (w.heap.size + 2) W (.slice (some ⟨g, 0, none⟩) (s.length + 1) cap) k → Far S (w.heap.size + 2) W2 (.slice (some ⟨g, 0, none⟩) (s.length + 1) cap) k := fun k hk => by
    rcases hk with hk | hk
    · exact .inl hk
    · exact .inr ⟨hk.1, Nat.lt_of_lt_of_le hk.2.1 hf.size, hk.2.2⟩
  have hnode : NodeV W2 (Far S (w.heap.size + 2) W2 (.slice (some ⟨g, 0, none⟩) (s.length + 1) cap)) (y.addText t.text) [.string (bs y.name), av, .string (bs (y.text ++ t.text)), kv] := by
    obtain ⟨zn, za, zt, zk⟩ := y
    exact NodeV.intro ((ha.fr hf fun _ _ e => e).mono hfm) ((hz1.fr hf fun _ _ e => e).mono hfm) (KidsV.mono hfm _ (KidsV.fr hf (fun _ _ e => e) _ hz))
  have hstk := h.stk
  rw [hx] at hstk
  obtain ⟨hst, hF⟩ := Stk.put (y2 := y.addText t.text) (fun k hk => by have := h.low k hk; omega) 2 hstk hl hf hks rfl hnode (zs2 := [.string (bs y.name), av, .string (bs (y.text ++ t.text)), kv])
  exact {
    eq := by rw [h.tok ht, refB_words1 hk]
    stk := hst
    done := hF.keep h.done (by show ¬ _ = g; omega)
    shape := h.shape
    node := NodeV.mono (fun k hk => by
      rcases hk with hk | hk
      · exact .inl hk
      · exact .inr ⟨hk.1, Nat.lt_of_lt_of_le hk.2.1 hF.size, hk.2.2⟩) _ (NodeV.fr hF (fun k hk e => by
        have e : k = g := e
        rcases hk with hk | hk
        · have := h.low k hk; omega
        · exact hk.2.2 (by rw [e]; rfl)) _ h.node)
    res := hF.keep h.res (by show ¬ _ = g; omega)
    fr := h.fr.trans hF fun k e => .inr (by have e : k = g := e; omega)
    txt := fun x hx => by
      rcases List.mem_cons.1 hx with rfl | hx
      · have := h.txt y (by simp)
        obtain ⟨zn, za, zt, zk⟩ := y
        show (zt ++ t.text).length ≤ (i + 1) * txM
        have this : zt.length ≤ i * txM := this
        rw [List.length_append, Nat.succ_mul]; omega
      · exact Nat.le_trans (h.txt x (by simp [hx])) (Nat.mul_le_mul_right _ (Nat.le_succ i))
    kid := fun x hx => by
      rcases List.mem_cons.1 hx with rfl | hx
      · have := h.kid y (by simp)
        obtain ⟨zn, za, zt, zk⟩ := y
        exact Nat.le_trans this (Nat.le_succ i)
      · exact Nat.le_trans (h.kid x (by simp [hx])) (Nat.le_succ i)
    deep := h.deep
    low := h.low }
/-- blank Words outside of all elements -/
theorem RB.blank (h : RB l0 w S i [] dn ov xs d0 d1 d2 d3 W) (ht : l0[i]? = some t) (hk : t.kind = 3) (hb : t.text.all blankC = true) (hf : Fr (fun _ => False) W W2) : RB l0 w S (i + 1) [] dn ov xs d0 d1 d2 d3 W2 := by
  have h2 := h.fr2 hf
  exact { h2 with eq := by rw [h.tok ht, refB_words0 hk, if_pos hb], txt := fun _ hy => (by cases hy), kid := fun _ hy => (by cases hy) }
theorem RB.start (l0 : List TokD) (w : World) {S : Nat → Prop} (hS : ∀ k, S k → k < w.heap.size) : RB l0 w S 0 [] none (.slice none 0 0) [] (.string ⟨#[]⟩) (.slice none 0 0) (.string ⟨#[]⟩) (.slice none 0 0) ((w.alloc (.cells zeroNode 37)).alloc (.cells zeroNode 37)) where
  eq := rfl
  stk := Stk.nil _ _ _
  done := block_new_at (by simp)
  shape := ⟨_, _, _, _, _, _, _, _, rfl, rfl, rfl, rfl⟩
  node := NodeV.zero _ _
  res := block_old (block_new _ _) _
  fr := ((Fr.refl _ _).alloc _).alloc _
  txt := fun _ hy => by cases hy
  kid := fun _ hy => by cases hy
  deep := Nat.zero_le _
  low := hS
end
end Go.Proofs.YtpinjgdnhbogoaaGreatDoor

/- The reference's blanks and Build: walked. -/
namespace Go.Proofs.YtpinjgdnhbogoaaGreatDoor
open Go.RowKit Go.Lib

theorem all_snoc {s : Str} {k : Nat} (h : k < s.length) : (s.take (k + 1)).all blankC = ((s.take k).all blankC && blankC (s.getD k 0)) := by rw [List.take_add_one, List.getElem?_eq_getElem h, List.all_append, List.getD_eq_getElem?_getD, List.getElem?_eq_getElem h]; simp
set_option maxHeartbeats 4000000 in
theorem rblanksD_h {w : World} (s : Str) (hs : s.length ≤ 140737488355328) : Calls Tryz.prog 69 #[.string (bs s)] w fun e w' => e = .returned (.bool (s.all blankC)) ∧ w = w' := by
  have hsz : (bs s).size = s.length := rfl
  go_enter Tryz.func69, Tryz.ntmps69
  go_wp2_with fail
  go_loopg [3] s.length (fun j v3 wr => (∃ i : Nat, i + j = s.length ∧ v3 = .int .i64 i ∧ Hid ((s.take i).all blankC = true)) ∧ w = wr)
  case atStart => exact ⟨⟨0, by omega, rfl, rfl⟩, rfl⟩
  case round =>
    obtain ⟨⟨i, hi, rfl, HH⟩, rfl⟩ := hrel
    by_cases hlt : i < s.length
    · have hz : i < (bs s).size := hlt
      have hg := bs_at s i hz
      have hsn := all_snoc hlt
      obtain ⟨c, hc⟩ : ∃ c, s.getD i 0 = c := ⟨_, rfl⟩
      rw [hc] at hg hsn
      rw [HH.out, Bool.true_and] at hsn
      have HB := Lib.hid (tblank_h (w := w) c)
      have HK := Lib.hid hi
      clear hi
      cases hb : blankC c with
      | true =>
        rw [hb] at HB hsn
        have HN := Lib.hid hsn
        clear hb hsn hc
        go_wp2_with fail
        refine Calls.mono HB.out ?_
        rintro e w2 ⟨rfl, rfl⟩
        go_wp2_with fail
        go_roundg (s.length - (i + 1))
        case measure => have := HK.out; omega
        case rel => exact ⟨⟨i + 1, by have := HK.out; omega, by go_num, HN.out⟩, rfl⟩
      | false =>
        rw [hb] at HB hsn
        have HE := Lib.hid (show s.all blankC = false by
          rw [← List.take_append_drop (i + 1) s, List.all_append, hsn]; rfl)
        clear hb hsn hc
        go_wp2_with fail
        refine Calls.mono HB.out ?_
        rintro e w2 ⟨rfl, rfl⟩
        go_wp2_with fail
        go_ret
        exact ⟨by rw [HE.out] <;> rfl, rfl⟩
    · have hil : i = s.length := by omega
      have HE := Lib.hid (show s.all blankC = true by have h := HH.out; rw [hil, List.take_length] at h; exact h)
      clear hi hlt
      subst hil
      go_wp2_with fail
      go_ret
      exact ⟨by rw [HE.out] <;> rfl, rfl⟩
def RBuildPost (r : Except Int NodeD) (S : Nat → Prop) (w : World) (e : Ending) (w' : World) : Prop :=
  ∃ c0 c1 c2 c3, e = .returned (.tuple #[.agg #[c0, c1, c2, c3], .int .i64 (outE r)]) ∧ NShape c0 c1 c2 c3 ∧ Fr (fun _ => False) w w' ∧ NodeV w' (fun k => S k ∨ (w.heap.size ≤ k ∧ k < w'.heap.size)) (outN r) [c0, c1, c2, c3]
theorem rbuild_err {l : List TokD} {r : Except Int NodeD} {S : Nat → Prop} {w : World} {i : Nat} {st : List NodeD} {dn : Option NodeD} {ov : Value} {xs : List Value} {d0 d1 d2 d3 : Value} {W : World} {er : Int} (h : RB l w S i st dn ov xs d0 d1 d2 d3 W) (he : r = .error er) :
    RBuildPost r S w (.returned (.tuple #[.agg #[.string ⟨#[]⟩, .slice none 0 0, .string ⟨#[]⟩, .slice none 0 0], .int .i64 er])) ((((W.setCell ⟨w.heap.size, 0, none⟩ (.string ⟨#[]⟩)).setCell ⟨w.heap.size, 1, none⟩ (.slice none 0 0)).setCell ⟨w.heap.size, 2, none⟩ (.string ⟨#[]⟩)).setCell ⟨w.heap.size, 3, none⟩ (.slice none 0 0)) := by
  subst he
  exact ⟨_, _, _, _, rfl, ⟨_, _, _, _, _, _, _, _, rfl, rfl, rfl, rfl⟩, h.fr.trans (fr_set4 _ _ _ _ _ _) fun k e => .inr (by have e : k = w.heap.size := e; omega), NodeV.zero _ _⟩
theorem rbuild_ok {l : List TokD} {r : Except Int NodeD} {S : Nat → Prop} {w : World} {i : Nat} {st : List NodeD} {n : NodeD} {ov : Value} {xs : List Value} {d0 d1 d2 d3 : Value} {W : World} (h : RB l w S i st (some n) ov xs d0 d1 d2 d3 W) (he : r = .ok n) :
    RBuildPost r S w (.returned (.tuple #[.agg #[d0, d1, d2, d3], .int .i64 0])) ((((W.setCell ⟨w.heap.size, 0, none⟩ d0).setCell ⟨w.heap.size, 1, none⟩ d1).setCell ⟨w.heap.size, 2, none⟩ d2).setCell ⟨w.heap.size, 3, none⟩ d3) := by
  subst he
  have h4 := fr_set4 W w.heap.size d0 d1 d2 d3
  have hsz := h.size
  refine ⟨_, _, _, _, rfl, h.shape, h.fr.trans h4 fun k e => .inr (by have e : k = w.heap.size := e; omega), NodeV.mono (fun k hk => ?_) _ (NodeV.fr h4 (fun k hk e => ?_) _ h.node)⟩
  · rcases hk with hk | hk
    · exact .inl hk
    · exact .inr ⟨by omega, Nat.lt_of_lt_of_le hk.2.1 h4.size⟩
  · have e : k = w.heap.size := e
    rcases hk with hk | hk
    · have := h.low k hk; omega
    · omega
theorem info37b : (Tryz.prog.info? 37).map (fun i => (i.zero, i.size, i.bytes)) = some (some (.agg #[.string ⟨#[]⟩, .slice none 0 0, .string ⟨#[]⟩, .slice none 0 0]), 4, 80) := by kernel_rfl
end Go.Proofs.YtpinjgdnhbogoaaGreatDoor
