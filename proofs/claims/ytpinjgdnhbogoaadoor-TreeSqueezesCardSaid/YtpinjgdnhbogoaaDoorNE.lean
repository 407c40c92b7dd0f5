/- All, Kid, Attr of an element. -/
import Derived.Test.YtpinjgdnhbogoaaDoorNC
namespace Go.Proofs.YtpinjgdnhbogoaaDoor
open Go.RowKit Go.Lib

def allN (n : NodeD) (nm : Str) : List NodeD := n.kids.filter fun k => k.name == nm
structure AllIn (S : Nat → Prop) (n : NodeD) (nm : Str) (w : World) (i : Nat) (v : Value) (W : World) : Prop where
  row : ∃ xs, W.ownsRow w.heap.size 28 4 v ((n.kids.take i).filter fun k => k.name == nm).length xs ∧ KidsV W S ((n.kids.take i).filter fun k => k.name == nm) xs
  fr : Fr (fun _ => False) w W
theorem AllIn.fr2 {S : Nat → Prop} {n : NodeD} {nm : Str} {w W W2 : World} {i : Nat} {v : Value} (h : AllIn S n nm w i v W) (hf : Fr (fun _ => False) W W2) : AllIn S n nm w i v W2 := by
  obtain ⟨⟨xs, h1, h2⟩, h3⟩ := h
  exact ⟨⟨xs, ownsRow_fr h1 hf, KidsV.fr hf (fun _ _ h => h) _ h2⟩, h3.next hf⟩
theorem AllIn.skip {S : Nat → Prop} {n x : NodeD} {nm : Str} {w W : World} {i : Nat} {v : Value} (h : AllIn S n nm w i v W) (hx : n.kids[i]? = some x) (hn : x.name ≠ nm) : AllIn S n nm w (i + 1) v W := by
  have e := all_take (nm := nm) hx
  rw [if_neg hn, List.append_nil] at e
  exact ⟨by rw [e]; exact h.row, h.fr⟩
theorem AllIn.take {S : Nat → Prop} {n x : NodeD} {nm : Str} {w W W2 w7 : World} {i : Nat} {v v7 : Value} {xs cs : List Value} (h : AllIn S n nm w i v W) (hx : n.kids[i]? = some x) (hn : x.name = nm) (hxs : KidsV W S ((n.kids.take i).filter fun k => k.name == nm) xs) (hcs : NodeV W S x cs) (hS : ∀ k, S k → k < w.heap.size) (hf : Fr (fun _ => False) W W2)
    (hb : ∀ k, v.ownBlock = some k → w.heap.size ≤ k) (hg : W2.grownBy w7 v.ownBlock) (hr : w7.ownsRow w.heap.size 28 4 v7 (((n.kids.take i).filter fun k => k.name == nm).length + 1) (xs ++ cs)) : AllIn S n nm w (i + 1) v7 w7 := by
  have e := all_take (nm := nm) hx
  rw [if_pos hn] at e
  have h7 : Fr (fun k => v.ownBlock = some k) W2 w7 := (Fr.refl _ _).grown hg fun k hk => .inl hk
  refine ⟨⟨xs ++ cs, ?_, ?_⟩, (h.fr.next hf).trans h7 fun k hk => .inr (hb k hk)⟩
  · rw [e, List.length_append]; exact hr
  · rw [e]
    exact KidsV.snoc (NodeV.fr h7 (fun k hk e => by have := hb k e; have := hS k hk; omega) x (NodeV.fr hf (fun _ _ h => h) x hcs)) (KidsV.fr h7 (fun k hk e => by have := hb k e; have := hS k hk; omega) _ (KidsV.fr hf (fun _ _ h => h) _ hxs))
def AllPost (S : Nat → Prop) (l : List NodeD) (w : World) (e : Ending) (w' : World) : Prop :=
  ∃ a c xs, e = .returned (.slice a l.length c) ∧ SRow w' (fun k => w.heap.size ≤ k ∧ k < w'.heap.size) 4 (.slice a l.length c) l.length xs ∧ KidsV w' S l xs ∧ Fr (fun _ => False) w w'
def hdN (l : List NodeD) : NodeD := match l with | [] => .mk [] [] [] [] | x :: _ => x
def KidPost (S : Nat → Prop) (l : List NodeD) (w : World) (e : Ending) (w' : World) : Prop :=
  ∃ a1 n1 p1 a3 n3 p3, e = .returned (.tuple #[.agg #[.string (bs (hdN l).name), .slice a1 n1 p1, .string (bs (hdN l).text), .slice a3 n3 p3], .bool (decide (0 < l.length))]) ∧ NodeV w' S (hdN l) [.string (bs (hdN l).name), .slice a1 n1 p1, .string (bs (hdN l).text), .slice a3 n3 p3] ∧ Fr (fun _ => False) w w'
theorem fr_set4b (w : World) (n : Nat) (a b c d : Value) : Fr (fun k => k = n) w ((((w.setCell ⟨n, 0, none⟩ a).setCell ⟨n, 1, none⟩ b).setCell ⟨n, 2, none⟩ c).setCell ⟨n, 3, none⟩ d) :=
  (((fr_set w n 0 a).next (fr_set _ n 1 b)).next (fr_set _ n 2 c)).next (fr_set _ n 3 d)
theorem block_set4b {w : World} {n : Nat} {x0 x1 x2 x3 a b c d : Value} {e : TypeId} {f : Nat × Nat} (h : w.heap[n]? = some (.cells #[x0, x1, x2, x3] e f)) : ((((w.setCell ⟨n, 0, none⟩ a).setCell ⟨n, 1, none⟩ b).setCell ⟨n, 2, none⟩ c).setCell ⟨n, 3, none⟩ d).heap[n]? = some (.cells #[a, b, c, d] e f) :=
  block_set (block_set (block_set (block_set h 0 a) 1 b) 2 c) 3 d
/-- Attr -/
def attrO (n : NodeD) (nm : Str) : Option Str := (n.attrs.find? fun a => a.1 == nm).map (·.2)
def AtPost (o : Option Str) (w : World) (e : Ending) (w' : World) : Prop := e = .returned (.tuple #[.string (bs (o.getD [])), .bool o.isSome]) ∧ Fr (fun _ => False) w w'
end Go.Proofs.YtpinjgdnhbogoaaDoor
