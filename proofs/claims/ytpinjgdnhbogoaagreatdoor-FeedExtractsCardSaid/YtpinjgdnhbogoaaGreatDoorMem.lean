/- Memory: what is left as it was by a call that owns some blocks; blocks behind a store; a list in a block of cells. -/
import Derived.WalkKit
import Derived.Lib.Hide
import Derived.Deep.Draws
import Derived.Maps.AppendAt
namespace Go.Proofs.YtpinjgdnhbogoaaGreatDoor
open Go.RowKit Go.Lib

/-- w' is w, but for the blocks of 'own' and for new ones. -/
structure Fr (own : Nat → Prop) (w w' : World) : Prop where
  os : w'.os = w.os
  tape : w'.tape = w.tape
  output : w'.output = w.output
  size : w.heap.size ≤ w'.heap.size
  block : ∀ k, k < w.heap.size → ¬ own k → w'.heap[k]? = w.heap[k]?

theorem Fr.refl (own : Nat → Prop) (w : World) : Fr own w w := ⟨rfl, rfl, rfl, Nat.le_refl _, fun _ _ _ => rfl⟩
theorem Fr.trans {o1 o2 : Nat → Prop} {a b c : World} (h : Fr o1 a b) (k : Fr o2 b c) (ho : ∀ i, o2 i → o1 i ∨ a.heap.size ≤ i) : Fr o1 a c :=
  ⟨k.os.trans h.os, k.tape.trans h.tape, k.output.trans h.output, Nat.le_trans h.size k.size, fun i hi hn =>
    (k.block i (Nat.lt_of_lt_of_le hi h.size) (fun h2 => by rcases ho i h2 with h3 | h3; exact hn h3; omega)).trans (h.block i hi hn)⟩
theorem Fr.next {o : Nat → Prop} {a b c : World} (h : Fr o a b) (k : Fr o b c) : Fr o a c := h.trans k fun _ h => .inl h
theorem Fr.mono {o1 o2 : Nat → Prop} {a b : World} (h : Fr o1 a b) (ho : ∀ i, i < a.heap.size → o1 i → o2 i) : Fr o2 a b :=
  ⟨h.os, h.tape, h.output, h.size, fun k hk hn => h.block k hk fun h1 => hn (ho k hk h1)⟩
theorem Fr.of_heap {o : Nat → Prop} {a b c : World} (h : Fr o a b) (h1 : c.heap = b.heap) (h2 : c.os = b.os) (h3 : c.tape = b.tape) (h4 : c.output = b.output) : Fr o a c :=
  ⟨h2.trans h.os, h3.trans h.tape, h4.trans h.output, by rw [h1]; exact h.size, fun k hk hn => by rw [h1]; exact h.block k hk hn⟩
theorem Fr.drew {o : Nat → Prop} {a b : World} (h : Fr o a b) : Fr o a b.drew := h.of_heap rfl rfl rfl rfl
theorem Fr.drewN {o : Nat → Prop} {a b : World} (h : Fr o a b) (n : Nat) : Fr o a (b.drewN n) := h.of_heap rfl rfl rfl rfl
theorem Fr.of_start {o : Nat → Prop} {a b : World} {n : Nat} (h : Fr o (a.drewN n) b) : Fr o a b := ⟨h.os, h.tape, h.output, h.size, h.block⟩
theorem Fr.start {o : Nat → Prop} {a a' b : World} (h : Fr o a' b) (h1 : a'.heap = a.heap) (h2 : a'.os = a.os) (h3 : a'.tape = a.tape) (h4 : a'.output = a.output) : Fr o a b :=
  ⟨h.os.trans h2, h.tape.trans h3, h.output.trans h4, by rw [← h1]; exact h.size, by rw [← h1]; exact h.block⟩
theorem Fr.setCell {o : Nat → Prop} {a b : World} (h : Fr o a b) {p : Addr} (hp : o p.block ∨ a.heap.size ≤ p.block) (u : Value) : Fr o a (b.setCell p u) :=
  ⟨h.os, h.tape, h.output, by simpa using h.size, fun k hk hn => by
    rw [Below.heap_setCell b p u k (fun e => by rcases hp with h1 | h1; exact hn (e ▸ h1); omega)]; exact h.block k hk hn⟩
theorem Fr.alloc {o : Nat → Prop} {a b : World} (h : Fr o a b) (x : Obj) : Fr o a (b.alloc x) :=
  ⟨h.os, h.tape, h.output, by have := h.size; simp; omega, fun k hk hn => by
    rw [Below.heap_alloc b x k (by have := h.size; omega)]; exact h.block k hk hn⟩
theorem Fr.grown {o : Nat → Prop} {a b c : World} {row : Option Nat} (h : Fr o a b) (hg : b.grownBy c row) (hr : ∀ k, row = some k → o k ∨ a.heap.size ≤ k) : Fr o a c :=
  ⟨hg.os.trans h.os, hg.tape.trans h.tape, hg.output.trans h.output, Nat.le_trans h.size hg.size, fun k hk hn =>
    (hg.block k (by have := h.size; omega) (fun e => by rcases hr k e.symm with h1 | h1; exact hn h1; omega)).trans (h.block k hk hn)⟩
theorem Fr.below {o : Nat → Prop} {a b : World} (h : Fr o a b) {B : Nat} (hB : B ≤ a.heap.size) (ho : ∀ k, o k → B ≤ k) : Below B a b :=
  ⟨h.os, h.tape, h.output, h.size, fun k hk => h.block k (by omega) fun h1 => by have := ho k h1; omega⟩
theorem Fr.of_below {a b : World} {B : Nat} (h : Below B a b) : Fr (fun k => B ≤ k) a b :=
  ⟨h.os, h.tape, h.output, h.size, fun k _ hn => h.block k (by omega)⟩
theorem Fr.cell {o : Nat → Prop} {a b : World} (h : Fr o a b) {p : Addr} {v : Value} (hc : a.cell? p = some v) (hp : ¬ o p.block) : b.cell? p = some v :=
  (World.cell?_of_block (h.block p.block (World.block_lt_of_cell? a p hc) hp)).trans hc
/-- a block that was there, and is not of 'own', is there as it was -/
theorem Fr.keep {o : Nat → Prop} {a b : World} (h : Fr o a b) {k : Nat} {x : Obj} (hb : a.heap[k]? = some x) (hk : ¬ o k) : b.heap[k]? = some x :=
  (h.block k (lt_of_block hb) hk).trans hb

/-! ### blocks -/
theorem cell_of {w : World} {b i : Nat} {c : Array Value} {e : TypeId} {f : Nat × Nat} (h : w.heap[b]? = some (.cells c e f)) {v : Value} (hi : c[i]? = some v) : w.cell? ⟨b, i, none⟩ = some v := by
  simp [World.cell?, h, hi]
theorem free_of {w : World} {b : Nat} (i : Nat) {c : Array Value} {e : TypeId} (h : w.heap[b]? = some (.cells c e (0, 0))) : w.frozen? ⟨b, i, none⟩ = false := by
  simp [World.frozen?, h]
theorem block_set {w : World} {b : Nat} {c : Array Value} {e : TypeId} {f : Nat × Nat} (h : w.heap[b]? = some (.cells c e f)) (i : Nat) (v : Value) :
    (w.setCell ⟨b, i, none⟩ v).heap[b]? = some (.cells (c.setIfInBounds i v) e f) := by
  have hlt := lt_of_block h
  have h' : w.heap[b] = .cells c e f := by simpa [Array.getElem?_eq_getElem hlt] using h
  show (w.heap.modify b _)[b]? = _
  rw [Array.getElem?_eq_getElem (by simpa using hlt), Array.getElem_modify_self, h']
  rfl
theorem block_set_ne {w : World} {k b i : Nat} (h : k ≠ b) {v : Value} : (w.setCell ⟨b, i, none⟩ v).heap[k]? = w.heap[k]? := Below.heap_setCell w _ v k h
theorem block_new (w : World) (x : Obj) : (w.alloc x).heap[w.heap.size]? = some x := heap_alloc_new w x
theorem block_new_at {w : World} {x : Obj} {n : Nat} (h : n = w.heap.size) : (w.alloc x).heap[n]? = some x := by rw [h]; exact block_new w x
theorem block_grown {w w' : World} {row : Option Nat} {k : Nat} {x : Obj} (h : w.heap[k]? = some x) (hg : w.grownBy w' row) (hk : some k ≠ row) : w'.heap[k]? = some x := (hg.block k (lt_of_block h) hk).trans h
theorem block_old {w : World} {k : Nat} {y : Obj} (h : w.heap[k]? = some y) (x : Obj) : (w.alloc x).heap[k]? = some y :=
  (Below.heap_alloc w x k (lt_of_block h)).trans h
theorem ne_of_obj {w : World} {a b : Nat} {x y : Obj} (ha : w.heap[a]? = some x) (hb : w.heap[b]? = some y) (h : x ≠ y) : a ≠ b := by
  rintro rfl; rw [ha] at hb; exact h (Option.some.inj hb)
/-- two blocks of cells of other types -/
theorem ne_of_elem {w : World} {a b : Nat} {c c' : Array Value} {e e' : TypeId} {f f' : Nat × Nat} (ha : w.heap[a]? = some (.cells c e f)) (hb : w.heap[b]? = some (.cells c' e' f')) (h : e ≠ e') : a ≠ b :=
  ne_of_obj ha hb (by intro e; injection e; contradiction)

/-! ### a row that is owned, stored into -/
theorem ownsRow_block {w : World} {base e size g n cap : Nat} {xs : List Value} (h : w.ownsRow base e size (.slice (some ⟨g, 0, none⟩) n cap) n xs) : ∃ cur, w.heap[g]? = some (.cells cur e (0, 0)) := by
  rcases h.2 with ⟨h2, _⟩ | ⟨g', cap', cur, hv, hg, hh, _⟩
  · simp at h2
  · simp only [Value.slice.injEq, Option.some.injEq, Addr.mk.injEq, and_true] at hv
    obtain ⟨rfl, -, rfl⟩ := hv
    exact ⟨cur, hh⟩
/-- a row that is not empty lies at the head of a block -/
theorem ownsRow_form {w : World} {base e size n : Nat} {v : Value} {xs : List Value} (h : w.ownsRow base e size v n xs) (hn : 0 < n) : ∃ g cap, v = .slice (some ⟨g, 0, none⟩) n cap ∧ base ≤ g ∧ n ≤ cap ∧ cap ≤ maxLen := by
  rcases h.2 with ⟨_, h2⟩ | ⟨g, cap, cur, hv, hg, hh, hnc, hcm, _⟩
  · omega
  · exact ⟨g, cap, hv, hg, hnc, hcm⟩
/-- what is owned is owned in a world in which the row's block is as it was -/
theorem ownsRow_keep {w w' : World} {base e size n : Nat} {v : Value} {xs : List Value} (h : w.ownsRow base e size v n xs) (hk : ∀ k, v.ownBlock = some k → w'.heap[k]? = w.heap[k]?) : w'.ownsRow base e size v n xs := by
  refine ⟨h.1, ?_⟩
  rcases h.2 with h2 | ⟨g, cap, cur, hv, hg, hh, r⟩
  · exact .inl h2
  · subst hv
    exact .inr ⟨g, cap, cur, rfl, hg, (hk g rfl).trans hh, r⟩

end Go.Proofs.YtpinjgdnhbogoaaGreatDoor
