/- Memory: what is left as it was by a call that owns some blocks; blocks behind a store; a list in a block of cells. -/
import Derived.WalkKit
import Derived.Lib.Hide
import Derived.Deep.Draws
import Derived.Maps.AppendAt
import Derived.Laws.AppendOwnNone
import Derived.OpenShut
import Derived.MapKept
import Derived.Maps.OwnSet
import Derived.Maps.OwnOps
import Derived.Maps.RangeRun
import Derived.Maps.RangeWalk
namespace Go.Proofs.YtgmghopcppniaaaGreatDoor
open Go.RowKit Go.Lib

/-- w' is w, but for the blocks of 'own' and for new ones. -/
structure Fr (own : Nat → Prop) (w w' : World) : Prop where
 os : w'.os = w.os
 tape : w'.tape = w.tape
 output : w'.output = w.output
 size : w.heap.size ≤ w'.heap.size
 block : ∀ k, k < w.heap.size → ¬ own k → w'.heap[k]? = w.heap[k]?

theorem Fr.refl (own : Nat → Prop) (w : World) : Fr own w w := ⟨rfl, rfl, rfl, Nat.le_refl _, fun _ _ _ => rfl⟩
theorem Fr.trans {o1 o2 : Nat → Prop} {a b c : World} (h : Fr o1 a b) (k : Fr o2 b c) (ho : ∀ i, o2 i → o1 i ∨ a.heap.size ≤ i) : Fr o1 a c :=
 ⟨k.os.trans h.os, k.tape.trans h.tape, k.output.trans h.output, Nat.le_trans h.size k.size, fun i hi hn =>
  (k.block i (Nat.lt_of_lt_of_le hi h.size) (fun h2 => by rcases ho i h2 with h3 | h3; exact hn h3; omega)).trans (h.block i hi hn)⟩
theorem Fr.next {o : Nat → Prop} {a b c : World} (h : Fr o a b) (k : Fr o b c) : Fr o a c := h.trans k fun _ h => .inl h
theorem Fr.mono {o1 o2 : Nat → Prop} {a b : World} (h : Fr o1 a b) (ho : ∀ i, i < a.heap.size → o1 i → o2 i) : Fr o2 a b :=
 ⟨h.os, h.tape, h.output, h.size, fun k hk hn => h.block k hk fun h1 => hn (ho k hk h1)⟩
theorem Fr.of_heap {o : Nat → Prop} {a b c : World} (h : Fr o a b) (h1 : c.heap = b.heap) (h2 : c.os = b.os) (h3 : c.tape = b.tape) (h4 : c.output = b.output) : Fr o a c :=
 ⟨h2.trans h.os, h3.trans h.tape, h4.trans h.output, by rw [h1]; exact h.size, fun k hk hn => by rw [h1]; exact h.block k hk hn⟩
theorem Fr.drew {o : Nat → Prop} {a b : World} (h : Fr o a b) : Fr o a b.drew := h.of_heap rfl rfl rfl rfl
theorem Fr.drewN {o : Nat → Prop} {a b : World} (h : Fr o a b) (n : Nat) : Fr o a (b.drewN n) := h.of_heap rfl rfl rfl rfl
theorem Fr.of_start {o : Nat → Prop} {a b : World} {n : Nat} (h : Fr o (a.drewN n) b) : Fr o a b := ⟨h.os, h.tape, h.output, h.size, h.block⟩
theorem Fr.start {o : Nat → Prop} {a a' b : World} (h : Fr o a' b) (h1 : a'.heap = a.heap) (h2 : a'.os = a.os) (h3 : a'.tape = a.tape) (h4 : a'.output = a.output) : Fr o a b :=
 ⟨h.os.trans h2, h.tape.trans h3, h.output.trans h4, by rw [← h1]; exact h.size, by rw [← h1]; exact h.block⟩
theorem Fr.setCell {o : Nat → Prop} {a b : World} (h : Fr o a b) {p : Addr} (hp : o p.block ∨ a.heap.size ≤ p.block) (u : Value) : Fr o a (b.setCell p u) :=
 ⟨h.os, h.tape, h.output, by simpa using h.size, fun k hk hn => by
  rw [Below.heap_setCell b p u k (fun e => by rcases hp with h1 | h1; exact hn (e ▸ h1); omega)]; exact h.block k hk hn⟩
theorem Fr.alloc {o : Nat → Prop} {a b : World} (h : Fr o a b) (x : Obj) : Fr o a (b.alloc x) :=
 ⟨h.os, h.tape, h.output, by have := h.size; simp; omega, fun k hk hn => by
  rw [Below.heap_alloc b x k (by have := h.size; omega)]; exact h.block k hk hn⟩
theorem Fr.grown {o : Nat → Prop} {a b c : World} {row : Option Nat} (h : Fr o a b) (hg : b.grownBy c row) (hr : ∀ k, row = some k → o k ∨ a.heap.size ≤ k) : Fr o a c :=
 ⟨hg.os.trans h.os, hg.tape.trans h.tape, hg.output.trans h.output, Nat.le_trans h.size hg.size, fun k hk hn =>
  (hg.block k (by have := h.size; omega) (fun e => by rcases hr k e.symm with h1 | h1; exact hn h1; omega)).trans (h.block k hk hn)⟩
theorem Fr.of_below {a b : World} {B : Nat} (h : Below B a b) : Fr (fun k => B ≤ k) a b :=
 ⟨h.os, h.tape, h.output, h.size, fun k _ hn => h.block k (by omega)⟩
theorem Fr.cell {o : Nat → Prop} {a b : World} (h : Fr o a b) {p : Addr} {v : Value} (hc : a.cell? p = some v) (hp : ¬ o p.block) : b.cell? p = some v :=
 (World.cell?_of_block (h.block p.block (World.block_lt_of_cell? a p hc) hp)).trans hc
/-- a block that was there, and is not of 'own', is there as it was -/
theorem Fr.keep {o : Nat → Prop} {a b : World} (h : Fr o a b) {k : Nat} {x : Obj} (hb : a.heap[k]? = some x) (hk : ¬ o k) : b.heap[k]? = some x :=
 (h.block k (lt_of_block hb) hk).trans hb

/-! ### blocks -/
theorem cell_of {w : World} {b i : Nat} {c : Array Value} {e : TypeId} {f : Nat × Nat} (h : w.heap[b]? = some (.cells c e f)) {v : Value} (hi : c[i]? = some v) : w.cell? ⟨b, i, none⟩ = some v := by
 simp [World.cell?, h, hi]
theorem free_of {w : World} {b : Nat} (i : Nat) {c : Array Value} {e : TypeId} (h : w.heap[b]? = some (.cells c e (0, 0))) : w.frozen? ⟨b, i, none⟩ = false := by
 simp [World.frozen?, h]
theorem block_set {w : World} {b : Nat} {c : Array Value} {e : TypeId} {f : Nat × Nat} (h : w.heap[b]? = some (.cells c e f)) (i : Nat) (v : Value) :
  (w.setCell ⟨b, i, none⟩ v).heap[b]? = some (.cells (c.setIfInBounds i v) e f) := by
 have hlt := lt_of_block h
 have h' : w.heap[b] = .cells c e f := by simpa [Array.getElem?_eq_getElem hlt] using h
 show (w.heap.modify b _)[b]? = _
 rw [Array.getElem?_eq_getElem (by simpa using hlt), Array.getElem_modify_self, h']
 rfl
theorem block_set_ne {w : World} {k b i : Nat} (h : k ≠ b) {v : Value} : (w.setCell ⟨b, i, none⟩ v).heap[k]? = w.heap[k]? := Below.heap_setCell w _ v k h
theorem block_new (w : World) (x : Obj) : (w.alloc x).heap[w.heap.size]? = some x := heap_alloc_new w x
theorem block_new_at {w : World} {x : Obj} {n : Nat} (h : n = w.heap.size) : (w.alloc x).heap[n]? = some x := by rw [h]; exact block_new w x
theorem block_grown {w w' : World} {row : Option Nat} {k : Nat} {x : Obj} (h : w.heap[k]? = some x) (hg : w.grownBy w' row) (hk : some k ≠ row) : w'.heap[k]? = some x := (hg.block k (lt_of_block h) hk).trans h
theorem block_old {w : World} {k : Nat} {y : Obj} (h : w.heap[k]? = some y) (x : Obj) : (w.alloc x).heap[k]? = some y :=
 (Below.heap_alloc w x k (lt_of_block h)).trans h
/-! ### a row that is owned, stored into -/
theorem ownsRow_cell {w : World} {base e g n cap : Nat} {xs : List Value} (h : w.ownsRow base e 1 (.slice (some ⟨g, 0, none⟩) n cap) n xs) {i : Nat} {v : Value} (hi : xs[i]? = some v) :
  w.cell? ⟨g, i, none⟩ = some v := by
 have := h.cells (g := g) rfl i v hi
 rwa [Addr.add_lit, Nat.zero_add] at this
theorem ownsRow_free {w : World} {base e size g n cap : Nat} {xs : List Value} (h : w.ownsRow base e size (.slice (some ⟨g, 0, none⟩) n cap) n xs) (i : Nat) : w.frozen? ⟨g, i, none⟩ = false := by
 rcases h.2 with ⟨h2, _⟩ | ⟨g', cap', cur, hv, hg, hh, _⟩
 ·simp at h2
 ·simp only [Value.slice.injEq, Option.some.injEq, Addr.mk.injEq, and_true] at hv
  obtain ⟨rfl, -, rfl⟩ := hv
  exact free_of i hh
/-- a row that is not empty lies at the head of a block -/
theorem ownsRow_form {w : World} {base e size n : Nat} {v : Value} {xs : List Value} (h : w.ownsRow base e size v n xs) (hn : 0 < n) : ∃ g cap, v = .slice (some ⟨g, 0, none⟩) n cap ∧ base ≤ g ∧ n ≤ cap ∧ cap ≤ maxLen := by
 rcases h.2 with ⟨_, h2⟩ | ⟨g, cap, cur, hv, hg, hh, hnc, hcm, _⟩
 ·omega
 ·exact ⟨g, cap, hv, hg, hnc, hcm⟩
/-- what is owned is owned in a world in which the row's block is as it was -/
theorem ownsRow_keep {w w' : World} {base e size n : Nat} {v : Value} {xs : List Value} (h : w.ownsRow base e size v n xs) (hk : ∀ k, v.ownBlock = some k → w'.heap[k]? = w.heap[k]?) : w'.ownsRow base e size v n xs := by
 refine ⟨h.1, ?_⟩
 rcases h.2 with h2 | ⟨g, cap, cur, hv, hg, hh, r⟩
 ·exact .inl h2
 ·subst hv
  exact .inr ⟨g, cap, cur, rfl, hg, (hk g rfl).trans hh, r⟩

/-- append at the operation: the new slice's shape written out, and where it lies -/
theorem wpList_append_shape {P : Program} {w : World} {ops : Array Oper} {rest : List Oper} {o : Oper} {a : Act} {Q : Exit → Act → World → Prop} (hgd : o.guard = none) (s x : Operand) (t : TypeId)
  (ho : o.op = .call { callee := .builtin .append, args := #[s, x], argTypes := #[t, t] })
  (base : Nat) (e : TypeId) (i : TypeInfo) (z : Value) (size bytes : Nat) (ht : P.underlying t = some (.slice e)) (hi : P.info? e = some i) (hz : i.zero = some z)
  (hsize : i.size = size) (hby : i.bytes = bytes) (hzs : z.cells.size = size) (hsz : 0 < size)
  (v : Value) (n : Nat) (xs : List Value) (hs : a.eval s = v) (hown : w.ownsRow base e size v n xs)
  (ad : Addr) (m c : Nat) (news : List Value) (hx : a.eval x = .slice (some ad) m c) (hl : news.length = m * size) (hnews : ∀ j u, news[j]? = some u → w.cell? (ad.add j) = some u) (h1 : ∀ u ∈ news, u.oneCell' = true)
  (h63 : n + m ≤ maxLen) (hbytes : (n + m) * bytes ≤ 140737488355328) (hbase : base ≤ w.heap.size) (hpos : 0 < n + m)
  (h : ∀ g cap w', w'.ownsRow base e size (.slice (some ⟨g, 0, none⟩) (n + m) cap) (n + m) (xs ++ news) → w.grownBy w' v.ownBlock → (v.ownBlock = some g ∨ g = w.heap.size) → wpList P ops Q rest (a.put o.dst (.slice (some ⟨g, 0, none⟩) (n + m) cap)) w') :
  wpList P ops Q (o :: rest) a w := by
 refine wpList_append_own_at w hgd s x t ho base e i z size bytes ht hi hz hsize hby hzs hsz v n xs hs hown ad m c news hx hl hnews h1 h63 hbytes hbase ?_
 intro v' w' hown' hg _ hat
 obtain ⟨g, cap, rfl, _, _, _⟩ := ownsRow_form hown' hpos
 refine h g cap w' hown' hg ?_
 rcases hat with h1 | h1
 ·exact .inl (h1.symm.trans rfl)
 ·exact .inr (by simpa [Value.ownBlock] using h1)
end Go.Proofs.YtgmghopcppniaaaGreatDoor

/- A slice that is read: its elements' cells, wherever they lie; appending such a slice to a row of one's own. -/
namespace Go.Proofs.YtgmghopcppniaaaGreatDoor
open Go.RowKit Go.Lib

/-- v is a slice of n elements (size cells each) that hold xs; where there is one, they lie in a block of S. -/
structure SRow (w : World) (S : Nat → Prop) (size : Nat) (v : Value) (n : Nat) (xs : List Value) : Prop where
 len : xs.length = n * size
 form : ∃ a cap, v = .slice a n cap ∧ n ≤ cap ∧ cap ≤ maxLen ∧ (a = none → cap = 0) ∧ (0 < n → ∃ g off, a = some ⟨g, off, none⟩ ∧ S g ∧ ∀ i u, xs[i]? = some u → w.cell? ⟨g, off + i, none⟩ = some u)

section
variable {w w' : World} {S : Nat → Prop} {size n : Nat} {v : Value} {xs : List Value}
theorem SRow.nil (w : World) (S : Nat → Prop) (size : Nat) : SRow w S size (.slice none 0 0) 0 [] :=
 ⟨by simp, none, 0, rfl, Nat.le_refl _, Nat.zero_le _, fun _ => rfl, fun h => absurd h (Nat.lt_irrefl _)⟩
theorem SRow.fr {o : Nat → Prop} (h : SRow w S size v n xs) (hf : Fr o w w') (ho : ∀ k, S k → ¬ o k) : SRow w' S size v n xs := by
 obtain ⟨h1, a, cap, h2, h3, h4, h5, h6⟩ := h
 refine ⟨h1, a, cap, h2, h3, h4, h5, fun hn => ?_⟩
 obtain ⟨g, off, h7, h8, h9⟩ := h6 hn
 exact ⟨g, off, h7, h8, fun i u hu => hf.cell (h9 i u hu) (ho g h8)⟩
theorem SRow.mono {S' : Nat → Prop} (h : SRow w S size v n xs) (hs : ∀ k, S k → S' k) : SRow w S' size v n xs := by
 obtain ⟨h1, a, cap, h2, h3, h4, h5, h6⟩ := h
 refine ⟨h1, a, cap, h2, h3, h4, h5, fun hn => ?_⟩
 obtain ⟨g, off, h7, h8, h9⟩ := h6 hn
 exact ⟨g, off, h7, hs g h8, h9⟩
theorem SRow.of_owns {base e : Nat} (h : w.ownsRow base e size v n xs) : SRow w (fun k => v.ownBlock = some k) size v n xs := by
 have hc := fun g => h.cells (g := g)
 obtain ⟨h1, h2⟩ := h
 refine ⟨h1, ?_⟩
 rcases h2 with ⟨rfl, rfl⟩ | ⟨g, cap, cur, rfl, hb, hh, hnc, hcm, _⟩
 ·exact ⟨_, 0, rfl, Nat.le_refl _, Nat.zero_le _, fun _ => rfl, fun h => absurd h (Nat.lt_irrefl _)⟩
 ·refine ⟨_, cap, rfl, hnc, hcm, fun h => (by cases h), fun _ => ⟨g, 0, rfl, rfl, fun i u hu => ?_⟩⟩
  have := hc g rfl i u hu
  rwa [Addr.add_lit] at this
/-- the cells of one element -/
theorem SRow.cell {a : Option Addr} {cap : Nat} (h : SRow w S size (.slice a n cap) n xs) (hn : 0 < n) : ∃ g off, a = some ⟨g, off, none⟩ ∧ ∀ i u, xs[i]? = some u → w.cell? ⟨g, off + i, none⟩ = some u := by
 obtain ⟨h1, a', cap', h2, h3, h4, h5, h6⟩ := h
 injection h2 with e1 e2 e3
 subst e1
 obtain ⟨g, off, h7, h8, h9⟩ := h6 hn
 exact ⟨g, off, h7, h9⟩
/-- s[k:], s[:k], at a place within the length -/
theorem SRow.tail {a : Option Addr} {cap k : Nat} (h : SRow w S size (.slice a n cap) n xs) (hk : k ≤ n) : SRow w S size (.slice (if cap = k then a else a.map (·.add (k * size))) (n - k) (cap - k)) (n - k) (xs.drop (k * size)) := by
 obtain ⟨h1, a', cap', h2, h3, h4, h5, h6⟩ := h
 injection h2 with e1 e2 e3
 subst e1; subst e3
 refine ⟨by rw [List.length_drop, h1, Nat.sub_mul], _, _, rfl, by omega, by omega, fun hh => ?_, fun hn => ?_⟩
 ·split at hh
  ·have := h5 hh; omega
  ·cases a with
   | none => have := h5 rfl; omega
   | some _ => cases hh
 ·obtain ⟨g, off, h7, h8, h9⟩ := h6 (by omega)
  subst h7
  rw [if_neg (by omega)]
  refine ⟨g, off + k * size, by simp only [Option.map_some, Option.some.injEq]; exact Addr.add_lit g off (k * size), h8, fun i u hu => ?_⟩
  rw [List.getElem?_drop] at hu
  have := h9 _ u hu
  rwa [show off + k * size + i = off + (k * size + i) from by omega]
theorem SRow.head {a : Option Addr} {cap k : Nat} (h : SRow w S size (.slice a n cap) n xs) (hk : k ≤ n) : SRow w S size (.slice a k cap) k (xs.take (k * size)) := by
 obtain ⟨h1, a', cap', h2, h3, h4, h5, h6⟩ := h
 injection h2 with e1 e2 e3
 subst e1; subst e3
 refine ⟨by rw [List.length_take, h1]; exact Nat.min_eq_left (Nat.mul_le_mul_right _ hk), _, _, rfl, by omega, h4, h5, fun hn => ?_⟩
 obtain ⟨g, off, h7, h8, h9⟩ := h6 (by omega)
 refine ⟨g, off, h7, h8, fun i u hu => ?_⟩
 rw [List.getElem?_take] at hu
 split at hu
 ·exact h9 i u hu
 ·cases hu
end

theorem ownsRow_shape {w : World} {base e size n : Nat} {v : Value} {xs : List Value} (h : w.ownsRow base e size v n xs) : ∃ b cap, v = .slice b n cap := by
 rcases h.2 with ⟨rfl, h2⟩ | ⟨g, cap, cur, rfl, _⟩
 ·exact ⟨none, 0, by rw [h2]⟩
 ·exact ⟨_, _, rfl⟩

/-- append(s, x...), s a row of one's own, x a slice that is read -/
theorem wp_append_row {P : Program} {w : World} {o : Oper} {a : Act} {K : Act → World → Prop} {Q : Exit → Act → World → Prop} (s x : Operand) (t : TypeId)
  (ho : o.op = .call { callee := .builtin .append, args := #[s, x], argTypes := #[t, t] })
  (base : Nat) (e : TypeId) (i : TypeInfo) (z : Value) (size bytes : Nat) (ht : P.underlying t = some (.slice e)) (hi : P.info? e = some i) (hz : i.zero = some z)
  (hsize : i.size = size) (hby : i.bytes = bytes) (hzs : z.cells.size = size) (hsz : 0 < size)
  (v : Value) (n : Nat) (xs : List Value) (hs : a.eval s = v) (hown : w.ownsRow base e size v n xs)
  (S : Nat → Prop) (u : Value) (m : Nat) (news : List Value) (hx : a.eval x = u) (hrow : SRow w S size u m news) (h1 : ∀ u ∈ news, u.oneCell' = true)
  (h63 : n + m ≤ maxLen) (hbytes : (n + m) * bytes ≤ 140737488355328) (hbase : base ≤ w.heap.size)
  (h : ∀ b cap w', w'.ownsRow base e size (.slice b (n + m) cap) (n + m) (xs ++ news) → w.grownBy w' v.ownBlock → Fr (fun k => base ≤ k) w w' → K (a.put o.dst (.slice b (n + m) cap)) w') :
  o.wp P a w K Q := by
 obtain ⟨hl, ad, c, rfl, hmc, _, hnone, hcells⟩ := hrow
 have hshape : ∀ v' : Value, ∀ w' : World, w'.ownsRow base e size v' (n + m) (xs ++ news) → ∃ b cap, v' = .slice b (n + m) cap ∧ v'.ownBlock = b.map Addr.block := by
  intro v' w' hv
  rcases hv.2 with ⟨rfl, h2⟩ | ⟨g, cap, cur, rfl, _⟩
  ·exact ⟨none, 0, by rw [h2], rfl⟩
  ·exact ⟨_, _, rfl, rfl⟩
 cases ad with
 | some ad =>
  have hnews : ∀ j u, news[j]? = some u → w.cell? (ad.add j) = some u := by
   intro j u hu
   rcases Nat.eq_zero_or_pos m with rfl | hm
   ·rw [Nat.zero_mul] at hl
    rw [List.eq_nil_of_length_eq_zero hl] at hu
    simp at hu
   ·obtain ⟨g, off, e1, _, e3⟩ := hcells hm
    obtain rfl := Option.some.inj e1
    rw [Addr.add_lit]
    exact e3 j u hu
  obtain ⟨v', w', hr, h2, h3, h4, h5⟩ := run_append_own_at (P := P) w base t o.type e i z size bytes ht hi hz hsize hby hzs hsz v n xs hown ad m c news hl hnews h1 h63 hbytes hbase
  obtain ⟨b, cap, rfl, hb⟩ := hshape v' w' h2
  unfold Oper.wp execOp
  simp only [ho, resolve, invoke, builtin, Sem.run_bind, Sem.run_pure, Result.andThen_ok, List.map_toArray, List.map_cons, List.map_nil, hs, hx, hr]
  exact h b cap w' h2 h3 ((Fr.refl _ _).grown h3 fun k hk => .inl (hown.lt k hk).1)
 | none =>
  have hc0 := hnone rfl
  obtain rfl : m = 0 := by omega
  subst hc0
  rw [Nat.zero_mul] at hl
  obtain rfl := List.eq_nil_of_length_eq_zero hl
  have hrun := run_append_owned_none (P := P) w base t o.type e i size ht hi v n xs hown
  obtain ⟨b, cap, hv, hb⟩ := hshape v w (by simpa using hown)
  have := h b cap w (by rw [← hv]; simpa using hown) (World.grownBy.refl _ _) (Fr.refl _ _)
  rw [← hv] at this
  unfold Oper.wp
  simp [execOp, ho, resolve, invoke, builtin, hs, hx, hrun, Result.andThen]
  exact this
theorem wpList_append_row {P : Program} {w : World} {ops : Array Oper} {rest : List Oper} {o : Oper} {a : Act} {Q : Exit → Act → World → Prop} (hgd : o.guard = none) (s x : Operand) (t : TypeId)
  (ho : o.op = .call { callee := .builtin .append, args := #[s, x], argTypes := #[t, t] })
  (base : Nat) (e : TypeId) (i : TypeInfo) (z : Value) (size bytes : Nat) (ht : P.underlying t = some (.slice e)) (hi : P.info? e = some i) (hz : i.zero = some z)
  (hsize : i.size = size) (hby : i.bytes = bytes) (hzs : z.cells.size = size) (hsz : 0 < size)
  (v : Value) (n : Nat) (xs : List Value) (hs : a.eval s = v) (hown : w.ownsRow base e size v n xs)
  (S : Nat → Prop) (u : Value) (m : Nat) (news : List Value) (hx : a.eval x = u) (hrow : SRow w S size u m news) (h1 : ∀ u ∈ news, u.oneCell' = true)
  (h63 : n + m ≤ maxLen) (hbytes : (n + m) * bytes ≤ 140737488355328) (hbase : base ≤ w.heap.size)
  (h : ∀ b cap w', w'.ownsRow base e size (.slice b (n + m) cap) (n + m) (xs ++ news) → w.grownBy w' v.ownBlock → Fr (fun k => base ≤ k) w w' → wpList P ops Q rest (a.put o.dst (.slice b (n + m) cap)) w') :
  wpList P ops Q (o :: rest) a w :=
 wpList_plain hgd fun _ hK => wp_append_row s x t ho base e i z size bytes ht hi hz hsize hby hzs hsz v n xs hs hown S u m news hx hrow h1 h63 hbytes hbase fun b cap w' h2 h3 h4 => hK _ _ (h b cap w' h2 h3 h4)
/-- the same as a step of a region that draws -/
theorem step_append_row {P : Program} {w : World} {ops : Array Oper} {o : Oper} {a : Act} {K : Act → World → Prop} {Q : Exit → Act → World → Prop} {E : Prop} (hgd : o.guard = none) (s x : Operand) (t : TypeId)
  (ho : o.op = .call { callee := .builtin .append, args := #[s, x], argTypes := #[t, t] })
  (base : Nat) (e : TypeId) (i : TypeInfo) (z : Value) (size bytes : Nat) (ht : P.underlying t = some (.slice e)) (hi : P.info? e = some i) (hz : i.zero = some z)
  (hsize : i.size = size) (hby : i.bytes = bytes) (hzs : z.cells.size = size) (hsz : 0 < size)
  (v : Value) (n : Nat) (xs : List Value) (hs : a.eval s = v) (hown : w.ownsRow base e size v n xs)
  (S : Nat → Prop) (u : Value) (m : Nat) (news : List Value) (hx : a.eval x = u) (hrow : SRow w S size u m news) (h1 : ∀ u ∈ news, u.oneCell' = true)
  (h63 : n + m ≤ maxLen) (hbytes : (n + m) * bytes ≤ 140737488355328) (hbase : base ≤ w.heap.size)
  (h : ∀ b cap w', w'.ownsRow base e size (.slice b (n + m) cap) (n + m) (xs ++ news) → w.grownBy w' v.ownBlock → Fr (fun k => base ≤ k) w w' → K (a.put o.dst (.slice b (n + m) cap)) w') :
  if Region.wanted o (yielded ops a.tmps) = true then Oper.wp P o a w K Q else E := by
 rw [if_pos (by simp [Region.wanted, hgd])]
 exact wp_append_row s x t ho base e i z size bytes ht hi hz hsize hby hzs hsz v n xs hs hown S u m news hx hrow h1 h63 hbytes hbase h

theorem ownsRow_base {w : World} {base b2 e size n : Nat} {v : Value} {xs : List Value} (h : w.ownsRow base e size v n xs) (hb : b2 ≤ base) : w.ownsRow b2 e size v n xs := by
 refine ⟨h.1, ?_⟩
 rcases h.2 with h2 | ⟨g, cap, cur, hv, hg, r⟩
 ·exact .inl h2
 ·exact .inr ⟨g, cap, cur, hv, Nat.le_trans hb hg, r⟩
theorem block_new_drew {w : World} {x : Obj} {n : Nat} (h : n = w.heap.size) : (w.alloc x).drew.heap[n]? = some x := block_new_at h
theorem block_old_drew {w : World} {k : Nat} {y : Obj} (h : w.heap[k]? = some y) (x : Obj) : (w.alloc x).drew.heap[k]? = some y := block_old h x
/-- an empty row that has just been made -/
theorem ownsRow_empty {w : World} {base g e size : Nat} (h : w.heap[g]? = some (.cells #[] e (0, 0))) (hb : base ≤ g) : w.ownsRow base e size (.slice (some ⟨g, 0, none⟩) 0 0) 0 [] :=
 ⟨by simp, .inr ⟨g, 0, #[], rfl, hb, h, Nat.le_refl _, Nat.zero_le _, by simp, by simp⟩⟩
/-- a block that is known whole, read as a slice -/
theorem SRow.of_block {w : World} {S : Nat → Prop} {g e size n : Nat} {f : Nat × Nat} {xs : List Value} (h : w.heap[g]? = some (.cells xs.toArray e f)) (hl : xs.length = n * size) (hn : n ≤ maxLen) (hS : S g) : SRow w S size (.slice (some ⟨g, 0, none⟩) n n) n xs :=
 ⟨hl, some ⟨g, 0, none⟩, n, rfl, Nat.le_refl _, hn, fun h => (by cases h), fun _ => ⟨g, 0, rfl, hS, fun i u hu => by rw [Nat.zero_add]; exact cell_of h (by simpa using hu)⟩⟩
end Go.Proofs.YtgmghopcppniaaaGreatDoor

/- A slice of numbers that is read as a list; one that came in. -/
namespace Go.Proofs.YtgmghopcppniaaaGreatDoor
open Go.RowKit Go.Lib

/-- a slice of numbers that reads as l -/
def IR (w : World) (S : Nat → Prop) (v : Value) (l : List Int) : Prop := SRow w S 1 v l.length (l.map (Value.int .i64))
theorem IR.form {w : World} {S : Nat → Prop} {v : Value} {l : List Int} (h : IR w S v l) : ∃ a cap, v = .slice a l.length cap ∧ l.length ≤ cap ∧ cap ≤ 9223372036854775807 := let ⟨_, a, cap, h2, h3, h4, _⟩ := h; ⟨a, cap, h2, h3, by unfold maxLen at h4; exact h4⟩
theorem IR.cells {w : World} {S : Nat → Prop} {a : Option Addr} {cap : Nat} {l : List Int} (h : IR w S (.slice a l.length cap) l) (hn : 0 < l.length) :
  ∃ g off, a = some ⟨g, off, none⟩ ∧ ∀ i p, l[i]? = some p → w.cell? ⟨g, off + i, none⟩ = some (.int .i64 p) := by
 obtain ⟨g, off, h1, h2⟩ := SRow.cell h hn
 exact ⟨g, off, h1, fun i p hp => h2 _ _ (by simp [hp])⟩
theorem IR.fr {w w' : World} {S o : Nat → Prop} {v : Value} {l : List Int} (h : IR w S v l) (hf : Fr o w w') (ho : ∀ k, S k → ¬ o k) : IR w' S v l := SRow.fr h hf ho
theorem IR.grow {w w' : World} {S : Nat → Prop} {v : Value} {l : List Int} (h : IR w S v l) (hf : Fr (fun _ => False) w w') : IR w' S v l := h.fr hf fun _ _ h => h
theorem IR.lit {w : World} {S : Nat → Prop} {g e : Nat} {f : Nat × Nat} {l : List Int} (h : w.heap[g]? = some (.cells (l.map (Value.int .i64)).toArray e f)) (hl : l.length ≤ maxLen) (hS : S g) : IR w S (.slice (some ⟨g, 0, none⟩) l.length l.length) l :=
 SRow.of_block h (by simp) hl hS
theorem IR.nil (w : World) (S : Nat → Prop) : IR w S (.slice none 0 0) [] := SRow.nil _ _ _

/-- nil, or a row of 'cap' numbers, of which the first 'len' are the slice's -/
def ArgRow (w : World) (a : Option Addr) (len cap : Nat) (zs : List Int) : Prop :=
 (a = none ∧ len = 0 ∧ cap = 0 ∧ zs = []) ∨
 ∃ x, a = some x ∧ len ≤ cap ∧ cap ≤ maxLen ∧ zs.length = cap ∧ (∀ i, i < zs.length → w.cell? (x.add i) = some (.int .i64 (zs.getD i 0))) ∧ ∀ n ∈ zs, (Lit.int .i64 n).wf = true

theorem IR.of_arg {w : World} {a : Option Addr} {len cap : Nat} {zs : List Int} (h : ArgRow w a len cap zs) : ∃ l : List Int, l.length = len ∧ IR w (fun k => k < w.heap.size) (.slice a len cap) l ∧ ∀ n ∈ l, -9223372036854775808 ≤ n ∧ n ≤ 9223372036854775807 := by
 rcases h with ⟨rfl, rfl, rfl, rfl⟩ | ⟨x, rfl, h1, h2, h3, h4, h5⟩
 ·exact ⟨[], rfl, SRow.nil _ _ _, by simp⟩
 ·have hl : (zs.take len).length = len := by rw [List.length_take, h3]; omega
  refine ⟨zs.take len, hl, ?_, fun n hn => bounds_i64 (h5 n (List.mem_of_mem_take hn))⟩
  unfold IR
  rw [hl]
  refine ⟨by simp [h3, h1], some x, cap, rfl, h1, h2, fun h => (by cases h), fun h0 => ?_⟩
  have c0 := h4 0 (by omega)
  have hx : x.add 0 = x := by simp [Addr.add]
  rw [hx] at c0
  have hs : x.spot = none := by
   unfold World.cell? at c0
   split at c0
   ·cases hsp : x.spot with
    | none => rfl
    | some _ => simp [hsp] at c0
   ·cases c0
  obtain ⟨b, off, sp⟩ := x
  simp only at hs
  subst hs
  refine ⟨b, off, rfl, World.block_lt_of_cell? w _ c0, fun i u hu => ?_⟩
  rw [List.map_take, List.getElem?_take] at hu
  split at hu
  ·have hi : i < zs.length := by omega
   have := h4 i hi
   rw [Addr.add_lit] at this
   rw [this]
   rw [List.getElem?_map, List.getElem?_eq_getElem hi] at hu
   simp [List.getD, hi] at hu ⊢
   exact hu
  ·cases hu
end Go.Proofs.YtgmghopcppniaaaGreatDoor

/- A map in memory as a list of its keys and elements, in whatever order: what a look-up, a store and a delete do. -/
namespace Go.Proofs.YtgmghopcppniaaaGreatDoor
open Go.RowKit Go.Lib Go.MapKept

/-- block b is a map, of keys of the kind d, that holds just M -/
def MapOf (w : World) (d : TypeDesc) (b : Nat) (M : List (Value × Value)) : Prop :=
 ∃ es clock, w.heap[b]? = some (.map es clock) ∧ Stamped es clock ∧ (∀ x ∈ es.toList, IsKey d x.key) ∧ (es.toList.map fun x => (x.key, x.val)).Perm M

theorem one_elem {k u v : Value} : ∀ {M : List (Value × Value)}, (M.map (·.1)).Nodup → (k, u) ∈ M → (k, v) ∈ M → u = v
 | [], _, h, _ => by cases h
 | p :: M, hn, h1, h2 => by
  rw [List.map_cons, List.nodup_cons] at hn
  rcases List.mem_cons.1 h1 with e1 | e1 <;> rcases List.mem_cons.1 h2 with e2 | e2
  ·exact (Prod.mk.inj (e1.trans e2.symm)).2
  ·subst e1; exact absurd (List.mem_map.2 ⟨_, e2, rfl⟩) hn.1
  ·subst e2; exact absurd (List.mem_map.2 ⟨_, e1, rfl⟩) hn.1
  ·exact one_elem hn.2 e1 e2

section
variable {w w' : World} {d : TypeDesc} {b : Nat} {M M' : List (Value × Value)} {P : Program} {t kt et : TypeId} {k v : Value}

theorem MapOf.perm (h : MapOf w d b M) (hp : M.Perm M') : MapOf w d b M' := let ⟨es, c, h1, h2, h3, h4⟩ := h; ⟨es, c, h1, h2, h3, h4.trans hp⟩
theorem MapOf.keep (h : MapOf w d b M) (hk : w'.heap[b]? = w.heap[b]?) : MapOf w' d b M := let ⟨es, c, h1, h2⟩ := h; ⟨es, c, hk.trans h1, h2⟩
theorem MapOf.lt (h : MapOf w d b M) : b < w.heap.size := let ⟨_, _, h1, _⟩ := h; lt_of_block h1
theorem MapOf.block (h : MapOf w d b M) : ∃ es c, w.heap[b]? = some (.map es c) := let ⟨es, c, h1, _⟩ := h; ⟨es, c, h1⟩
theorem MapOf.made (w : World) (d : TypeDesc) : MapOf (w.alloc (.map #[] 0)) d w.heap.size [] :=
 ⟨#[], 0, (heap_alloc w _).1, stamped_empty 0, by simp, .refl _⟩
theorem MapOf.nodup (h : MapOf w d b M) : (M.map (·.1)).Nodup := by
 obtain ⟨es, c, h1, h2, h3, h4⟩ := h
 have := (h4.map (·.1)).nodup_iff.1 (by simpa [List.map_map, Function.comp_def] using h2.2.2)
 exact this
theorem MapOf.isKey (h : MapOf w d b M) : ∀ p ∈ M, IsKey d p.1 := by
 obtain ⟨es, c, h1, h2, h3, h4⟩ := h
 intro p hp
 obtain ⟨x, hx, rfl⟩ := List.mem_map.1 (h4.mem_iff.2 hp)
 exact h3 x hx

theorem MapOf.run_look (h : MapOf w d b M) (hm : P.underlying t = some (.map kt et)) (hd : P.underlying kt = some d) (hk : IsKey d k) (hin : (k, v) ∈ M) (ok : Bool) :
  (Instr.lookup t (.map (some b)) k ok).run P w = .ok (if ok then .tuple #[v, .bool true] else v) w := by
 have hnd := h.nodup
 obtain ⟨es, c, h1, h2, h3, h4⟩ := h
 rcases findNow_spec hk es.toList 0 h3 with ⟨f1, f2⟩ | ⟨j, e, f1, f2, f3⟩
 ·obtain ⟨x, hx, hxe⟩ := List.mem_map.1 (h4.mem_iff.2 hin)
  simp only [Prod.mk.injEq] at hxe
  exact absurd hxe.1 (f2 x hx)
 ·have hev : e.val = v := by
   have hm1 : (k, e.val) ∈ M := h4.mem_iff.1 (List.mem_map.2 ⟨e, List.mem_of_getElem? f2, by rw [f3]⟩)
   exact one_elem hnd hm1 hin
  subst hev
  cases ok <;> simp [Instr.lookup, run_underlying hm, MapKept.run_getObj_map h1, run_checkKey hd hk, run_findKey hd f1, Result.andThen]

theorem MapOf.run_none (h : MapOf w d b M) (hm : P.underlying t = some (.map kt et)) (hd : P.underlying kt = some d) (hk : IsKey d k) (hin : ∀ p ∈ M, p.1 ≠ k) {z : Value} (hz : ∀ w, (zeroValue et).run P w = .ok z w) (ok : Bool) :
  (Instr.lookup t (.map (some b)) k ok).run P w = .ok (if ok then .tuple #[z, .bool false] else z) w := by
 obtain ⟨es, c, h1, h2, h3, h4⟩ := h
 rcases findNow_spec hk es.toList 0 h3 with ⟨f1, f2⟩ | ⟨j, e, f1, f2, f3⟩
 ·cases ok <;> simp [Instr.lookup, run_underlying hm, MapKept.run_getObj_map h1, run_checkKey hd hk, run_findKey hd f1, hz, Result.andThen]
 ·exact absurd f3 (hin _ (h4.mem_iff.1 (List.mem_map.2 ⟨e, List.mem_of_getElem? f2, rfl⟩)))

theorem MapOf.run_len (h : MapOf w d b M) (hm : P.underlying t = some (.map kt et)) (ty : TypeId) : (Builtin.len_ #[t] ty #[.map (some b)]).run P w = .ok (.int .i64 M.length) w := by
 obtain ⟨es, c, h1, h2, h3, h4⟩ := h
 have e : es.size = M.length := by simpa using h4.length_eq
 simp [Builtin.len_, run_underlying hm, MapKept.run_getObj_map h1, Result.andThen, goInt, e]

theorem fr_setObj {r : Nat} (o : Obj) : Fr (fun k => k = r) w { w with heap := w.heap.setIfInBounds r o } :=
 ⟨rfl, rfl, rfl, by simp, fun k _ hk => by simp [Ne.symm hk]⟩

theorem modify_perm {l : List MapEntry} {k v v0 : Value} {R : List (Value × Value)} {j : Nat} {e : MapEntry} (f : MapEntry → MapEntry) (he : l[j]? = some e) (hek : e.key = k) (hev : e.val = v0) (hf : (f e).key = k ∧ (f e).val = v)
  (hp : (l.map fun x => (x.key, x.val)).Perm ((k, v0) :: R)) : ((l.modify j f).map fun x => (x.key, x.val)).Perm ((k, v) :: R) := by
 obtain ⟨hj, hje⟩ := List.getElem?_eq_some_iff.1 he
 have e1 : l = l.take j ++ e :: l.drop (j + 1) := by rw [← hje]; simp
 have e2 : l.modify j f = l.take j ++ f e :: l.drop (j + 1) := by
  refine List.ext_getElem? fun i => ?_
  rw [List.getElem?_modify]
  by_cases hij : j = i
  ·subst hij
   rw [he, List.getElem?_append_right (by simp; omega)]
   simp [Nat.min_eq_left (Nat.le_of_lt hj)]
  ·simp only [if_neg hij, Option.map_eq_map, Option.map_id']
   by_cases hlt : i < j
   ·rw [List.getElem?_append_left (by simp; omega), List.getElem?_take, if_pos hlt]
   ·rw [List.getElem?_append_right (by simp; omega)]
    obtain ⟨m, hm⟩ : ∃ m, i - min j l.length = m + 1 := ⟨i - min j l.length - 1, by omega⟩
    rw [List.length_take, hm, List.getElem?_cons_succ, List.getElem?_drop]
    rw [show j + 1 + m = i from by omega]
 have h1 : (l.map fun x => (x.key, x.val)).Perm ((k, v0) :: ((l.take j ++ l.drop (j + 1)).map fun x => (x.key, x.val))) := by
  conv => lhs; rw [e1]
  simp only [List.map_append, List.map_cons, hek, hev]
  exact List.perm_middle
 have h2 := (h1.symm.trans hp).cons_inv
 rw [e2]
 simp only [List.map_append, List.map_cons, hf.1, hf.2]
 refine List.perm_middle.trans (List.Perm.cons _ ?_)
 simpa using h2

theorem erase_perm {l : List MapEntry} {k v0 : Value} {R : List (Value × Value)} {j : Nat} {e : MapEntry} (he : l[j]? = some e) (hek : e.key = k) (hev : e.val = v0)
  (hp : (l.map fun x => (x.key, x.val)).Perm ((k, v0) :: R)) : ((l.eraseIdx j).map fun x => (x.key, x.val)).Perm R := by
 obtain ⟨hj, hje⟩ := List.getElem?_eq_some_iff.1 he
 have e1 : l = l.take j ++ e :: l.drop (j + 1) := by rw [← hje]; simp
 have h1 : (l.map fun x => (x.key, x.val)).Perm ((k, v0) :: ((l.take j ++ l.drop (j + 1)).map fun x => (x.key, x.val))) := by
  conv => lhs; rw [e1]
  simp only [List.map_append, List.map_cons, hek, hev]
  exact List.perm_middle
 rw [List.eraseIdx_eq_take_drop_succ]
 exact (h1.symm.trans hp).cons_inv

/-- the entry that is found at a key of M -/
theorem MapOf.found (h : MapOf w d b ((k, v) :: M)) {es : Array MapEntry} {c : Nat} (h1 : w.heap[b]? = some (.map es c)) {e : MapEntry} (he : e ∈ es.toList) (hk : e.key = k) : e.val = v := by
 have hnd := h.nodup
 obtain ⟨es', c', h1', h2, h3, h4⟩ := h
 rw [h1] at h1'
 obtain ⟨rfl, rfl⟩ : es = es' ∧ c = c' := by injection h1' with h; injection h with h h'; exact ⟨h, h'⟩
 have hm : (e.key, e.val) ∈ (k, v) :: M := h4.mem_iff.1 (List.mem_map.2 ⟨e, he, rfl⟩)
 rw [hk] at hm
 exact one_elem hnd hm (.head _)

/-- a store at a key that is there -/
theorem MapOf.run_set (h : MapOf w d b ((k, v) :: M)) (hm : P.underlying t = some (.map kt et)) (hd : P.underlying kt = some d) (u : Value) :
  ∃ w', (Instr.mapUpdate t (.map (some b)) k u).run P w = .ok () w' ∧ MapOf w' d b ((k, u) :: M) ∧ Fr (fun i => i = b) w w' := by
 have hk : IsKey d k := h.isKey (k, v) (.head _)
 have h' := h
 obtain ⟨es, c, h1, h2, h3, h4⟩ := h
 rcases findNow_spec hk es.toList 0 h3 with ⟨f1, f2⟩ | ⟨j, e, f1, f2, f3⟩
 ·obtain ⟨x, hx, hxe⟩ := List.mem_map.1 (h4.mem_iff.2 (.head _))
  simp only [Prod.mk.injEq] at hxe
  exact absurd hxe.1 (f2 x hx)
 ·have hj : es[j]? = some e := by simpa using f2
  have hkey : ∀ e', es[j]? = some e' → ({ e' with key := k, val := u } : MapEntry).key = e'.key := fun e' he' => by rw [hj] at he'; cases he'; exact f3.symm
  refine ⟨{ w with heap := w.heap.setIfInBounds b (.map (es.modify j fun e => { e with key := k, val := u }) c) }, by simp [Instr.mapUpdate, run_underlying hm, MapKept.run_getObj_map h1, run_checkKey hd hk, run_findKey hd f1, hj, f3, run_keyThatStays hk, run_setObj_map _ h1, Result.andThen],
   ⟨_, _, (heap_set h1).1, stamped_modify h2 _ _ (fun _ _ => rfl) (fun e' _ he' => hkey e' he'), isKey_modify h3 _ _ hkey, ?_⟩, fr_setObj _⟩
  rw [Array.toList_modify]
  exact modify_perm _ f2 f3 (h'.found h1 (List.mem_of_getElem? f2) f3) ⟨rfl, rfl⟩ h4

/-- a store at a new key -/
theorem MapOf.run_add (h : MapOf w d b M) (hm : P.underlying t = some (.map kt et)) (hd : P.underlying kt = some d) (hk : IsKey d k) (hin : ∀ p ∈ M, p.1 ≠ k) (u : Value) :
  ∃ w', (Instr.mapUpdate t (.map (some b)) k u).run P w = .ok () w' ∧ MapOf w' d b ((k, u) :: M) ∧ Fr (fun i => i = b) w w' := by
 obtain ⟨es, c, h1, h2, h3, h4⟩ := h
 rcases findNow_spec hk es.toList 0 h3 with ⟨f1, f2⟩ | ⟨j, e, f1, f2, f3⟩
 ·refine ⟨{ w with heap := w.heap.setIfInBounds b (.map (es.push { key := k, val := u, born := c }) (c + 1)) }, by simp [Instr.mapUpdate, run_underlying hm, MapKept.run_getObj_map h1, run_checkKey hd hk, run_findKey hd f1, run_setObj_map _ h1, Result.andThen],
   ⟨_, _, (heap_set h1).1, stamped_push h2 f2, ?_, ?_⟩, fr_setObj _⟩
  ·intro x hx
   simp only [Array.toList_push, List.mem_append, List.mem_singleton] at hx
   rcases hx with hx | rfl
   ·exact h3 x hx
   ·exact hk
  ·rw [Array.toList_push, List.map_append]
   exact (List.perm_append_singleton _ _).trans (h4.cons _)
 ·exact absurd f3 (hin _ (h4.mem_iff.1 (List.mem_map.2 ⟨e, List.mem_of_getElem? f2, rfl⟩)))

theorem MapOf.run_del (h : MapOf w d b ((k, v) :: M)) (hm : P.underlying t = some (.map kt et)) (hd : P.underlying kt = some d) (ty : TypeId) :
  ∃ w', (Builtin.delete_ #[t, kt] ty #[.map (some b), k]).run P w = .ok (.tuple #[]) w' ∧ MapOf w' d b M ∧ Fr (fun i => i = b) w w' := by
 have hk : IsKey d k := h.isKey (k, v) (.head _)
 have h' := h
 obtain ⟨es, c, h1, h2, h3, h4⟩ := h
 have hsub : ∀ i, ∀ x ∈ (es.eraseIdxIfInBounds i).toList, IsKey d x.key := by
  intro i x hx
  have hs' : (es.eraseIdxIfInBounds i).toList.Sublist es.toList := by
   unfold Array.eraseIdxIfInBounds
   split
   ·simp only [Array.toList_eraseIdx]; exact List.eraseIdx_sublist _ _
   ·exact List.Sublist.refl _
  exact h3 x (hs'.subset hx)
 rcases findNow_spec hk es.toList 0 h3 with ⟨f1, f2⟩ | ⟨j, e, f1, f2, f3⟩
 ·obtain ⟨x, hx, hxe⟩ := List.mem_map.1 (h4.mem_iff.2 (.head _))
  simp only [Prod.mk.injEq] at hxe
  exact absurd hxe.1 (f2 x hx)
 ·refine ⟨{ w with heap := w.heap.setIfInBounds b (.map (es.eraseIdxIfInBounds (0 + j)) c) }, by simp [Builtin.delete_, run_underlying hm, MapKept.run_getObj_map h1, run_checkKey hd hk, run_findKey hd f1, run_setObj_map _ h1, Result.andThen],
   ⟨_, _, (heap_set h1).1, stamped_erase h2 _, hsub _, ?_⟩, fr_setObj _⟩
  have hjl : j < es.size := by have := (List.getElem?_eq_some_iff.1 f2).1; simpa using this
  have e1 : (es.eraseIdxIfInBounds (0 + j)).toList = es.toList.eraseIdx j := by
   unfold Array.eraseIdxIfInBounds
   rw [dif_pos (by omega)]
   simp
  have := erase_perm f2 f3 (h'.found h1 (List.mem_of_getElem? f2) f3) h4
  rw [← e1] at this
  simpa using this

end

/-! ### at the operation, for the walk -/
section
variable {P : Program} {w : World} {ops : Array Oper} {rest : List Oper} {o : Oper} {a : Act} {Q : Exit → Act → World → Prop} {d : TypeDesc} {b : Nat} {M : List (Value × Value)} {key v val : Value}

theorem wpList_map_set (hg : o.guard = none) (m x u : Operand) (t : TypeId) (hop : o.op = Op.mapUpdate t m x u) (kt et : TypeId) (hm : P.underlying t = some (.map kt et)) (hd : P.underlying kt = some d)
  (ha : a.eval m = .map (some b)) (hx : a.eval x = key) (hv : a.eval u = val) (h : MapOf w d b ((key, v) :: M))
  (hK : ∀ w', MapOf w' d b ((key, val) :: M) → Fr (fun i => i = b) w w' → wpList P ops Q rest (a.put o.dst undef) w') : wpList P ops Q (o :: rest) a w := by
 refine wpList_plain hg fun K' hK' => ?_
 obtain ⟨w', hrun, r1, r2⟩ := h.run_set hm hd val
 unfold Oper.wp
 simp [execOp, hop, ha, hx, hv, hrun, Result.andThen]
 exact hK' _ _ (hK w' r1 r2)
theorem wpList_map_del (hg : o.guard = none) (m x : Operand) (t kt : TypeId) (hop : o.op = Op.call { callee := Callee.builtin Builtin.delete, args := #[m, x], argTypes := #[t, kt] }) (et : TypeId) (hm : P.underlying t = some (.map kt et)) (hd : P.underlying kt = some d)
  (ha : a.eval m = .map (some b)) (hx : a.eval x = key) (h : MapOf w d b ((key, v) :: M))
  (hK : ∀ w', MapOf w' d b M → Fr (fun i => i = b) w w' → wpList P ops Q rest (a.put o.dst (.tuple #[])) w') : wpList P ops Q (o :: rest) a w := by
 refine wpList_plain hg fun K' hK' => ?_
 obtain ⟨w', hrun, r1, r2⟩ := h.run_del hm hd o.type
 unfold Oper.wp
 simp [execOp, hop, ha, hx, resolve, invoke, builtin, hrun, Result.andThen]
 exact hK' _ _ (hK w' r1 r2)
end
end Go.Proofs.YtgmghopcppniaaaGreatDoor

/- Ranging over a map in memory: what is left is a list of entries; the step takes one of them, whichever the tape says. -/
namespace Go.Proofs.YtgmghopcppniaaaGreatDoor
open Go.RowKit Go.Lib Go.MapKept
open Go.ChangeMaps (setBlock)

def kvs (l : List MapEntry) : List (Value × Value) := l.map fun x => (x.key, x.val)
def MRange (w : World) (d : TypeDesc) (b r : Nat) (M rest : List (Value × Value)) : Prop :=
 ∃ es clock since seen c0, w.heap[b]? = some (.map es clock) ∧ Stamped es clock ∧ (∀ x ∈ es.toList, IsKey d x.key) ∧ (kvs es.toList).Perm M ∧
  w.heap[r]? = some (.mapIter (some b) since seen c0) ∧ (∀ x ∈ es.toList, x.born < since) ∧ since ≤ c0 ∧ since ≤ clock ∧ (kvs (leftOf es seen).toList).Perm rest

theorem born_perm {e : MapEntry} : ∀ {L : List MapEntry}, (L.map (·.born)).Nodup → e ∈ L → L.Perm (e :: L.filter fun x => !(x.born == e.born))
 | [], _, h => by cases h
 | x :: L, hn, h => by
  rw [List.map_cons, List.nodup_cons] at hn
  rcases List.mem_cons.1 h with rfl | h
  ·rw [List.filter_cons, if_neg (by simp)]
   have : L.filter (fun x => !(x.born == e.born)) = L := by
    rw [List.filter_eq_self]
    intro y hy
    have : y.born ≠ e.born := fun h => hn.1 (h ▸ List.mem_map.2 ⟨y, hy, rfl⟩)
    simpa using this
   rw [this]
  ·have hne : x.born ≠ e.born := fun h2 => hn.1 (h2 ▸ List.mem_map.2 ⟨e, h, rfl⟩)
   rw [List.filter_cons, if_pos (by simpa using hne)]
   exact ((born_perm hn.2 h).cons x).trans (List.Perm.swap ..)

section
variable {w w' : World} {d : TypeDesc} {b r : Nat} {M rest : List (Value × Value)} {P : Program} {t kt et : TypeId}
theorem MRange.keep (h : MRange w d b r M rest) (hb : w'.heap[b]? = w.heap[b]?) (hr : w'.heap[r]? = w.heap[r]?) : MRange w' d b r M rest :=
 let ⟨es, c, s, n, c0, h1, h2, h3, h4, h5, h6⟩ := h; ⟨es, c, s, n, c0, hb.trans h1, h2, h3, h4, hr.trans h5, h6⟩
theorem MapOf.run_range (h : MapOf w d b M) (hm : P.underlying t = some (.map kt et)) :
  ∃ w', (Instr.range t (.map (some b))).run P w = .ok (.pointer (some ⟨w.heap.size, 0, none⟩)) w' ∧ MRange w' d b w.heap.size M M ∧ Fr (fun _ => False) w w' ∧ w'.heap.size = w.heap.size + 1 := by
 have hlt := h.lt
 obtain ⟨es, c, h1, h2, h3, h4⟩ := h
 refine ⟨_, run_range_map w t kt et b es c hm h1, ⟨es, c, c, #[], c, block_old h1 _, h2, h3, h4, block_new _ _, h2.1, Nat.le_refl _, Nat.le_refl _, ?_⟩, (Fr.refl _ _).alloc _, by simp⟩
 have : (leftOf es #[]) = es := by unfold leftOf; simp
 rw [this]
 exact h4

theorem MRange.run_next (h : MRange w d b r M rest) (ty : TypeId) :
  (rest = [] ∧ (Instr.next (.pointer (some ⟨r, 0, none⟩)) false ty).run P w = .ok (.tuple #[.bool false]) w) ∨
  ∃ k v w' rest', rest.Perm ((k, v) :: rest') ∧ (Instr.next (.pointer (some ⟨r, 0, none⟩)) false ty).run P w = .ok (.tuple #[.bool true, k, v]) w' ∧ MRange w' d b r M rest' ∧ Fr (fun i => i = r) w w' ∧
   (Instr.entry (.pointer (some ⟨r, 0, none⟩))).run P w' = .ok (.tuple #[k, v]) w' ∧ w'.heap.size = w.heap.size := by
 obtain ⟨es, c, since, seen, c0, h1, h2, h3, h4, h5, h6, h7, h7', h8⟩ := h
 have hne : r ≠ b := by rintro rfl; rw [h1] at h5; cases h5
 rcases run_next_at (P := P) w ty r b since c0 seen es c h5 h1 h6 h7 with ⟨h0, hrun⟩ | ⟨e, he, w1, hal, hrun⟩
 ·refine .inl ⟨?_, hrun⟩
  have : (leftOf es seen).toList = [] := by rw [← List.length_eq_zero_iff]; simpa using h0
  rw [this] at h8
  exact List.Perm.eq_nil h8.symm
 ·have hr1 : w1.heap[r]? = some (.mapIter (some b) since seen c0) := by rcases hal with rfl | rfl <;> exact h5
  have hb1 : w1.heap[b]? = some (.map es c) := by rcases hal with rfl | rfl <;> exact h1
  have hset := heap_set (o' := .mapIter (some b) since (seen.push e.born) c) hr1
  have hb' : (setBlock w1 r (.mapIter (some b) since (seen.push e.born) c)).heap[b]? = some (.map es c) := (hset.2 b (fun e1 => hne e1.symm)).trans hb1
  have hem : e ∈ es.toList := by
   unfold leftOf at he; rw [Array.toList_filter] at he; exact (List.mem_filter.1 he).1
  have hnd : ((leftOf es seen).toList.map (·.born)).Nodup := by
   unfold leftOf; rw [Array.toList_filter]
   exact h2.2.1.sublist (List.filter_sublist.map _)
  have hleft : (leftOf es (seen.push e.born)).toList = (leftOf es seen).toList.filter fun x => !(x.born == e.born) := by
   unfold leftOf
   rw [Array.toList_filter, Array.toList_filter, List.filter_filter]
   refine List.filter_congr fun x _ => ?_
   show (!(seen.push e.born).contains x.born) = _
   rw [contains_push]
   cases seen.contains x.born <;> cases (x.born == e.born) <;> rfl
  have hp : (kvs (leftOf es seen).toList).Perm ((e.key, e.val) :: kvs (leftOf es (seen.push e.born)).toList) := by
   have := (born_perm hnd he).map fun x : MapEntry => (x.key, x.val)
   rw [hleft]
   exact this
  refine .inr ⟨e.key, e.val, _, kvs (leftOf es (seen.push e.born)).toList, h8.symm.trans hp, hrun,
   ⟨es, c, since, seen.push e.born, c, hb', h2, h3, h4, hset.1, h6, h7', h7', .refl _⟩, ?_, run_entry_at _ r b since seen es c e hset.1 hb' hem h2.2.1, ?_⟩
  ·refine ⟨?_, ?_, ?_, ?_, fun k _ hk => ?_⟩
   ·rcases hal with rfl | rfl <;> rfl
   ·rcases hal with rfl | rfl <;> rfl
   ·rcases hal with rfl | rfl <;> rfl
   ·rcases hal with rfl | rfl <;> simp [setBlock]
   ·have := hset.2 k hk
    rcases hal with rfl | rfl <;> exact this
  ·rcases hal with rfl | rfl <;> simp [setBlock]
end

/-! ### at the operation, for the walk -/
section
variable {P : Program} {w : World} {ops : Array Oper} {rest : List Oper} {o : Oper} {a : Act} {Q : Exit → Act → World → Prop} {d : TypeDesc} {b r : Nat} {M L : List (Value × Value)}
theorem wpList_map_range (hg : o.guard = none) (m : Operand) (t : TypeId) (hop : o.op = Op.range t m) (kt et : TypeId) (hm : P.underlying t = some (.map kt et)) (ha : a.eval m = .map (some b)) (h : MapOf w d b M)
  (hK : ∀ w', MRange w' d b w.heap.size M M → Fr (fun _ => False) w w' → w'.heap.size = w.heap.size + 1 → wpList P ops Q rest (a.put o.dst (.pointer (some ⟨w.heap.size, 0, none⟩))) w') : wpList P ops Q (o :: rest) a w := by
 refine wpList_plain hg fun K' hK' => ?_
 obtain ⟨w', hrun, r1, r2, r3⟩ := h.run_range hm
 unfold Oper.wp
 simp [execOp, hop, ha, hrun, Result.andThen]
 exact hK' _ _ (hK w' r1 r2 r3)
theorem wpList_map_next (hg : o.guard = none) (it : Operand) (hop : o.op = Op.next it false) (hit : a.eval it = .pointer (some ⟨r, 0, none⟩)) (h : MRange w d b r M L)
  (hDone : L = [] → wpList P ops Q rest (a.put o.dst (.tuple #[.bool false])) w)
  (hMore : ∀ k v w' L', L.Perm ((k, v) :: L') → MRange w' d b r M L' → Fr (fun i => i = r) w w' → (Instr.entry (.pointer (some ⟨r, 0, none⟩))).run P w' = .ok (.tuple #[k, v]) w' → w'.heap.size = w.heap.size → wpList P ops Q rest (a.put o.dst (.tuple #[.bool true, k, v])) w') :
  wpList P ops Q (o :: rest) a w := by
 refine wpList_plain hg fun K' hK' => ?_
 unfold Oper.wp
 rcases h.run_next (P := P) o.type with ⟨h0, hrun⟩ | ⟨k, v, w', L', h1, hrun, h2, h3, h4, h5⟩
 ·simp [execOp, hop, hit, hrun, Result.andThen]
  exact hK' _ _ (hDone h0)
 ·simp [execOp, hop, hit, hrun, Result.andThen]
  exact hK' _ _ (hMore k v w' L' h1 h2 h3 h4 h5)
end
end Go.Proofs.YtgmghopcppniaaaGreatDoor
