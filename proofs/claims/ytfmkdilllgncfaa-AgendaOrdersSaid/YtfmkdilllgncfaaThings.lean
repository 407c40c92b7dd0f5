/- The heap of things in memory: what it is, and what its five methods do with it. -/
import Derived.Test.YtfmkdilllgncfaaA3
import Derived.Test.YtfmkdilllgncfaaMem
import Derived.Test.YtfmkdilllgncfaaHeap
namespace Go.Proofs.Ytfmkdilllgncfaa
open Go.RowKit Go.Lib

structure T3 where
  b : Nat
  t : Int
  id : Int
  deriving Inhabited

def T3.key (x : T3) : Int × Int := (x.t, x.id)
def T3.ptr (x : T3) : Value := .pointer (some ⟨x.b, 0, none⟩)
def keyF (l : List T3) : Nat → Int × Int := fun k => (l.getD k default).key
def swapL (l : List T3) (i j : Nat) : List T3 := (l.set i (l.getD j default)).set j (l.getD i default)

/-- 'ba': an agenda whose heap 'hv' is the things 'ts', in this order; 'mv': its map. -/
structure HRep (w : World) (ba : Nat) (hv mv : Value) (ts : List T3) : Prop where
  head : w.heap[ba]? = some (.cells #[hv, mv] 57 (0, 0))
  row : w.ownsRow 0 58 1 hv ts.length (ts.map T3.ptr)
  item : ∀ (k : Nat) (x : T3), ts[k]? = some x → w.heap[x.b]? = some (.cells #[.int .i64 x.t, .int .i64 x.id, .int .i64 k] 62 (0, 0))

def foot (ba : Nat) (hv : Value) (ts : List T3) (k : Nat) : Prop := k = ba ∨ hv.ownBlock = some k ∨ ∃ x ∈ ts, x.b = k

theorem swapL_length (l : List T3) (i j : Nat) : (swapL l i j).length = l.length := by simp [swapL]
theorem swapL_get {l : List T3} {i j : Nat} (hi : i < l.length) (hj : j < l.length) (k : Nat) :
    (swapL l i j)[k]? = if k = j then l[i]? else if k = i then l[j]? else l[k]? := by
  unfold swapL
  by_cases h1 : k = j
  · subst h1
    rw [if_pos rfl, List.getElem?_set_self (by simpa using hj)]
    simp [List.getD, hi]
  · rw [if_neg h1, List.getElem?_set_ne (Ne.symm h1)]
    by_cases h2 : k = i
    · subst h2
      rw [if_pos rfl, List.getElem?_set_self hi]
      simp [List.getD, hj]
    · rw [if_neg h2, List.getElem?_set_ne (Ne.symm h2)]
theorem swapL_key {l : List T3} {i j : Nat} (hi : i < l.length) (hj : j < l.length) : keyF (swapL l i j) = swapF (keyF l) i j := by
  funext k
  unfold keyF swapF List.getD
  rw [swapL_get hi hj]
  by_cases h1 : k = j
  · subst h1
    by_cases h2 : k = i
    · subst h2; simp
    · simp [h2]
  · by_cases h2 : k = i
    · subst h2; simp [h1]
    · simp [h1, h2]
theorem swapL_mem {l : List T3} {i j : Nat} (hi : i < l.length) (hj : j < l.length) (x : T3) : x ∈ swapL l i j ↔ x ∈ l := by
  have sub : ∀ (l : List T3), i < l.length → j < l.length → ∀ x, x ∈ swapL l i j → x ∈ l := by
    intro l hi hj x hx
    obtain ⟨k, hk⟩ := List.getElem?_of_mem hx
    rw [swapL_get hi hj] at hk
    split at hk
    · exact List.mem_of_getElem? hk
    · split at hk
      · exact List.mem_of_getElem? hk
      · exact List.mem_of_getElem? hk
  refine ⟨sub l hi hj x, fun h => ?_⟩
  have : swapL (swapL l i j) i j = l := by
    refine List.ext_getElem? fun k => ?_
    rw [swapL_get (by rwa [swapL_length]) (by rwa [swapL_length]), swapL_get hi hj, swapL_get hi hj, swapL_get hi hj]
    by_cases h1 : k = j
    · subst h1
      by_cases h2 : i = k
      · subst h2; simp
      · simp [h2]
    · by_cases h2 : k = i
      · subst h2; simp [h1]
      · simp [h1, h2]
  exact sub (swapL l i j) (by rwa [swapL_length]) (by rwa [swapL_length]) x (by rw [this]; exact h)
theorem swapL_perm {l : List T3} {i j : Nat} (hi : i < l.length) (hj : j < l.length) : (swapL l i j).Perm l := by
  have h := Array.swap_perm (xs := l.toArray) (i := i) (j := j) (by simpa using hi) (by simpa using hj)
  have h2 := Array.perm_iff_toList_perm.1 h
  have e : (l.toArray.swap i j (by simpa using hi) (by simpa using hj)).toList = swapL l i j := by
    simp [swapL, Array.swap, hi, hj]
  rw [e] at h2
  simpa using h2

section
variable {w : World} {ba : Nat} {hv mv : Value} {ts : List T3}

theorem HRep.keep {w' : World} (h : HRep w ba hv mv ts) (hk : ∀ k, foot ba hv ts k → w'.heap[k]? = w.heap[k]?) : HRep w' ba hv mv ts :=
  ⟨(hk _ (.inl rfl)).trans h.head, ownsRow_keep h.row fun k e => hk k (.inr (.inl e)), fun k x hx => (hk _ (.inr (.inr ⟨x, List.mem_of_getElem? hx, rfl⟩))).trans (h.item k x hx)⟩

/-- the facts that a walk wants of two places -/
theorem HRep.form (h : HRep w ba hv mv ts) (h0 : 0 < ts.length) : ∃ hb cap, hv = .slice (some ⟨hb, 0, none⟩) ts.length cap ∧ ts.length ≤ cap ∧ cap ≤ maxLen :=
  let ⟨g, cap, e, _, h1, h2⟩ := ownsRow_form h.row h0; ⟨g, cap, e, h1, h2⟩

theorem HRep.swapped {hb cap i j : Nat} (h : HRep w ba (.slice (some ⟨hb, 0, none⟩) ts.length cap) mv ts) (hi : i < ts.length) (hj : j < ts.length) (hij : i < j) {x y : T3} (hx : ts[i]? = some x) (hy : ts[j]? = some y) :
    HRep ((((w.setCell ⟨hb, i, none⟩ y.ptr).setCell ⟨hb, j, none⟩ x.ptr).setCell ⟨y.b, 2, none⟩ (.int .i64 i)).setCell ⟨x.b, 2, none⟩ (.int .i64 j)) ba (.slice (some ⟨hb, 0, none⟩) ts.length cap) mv (swapL ts i j) := by
  have ix := h.item i x hx
  have iy := h.item j y hy
  obtain ⟨cur, hcur⟩ := ownsRow_block h.row
  have nxy : x.b ≠ y.b := ne_of_obj ix iy (by intro e; injection e with e1; injection e1 with e2; simp at e2; omega)
  have nxh : x.b ≠ hb := ne_of_elem ix hcur (by decide)
  have nyh : y.b ≠ hb := ne_of_elem iy hcur (by decide)
  have nax : ba ≠ x.b := ne_of_elem h.head ix (by decide)
  have nay : ba ≠ y.b := ne_of_elem h.head iy (by decide)
  have nah : ba ≠ hb := ne_of_elem h.head hcur (by decide)
  refine ⟨?_, ?_, fun k z hz => ?_⟩
  · rw [block_set_ne nax, block_set_ne nay, block_set_ne nah, block_set_ne nah]; exact h.head
  · have r := ownsRow_set (ownsRow_set h.row i y.ptr) j x.ptr
    have e : ((ts.map T3.ptr).set i y.ptr).set j x.ptr = (swapL ts i j).map T3.ptr := by
      rw [← List.map_set, ← List.map_set, swapL]
      simp [List.getD, hx, hy]
    rw [e] at r
    rw [swapL_length]
    refine ownsRow_keep r fun k hk => ?_
    obtain rfl : hb = k := by simpa [Value.ownBlock] using hk
    rw [block_set_ne (Ne.symm nxh), block_set_ne (Ne.symm nyh)]
  · rw [swapL_get hi hj] at hz
    by_cases h1 : k = j
    · subst h1
      rw [if_pos rfl, hx] at hz
      obtain rfl := Option.some.inj hz
      refine block_set (c := #[.int .i64 x.t, .int .i64 x.id, .int .i64 i]) ?_ 2 _
      rw [block_set_ne nxy, block_set_ne nxh, block_set_ne nxh]; exact ix
    · rw [if_neg h1] at hz
      by_cases h2 : k = i
      · subst h2
        rw [if_pos rfl, hy] at hz
        obtain rfl := Option.some.inj hz
        rw [block_set_ne (Ne.symm nxy)]
        refine block_set (c := #[.int .i64 y.t, .int .i64 y.id, .int .i64 j]) ?_ 2 _
        rw [block_set_ne nyh, block_set_ne nyh]; exact iy
      · rw [if_neg h2] at hz
        have iz := h.item k z hz
        have nzx : z.b ≠ x.b := ne_of_obj iz ix (by intro e; injection e with e1; injection e1 with e2; simp at e2; omega)
        have nzy : z.b ≠ y.b := ne_of_obj iz iy (by intro e; injection e with e1; injection e1 with e2; simp at e2; omega)
        have nzh : z.b ≠ hb := ne_of_elem iz hcur (by decide)
        rw [block_set_ne nzx, block_set_ne nzy, block_set_ne nzh, block_set_ne nzh]
        exact iz
end
end Go.Proofs.Ytfmkdilllgncfaa
