/- sync.Once, one goroutine: the parts. -/
import Derived.Test.YtpinjgdnhbogoaaDoorM5
import Derived.Defers
import Derived.Laws.Pointers
import Derived.Laws.LoneSync
import Derived.RegionTactic
import Derived.RegionCalls
import Derived.ChangeAlike
import Derived.Tactics
import Derived.Tactics2
import Derived.Laws.Rows
import Derived.Deep.WholeRow
import Derived.Deep.MidRow
import Derived.Laws.IdiomStrings
import Derived.WalkSpells
import Derived.Test.YtpinjgdnhbogoaaDoorShelf
import Derived.BigQuiet
import Derived.IntWalk
import Derived.Deep.DeepCutAuto
import Derived.Deep.CutBlock
import Derived.StillTailTactics
import Derived.Shelf.Spec.SlicesInsert
namespace Go.Proofs.YtpinjgdnhbogoaaDoor
open Go.RowKit Go.Lib

end Go.Proofs.YtpinjgdnhbogoaaDoor

/- strings.NewReplacer, at a row of ten texts. -/
namespace Go.Proofs.YtpinjgdnhbogoaaDoor
open Go.RowKit Go.Lib

def strs (l : List Str) : List Value := l.map fun s => .string (bs s)
end Go.Proofs.YtpinjgdnhbogoaaDoor

/- strings.Replacer: build. -/
namespace Go.Proofs.YtpinjgdnhbogoaaDoor
open Go.RowKit Go.Lib

def pcs : List UInt8 := [38, 60, 62, 34, 39]
def pvs : List Str := [[38, 97, 109, 112, 59], [38, 108, 116, 59], [38, 103, 116, 59], [38, 113, 117, 111, 116, 59], [38, 97, 112, 111, 115, 59]]
def pc (j : Nat) : UInt8 := pcs.getD j 0
def pv (j : Nat) : Str := pvs.getD j []
def oldNew : List Str := [[38], [38, 97, 109, 112, 59], [60], [38, 108, 116, 59], [62], [38, 103, 116, 59], [34], [38, 113, 117, 111, 116, 59], [39], [38, 97, 112, 111, 115, 59]]
def repF (k : Nat) (c : UInt8) : Option Str :=
  if k ≤ 0 ∧ c = 38 then some (pv 0) else if k ≤ 1 ∧ c = 60 then some (pv 1) else if k ≤ 2 ∧ c = 62 then some (pv 2) else if k ≤ 3 ∧ c = 34 then some (pv 3) else if k ≤ 4 ∧ c = 39 then some (pv 4) else none
theorem repF_step : ∀ j, j < 5 → ∀ c : UInt8, repF j c = if c = pc j then some (pv j) else repF (j + 1) c := by
  intro j hj c
  match j, hj with
  | 0, _ => unfold repF pc pcs; by_cases h : c = 38 <;> simp [h]
  | 1, _ => unfold repF pc pcs; by_cases h : c = 60 <;> simp [h]
  | 2, _ => unfold repF pc pcs; by_cases h : c = 62 <;> simp [h]
  | 3, _ => unfold repF pc pcs; by_cases h : c = 34 <;> simp [h]
  | 4, _ => unfold repF pc pcs; by_cases h : c = 39 <;> simp [h]
theorem esc_rep (c : UInt8) : escC c = match repF 0 c with | some l => l | none => [c] := by
  unfold escC repF
  by_cases h1 : c = 38
  · simp [h1]; rfl
  by_cases h2 : c = 60
  · simp [h2]; rfl
  by_cases h3 : c = 62
  · simp [h3]; rfl
  by_cases h4 : c = 34
  · simp [h4]; rfl
  by_cases h5 : c = 39
  · simp [h5]; rfl
  simp [h1, h2, h3, h4, h5]
def BytesBlk (W : World) (g : Nat) (l : Str) : Prop := ∃ cur fz, W.heap[g]? = some (.cells cur 5 fz) ∧ ∀ j, j < l.length → cur[j]? = some (.int .u8 ((l.getD j 0).toNat : Int))
def slotOK (W : World) (B : Nat) (x : Option Value) (o : Option Str) : Prop := match o with
  | none => x = some (.slice none 0 0)
  | some l => ∃ g cap, x = some (.slice (some ⟨g, 0, none⟩) l.length cap) ∧ B ≤ g ∧ BytesBlk W g l
def toRep (k : Nat) : List Str := ((List.range 5).drop k).reverse.map fun j => [pc j]
structure BRel (w : World) (bb k : Nat) (C : Array Value) (tv : Value) (W : World) : Prop where
  blk : W.heap[bb]? = some (.cells C 224 (0, 0))
  size : C.size = 257
  slots : ∀ c : UInt8, slotOK W w.heap.size C[c.toNat]? (repF k c)
  last : C[256]? = some tv
  row : W.ownsRow w.heap.size 9 1 tv (5 - k) (strs (toRep k))
  fr : Fr (fun _ => False) w W
  low : w.heap.size ≤ bb
def cells0 (sl : Value) : Array Value := (Array.replicate 256 (.slice none 0 0)).push sl
theorem BytesBlk.keep {W W' : World} {g : Nat} {l : Str} (h : BytesBlk W g l) (hk : ∀ (c : Array Value) (f : Nat × Nat), W.heap[g]? = some (Obj.cells c 5 f) → W'.heap[g]? = some (Obj.cells c 5 f)) : BytesBlk W' g l := by
  obtain ⟨cur, fz, h1, h2⟩ := h
  exact ⟨cur, fz, hk _ _ h1, h2⟩
theorem slotOK.keep {W W' : World} {B : Nat} {x : Option Value} {o : Option Str} (h : slotOK W B x o) (hk : ∀ (g : Nat) (c : Array Value) (f : Nat × Nat), W.heap[g]? = some (Obj.cells c 5 f) → W'.heap[g]? = some (Obj.cells c 5 f)) : slotOK W' B x o := by
  unfold slotOK at h ⊢
  cases o with
  | none => exact h
  | some l =>
    obtain ⟨g, cap, h1, h2, h3⟩ := h
    exact ⟨g, cap, h1, h2, h3.keep (hk g)⟩
theorem BRel.fr2 {w W W2 : World} {bb k : Nat} {C : Array Value} {tv : Value} (h : BRel w bb k C tv W) (hf : Fr (fun _ => False) W W2) : BRel w bb k C tv W2 :=
  ⟨hf.keep h.blk (fun h => h), h.size, fun c => slotOK.keep (h.slots c) fun _g _c _f hg => hf.keep hg (fun h => h), h.last, ownsRow_fr h.row hf, h.fr.next hf, h.low⟩
/-- the row of what is replaced has grown -/
theorem BRel.grow {w W w7 : World} {bb m : Nat} {C : Array Value} {tv : Value} (h : BRel w bb (m + 1) C tv W) (hg : W.grownBy w7 tv.ownBlock) :
    w7.heap[bb]? = some (.cells C 224 (0, 0)) ∧ (∀ c : UInt8, slotOK w7 w.heap.size C[c.toNat]? (repF (m + 1) c)) ∧ Fr (fun _ => False) w w7 := by
  refine ⟨block_grown h.blk hg (fun e => own_ne h.row h.blk (by decide) e.symm), fun c => slotOK.keep (h.slots c) fun g c f hgb => block_grown hgb hg (fun e => own_ne h.row hgb (by decide) e.symm), h.fr.grown hg fun k hk => .inr (h.row.lt k hk).1⟩
theorem pc_lt (m : Nat) : (pc m).toNat < 256 := (pc m).toNat_lt
theorem BRel.step {w W w7 w8 : World} {bb m cap7 cap8 g8 n : Nat} {b7 : Option Addr} {C : Array Value} {tv : Value} (hm : m < 5) (h : BRel w bb (m + 1) C tv W) (hg : W.grownBy w7 tv.ownBlock) (hn : n = 5 - m)
    (hr : w7.ownsRow w.heap.size 9 1 (.slice b7 n cap7) n (strs (toRep m))) (hF8 : Fr (fun _ => False) (w7.setCell ⟨bb, 256, none⟩ (.slice b7 n cap7)) w8) (hby : BytesBlk w8 g8 (pv m)) (hg8 : w.heap.size ≤ g8) :
    w8.heap[bb]? = some (.cells (C.setIfInBounds 256 (.slice b7 n cap7)) 224 (0, 0)) ∧
    BRel w bb m ((C.setIfInBounds 256 (.slice b7 n cap7)).setIfInBounds (pc m).toNat (.slice (some ⟨g8, 0, none⟩) (pv m).length cap8)) (.slice b7 n cap7) (w8.setCell ⟨bb, (pc m).toNat, none⟩ (.slice (some ⟨g8, 0, none⟩) (pv m).length cap8)) := by
  obtain ⟨hb7, hs7, hF7⟩ := h.grow hg
  have hne7 := own_ne hr hb7 (by decide)
  have hb7' : (w7.setCell ⟨bb, 256, none⟩ (.slice b7 n cap7)).heap[bb]? = some (.cells (C.setIfInBounds 256 (.slice b7 n cap7)) 224 (0, 0)) := block_set hb7 256 _
  have hb8 := hF8.keep hb7' (fun h => h)
  have hr7 : (w7.setCell ⟨bb, 256, none⟩ (.slice b7 n cap7)).ownsRow w.heap.size 9 1 (.slice b7 n cap7) n (strs (toRep m)) := ownsRow_keep hr fun k hk => block_set_ne (fun e => hne7 (by rw [hk, e]))
  have hr8 := ownsRow_fr hr7 hF8
  have hne8 := own_ne hr8 hb8 (by decide)
  have hsz := h.size
  have hpc := pc_lt m
  have keep5 : ∀ (g : Nat) (c : Array Value) (f : Nat × Nat), w7.heap[g]? = some (Obj.cells c 5 f) → (w8.setCell ⟨bb, (pc m).toNat, none⟩ (.slice (some ⟨g8, 0, none⟩) (pv m).length cap8)).heap[g]? = some (Obj.cells c 5 f) := by
    intro g c f hgb
    have hne : g ≠ bb := ne_of_elem hgb hb7 (by decide)
    exact (block_set_ne hne).trans (hF8.keep ((block_set_ne hne).trans hgb) (fun h => h))
  refine ⟨hb8, ⟨block_set hb8 _ _, by rw [Array.size_setIfInBounds, Array.size_setIfInBounds]; exact hsz, fun c => ?_, ?_, ?_, ?_, h.low⟩⟩
  · have hc := c.toNat_lt
    rw [repF_step m hm c]
    by_cases hcp : c = pc m
    · rw [if_pos hcp, hcp, Array.getElem?_setIfInBounds_self_of_lt (by rw [Array.size_setIfInBounds, hsz]; omega)]
      refine ⟨g8, cap8, rfl, hg8, hby.keep fun c f hgb => ?_⟩
      exact (block_set_ne (ne_of_elem hgb hb8 (by decide))).trans hgb
    · rw [if_neg hcp, Array.getElem?_setIfInBounds_ne (fun e => hcp (UInt8.toNat_inj.1 e.symm)), Array.getElem?_setIfInBounds_ne (by omega)]
      exact slotOK.keep (hs7 c) keep5
  · rw [Array.getElem?_setIfInBounds_ne (by omega), Array.getElem?_setIfInBounds_self_of_lt (by omega)]
  · rw [← hn]
    exact ownsRow_keep hr8 fun k hk => block_set_ne (fun e => hne8 (by rw [hk, e]))
  · exact Fr.setCell (p := ⟨bb, (pc m).toNat, none⟩) (Fr.next (Fr.setCell (p := ⟨bb, 256, none⟩) hF7 (.inr h.low) _) hF8) (.inr h.low) _
end Go.Proofs.YtpinjgdnhbogoaaDoor

/- strings.Replacer: built once. -/
namespace Go.Proofs.YtpinjgdnhbogoaaDoor
open Go.RowKit Go.Lib

theorem heap_lt {W : World} {b : Nat} {x : Obj} (h : W.heap[b]? = some x) : b < W.heap.size := (Array.getElem?_eq_some_iff.1 h).1
structure Built (B bb : Nat) (W : World) : Prop where
  blk : ∃ C tv, W.heap[bb]? = some (.cells C 224 (0, 0)) ∧ C.size = 257 ∧ (∀ c : UInt8, slotOK W B C[c.toNat]? (repF 0 c)) ∧ C[256]? = some tv ∧ W.ownsRow B 9 1 tv 5 (strs (toRep 0))
  low : B ≤ bb
theorem Built.keep {B bb : Nat} {W W' : World} (h : Built B bb W) (hk : ∀ g, B ≤ g → g < W.heap.size → W'.heap[g]? = W.heap[g]?) : Built B bb W' := by
  obtain ⟨⟨C, tv, h1, h2, h3, h4, h5⟩, h6⟩ := h
  refine ⟨⟨C, tv, (hk bb h6 (heap_lt h1)).trans h1, h2, fun c => ?_, h4, ownsRow_keep h5 fun k hk2 => hk k (h5.lt k hk2).1 (h5.lt k hk2).2⟩, h6⟩
  have := h3 c
  unfold slotOK at this ⊢
  cases hr : repF 0 c with
  | none => rw [hr] at this; exact this
  | some l =>
    rw [hr] at this
    obtain ⟨g, cap, e1, e2, e3⟩ := this
    exact ⟨g, cap, e1, e2, e3.keep fun c f hg => (hk g e2 (heap_lt hg)).trans hg⟩
theorem Built.fr {B bb : Nat} {W W' : World} {o : Nat → Prop} (h : Built B bb W) (hf : Fr o W W') (ho : ∀ k, o k → k < B) : Built B bb W' :=
  h.keep fun g h1 h2 => hf.block g h2 fun h3 => by have := ho g h3; omega
theorem BRel.built {w W : World} {bb : Nat} {C : Array Value} {tv : Value} (h : BRel w bb 0 C tv W) : Built w.heap.size bb W :=
  ⟨⟨C, tv, h.blk, h.size, h.slots, h.last, h.row⟩, h.low⟩
end Go.Proofs.YtpinjgdnhbogoaaDoor

/- byteStringReplacer: plain parts. -/
namespace Go.Proofs.YtpinjgdnhbogoaaDoor
open Go.RowKit Go.Lib

def escN (c : UInt8) : Nat := match repF 0 c with | some l => l.length - 1 | none => 0
def isRep (c : UInt8) : Bool := (repF 0 c).isSome
def escAt (j : Nat) : UInt8 := pc (4 - j)
theorem esc_len (c : UInt8) : (escC c).length = 1 + escN c := by
  rw [esc_rep]; unfold escN
  cases h : repF 0 c with
  | none => rfl
  | some l =>
    have : 1 ≤ l.length := by
      unfold repF at h
      split at h
      · cases h; decide
      split at h
      · cases h; decide
      split at h
      · cases h; decide
      split at h
      · cases h; decide
      split at h
      · cases h; decide
      cases h
    simp only; omega
theorem escN_le (c : UInt8) : escN c ≤ 5 := by
  unfold escN repF
  split
  · rename_i l h
    split at h
    · cases h; decide
    split at h
    · cases h; decide
    split at h
    · cases h; decide
    split at h
    · cases h; decide
    split at h
    · cases h; decide
    cases h
  · omega
/-- what the first k texts that are replaced make longer -/
def longer : Nat → Str → Nat
  | 0, _ => 0
  | k + 1, s => longer k s + s.count (escAt k) * ((pv (4 - k)).length - 1)
def anyOf : Nat → Str → Bool
  | 0, _ => false
  | k + 1, s => anyOf k s || s.count (escAt k) != 0
theorem longer_cons (c : UInt8) (s : Str) : ∀ k, k ≤ 5 → longer k (c :: s) = longer k s + longer k [c]
  | 0, _ => rfl
  | k + 1, h => by
    have ih := longer_cons c s k (by omega)
    simp only [longer, List.count_cons, List.count_nil, ih, Nat.add_mul, Nat.zero_add]
    omega
theorem longer_one (c : UInt8) : longer 5 [c] = escN c := by
  unfold escN
  simp only [longer, escAt, List.count_cons, List.count_nil, pc, pcs, pv, pvs, repF]
  by_cases h1 : c = 38
  · subst h1; rfl
  by_cases h2 : c = 60
  · subst h2; rfl
  by_cases h3 : c = 62
  · subst h3; rfl
  by_cases h4 : c = 34
  · subst h4; rfl
  by_cases h5 : c = 39
  · subst h5; rfl
  simp [h1, h2, h3, h4, h5]
theorem esc_longer (s : Str) : (escL s).length = s.length + longer 5 s := by
  induction s with
  | nil => rfl
  | cons c s ih => rw [escL_cons, List.length_append, ih, longer_cons c s 5 (by omega), longer_one, esc_len, List.length_cons]; omega
theorem longer_le (s : Str) : longer 5 s ≤ 5 * s.length := by
  have h := esc_longer s
  have : (escL s).length ≤ 6 * s.length := by
    clear h
    induction s with
    | nil => exact Nat.zero_le _
    | cons c s ih => rw [escL_cons, List.length_append, esc_len, List.length_cons]; have := escN_le c; omega
  omega
end Go.Proofs.YtpinjgdnhbogoaaDoor

/- byteStringReplacer.Replace. -/
namespace Go.Proofs.YtpinjgdnhbogoaaDoor
open Go.RowKit Go.Lib

theorem take_more (s : Str) (i : Nat) (h : i < s.length) : s.take (i + 1) = s.take i ++ [s.getD i 0] := by
  rw [List.take_add_one, List.getD_eq_getElem?_getD, List.getElem?_eq_getElem h]; rfl
theorem esc_le (s : Str) : (escL s).length ≤ 6 * s.length := by have := esc_longer s; have := longer_le s; omega

theorem Fr.setRow {o : Nat → Prop} {a b : World} (h : Fr o a b) {g : Nat} (hg : o g ∨ a.heap.size ≤ g) (cs : Array Value) : Fr o a (b.setRow g cs) := by
  refine ⟨h.os, h.tape, h.output, ?_, fun k hk hno => ?_⟩
  · show a.heap.size ≤ (b.heap.modify g _).size
    rw [Array.size_modify]; exact h.size
  · have hne : g ≠ k := fun e => by subst e; rcases hg with h1 | h1; exact hno h1; omega
    show (b.heap.modify g _)[k]? = _
    rw [Array.getElem?_modify, if_neg hne]; exact h.block k hk hno
structure BufTo (w1 : World) (s : Str) (N i q : Nat) (wr : World) : Prop where
  here : q = (escL (s.take i)).length
  blk : ∃ cur, wr.heap[w1.heap.size]? = some (.cells cur 5 (0, 0)) ∧ cur.size = N ∧ ∀ t, t < q → cur[t]? = some (.int .u8 (((escL s).getD t 0).toNat : Int))
  fr : Fr (fun _ => False) w1 wr
theorem esc_split (s : Str) (i : Nat) (h : i < s.length) : escL s = escL (s.take i) ++ (escC (s.getD i 0) ++ escL (s.drop (i + 1))) := by
  have e : s = s.take i ++ (s.getD i 0 :: s.drop (i + 1)) := by
    rw [List.getD_eq_getElem?_getD, List.getElem?_eq_getElem h]
    simp
  conv => lhs; rw [e]
  rw [escL_append, escL_cons]
theorem esc_next (s : Str) (i : Nat) (h : i < s.length) : (escL (s.take (i + 1))).length = (escL (s.take i)).length + (escC (s.getD i 0)).length := by
  rw [take_more s i h, escL_append, List.length_append]; simp [escL]
theorem esc_get (s : Str) (i : Nat) (h : i < s.length) (t : Nat) (ht : t < (escC (s.getD i 0)).length) : (escL s).getD ((escL (s.take i)).length + t) 0 = (escC (s.getD i 0)).getD t 0 := by
  generalize hx : escC (s.getD i 0) = x at ht ⊢
  rw [esc_split s i h, hx, List.getD_eq_getElem?_getD, List.getElem?_append_right (by omega), Nat.add_sub_cancel_left, List.getElem?_append_left ht, List.getD_eq_getElem?_getD]
theorem esc_room (s : Str) (i : Nat) (h : i < s.length) : (escL (s.take i)).length + (escC (s.getD i 0)).length ≤ (escL s).length := by
  conv => rhs; rw [esc_split s i h]
  simp only [List.length_append]; omega
theorem BufTo.byte {w1 wr : World} {s : Str} {N i q : Nat} {c : UInt8} (h : BufTo w1 s N i q wr) (hN : N = (escL s).length) (hi : i < s.length) (hc : s.getD i 0 = c) (hr : repF 0 c = none) :
    q < N ∧ BufTo w1 s N (i + 1) (q + 1) (wr.setCell ⟨w1.heap.size, q, none⟩ (.int .u8 (c.toNat : Int))) := by
  obtain ⟨h1, ⟨cur, h2, h3, h4⟩, h5⟩ := h
  have e1 : escC c = [c] := by rw [esc_rep, hr]
  have hroom := esc_room s i hi
  have hnext := esc_next s i hi
  have hget := esc_get s i hi 0
  rw [hc, e1] at hroom hnext hget
  simp only [List.length_singleton, Nat.add_zero] at hroom hnext hget
  have hq : q < N := by omega
  refine ⟨hq, by omega, ⟨_, block_set h2 q _, by rw [Array.size_setIfInBounds]; exact h3, fun t ht => ?_⟩, h5.setCell (p := ⟨w1.heap.size, q, none⟩) (.inr (Nat.le_refl _)) _⟩
  by_cases e : t = q
  · subst e
    rw [Array.getElem?_setIfInBounds_self_of_lt (by omega), h1, hget (by omega)]; rfl
  · rw [Array.getElem?_setIfInBounds_ne (fun e2 => e e2.symm)]; exact h4 t (by omega)
def u8s (l : Str) : List Value := l.map fun c => .int .u8 (c.toNat : Int)
theorem BufTo.text {w1 wr : World} {s : Str} {N i q : Nat} {c : UInt8} {l : Str} (h : BufTo w1 s N i q wr) (hN : N = (escL s).length) (hi : i < s.length) (hc : s.getD i 0 = c) (hr : repF 0 c = some l) :
    q + l.length ≤ N ∧ ∃ cur, wr.heap[w1.heap.size]? = some (.cells cur 5 (0, 0)) ∧ cur.size = N ∧ ∀ W : World, W.heap = wr.heap → Fr (fun _ => False) wr W → BufTo w1 s N (i + 1) (q + l.length) (W.setRow w1.heap.size (cur.toList.take q ++ u8s l ++ cur.toList.drop (q + (u8s l).length)).toArray) := by
  obtain ⟨h1, ⟨cur, h2, h3, h4⟩, h5⟩ := h
  have e1 : escC c = l := by rw [esc_rep, hr]
  have hroom := esc_room s i hi
  have hnext := esc_next s i hi
  have hget := esc_get s i hi
  rw [hc, e1] at hroom hnext hget
  have hu : (u8s l).length = l.length := by unfold u8s; rw [List.length_map]
  have hq : q + l.length ≤ N := by omega
  have hl0 : (cur.toList.take q).length = q := by rw [List.length_take]; simp; omega
  refine ⟨hq, cur, h2, h3, fun W hW hFW => ⟨by omega, ⟨_, setRow_heap W _ cur _ 5 (0, 0) (by rw [hW]; exact h2), ?_, fun t ht => ?_⟩, (h5.next hFW).setRow (.inr (Nat.le_refl _)) _⟩⟩
  · simp only [List.size_toArray, List.length_append, hl0, hu, List.length_drop, Array.length_toList]; omega
  · simp only [List.getElem?_toArray]
    by_cases e : t < q
    · rw [List.append_assoc, List.getElem?_append_left (by omega), List.getElem?_take, if_pos e, Array.getElem?_toList]; exact h4 t e
    · rw [List.append_assoc, List.getElem?_append_right (by omega), hl0, List.getElem?_append_left (by omega)]
      have hg := hget (t - q) (by omega)
      rw [← h1, show q + (t - q) = t by omega] at hg
      rw [hg]
      unfold u8s
      rw [List.getElem?_map, List.getD_eq_getElem?_getD, List.getElem?_eq_getElem (by omega)]; rfl
end Go.Proofs.YtpinjgdnhbogoaaDoor

/- strings.Replacer.Replace; xml.Escape. -/
namespace Go.Proofs.YtpinjgdnhbogoaaDoor
open Go.RowKit Go.Lib

end Go.Proofs.YtpinjgdnhbogoaaDoor
