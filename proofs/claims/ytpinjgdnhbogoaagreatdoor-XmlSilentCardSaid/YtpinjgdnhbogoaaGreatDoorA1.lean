/- as: tokens as the reference has them. -/
import Derived.Test.YtpinjgdnhbogoaaGreatDoorG2
import Derived.BigQuiet
import Derived.StillTailTactics
namespace Go.Proofs.YtpinjgdnhbogoaaGreatDoor
open Go.RowKit Go.Lib

theorem info95 : (Tryz.prog.info? 95).map (fun i => (i.zero, i.size, i.bytes)) = some (some (.agg #[.string ⟨#[]⟩, .string ⟨#[]⟩]), 2, 32) := by kernel_rfl
theorem info97 : (Tryz.prog.info? 97).map (fun i => (i.zero, i.size, i.bytes)) = some (some (.agg #[.int .i64 0, .string ⟨#[]⟩, .slice none 0 0, .string ⟨#[]⟩]), 4, 64) := by kernel_rfl
def bigA (p : Str × Str) : Bool := decide (100 < p.1.length) || decide (300 < p.2.length)
def bigT (x : TokD) : Bool := decide (100 < x.name.length) || decide (500 < x.text.length) || decide (20 < x.attrs.length) || x.attrs.any bigA
def fitsA (a : List TokD) : Bool := decide (a.length ≤ 100) && !a.any bigT
/-- the reference's tokens in memory, in rows of one's own -/
def RToks (B : Nat) (w : World) (v : Value) (l : List TokD) : Prop :=
  ∃ ps : List (TokD × Value), ps.map Prod.fst = l ∧ w.ownsRow B 97 4 v ps.length (tcells ps) ∧ ∀ p ∈ ps, w.ownsRow B 95 2 p.2 p.1.attrs.length (acells p.1.attrs)
theorem RToks.fr {B : Nat} {w w' : World} {v : Value} {l : List TokD} (h : RToks B w v l) (hf : Fr (fun _ => False) w w') : RToks B w' v l := by
  obtain ⟨ps, h1, h2, h3⟩ := h
  exact ⟨ps, h1, ownsRow_fr h2 hf, fun p hp => ownsRow_fr (h3 p hp) hf⟩
theorem RToks.view {B : Nat} {w : World} {v : Value} {l : List TokD} (h : RToks B w v l) : TokV w (fun k => B ≤ k ∧ k < w.heap.size) v l := by
  obtain ⟨ps, h1, h2, h3⟩ := h
  exact ⟨ps, h1, (SRow.of_owns h2).mono fun k hk => h2.lt k hk, fun p hp => (SRow.of_owns (h3 p hp)).mono fun k hk => (h3 p hp).lt k hk⟩
theorem TokV.fr {w w' : World} {S o : Nat → Prop} {v : Value} {l : List TokD} (h : TokV w S v l) (hf : Fr o w w') (ho : ∀ k, S k → ¬ o k) : TokV w' S v l := by
  obtain ⟨ps, h1, h2, h3⟩ := h
  exact ⟨ps, h1, h2.fr hf ho, fun p hp => (h3 p hp).fr hf ho⟩
/-- a row grows by one token -/
theorem RToks.push {B : Nat} {w w7 : World} {v v2 av : Value} {l : List TokD} {x : TokD} {ps : List (TokD × Value)} (h1 : ps.map Prod.fst = l) (h2 : w.ownsRow B 97 4 v ps.length (tcells ps)) (h3 : ∀ p ∈ ps, w.ownsRow B 95 2 p.2 p.1.attrs.length (acells p.1.attrs))
    (hav : w.ownsRow B 95 2 av x.attrs.length (acells x.attrs)) (hg : w.grownBy w7 v.ownBlock) (hr : w7.ownsRow B 97 4 v2 (ps.length + 1) (tcells ps ++ tcells [(x, av)])) : RToks B w7 v2 (l ++ [x]) := by
  refine ⟨ps ++ [(x, av)], by simp [h1], by rw [List.length_append, ← tcells_app]; exact hr, fun p hp => ?_⟩
  have key : ∀ {q : Value} {n : Nat} {xs : List Value}, w.ownsRow B 95 2 q n xs → w7.ownsRow B 95 2 q n xs := by
    intro q n xs hq
    refine ownsRow_keep hq fun k hk => hg.block k (hq.lt k hk).2 fun e => ?_
    rcases hq.2 with ⟨rfl, _⟩ | ⟨g, cap, cur, rfl, _, hh, _⟩
    · simp [Value.ownBlock] at hk
    · simp only [Value.ownBlock, Option.some.injEq] at hk
      subst hk
      exact own_ne h2 hh (by decide) e.symm
  rcases List.mem_append.1 hp with hp | hp
  · exact key (h3 p hp)
  · simp only [List.mem_singleton] at hp; subst hp; exact key hav
/-- within a token: its struct t in block b6, its attributes so far -/
structure AttrIn (w9 : World) (x : TokD) (k : Nat) (av : Value) (W : World) : Prop where
  blk : W.heap[w9.heap.size]? = some (.cells #[.int .i64 x.kind, .string (bs x.name), av, .string (bs x.text)] 97 (0, 0))
  row : W.ownsRow (w9.heap.size + 1) 95 2 av k (acells (x.attrs.take k))
  ok : (x.attrs.take k).any bigA = false
  fr : Fr (fun _ => False) w9 W
theorem AttrIn.push {w9 W W2 w7 : World} {x : TokD} {k : Nat} {av av2 : Value} {p : Str × Str} (h : AttrIn w9 x k av W) (hx : x.attrs[k]? = some p) (hp : bigA p = false) (hF : Fr (fun _ => False) W W2)
    (hg : W2.grownBy w7 av.ownBlock) (hr : w7.ownsRow (w9.heap.size + 1) 95 2 av2 (k + 1) (acells (x.attrs.take k) ++ acells [p])) :
    w7.heap[w9.heap.size]? = some (.cells #[.int .i64 x.kind, .string (bs x.name), av, .string (bs x.text)] 97 (0, 0)) ∧ AttrIn w9 x (k + 1) av2 (w7.setCell ⟨w9.heap.size, 2, none⟩ av2) := by
  obtain ⟨h1, h2, h3, h4⟩ := h
  have htk : x.attrs.take (k + 1) = x.attrs.take k ++ [p] := by rw [List.take_add_one, hx]; rfl
  have hr2 := ownsRow_fr h2 hF
  have hb2 := hF.keep h1 (fun h => h)
  have hb7 := block_grown hb2 hg (fun e => by have := (hr2.lt _ e.symm).1; omega)
  have hne := own_ne hr hb7 (by decide)
  refine ⟨hb7, block_set hb7 2 av2, ?_, by rw [htk, List.any_append, h3]; simp [hp], ?_⟩
  · rw [htk, ← acells_app]
    exact ownsRow_keep hr fun j hj => block_set_ne (fun e => hne (by rw [hj, e]))
  · exact Fr.setCell (p := ⟨w9.heap.size, 2, none⟩) ((h4.next hF).grown hg fun j hj => .inr (by have := (hr2.lt _ hj).1; omega)) (.inr (Nat.le_refl _)) _
end Go.Proofs.YtpinjgdnhbogoaaGreatDoor
