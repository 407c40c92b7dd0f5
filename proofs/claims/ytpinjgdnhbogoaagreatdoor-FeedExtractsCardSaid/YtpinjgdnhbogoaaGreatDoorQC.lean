/- The reference's tokens in memory: more of them, one row behind another (no walk). -/
import Derived.Test.YtpinjgdnhbogoaaGreatDoorM7
import Derived.Test.YtpinjgdnhbogoaaGreatDoorQ9
import Derived.Test.YtpinjgdnhbogoaaGreatDoorY4
namespace Go.Proofs.YtpinjgdnhbogoaaGreatDoor
open Go.RowKit Go.Lib

theorem RToks.nil (B : Nat) (w : World) : RToks B w (.slice none 0 0) [] := ⟨[], rfl, World.ownsRow_nil _ _ _ _, fun _ h => by cases h⟩
theorem RToks.base {B B2 : Nat} {w : World} {v : Value} {l : List TokD} (h : RToks B w v l) (hb : B2 ≤ B) : RToks B2 w v l := by
  obtain ⟨ps, h1, h2, h3⟩ := h
  exact ⟨ps, h1, ownsRow_base h2 hb, fun p hp => ownsRow_base (h3 p hp) hb⟩
theorem RToks.shape {B : Nat} {w : World} {v : Value} {l : List TokD} (h : RToks B w v l) : ∃ a cap, v = .slice a l.length cap := by
  obtain ⟨ps, h1, h2, _⟩ := h
  rcases h2.2 with ⟨rfl, hn⟩ | ⟨g, cap, cur, rfl, _⟩
  · have : l.length = 0 := by rw [← h1, List.length_map]; exact hn
    exact ⟨none, 0, by rw [this]⟩
  · exact ⟨_, cap, by rw [← h1, List.length_map]⟩
/-- a row grows by tokens whose attributes lie behind B, too -/
theorem RToks.app {B : Nat} {w w7 : World} {v v2 : Value} {ps qs : List (TokD × Value)} (h2 : w.ownsRow B 97 4 v ps.length (tcells ps)) (h3 : ∀ p ∈ ps, w.ownsRow B 95 2 p.2 p.1.attrs.length (acells p.1.attrs))
    (hq : ∀ p ∈ qs, w.ownsRow B 95 2 p.2 p.1.attrs.length (acells p.1.attrs)) (hg : w.grownBy w7 v.ownBlock) (hr : w7.ownsRow B 97 4 v2 (ps.length + qs.length) (tcells ps ++ tcells qs)) : RToks B w7 v2 (ps.map Prod.fst ++ qs.map Prod.fst) := by
  refine ⟨ps ++ qs, by rw [List.map_append], by rw [List.length_append, ← tcells_app]; exact hr, fun p hp => ?_⟩
  have key : ∀ {q : Value} {n : Nat} {xs : List Value}, w.ownsRow B 95 2 q n xs → w7.ownsRow B 95 2 q n xs := by
    intro q n xs hq
    refine ownsRow_keep hq fun k hk => hg.block k (hq.lt k hk).2 fun e => ?_
    rcases hq.2 with ⟨rfl, _⟩ | ⟨g, cap, cur, rfl, _, hh, _⟩
    · simp [Value.ownBlock] at hk
    · simp only [Value.ownBlock, Option.some.injEq] at hk
      subst hk
      exact own_ne h2 hh (by decide) e.symm
  rcases List.mem_append.1 hp with hp | hp
  · exact key (h3 p hp)
  · exact key (hq p hp)
theorem tcells_oneR {w : World} {B : Nat} {ps : List (TokD × Value)} (h : ∀ p ∈ ps, w.ownsRow B 95 2 p.2 p.1.attrs.length (acells p.1.attrs)) : ∀ u ∈ tcells ps, u.oneCell' = true := by
  intro u hu
  unfold tcells at hu
  rw [List.mem_flatMap] at hu
  obtain ⟨p, hp, hu⟩ := hu
  have e := own_one (h p hp)
  simp [tc] at hu
  rcases hu with rfl | rfl | rfl | rfl
  · rfl
  · rfl
  · exact e
  · rfl
theorem rrow_two {W : World} {B : Nat} {n : Str} {av : Value} {l : List (Str × Str)} (h : W.ownsRow B 95 2 av l.length (acells l)) (hB : B ≤ W.heap.size) :
    RToks B (W.alloc (.cells #[.int .i64 1, .string (bs n), av, .string ⟨#[]⟩, .int .i64 2, .string (bs n), .slice none 0 0, .string ⟨#[]⟩] 97)) (.slice (some ⟨W.heap.size, 0, none⟩) 2 2) [⟨1, n, l, []⟩, ⟨2, n, [], []⟩] := by
  refine ⟨[(⟨1, n, l, []⟩, av), (⟨2, n, [], []⟩, .slice none 0 0)], rfl, ⟨rfl, .inr ⟨_, 2, _, rfl, hB, block_new _ _, by simp, by unfold maxLen; omega, rfl, rfl⟩⟩, fun p hp => ?_⟩
  have hF : Fr (fun _ => False) W (W.alloc (.cells #[.int .i64 1, .string (bs n), av, .string ⟨#[]⟩, .int .i64 2, .string (bs n), .slice none 0 0, .string ⟨#[]⟩] 97)) := (Fr.refl _ _).alloc _
  simp at hp
  rcases hp with rfl | rfl
  · exact ownsRow_fr h hF
  · exact World.ownsRow_nil _ _ _ _
theorem rrow_one {W : World} {B : Nat} {k : Int} {n tx : Str} {av : Value} {l : List (Str × Str)} (h : W.ownsRow B 95 2 av l.length (acells l)) (hB : B ≤ W.heap.size) :
    RToks B (W.alloc (.cells #[.int .i64 k, .string (bs n), av, .string (bs tx)] 97)) (.slice (some ⟨W.heap.size, 0, none⟩) 1 1) [⟨k, n, l, tx⟩] := by
  refine ⟨[(⟨k, n, l, tx⟩, av)], rfl, ⟨rfl, .inr ⟨_, 1, _, rfl, hB, block_new _ _, by simp, by unfold maxLen; omega, rfl, rfl⟩⟩, fun p hp => ?_⟩
  have hF : Fr (fun _ => False) W (W.alloc (.cells #[.int .i64 k, .string (bs n), av, .string (bs tx)] 97)) := (Fr.refl _ _).alloc _
  simp at hp
  subst hp
  exact ownsRow_fr h hF
/-- an open tag while it is read: t in the block tb, its attributes so far -/
structure RTagIn (w : World) (tb : Nat) (s n : Str) (i : Nat) (l : List (Str × Str)) (av : Value) (wr : World) : Prop where
  at_ : TagAt s n i l
  blk : wr.heap[tb]? = some (.cells #[.int .i64 1, .string (bs n), av, .string ⟨#[]⟩] 97 (0, 0))
  row : wr.ownsRow w.heap.size 95 2 av l.length (acells l)
  fr : Fr (fun _ => False) w wr
  low : w.heap.size ≤ tb
theorem RTagIn.fr2 {w wr w2 : World} {tb i : Nat} {s n : Str} {l : List (Str × Str)} {av : Value} (h : RTagIn w tb s n i l av wr) (hf : Fr (fun _ => False) wr w2) : RTagIn w tb s n i l av w2 :=
  ⟨h.at_, hf.keep h.blk (fun h => h), ownsRow_fr h.row hf, h.fr.next hf, h.low⟩
theorem RTagIn.next {w w6 w7 : World} {tb i j : Nat} {s n a v : Str} {l : List (Str × Str)} {av : Value} {b : Option Addr} {cap : Nat} (h : RTagIn w tb s n i l av w6) (hg : w6.grownBy w7 av.ownBlock) (hr : w7.ownsRow w.heap.size 95 2 (.slice b (l.length + 1) cap) (l.length + 1) (acells l ++ [.string (bs a), .string (bs v)])) (he : TagAt s n j (l ++ [(a, v)])) :
    w7.heap[tb]? = some (.cells #[.int .i64 1, .string (bs n), av, .string ⟨#[]⟩] 97 (0, 0)) ∧ RTagIn w tb s n j (l ++ [(a, v)]) (.slice b (l.length + 1) cap) (w7.setCell ⟨tb, 2, none⟩ (.slice b (l.length + 1) cap)) := by
  have hb7 := block_grown h.blk hg (fun e => own_ne h.row h.blk (by decide) e.symm)
  have hne := own_ne hr hb7 (by decide)
  have hF : Fr (fun _ => False) w w7 := h.fr.grown hg fun k hk => .inr (h.row.lt k hk).1
  have e2 : (l ++ [(a, v)]).length = l.length + 1 := by simp
  refine ⟨hb7, ⟨he, block_set hb7 2 _, ?_, Fr.setCell (p := ⟨tb, 2, none⟩) hF (.inr h.low) _, h.low⟩⟩
  rw [e2, ← acells_app]
  exact ownsRow_keep hr fun k hk => block_set_ne (fun e => hne (by rw [hk, e]))
def RTagPost (s : Str) (w : World) (e : Ending) (w' : World) : Prop :=
  (match tagL (s.drop 1) with
    | some (l, rest) => ∃ v, e = .returned (.tuple #[v, .int .i64 ((s.length - rest.length : Nat) : Int)]) ∧ RToks w.heap.size w' v l
    | none => e = .returned (.tuple #[.slice none 0 0, .int .i64 0])) ∧ Fr (fun _ => False) w w'
theorem rtag_bad {s : Str} {w w' : World} (h : tagL (s.drop 1) = none) (hf : Fr (fun _ => False) w w') : RTagPost s w (.returned (.tuple #[.slice none 0 0, .int .i64 0])) w' := by
  unfold RTagPost; rw [h]; exact ⟨rfl, hf⟩
theorem rtag_good {s : Str} {l : List TokD} {k : Nat} {v : Value} {w w' : World} (h : tagL (s.drop 1) = some (l, s.drop k) ∧ k ≤ s.length) (ht : RToks w.heap.size w' v l) (hf : Fr (fun _ => False) w w') : RTagPost s w (.returned (.tuple #[v, .int .i64 (k : Int)])) w' := by
  unfold RTagPost
  rw [h.1]
  refine ⟨⟨v, ?_, ht⟩, hf⟩
  have h2 := h.2
  rw [show s.length - (s.drop k).length = k by rw [List.length_drop]; omega]
/-- no attribute of the first x has a name -/
def FreshTo (l : List (Str × Str)) (a : Str) (x : Nat) : Prop := (l.take x).any (fun b => b.1 == a) = false
theorem FreshTo.start (l : List (Str × Str)) (a : Str) : FreshTo l a 0 := rfl
theorem FreshTo.step {l : List (Str × Str)} {a : Str} {x : Nat} {p : Str × Str} (h : FreshTo l a x) (hp : l[x]? = some p) (hn : p.1 ≠ a) : FreshTo l a (x + 1) := by
  unfold FreshTo at h ⊢
  rw [List.take_add_one, hp, List.any_append, h]
  simp [hn]
theorem FreshTo.hit {l : List (Str × Str)} {a : Str} {x : Nat} {p : Str × Str} (hp : l[x]? = some p) (hn : p.1 = a) : (l.any fun b => b.1 == a) = true :=
  List.any_eq_true.2 ⟨p, List.mem_of_getElem? hp, by simpa using hn⟩
theorem FreshTo.done {l : List (Str × Str)} {a : Str} {x : Nat} (h : FreshTo l a x) (hx : l.length ≤ x) : (l.any fun b => b.1 == a) = false := by
  unfold FreshTo at h
  rw [List.take_of_length_le hx] at h; exact h
end Go.Proofs.YtpinjgdnhbogoaaGreatDoor
