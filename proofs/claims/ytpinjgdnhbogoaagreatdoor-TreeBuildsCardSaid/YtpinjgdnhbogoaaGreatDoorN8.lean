/- Tokens that are gathered: invariants (no walk). -/
import Derived.Test.YtpinjgdnhbogoaaGreatDoorN7
namespace Go.Proofs.YtpinjgdnhbogoaaGreatDoor
open Go.RowKit Go.Lib

/-- tokens in a row of one's own of type T from block B on; their attributes lie in blocks of A, or from B on -/
def TokO (T : TypeId) (B : Nat) (A : Nat → Prop) (w : World) (lv : Value) (l : List TokD) : Prop :=
  ∃ ps : List (TokD × Value), ps.map Prod.fst = l ∧ w.ownsRow B T 4 lv ps.length (tcells ps) ∧ ∀ p ∈ ps, SRow w (fun k => (A k ∧ k < B) ∨ (B ≤ k ∧ k < w.heap.size ∧ lv.ownBlock ≠ some k)) 2 p.2 p.1.attrs.length (acells p.1.attrs)
theorem TokO.nil (T : TypeId) (B : Nat) (A : Nat → Prop) (w : World) : TokO T B A w (.slice none 0 0) [] := ⟨[], rfl, World.ownsRow_nil _ _ _ _, fun _ h => by cases h⟩
theorem TokO.fr {T : TypeId} {B : Nat} {A : Nat → Prop} {w w' : World} {lv : Value} {l : List TokD} {o : Nat → Prop} (h : TokO T B A w lv l) (hf : Fr o w w') (ho : ∀ k, o k → k < B ∧ ¬ A k) : TokO T B A w' lv l := by
  obtain ⟨ps, h1, h2, h3⟩ := h
  refine ⟨ps, h1, ownsRow_keep h2 fun k hk => hf.block k (h2.lt k hk).2 fun e => ?_, fun p hp => ((h3 p hp).fr hf fun k hk e => ?_).mono fun k hk => ?_⟩
  · have := (ho k e).1; have := (h2.lt k hk).1; omega
  · have := ho k e
    rcases hk with hk | hk
    · exact this.2 hk.1
    · omega
  · rcases hk with hk | hk
    · exact .inl hk
    · exact .inr ⟨hk.1, Nat.lt_of_lt_of_le hk.2.1 hf.size, hk.2.2⟩
theorem TokO.view {T : TypeId} {B : Nat} {A : Nat → Prop} {w : World} {lv : Value} {l : List TokD} (h : TokO T B A w lv l) : TokV w (fun k => (A k ∧ k < B) ∨ (B ≤ k ∧ k < w.heap.size)) lv l := by
  obtain ⟨ps, h1, h2, h3⟩ := h
  refine ⟨ps, h1, (SRow.of_owns h2).mono fun k hk => .inr (h2.lt k hk), fun p hp => (h3 p hp).mono fun k hk => ?_⟩
  rcases hk with hk | hk
  · exact .inl hk
  · exact .inr ⟨hk.1, hk.2.1⟩
theorem tcells_one2 {ps : List (TokD × Value)} (h : ∀ p ∈ ps, ∃ a n c, p.2 = .slice a n c) : ∀ u ∈ tcells ps, u.oneCell' = true := by
  intro u hu
  unfold tcells at hu
  rw [List.mem_flatMap] at hu
  obtain ⟨p, hp, hu⟩ := hu
  obtain ⟨a, n, c, e⟩ := h p hp
  simp [tc] at hu
  rcases hu with rfl | rfl | rfl | rfl
  · rfl
  · rfl
  · rw [e]; rfl
  · rfl
/-- some more tokens -/
theorem TokO.push {T : TypeId} {B : Nat} {A o : Nat → Prop} {w W w7 : World} {lv lv2 : Value} {ps qs : List (TokD × Value)} (h2 : w.ownsRow B T 4 lv ps.length (tcells ps))
    (h3 : ∀ p ∈ ps, SRow w (fun k => (A k ∧ k < B) ∨ (B ≤ k ∧ k < w.heap.size ∧ lv.ownBlock ≠ some k)) 2 p.2 p.1.attrs.length (acells p.1.attrs))
    (hf : Fr o w W) (ho : ∀ k, o k → k < B ∧ ¬ A k) (hq : ∀ q ∈ qs, SRow W (fun k => (A k ∧ k < B) ∨ (B ≤ k ∧ k < W.heap.size ∧ lv.ownBlock ≠ some k)) 2 q.2 q.1.attrs.length (acells q.1.attrs))
    (hg : W.grownBy w7 lv.ownBlock) (hat : lv2.ownBlock = lv.ownBlock ∨ lv2.ownBlock = some W.heap.size) (hr : w7.ownsRow B T 4 lv2 (ps.length + qs.length) (tcells ps ++ tcells qs)) : TokO T B A w7 lv2 (ps.map Prod.fst ++ qs.map Prod.fst) := by
  have hlt : ∀ k, lv.ownBlock = some k → B ≤ k ∧ k < w.heap.size := fun k hk => h2.lt k hk
  have hfg : Fr (fun k => lv.ownBlock = some k) W w7 := (Fr.refl _ _).grown hg fun k hk => .inl hk
  have hsz := hf.size
  have hsz7 := hg.size
  have key : ∀ {u : Value} {n : Nat} {xs : List Value}, SRow W (fun k => (A k ∧ k < B) ∨ (B ≤ k ∧ k < W.heap.size ∧ lv.ownBlock ≠ some k)) 2 u n xs → SRow w7 (fun k => (A k ∧ k < B) ∨ (B ≤ k ∧ k < w7.heap.size ∧ lv2.ownBlock ≠ some k)) 2 u n xs := by
    intro u n xs hu
    refine (hu.fr hfg fun k hk e => ?_).mono fun k hk => ?_
    · have := hlt k e
      rcases hk with hk | hk
      · omega
      · exact hk.2.2 e
    · rcases hk with hk | hk
      · exact .inl hk
      · refine .inr ⟨hk.1, by omega, fun e => ?_⟩
        rcases hat with h | h
        · rw [h] at e; exact hk.2.2 e
        · rw [h] at e; cases e; omega
  refine ⟨ps ++ qs, by rw [List.map_append], by rw [List.length_append, ← tcells_app]; exact hr, fun p hp => ?_⟩
  rcases List.mem_append.1 hp with hp | hp
  · refine key (((h3 p hp).fr hf fun k hk e => ?_).mono fun k hk => ?_)
    · have := ho k e
      rcases hk with hk | hk
      · exact this.2 hk.1
      · omega
    · rcases hk with hk | hk
      · exact .inl hk
      · exact .inr ⟨hk.1, by omega, hk.2.2⟩
  · exact key (hq p hp)
/-- attributes that were made behind the row -/
theorem row_behind {A : Nat → Prop} {B B2 : Nat} {W : World} {lv u : Value} {n : Nat} {xs : List Value} (h : SRow W (fun k => B2 ≤ k ∧ k < W.heap.size) 2 u n xs) (hB : B ≤ B2) (hl : ∀ k, lv.ownBlock = some k → k < B2) : SRow W (fun k => (A k ∧ k < B) ∨ (B ≤ k ∧ k < W.heap.size ∧ lv.ownBlock ≠ some k)) 2 u n xs :=
  h.mono fun k hk => .inr ⟨by omega, hk.2, fun e => by have := hl k e; omega⟩
end Go.Proofs.YtpinjgdnhbogoaaGreatDoor
