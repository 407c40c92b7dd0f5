/- Size: how many elements, and how many in one another. -/
import Derived.Test.YtpinjgdnhbogoaaDoorN3
import Derived.Test.YtpinjgdnhbogoaaDoorM0
import Derived.Laws.EntriesVeiled
import Derived.BigQuiet
namespace Go.Proofs.YtpinjgdnhbogoaaDoor
open Go.RowKit Go.Lib

/-- one element of a row of elements, cell by cell -/
theorem kid_cells {w : World} {S : Nat → Prop} {g off i : Nat} {ks : List NodeD} {xs : List Value} {x : NodeD} (hc : ∀ i u, xs[i]? = some u → w.cell? ⟨g, off + i, none⟩ = some u) (hk : KidsV w S ks xs) (hx : ks[i]? = some x) :
    ∃ a1 n1 p1 a3 n3 p3, NodeV w S x [.string (bs x.name), .slice a1 n1 p1, .string (bs x.text), .slice a3 n3 p3] ∧ w.cell? ⟨g, off + i * 4, none⟩ = some (.string (bs x.name)) ∧ w.cell? ⟨g, off + i * 4 + 1, none⟩ = some (.slice a1 n1 p1) ∧ w.cell? ⟨g, off + i * 4 + 2, none⟩ = some (.string (bs x.text)) ∧ w.cell? ⟨g, off + i * 4 + 3, none⟩ = some (.slice a3 n3 p3) := by
  obtain ⟨ys, h1, h2⟩ := hk.at hx
  obtain ⟨av, kv, zs, rfl, ha, hb, _⟩ := h1.parts
  obtain ⟨-, a1, p1, rfl, -⟩ := id ha
  obtain ⟨-, a3, p3, rfl, -⟩ := id hb
  have c0 := hc _ _ (h2 0 _ rfl)
  have c1 := hc _ _ (h2 1 _ rfl)
  have c2 := hc _ _ (h2 2 _ rfl)
  have c3 := hc _ _ (h2 3 _ rfl)
  rw [Nat.add_zero] at c0
  rw [← Nat.add_assoc] at c1 c2 c3
  exact ⟨a1, _, p1, a3, _, p3, h1, c0, c1, c2, c3⟩
def szF (mb db wb : Nat) : Value := .func (.func 0) #[] #[.pointer (some ⟨mb, 0, none⟩), .pointer (some ⟨db, 0, none⟩), .pointer (some ⟨wb, 0, none⟩)]
def SzPost (mb db many best d : Nat) (n : NodeD) (w : World) (e : Ending) (w' : World) : Prop :=
  e = .returned (.tuple #[]) ∧ w'.heap[mb]? = some (.cells #[.int .i64 ((many + manyN n : Nat) : Int)] 3 (0, 0)) ∧ w'.heap[db]? = some (.cells #[.int .i64 ((deepTo best d n : Nat) : Int)] 3 (0, 0)) ∧ Fr (fun k => k = mb ∨ k = db) w w'
structure SzIn (mb db many best d : Nat) (n : NodeD) (w : World) (i : Nat) (W : World) : Prop where
  cm : W.heap[mb]? = some (.cells #[.int .i64 ((many + 1 + manyK (n.kids.take i) : Nat) : Int)] 3 (0, 0))
  cd : W.heap[db]? = some (.cells #[.int .i64 ((max (max best d) (d + deepK (n.kids.take i)) : Nat) : Int)] 3 (0, 0))
  fr : Fr (fun k => k = mb ∨ k = db) w W
theorem SzIn.next {mb db many best d : Nat} {n x : NodeD} {w W W2 w3 : World} {i : Nat} (h : SzIn mb db many best d n w i W) (hx : n.kids[i]? = some x) (hf : Fr (fun _ => False) W W2) {e : Ending}
    (hp : SzPost mb db (many + 1 + manyK (n.kids.take i)) (max (max best d) (d + deepK (n.kids.take i))) (d + 1) x W2 e w3) : SzIn mb db many best d n w (i + 1) w3 := by
  obtain ⟨_, h1, h2, h3⟩ := hp
  refine ⟨?_, ?_, (h.fr.trans hf fun _ h => h.elim).next h3⟩
  · rw [manyK_take hx, ← Nat.add_assoc]; exact h1
  · rw [← deepTo_kids best d n.kids i hx]; exact h2
end Go.Proofs.YtpinjgdnhbogoaaDoor
