/- Items in memory. -/
import Derived.Test.YtpinjgdnhbogoaaGreatDoorN3
import Derived.Test.YtpinjgdnhbogoaaGreatDoorM0
namespace Go.Proofs.YtpinjgdnhbogoaaGreatDoor
open Go.RowKit Go.Lib

def icell (x : ItemD) : List Value := [.string (bs x.id), .string (bs x.title), .string (bs x.link)]
def icells (l : List ItemD) : List Value := l.flatMap icell
theorem icells_cons (x : ItemD) (l : List ItemD) : icells (x :: l) = .string (bs x.id) :: .string (bs x.title) :: .string (bs x.link) :: icells l := rfl
theorem icells_app (a b : List ItemD) : icells (a ++ b) = icells a ++ icells b := List.flatMap_append
theorem icells_one : ∀ {l : List ItemD}, ∀ u ∈ icells l, u.oneCell' = true
  | [], u, h => by cases h
  | x :: l, u, h => by
    rw [icells_cons] at h
    simp only [List.mem_cons] at h
    rcases h with rfl | rfl | rfl | h
    · rfl
    · rfl
    · rfl
    · exact icells_one u h
theorem icells_at : ∀ {l : List ItemD} {k : Nat} {x : ItemD}, l[k]? = some x → (icells l)[k * 3]? = some (.string (bs x.id)) ∧ (icells l)[k * 3 + 1]? = some (.string (bs x.title)) ∧ (icells l)[k * 3 + 2]? = some (.string (bs x.link))
  | [], _, _, h => by simp at h
  | y :: l, 0, x, h => by simp at h; subst h; exact ⟨rfl, rfl, rfl⟩
  | y :: l, k + 1, x, h => by
    have ih := icells_at (l := l) (k := k) (by simpa using h)
    rw [icells_cons, show (k + 1) * 3 = k * 3 + 1 + 1 + 1 by omega]
    exact ih
def ItemsV (w : World) (S : Nat → Prop) (v : Value) (l : List ItemD) : Prop := SRow w S 3 v l.length (icells l)
theorem ItemsV.cells {w : World} {S : Nat → Prop} {a : Option Addr} {n cap : Nat} {l : List ItemD} (h : ItemsV w S (.slice a n cap) l) (hp : 0 < l.length) : ∃ g off, a = some ⟨g, off, none⟩ ∧ ∀ i x, l[i]? = some x →
    w.cell? ⟨g, off + i * 3, none⟩ = some (.string (bs x.id)) ∧ w.cell? ⟨g, off + i * 3 + 1, none⟩ = some (.string (bs x.title)) ∧ w.cell? ⟨g, off + i * 3 + 2, none⟩ = some (.string (bs x.link)) := by
  obtain ⟨_, a', cap', e, _⟩ := id h
  injection e with e1 e2 e3
  subst e2
  obtain ⟨g, off, h1, h2⟩ := SRow.cell h hp
  refine ⟨g, off, h1, fun i x hx => ?_⟩
  obtain ⟨c0, c1, c2⟩ := icells_at hx
  have e1 := h2 _ _ c1
  have e2 := h2 _ _ c2
  rw [← Nat.add_assoc] at e1 e2
  exact ⟨h2 _ _ c0, e1, e2⟩
theorem ItemsV.fr {w w' : World} {S o : Nat → Prop} {v : Value} {l : List ItemD} (h : ItemsV w S v l) (hf : Fr o w w') (ho : ∀ k, S k → ¬ o k) : ItemsV w' S v l := SRow.fr h hf ho
theorem ItemsV.mono {w : World} {S S' : Nat → Prop} {v : Value} {l : List ItemD} (h : ItemsV w S v l) (hs : ∀ k, S k → S' k) : ItemsV w S' v l := SRow.mono h hs
theorem ItemsV.shape {w : World} {S : Nat → Prop} {v : Value} {l : List ItemD} (h : ItemsV w S v l) : ∃ a cap, v = .slice a l.length cap ∧ l.length ≤ cap ∧ cap ≤ maxLen := by
  obtain ⟨_, a, c, h1, h2, h3, _⟩ := h; exact ⟨a, c, h1, h2, h3⟩
end Go.Proofs.YtpinjgdnhbogoaaGreatDoor
