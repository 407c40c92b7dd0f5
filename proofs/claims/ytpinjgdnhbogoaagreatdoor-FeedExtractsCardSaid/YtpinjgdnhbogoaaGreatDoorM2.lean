/- alike: two rows of tokens. -/
import Derived.Test.YtpinjgdnhbogoaaGreatDoorM1
namespace Go.Proofs.YtpinjgdnhbogoaaGreatDoor
open Go.RowKit Go.Lib

def TokV (w : World) (S : Nat → Prop) (v : Value) (l : List TokD) : Prop :=
  ∃ ps : List (TokD × Value), ps.map Prod.fst = l ∧ SRow w S 4 v ps.length (tcells ps) ∧ ∀ p ∈ ps, SRow w S 2 p.2 p.1.attrs.length (acells p.1.attrs)
theorem tcells_at : ∀ {ps : List (TokD × Value)} {k : Nat} {p : TokD × Value}, ps[k]? = some p → (tcells ps)[k * 4]? = some (.int .i64 p.1.kind) ∧ (tcells ps)[k * 4 + 1]? = some (.string (bs p.1.name)) ∧ (tcells ps)[k * 4 + 2]? = some p.2 ∧ (tcells ps)[k * 4 + 3]? = some (.string (bs p.1.text))
  | [], _, _, h => by simp at h
  | q :: ps, 0, p, h => by simp at h; subst h; simp [tcells, tc]
  | q :: ps, k + 1, p, h => by
    have ih := tcells_at (ps := ps) (k := k) (by simpa using h)
    have e : tcells (q :: ps) = .int .i64 q.1.kind :: .string (bs q.1.name) :: q.2 :: .string (bs q.1.text) :: tcells ps := by simp [tcells, tc]
    rw [e, show (k + 1) * 4 = k * 4 + 1 + 1 + 1 + 1 by omega]
    exact ih
structure ElemAt (w : World) (S : Nat → Prop) (g off i : Nat) (x : TokD) (av : Value) : Prop where
  c0 : w.cell? ⟨g, off + i * 4, none⟩ = some (.int .i64 x.kind)
  c1 : w.cell? ⟨g, off + i * 4 + 1, none⟩ = some (.string (bs x.name))
  c2 : w.cell? ⟨g, off + i * 4 + 2, none⟩ = some av
  c3 : w.cell? ⟨g, off + i * 4 + 3, none⟩ = some (.string (bs x.text))
  row : SRow w S 2 av x.attrs.length (acells x.attrs)
theorem TokV.elems {w : World} {S : Nat → Prop} {v : Value} {l : List TokD} (h : TokV w S v l) : ∃ a cap, v = .slice a l.length cap ∧ l.length ≤ cap ∧ cap ≤ maxLen ∧ (0 < l.length → ∃ g off, a = some ⟨g, off, none⟩ ∧ ∀ i x, l[i]? = some x → ∃ av, ElemAt w S g off i x av) := by
  obtain ⟨ps, rfl, hr, hrow⟩ := h
  have hlen : (ps.map Prod.fst).length = ps.length := List.length_map _
  obtain ⟨h0, a, cap, rfl, hnc, hcm, h5, h6⟩ := id hr
  refine ⟨a, cap, by rw [hlen], by omega, hcm, fun hpos => ?_⟩
  obtain ⟨g, off, rfl, hc⟩ := hr.cell (by omega)
  refine ⟨g, off, rfl, fun i x hx => ?_⟩
  rw [List.getElem?_map] at hx
  obtain ⟨p, hp, rfl⟩ := Option.map_eq_some_iff.1 hx
  obtain ⟨k0, k1, k2, k3⟩ := tcells_at hp
  have e1 := hc _ _ k1
  have e2 := hc _ _ k2
  have e3 := hc _ _ k3
  rw [← Nat.add_assoc] at e1 e2 e3
  exact ⟨p.2, hc _ _ k0, e1, e2, e3, hrow p (List.mem_of_getElem? hp)⟩
theorem Toks.view {B : Nat} {w : World} {v : Value} {l : List TokD} (h : Toks B w v l) : TokV w (fun k => B ≤ k ∧ k < w.heap.size) v l := by
  obtain ⟨ps, h1, h2, h3⟩ := h
  exact ⟨ps, h1, (SRow.of_owns h2).mono fun k hk => h2.lt k hk, fun p hp => (SRow.of_owns (h3 p hp)).mono fun k hk => (h3 p hp).lt k hk⟩
end Go.Proofs.YtpinjgdnhbogoaaGreatDoor

/- shown: chapter 11's examples. -/
namespace Go.Proofs.YtpinjgdnhbogoaaGreatDoor
open Go.RowKit Go.Lib

theorem Toks.sliced {B : Nat} {w : World} {v : Value} {l : List TokD} (h : Toks B w v l) : ∃ a cap, v = .slice a l.length cap ∧ l.length ≤ cap ∧ cap ≤ maxLen := by
  obtain ⟨a, cap, h1, h2, h3, _⟩ := h.view.elems
  exact ⟨a, cap, h1, h2, h3⟩
def ex1 : Str := [60, 97, 32, 98, 61, 34, 49, 38, 97, 109, 112, 59, 50, 34, 62, 120, 60, 33, 45, 45, 32, 121, 32, 45, 45, 62, 60, 33, 91, 67, 68, 65, 84, 65, 91, 60, 122, 62, 93, 93, 62, 60, 47, 97, 62]
def ex1T : List TokD := [⟨1, [97], [([98], [49, 38, 50])], []⟩, ⟨3, [], [], [120, 60, 122, 62]⟩, ⟨2, [97], [], []⟩]
theorem r1 : readD ex1 = (ex1T, 0, 0) := by decide +kernel
theorem r2 : readD [60, 97, 47, 62] = ([⟨1, [97], [], []⟩, ⟨2, [97], [], []⟩], 0, 0) := by decide +kernel
theorem r3 : readD [60, 97, 32, 98, 61, 49, 62] = ([], 8, 0) := by decide +kernel
theorem e1 : escL [97, 38, 39] = [97, 38, 97, 109, 112, 59, 38, 97, 112, 111, 115, 59] := by decide +kernel
end Go.Proofs.YtpinjgdnhbogoaaGreatDoor
