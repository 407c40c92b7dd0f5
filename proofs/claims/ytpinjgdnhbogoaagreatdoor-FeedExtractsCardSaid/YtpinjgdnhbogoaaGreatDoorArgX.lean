/- Slices of structs that came in: attributes, tokens. -/
import Derived.Test.YtpinjgdnhbogoaaGreatDoorM2
import Derived.ProofKit
import Derived.OpenShut
import Derived.ShutString
import Derived.Deep.Slices
import Derived.Deep.Fields
import Derived.Test.YtpinjgdnhbogoaaGreatDoorFM
namespace Go.Proofs.YtpinjgdnhbogoaaGreatDoor
open Go.ChangeShapes Go.WideShapes Go.ChangeAt Go.RowKit
open Go.Deep

section
variable {H : Type} {enc : TypeId × Value → H} {P : Program} {w : World} {base : Nat} {spare : Nat → Bool} {held : Bool}
theorem open_fields {t : TypeId} {fs : Array Field} {fuel : Nat} {cs : List Value} {x : DataW H × List MemPlace} (he : P.underlying t = some (.struct fs))
    (hone : oneCellFields P fs = true) (hC : P.cellsOf t = fs.size) (h : DataW.trod enc P w base spare held fuel t cs = some x) :
    ∃ n, n < fuel ∧ cs.length = fs.size ∧ ∀ (j : Nat) (f : Field), fs[j]? = some f → ∃ (v : Value) (y : DataW H × List MemPlace), cs[j]? = some v ∧ DataW.trod enc P w base spare held n f.type [v] = some y := by
  obtain ⟨ys, n', hn', hy, hlen, hyl, hf⟩ := DataW.trod_struct he h
  rw [hC] at hlen
  refine ⟨n', by omega, hlen, fun j f hj => ?_⟩
  obtain ⟨ho, hk⟩ := hone_of hone j f hj
  have hjl : j < fs.size := (Array.getElem?_eq_some_iff.1 hj).1
  have hv : cs[j]? = some (cs[j]'(by omega)) := List.getElem?_eq_getElem (by omega)
  have h1 := hf j f hj
  rw [ho, hk] at h1
  have hone' : (cs.drop j).take 1 = [cs[j]'(by omega)] := by
    rw [List.drop_eq_getElem_cons (by omega)]
    rfl
  rw [hone'] at h1
  have hys : ys[j]? = some (ys[j]'(by omega)) := List.getElem?_eq_getElem (by omega)
  exact ⟨_, _, hv, h1.trans hys⟩
end

section
variable {H : Type} {enc : TypeId × Value → H} {W : World}
theorem str_of {n : Nat} {cs : List Value} {x : DataW H × List MemPlace} (h : DataW.trod enc Tryz.prog W 0 (fun _ => true) true n 9 cs = some x) : ∃ l, cs = [.string (bs l)] := by
  obtain ⟨s, h1, _, _⟩ := DataW.trod_string Tryz.underlying9 h
  obtain ⟨l, rfl⟩ := bs_of s
  exact ⟨l, h1⟩
noncomputable def fsOf (t : TypeId) : Array Field := match Tryz.prog.underlying t with | some (.struct fs) => fs | _ => #[]
theorem fs_at {fs : Array Field} {l : List TypeId} (h : fs.toList.map (·.type) = l) (j : Nat) (t : TypeId) (hj : l[j]? = some t) : ∃ f, fs[j]? = some f ∧ f.type = t := by
  rw [← h, List.getElem?_map] at hj
  obtain ⟨f, h1, h2⟩ := Option.map_eq_some_iff.1 hj
  exact ⟨f, by simpa using h1, h2⟩
theorem u64 : Tryz.prog.underlying 64 = some (.struct (fsOf 64)) := by kernel_rfl
def acell (p : Str × Str) : List Value := [.string (bs p.1), .string (bs p.2)]
end
end Go.Proofs.YtpinjgdnhbogoaaGreatDoor

/- Items that came in. -/
namespace Go.Proofs.YtpinjgdnhbogoaaGreatDoor
open Go.RowKit Go.Lib

theorem u82 : Tryz.prog.underlying 82 = some (.struct (fsOf 82)) := by kernel_rfl
theorem fs82 : (fsOf 82).toList.map (·.type) = [9, 9, 9] := by kernel_rfl
end Go.Proofs.YtpinjgdnhbogoaaGreatDoor

/- An item that came in by itself. -/
namespace Go.Proofs.YtpinjgdnhbogoaaGreatDoor
open Go.RowKit Go.Lib

theorem item_of {H : Type} {enc : TypeId × Value → H} {W : World} {fuel : Nat} {cs : List Value} {x : DataW H × List MemPlace} (h : DataW.trod enc Tryz.prog W 0 (fun _ => true) true fuel 82 cs = some x) :
    ∃ m : ItemD, cs = icell m ∧ True := by
  obtain ⟨n, _, hl, hf⟩ := open_fields u82 (by kernel_rfl) (by kernel_rfl) h
  have hsz : (fsOf 82).size = 3 := by have := congrArg List.length fs82; simpa using this
  rw [hsz] at hl
  obtain ⟨f0, g0, k0⟩ := fs_at fs82 0 9 rfl
  obtain ⟨f1, g1, k1⟩ := fs_at fs82 1 9 rfl
  obtain ⟨f2, g2, k2⟩ := fs_at fs82 2 9 rfl
  obtain ⟨v0, y0, c0, t0⟩ := hf 0 f0 g0
  obtain ⟨v1, y1, c1, t1⟩ := hf 1 f1 g1
  obtain ⟨v2, y2, c2, t2⟩ := hf 2 f2 g2
  rw [k0] at t0
  rw [k1] at t1
  rw [k2] at t2
  obtain ⟨l0, e0⟩ := str_of t0
  obtain ⟨l1, e1⟩ := str_of t1
  obtain ⟨l2, e2⟩ := str_of t2
  simp only [List.cons.injEq, and_true] at e0 e1 e2
  subst e0 e1 e2
  refine ⟨⟨l0, l1, l2⟩, ?_, trivial⟩
  match cs, hl, c0, c1, c2 with
  | [p, q, r], _, c0, c1, c2 =>
    simp at c0 c1 c2
    rw [c0, c1, c2]
    rfl
end Go.Proofs.YtpinjgdnhbogoaaGreatDoor
