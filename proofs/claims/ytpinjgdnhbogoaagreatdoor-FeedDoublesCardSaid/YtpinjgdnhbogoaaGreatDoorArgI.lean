/- Items that came in. -/
import Derived.Test.YtpinjgdnhbogoaaGreatDoorArg
import Derived.Test.YtpinjgdnhbogoaaGreatDoorFM
namespace Go.Proofs.YtpinjgdnhbogoaaGreatDoor
open Go.RowKit Go.Lib

theorem u82 : Tryz.prog.underlying 82 = some (.struct (fsOf 82)) := by kernel_rfl
theorem fs82 : (fsOf 82).toList.map (·.type) = [9, 9, 9] := by kernel_rfl
theorem items_of {H : Type} {enc : TypeId × Value → H} {W : World} {fuel : Nat} {cs : List Value} {x : DataW H × List MemPlace} (h : DataW.trod enc Tryz.prog W 0 (fun _ => true) true fuel 84 cs = some x) :
    ∃ (v : Value) (l : List ItemD), cs = [v] ∧ ItemsV W (fun k => k < W.heap.size) v l := by
  obtain ⟨v, l, h1, h2, _⟩ := row_of (α := ItemD) (f := icell) (k := 3) (fun _ => rfl) (by decide) (fun _ => True) (by kernel_rfl) u82 (by kernel_rfl) (by kernel_rfl) (by kernel_rfl) (fun {n} {c} _ hf => by
    obtain ⟨f0, g0, k0⟩ := fs_at fs82 0 9 rfl
    obtain ⟨f1, g1, k1⟩ := fs_at fs82 1 9 rfl
    obtain ⟨f2, g2, k2⟩ := fs_at fs82 2 9 rfl
    obtain ⟨v0, y0, c0, t0⟩ := hf 0 f0 g0
    obtain ⟨v1, y1, c1, t1⟩ := hf 1 f1 g1
    obtain ⟨v2, y2, c2, t2⟩ := hf 2 f2 g2
    rw [k0] at t0
    rw [k1] at t1
    rw [k2] at t2
    obtain ⟨l0, e0⟩ := str_of t0
    obtain ⟨l1, e1⟩ := str_of t1
    obtain ⟨l2, e2⟩ := str_of t2
    simp only [List.cons.injEq, and_true] at e0 e1 e2
    subst e0 e1 e2
    refine ⟨⟨l0, l1, l2⟩, fun j u hu => ?_, trivial⟩
    match j, hu with
    | 0, hu => rw [c0]; exact hu
    | 1, hu => rw [c1]; exact hu
    | 2, hu => rw [c2]; exact hu
    | _ + 3, hu => simp [icell] at hu) h
  exact ⟨v, l, h1, h2⟩
end Go.Proofs.YtpinjgdnhbogoaaGreatDoor
