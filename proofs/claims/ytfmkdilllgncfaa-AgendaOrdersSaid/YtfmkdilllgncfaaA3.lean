import Derived.Test.YtfmkdilllgncfaaA1
import Derived.Deep.RegionWith
namespace Go.Proofs.Ytfmkdilllgncfaa
open Go.RowKit Go.Lib

theorem meth_less (ba : Nat) (v : Value) (w : World) (h : w.cell? ⟨ba,0,none⟩ = some v) :
   (method 192 60 (.pointer (some ⟨ba,0,none⟩)) "Less").run Try.prog w = .ok (45, v) w := by
  have e : (method 192 60 (.pointer (some ⟨ba,0,none⟩)) "Less").run Try.prog w = (Sem.load .plain ⟨ba,0,none⟩ fun v => .pure (45, v)).run Try.prog w := by kernel_rfl
  rw [e]; simp [Sem.run, h]
theorem meth_len (ba : Nat) (v : Value) (w : World) (h : w.cell? ⟨ba,0,none⟩ = some v) :
   (method 192 60 (.pointer (some ⟨ba,0,none⟩)) "Len").run Try.prog w = .ok (26, v) w := by
  have e : (method 192 60 (.pointer (some ⟨ba,0,none⟩)) "Len").run Try.prog w = (Sem.load .plain ⟨ba,0,none⟩ fun v => .pure (26, v)).run Try.prog w := by kernel_rfl
  rw [e]; simp [Sem.run, h]
theorem meth_swap (ba : Nat) (v : Value) (w : World) (h : w.cell? ⟨ba,0,none⟩ = some v) :
   (method 192 60 (.pointer (some ⟨ba,0,none⟩)) "Swap").run Try.prog w = .ok (46, v) w := by
  have e : (method 192 60 (.pointer (some ⟨ba,0,none⟩)) "Swap").run Try.prog w = (Sem.load .plain ⟨ba,0,none⟩ fun v => .pure (46, v)).run Try.prog w := by kernel_rfl
  rw [e]; simp [Sem.run, h]
theorem meth_push (a : Addr) (w : World)  :
   (method 192 60 (.pointer (some a)) "Push").run Try.prog w = .ok (49, .pointer (some a)) w := by kernel_rfl
theorem meth_pop (a : Addr) (w : World)  :
   (method 192 60 (.pointer (some a)) "Pop").run Try.prog w = .ok (48, .pointer (some a)) w := by kernel_rfl
end Go.Proofs.Ytfmkdilllgncfaa
