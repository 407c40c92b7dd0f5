/- The walk of conf.Without. -/
import Derived.Test.YtnplikpjogoghaaW3
namespace Go.Proofs.Ytnplikpjogoghaa
open Go.RowKit Go.Lib

section
variable {w : World} {S S' : Nat → Prop} {a b : Value} {l m : List Int}

set_option maxHeartbeats 1000000 in
theorem without_h (ha : IR w S a l) (hl : l.length < 100000) (n : Int) : Calls Try.prog 25 #[a, .int .i64 n] w fun e w' => ∃ v, e = .returned v ∧ IR w' (fun k => w.heap.size ≤ k) v (withoutL l n) ∧ Fr (fun _ => False) w w' := by
  have hF0 : Fr (fun _ => False) w (w.alloc (.cells #[.int .i64 n] 3)) := (Fr.refl _ _).alloc _
  have hC := clone_h (ha.grow hF0) (by omega)
  have hc0 : (w.alloc (.cells #[.int .i64 n] 3)).cell? ⟨w.heap.size, 0, none⟩ = some (.int .i64 n) := cell_of (block_new _ _) rfl
  have hmf : ∀ (fn : Fn) (first cap : Array Value) (w : World), (Instr.makeFunc fn first cap).run Try.prog w = .ok (.func fn first cap) w := fun _ _ _ _ => rfl
  obtain ⟨a, ca, rfl, hca1, hca2⟩ := ha.form
  clear ha
  go_enter Try.func25, Try.ntmps25
  go_wp2_with fail
  refine Calls.mono hC ?_
  rintro e w2 ⟨v, rfl, hO, hF⟩
  have hD := del_h (n := n) (B := w.heap.size) hO (by omega) (by simp) (by have := hF.size; simp at this; omega) (hF.cell hc0 (fun h => h))
  have HX := Lib.hid (And.intro hF (hF0.next hF))
  clear hC hc0 hF hF0 hO
  go_wp2_with fail
  refine Calls.mono hD ?_
  rintro e w3 ⟨v3, rfl, h3, hF3⟩
  clear hD hmf
  go_wp2_with fail
  go_ret
  exact ⟨v3, rfl, h3.mono fun k hk => by simp at hk; omega, HX.out.2.trans hF3 fun i hi => .inr (by simp at hi; omega)⟩
end
end Go.Proofs.Ytnplikpjogoghaa
