/- The walk of Next. -/
import Derived.Test.YtnplikpjogoghaaC5
namespace Go.Proofs.Ytnplikpjogoghaa
open Go.RowKit Go.Lib

section
variable {w : World} {S S' : Nat → Prop} {a b : Value} {l m : List Int}

def NextP (l m : List Int) : Prop := RightP l ∧ RightP m ∧ ((m.length = l.length + 1 ∧ ∀ x ∈ l, x ∈ m) ∨ (l.length = m.length + 1 ∧ ∀ x ∈ m, x ∈ l))
def NextPost (l m : List Int) (w : World) (e : Ending) (w' : World) : Prop := ∃ r : Bool, e = .returned (.bool r) ∧ (r = true ↔ NextP l m) ∧ Fr (fun _ => False) w w'

theorem any_not {l m : List Int} : (!l.any fun n => !hasB m n) = true ↔ ∀ x ∈ l, x ∈ m := by
  simp [hasB]

set_option maxHeartbeats 4000000 in
theorem next_h (ha : IR w S a l) (hb : IR w S' b m) (hl : l.length < 1000000) (hm : m.length < 1000000) : Calls Try.prog 18 #[a, b] w (NextPost l m w) := by
  have HR1 := Lib.hid (fun (W : World) (hF : Fr (fun _ => False) w W) => right_h (ha.grow hF) hl)
  have HR2 := Lib.hid (fun (W : World) (hF : Fr (fun _ => False) w W) => right_h (hb.grow hF) hm)
  have HC1 := Lib.hid (fun (W : World) (hF : Fr (fun _ => False) w W) (hc : W.cell? ⟨w.heap.size, 0, none⟩ = some b) => containsf33_h (ha.grow hF) hl w.heap.size _ (next1_h (hb.grow hF) hm hc))
  have HC2 := Lib.hid (fun (W : World) (hF : Fr (fun _ => False) w W) (hc : W.cell? ⟨w.heap.size, 0, none⟩ = some a) => containsf33_h (hb.grow hF) hm w.heap.size _ (next1_h (ha.grow hF) hl hc))
  have hmf : ∀ (fn : Fn) (first cap : Array Value) (w : World), (Instr.makeFunc fn first cap).run Try.prog w = .ok (.func fn first cap) w := fun _ _ _ _ => rfl
  obtain ⟨a, ca, rfl, hca1, hca2⟩ := ha.form
  obtain ⟨b, cb, rfl, hcb1, hcb2⟩ := hb.form
  clear ha hb
  go_enter Try.func18, Try.ntmps18
  go_wp2_with fail
  refine Calls.mono (HR1.out _ (Fr.alloc (Fr.refl _ _) _)) ?_
  rintro e w1 ⟨r1, N1, rfl, hr1, hw⟩
  have hF1 : Fr (fun _ => False) w w1 := by rw [hw]; exact (Fr.alloc (Fr.refl _ _) _).drewN N1
  have hB1 : w1.heap[w.heap.size]? = some (.cells #[.slice b m.length cb] 22 (0, 0)) := by rw [hw]; exact block_new _ _
  have hc1 : w1.cell? ⟨w.heap.size, 0, none⟩ = some (.slice b m.length cb) := cell_of hB1 rfl
  have HK1 := Lib.hid (And.intro hr1 (And.intro hF1 hB1))
  clear hw hr1 hF1 hB1
  cases r1 with
  | false =>
    go_wp2_with fail
    go_ret
    exact ⟨false, rfl, by simp only [Bool.false_eq_true, false_iff]; exact fun h => absurd (HK1.out.1.2 h.1) (by simp), HK1.out.2.1⟩
  | true =>
    go_wp2_with fail
    refine Calls.mono (HR2.out _ HK1.out.2.1) ?_
    rintro e w2 ⟨r2, N2, rfl, hr2, hw⟩
    have hF2 : Fr (fun _ => False) w w2 := by rw [hw]; exact HK1.out.2.1.drewN N2
    have hB2 : w2.heap[w.heap.size]? = some (.cells #[.slice b m.length cb] 22 (0, 0)) := by rw [hw]; exact HK1.out.2.2
    have hc2 : w2.cell? ⟨w.heap.size, 0, none⟩ = some (.slice b m.length cb) := cell_of hB2 rfl
    have hf2 : w2.frozen? ⟨w.heap.size, 0, none⟩ = false := free_of 0 hB2
    have HK2 := Lib.hid (And.intro hr2 (And.intro hF2 hB2))
    clear hw hr2 hF2 hB2 hc1
    cases r2 with
    | false =>
      go_wp2_with fail
      go_ret
      exact ⟨false, rfl, by simp only [Bool.false_eq_true, false_iff]; exact fun h => absurd (HK2.out.1.2 h.2.1) (by simp), HK2.out.2.1⟩
    | true =>
      have HP := Lib.hid (And.intro (HK1.out.1.1 trivial) (HK2.out.1.1 rfl))
      by_cases hlt : m.length < l.length
      · have d1 : decide ((m.length : Int) < (l.length : Int)) = true := by rw [decide_eq_true_iff]; omega
        have hF3 : Fr (fun _ => False) w (w2.setCell ⟨w.heap.size, 0, none⟩ (.slice a l.length ca)) := HK2.out.2.1.setCell (.inr (Nat.le_refl _)) _
        have hB3 : (w2.setCell ⟨w.heap.size, 0, none⟩ (.slice a l.length ca)).cell? ⟨w.heap.size, 0, none⟩ = some (.slice a l.length ca) := cell_of (block_set HK2.out.2.2 0 _) rfl
        have HK3 := Lib.hid (And.intro hF3 hB3)
        clear hF3
        by_cases he : l.length = m.length + 1
        · have d2 : ((l.length : Int) == (m.length : Int) + 1) = true := by rw [beq_iff_eq]; omega
          have HE := Lib.hid he
          clear he
          go_wp2_with fail
          refine Calls.mono (HC2.out _ HK3.out.1 HK3.out.2) ?_
          rintro e w4 ⟨rfl, hw4⟩
          have HF4 := Lib.hid (show Fr (fun _ => False) w w4 by rw [← hw4]; exact HK3.out.1)
          clear hw4
          go_wp2_with fail
          go_ret
          refine ⟨_, rfl, ?_, HF4.out⟩
          rw [any_not]
          exact ⟨fun h => ⟨HP.out.1, HP.out.2, .inr ⟨HE.out, h⟩⟩, fun h => by rcases h.2.2 with ⟨h1, _⟩ | ⟨_, h2⟩; exact absurd h1 (by have := HE.out; omega); exact h2⟩
        · have d2 : ((l.length : Int) == (m.length : Int) + 1) = false := by rw [beq_eq_false_iff_ne]; omega
          go_wp2_with fail
          go_ret
          exact ⟨false, rfl, by simp only [Bool.false_eq_true, false_iff]; rintro ⟨_, _, h | h⟩ <;> omega, HK3.out.1⟩
      · have d1 : decide ((m.length : Int) < (l.length : Int)) = false := by rw [decide_eq_false_iff_not]; omega
        by_cases he : m.length = l.length + 1
        · have d2 : ((m.length : Int) == (l.length : Int) + 1) = true := by rw [beq_iff_eq]; omega
          have HE := Lib.hid he
          clear he
          go_wp2_with fail
          refine Calls.mono (HC1.out _ HK2.out.2.1 (cell_of HK2.out.2.2 rfl)) ?_
          rintro e w4 ⟨rfl, hw4⟩
          have HF4 := Lib.hid (show Fr (fun _ => False) w w4 by rw [← hw4]; exact HK2.out.2.1)
          clear hw4
          go_wp2_with fail
          go_ret
          refine ⟨_, rfl, ?_, HF4.out⟩
          rw [any_not]
          exact ⟨fun h => ⟨HP.out.1, HP.out.2, .inl ⟨HE.out, h⟩⟩, fun h => by rcases h.2.2 with ⟨_, h2⟩ | ⟨h1, _⟩; exact h2; exact absurd h1 (by have := HE.out; omega)⟩
        · have d2 : ((m.length : Int) == (l.length : Int) + 1) = false := by rw [beq_eq_false_iff_ne]; omega
          go_wp2_with fail
          go_ret
          exact ⟨false, rfl, by simp only [Bool.false_eq_true, false_iff]; rintro ⟨_, _, h | h⟩ <;> omega, HK2.out.2.1⟩
end
end Go.Proofs.Ytnplikpjogoghaa
