/- The walk of shown. -/
import Derived.Test.YtnplikpjogoghaaC6
import Derived.Test.YtnplikpjogoghaaC4
import Derived.Test.YtnplikpjogoghaaC3
namespace Go.Proofs.Ytnplikpjogoghaa
open Go.RowKit Go.Lib

section
variable {w : World} {S S' : Nat → Prop} {a b : Value} {l m : List Int}

def SayPost (v : Value) (w : World) (e : Ending) (w' : World) : Prop := e = .returned v ∧ Fr (fun _ => False) w w'
theorem right_say (ha : IR w S a l) (hl : l.length < 1000000) {r : Bool} (h : r = true ↔ RightP l) : Calls Try.prog 16 #[a] w (SayPost (.bool r) w) := by
  refine Calls.mono (right_h ha hl) ?_
  rintro e w' ⟨r', N, rfl, hr, rfl⟩
  exact ⟨by rw [show r' = r from Bool.eq_iff_iff.2 (hr.trans h.symm)], (Fr.refl _ _).drewN N⟩
theorem next_say (ha : IR w S a l) (hb : IR w S' b m) (hl : l.length < 1000000) (hm : m.length < 1000000) {r : Bool} (h : r = true ↔ NextP l m) : Calls Try.prog 18 #[a, b] w (SayPost (.bool r) w) := by
  refine Calls.mono (next_h ha hb hl hm) ?_
  rintro e w' ⟨r', rfl, hr, hF⟩
  exact ⟨by rw [show r' = r from Bool.eq_iff_iff.2 (hr.trans h.symm)], hF⟩
theorem most_say (ha : IR w S a l) (hb : IR w S' b m) (hl : l.length < 1000000) (hm : m.length < 1000000) {r : Bool} (h : decide (l.length / 2 < cntB l m) = r) : Calls Try.prog 11 #[a, b] w (SayPost (.bool r) w) := by
  refine Calls.mono (most_h ha hb hl hm) ?_
  rintro e w' ⟨rfl, rfl⟩
  exact ⟨by rw [h], Fr.refl _ _⟩
theorem agreed_say (ha : IR w S a l) (hl : l.length < 1000000) {n : Int} (h : agreedZ l = n) : Calls Try.prog 13 #[a] w (SayPost (.int .i64 n) w) := by
  refine Calls.mono (agreed_h ha hl) ?_
  rintro e w' ⟨rfl, hF⟩
  exact ⟨by rw [h], hF⟩

theorem right123 : RightP [1, 2, 3] := ⟨by decide, by decide, by intro i p q h1 h2; rcases i with _ | _ | _ | i <;> simp at h1 h2 <;> omega, by decide⟩
theorem right1234 : RightP [1, 2, 3, 4] := ⟨by decide, by decide, by intro i p q h1 h2; rcases i with _ | _ | _ | _ | i <;> simp at h1 h2 <;> omega, by decide⟩
theorem right124 : RightP [1, 2, 4] := ⟨by decide, by decide, by intro i p q h1 h2; rcases i with _ | _ | _ | i <;> simp at h1 h2 <;> omega, by decide⟩
theorem right12 : ¬ RightP [1, 2] := fun h => by have := h.1; simp at this
theorem right213 : ¬ RightP [2, 1, 3] := fun h => by have := h.2.2.1 0 2 1 rfl rfl; omega
theorem next1234 : NextP [1, 2, 3] [1, 2, 3, 4] := ⟨right123, right1234, .inl ⟨rfl, by decide⟩⟩
theorem next124 : ¬ NextP [1, 2, 3] [1, 2, 4] := fun h => by rcases h.2.2 with ⟨h, _⟩ | ⟨h, _⟩ <;> simp at h
theorem agreed4 : agreedZ [5, 7, 2, 9] = 5 := by simp [agreedZ, sortL, List.mergeSort]

set_option maxHeartbeats 4000000 in
theorem shown_h (w : World) : Calls Try.prog 10 #[] w (SayPost (.bool true) w) := by
  have HA := Lib.hid agreed4
  go_enter Try.func10, Try.ntmps10
  go_wp2_with fail
  refine Calls.mono (right_say (S := fun _ => True) (l := [1, 2, 3]) (r := true) (IR.lit (block_new_at rfl) (by decide) trivial) (by decide) (by simp [right123])) ?_
  rintro e w1 ⟨rfl, hF⟩
  have H1 := Lib.hid ((Fr.alloc (Fr.refl (fun _ => False) w) _).next hF)
  clear hF
  go_wp2_with fail
  refine Calls.mono (right_say (S := fun _ => True) (l := [1, 2]) (r := false) (IR.lit (block_new_at rfl) (by decide) trivial) (by decide) (by simp [right12])) ?_
  rintro e w2 ⟨rfl, hF⟩
  have H2 := Lib.hid ((H1.out.alloc _).next hF)
  clear hF H1
  go_wp2_with fail
  refine Calls.mono (right_say (S := fun _ => True) (l := [2, 1, 3]) (r := false) (IR.lit (block_new_at rfl) (by decide) trivial) (by decide) (by simp [right213])) ?_
  rintro e w3 ⟨rfl, hF⟩
  have H3 := Lib.hid ((H2.out.alloc _).next hF)
  clear hF H2
  go_wp2_with fail
  refine Calls.mono (next_say (S := fun _ => True) (S' := fun _ => True) (l := [1, 2, 3]) (m := [1, 2, 3, 4]) (r := true) (IR.lit (block_old (block_new_at rfl) _) (by decide) trivial) (IR.lit (block_new_at (by simp)) (by decide) trivial) (by decide) (by decide) (by simp [next1234])) ?_
  rintro e w4 ⟨rfl, hF⟩
  have H4 := Lib.hid (((H3.out.alloc _).alloc _).next hF)
  clear hF H3
  go_wp2_with fail
  refine Calls.mono (next_say (S := fun _ => True) (S' := fun _ => True) (l := [1, 2, 3]) (m := [1, 2, 4]) (r := false) (IR.lit (block_old (block_new_at rfl) _) (by decide) trivial) (IR.lit (block_new_at (by simp)) (by decide) trivial) (by decide) (by decide) (by simp [next124])) ?_
  rintro e w5 ⟨rfl, hF⟩
  have H5 := Lib.hid (((H4.out.alloc _).alloc _).next hF)
  clear hF H4
  go_wp2_with fail
  refine Calls.mono (most_say (S := fun _ => True) (S' := fun _ => True) (l := [1, 2, 3]) (m := [1, 3]) (r := true) (IR.lit (block_old (block_new_at rfl) _) (by decide) trivial) (IR.lit (block_new_at (by simp)) (by decide) trivial) (by decide) (by decide) (by decide)) ?_
  rintro e w6 ⟨rfl, hF⟩
  have H6 := Lib.hid (((H5.out.alloc _).alloc _).next hF)
  clear hF H5
  go_wp2_with fail
  refine Calls.mono (most_say (S := fun _ => True) (S' := fun _ => True) (l := [1, 2, 3, 4]) (m := [1, 2]) (r := false) (IR.lit (block_old (block_new_at rfl) _) (by decide) trivial) (IR.lit (block_new_at (by simp)) (by decide) trivial) (by decide) (by decide) (by decide)) ?_
  rintro e w7 ⟨rfl, hF⟩
  have H7 := Lib.hid (((H6.out.alloc _).alloc _).next hF)
  clear hF H6
  go_wp2_with fail
  refine Calls.mono (agreed_say (S := fun _ => True) (l := [5, 7, 2, 9]) (IR.lit (block_new_at rfl) (by decide) trivial) (by decide) HA.out) ?_
  rintro e w8 ⟨rfl, hF⟩
  have H8 := Lib.hid ((H7.out.alloc _).next hF)
  clear hF H7
  go_wp2_with fail
  go_ret
  exact ⟨rfl, H8.out⟩
end
end Go.Proofs.Ytnplikpjogoghaa
