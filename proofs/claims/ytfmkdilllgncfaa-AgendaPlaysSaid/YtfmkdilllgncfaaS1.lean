/- The walk of the law's examples ('shown'). -/
import Derived.Test.YtfmkdilllgncfaaR4
import Derived.Test.YtfmkdilllgncfaaR2
namespace Go.Proofs.Ytfmkdilllgncfaa
open Go.RowKit Go.Lib

/-- an agenda of blocks that are new since w0 -/
def Mine (w0 w : World) (ba : Nat) (m : List (Int × Int)) : Prop := ∃ own, Ag w own ba m ∧ (∀ k, own k → w0.heap.size ≤ k) ∧ Fr (fun _ => False) w0 w

section
variable {w0 w : World} {ba : Nat} {m : List (Int × Int)}
theorem Mine.fr (h : Mine w0 w ba m) : Fr (fun _ => False) w0 w := let ⟨_, _, _, h⟩ := h; h
theorem mine_new (w : World) : Calls Try.prog 9 #[] w fun e w' => ∃ ba, e = .returned (.pointer (some ⟨ba, 0, none⟩)) ∧ Mine w w' ba [] := by
  refine Calls.mono (new_h w) ?_
  rintro e w' ⟨ba, rfl, h1, h2⟩
  exact ⟨ba, rfl, _, h1, fun k h => h.1, h2⟩
theorem mine_put (h : Mine w0 w ba m) (hm : m.length < 999999) (t id : Int) : Calls Try.prog 16 #[.pointer (some ⟨ba, 0, none⟩), .int .i64 t, .int .i64 id] w fun e w' => e = .returned (.tuple #[]) ∧ Mine w0 w' ba (putL m t id) := by
  obtain ⟨own, h1, h2, h3⟩ := h
  refine Calls.mono (put_m h1 hm t id) ?_
  rintro e w' ⟨rfl, own', h4, h5, h6⟩
  refine ⟨rfl, own', h4, fun k hk => ?_, h3.trans h6 fun i hi => .inr (h2 i hi)⟩
  rcases h5 k hk with h | h
  · exact h2 k h
  · exact Nat.le_trans h3.size h
theorem mine_drop (h : Mine w0 w ba m) (hm : m.length < 999999) (id : Int) : Calls Try.prog 11 #[.pointer (some ⟨ba, 0, none⟩), .int .i64 id] w fun e w' => e = .returned (.bool (atL m id).isSome) ∧ Mine w0 w' ba (dropL id m) := by
  obtain ⟨own, h1, h2, h3⟩ := h
  refine Calls.mono (drop_m h1 hm id) ?_
  rintro e w' ⟨rfl, h4, h6⟩
  exact ⟨rfl, own, h4, h2, h3.trans h6 fun i hi => .inr (h2 i hi)⟩
theorem mine_len (h : Mine w0 w ba m) : Calls Try.prog 19 #[.pointer (some ⟨ba, 0, none⟩)] w fun e w' => e = .returned (.int .i64 m.length) ∧ w = w' := by
  obtain ⟨own, h1, h2, h3⟩ := h
  exact len_m h1
theorem Mine.drewN (h : Mine w0 w ba m) (n : Nat) : Mine w0 (w.drewN n) ba m := by
  obtain ⟨own, h1, h2, h3⟩ := h
  exact ⟨own, h1.drewN n, h2, h3.drewN n⟩
theorem mine_next (h : Mine w0 w ba m) : Calls Try.prog 18 #[.pointer (some ⟨ba, 0, none⟩)] w (NextPost m w) := by
  obtain ⟨own, h1, h2, h3⟩ := h
  exact next_m h1
theorem mine_at (h : Mine w0 w ba m) (id : Int) : Calls Try.prog 20 #[.pointer (some ⟨ba, 0, none⟩), .int .i64 id] w (AtPost m id w) := by
  obtain ⟨own, h1, h2, h3⟩ := h
  exact at_m h1 id
/-- what is due: a slice of new memory, that the agenda does not own -/
theorem mine_due (h : Mine w0 w ba m) (hm : m.length < 999999) (now : Int) : Calls Try.prog 15 #[.pointer (some ⟨ba, 0, none⟩), .int .i64 now] w fun e w' =>
    ∃ v, e = .returned v ∧ Mine w0 w' ba (leftL m now) ∧ IR w' (fun k => w.heap.size ≤ k) v ((dueL m now).map (·.2)) := by
  obtain ⟨own, h1, h2, h3⟩ := h
  refine Calls.mono (due_m h1 hm now) ?_
  rintro e w' ⟨v, rfl, h4, h5, h6⟩
  refine ⟨v, rfl, ⟨own, h4, h2, h3.trans h5 fun i hi => .inr (h2 i hi)⟩, ?_⟩
  have := (SRow.of_owns h6).mono (S' := fun k => w.heap.size ≤ k) fun k hk => (h6.lt k hk).1
  unfold IR
  simpa [idsV, List.map_map, Function.comp_def] using this
/-- other memory that is made leaves it -/
theorem Mine.grow (h : Mine w0 w ba m) {w' : World} (hf : Fr (fun _ => False) w w') : Mine w0 w' ba m := by
  obtain ⟨own, h1, h2, h3⟩ := h
  exact ⟨own, h1.other hf fun _ _ h => h, h2, h3.next hf⟩
end

theorem IR.lit {w : World} {S : Nat → Prop} {g e : Nat} {f : Nat × Nat} {l : List Int} (h : w.heap[g]? = some (.cells (l.map (Value.int .i64)).toArray e f)) (hl : l.length ≤ maxLen) (hS : S g) : IR w S (.slice (some ⟨g, 0, none⟩) l.length l.length) l :=
  SRow.of_block h (by simp) hl hS

set_option maxHeartbeats 4000000 in
theorem shown_h (w : World) : Calls Try.prog 8 #[] w fun e w' => e = .returned (.bool true) ∧ Fr (fun _ => False) w w' := by
  go_enter Try.func8, Try.ntmps8
  go_wp2_with fail
  refine Calls.mono (mine_new w) ?_
  rintro e w1 ⟨ba, rfl, h⟩
  go_wp2_with fail
  refine Calls.mono (mine_put h (by decide) 5 1) ?_
  rintro e w2 ⟨rfl, h2⟩
  rw [show putL [] 5 1 = [(5, 1)] from by decide] at h2
  clear h
  go_wp2_with fail
  refine Calls.mono (mine_put h2 (by decide) 3 2) ?_
  rintro e w3 ⟨rfl, h3⟩
  rw [show putL [(5, 1)] 3 2 = [(3, 2), (5, 1)] from by decide] at h3
  clear h2
  go_wp2_with fail
  refine Calls.mono (mine_put h3 (by decide) 5 0) ?_
  rintro e w4 ⟨rfl, h4⟩
  rw [show putL [(3, 2), (5, 1)] 5 0 = [(3, 2), (5, 0), (5, 1)] from by decide] at h4
  clear h3
  go_wp2_with fail
  refine Calls.mono (mine_next h4) ?_
  rintro e w5 ⟨rfl, N, rfl⟩
  simp only [List.head?_cons, Option.map_some, Option.getD_some, Option.isSome_some]
  go_wp2_with fail
  refine Calls.mono (mine_due (h4.drewN N) (by decide) 4) ?_
  rintro e w5 ⟨v, rfl, h5, hv⟩
  rw [show leftL [(3, 2), (5, 0), (5, 1)] 4 = [(5, 0), (5, 1)] from by decide] at h5
  rw [show (dueL [(3, 2), (5, 0), (5, 1)] 4).map (·.2) = [2] from by decide] at hv
  clear h4
  go_wp2_with fail
  have h6 := h5.grow ((Fr.refl _ w5).alloc (.cells #[.int .i64 2] 3))
  refine Calls.mono (same_h (hv.fr (o := fun _ => False) ((Fr.refl _ w5).alloc (.cells #[.int .i64 2] 3)) fun _ _ h => h) (IR.lit (S := fun _ => True) (e := 3) (f := (0, 0)) (l := [2]) (block_new w5 _) (by decide) trivial) (by decide) (by decide)) ?_
  rintro e w6 ⟨rfl, N2, rfl⟩
  rw [show decide ([(2 : Int)] = [2]) = true from by decide]
  replace h6 := h6.drewN N2
  clear h5 hv
  generalize (w5.alloc (.cells #[.int .i64 2] 3)).drewN N2 = w7 at *
  go_wp2_with fail
  refine Calls.mono (mine_len h6) ?_
  rintro e w8 ⟨rfl, rfl⟩
  simp only [List.length_cons, List.length_nil]
  go_wp2_with fail
  refine Calls.mono (mine_due h6 (by decide) 9) ?_
  rintro e w8 ⟨v2, rfl, h8, hv⟩
  rw [show leftL [(5, 0), (5, 1)] 9 = [] from by decide] at h8
  rw [show (dueL [(5, 0), (5, 1)] 9).map (·.2) = [0, 1] from by decide] at hv
  clear h6
  go_wp2_with fail
  have h9 := h8.grow ((Fr.refl _ w8).alloc (.cells #[.int .i64 0, .int .i64 1] 3))
  refine Calls.mono (same_h (hv.fr (o := fun _ => False) ((Fr.refl _ w8).alloc (.cells #[.int .i64 0, .int .i64 1] 3)) fun _ _ h => h) (IR.lit (S := fun _ => True) (e := 3) (f := (0, 0)) (l := [0, 1]) (block_new w8 _) (by decide) trivial) (by decide) (by decide)) ?_
  rintro e w9 ⟨rfl, N3, rfl⟩
  rw [show decide ([(0 : Int), 1] = [0, 1]) = true from by decide]
  replace h9 := h9.drewN N3
  clear h8 hv
  generalize (w8.alloc (.cells #[.int .i64 0, .int .i64 1] 3)).drewN N3 = w10 at *
  go_wp2_with fail
  refine Calls.mono (mine_put h9 (by decide) 7 1) ?_
  rintro e w11 ⟨rfl, h11⟩
  rw [show putL [] 7 1 = [(7, 1)] from by decide] at h11
  clear h9
  go_wp2_with fail
  refine Calls.mono (mine_put h11 (by decide) 1 1) ?_
  rintro e w12 ⟨rfl, h12⟩
  rw [show putL [(7, 1)] 1 1 = [(1, 1)] from by decide] at h12
  clear h11
  go_wp2_with fail
  refine Calls.mono (mine_at h12 1) ?_
  rintro e w13 ⟨rfl, N4, rfl⟩
  rw [show atL [(1, 1)] 1 = some 1 from by decide]
  simp only [Option.getD_some, Option.isSome_some]
  go_wp2_with fail
  refine Calls.mono (mine_drop (h12.drewN N4) (by decide) 1) ?_
  rintro e w14 ⟨rfl, h14⟩
  rw [show dropL 1 [(1, 1)] = [] from by decide] at h14
  rw [show atL [(1, 1)] 1 = some 1 from by decide]
  simp only [Option.isSome_some]
  clear h12
  go_wp2_with fail
  refine Calls.mono (mine_drop h14 (by decide) 1) ?_
  rintro e w15 ⟨rfl, h15⟩
  rw [show atL [] 1 = none from by decide]
  simp only [Option.isSome_none]
  clear h14
  go_wp2_with fail
  go_ret
  exact ⟨rfl, h15.fr⟩
end Go.Proofs.Ytfmkdilllgncfaa
