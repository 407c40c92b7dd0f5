/- strings.Builder in a block of its own: copyCheck, WriteString, String, Len. -/
import Derived.Test.YtgmghopcppniaaaGreatDoorFD
import Derived.BigRegion
import Derived.Test.YtgmghopcppniaaaGreatDoorFBb
import Derived.Test.YtgmghopcppniaaaGreatDoorShelfB
namespace Go.Proofs.YtgmghopcppniaaaGreatDoor
open Go.RowKit Go.Lib

theorem lies8 : liesAt Tryz.prog Tryz.prog.depth 108 (2 / Tryz.prog.cellsOf 108) 0 108 1 = true := by kernel_rfl
set_option maxHeartbeats 1000000 in
set_option maxRecDepth 100000 in
theorem ccheck_fresh (b : Nat) (w : World) (h0 : w.cell? ⟨b, 0, none⟩ = some (.pointer none)) (hsh : w.shape? b = some (108, 2)) (hfz : w.frozen? ⟨b, 0, none⟩ = false) :
  Calls Tryz.prog 114 #[.pointer (some ⟨b, 0, none⟩)] w fun e w' => e = .returned (.tuple #[]) ∧ w' = w.setCell ⟨b, 0, none⟩ (.pointer (some ⟨b, 0, none⟩)) := by
 obtain ⟨j, hj, hjs⟩ := Option.map_eq_some_iff.1 info108
 go_enter Tryz.func114, Tryz.ntmps114
 go_wp2
 rw [Lib.run_to_unsafe w ⟨b, 0, none⟩ Tryz.underlying106 Tryz.underlying191 hj (by rw [hjs]; decide) hsh (Nat.zero_lt_succ 1)]
 simp only [Result.andThen]
 rw [Oper.upon_value]
 go_wp2
 rw [run_callFunc_extern Tryz.func150 (by kernel_rfl) (by kernel_rfl) (by kernel_rfl) (e := Extern.AbiNoEscape.same) (by kernel_rfl)]
 rw [Lib.run_noEscape]
 simp only [Result.andThen]
 rw [Oper.upon_value]
 go_wp2
 rw [Lib.run_from_unsafe w ⟨b, 0, none⟩ Tryz.underlying191 Tryz.underlying106 hj hsh lies8]
 simp only [Result.andThen]
 rw [Oper.upon_value]
 go_wp2
 go_end0
 exact ⟨rfl, rfl⟩
set_option maxHeartbeats 1000000 in
set_option maxRecDepth 100000 in
theorem ccheck_used (b : Nat) (w : World) (h0 : w.cell? ⟨b, 0, none⟩ = some (.pointer (some ⟨b, 0, none⟩))) :
  Calls Tryz.prog 114 #[.pointer (some ⟨b, 0, none⟩)] w fun e w' => e = .returned (.tuple #[]) ∧ w' = w := by
 obtain ⟨j, hj, _⟩ := Option.map_eq_some_iff.1 info108
 go_enter Tryz.func114, Tryz.ntmps114
 go_wp2
 rw [Lib.run_neq_ptr_same w _ Tryz.underlying106 hj]
 go_wp2
 go_end0
 exact ⟨rfl, rfl⟩
theorem ccheck_h (B b : Nat) (bs : List Value) (w : World) (h : Lib.IsBuilderF 108 5 B b bs w) :
  Calls Tryz.prog 114 #[.pointer (some ⟨b, 0, none⟩)] w fun e w' => e = .returned (.tuple #[]) ∧ Lib.BuilderAtF 108 5 B b (.pointer (some ⟨b, 0, none⟩)) bs w' ∧ Below B w w' ∧ Lib.OthersKept 5 (some b) w w' := by
 rcases h with h | h
 ·refine (ccheck_fresh b w h.cell0 h.shape h.frozen0).mono ?_
  rintro e w' ⟨rfl, rfl⟩
  exact ⟨rfl, h.used _, (Below.refl B w).setCell (p := ⟨b, 0, none⟩) h.1 _, (Lib.OthersKept.refl _ _ w).setCell ⟨b, 0, none⟩ rfl _⟩
 ·refine (ccheck_used b w h.cell0).mono ?_
  rintro e w' ⟨rfl, rfl⟩
  exact ⟨rfl, h, Below.refl B _, Lib.OthersKept.refl _ _ _⟩
set_option maxHeartbeats 2000000 in
set_option maxRecDepth 100000 in
theorem cwrite_h (B b : Nat) (bs : List Value) (s : ByteArray) (w : World) (h : Lib.IsBuilderF 108 5 B b bs w) (hlen : bs.length + s.size ≤ 140737488355328) (hBw : B ≤ w.heap.size) :
  Calls Tryz.prog 61 #[.pointer (some ⟨b, 0, none⟩), .string s] w fun e w' => e = .returned (.tuple #[.int .i64 s.size, .nilIface]) ∧ Lib.BuilderAtF 108 5 B b (.pointer (some ⟨b, 0, none⟩)) (bs ++ Lib.strCells s) w' ∧ Below B w w' ∧ Lib.OthersKept 5 (some b) w w' := by
 obtain ⟨i0, hi, hz0, hz1, hz2⟩ := info_parts info5
 go_enter Tryz.func61, Tryz.ntmps61
 go_wp2_with (go_at_call 114; refine (ccheck_h B b bs _ h).mono ?_)
 rintro e w1 ⟨rfl, h1, hb1, hk1⟩
 obtain ⟨hB, v, hbk, hown, hne⟩ := h1
 have c0 : w1.cell? ⟨b, 0, none⟩ = some (.pointer (some ⟨b, 0, none⟩)) := by rw [Lib.cell_of_heap hbk]; rfl
 have c1 : w1.cell? ⟨b, 1, none⟩ = some v := by rw [Lib.cell_of_heap hbk]; rfl
 go_wp2_with (at_builtin; refine Lib.wpList_append_own_stringF _ rfl _ _ 33 9 rfl B 5 i0 Tryz.underlying33 Tryz.underlying9 hi hz0 hz1 hz2 _ _ _ rfl hown s rfl ?c3 ?c4 ?c5 ?_)
 case c3 => unfold maxLen; omega
 case c4 => omega
 case c5 => have := hb1.size; omega
 intro v' w2 hown' hgrow _
 have hlt : b < w1.heap.size := by
  rcases Nat.lt_or_ge b w1.heap.size with h' | h'
  ·exact h'
  ·simp [Array.getElem?_eq_none h'] at hbk
 have hb2 : w2.heap[b]? = some (.cells #[.pointer (some ⟨b, 0, none⟩), v] 108 (0, 0)) := by
  rw [hgrow.block b hlt (fun e => hne e.symm)]
  exact hbk
 have d0 : w2.cell? ⟨b, 0, none⟩ = some (.pointer (some ⟨b, 0, none⟩)) := by rw [Lib.cell_of_heap hb2]; rfl
 have d1 : w2.cell? ⟨b, 1, none⟩ = some v := by rw [Lib.cell_of_heap hb2]; rfl
 have f1 : w2.frozen? ⟨b, 1, none⟩ = false := Lib.frozen_of_heap hb2 1
 obtain ⟨ao, n', cap, rfl⟩ : ∃ ao n' cap, v' = .slice ao n' cap := by
  rcases hown'.2 with ⟨hv, _⟩ | ⟨g, cap, cur, fz, hv, _⟩
  ·exact ⟨_, _, _, hv⟩
  ·exact ⟨_, _, _, hv⟩
 go_wp2
 go_ret2
 refine ⟨rfl, ?_, ?_, (hk1.grown hgrow (Lib.ownsRowF_kind hown)).setCell ⟨b, 1, none⟩ rfl _⟩
 ·exact Lib.BuilderAtF.put (T := 108) (e := 5) hB hb2 (bs' := bs ++ Lib.strCells s) (by simpa [Lib.strCells_length] using hown') (by decide)
 ·exact (hb1.grown hgrow (by have := hb1.size; omega) (fun k hk => (hown.lt k hk).1)).setCell (p := ⟨b, 1, none⟩) hB _
set_option maxHeartbeats 2000000 in
set_option maxRecDepth 100000 in
theorem cstring_k (B b : Nat) (l : List UInt8) (w : World) (h : Lib.IsBuilderF 108 5 B b (Lib.byteCells l) w) (h0 : l ≠ []) :
  Calls Tryz.prog 62 #[.pointer (some ⟨b, 0, none⟩)] w fun e w' => e = .returned (.string ⟨l.toArray⟩) ∧ (Lib.IsBuilderF 108 5 B b (Lib.byteCells l) w' ∧ Below B w w' ∧ Lib.OthersKept 5 (some b) w w') := by
 obtain ⟨p, hp, hAt⟩ : ∃ p, (p = .pointer none ∨ p = .pointer (some ⟨b, 0, none⟩)) ∧ Lib.BuilderAtF 108 5 B b p (Lib.byteCells l) w := by
  rcases h with h | h
  ·exact ⟨_, .inl rfl, h⟩
  ·exact ⟨_, .inr rfl, h⟩
 obtain ⟨hB, v, hbk, hown, hne⟩ := hAt
 have hl0 : l.length ≠ 0 := by simpa using h0
 rw [Lib.byteCells_length] at hown
 obtain ⟨g, cap, cur, fz, rfl, hbg, hg, hfz, hnc, hcm, hcs, htake⟩ : ∃ g cap cur fz, v = .slice (some ⟨g, 0, none⟩) l.length cap ∧ B ≤ g ∧ w.heap[g]? = some (.cells cur 5 fz) ∧ fz.2 ≤ l.length * 1 ∧ l.length ≤ cap ∧ cap ≤ maxLen ∧ cur.size = cap * 1 ∧ cur.toList.take (l.length * 1) = Lib.byteCells l := by
  rcases hown.2 with ⟨_, hz⟩ | ⟨g, cap, cur, fz, hv, r⟩
  ·exact absurd hz hl0
  ·exact ⟨g, cap, cur, fz, hv, r⟩
 have c1 : w.drew.cell? ⟨b, 1, none⟩ = some (.slice (some ⟨g, 0, none⟩) l.length cap) := by
  have : w.drew.heap[b]? = some (.cells #[p, .slice (some ⟨g, 0, none⟩) l.length cap] 108 (0, 0)) := hbk
  rw [Lib.cell_of_heap this]; rfl
 have hSD : (Builtin.unsafeSliceData_ #[33] 165 #[.slice (some ⟨g, 0, none⟩) l.length cap]).run Tryz.prog w.drew = .ok (.pointer (some ⟨g, 0, none⟩)) w.drew :=
  Lib.run_unsafeSliceData_row _ _ _ _ _ _ (by omega)
 have hUS : (Builtin.unsafeString_ #[165, 3] 9 #[.pointer (some ⟨g, 0, none⟩), .int .i64 l.length]).run Tryz.prog w.drew = .ok (.string ⟨l.toArray⟩) (w.drew.freeze ⟨g, 0, none⟩ l.length) := by
  refine Lib.run_unsafeString_row w.drew 165 3 9 5 Tryz.underlying165 cells5 g cur.size (by have hg' : w.drew.heap[g]? = some (.cells cur 5 fz) := hg; simp [World.shape?, hg']) l h0 (by omega) (by unfold maxLen at hcm; omega) ?_
  intro j x hx
  have := hown.cells (g := g) rfl j (.int .u8 x.toNat) (by simp [Lib.byteCells, hx])
  exact this
 -- the builder behind the call: its bytes frozen; a builder still
 have hkeep : Lib.IsBuilderF 108 5 B b (Lib.byteCells l) (w.drew.freeze ⟨g, 0, none⟩ l.length) := by
  have hA : Lib.BuilderAtF 108 5 B b p (Lib.byteCells l) w.drew := ⟨hB, _, hbk, by rw [Lib.byteCells_length]; exact hown, hne⟩
  have hF := hA.froze (g := g) (cap := cap) (by rw [Lib.byteCells_length]; exact c1)
  rw [Lib.byteCells_length] at hF
  rcases hp with rfl | rfl
  ·exact .inl hF
  ·exact .inr hF
 go_enter Tryz.func62, Tryz.ntmps62
 go_wp2
 go_region
 all_goals (go_wp2; go_ret; exact ⟨rfl, hkeep, Lib.below_freeze (Below.drew (Below.refl B w)) (p := ⟨g, 0, none⟩) hbg _, ((Lib.OthersKept.refl _ _ w).drew).freeze ⟨g, 0, none⟩ _ ⟨cur, fz, hg⟩⟩)

set_option maxHeartbeats 2000000 in
set_option maxRecDepth 100000 in
theorem cstring_nil_k (B b : Nat) (p : Value) (w : World) (hbk : w.heap[b]? = some (.cells #[p, .slice none 0 0] 108 (0, 0))) (hA : Lib.BuilderAtF 108 5 B b p [] w) :
  Calls Tryz.prog 62 #[.pointer (some ⟨b, 0, none⟩)] w fun e w' => e = .returned (.string ⟨#[]⟩) ∧ (Lib.BuilderAtF 108 5 B b p [] w' ∧ Below B w w' ∧ Lib.OthersKept 5 (some b) w w') := by
 have hUS := unsafeString_none5
 have c1 : w.drew.cell? ⟨b, 1, none⟩ = some (.slice none 0 0) := by
  have : w.drew.heap[b]? = some (.cells #[p, .slice none 0 0] 108 (0, 0)) := hbk
  rw [Lib.cell_of_heap this]; rfl
 have hSD : (Builtin.unsafeSliceData_ #[33] 165 #[.slice none 0 0]).run Tryz.prog w.drew = .ok (.pointer none) w.drew := rfl
 go_enter Tryz.func62, Tryz.ntmps62
 go_wp2
 go_region
 all_goals (go_wp2; go_ret; exact ⟨rfl, hA.drew, Below.drew (Below.refl B w), (Lib.OthersKept.refl _ _ w).drew⟩)

set_option maxHeartbeats 2000000 in
set_option maxRecDepth 100000 in
theorem cstring_noroom_k (B b g : Nat) (p : Value) (cur : Array Value) (w : World) (hBw : B ≤ w.heap.size) (hbk : w.heap[b]? = some (.cells #[p, .slice (some ⟨g, 0, none⟩) 0 0] 108 (0, 0))) (fz : Nat × Nat) (hg : w.heap[g]? = some (.cells cur 5 fz)) (hA : Lib.BuilderAtF 108 5 B b p [] w) :
  Calls Tryz.prog 62 #[.pointer (some ⟨b, 0, none⟩)] w fun e w' => e = .returned (.string ⟨#[]⟩) ∧ (Lib.BuilderAtF 108 5 B b p [] w' ∧ Below B w w' ∧ Lib.OthersKept 5 (some b) w w') := by
 have hUS := unsafeString_none5
 have hlt : b < w.heap.size := by
  rcases Nat.lt_or_ge b w.heap.size with h' | h'
  ·exact h'
  ·simp [Array.getElem?_eq_none h'] at hbk
 have c1 : w.drew.cell? ⟨b, 1, none⟩ = some (.slice (some ⟨g, 0, none⟩) 0 0) := by
  have : w.drew.heap[b]? = some (.cells #[p, .slice (some ⟨g, 0, none⟩) 0 0] 108 (0, 0)) := hbk
  rw [Lib.cell_of_heap this]; rfl
 have hSD : (Builtin.unsafeSliceData_ #[33] 165 #[.slice (some ⟨g, 0, none⟩) 0 0]).run Tryz.prog w.drew = .ok (.pointer (some ⟨w.drew.heap.size, 0, none⟩)) (w.drew.alloc (.view ⟨g, 0, none⟩ 5)) :=
  Lib.run_unsafeSliceData_zero w.drew _ _ 5 Tryz.underlying165 ⟨g, 0, none⟩ 0 (5, cur.size) (by have hg' : w.drew.heap[g]? = some (.cells cur 5 fz) := hg; simp [World.shape?, hg'])
 have c2 : (w.drew.alloc (.view ⟨g, 0, none⟩ 5)).cell? ⟨b, 1, none⟩ = some (.slice (some ⟨g, 0, none⟩) 0 0) := by
  have : (w.drew.alloc (.view ⟨g, 0, none⟩ 5)).heap[b]? = _ := (Lib.alloc_old w.drew _ b hlt).trans hbk
  rw [Lib.cell_of_heap this]; rfl
 -- (the same fact as the how-to's newer walk spells the world; and of w itself, to which the elder walk comes down)
 have c3 : (w.alloc (.view ⟨g, 0, none⟩ 5)).drew.cell? ⟨b, 1, none⟩ = some (.slice (some ⟨g, 0, none⟩) 0 0) := c2
 have c0 : w.cell? ⟨b, 1, none⟩ = some (.slice (some ⟨g, 0, none⟩) 0 0) := c1
 go_enter Tryz.func62, Tryz.ntmps62
 go_wp2
 go_region
 all_goals (go_wp2; go_ret; exact ⟨rfl, hA.drew.alloc _, (Below.drew (Below.refl B w)).alloc hBw _, ((Lib.OthersKept.refl _ _ w).drew).alloc _⟩)

set_option maxHeartbeats 2000000 in
set_option maxRecDepth 100000 in
theorem cstring_room_k (B b g cap : Nat) (p : Value) (w : World) (hc0 : cap ≠ 0) (hbk : w.heap[b]? = some (.cells #[p, .slice (some ⟨g, 0, none⟩) 0 cap] 108 (0, 0))) (hA : Lib.BuilderAtF 108 5 B b p [] w) :
  Calls Tryz.prog 62 #[.pointer (some ⟨b, 0, none⟩)] w fun e w' => e = .returned (.string ⟨#[]⟩) ∧ (Lib.BuilderAtF 108 5 B b p [] w' ∧ Below B w w' ∧ Lib.OthersKept 5 (some b) w w') := by
 have hUS := unsafeString_none5
 have c1 : w.drew.cell? ⟨b, 1, none⟩ = some (.slice (some ⟨g, 0, none⟩) 0 cap) := by
  have : w.drew.heap[b]? = some (.cells #[p, .slice (some ⟨g, 0, none⟩) 0 cap] 108 (0, 0)) := hbk
  rw [Lib.cell_of_heap this]; rfl
 have hSD : (Builtin.unsafeSliceData_ #[33] 165 #[.slice (some ⟨g, 0, none⟩) 0 cap]).run Tryz.prog w.drew = .ok (.pointer (some ⟨g, 0, none⟩)) w.drew :=
  Lib.run_unsafeSliceData_row _ _ _ _ _ _ hc0
 clear hc0
 go_enter Tryz.func62, Tryz.ntmps62
 go_wp2
 go_region
 all_goals (go_wp2; go_ret; exact ⟨rfl, hA.drew, Below.drew (Below.refl B w), (Lib.OthersKept.refl _ _ w).drew⟩)

theorem cstring_empty_k (B b : Nat) (w : World) (h : Lib.IsBuilderF 108 5 B b [] w) (hBw : B ≤ w.heap.size) :
  Calls Tryz.prog 62 #[.pointer (some ⟨b, 0, none⟩)] w fun e w' => e = .returned (.string ⟨#[]⟩) ∧ (Lib.IsBuilderF 108 5 B b [] w' ∧ Below B w w' ∧ Lib.OthersKept 5 (some b) w w') := by
 obtain ⟨p, hp, hA⟩ : ∃ p, (p = .pointer none ∨ p = .pointer (some ⟨b, 0, none⟩)) ∧ Lib.BuilderAtF 108 5 B b p [] w := by
  rcases h with h | h
  ·exact ⟨_, .inl rfl, h⟩
  ·exact ⟨_, .inr rfl, h⟩
 have fin : ∀ (e : Ending) (w' : World), (e = .returned (.string ⟨#[]⟩) ∧ (Lib.BuilderAtF 108 5 B b p [] w' ∧ Below B w w' ∧ Lib.OthersKept 5 (some b) w w')) → e = .returned (.string ⟨#[]⟩) ∧ (Lib.IsBuilderF 108 5 B b [] w' ∧ Below B w w' ∧ Lib.OthersKept 5 (some b) w w') := by
  rintro e w' ⟨he, hk, hb, ho⟩
  rcases hp with rfl | rfl
  ·exact ⟨he, .inl hk, hb, ho⟩
  ·exact ⟨he, .inr hk, hb, ho⟩
 have hA' := hA
 obtain ⟨hB, v, hbk, hown, hne⟩ := hA
 rcases hown.2 with ⟨rfl, _⟩ | ⟨g, cap, cur, fz, rfl, hbg, hg, _, _, _, _, _⟩
 ·exact (cstring_nil_k B b p w hbk hA').mono fin
 ·by_cases hc0 : cap = 0
  ·subst hc0
   exact (cstring_noroom_k B b g p cur w hBw hbk fz hg hA').mono fin
  ·exact (cstring_room_k B b g cap p w hc0 hbk hA').mono fin

theorem cstring_any_k (B b : Nat) (l : List UInt8) (w : World) (h : Lib.IsBuilderF 108 5 B b (Lib.byteCells l) w) (hBw : B ≤ w.heap.size) :
  Calls Tryz.prog 62 #[.pointer (some ⟨b, 0, none⟩)] w fun e w' => e = .returned (.string ⟨l.toArray⟩) ∧ (Lib.IsBuilderF 108 5 B b (Lib.byteCells l) w' ∧ Below B w w' ∧ Lib.OthersKept 5 (some b) w w') := by
 cases l with
 | nil => exact cstring_empty_k B b w h hBw
 | cons x r => exact cstring_k B b (x :: r) w h (by simp)
/-- Len -/
theorem clen_h (B b : Nat) (l : Str) (w : World) (h : Lib.IsBuilderF 108 5 B b (Lib.byteCells l) w) :
  Calls Tryz.prog 60 #[.pointer (some ⟨b, 0, none⟩)] w fun e w' => e = .returned (.int .i64 (l.length : Int)) ∧ w = w' := by
 obtain ⟨p, hB, v, hbk, hown, hne⟩ : ∃ p, Lib.BuilderAtF 108 5 B b p (Lib.byteCells l) w := by
  rcases h with h | h
  ·exact ⟨_, h⟩
  ·exact ⟨_, h⟩
 rw [Lib.byteCells_length] at hown
 obtain ⟨ao, cap, rfl⟩ : ∃ ao cap, v = .slice ao l.length cap := by
  rcases hown.2 with ⟨hv, h0⟩ | ⟨g, cap, cur, fz, hv, _⟩
  ·exact ⟨none, 0, by rw [hv, h0]⟩
  ·exact ⟨_, _, hv⟩
 have c1 : w.cell? ⟨b, 1, none⟩ = some (.slice ao l.length cap) := by rw [Lib.cell_of_heap hbk]; rfl
 clear hown hbk h
 go_enter Tryz.func60, Tryz.ntmps60
 go_wp2_with fail
 go_ret
 exact ⟨rfl, rfl⟩
theorem isB_fr {B b : Nat} {l : List Value} {w w' : World} (h : Lib.IsBuilderF 108 5 B b l w) (hf : Fr (fun _ => False) w w') : Lib.IsBuilderF 108 5 B b l w' := by
 have key : ∀ p, Lib.BuilderAtF 108 5 B b p l w → Lib.BuilderAtF 108 5 B b p l w' := by
  rintro p ⟨hB, v, hb, hown, hne⟩
  refine ⟨hB, v, hf.keep hb (fun h => h), ⟨hown.1, ?_⟩, hne⟩
  rcases hown.2 with h2 | ⟨g, cap, cur, fz, hv, hg, hh, r⟩
  ·exact .inl h2
  ·exact .inr ⟨g, cap, cur, fz, hv, hg, hf.keep hh (fun h => h), r⟩
 exact h.imp (key _) (key _)
theorem isB_new (w : World) (b : Nat) (hb : b = w.heap.size) : Lib.IsBuilderF 108 5 b b (Lib.byteCells []) (w.alloc (.cells #[.pointer none, .slice none 0 0] 108)) :=
 .inl ⟨Nat.le_refl _, _, by rw [hb]; exact block_new w _, World.ownsRowF_nil _ _ _ _, by simp [Value.ownBlock]⟩
theorem byteCells_app (a b : Str) : Lib.byteCells a ++ Lib.byteCells b = Lib.byteCells (a ++ b) := by unfold Lib.byteCells; rw [List.map_append]
theorem bput {B b : Nat} {w : World} {l a : Str} (h : Lib.IsBuilderF 108 5 B b (Lib.byteCells l) w) (hl : l.length + a.length ≤ 140737488355328) (hBw : B ≤ w.heap.size) :
  Calls Tryz.prog 61 #[.pointer (some ⟨b, 0, none⟩), .string (bs a)] w fun e w' => e = .returned (.tuple #[.int .i64 (bs a).size, .nilIface]) ∧ Lib.IsBuilderF 108 5 B b (Lib.byteCells (l ++ a)) w' ∧ Below B w w' ∧ Lib.OthersKept 5 (some b) w w' := by
 refine (cwrite_h B b _ (bs a) w h (by rw [Lib.byteCells_length]; exact hl) hBw).mono ?_
 rintro e w' ⟨rfl, h1, h2, h3⟩
 rw [show Lib.strCells (bs a) = Lib.byteCells a from rfl, byteCells_app] at h1
 exact ⟨rfl, .inr h1, h2, h3⟩
end Go.Proofs.YtgmghopcppniaaaGreatDoor

/- snap.Pack: walked. -/
namespace Go.Proofs.YtgmghopcppniaaaGreatDoor
open Go.RowKit Go.Lib Go.Shelf

attribute [local go_sem] Oper.semAt_some
theorem fr_below {w w' : World} (h : Below w.heap.size w w') : Fr (fun _ => False) w w' := ⟨h.os, h.tape, h.output, h.size, fun k hk _ => h.block k hk⟩
def PackPost (b : BaseD) (w : World) (e : Ending) (w' : World) : Prop := e = .returned (.tuple #[.string (bs (packD b).1), .int .i64 (packD b).2]) ∧ Fr (fun _ => False) w w'
end Go.Proofs.YtgmghopcppniaaaGreatDoor

/- snap.take: walked. -/
namespace Go.Proofs.YtgmghopcppniaaaGreatDoor
open Go.RowKit Go.Lib

theorem unf_at {w : World} {s : Str} (hs : s.length ≤ 1000000) {t : Str} {n er : Int} (h : unfD s = ((t, n), er)) :
  Calls Tryz.prog 112 #[.string (bs s)] w fun e w' => e = .returned (.tuple #[.string (bs t), .int .i64 n, .int .i64 er]) ∧ Fr (fun _ => False) w w' := by
 refine (unframe_h s hs).mono ?_
 rintro e w' ⟨rfl, hf⟩
 exact ⟨by rw [h], hf⟩
def TakeNo (er : Int) (w : World) (e : Ending) (w' : World) : Prop := ∃ x y : ByteArray, e = .returned (.tuple #[.string x, .string y, .int .i64 er]) ∧ Fr (fun _ => False) w w'
def TakeOk (t r : Str) (w : World) (e : Ending) (w' : World) : Prop := e = .returned (.tuple #[.string (bs t), .string (bs r), .int .i64 0]) ∧ Fr (fun _ => False) w w'
end Go.Proofs.YtgmghopcppniaaaGreatDoor

/- snap.head: walked. -/
namespace Go.Proofs.YtgmghopcppniaaaGreatDoor
open Go.RowKit Go.Lib

theorem info3 : (Tryz.prog.info? 3).map (fun i => (i.zero, i.size, i.bytes)) = some (some (.int .i64 0), 1, 8) := by kernel_rfl
def HeadNo (w : World) (e : Ending) (w' : World) : Prop := ∃ (x y : Int) (a : Option Addr) (n c : Nat) (d : ByteArray) (z : Int), e = .returned (.tuple #[.agg #[.int .i64 x, .int .i64 y, .slice a n c, .string d], .int .i64 z, .bool false]) ∧ Fr (fun _ => False) w w'
def HeadOk (b : BaseD) (long : Int) (w : World) (e : Ending) (w' : World) : Prop := ∃ v, e = .returned (.tuple #[baseV b v, .int .i64 long, .bool true]) ∧ BaseIn w' (fun k => w.heap.size ≤ k ∧ k < w'.heap.size) b v ∧ Fr (fun _ => False) w w'
/-- either, as the text says -/
def HeadPost (s : Str) (w : World) (e : Ending) (w' : World) : Prop := match headOf s with | none => HeadNo w e w' | some (b, long) => HeadOk b long w e w'
theorem toInt_less {s t : Str} {n : Int} (h : toIntL s = some (n, t)) : t.length < s.length := by
 have := (toInt_back h).1
 have h2 := intL_pos n
 rw [this, List.length_append]; omega
/-- while the numbers are read -/
structure HRel (w : World) (s : Str) (ns : List Int) (rest : Str) (v : Value) (wr : World) : Prop where
 at' : NumsAt s ns rest
 row : wr.ownsRow w.heap.size 3 1 v ns.length (ns.map (Value.int .i64))
 fr : Fr (fun _ => False) w wr
 res : wr.heap[w.heap.size]? = some (.cells #[.int .i64 0, .int .i64 0, .slice none 0 0, .string ⟨#[]⟩] 24 (0, 0))
theorem own_ne {w : World} {base e n size k : Nat} {v : Value} {xs : List Value} {c : Array Value} {T : TypeId} {f : Nat × Nat} (h : w.ownsRow base e size v n xs) (hb : w.heap[k]? = some (.cells c T f)) (hT : T ≠ e) : v.ownBlock ≠ some k := by
 intro hk
 rcases h.2 with ⟨rfl, _⟩ | ⟨g, cap, cur, rfl, _, hh, _⟩
 ·simp [Value.ownBlock] at hk
 ·simp [Value.ownBlock] at hk
  subst hk
  rw [hh] at hb
  injection hb with hb
  injection hb with _ hb _
  exact hT hb.symm
end Go.Proofs.YtgmghopcppniaaaGreatDoor

/- snap.Unpack: walked. -/
namespace Go.Proofs.YtgmghopcppniaaaGreatDoor
open Go.RowKit Go.Lib

def UnpNo (er : Int) (w : World) (e : Ending) (w' : World) : Prop := e = .returned (.tuple #[baseV zeroB (.slice none 0 0), .int .i64 er]) ∧ Fr (fun _ => False) w w'
def UnpOk (b : BaseD) (w : World) (e : Ending) (w' : World) : Prop := ∃ v, e = .returned (.tuple #[baseV b v, .int .i64 0]) ∧ BaseIn w' (fun k => w.heap.size ≤ k ∧ k < w'.heap.size) b v ∧ Fr (fun _ => False) w w'
def UnpPost (s : Str) (w : World) (e : Ending) (w' : World) : Prop := match unpackL s with | .error er => UnpNo er w e w' | .ok b => UnpOk b w e w'
/-- while the data are read -/
structure URel (w w4 : World) (bb : Nat) (r : Str) (long : Int) (j : Nat) (d rest : Str) (wr : World) : Prop where
 data : dataF (r.length + 1) long [] r = dataF j long d rest
 bld : Lib.IsBuilderF 108 5 bb bb (Lib.byteCells d) wr
 low : Below bb w4 wr
end Go.Proofs.YtgmghopcppniaaaGreatDoor

/- snap.name, snap.indexOf: walked. -/
namespace Go.Proofs.YtgmghopcppniaaaGreatDoor
open Go.RowKit Go.Lib

/-- the library's variables -/
structure Env (w : World) : Prop where
 syn : ∃ T p, w.cell? ⟨0, 0, none⟩ = some (.iface T p)
 rng : ∃ T p, w.cell? ⟨1, 0, none⟩ = some (.iface T p)
 pow : ∃ e f, w.heap[2]? = some (.cells (Lib.pow10Tab.map fun z => Value.int .u64 z).toArray e f)
theorem Env.fr {o : Nat → Prop} {w w' : World} (h : Env w) (hf : Fr o w w') (ho : ∀ k, k < 8 → ¬ o k) : Env w' := by
 obtain ⟨⟨T, p, h1⟩, ⟨T', p', h2⟩, ⟨e, f, h3⟩⟩ := h
 exact ⟨⟨T, p, hf.cell h1 (ho 0 (by omega))⟩, ⟨T', p', hf.cell h2 (ho 1 (by omega))⟩, ⟨e, f, hf.keep h3 (ho 2 (by omega))⟩⟩
theorem Env.grow {w w' : World} (h : Env w) (hf : Fr (fun _ => False) w w') : Env w' := h.fr hf fun _ _ h => h
theorem pow_named : Tryz.prog.globalNamed "internal/strconv.uint64pow10" = some 2 := by kernel_rfl
theorem Env.tab {w : World} (h : Env w) : Lib.TabIs Tryz.prog w "internal/strconv.uint64pow10" .u64 Lib.pow10Tab := by
 obtain ⟨e, f, h3⟩ := h.pow
 unfold Lib.TabIs World.var?
 rw [pow_named]
 simp only [Option.bind_some, h3]
theorem fr_new {w w' : World} (h : Below w.heap.size w w') : Fr (fun _ => False) w w' := fr_below h
theorem fr_grown {w : World} (os : Array Obj) : Fr (fun _ => False) w (Sort.grow w os) :=
 ⟨rfl, rfl, rfl, by show w.heap.size ≤ (w.heap ++ os).size; rw [Array.size_append]; omega, fun k hk _ => by show (w.heap ++ os)[k]? = _; rw [Array.getElem?_append_left hk]⟩
theorem itoa_h {w : World} (hE : Env w) {n : Int} (hn : I64 n) : Calls Tryz.prog 131 #[.int .i64 n] w fun e w' => e = .returned (.string (bs (Lib.itoa n))) ∧ Fr (fun _ => False) w w' := by
 refine (Tryz.strconv_Itoa n hn.1 hn.2 w hE.tab).mono ?_
 rintro e w' ⟨rfl, k, os, rfl⟩
 exact ⟨rfl, (fr_grown (w := w.drewN k) os).of_start⟩
theorem atoi_ok_h {w : World} {t : Str} (ht : t.length ≤ 1000000) {v : Int} (h : Lib.atoiAll t = .ok v) : Calls Tryz.prog 130 #[.string (bs t)] w fun e w' => e = .returned (.tuple #[.int .i64 v, .nilIface]) ∧ Fr (fun _ => False) w w' := by
 refine (Tryz.strconv_Atoi_ok (bs t) (by rw [bs_size]; omega) v h w).mono ?_
 rintro e w' ⟨rfl, rfl | ⟨t, rfl⟩⟩
 ·exact ⟨rfl, Fr.refl _ _⟩
 ·exact ⟨rfl, fr_new (Lib.bytesWorld_below _ _ _)⟩
def IdxPost (s : Str) (w : World) (e : Ending) (w' : World) : Prop := e = .returned (.int .i64 (idxD s)) ∧ Fr (fun _ => False) w w'
end Go.Proofs.YtgmghopcppniaaaGreatDoor
