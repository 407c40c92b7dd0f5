/- The walk of conf.Without. -/
import Derived.Test.YtnplikpjogoghaaW2
import Derived.Test.YtnplikpjogoghaaV3
import Derived.Test.YtnplikpjogoghaaShelf3
namespace Go.Proofs.Ytnplikpjogoghaa
open Go.RowKit Go.Lib Go.Shelf

section
variable {w : World} {S S' : Nat → Prop} {a b : Value} {l m : List Int}

theorem clos39_h {B : Nat} {n : Int} (hc : w.cell? ⟨B, 0, none⟩ = some (.int .i64 n)) (x : Int) :
    Calls Try.prog 39 #[.int .i64 x, .pointer (some ⟨B, 0, none⟩)] w fun e w' => e = .returned (.bool (decide (x = n))) ∧ w = w' := by
  go_enter Try.func39, Try.ntmps39
  go_wp2_with fail
  go_ret
  exact ⟨rfl, rfl⟩
theorem gives39 (n x : Int) (B : Nat) (W : World) (hc : W.cell? ⟨B, 0, none⟩ = some (.int .i64 n)) :
    FnGives Try.prog 39 #[.pointer (some ⟨B, 0, none⟩)] #[.int .i64 x] (.bool (decide (x = n))) W := by
  show Calls Try.prog 39 #[.int .i64 x, .pointer (some ⟨B, 0, none⟩)] W _
  refine Calls.mono (clos39_h hc x) ?_
  rintro e w' ⟨rfl, rfl⟩
  exact ⟨rfl, 0, rfl⟩
theorem pred39 (n : Int) (B : Nat) (w : World) (hB : B < w.heap.size) (hcell : w.cell? ⟨B, 0, none⟩ = some (.int .i64 n)) :
    PredAt Try.prog 39 #[.pointer (some ⟨B, 0, none⟩)] (Value.int .i64) (fun x => decide (x = n)) w :=
  fun W x hb => gives39 n x B W ((hb.cell (p := ⟨B, 0, none⟩) hB).trans hcell)
theorem over39 (n : Int) (B blk off size : Nat) (w : World) (hB : B < w.heap.size) (hne : B ≠ blk) (hcell : w.cell? ⟨B, 0, none⟩ = some (.int .i64 n)) :
    PredOver Try.prog 39 #[.pointer (some ⟨B, 0, none⟩)] (Value.int .i64) (fun x => decide (x = n)) blk off size w :=
  fun m os dk x _ => gives39 n x B _ (by
    unfold sortWorld
    rw [Go.Sort.cell?_grow _ _ _ (by show B < (Go.Sort.putRow _ _ _ _ _).heap.size; rw [Go.Sort.size_putRow]; exact hB), Go.Sort.cell?_putRow_other _ _ blk off _ _ (Or.inl hne)]
    exact hcell)

set_option maxHeartbeats 1000000 in
theorem indexf39_nil {cap B : Nat} : Calls Try.prog 35 #[.slice none 0 cap, .func (.func 39) #[] #[.pointer (some ⟨B, 0, none⟩)]] w fun e w' => e = .returned (.int .i64 (-1)) ∧ w = w' := by
  go_enter Try.func35, Try.ntmps35
  go_wp2_with fail
  go_loopg [8] 0 (fun j v wr => v = .int .i64 0 ∧ w = wr)
  case atStart => exact ⟨rfl, rfl⟩
  case round =>
    obtain ⟨rfl, rfl⟩ := hrel
    go_wp2_with fail
    go_ret
    exact ⟨rfl, rfl⟩
theorem delf_nil {cap B : Nat} : Calls Try.prog 38 #[.slice none 0 cap, .func (.func 39) #[] #[.pointer (some ⟨B, 0, none⟩)]] w fun e w' => e = .returned (.slice none 0 cap) ∧ w = w' := by
  have H := indexf39_nil (w := w) (cap := cap) (B := B)
  go_enter Try.func38, Try.ntmps38
  go_wp2_with fail
  refine Calls.mono H ?_
  rintro e w' ⟨rfl, rfl⟩
  go_wp2_with fail
  go_ret
  exact ⟨rfl, rfl⟩

/-- DeleteFunc over a row of one's own -/
theorem del_h {base : Nat} {v : Value} {n : Int} {B : Nat} (h : OI w base v l) (hl : l.length < 1000000) (hB : B < base) (hBw : B < w.heap.size) (hc : w.cell? ⟨B, 0, none⟩ = some (.int .i64 n)) :
    Calls Try.prog 38 #[v, .func (.func 39) #[] #[.pointer (some ⟨B, 0, none⟩)]] w fun e w' => ∃ v, e = .returned v ∧ IR w' (fun k => base ≤ k) v (withoutL l n) ∧ Fr (fun k => base ≤ k) w w' := by
  have hlt := World.ownsRow.lt h
  rcases h.2 with ⟨rfl, h0⟩ | ⟨g, cap, cur, rfl, hg, hh, hnc, hcm, hcs, htake⟩
  · obtain rfl : l = [] := List.length_eq_zero_iff.1 h0
    refine Calls.mono delf_nil ?_
    rintro e w' ⟨rfl, rfl⟩
    exact ⟨_, rfl, IR.nil _ _, Fr.refl _ _⟩
  · have hH : Go.Sort.Holds (Value.int .i64) w g 0 l.toArray := fun j hj => by
      rw [Nat.zero_add]
      refine ⟨ownsRow_cell h ?_, ownsRow_free h j⟩
      have hj' : j < l.length := by simpa using hj
      rw [List.getElem?_map, List.getElem?_eq_getElem hj', getElem!_pos l.toArray j hj]
      simp
    have eg : ∀ args w, (callFunc 39 args).run Try.prog w = .ok (.enter 39 args) w := enters_of Try.func39 (by kernel_rfl) rfl
    have hgw : g < w.heap.size := (hlt g rfl).2
    unfold maxLen at hcm
    have hcon := Try.slices_DeleteFunc (Value.int .i64) (fun _ => rfl) (fun x => decide (x = n)) 39 #[.pointer (some ⟨B, 0, none⟩)] eg 0 Try.zeroValue3 g 0 cap l.toArray w (pred39 n B w hBw hc) (over39 n B g 0 _ w hBw (by omega) hc) hH (by simp; omega) (by simp; omega)
    have e1 : l.toArray.size = l.length := by simp
    rw [e1] at hcon
    refine Calls.mono hcon ?_
    rintro e w' ⟨rfl, q, rfl⟩
    have hf : (l.toArray.toList.filter fun x => !decide (x = n)) = withoutL l n := rfl
    rw [hf]
    have hle : (withoutL l n).length ≤ l.length := List.length_filter_le _ _
    refine ⟨_, rfl, ?_, fr_putRow (o := fun k => base ≤ k) (fr_ahead (Fr.refl _ _) q) (.inl hg) _ _⟩
    refine ir_cells (fun i p hp => ?_) hg (by omega) (by unfold maxLen; omega)
    have hi := (List.getElem?_eq_some_iff.1 hp).1
    rw [Go.Sort.cell?_putRow (Value.int .i64) _ g 0 l.toArray _ (Go.Sort.holds_ahead _ _ _ _ _ _ hH) (by simp; omega) i (by simp; omega), getElem!_pos _ i (by simp; omega)]
    simp only [List.getElem_toArray]
    rw [List.getElem_append_left hi]
    rw [(List.getElem?_eq_some_iff.1 hp).2]
end
end Go.Proofs.Ytnplikpjogoghaa
