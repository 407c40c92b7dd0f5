/- Clone, sorted and Agreed. -/
import Derived.Test.YtnplikpjogoghaaC1
import Derived.Test.YtnplikpjogoghaaShelf
namespace Go.Proofs.Ytnplikpjogoghaa
open Go.RowKit Go.Lib

section
variable {w : World} {S S' : Nat → Prop} {a b : Value} {l m : List Int}

/-- a row of numbers of one's own -/
def OI (w : World) (base : Nat) (v : Value) (l : List Int) : Prop := w.ownsRow base 3 1 v l.length (l.map (Value.int .i64))
theorem OI.ir {base : Nat} {v : Value} (h : OI w base v l) : IR w (fun k => v.ownBlock = some k) v l := SRow.of_owns h
theorem OI.irb {base : Nat} {v : Value} (h : OI w base v l) : IR w (fun k => base ≤ k) v l := IR.mono h.ir fun k hk => (World.ownsRow.lt h k hk).1
theorem OI.low {base b2 : Nat} {v : Value} (h : OI w base v l) (hb : b2 ≤ base) : OI w b2 v l := ownsRow_base h hb

theorem oi_nil (w : World) (base : Nat) : OI w base (.slice none 0 0) [] := ⟨rfl, .inl ⟨rfl, rfl⟩⟩

theorem clone_h (ha : IR w S a l) (hl : l.length < 1000000) : Calls Try.prog 29 #[a] w fun e w' => ∃ v, e = .returned v ∧ OI w' w.heap.size v l ∧ Fr (fun _ => False) w w' := by
  obtain ⟨a, cap, rfl, hc1, hc2⟩ := ha.form
  rcases Nat.eq_zero_or_pos l.length with h0 | h0
  · obtain rfl : l = [] := List.length_eq_zero_iff.1 h0
    cases a with
    | none =>
      refine Calls.mono (Try.slices_Clone_int_nil 0 cap w) ?_
      rintro e w' ⟨rfl, rfl⟩
      exact ⟨_, rfl, oi_nil _ _, Fr.refl _ _⟩
    | some x =>
      refine Calls.mono (Try.slices_Clone_int_zero x cap w) ?_
      rintro e w' ⟨v, rfl, h1, _, h2⟩
      exact ⟨v, rfl, h1, (Fr.of_below h2).mono fun i hi h => by omega⟩
  · obtain ⟨g, off, rfl, hc⟩ := ha.cells h0
    refine Calls.mono (Try.slices_Clone_int g off l.length cap l w (Nat.le_refl _) (by omega) fun j hj => hc j _ (by rw [List.getD_eq_getElem?_getD, List.getElem?_eq_getElem hj]; rfl)) ?_
    rintro e w' ⟨v, rfl, h1, _, h2⟩
    rw [List.take_length] at h1
    exact ⟨v, rfl, h1, (Fr.of_below h2).mono fun i hi h => by omega⟩

theorem fr_putRow {o : Nat → Prop} {x y : World} (h : Fr o x y) {g : Nat} (hg : o g ∨ x.heap.size ≤ g) (off : Nat) (d : Array Int) : Fr o x (Go.Sort.putRow (Value.int .i64) y g off d) := by
  refine ⟨h.os, h.tape, h.output, by rw [Go.Sort.size_putRow]; exact h.size, fun k hk hn => ?_⟩
  rw [← h.block k hk hn]
  simp only [Go.Sort.putRow, Go.Sort.mapBlock, Array.getElem?_modify]
  rw [if_neg]
  intro e; subst e; rcases hg with h1 | h1
  · exact hn h1
  · omega
theorem fr_growS {o : Nat → Prop} {x y : World} (h : Fr o x y) (os : Array Obj) : Fr o x (Go.Sort.grow y os) := by
  refine ⟨h.os, h.tape, h.output, by rw [Go.Sort.size_grow]; have := h.size; omega, fun k hk hn => ?_⟩
  rw [← h.block k hk hn]
  exact Go.Sort.heap_grow_old _ _ (by have := h.size; omega)
theorem fr_ahead {o : Nat → Prop} {x y : World} (h : Fr o x y) (n : Nat) : Fr o x (Go.Sort.ahead y n) := h.of_heap rfl rfl rfl rfl

def sortL (l : List Int) : List Int := l.mergeSort fun x y => decide (x ≤ y)
theorem sortL_length (l : List Int) : (sortL l).length = l.length := by unfold sortL; exact List.length_mergeSort _

def SortedPost (g cap : Nat) (l : List Int) (w : World) (e : Ending) (w' : World) : Prop :=
  e = .returned (.slice (some ⟨g, 0, none⟩) l.length cap) ∧ (∀ i p, (sortL l).reverse[i]? = some p → w'.cell? ⟨g, 0 + i, none⟩ = some (.int .i64 p)) ∧ Fr (fun k => k = g) w w'

theorem sorted_h {g cap : Nat} {base : Nat} (h : OI w base (.slice (some ⟨g, 0, none⟩) l.length cap) l) (hg : g < w.heap.size) (hl : l.length < 1000000) :
    Calls Try.prog 28 #[.slice (some ⟨g, 0, none⟩) l.length cap] w (SortedPost g cap l w) := by
  have hH : Go.Sort.Holds (Value.int .i64) w g 0 l.toArray := fun j hj => by
    rw [Nat.zero_add]
    refine ⟨ownsRow_cell h ?_, ownsRow_free h j⟩
    have hj' : j < l.length := by simpa using hj
    rw [List.getElem?_map, List.getElem?_eq_getElem hj', getElem!_pos l.toArray j hj]
    simp
  have H1 := Try.slices_Sort_int g 0 cap l w hH hg (by omega)
  go_enter Try.func28, Try.ntmps28
  go_wp2_with fail
  refine Calls.mono H1 ?_
  rintro e w2 ⟨rfl, n, os, hw⟩
  have hs : ((l.mergeSort fun x y => decide (x ≤ y)).toArray).size = l.toArray.size := by simp
  have hH2 : Go.Sort.Holds (Value.int .i64) w2 g 0 (sortL l).toArray := by
    rw [hw]
    refine Go.Sort.holds_grow _ _ _ _ _ _ (by rw [Go.Sort.size_putRow]; exact hg) ?_
    exact Go.Sort.holds_putRow _ _ _ _ _ _ (Go.Sort.holds_ahead _ _ _ _ _ _ hH) hs
  have hF2 : Fr (fun k => k = g) w w2 := by
    rw [hw]
    exact fr_growS (fr_putRow (o := fun k => k = g) (fr_ahead (Fr.refl _ _) n) (.inl rfl) _ _) os
  have H2 := Try.slices_Reverse_int g 0 cap (sortL l) w2 hH2 (by rw [sortL_length]; omega)
  rw [sortL_length] at H2
  clear hw H1 hH h hs
  go_wp2_with fail
  refine Calls.mono H2 ?_
  rintro e w3 ⟨rfl, n3, hw3⟩
  have hc : ∀ i p, (sortL l).reverse[i]? = some p → w3.cell? ⟨g, 0 + i, none⟩ = some (.int .i64 p) := fun i p hp => by
    have hi := (List.getElem?_eq_some_iff.1 hp)
    obtain ⟨hi, hp⟩ := hi
    rw [hw3, Go.Sort.cell?_putRow (Value.int .i64) _ g 0 (sortL l).toArray _ (Go.Sort.holds_ahead _ _ _ _ _ _ hH2) (by simp) i (by simpa using hi), getElem!_pos _ i (by simpa using hi)]
    simp only [List.getElem_toArray, hp]
  have hF3 : Fr (fun k => k = g) w w3 := by
    rw [hw3]
    exact fr_putRow (o := fun k => k = g) (fr_ahead hF2 n3) (.inl rfl) _ _
  have HX := Lib.hid (And.intro hc hF3)
  clear hw3 H2 hH2 hc hF3 hF2
  go_wp2_with fail
  go_ret
  exact ⟨rfl, HX.out.1, HX.out.2⟩

def agreedZ (l : List Int) : Int := ((sortL l).reverse[l.length / 2]?).getD 0

set_option maxHeartbeats 1000000 in
theorem agreed_h (ha : IR w S a l) (hl : l.length < 1000000) : Calls Try.prog 13 #[a] w fun e w' => e = .returned (.int .i64 (agreedZ l)) ∧ Fr (fun _ => False) w w' := by
  have HC := Lib.hid (clone_h ha hl)
  obtain ⟨a, cap, rfl, hc1, hc2⟩ := ha.form
  clear ha
  rcases Nat.eq_zero_or_pos l.length with h0 | h0
  · have d0 : ((l.length : Int) == 0) = true := by simp [h0]
    have d1 : (l.length == 0) = true := by simp [h0]
    have hz : agreedZ l = 0 := by obtain rfl : l = [] := List.length_eq_zero_iff.1 h0; simp [agreedZ, sortL]
    have HZ := Lib.hid hz
    clear h0 hz
    go_enter Try.func13, Try.ntmps13
    go_wp2_with fail
    go_ret
    exact ⟨by rw [HZ.out]; rfl, Fr.refl _ _⟩
  · have d0 : ((l.length : Int) == 0) = false := by rw [beq_eq_false_iff_ne]; omega
    have d1 : (l.length == 0) = false := by rw [beq_eq_false_iff_ne]; omega
    go_enter Try.func13, Try.ntmps13
    go_wp2_with fail
    refine Calls.mono HC.out ?_
    rintro e w1 ⟨v, rfl, hO, hF⟩
    obtain ⟨g, cap2, rfl, hg, hcl, hcm⟩ := ownsRow_form hO h0
    have hg2 : g < w1.heap.size := (World.ownsRow.lt hO g rfl).2
    have HS := sorted_h hO hg2 hl
    clear hO
    unfold maxLen at hcm
    go_wp2_with fail
    refine Calls.mono HS ?_
    rintro e w2 ⟨rfl, hc, hF2⟩
    obtain ⟨k, hI, hkk⟩ : ∃ k : Nat, (l.length : Int) / 2 = (k : Int) ∧ l.length / 2 = k := ⟨l.length / 2, by omega, rfl⟩
    obtain ⟨p, hp⟩ : ∃ p, (sortL l).reverse[k]? = some p := ⟨_, List.getElem?_eq_getElem (by rw [List.length_reverse, sortL_length]; omega)⟩
    have c1 := hc _ p hp
    rw [Nat.zero_add] at c1
    have hlt : k < l.length := by omega
    have HX := Lib.hid (show agreedZ l = p by unfold agreedZ; rw [hkk, hp]; rfl)
    clear hkk
    have HF := Lib.hid (show Fr (fun _ => False) w w2 from hF.trans hF2 fun i hi => by subst hi; exact .inr hg)
    clear hc hF hF2 HS hp
    go_wp2_with fail
    go_ret
    exact ⟨by rw [HX.out]; rfl, HF.out⟩
end
end Go.Proofs.Ytnplikpjogoghaa
