/- The walks of the heap's methods, and of container/heap's up and down. -/
import Derived.Test.YtfmkdilllgncfaaThings
namespace Go.Proofs.Ytfmkdilllgncfaa
open Go.RowKit Go.Lib

def ltB (x y : T3) : Bool := decide (ltK x.key y.key)
theorem ltT_eq (x y : T3) : ltT x.t x.id y.t y.id = ltB x y := rfl

section
variable {w : World} {ba : Nat} {hv mv : Value} {ts : List T3}

set_option maxHeartbeats 400000 in
theorem less_c (hb n cap i j p q : Nat) (a1 i1 a2 i2 : Int) (w : World) (hi : i < n) (hj : j < n) (_hn : n ≤ 9223372036854775807)
   (g1 : w.cell? ⟨hb,i,none⟩ = some (.pointer (some ⟨p,0,none⟩))) (g2 : w.cell? ⟨hb,j,none⟩ = some (.pointer (some ⟨q,0,none⟩)))
   (h1 : w.cell? ⟨p,0,none⟩ = some (.int .i64 a1)) (h2 : w.cell? ⟨p,1,none⟩ = some (.int .i64 i1))
   (h3 : w.cell? ⟨q,0,none⟩ = some (.int .i64 a2)) (h4 : w.cell? ⟨q,1,none⟩ = some (.int .i64 i2)) :
    Calls Try.prog 45 #[.slice (some ⟨hb,0,none⟩) n cap, .int .i64 i, .int .i64 j] w fun e w' => e = .returned (.bool (ltT a1 i1 a2 i2)) ∧ ∃ n, w' = w.drewN n := by
  go_enter Try.func45, Try.ntmps45
  go_wp2_with fail
  go_quiet ((go_at_call 47; exact Calls.quiet_of (before_any p q a1 i1 a2 i2 _ h1 h2 h3 h4)))
  go_wp2
  go_ret
  exact ⟨rfl, _, rfl⟩

theorem less_h (h : HRep w ba hv mv ts) {i j : Nat} {x y : T3} (hx : ts[i]? = some x) (hy : ts[j]? = some y) :
    Calls Try.prog 45 #[hv, .int .i64 i, .int .i64 j] w fun e w' => e = .returned (.bool (ltB x y)) ∧ ∃ n, w' = w.drewN n := by
  have hi := (List.getElem?_eq_some_iff.1 hx).1
  have hj := (List.getElem?_eq_some_iff.1 hy).1
  obtain ⟨hb, cap, rfl, hc1, hc2⟩ := h.form (by omega)
  unfold maxLen at hc2
  exact less_c hb _ cap i j x.b y.b x.t x.id y.t y.id w hi hj (by omega) (ownsRow_cell h.row (by simp [hx, T3.ptr])) (ownsRow_cell h.row (by simp [hy, T3.ptr]))
    (cell_of (h.item i x hx) (by rfl)) (cell_of (h.item i x hx) (by rfl)) (cell_of (h.item j y hy) (by rfl)) (cell_of (h.item j y hy) (by rfl))

set_option maxHeartbeats 400000 in
theorem swap_c (hb n cap i j p q : Nat)  (w : World) (hi : i < n) (hj : j < n) (_hn : n ≤ 9223372036854775807) (hij : i < j) (hpq : p ≠ q) (hph : p ≠ hb) (hqh : q ≠ hb)
   (vp vq : Value)
   (g1 : w.cell? ⟨hb,i,none⟩ = some (.pointer (some ⟨p,0,none⟩))) (g2 : w.cell? ⟨hb,j,none⟩ = some (.pointer (some ⟨q,0,none⟩)))
   (f1 : w.frozen? ⟨hb,i,none⟩ = false)  (f2 : w.frozen? ⟨hb,j,none⟩ = false)
   (h1 : w.cell? ⟨p,2,none⟩ = some vp) (h3 : w.cell? ⟨q,2,none⟩ = some vq)
   (f3 : w.frozen? ⟨p,2,none⟩ = false)  (f4 : w.frozen? ⟨q,2,none⟩ = false) :
    Calls Try.prog 46 #[.slice (some ⟨hb,0,none⟩) n cap, .int .i64 i, .int .i64 j] w fun e w' => e = .returned (.tuple #[]) ∧
      w' = ((((w.setCell ⟨hb,i,none⟩ (.pointer (some ⟨q,0,none⟩))).setCell ⟨hb,j,none⟩ (.pointer (some ⟨p,0,none⟩))).setCell ⟨q,2,none⟩ (.int .i64 i)).setCell ⟨p,2,none⟩ (.int .i64 j)).drew.drew := by
  go_enter Try.func46, Try.ntmps46
  go_wp2
  go_region
  go_wp2
  go_region
  go_end0
  exact ⟨rfl, rfl⟩

theorem swap_h (h : HRep w ba hv mv ts) {i j : Nat} (hij : i < j) (hj : j < ts.length) :
    Calls Try.prog 46 #[hv, .int .i64 i, .int .i64 j] w fun e w' => e = .returned (.tuple #[]) ∧ HRep w' ba hv mv (swapL ts i j) ∧ Fr (foot ba hv ts) w w' := by
  obtain ⟨x, hx⟩ : ∃ x, ts[i]? = some x := ⟨_, List.getElem?_eq_getElem (by omega)⟩
  obtain ⟨y, hy⟩ : ∃ x, ts[j]? = some x := ⟨_, List.getElem?_eq_getElem (by omega)⟩
  obtain ⟨hb, cap, rfl, hc1, hc2⟩ := h.form (by omega)
  unfold maxLen at hc2
  have ix := h.item i x hx
  have iy := h.item j y hy
  obtain ⟨cur, hcur⟩ := ownsRow_block h.row
  have nxy : x.b ≠ y.b := ne_of_obj ix iy (by intro e; injection e with e1; injection e1 with e2; simp at e2; omega)
  refine (swap_c hb _ cap i j x.b y.b w (by omega) hj (by omega) hij nxy (ne_of_elem ix hcur (by decide)) (ne_of_elem iy hcur (by decide)) _ _ (ownsRow_cell h.row (by simp [hx, T3.ptr])) (ownsRow_cell h.row (by simp [hy, T3.ptr]))
    (ownsRow_free h.row i) (ownsRow_free h.row j) (cell_of ix (i := 2) (by rfl)) (cell_of iy (i := 2) (by rfl)) (free_of 2 ix) (free_of 2 iy)).mono ?_
  rintro e w' ⟨rfl, rfl⟩
  refine ⟨rfl, (h.swapped (by omega) hj hij hx hy).keep fun _ _ => rfl, ?_⟩
  refine Fr.drew (Fr.drew ?_)
  refine (((Fr.refl _ w).setCell ?_ _).setCell ?_ _).setCell ?_ _ |>.setCell ?_ _
  · exact .inl (.inr (.inl rfl))
  · exact .inl (.inr (.inl rfl))
  · exact .inl (.inr (.inr ⟨y, List.mem_of_getElem? hy, rfl⟩))
  · exact .inl (.inr (.inr ⟨x, List.mem_of_getElem? hx, rfl⟩))

theorem len_c (a : Option Addr) (n cap : Nat) (w : World) : Calls Try.prog 26 #[.slice a n cap] w fun e w' => e = .returned (.int .i64 n) ∧ w = w' := by
  go_enter Try.func26, Try.ntmps26
  go_wp2
  go_ret
  exact ⟨rfl, rfl⟩
theorem len_h (h : HRep w ba hv mv ts) : Calls Try.prog 26 #[hv] w fun e w' => e = .returned (.int .i64 ts.length) ∧ w = w' := by
  rcases h.row.2 with ⟨rfl, h2⟩ | ⟨g, cap, cur, rfl, _⟩
  · rw [h2]; exact len_c none 0 0 w
  · exact len_c _ _ _ w
end
end Go.Proofs.Ytfmkdilllgncfaa
