/- slices.Insert of one number into a row of one's own. -/
import Derived.Test.YtnplikpjogoghaaV1
namespace Go.Proofs.Ytnplikpjogoghaa
open Go.RowKit Go.Lib Go.Shelf

section
variable {w : World} {base vb i : Nat} {v : Value} {l : List Int} {n : Int}

def InsPost (base : Nat) (l : List Int) (w : World) (e : Ending) (w' : World) : Prop := ∃ v, e = .returned v ∧ IR w' (fun k => base ≤ k) v l ∧ Fr (fun k => base ≤ k) w w'

theorem ints_one (l : List Int) : ∀ u ∈ l.map (Value.int .i64), u.oneCell' = true := ints_oneCell .i64 l
theorem some_of_size {W : World} {g j : Nat} {c : Array Value} {e : TypeId} {f : Nat × Nat} (h : W.heap[g]? = some (.cells c e f)) (hj : j < c.size) : (W.cell? ⟨g, j, none⟩).isSome = true := by
  rw [cell_of h (Array.getElem?_eq_getElem hj)]; rfl

/-- at the end, without room (nil too) -/
theorem insert_end_grow (b : Option Addr) (cap : Nat) (hb : b = none → l.length = 0) (hc : ∀ a, b = some a → ∀ (j : Nat) (p : Int), l[j]? = some p → w.cell? (a.add j) = some (.int .i64 p))
    (hl : l.length < 1000000) (hcap : l.length ≤ cap) (hroom : cap < l.length + 1) (hbase : base ≤ w.heap.size) (hv : w.cell? ⟨vb, 0, none⟩ = some (.int .i64 n)) :
    Calls Try.prog 37 #[.slice b l.length cap, .int .i64 l.length, .slice (some ⟨vb, 0, none⟩) 1 1] w (InsPost base (putAt l l.length n) w) := by
  have h := Any2.slices_Insert_int_end_grow Try.laysNm221 b l.length cap vb 0 1 1 (l.map (Value.int .i64)) [.int .i64 n] w (by decide) hcap hroom (by omega) (by simp) rfl hb
    (fun a ha j u hu => by
      rw [List.getElem?_map] at hu
      cases hp : l[j]? with
      | none => rw [hp] at hu; cases hu
      | some p => rw [hp] at hu; obtain rfl := Option.some.inj hu; exact hc a ha j p hp)
    (fun j u hu => by cases j with
      | zero => obtain rfl := Option.some.inj hu; exact hv
      | succ j => simp at hu) (by simp [Value.oneCell'])
  change Calls Try.prog 37 _ _ _ at h
  refine Calls.mono h ?_
  rintro e w' ⟨rfl, rfl⟩
  have hlen := putAt_length (i := l.length) n (Nat.le_refl _)
  refine ⟨_, rfl, ?_, (Fr.refl _ _).drew.alloc _⟩
  have h1 := grownCap_ge w (l.length + 1) cap 3
  have h2 := grownCap_le_maxLen w (l.length + 1) cap 3 (by unfold maxLen; omega)
  have := ir_cells (w := w.drew.alloc (.cells ((l.map (Value.int .i64) ++ [Value.int .i64 n]).toArray ++ Builtin.zeroCells (Value.int .i64 0).cells (grownCap w (l.length + 1) cap 3 - (l.length + 1))) 3)) (S := fun k => base ≤ k) (g := w.heap.size) (off := 0) (cap := grownCap w (l.length + 1) cap 3) (l := putAt l l.length n)
    (fun j p hp => by
      refine cell_of (block_new w.drew _) ?_
      rw [Nat.zero_add, Array.getElem?_append_left (by have := (List.getElem?_eq_some_iff.1 hp).1; simp; omega)]
      simp only [List.getElem?_toArray]
      have e : (putAt l l.length n).map (Value.int .i64) = l.map (Value.int .i64) ++ [.int .i64 n] := by unfold putAt; simp
      rw [← e, List.getElem?_map, hp]; rfl) hbase (by rw [hlen]; exact h1) h2
  rw [hlen] at this
  exact this

set_option maxHeartbeats 1000000 in
theorem insert_h (h : OI w base v l) (hl : l.length < 1000000) (hbase : base ≤ w.heap.size) (hi : i ≤ l.length) (hvb : w.heap[vb]? = some (.cells #[.int .i64 n] 3 (0, 0))) (hne : v.ownBlock ≠ some vb) :
    Calls Try.prog 37 #[v, .int .i64 i, .slice (some ⟨vb, 0, none⟩) 1 1] w (InsPost base (putAt l i n) w) := by
  have hv : w.cell? ⟨vb, 0, none⟩ = some (.int .i64 n) := cell_of hvb rfl
  have hvs : ∀ (j : Nat) (u : Value), ([Value.int .i64 n] : List Value)[j]? = some u → w.cell? ⟨vb, 0 + j, none⟩ = some u := fun j u hu => by
    cases j with
    | zero => obtain rfl := Option.some.inj hu; exact hv
    | succ j => simp at hu
  have hlen := putAt_length n hi
  rcases h.2 with ⟨rfl, h0⟩ | ⟨g, cap, cur, rfl, hg, hh, hnc, hcm, hcs, htake⟩
  · obtain rfl : l = [] := List.length_eq_zero_iff.1 h0
    obtain rfl : i = 0 := by simpa using hi
    exact insert_end_grow (l := []) none 0 (fun _ => rfl) (fun a ha => by cases ha) (by decide) (Nat.le_refl _) (by decide) hbase hv
  · have hc : ∀ (j : Nat) (p : Int), l[j]? = some p → w.cell? ⟨g, j, none⟩ = some (.int .i64 p) := fun j p hp => ownsRow_cell h (by rw [List.getElem?_map, hp]; rfl)
    have hcs' : ∀ (j : Nat) (u : Value), (l.map (Value.int .i64))[j]? = some u → w.cell? ⟨g, 0 + j, none⟩ = some u := fun j u hu => by
      rw [Nat.zero_add]; exact ownsRow_cell h hu
    have hsome : ∀ j, j < cap → (w.cell? ⟨g, j, none⟩).isSome = true := fun j hj => some_of_size hh (by rw [hcs]; omega)
    have hfz : ∀ j, w.frozen? ⟨g, j, none⟩ = false := fun j => free_of j hh
    have hgv : vb ≠ g := fun e => hne (by rw [e]; rfl)
    unfold maxLen at hcm
    by_cases hroom : l.length + 1 ≤ cap
    · by_cases hil : i < l.length
      · have h := Any2.slices_Insert_int_shift Try.laysNm221 g 0 l.length cap i vb 0 1 1 (l.map (Value.int .i64)) [.int .i64 n] w hil (by decide) hroom (by omega) hgv (by simp) rfl hcs'
          (fun j hj => by rw [Nat.zero_add]; exact hsome j (by omega)) (fun j _ => by rw [Nat.zero_add]; exact hfz j) hvs (ints_one l) (by simp [Value.oneCell']) 3 3 1 cur.size (by unfold World.shape?; rw [hvb]; rfl) (by unfold World.shape?; rw [hh]) (by rw [hcs]; omega) (free_of 0 hvb) (free_of 1 hvb)
        change Calls Try.prog 37 _ _ _ at h
        refine Calls.mono h ?_
        rintro e w' ⟨rfl, rfl⟩
        refine ⟨_, rfl, ?_, fr_setCells (y := w) (.inl hg) _ _ (fr_setCells (y := w) (.inl hg) _ _ (Fr.refl _ _).drew)⟩
        have := ir_cells (S := fun k => base ≤ k) (cap := cap) (put_shift (W := w.drew) (n := n) hi hc (fun j hj => hsome j (by omega)) (0 + (i + 1)) (0 + i) (by omega) (by omega)) hg (by rw [hlen]; omega) (by unfold maxLen; omega)
        rw [hlen] at this
        exact this
      · obtain rfl : i = l.length := by omega
        have h := Any2.slices_Insert_int_end_room Try.laysNm221 g 0 l.length cap vb 0 1 1 [.int .i64 n] w (by decide) hroom (by omega) rfl (fun j hj => by rw [show 0 + l.length + j = l.length by omega]; exact hsome _ (by omega)) (fun j _ => hfz _) hvs (by simp [Value.oneCell'])
        change Calls Try.prog 37 _ _ _ at h
        refine Calls.mono h ?_
        rintro e w' ⟨rfl, rfl⟩
        refine ⟨_, rfl, ?_, fr_setCells (y := w) (.inl hg) _ _ (Fr.refl _ _)⟩
        have := ir_cells (w := w.setCells g (0 + l.length) [.int .i64 n]) (S := fun k => base ≤ k) (g := g) (off := 0) (cap := cap) (l := putAt l l.length n) (fun j p hp => by
          rw [Nat.zero_add, Nat.zero_add]
          rcases Nat.lt_trichotomy j l.length with hj | rfl | hj
          · rw [putAt_lt n hi hj] at hp
            rw [cells_one_ne _ _ _ (by omega)]; exact hc j p hp
          · rw [putAt_eq n hi] at hp
            obtain rfl := Option.some.inj hp
            exact cells_one _ _ (hsome _ (by omega))
          · have := (List.getElem?_eq_some_iff.1 hp).1; omega) hg (by rw [hlen]; omega) (by unfold maxLen; omega)
        rw [hlen] at this
        exact this
    · by_cases hil : i < l.length
      · have h := Any2.slices_Insert_int_grow Try.laysNm221 g 0 l.length cap i vb 0 1 1 (l.map (Value.int .i64)) [.int .i64 n] w hil (by decide) hnc (by omega) (by omega) (by simp) rfl hcs' hvs (ints_one l) (by simp [Value.oneCell'])
        change Calls Try.prog 37 _ _ _ at h
        refine Calls.mono h ?_
        rintro e w' ⟨rfl, rfl⟩
        have h1 := grownCap_ge w (l.length + 1) cap 3
        have h2 := grownCap_le_maxLen w (l.length + 1) cap 3 (by unfold maxLen; omega)
        refine ⟨_, rfl, ?_, ?_⟩
        · have hz : ∀ k, (Builtin.zeroCells (Value.int .i64 0).cells k).size = k := fun k => by simp [Builtin.zeroCells, Value.cells]
          have := ir_cells (S := fun k => base ≤ k) (cap := grownCap w (l.length + 1) cap 3) (put_new (g := w.heap.size) (n := n) (i := i) (W := w.alloc (.cells (((l.map (Value.int .i64)).take i).toArray ++ Builtin.zeroCells (Value.int .i64 0).cells (l.length + 1 - i) ++ Builtin.zeroCells (Value.int .i64 0).cells (grownCap w (l.length + 1) cap 3 - (l.length + 1))) 3)) (W2 := ((w.alloc (.cells (((l.map (Value.int .i64)).take i).toArray ++ Builtin.zeroCells (Value.int .i64 0).cells (l.length + 1 - i) ++ Builtin.zeroCells (Value.int .i64 0).cells (grownCap w (l.length + 1) cap 3 - (l.length + 1))) 3)).drew.setCells w.heap.size i [.int .i64 n]).drew) hi
            (fun j p hj hp => cell_of (block_new w _) (by
              have hjl := (List.getElem?_eq_some_iff.1 hp).1
              rw [Array.append_assoc, Array.getElem?_append_left (by simp; omega)]
              simp only [List.getElem?_toArray]
              rw [List.getElem?_take, if_pos hj, List.getElem?_map, hp]; rfl))
            (fun j hj => some_of_size (block_new w _) (by simp only [Array.size_append, hz, List.size_toArray, List.length_take, List.length_map]; omega)) (fun _ => rfl)) hbase (by rw [hlen]; exact h1) h2
          rw [hlen] at this
          exact this
        · exact fr_setCells (y := w) (.inl hbase) _ _ (fr_setCells (y := w) (.inl hbase) _ _ ((Fr.refl _ _).alloc _).drew).drew
      · obtain rfl : i = l.length := by omega
        exact insert_end_grow (some ⟨g, 0, none⟩) cap (fun h => by cases h) (fun a ha j p hp => by obtain rfl := Option.some.inj ha; rw [Addr.add_lit, Nat.zero_add]; exact hc j p hp) hl hnc (by omega) hbase hv
end
end Go.Proofs.Ytnplikpjogoghaa
