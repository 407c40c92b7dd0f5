/- A slice of acts that came in; an act that came in. -/
import Derived.Test.YtfcnjbkoneinpaaDoorKD
import Derived.ProofKit
import Derived.OpenShut
import Derived.ShutString
import Derived.Deep.Slices
import Derived.Deep.Fields
namespace Go.Proofs.YtfcnjbkoneinpaaDoor
open Go.ChangeShapes Go.WideShapes Go.ChangeAt Go.RowKit
open Go.Deep

section
variable {H : Type} {enc : TypeId × Value → H} {P : Program} {w : World} {base : Nat} {spare : Nat → Bool} {held : Bool}
theorem open_slice_fields {t e : TypeId} {fs : Array Field} {fuel : Nat} {cs : List Value} {x : DataW H × List MemPlace} (ht : P.underlying t = some (.slice e)) (he : P.underlying e = some (.struct fs))
    (hone : oneCellFields P fs = true) (hC : P.cellsOf e = fs.size) (h : DataW.trod enc P w base spare held fuel t cs = some x) :
    (cs = [.slice none 0 0] ∧ x = (.nil, [])) ∨
    ∃ (a : Addr) (len cap m : Nat) (D : Nat → DataW H) (Pl : Nat → List MemPlace), cs = [.slice (some a) len cap] ∧ base ≤ a.block ∧ len ≤ cap ∧ cap ≤ maxLen ∧ m = (if spare a.block then cap else len) ∧
      x = (.slice ((List.range len).map D) ((List.range (m - len)).map fun j => D (len + j)), MemPlace.row a (m * fs.size) ++ (List.range m).flatMap Pl) ∧
      ∀ i, i < m → ∃ (ys : List (DataW H × List MemPlace)) (n : Nat), D i = .agg (ys.map (·.1)) ∧ Pl i = ys.flatMap (·.2) ∧ ys.length = fs.size ∧
        ∀ (j : Nat) (f : Field), fs[j]? = some f → ∃ (v : Value) (y : DataW H × List MemPlace), w.cell? (a.add (i * fs.size + j)) = some v ∧ ys[j]? = some y ∧ DataW.trod enc P w base spare held n f.type [v] = some y := by
  rcases open_slice ht h with h0 | ⟨a, len, cap, m, n, D, Pl, hcs, hb, hl, hm, hmm, hx, hi⟩
  · exact .inl h0
  · refine .inr ⟨a, len, cap, m, D, Pl, hcs, hb, hl, hm, hmm, by rw [hC] at hx; exact hx, fun i him => ?_⟩
    obtain ⟨cs', hc, ht'⟩ := hi i him
    rw [hC] at hc
    obtain ⟨ys, n', hn', hy, hlen, hyl, hf⟩ := DataW.trod_struct he ht'
    obtain ⟨_, hcl, hat⟩ := World.cells?_some hc
    simp only [Prod.mk.injEq] at hy
    refine ⟨ys, n', hy.1, hy.2, hyl, fun j f hj => ?_⟩
    obtain ⟨ho, hk⟩ := hone_of hone j f hj
    have hjl : j < fs.size := (Array.getElem?_eq_some_iff.1 hj).1
    have hcell := hat j hjl
    have hv : cs'[j]? = some (cs'[j]'(by omega)) := List.getElem?_eq_getElem (by omega)
    have h1 := hf j f hj
    rw [ho, hk] at h1
    have hone' : (cs'.drop j).take 1 = [cs'[j]'(by omega)] := by
      rw [List.drop_eq_getElem_cons (by omega)]
      rfl
    rw [hone'] at h1
    have hys : ys[j]? = some (ys[j]'(by omega)) := List.getElem?_eq_getElem (by omega)
    refine ⟨_, _, ?_, hys, h1.trans hys⟩
    rw [← Go.Deep.add_add, hcell, hv]
theorem open_fields {t : TypeId} {fs : Array Field} {fuel : Nat} {cs : List Value} {x : DataW H × List MemPlace} (he : P.underlying t = some (.struct fs))
    (hone : oneCellFields P fs = true) (hC : P.cellsOf t = fs.size) (h : DataW.trod enc P w base spare held fuel t cs = some x) :
    ∃ n, cs.length = fs.size ∧ ∀ (j : Nat) (f : Field), fs[j]? = some f → ∃ (v : Value) (y : DataW H × List MemPlace), cs[j]? = some v ∧ DataW.trod enc P w base spare held n f.type [v] = some y := by
  obtain ⟨ys, n', hn', hy, hlen, hyl, hf⟩ := DataW.trod_struct he h
  rw [hC] at hlen
  refine ⟨n', hlen, fun j f hj => ?_⟩
  obtain ⟨ho, hk⟩ := hone_of hone j f hj
  have hjl : j < fs.size := (Array.getElem?_eq_some_iff.1 hj).1
  have hv : cs[j]? = some (cs[j]'(by omega)) := List.getElem?_eq_getElem (by omega)
  have h1 := hf j f hj
  rw [ho, hk] at h1
  have hone' : (cs.drop j).take 1 = [cs[j]'(by omega)] := by
    rw [List.drop_eq_getElem_cons (by omega)]
    rfl
  rw [hone'] at h1
  have hys : ys[j]? = some (ys[j]'(by omega)) := List.getElem?_eq_getElem (by omega)
  exact ⟨_, _, hv, h1.trans hys⟩
end

theorem list_of {α : Type} {P : Nat → α → Prop} : ∀ n : Nat, (∀ i, i < n → ∃ x, P i x) → ∃ l : List α, l.length = n ∧ ∀ i x, l[i]? = some x → P i x
  | 0, _ => ⟨[], rfl, fun i x h => by simp at h⟩
  | n + 1, h => by
    obtain ⟨l, hl, hp⟩ := list_of n fun i hi => h i (by omega)
    obtain ⟨x, hx⟩ := h n (by omega)
    refine ⟨l ++ [x], by simp [hl], fun i y hy => ?_⟩
    rw [List.getElem?_append] at hy
    split at hy
    · exact hp i y hy
    · rw [List.getElem?_singleton] at hy
      split at hy
      · obtain rfl := Option.some.inj hy
        obtain rfl : i = n := by omega
        exact hx
      · cases hy

section
variable {H : Type} {enc : TypeId × Value → H} {W : World}
theorem ints_of {n : Nat} {cs : List Value} {x : DataW H × List MemPlace} (h : DataW.trod enc Tryd.prog W 0 (fun _ => true) true n 36 cs = some x) : ∃ v l, cs = [v] ∧ IR W (fun k => k < W.heap.size) v l := by
  rcases open_ints Tryd.underlying36 Tryd.underlying3 (by kernel_rfl) h with ⟨hcs, _⟩ | ⟨x, l, c, zs, hcs, _, hl, hm, hz, _, hcell, hwz⟩
  · exact ⟨_, [], hcs, IR.nil _ _⟩
  · obtain ⟨L, h1, h2, _⟩ := IR.of_arg (w := W) (a := some x) (len := l) (cap := c) (zs := zs) (.inr ⟨x, rfl, hl, hm, by simpa using hz, hcell, hwz⟩)
    subst h1
    exact ⟨_, L, hcs, h2⟩
theorem str_of {n : Nat} {cs : List Value} {x : DataW H × List MemPlace} (h : DataW.trod enc Tryd.prog W 0 (fun _ => true) true n 9 cs = some x) : ∃ l, cs = [.string (bs l)] := by
  obtain ⟨s, h1, _, _⟩ := DataW.trod_string Tryd.underlying9 h
  obtain ⟨l, rfl⟩ := bs_of s
  exact ⟨l, h1⟩
theorem int_of {n : Nat} {cs : List Value} {x : DataW H × List MemPlace} (h : DataW.trod enc Tryd.prog W 0 (fun _ => true) true n 3 cs = some x) : ∃ z : Int, cs = [.int .i64 z] ∧ -9223372036854775808 ≤ z ∧ z ≤ 9223372036854775807 := by
  obtain ⟨z, h1, _, h3⟩ := DataW.trod_int Tryd.underlying3 h
  exact ⟨z, h1, bounds_i64 h3⟩

noncomputable def Fs38 : Array Field := match Tryd.prog.underlying 38 with | some (.struct fs) => fs | _ => #[]
theorem u38 : Tryd.prog.underlying 38 = some (.struct Fs38) := by kernel_rfl
theorem fs38 : Fs38.toList.map (·.type) = [3, 3, 9, 9, 9, 36, 36] := by kernel_rfl
theorem fs38_at (j : Nat) (t : TypeId) (h : [3, 3, 9, 9, 9, 36, 36][j]? = some t) : ∃ f, Fs38[j]? = some f ∧ f.type = t := by
  rw [← fs38, List.getElem?_map] at h
  obtain ⟨f, h1, h2⟩ := Option.map_eq_some_iff.1 h
  exact ⟨f, by simpa using h1, h2⟩

theorem act_of {n : Nat} {c : Nat → Option Value} (hf : ∀ (j : Nat) (f : Field), Fs38[j]? = some f → ∃ (v : Value) (y : DataW H × List MemPlace), c j = some v ∧ DataW.trod enc Tryd.prog W 0 (fun _ => true) true n f.type [v] = some y) :
    ∃ m : ActM, (∀ j u, (cellsM m)[j]? = some u → c j = some u) ∧ ActIn W (fun k => k < W.heap.size) m := by
  have at' : ∀ (j : Nat) (t : TypeId), [3, 3, 9, 9, 9, 36, 36][j]? = some t → ∃ (v : Value) (y : DataW H × List MemPlace), c j = some v ∧ DataW.trod enc Tryd.prog W 0 (fun _ => true) true n t [v] = some y := by
    intro j t h
    obtain ⟨f, h1, rfl⟩ := fs38_at j t h
    exact hf j f h1
  obtain ⟨v0, y0, c0, t0⟩ := at' 0 3 rfl
  obtain ⟨v1, y1, c1, t1⟩ := at' 1 3 rfl
  obtain ⟨v2, y2, c2, t2⟩ := at' 2 9 rfl
  obtain ⟨v3, y3, c3, t3⟩ := at' 3 9 rfl
  obtain ⟨v4, y4, c4, t4⟩ := at' 4 9 rfl
  obtain ⟨v5, y5, c5, t5⟩ := at' 5 36 rfl
  obtain ⟨v6, y6, c6, t6⟩ := at' 6 36 rfl
  obtain ⟨x0, e0, b0⟩ := int_of t0
  obtain ⟨x1, e1, b1⟩ := int_of t1
  obtain ⟨l2, e2⟩ := str_of t2
  obtain ⟨l3, e3⟩ := str_of t3
  obtain ⟨l4, e4⟩ := str_of t4
  obtain ⟨w5, l5, e5, i5⟩ := ints_of t5
  obtain ⟨w6, l6, e6, i6⟩ := ints_of t6
  simp only [List.cons.injEq, and_true] at e0 e1 e2 e3 e4 e5 e6
  subst e0 e1 e2 e3 e4 e5 e6
  refine ⟨⟨⟨x0, x1, l2, l3, l4, l5, l6⟩, _, _⟩, fun j u hu => ?_, i5, i6, b0, b1.2⟩
  match j, hu with
  | 0, hu => rw [c0]; exact hu
  | 1, hu => rw [c1]; exact hu
  | 2, hu => rw [c2]; exact hu
  | 3, hu => rw [c3]; exact hu
  | 4, hu => rw [c4]; exact hu
  | 5, hu => rw [c5]; exact hu
  | 6, hu => rw [c6]; exact hu
  | _ + 7, hu => simp [cellsM] at hu

/-- the acts that came in -/
theorem acts_of {fuel : Nat} {cs : List Value} {x : DataW H × List MemPlace} (h : DataW.trod enc Tryd.prog W 0 (fun _ => true) true fuel 22 cs = some x) :
    ∃ (v : Value) (l : List ActM), cs = [v] ∧ ActsAt W (fun k => k < W.heap.size) v l := by
  rcases open_slice_fields (by kernel_rfl) u38 (by kernel_rfl) (by kernel_rfl) h with ⟨rfl, _⟩ | ⟨a, len, cap, m, D, Pl, rfl, _, hl, hm, hmm, _, hi⟩
  · exact ⟨_, [], rfl, ⟨none, 0, rfl, Nat.le_refl _, by decide, fun h => absurd h (by decide)⟩, by simp⟩
  · have hlm : len ≤ m := by rw [hmm]; simp; exact hl
    have s38 : Fs38.size = 7 := by kernel_rfl
    obtain ⟨l, hln, hp⟩ := list_of (P := fun i (q : ActM) => (∀ j u, (cellsM q)[j]? = some u → W.cell? (a.add (i * 7 + j)) = some u) ∧ ActIn W (fun k => k < W.heap.size) q) len fun i hil => by
      obtain ⟨ys, n, _, _, _, hf⟩ := hi i (by omega)
      rw [s38] at hf
      exact act_of (c := fun j => W.cell? (a.add (i * 7 + j))) fun j f hj => by
        obtain ⟨v, y, h1, _, h3⟩ := hf j f hj
        exact ⟨v, y, h1, h3⟩
    subst hln
    refine ⟨_, l, rfl, ⟨some a, cap, rfl, hl, by unfold maxLen at hm; exact hm, fun h0 => ?_⟩, fun q hq => ?_⟩
    · obtain ⟨q, hq⟩ : ∃ q, l[0]? = some q := ⟨_, List.getElem?_eq_getElem h0⟩
      have c0 := (hp 0 q hq).1 0 _ rfl
      have hx0 : a.add (0 * 7 + 0) = a := by simp [Addr.add]
      rw [hx0] at c0
      have hs : a.spot = none := by
        unfold World.cell? at c0
        split at c0
        · cases hsp : a.spot with
          | none => rfl
          | some _ => simp [hsp] at c0
        · cases c0
      obtain ⟨b, off, sp⟩ := a
      simp only at hs
      subst hs
      refine ⟨b, off, rfl, World.block_lt_of_cell? W _ c0, fun i q j u hq hu => ?_⟩
      have := (hp i q hq).1 j u hu
      rw [Addr.add_lit] at this
      rw [Nat.add_assoc]
      exact this
    · obtain ⟨i, hi'⟩ := List.getElem?_of_mem hq
      exact (hp i q hi').2

/-- an act that came in by itself -/
theorem act_in {fuel : Nat} {cs : List Value} {x : DataW H × List MemPlace} (h : DataW.trod enc Tryd.prog W 0 (fun _ => true) true fuel 38 cs = some x) :
    ∃ m : ActM, cs = cellsM m ∧ ActIn W (fun k => k < W.heap.size) m := by
  obtain ⟨n, hl, hf⟩ := open_fields u38 (by kernel_rfl) (by kernel_rfl) h
  have s38 : Fs38.size = 7 := by kernel_rfl
  obtain ⟨m, hm, hin⟩ := act_of (c := fun j => cs[j]?) hf
  refine ⟨m, ?_, hin⟩
  apply List.ext_getElem?
  intro j
  by_cases hj : j < 7
  · have hu : (cellsM m)[j]? = some ((cellsM m)[j]'(by simpa [cellsM] using hj)) := List.getElem?_eq_getElem _
    rw [hm j _ hu, hu]
  · rw [List.getElem?_eq_none (by omega), List.getElem?_eq_none (by simp [cellsM]; omega)]
end
end Go.Proofs.YtfcnjbkoneinpaaDoor
