/- Slices of structs that came in: attributes, tokens. -/
import Derived.Test.YtpinjgdnhbogoaaGreatDoorM2
import Derived.ProofKit
import Derived.OpenShut
import Derived.ShutString
import Derived.Deep.Slices
import Derived.Deep.Fields
namespace Go.Proofs.YtpinjgdnhbogoaaGreatDoor
open Go.ChangeShapes Go.WideShapes Go.ChangeAt Go.RowKit
open Go.Deep

section
variable {H : Type} {enc : TypeId × Value → H} {P : Program} {w : World} {base : Nat} {spare : Nat → Bool} {held : Bool}
theorem open_elems {t e : TypeId} {fs : Array Field} {fuel : Nat} {cs : List Value} {x : DataW H × List MemPlace} (ht : P.underlying t = some (.slice e)) (he : P.underlying e = some (.struct fs))
    (hone : oneCellFields P fs = true) (hC : P.cellsOf e = fs.size) (h : DataW.trod enc P w base spare held fuel t cs = some x) :
    (cs = [.slice none 0 0]) ∨
    ∃ (a : Addr) (len cap : Nat), cs = [.slice (some a) len cap] ∧ len ≤ cap ∧ cap ≤ maxLen ∧
      ∀ i, i < len → ∃ n, n < fuel ∧ ∀ (j : Nat) (f : Field), fs[j]? = some f → ∃ (v : Value) (y : DataW H × List MemPlace), w.cell? (a.add (i * fs.size + j)) = some v ∧ DataW.trod enc P w base spare held n f.type [v] = some y := by
  rcases DataW.trod_slice ht h with h0 | ⟨a, len, cap, elems, rest, n, hfu, hcs, _, _, hl, hm, hlen, hel, _, _⟩
  · exact .inl h0.1
  · refine .inr ⟨a, len, cap, hcs, hl, hm, fun i him => ?_⟩
    have key := hel i him
    rw [List.getElem?_eq_getElem (by omega)] at key
    obtain ⟨cs', hc, ht'⟩ := Option.bind_eq_some_iff.1 key
    rw [hC] at hc
    obtain ⟨ys, n', hn', hy, hlen', hyl, hf⟩ := DataW.trod_struct he ht'
    obtain ⟨_, hcl, hat⟩ := World.cells?_some hc
    refine ⟨n', by omega, fun j f hj => ?_⟩
    obtain ⟨ho, hk⟩ := hone_of hone j f hj
    have hjl : j < fs.size := (Array.getElem?_eq_some_iff.1 hj).1
    have hcell := hat j hjl
    have hv : cs'[j]? = some (cs'[j]'(by omega)) := List.getElem?_eq_getElem (by omega)
    have h1 := hf j f hj
    rw [ho, hk] at h1
    have hone' : (cs'.drop j).take 1 = [cs'[j]'(by omega)] := by
      rw [List.drop_eq_getElem_cons (by omega)]
      rfl
    rw [hone'] at h1
    have hys : ys[j]? = some (ys[j]'(by omega)) := List.getElem?_eq_getElem (by omega)
    refine ⟨_, _, ?_, h1.trans hys⟩
    rw [← Go.Deep.add_add, hcell, hv]
theorem open_fields {t : TypeId} {fs : Array Field} {fuel : Nat} {cs : List Value} {x : DataW H × List MemPlace} (he : P.underlying t = some (.struct fs))
    (hone : oneCellFields P fs = true) (hC : P.cellsOf t = fs.size) (h : DataW.trod enc P w base spare held fuel t cs = some x) :
    ∃ n, n < fuel ∧ cs.length = fs.size ∧ ∀ (j : Nat) (f : Field), fs[j]? = some f → ∃ (v : Value) (y : DataW H × List MemPlace), cs[j]? = some v ∧ DataW.trod enc P w base spare held n f.type [v] = some y := by
  obtain ⟨ys, n', hn', hy, hlen, hyl, hf⟩ := DataW.trod_struct he h
  rw [hC] at hlen
  refine ⟨n', by omega, hlen, fun j f hj => ?_⟩
  obtain ⟨ho, hk⟩ := hone_of hone j f hj
  have hjl : j < fs.size := (Array.getElem?_eq_some_iff.1 hj).1
  have hv : cs[j]? = some (cs[j]'(by omega)) := List.getElem?_eq_getElem (by omega)
  have h1 := hf j f hj
  rw [ho, hk] at h1
  have hone' : (cs.drop j).take 1 = [cs[j]'(by omega)] := by
    rw [List.drop_eq_getElem_cons (by omega)]
    rfl
  rw [hone'] at h1
  have hys : ys[j]? = some (ys[j]'(by omega)) := List.getElem?_eq_getElem (by omega)
  exact ⟨_, _, hv, h1.trans hys⟩
end

theorem list_of {α : Type} {P : Nat → α → Prop} : ∀ n : Nat, (∀ i, i < n → ∃ x, P i x) → ∃ l : List α, l.length = n ∧ ∀ i x, l[i]? = some x → P i x
  | 0, _ => ⟨[], rfl, fun i x h => by simp at h⟩
  | n + 1, h => by
    obtain ⟨l, hl, hp⟩ := list_of n fun i hi => h i (by omega)
    obtain ⟨x, hx⟩ := h n (by omega)
    refine ⟨l ++ [x], by simp [hl], fun i y hy => ?_⟩
    rw [List.getElem?_append] at hy
    split at hy
    · exact hp i y hy
    · rw [List.getElem?_singleton] at hy
      split at hy
      · obtain rfl := Option.some.inj hy
        obtain rfl : i = n := by omega
        exact hx
      · cases hy
theorem flat_len {α : Type} {f : α → List Value} {k : Nat} (hk : ∀ x, (f x).length = k) : ∀ l : List α, (l.flatMap f).length = l.length * k
  | [] => by simp
  | x :: l => by rw [List.flatMap_cons, List.length_append, hk, flat_len hk l, List.length_cons, Nat.succ_mul]; omega
theorem flat_at {α : Type} {f : α → List Value} {k : Nat} (hk : ∀ x, (f x).length = k) : ∀ (l : List α) (i : Nat) (u : Value), (l.flatMap f)[i]? = some u → ∃ q j x, i = q * k + j ∧ l[q]? = some x ∧ (f x)[j]? = some u
  | [], i, u, h => by simp at h
  | x :: l, i, u, h => by
    rw [List.flatMap_cons, List.getElem?_append] at h
    split at h
    · exact ⟨0, i, x, by omega, rfl, h⟩
    · rename_i hi
      obtain ⟨q, j, y, h1, h2, h3⟩ := flat_at hk l _ _ h
      rw [hk] at hi h1
      exact ⟨q + 1, j, y, by rw [Nat.succ_mul]; omega, by simpa using h2, h3⟩

section
variable {H : Type} {enc : TypeId × Value → H} {W : World}
/-- a slice of structs that came in, element by element -/
theorem row_of {α : Type} {f : α → List Value} {k : Nat} (hk : ∀ x, (f x).length = k) (hk0 : 0 < k) (Q : α → Prop) {t e : TypeId} {fs : Array Field} {fuel : Nat} {cs : List Value} {x : DataW H × List MemPlace}
    (ht : Tryz.prog.underlying t = some (.slice e)) (he : Tryz.prog.underlying e = some (.struct fs)) (hone : oneCellFields Tryz.prog fs = true) (hC : Tryz.prog.cellsOf e = fs.size) (hsz : fs.size = k)
    (of : ∀ {n : Nat} {c : Nat → Option Value}, n < fuel → (∀ (j : Nat) (g : Field), fs[j]? = some g → ∃ (v : Value) (y : DataW H × List MemPlace), c j = some v ∧ DataW.trod enc Tryz.prog W 0 (fun _ => true) true n g.type [v] = some y) → ∃ m : α, (∀ j u, (f m)[j]? = some u → c j = some u) ∧ Q m)
    (h : DataW.trod enc Tryz.prog W 0 (fun _ => true) true fuel t cs = some x) :
    ∃ (v : Value) (l : List α), cs = [v] ∧ SRow W (fun k => k < W.heap.size) k v l.length (l.flatMap f) ∧ ∀ m ∈ l, Q m := by
  rcases open_elems ht he hone hC h with rfl | ⟨a, len, cap, rfl, hl, hm, hi⟩
  · exact ⟨_, [], rfl, SRow.nil _ _ _, (fun _ h => by cases h)⟩
  · obtain ⟨l, hln, hp⟩ := list_of (P := fun i (m : α) => (∀ j u, (f m)[j]? = some u → W.cell? (a.add (i * k + j)) = some u) ∧ Q m) len fun i hil => by
      obtain ⟨n, hn, hf⟩ := hi i hil
      rw [hsz] at hf
      exact of (c := fun j => W.cell? (a.add (i * k + j))) hn hf
    subst hln
    refine ⟨_, l, rfl, ⟨flat_len hk l, some a, cap, rfl, hl, hm, (fun h => by cases h), fun h0 => ?_⟩, fun m hmm => ?_⟩
    · obtain ⟨q, hq⟩ : ∃ q, l[0]? = some q := ⟨_, List.getElem?_eq_getElem h0⟩
      have hpos : 0 < (f q).length := by rw [hk]; exact hk0
      have c0 := (hp 0 q hq).1 0 _ (List.getElem?_eq_getElem hpos)
      have hx0 : a.add (0 * k + 0) = a := by simp [Addr.add]
      rw [hx0] at c0
      have hs : a.spot = none := by
        unfold World.cell? at c0
        split at c0
        · cases hsp : a.spot with
          | none => rfl
          | some _ => simp [hsp] at c0
        · cases c0
      obtain ⟨b, off, sp⟩ := a
      simp only at hs
      subst hs
      refine ⟨b, off, rfl, World.block_lt_of_cell? W _ c0, fun i u hu => ?_⟩
      obtain ⟨q, j, y, rfl, h2, h3⟩ := flat_at hk l i u hu
      have := (hp q y h2).1 j u h3
      rwa [Addr.add_lit] at this
    · obtain ⟨i, hi'⟩ := List.getElem?_of_mem hmm
      exact (hp i m hi').2
theorem str_of {n : Nat} {cs : List Value} {x : DataW H × List MemPlace} (h : DataW.trod enc Tryz.prog W 0 (fun _ => true) true n 9 cs = some x) : ∃ l, cs = [.string (bs l)] := by
  obtain ⟨s, h1, _, _⟩ := DataW.trod_string Tryz.underlying9 h
  obtain ⟨l, rfl⟩ := bs_of s
  exact ⟨l, h1⟩
theorem int_of {n : Nat} {cs : List Value} {x : DataW H × List MemPlace} (h : DataW.trod enc Tryz.prog W 0 (fun _ => true) true n 3 cs = some x) : ∃ z : Int, cs = [.int .i64 z] ∧ -9223372036854775808 ≤ z ∧ z ≤ 9223372036854775807 := by
  obtain ⟨z, h1, _, h3⟩ := DataW.trod_int Tryz.underlying3 h
  exact ⟨z, h1, bounds_i64 h3⟩

noncomputable def fsOf (t : TypeId) : Array Field := match Tryz.prog.underlying t with | some (.struct fs) => fs | _ => #[]
theorem fs_at {fs : Array Field} {l : List TypeId} (h : fs.toList.map (·.type) = l) (j : Nat) (t : TypeId) (hj : l[j]? = some t) : ∃ f, fs[j]? = some f ∧ f.type = t := by
  rw [← h, List.getElem?_map] at hj
  obtain ⟨f, h1, h2⟩ := Option.map_eq_some_iff.1 hj
  exact ⟨f, by simpa using h1, h2⟩
theorem u64 : Tryz.prog.underlying 64 = some (.struct (fsOf 64)) := by kernel_rfl
theorem fs64 : (fsOf 64).toList.map (·.type) = [9, 9] := by kernel_rfl
theorem u54 : Tryz.prog.underlying 54 = some (.struct (fsOf 54)) := by kernel_rfl
theorem fs54 : (fsOf 54).toList.map (·.type) = [3, 9, 27, 9] := by kernel_rfl
def acell (p : Str × Str) : List Value := [.string (bs p.1), .string (bs p.2)]
/-- attributes that came in -/
theorem attrs_of {fuel : Nat} {cs : List Value} {x : DataW H × List MemPlace} (h : DataW.trod enc Tryz.prog W 0 (fun _ => true) true fuel 27 cs = some x) :
    ∃ (v : Value) (l : List (Str × Str)), cs = [v] ∧ SRow W (fun k => k < W.heap.size) 2 v l.length (acells l) := by
  obtain ⟨v, l, h1, h2, _⟩ := row_of (α := Str × Str) (f := acell) (k := 2) (fun _ => rfl) (by decide) (fun _ => True) (by kernel_rfl) u64 (by kernel_rfl) (by kernel_rfl) (by kernel_rfl) (fun {n} {c} _ hf => by
    obtain ⟨f0, g0, k0⟩ := fs_at fs64 0 9 rfl
    obtain ⟨f1, g1, k1⟩ := fs_at fs64 1 9 rfl
    obtain ⟨v0, y0, c0, t0⟩ := hf 0 f0 g0
    obtain ⟨v1, y1, c1, t1⟩ := hf 1 f1 g1
    rw [k0] at t0
    rw [k1] at t1
    obtain ⟨l0, e0⟩ := str_of t0
    obtain ⟨l1, e1⟩ := str_of t1
    simp only [List.cons.injEq, and_true] at e0 e1
    subst e0 e1
    refine ⟨(l0, l1), fun j u hu => ?_, trivial⟩
    match j, hu with
    | 0, hu => rw [c0]; exact hu
    | 1, hu => rw [c1]; exact hu
    | _ + 2, hu => simp [acell] at hu) h
  exact ⟨v, l, h1, h2⟩
/-- tokens that came in -/
theorem toks_of {fuel : Nat} {cs : List Value} {x : DataW H × List MemPlace} (h : DataW.trod enc Tryz.prog W 0 (fun _ => true) true fuel 22 cs = some x) :
    ∃ (v : Value) (l : List TokD), cs = [v] ∧ TokV W (fun k => k < W.heap.size) v l := by
  obtain ⟨v, ps, h1, h2, h3⟩ := row_of (α := TokD × Value) (f := tc) (k := 4) (fun _ => rfl) (by decide) (fun p => SRow W (fun k => k < W.heap.size) 2 p.2 p.1.attrs.length (acells p.1.attrs)) (by kernel_rfl) u54 (by kernel_rfl) (by kernel_rfl) (by kernel_rfl) (fun {n} {c} _ hf => by
    obtain ⟨f0, g0, k0⟩ := fs_at fs54 0 3 rfl
    obtain ⟨f1, g1, k1⟩ := fs_at fs54 1 9 rfl
    obtain ⟨f2, g2, k2⟩ := fs_at fs54 2 27 rfl
    obtain ⟨f3, g3, k3⟩ := fs_at fs54 3 9 rfl
    obtain ⟨v0, y0, c0, t0⟩ := hf 0 f0 g0
    obtain ⟨v1, y1, c1, t1⟩ := hf 1 f1 g1
    obtain ⟨v2, y2, c2, t2⟩ := hf 2 f2 g2
    obtain ⟨v3, y3, c3, t3⟩ := hf 3 f3 g3
    rw [k0] at t0
    rw [k1] at t1
    rw [k2] at t2
    rw [k3] at t3
    obtain ⟨z0, e0, _⟩ := int_of t0
    obtain ⟨l1, e1⟩ := str_of t1
    obtain ⟨v', l2, e2, i2⟩ := attrs_of t2
    obtain ⟨l3, e3⟩ := str_of t3
    simp only [List.cons.injEq, and_true] at e0 e1 e2 e3
    subst e0 e1 e2 e3
    refine ⟨(⟨z0, l1, l2, l3⟩, v2), fun j u hu => ?_, i2⟩
    match j, hu with
    | 0, hu => rw [c0]; exact hu
    | 1, hu => rw [c1]; exact hu
    | 2, hu => rw [c2]; exact hu
    | 3, hu => rw [c3]; exact hu
    | _ + 4, hu => simp [tc] at hu) h
  exact ⟨v, ps.map Prod.fst, h1, ps, rfl, h2, h3⟩
end
end Go.Proofs.YtpinjgdnhbogoaaGreatDoor
