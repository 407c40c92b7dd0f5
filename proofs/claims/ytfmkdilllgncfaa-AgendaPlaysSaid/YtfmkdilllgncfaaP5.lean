/-
  The law AgendaPlays returns true for every slice of acts and every int, and leaves its arguments as they were. No condition.
-/
import Derived.Test.YtfmkdilllgncfaaRows
import Derived.WalkKit
import Derived.ProofKit
import Derived.OpenShut
import Derived.ShutString
import Derived.ChangeOld
import Derived.Below
import Derived.Deep.Slices
import Derived.Deep.Fields
import Derived.ChangeSame
import Derived.Test.YtfmkdilllgncfaaL5
namespace Go.Proofs.Ytfmkdilllgncfaa.agendaPlays
open Go.ChangeShapes Go.WideShapes Go.ChangeAt Go.RowKit
open Go.ChangeMaps (open_string shut_string)
open Go.Deep

theorem own : ownKnob Try.prog.godebug = none := by kernel_rfl
theorem laidOut : laidOutB Try.prog = true := by kernel_rfl

/-! ### an argument that is a slice of structs, each field of one cell -/
section
variable {H : Type} {enc : TypeId × Value → H} {P : Program} {w : World} {base : Nat} {spare : Nat → Bool} {held : Bool}
theorem open_slice_fields {t e : TypeId} {fs : Array Field} {fuel : Nat} {cs : List Value} {x : DataW H × List MemPlace} (ht : P.underlying t = some (.slice e)) (he : P.underlying e = some (.struct fs))
    (hone : oneCellFields P fs = true) (hC : P.cellsOf e = fs.size) (h : DataW.trod enc P w base spare held fuel t cs = some x) :
    (cs = [.slice none 0 0] ∧ x = (.nil, [])) ∨
    ∃ (a : Addr) (len cap m : Nat) (D : Nat → DataW H) (Pl : Nat → List MemPlace), cs = [.slice (some a) len cap] ∧ base ≤ a.block ∧ len ≤ cap ∧ cap ≤ maxLen ∧ m = (if spare a.block then cap else len) ∧
      x = (.slice ((List.range len).map D) ((List.range (m - len)).map fun j => D (len + j)), MemPlace.row a (m * fs.size) ++ (List.range m).flatMap Pl) ∧
      ∀ i, i < m → ∃ (ys : List (DataW H × List MemPlace)) (n : Nat), D i = .agg (ys.map (·.1)) ∧ Pl i = ys.flatMap (·.2) ∧ ys.length = fs.size ∧
        ∀ (j : Nat) (f : Field), fs[j]? = some f → ∃ (v : Value) (y : DataW H × List MemPlace), w.cell? (a.add (i * fs.size + j)) = some v ∧ ys[j]? = some y ∧ DataW.trod enc P w base spare held n f.type [v] = some y := by
  rcases open_slice ht h with h0 | ⟨a, len, cap, m, n, D, Pl, hcs, hb, hl, hm, hmm, hx, hi⟩
  · exact .inl h0
  · refine .inr ⟨a, len, cap, m, D, Pl, hcs, hb, hl, hm, hmm, by rw [hC] at hx; exact hx, fun i him => ?_⟩
    obtain ⟨cs', hc, ht'⟩ := hi i him
    rw [hC] at hc
    obtain ⟨ys, n', hn', hy, hlen, hyl, hf⟩ := DataW.trod_struct he ht'
    obtain ⟨_, hcl, hat⟩ := World.cells?_some hc
    simp only [Prod.mk.injEq] at hy
    refine ⟨ys, n', hy.1, hy.2, hyl, fun j f hj => ?_⟩
    obtain ⟨ho, hk⟩ := hone_of hone j f hj
    have hjl : j < fs.size := (Array.getElem?_eq_some_iff.1 hj).1
    have hcell := hat j hjl
    have hv : cs'[j]? = some (cs'[j]'(by omega)) := List.getElem?_eq_getElem (by omega)
    have h1 := hf j f hj
    rw [ho, hk] at h1
    have hone' : (cs'.drop j).take 1 = [cs'[j]'(by omega)] := by
      rw [List.drop_eq_getElem_cons (by omega)]
      rfl
    rw [hone'] at h1
    have hys : ys[j]? = some (ys[j]'(by omega)) := List.getElem?_eq_getElem (by omega)
    refine ⟨_, _, ?_, hys, h1.trans hys⟩
    rw [← Go.Deep.add_add, hcell, hv]
end

theorem list_of {α : Type} {P : Nat → α → Prop} : ∀ n : Nat, (∀ i, i < n → ∃ x, P i x) → ∃ l : List α, l.length = n ∧ ∀ i x, l[i]? = some x → P i x
  | 0, _ => ⟨[], rfl, fun i x h => by simp at h⟩
  | n + 1, h => by
    obtain ⟨l, hl, hp⟩ := list_of n fun i hi => h i (by omega)
    obtain ⟨x, hx⟩ := h n (by omega)
    refine ⟨l ++ [x], by simp [hl], fun i y hy => ?_⟩
    rw [List.getElem?_append] at hy
    split at hy
    · exact hp i y hy
    · rw [List.getElem?_singleton] at hy
      split at hy
      · obtain rfl := Option.some.inj hy
        obtain rfl : i = n := by omega
        exact hx
      · cases hy

theorem acells_length (l : List (Int × Int × Int)) : (acells l).length = l.length * 3 := by
  induction l with
  | nil => rfl
  | cons q l ih =>
    have e : acells (q :: l) = .int .i64 q.1 :: .int .i64 q.2.1 :: .int .i64 q.2.2 :: acells l := by simp [acells]
    rw [e]
    simp only [List.length_cons, ih]
    omega

/-- the acts that came in -/
theorem acts_of {H : Type} {enc : TypeId × Value → H} {W : World} {fuel : Nat} {cs : List Value} {x : DataW H × List MemPlace} (h : DataW.trod enc Try.prog W 0 (fun _ => true) true fuel 22 cs = some x) :
    ∃ (a : Option Addr) (l : List (Int × Int × Int)) (cap : Nat), cs = [.slice a l.length cap] ∧ AR W (fun k => k < W.heap.size) (.slice a l.length cap) l ∧ ∀ p ∈ l, -9223372036854775808 ≤ p.1 ∧ p.1 ≤ 9223372036854775807 := by
  rcases open_slice_fields Try.underlying22 Try.underlying29 (by kernel_rfl) (by kernel_rfl) h with ⟨rfl, _⟩ | ⟨a, len, cap, m, D, Pl, rfl, _, hl, hm, hmm, _, hi⟩
  · exact ⟨none, [], 0, rfl, SRow.nil _ _ _, by simp⟩
  · have hlm : len ≤ m := by rw [hmm]; simp; exact hl
    obtain ⟨l, hln, hp⟩ := list_of (P := fun i (p : Int × Int × Int) => (W.cell? (a.add (i * 3)) = some (.int .i64 p.1) ∧ W.cell? (a.add (i * 3 + 1)) = some (.int .i64 p.2.1) ∧ W.cell? (a.add (i * 3 + 2)) = some (.int .i64 p.2.2)) ∧ -9223372036854775808 ≤ p.1 ∧ p.1 ≤ 9223372036854775807) len fun i hil => by
      obtain ⟨ys, n, _, _, _, hf⟩ := hi i (by omega)
      obtain ⟨v0, y0, c0, _, t0⟩ := hf 0 _ rfl
      obtain ⟨v1, y1, c1, _, t1⟩ := hf 1 _ rfl
      obtain ⟨v2, y2, c2, _, t2⟩ := hf 2 _ rfl
      obtain ⟨x0, e0, _, w0⟩ := DataW.trod_int Try.underlying3 t0
      obtain ⟨x1, e1, _, w1⟩ := DataW.trod_int Try.underlying3 t1
      obtain ⟨x2, e2, _, w2⟩ := DataW.trod_int Try.underlying3 t2
      simp at e0 e1 e2
      subst e0; subst e1; subst e2
      exact ⟨(x0, x1, x2), ⟨by simpa using c0, by simpa using c1, by simpa using c2⟩, bounds_i64 w0⟩
    subst hln
    refine ⟨some a, l, cap, rfl, ⟨?_, some a, cap, rfl, hl, hm, fun h => (by cases h), fun h0 => ?_⟩, fun p hpl => ?_⟩
    · exact acells_length l
    · obtain ⟨q, hq⟩ : ∃ q, l[0]? = some q := ⟨_, List.getElem?_eq_getElem h0⟩
      have c0 := (hp 0 q hq).1.1
      have hx0 : a.add (0 * 3) = a := by simp [Addr.add]
      rw [hx0] at c0
      have hs : a.spot = none := by
        unfold World.cell? at c0
        split at c0
        · cases hsp : a.spot with
          | none => rfl
          | some _ => simp [hsp] at c0
        · cases c0
      obtain ⟨b, off, sp⟩ := a
      simp only at hs
      subst hs
      refine ⟨b, off, rfl, World.block_lt_of_cell? W _ c0, fun i u hu => ?_⟩
      have hlen := acells_length l
      have hil := (List.getElem?_eq_some_iff.1 hu).1
      obtain ⟨r, hr⟩ : ∃ r, l[i / 3]? = some r := ⟨_, List.getElem?_eq_getElem (by omega)⟩
      obtain ⟨⟨g0, g1, g2⟩, _⟩ := hp _ r hr
      obtain ⟨a0, a1, a2⟩ := acells_at hr
      rw [Addr.add_lit] at g0 g1 g2
      have hm3 : i = i / 3 * 3 ∨ i = i / 3 * 3 + 1 ∨ i = i / 3 * 3 + 2 := by omega
      rcases hm3 with h3 | h3 | h3
      · rw [← h3] at g0 a0; rw [g0, ← a0, hu]
      · rw [← h3] at g1 a1; rw [g1, ← a1, hu]
      · rw [← h3] at g2 a2; rw [g2, ← a2, hu]
    · obtain ⟨i, hi'⟩ := List.getElem?_of_mem hpl
      exact (hp i p hi').2

theorem walk (a0 : Option Addr) (l : List (Int × Int × Int)) (cap0 : Nat) (a1 : Int) (w : World) (w0 : AR w (fun k => k < w.heap.size) (.slice a0 l.length cap0) l) (hb : ∀ p ∈ l, -9223372036854775808 ≤ p.1 ∧ p.1 ≤ 9223372036854775807) :
    Calls Try.prog 3 #[.slice a0 l.length cap0, .int .i64 a1] w fun e w' => e = .returned (.bool true) ∧ Below w.heap.size w w' := by
  refine Calls.mono (plays_h w0 hb a1) ?_
  rintro e w' ⟨rfl, hf⟩
  exact ⟨rfl, hf.below (Nat.le_refl _) fun k h => h.elim⟩

set_option maxRecDepth 100000 in
theorem lifted (os : Os) (started : os.Started) (H : Type) (enc : TypeId × Value → H) :
    ReturnsInHanded {} Try.checked os 3 .any (Rows.agendaPlaysSpec.pre6 enc Try.prog Try.f3 Rows.agendaPlaysRow.domain false) (Rows.agendaPlaysSpec.post enc Try.prog Try.f3 false true false false) := by
  refine returnsInHanded_of_change (C := Try.checked) own started (by kernel_rfl) Try.func3
    (ChangeSpec.witness6 (enc := enc) (C := Try.checked) false ⟨#[], #[.slice none 0 0, .int .i64 0], []⟩ 8 (by kernel_rfl) (by kernel_rfl) (by kernel_rfl) (by kernel_rfl)) ?_
  intro W base args ds gs before hval0 hW hcnd _
  have hval : ∀ (j : Nat) t v, Try.f3.params[j]? = some t → args[j]? = some v → Value.okWide Try.prog W .any base t v := hval0
  have hW' := hW
  obtain ⟨p, q, hA0, hV, rfl, hfz, hnd⟩ := hW
  have hA : DataW.TrodAll enc Try.prog W 0 (fun _ => true) true Try.f3.params.toList args.toList ds p := hA0
  rw [Try.params3] at hA hval
  obtain ⟨v0, vs0, d0, ds0, p0, q0, hargs, rfl, rfl, h0, r0⟩ := trodAll_cons hA
  obtain ⟨v1, vs1, d1, ds1, p1, q1, rfl, rfl, rfl, h1, r1⟩ := trodAll_cons r0
  obtain ⟨rfl, rfl, rfl⟩ := trodAll_nil r1
  obtain rfl : args = #[v0, v1] := by cases args; simp_all
  obtain ⟨rfl, rfl⟩ := trodVars_none hV
  obtain ⟨a0, len0, cap0, rfl⟩ := okWide_slice Try.underlying22 (hval 0 22 v0 rfl rfl)
  have k0 := h0
  have lt0 : ∀ x ∈ p0, x.block < W.heap.size := by obtain ⟨m, hm⟩ := k0; exact DataW.trod_lt m _ _ _ hm
  obtain ⟨l, hll, w0, hb⟩ : ∃ l : List (Int × Int × Int), l.length = len0 ∧ AR W (fun k => k < W.heap.size) (.slice a0 l.length cap0) l ∧ ∀ p ∈ l, -9223372036854775808 ≤ p.1 ∧ p.1 ≤ 9223372036854775807 := by
    obtain ⟨fuel, hf⟩ := h0
    obtain ⟨a, l, cap, hcs, h1, h2⟩ := acts_of hf
    simp [Value.cells] at hcs
    obtain ⟨rfl, rfl, rfl⟩ := hcs
    exact ⟨l, rfl, h1, h2⟩
  subst hll
  obtain ⟨a1, rfl, rfl, rfl, w1⟩ := open_int Try.underlying3 (hval 1 3 v1 rfl rfl) h1
  clear hA0 hval0
  refine (walk a0 l cap0 a1 W w0 hb).mono fun e W' ⟨he, bel⟩ => ?_
  subst he
  exact ⟨_, rfl, _, _, _, [], _, [], hW', trodAll_mk1 (shut_bool Try.underlying4 _), (trodAll_cons_mk (Below.trod laidOut (by kernel_rfl) (of_decide_eq_true (by kernel_rfl)) k0 bel lt0) (trodAll_cons_mk (shut_int Try.underlying3 w1) trodAll_mk0)), rfl, bel.frame _, fun h => by cases h⟩

theorem over : Rows.agendaPlaysRow.holds Try.pinned (OpenSpec.ofChange Rows.agendaPlaysSpec) :=
  OpenClaim.holds_of_wide 3 Try.f3 rfl rfl rfl rfl rfl rfl rfl ⟨rfl, rfl, rfl, rfl, rfl⟩ rfl rfl rfl rfl rfl (by kernel_rfl) Try.func3 (by kernel_rfl)
    (of_decide_eq_true (by kernel_rfl)) (by unfold Func.isWrapper; first | (rw [if_pos (by decide +kernel)]; kernel_rfl) | (rw [if_neg (by decide +kernel)]; exact ⟨rfl, rfl⟩))
    (fun os started H enc _ => lifted os started H enc)

theorem proved : Rows.AgendaPlaysSaid := over
#print axioms proved
end Go.Proofs.Ytfmkdilllgncfaa.agendaPlays
