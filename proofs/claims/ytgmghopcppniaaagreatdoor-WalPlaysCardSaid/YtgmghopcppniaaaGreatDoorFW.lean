/- The frame of a law with listed variables, the world's shape kept; what its start gives the walks; numbers and texts that came in. -/
import Derived.Test.YtgmghopcppniaaaGreatDoorFE
import Derived.Test.YtgmghopcppniaaaGreatDoorRows
import Derived.HandedShaped
import Derived.Shelf.Vars
import Derived.Handed
import Derived.LaidMore
import Derived.ProofKit
import Derived.OpenShut
import Derived.ShutString
import Derived.Deep.Slices
import Derived.Deep.Fields
import Derived.SevenTiedAt
import Derived.Stop.Joined
import Derived.Test.YtgmghopcppniaaaGreatDoorFM
namespace Go.Proofs.YtgmghopcppniaaaGreatDoor
open Go.RowKit Go.Lib

theorem own : ownKnob Tryz.prog.godebug = none := by kernel_rfl
theorem laidOut : laidOutB Tryz.prog = true := by kernel_rfl
theorem main_is : Tryz.prog.mainIs = some (true, "b32357663a7d4d61b22cc15202e41f5eca9b780a041e6fb9d5b1300ebce1d0ce".toList) := by kernel_rfl
theorem looks_all : true = Tryz.prog.looks [] := by kernel_rfl
theorem returns_laid_shaped {H : Type} {enc : TypeId × Value → H} {a : Assume} {C : Checked} {os : Os} {f : FuncId} {fn : Func} {s : ChangeSpec} {conds : List PathCond} {apart fresh handsOn again : Bool} {X : World → Array Value → Prop}
  (hX : ∀ (w w' : World) (args : Array Value), w.heap = w'.heap → X w args → X w' args)
  (own : ownKnob C.prog.godebug = none) (started : os.Started) (noInit : C.prog.inits.idxOf? f = none) (hfn : C.prog.funcs[f]? = some fn)
  (witness : ∃ (w : World) (tape : Tape) (i : Input), w.os = os ∧ (w.forCall tape i).Shaped C.prog ∧ i.vars = [] ∧ Input.okWide C.prog (w.forCall tape i) .any w.heap.size f i ∧
   ((s.pre enc C.prog fn conds apart (w.forCall tape i).memory i.args ∧ X (w.forCall tape i).memory i.args) ∧ sizedMet enc C.prog fn (OpenSpec.ofChange s) apart (w.forCall tape i).memory i.args) ∧ a.holds C.prog (lone (Frame.enter C.prog f i.args .normal) [] (w.forCall tape i)))
  (contract : ∀ (W : World) (base : Nat) (args : Array Value) (ds gs : List (DataW H)) (before : List MemPlace),
   (∀ (j : Nat) t v, fn.params[j]? = some t → args[j]? = some v → Value.okWide C.prog W .any base t v) →
   DataW.Whole enc C.prog fn.params.toList s.vars apart W args.toList ds gs before →
   conds.all (PathCond.test C.prog ⟨fn.params.toList, ds, s.plain.varTypes C.prog, gs⟩) = true →
   X W args → W.ShapedOpen C.prog →
   Calls C.prog f args W fun e W' => ∃ v, e = .returned v ∧ s.post enc C.prog fn apart fresh handsOn again W args v W') :
  ReturnsInHanded a C os f .any (fun w args => (s.pre enc C.prog fn conds apart w args ∧ X w args) ∧ sizedMet enc C.prog fn (OpenSpec.ofChange s) apart w args) (s.post enc C.prog fn apart fresh handsOn again) := by
 refine returnsInHanded_of_calls own started noInit witness ?_
 intro w tape i _ hsh _ hok hpre _
 obtain ⟨_, _, _, fn', hfn', _, _, _, _, hval⟩ := hok
 obtain rfl : fn' = fn := Option.some.inj (hfn'.symm.trans hfn)
 obtain ⟨⟨⟨ds, gs, before, hw, hc⟩, hx⟩, _⟩ := hpre
 refine (contract (w.forCall tape i) w.heap.size i.args ds gs before hval (DataW.Whole.of_heap (w' := w.forCall tape i) (by rfl) hw) hc (hX _ _ _ (by rfl) hx) hsh).mono fun e W' ⟨v, he, hp⟩ => ?_
 subst he
 exact ChangeSpec.post_blind hp
theorem laid_find {P : Program} {w : World} {n : String} {d : DataW Unit} : ∀ {l : List (String × DataW Unit)} {ps : List MemPlace}, DataW.LaidVars P w l ps → (n, d) ∈ l →
  ∃ g t cs fuel p, P.globalNamed n = some g ∧ (P.globals[g]?).map (·.type) = some t ∧ w.var? P n = some cs ∧ DataW.trod (fun _ => ()) P w 0 (fun _ => true) false fuel t cs.toList = some (d, p)
 | [], _, _, hm => by cases hm
 | (n', d') :: r, ps, h, hm => by
  obtain ⟨g, t, cs, fuel, p, q, h1, h2, h3, h4, h5, _⟩ := h
  rcases List.mem_cons.1 hm with e | e
  ·cases e; exact ⟨g, t, cs, fuel, p, h1, h2, h3, h4⟩
  ·exact laid_find h5 e
theorem trod_iface {P : Program} {w : World} {fuel : Nat} {t : TypeId} {cs : List Value} {s : String} {x : DataW Unit} {p : List MemPlace} (hu : ∃ m, P.underlying t = some (.interface m))
  (h : DataW.trod (fun _ => ()) P w 0 (fun _ => true) false fuel t cs = some (.iface s x, p)) : ∃ u v, cs = [.iface u v] := by
 obtain ⟨m, hu⟩ := hu
 cases fuel with
 | zero => simp [DataW.trod] at h
 | succ f =>
  unfold DataW.trod at h
  rw [hu] at h
  split at h <;> first | exact ⟨_, _, rfl⟩ | (rename_i h1 _; cases h1; done) | simp_all
theorem var_block {P : Program} {w : World} {n : String} {g : Nat} {cs : Array Value} (hg : P.globalNamed n = some g) (h : w.var? P n = some cs) : ∃ e f, w.heap[g]? = some (.cells cs e f) := by
 unfold World.var? at h
 rw [hg] at h
 simp only [Option.bind_some] at h
 split at h
 ·rename_i cs' e f hb
  obtain rfl := Option.some.inj h
  exact ⟨e, f, hb⟩
 ·cases h
theorem pow_data : Rows.laid_internal_strconv_uint64pow10 = (Lib.tabData .u64 Lib.pow10Tab : DataW Unit) := rfl
theorem env_of {W : World} {laid : List (String × DataW Unit)} (hL : laidMet Tryz.prog laid W)
  (h1 : ("strconv.ErrSyntax", Rows.laid_strconv_ErrSyntax) ∈ laid) (h2 : ("strconv.ErrRange", Rows.laid_strconv_ErrRange) ∈ laid) (h3 : ("internal/strconv.uint64pow10", Rows.laid_internal_strconv_uint64pow10) ∈ laid) (h4 : ("math/bits.deBruijn64tab", Rows.laid_math_bits_deBruijn64tab) ∈ laid) : Env W ∧ 8 ≤ W.heap.size := by
 obtain ⟨ps, hv, _, _⟩ := hL
 obtain ⟨g1, t1, cs1, f1, p1, a1, b1, c1, d1⟩ := laid_find hv h1
 obtain ⟨g2, t2, cs2, f2, p2, a2, b2, c2, d2⟩ := laid_find hv h2
 obtain ⟨g3, t3, cs3, f3, p3, a3, b3, c3, d3⟩ := laid_find hv h3
 obtain ⟨g4, t4, cs4, f4, p4, a4, b4, c4, d4⟩ := laid_find hv h4
 obtain rfl : g1 = 0 := Option.some.inj (a1.symm.trans (by kernel_rfl))
 obtain rfl : g2 = 1 := Option.some.inj (a2.symm.trans (by kernel_rfl))
 obtain rfl : g3 = 2 := Option.some.inj (a3.symm.trans (by kernel_rfl))
 obtain rfl : g4 = 7 := Option.some.inj (a4.symm.trans (by kernel_rfl))
 obtain rfl : t1 = 110 := Option.some.inj (b1.symm.trans (by kernel_rfl))
 obtain rfl : t2 = 110 := Option.some.inj (b2.symm.trans (by kernel_rfl))
 obtain rfl : t3 = 276 := Option.some.inj (b3.symm.trans (by kernel_rfl))
 obtain ⟨u1, v1, e1⟩ := trod_iface ⟨_, Tryz.underlying110⟩ d1
 obtain ⟨u2, v2, e2⟩ := trod_iface ⟨_, Tryz.underlying110⟩ d2
 have k1 : W.cell? ⟨0, 0, none⟩ = cs1[0]? := World.var?_cell a1 c1 0
 have k2 : W.cell? ⟨1, 0, none⟩ = cs2[0]? := World.var?_cell a2 c2 0
 rw [← Array.getElem?_toList, e1] at k1
 rw [← Array.getElem?_toList, e2] at k2
 obtain ⟨e3, y3, hb3⟩ := var_block a3 c3
 obtain ⟨e4, y4, hb4⟩ := var_block a4 c4
 rw [pow_data] at d3
 have hcs := Lib.cells_of_tab Tryz.underlying276 Tryz.underlying190 (by kernel_rfl) (by kernel_rfl) d3
 refine ⟨⟨⟨u1, v1, k1⟩, ⟨u2, v2, k2⟩, ⟨e3, y3, ?_⟩⟩, lt_of_block hb4⟩
 rw [← hcs, Array.toArray_toList]
 exact hb3

/-! ### what came in -/
section
open Go.ChangeShapes Go.WideShapes Go.ChangeAt Go.Deep
variable {H : Type} {enc : TypeId × Value → H} {P : Program} {w : World} {base : Nat} {spare : Nat → Bool} {held : Bool}
theorem open_slice_fields {t e : TypeId} {fs : Array Field} {fuel : Nat} {cs : List Value} {x : DataW H × List MemPlace} (ht : P.underlying t = some (.slice e)) (he : P.underlying e = some (.struct fs))
  (hone : oneCellFields P fs = true) (hC : P.cellsOf e = fs.size) (h : DataW.trod enc P w base spare held fuel t cs = some x) :
  (cs = [.slice none 0 0] ∧ x = (.nil, [])) ∨
  ∃ (a : Addr) (len cap m : Nat), cs = [.slice (some a) len cap] ∧ len ≤ cap ∧ cap ≤ maxLen ∧ len ≤ m ∧
   ∀ i, i < m → ∃ (n : Nat), ∀ (j : Nat) (f : Field), fs[j]? = some f → ∃ (v : Value) (y : DataW H × List MemPlace), w.cell? (a.add (i * fs.size + j)) = some v ∧ DataW.trod enc P w base spare held n f.type [v] = some y := by
 rcases open_slice ht h with h0 | ⟨a, len, cap, m, n, D, Pl, hcs, hb, hl, hm, hmm, hx, hi⟩
 ·exact .inl h0
 ·refine .inr ⟨a, len, cap, m, hcs, hl, hm, by rw [hmm]; split <;> omega, fun i him => ?_⟩
  obtain ⟨cs', hc, ht'⟩ := hi i him
  rw [hC] at hc
  obtain ⟨ys, n', hn', hy, hlen, hyl, hf⟩ := DataW.trod_struct he ht'
  obtain ⟨_, hcl, hat⟩ := World.cells?_some hc
  refine ⟨n', fun j f hj => ?_⟩
  obtain ⟨ho, hk⟩ := hone_of hone j f hj
  have hjl : j < fs.size := (Array.getElem?_eq_some_iff.1 hj).1
  have hcell := hat j hjl
  have hv : cs'[j]? = some (cs'[j]'(by omega)) := List.getElem?_eq_getElem (by omega)
  have h1 := hf j f hj
  rw [ho, hk] at h1
  have hone' : (cs'.drop j).take 1 = [cs'[j]'(by omega)] := by
   rw [List.drop_eq_getElem_cons (by omega)]
   rfl
  rw [hone'] at h1
  have hys : ys[j]? = some (ys[j]'(by omega)) := List.getElem?_eq_getElem (by omega)
  refine ⟨_, _, ?_, h1.trans hys⟩
  rw [← Go.Deep.add_add, hcell, hv]
end
section
open Go.ChangeShapes Go.WideShapes Go.ChangeAt Go.Deep
variable {H : Type} {enc : TypeId × Value → H} {W : World}
theorem ints_of {n : Nat} {cs : List Value} {x : DataW H × List MemPlace} (h : DataW.trod enc Tryz.prog W 0 (fun _ => true) true n 22 cs = some x) : ∃ v l, cs = [v] ∧ IR W (fun k => k < W.heap.size) v l ∧ ∀ n ∈ l, I64 n := by
 rcases open_ints Tryz.underlying22 Tryz.underlying3 (by kernel_rfl) h with ⟨hcs, _⟩ | ⟨x, l, c, zs, hcs, _, hl, hm, hz, _, hcell, hwz⟩
 ·exact ⟨_, [], hcs, IR.nil _ _, fun _ h => by cases h⟩
 ·obtain ⟨L, h1, h2, h3⟩ := IR.of_arg (w := W) (a := some x) (len := l) (cap := c) (zs := zs) (.inr ⟨x, rfl, hl, hm, by simpa using hz, hcell, hwz⟩)
  subst h1
  exact ⟨_, L, hcs, h2, h3⟩
theorem str_of {n : Nat} {cs : List Value} {x : DataW H × List MemPlace} (h : DataW.trod enc Tryz.prog W 0 (fun _ => true) true n 9 cs = some x) : ∃ l : Str, cs = [.string (bs l)] ∧ l.length ≤ 9223372036854775807 := by
 obtain ⟨s, h1, _, h3⟩ := DataW.trod_string Tryz.underlying9 h
 obtain ⟨l, rfl⟩ := bs_of s
 exact ⟨l, h1, by unfold maxLen at h3; exact h3⟩
theorem int_of {n : Nat} {cs : List Value} {x : DataW H × List MemPlace} (h : DataW.trod enc Tryz.prog W 0 (fun _ => true) true n 3 cs = some x) : ∃ z : Int, cs = [.int .i64 z] ∧ I64 z := by
 obtain ⟨z, h1, _, h3⟩ := DataW.trod_int Tryz.underlying3 h
 exact ⟨z, h1, bounds_i64 h3⟩
end
end Go.Proofs.YtgmghopcppniaaaGreatDoor

/- Acts that came in a row. -/
namespace Go.Proofs.YtgmghopcppniaaaGreatDoor
open Go.RowKit Go.Lib

theorem list_ofW {α : Type} {P : Nat → α → Prop} : ∀ n : Nat, (∀ i, i < n → ∃ x, P i x) → ∃ l : List α, l.length = n ∧ ∀ i x, l[i]? = some x → P i x
 | 0, _ => ⟨[], rfl, fun i x h => by simp at h⟩
 | n + 1, h => by
  obtain ⟨l, hl, hp⟩ := list_ofW n fun i hi => h i (by omega)
  obtain ⟨x, hx⟩ := h n (by omega)
  refine ⟨l ++ [x], by simp [hl], fun i y hy => ?_⟩
  rw [List.getElem?_append] at hy
  split at hy
  ·exact hp i y hy
  ·rw [List.getElem?_singleton] at hy
   split at hy
   ·obtain rfl := Option.some.inj hy
    obtain rfl : i = n := by omega
    exact hx
   ·cases hy
section
open Go.ChangeShapes Go.WideShapes Go.ChangeAt Go.Deep
variable {H : Type} {enc : TypeId × Value → H} {W : World}
theorem row_intsW {n : Nat} {cs : List Value} {x : DataW H × List MemPlace} (h : DataW.trod enc Tryz.prog W 0 (fun _ => true) true n 22 cs = some x) : ∃ (v : Value) (l : List Int), cs = [v] ∧ IR W (fun k => k < W.heap.size) v l := by
 obtain ⟨v, l, h1, h2, _⟩ := ints_of h
 exact ⟨v, l, h1, h2⟩
noncomputable def Fs77 : Array Field := match Tryz.prog.underlying 77 with | some (.struct fs) => fs | _ => #[]
theorem u77 : Tryz.prog.underlying 77 = some (.struct Fs77) := by kernel_rfl
theorem fs77 : Fs77.toList.map (·.type) = [3, 3, 3, 3, 3, 9, 22, 22] := by kernel_rfl
theorem fs77_at (j : Nat) (t : TypeId) (h : [3, 3, 3, 3, 3, 9, 22, 22][j]? = some t) : ∃ f, Fs77[j]? = some f ∧ f.type = t := by
 rw [← fs77, List.getElem?_map] at h
 obtain ⟨f, h1, h2⟩ := Option.map_eq_some_iff.1 h
 exact ⟨f, by simpa using h1, h2⟩
theorem actw_of {n : Nat} {c : Nat → Option Value} (hf : ∀ (j : Nat) (f : Field), Fs77[j]? = some f → ∃ (v : Value) (y : DataW H × List MemPlace), c j = some v ∧ DataW.trod enc Tryz.prog W 0 (fun _ => true) true n f.type [v] = some y) :
  ∃ m : ActWM, (∀ j u, (cellsWM m)[j]? = some u → c j = some u) ∧ ActWIn W (fun k => k < W.heap.size) m := by
 have at' : ∀ (j : Nat) (t : TypeId), [3, 3, 3, 3, 3, 9, 22, 22][j]? = some t → ∃ (v : Value) (y : DataW H × List MemPlace), c j = some v ∧ DataW.trod enc Tryz.prog W 0 (fun _ => true) true n t [v] = some y := by
  intro j t h
  obtain ⟨f, h1, rfl⟩ := fs77_at j t h
  exact hf j f h1
 obtain ⟨v0, y0, c0, t0⟩ := at' 0 3 rfl
 obtain ⟨v1, y1, c1, t1⟩ := at' 1 3 rfl
 obtain ⟨v2, y2, c2, t2⟩ := at' 2 3 rfl
 obtain ⟨v3, y3, c3, t3⟩ := at' 3 3 rfl
 obtain ⟨v4, y4, c4, t4⟩ := at' 4 3 rfl
 obtain ⟨v5, y5, c5, t5⟩ := at' 5 9 rfl
 obtain ⟨v6, y6, c6, t6⟩ := at' 6 22 rfl
 obtain ⟨v7, y7, c7, t7⟩ := at' 7 22 rfl
 obtain ⟨x0, e0, b0⟩ := int_of t0
 obtain ⟨x1, e1, b1⟩ := int_of t1
 obtain ⟨x2, e2, b2⟩ := int_of t2
 obtain ⟨x3, e3, b3⟩ := int_of t3
 obtain ⟨x4, e4, b4⟩ := int_of t4
 obtain ⟨l5, e5, _⟩ := str_of t5
 obtain ⟨w6, l6, e6, i6⟩ := row_intsW t6
 obtain ⟨w7, l7, e7, i7⟩ := row_intsW t7
 simp only [List.cons.injEq, and_true] at e0 e1 e2 e3 e4 e5 e6 e7
 subst e0 e1 e2 e3 e4 e5 e6 e7
 refine ⟨⟨⟨x0, x1, x2, x3, x4, l5, l6, l7⟩, _, _⟩, fun j u hu => ?_, i6, i7, b0, b1, b2, b3, b4⟩
 match j, hu with
 | 0, hu => rw [c0]; exact hu
 | 1, hu => rw [c1]; exact hu
 | 2, hu => rw [c2]; exact hu
 | 3, hu => rw [c3]; exact hu
 | 4, hu => rw [c4]; exact hu
 | 5, hu => rw [c5]; exact hu
 | 6, hu => rw [c6]; exact hu
 | 7, hu => rw [c7]; exact hu
 | _ + 8, hu => simp [cellsWM] at hu
/-- the acts that came in -/
theorem acts_of {fuel : Nat} {cs : List Value} {x : DataW H × List MemPlace} (h : DataW.trod enc Tryz.prog W 0 (fun _ => true) true fuel 69 cs = some x) :
  ∃ (v : Value) (l : List ActWM), cs = [v] ∧ ActsW W (fun k => k < W.heap.size) v l := by
 rcases open_slice_fields (by kernel_rfl) u77 (by kernel_rfl) (by kernel_rfl) h with ⟨rfl, _⟩ | ⟨a, len, cap, m, rfl, hl, hm, hmm, hi⟩
 ·exact ⟨_, [], rfl, ⟨none, 0, rfl, Nat.le_refl _, by decide, fun h => absurd h (by decide)⟩, by simp⟩
 ·have s77 : Fs77.size = 8 := by kernel_rfl
  obtain ⟨l, hln, hp⟩ := list_ofW (P := fun i (q : ActWM) => (∀ j u, (cellsWM q)[j]? = some u → W.cell? (a.add (i * 8 + j)) = some u) ∧ ActWIn W (fun k => k < W.heap.size) q) len fun i hil => by
   obtain ⟨n, hf⟩ := hi i (by omega)
   rw [s77] at hf
   exact actw_of (c := fun j => W.cell? (a.add (i * 8 + j))) hf
  subst hln
  refine ⟨_, l, rfl, ⟨some a, cap, rfl, hl, by unfold maxLen at hm; exact hm, fun h0 => ?_⟩, fun q hq => ?_⟩
  ·obtain ⟨q, hq⟩ : ∃ q, l[0]? = some q := ⟨_, List.getElem?_eq_getElem h0⟩
   have c0 := (hp 0 q hq).1 0 _ rfl
   have hx0 : a.add (0 * 8 + 0) = a := by simp [Addr.add]
   rw [hx0] at c0
   have hs : a.spot = none := by
    unfold World.cell? at c0
    split at c0
    ·cases hsp : a.spot with
     | none => rfl
     | some _ => simp [hsp] at c0
    ·cases c0
   obtain ⟨b, off, sp⟩ := a
   simp only at hs
   subst hs
   refine ⟨b, off, rfl, World.block_lt_of_cell? W _ c0, fun i q j u hq hu => ?_⟩
   have := (hp i q hq).1 j u hu
   rw [Addr.add_lit] at this
   rw [Nat.add_assoc]
   exact this
  ·obtain ⟨i, hi'⟩ := List.getElem?_of_mem hq
   exact (hp i q hi').2
end
end Go.Proofs.YtgmghopcppniaaaGreatDoor
