/- A map in memory as a list of its keys and elements, in whatever order: what a look-up, a store and a delete do. -/
import Derived.Test.YtpinjgdnhbogoaaGreatDoorMem
import Derived.MapKept
import Derived.Maps.OwnSet
import Derived.Maps.OwnOps
namespace Go.Proofs.YtpinjgdnhbogoaaGreatDoor
open Go.RowKit Go.Lib Go.MapKept

/-- block b is a map, of keys of the kind d, that holds just M -/
def MapOf (w : World) (d : TypeDesc) (b : Nat) (M : List (Value × Value)) : Prop :=
  ∃ es clock, w.heap[b]? = some (.map es clock) ∧ Stamped es clock ∧ (∀ x ∈ es.toList, IsKey d x.key) ∧ (es.toList.map fun x => (x.key, x.val)).Perm M

theorem one_elem {k u v : Value} : ∀ {M : List (Value × Value)}, (M.map (·.1)).Nodup → (k, u) ∈ M → (k, v) ∈ M → u = v
  | [], _, h, _ => by cases h
  | p :: M, hn, h1, h2 => by
    rw [List.map_cons, List.nodup_cons] at hn
    rcases List.mem_cons.1 h1 with e1 | e1 <;> rcases List.mem_cons.1 h2 with e2 | e2
    · exact (Prod.mk.inj (e1.trans e2.symm)).2
    · subst e1; exact absurd (List.mem_map.2 ⟨_, e2, rfl⟩) hn.1
    · subst e2; exact absurd (List.mem_map.2 ⟨_, e1, rfl⟩) hn.1
    · exact one_elem hn.2 e1 e2

section
variable {w w' : World} {d : TypeDesc} {b : Nat} {M M' : List (Value × Value)} {P : Program} {t kt et : TypeId} {k v : Value}

theorem MapOf.perm (h : MapOf w d b M) (hp : M.Perm M') : MapOf w d b M' := let ⟨es, c, h1, h2, h3, h4⟩ := h; ⟨es, c, h1, h2, h3, h4.trans hp⟩
theorem MapOf.keep (h : MapOf w d b M) (hk : w'.heap[b]? = w.heap[b]?) : MapOf w' d b M := let ⟨es, c, h1, h2⟩ := h; ⟨es, c, hk.trans h1, h2⟩
theorem MapOf.lt (h : MapOf w d b M) : b < w.heap.size := let ⟨_, _, h1, _⟩ := h; lt_of_block h1
theorem MapOf.block (h : MapOf w d b M) : ∃ es c, w.heap[b]? = some (.map es c) := let ⟨es, c, h1, _⟩ := h; ⟨es, c, h1⟩
theorem MapOf.made (w : World) (d : TypeDesc) : MapOf (w.alloc (.map #[] 0)) d w.heap.size [] :=
  ⟨#[], 0, (heap_alloc w _).1, stamped_empty 0, by simp, .refl _⟩
theorem MapOf.nodup (h : MapOf w d b M) : (M.map (·.1)).Nodup := by
  obtain ⟨es, c, h1, h2, h3, h4⟩ := h
  have := (h4.map (·.1)).nodup_iff.1 (by simpa [List.map_map, Function.comp_def] using h2.2.2)
  exact this
theorem MapOf.run_look (h : MapOf w d b M) (hm : P.underlying t = some (.map kt et)) (hd : P.underlying kt = some d) (hk : IsKey d k) (hin : (k, v) ∈ M) (ok : Bool) :
    (Instr.lookup t (.map (some b)) k ok).run P w = .ok (if ok then .tuple #[v, .bool true] else v) w := by
  have hnd := h.nodup
  obtain ⟨es, c, h1, h2, h3, h4⟩ := h
  rcases findNow_spec hk es.toList 0 h3 with ⟨f1, f2⟩ | ⟨j, e, f1, f2, f3⟩
  · obtain ⟨x, hx, hxe⟩ := List.mem_map.1 (h4.mem_iff.2 hin)
    simp only [Prod.mk.injEq] at hxe
    exact absurd hxe.1 (f2 x hx)
  · have hev : e.val = v := by
      have hm1 : (k, e.val) ∈ M := h4.mem_iff.1 (List.mem_map.2 ⟨e, List.mem_of_getElem? f2, by rw [f3]⟩)
      exact one_elem hnd hm1 hin
    subst hev
    cases ok <;> simp [Instr.lookup, run_underlying hm, MapKept.run_getObj_map h1, run_checkKey hd hk, run_findKey hd f1, Result.andThen]

theorem MapOf.run_none (h : MapOf w d b M) (hm : P.underlying t = some (.map kt et)) (hd : P.underlying kt = some d) (hk : IsKey d k) (hin : ∀ p ∈ M, p.1 ≠ k) {z : Value} (hz : ∀ w, (zeroValue et).run P w = .ok z w) (ok : Bool) :
    (Instr.lookup t (.map (some b)) k ok).run P w = .ok (if ok then .tuple #[z, .bool false] else z) w := by
  obtain ⟨es, c, h1, h2, h3, h4⟩ := h
  rcases findNow_spec hk es.toList 0 h3 with ⟨f1, f2⟩ | ⟨j, e, f1, f2, f3⟩
  · cases ok <;> simp [Instr.lookup, run_underlying hm, MapKept.run_getObj_map h1, run_checkKey hd hk, run_findKey hd f1, hz, Result.andThen]
  · exact absurd f3 (hin _ (h4.mem_iff.1 (List.mem_map.2 ⟨e, List.mem_of_getElem? f2, rfl⟩)))

theorem fr_setObj {r : Nat} (o : Obj) : Fr (fun k => k = r) w { w with heap := w.heap.setIfInBounds r o } :=
  ⟨rfl, rfl, rfl, by simp, fun k _ hk => by simp [Ne.symm hk]⟩

/-- a store at a new key -/
theorem MapOf.run_add (h : MapOf w d b M) (hm : P.underlying t = some (.map kt et)) (hd : P.underlying kt = some d) (hk : IsKey d k) (hin : ∀ p ∈ M, p.1 ≠ k) (u : Value) :
    ∃ w', (Instr.mapUpdate t (.map (some b)) k u).run P w = .ok () w' ∧ MapOf w' d b ((k, u) :: M) ∧ Fr (fun i => i = b) w w' := by
  obtain ⟨es, c, h1, h2, h3, h4⟩ := h
  rcases findNow_spec hk es.toList 0 h3 with ⟨f1, f2⟩ | ⟨j, e, f1, f2, f3⟩
  · refine ⟨{ w with heap := w.heap.setIfInBounds b (.map (es.push { key := k, val := u, born := c }) (c + 1)) }, by simp [Instr.mapUpdate, run_underlying hm, MapKept.run_getObj_map h1, run_checkKey hd hk, run_findKey hd f1, run_setObj_map _ h1, Result.andThen],
      ⟨_, _, (heap_set h1).1, stamped_push h2 f2, ?_, ?_⟩, fr_setObj _⟩
    · intro x hx
      simp only [Array.toList_push, List.mem_append, List.mem_singleton] at hx
      rcases hx with hx | rfl
      · exact h3 x hx
      · exact hk
    · rw [Array.toList_push, List.map_append]
      exact (List.perm_append_singleton _ _).trans (h4.cons _)
  · exact absurd f3 (hin _ (h4.mem_iff.1 (List.mem_map.2 ⟨e, List.mem_of_getElem? f2, rfl⟩)))

end

/-! ### at the operation, for the walk -/
section
variable {P : Program} {w : World} {ops : Array Oper} {rest : List Oper} {o : Oper} {a : Act} {Q : Exit → Act → World → Prop} {d : TypeDesc} {b : Nat} {M : List (Value × Value)} {key v val : Value}

theorem wpList_map_add (hg : o.guard = none) (m x u : Operand) (t : TypeId) (hop : o.op = Op.mapUpdate t m x u) (kt et : TypeId) (hm : P.underlying t = some (.map kt et)) (hd : P.underlying kt = some d)
    (ha : a.eval m = .map (some b)) (hx : a.eval x = key) (hv : a.eval u = val) (h : MapOf w d b M) (hk : IsKey d key) (hin : ∀ p ∈ M, p.1 ≠ key)
    (hK : ∀ w', MapOf w' d b ((key, val) :: M) → Fr (fun i => i = b) w w' → wpList P ops Q rest (a.put o.dst undef) w') : wpList P ops Q (o :: rest) a w := by
  refine wpList_plain hg fun K' hK' => ?_
  obtain ⟨w', hrun, r1, r2⟩ := h.run_add hm hd hk hin val
  unfold Oper.wp
  simp [execOp, hop, ha, hx, hv, hrun, Result.andThen]
  exact hK' _ _ (hK w' r1 r2)
end
end Go.Proofs.YtpinjgdnhbogoaaGreatDoor
