/- A map in memory as a list of its keys and elements, in whatever order: what a look-up, a store and a delete do. -/
import Derived.Test.YtgmghopcppniaaaGreatDoorMem
import Derived.MapKept
import Derived.Maps.OwnSet
import Derived.Maps.OwnOps
namespace Go.Proofs.YtgmghopcppniaaaGreatDoor
open Go.RowKit Go.Lib Go.MapKept

/-- block b is a map, of keys of the kind d, that holds just M -/
def MapOf (w : World) (d : TypeDesc) (b : Nat) (M : List (Value × Value)) : Prop :=
  ∃ es clock, w.heap[b]? = some (.map es clock) ∧ Stamped es clock ∧ (∀ x ∈ es.toList, IsKey d x.key) ∧ (es.toList.map fun x => (x.key, x.val)).Perm M

theorem one_elem {k u v : Value} : ∀ {M : List (Value × Value)}, (M.map (·.1)).Nodup → (k, u) ∈ M → (k, v) ∈ M → u = v
  | [], _, h, _ => by cases h
  | p :: M, hn, h1, h2 => by
    rw [List.map_cons, List.nodup_cons] at hn
    rcases List.mem_cons.1 h1 with e1 | e1 <;> rcases List.mem_cons.1 h2 with e2 | e2
    · exact (Prod.mk.inj (e1.trans e2.symm)).2
    · subst e1; exact absurd (List.mem_map.2 ⟨_, e2, rfl⟩) hn.1
    · subst e2; exact absurd (List.mem_map.2 ⟨_, e1, rfl⟩) hn.1
    · exact one_elem hn.2 e1 e2

section
variable {w w' : World} {d : TypeDesc} {b : Nat} {M M' : List (Value × Value)} {P : Program} {t kt et : TypeId} {k v : Value}

theorem MapOf.perm (h : MapOf w d b M) (hp : M.Perm M') : MapOf w d b M' := let ⟨es, c, h1, h2, h3, h4⟩ := h; ⟨es, c, h1, h2, h3, h4.trans hp⟩
theorem MapOf.keep (h : MapOf w d b M) (hk : w'.heap[b]? = w.heap[b]?) : MapOf w' d b M := let ⟨es, c, h1, h2⟩ := h; ⟨es, c, hk.trans h1, h2⟩
theorem MapOf.lt (h : MapOf w d b M) : b < w.heap.size := let ⟨_, _, h1, _⟩ := h; lt_of_block h1
theorem MapOf.block (h : MapOf w d b M) : ∃ es c, w.heap[b]? = some (.map es c) := let ⟨es, c, h1, _⟩ := h; ⟨es, c, h1⟩
theorem MapOf.made (w : World) (d : TypeDesc) : MapOf (w.alloc (.map #[] 0)) d w.heap.size [] :=
  ⟨#[], 0, (heap_alloc w _).1, stamped_empty 0, by simp, .refl _⟩
theorem MapOf.nodup (h : MapOf w d b M) : (M.map (·.1)).Nodup := by
  obtain ⟨es, c, h1, h2, h3, h4⟩ := h
  have := (h4.map (·.1)).nodup_iff.1 (by simpa [List.map_map, Function.comp_def] using h2.2.2)
  exact this
theorem MapOf.isKey (h : MapOf w d b M) : ∀ p ∈ M, IsKey d p.1 := by
  obtain ⟨es, c, h1, h2, h3, h4⟩ := h
  intro p hp
  obtain ⟨x, hx, rfl⟩ := List.mem_map.1 (h4.mem_iff.2 hp)
  exact h3 x hx

theorem MapOf.run_look (h : MapOf w d b M) (hm : P.underlying t = some (.map kt et)) (hd : P.underlying kt = some d) (hk : IsKey d k) (hin : (k, v) ∈ M) (ok : Bool) :
    (Instr.lookup t (.map (some b)) k ok).run P w = .ok (if ok then .tuple #[v, .bool true] else v) w := by
  have hnd := h.nodup
  obtain ⟨es, c, h1, h2, h3, h4⟩ := h
  rcases findNow_spec hk es.toList 0 h3 with ⟨f1, f2⟩ | ⟨j, e, f1, f2, f3⟩
  · obtain ⟨x, hx, hxe⟩ := List.mem_map.1 (h4.mem_iff.2 hin)
    simp only [Prod.mk.injEq] at hxe
    exact absurd hxe.1 (f2 x hx)
  · have hev : e.val = v := by
      have hm1 : (k, e.val) ∈ M := h4.mem_iff.1 (List.mem_map.2 ⟨e, List.mem_of_getElem? f2, by rw [f3]⟩)
      exact one_elem hnd hm1 hin
    subst hev
    cases ok <;> simp [Instr.lookup, run_underlying hm, MapKept.run_getObj_map h1, run_checkKey hd hk, run_findKey hd f1, Result.andThen]

theorem MapOf.run_none (h : MapOf w d b M) (hm : P.underlying t = some (.map kt et)) (hd : P.underlying kt = some d) (hk : IsKey d k) (hin : ∀ p ∈ M, p.1 ≠ k) {z : Value} (hz : ∀ w, (zeroValue et).run P w = .ok z w) (ok : Bool) :
    (Instr.lookup t (.map (some b)) k ok).run P w = .ok (if ok then .tuple #[z, .bool false] else z) w := by
  obtain ⟨es, c, h1, h2, h3, h4⟩ := h
  rcases findNow_spec hk es.toList 0 h3 with ⟨f1, f2⟩ | ⟨j, e, f1, f2, f3⟩
  · cases ok <;> simp [Instr.lookup, run_underlying hm, MapKept.run_getObj_map h1, run_checkKey hd hk, run_findKey hd f1, hz, Result.andThen]
  · exact absurd f3 (hin _ (h4.mem_iff.1 (List.mem_map.2 ⟨e, List.mem_of_getElem? f2, rfl⟩)))

theorem MapOf.run_len (h : MapOf w d b M) (hm : P.underlying t = some (.map kt et)) (ty : TypeId) : (Builtin.len_ #[t] ty #[.map (some b)]).run P w = .ok (.int .i64 M.length) w := by
  obtain ⟨es, c, h1, h2, h3, h4⟩ := h
  have e : es.size = M.length := by simpa using h4.length_eq
  simp [Builtin.len_, run_underlying hm, MapKept.run_getObj_map h1, Result.andThen, goInt, e]

theorem fr_setObj {r : Nat} (o : Obj) : Fr (fun k => k = r) w { w with heap := w.heap.setIfInBounds r o } :=
  ⟨rfl, rfl, rfl, by simp, fun k _ hk => by simp [Ne.symm hk]⟩

theorem modify_perm {l : List MapEntry} {k v v0 : Value} {R : List (Value × Value)} {j : Nat} {e : MapEntry} (f : MapEntry → MapEntry) (he : l[j]? = some e) (hek : e.key = k) (hev : e.val = v0) (hf : (f e).key = k ∧ (f e).val = v)
    (hp : (l.map fun x => (x.key, x.val)).Perm ((k, v0) :: R)) : ((l.modify j f).map fun x => (x.key, x.val)).Perm ((k, v) :: R) := by
  obtain ⟨hj, hje⟩ := List.getElem?_eq_some_iff.1 he
  have e1 : l = l.take j ++ e :: l.drop (j + 1) := by rw [← hje]; simp
  have e2 : l.modify j f = l.take j ++ f e :: l.drop (j + 1) := by
    refine List.ext_getElem? fun i => ?_
    rw [List.getElem?_modify]
    by_cases hij : j = i
    · subst hij
      rw [he, List.getElem?_append_right (by simp; omega)]
      simp [Nat.min_eq_left (Nat.le_of_lt hj)]
    · simp only [if_neg hij, Option.map_eq_map, Option.map_id']
      by_cases hlt : i < j
      · rw [List.getElem?_append_left (by simp; omega), List.getElem?_take, if_pos hlt]
      · rw [List.getElem?_append_right (by simp; omega)]
        obtain ⟨m, hm⟩ : ∃ m, i - min j l.length = m + 1 := ⟨i - min j l.length - 1, by omega⟩
        rw [List.length_take, hm, List.getElem?_cons_succ, List.getElem?_drop]
        rw [show j + 1 + m = i from by omega]
  have h1 : (l.map fun x => (x.key, x.val)).Perm ((k, v0) :: ((l.take j ++ l.drop (j + 1)).map fun x => (x.key, x.val))) := by
    conv => lhs; rw [e1]
    simp only [List.map_append, List.map_cons, hek, hev]
    exact List.perm_middle
  have h2 := (h1.symm.trans hp).cons_inv
  rw [e2]
  simp only [List.map_append, List.map_cons, hf.1, hf.2]
  refine List.perm_middle.trans (List.Perm.cons _ ?_)
  simpa using h2

theorem erase_perm {l : List MapEntry} {k v0 : Value} {R : List (Value × Value)} {j : Nat} {e : MapEntry} (he : l[j]? = some e) (hek : e.key = k) (hev : e.val = v0)
    (hp : (l.map fun x => (x.key, x.val)).Perm ((k, v0) :: R)) : ((l.eraseIdx j).map fun x => (x.key, x.val)).Perm R := by
  obtain ⟨hj, hje⟩ := List.getElem?_eq_some_iff.1 he
  have e1 : l = l.take j ++ e :: l.drop (j + 1) := by rw [← hje]; simp
  have h1 : (l.map fun x => (x.key, x.val)).Perm ((k, v0) :: ((l.take j ++ l.drop (j + 1)).map fun x => (x.key, x.val))) := by
    conv => lhs; rw [e1]
    simp only [List.map_append, List.map_cons, hek, hev]
    exact List.perm_middle
  rw [List.eraseIdx_eq_take_drop_succ]
  exact (h1.symm.trans hp).cons_inv

/-- the entry that is found at a key of M -/
theorem MapOf.found (h : MapOf w d b ((k, v) :: M)) {es : Array MapEntry} {c : Nat} (h1 : w.heap[b]? = some (.map es c)) {e : MapEntry} (he : e ∈ es.toList) (hk : e.key = k) : e.val = v := by
  have hnd := h.nodup
  obtain ⟨es', c', h1', h2, h3, h4⟩ := h
  rw [h1] at h1'
  obtain ⟨rfl, rfl⟩ : es = es' ∧ c = c' := by injection h1' with h; injection h with h h'; exact ⟨h, h'⟩
  have hm : (e.key, e.val) ∈ (k, v) :: M := h4.mem_iff.1 (List.mem_map.2 ⟨e, he, rfl⟩)
  rw [hk] at hm
  exact one_elem hnd hm (.head _)

/-- a store at a key that is there -/
theorem MapOf.run_set (h : MapOf w d b ((k, v) :: M)) (hm : P.underlying t = some (.map kt et)) (hd : P.underlying kt = some d) (u : Value) :
    ∃ w', (Instr.mapUpdate t (.map (some b)) k u).run P w = .ok () w' ∧ MapOf w' d b ((k, u) :: M) ∧ Fr (fun i => i = b) w w' := by
  have hk : IsKey d k := h.isKey (k, v) (.head _)
  have h' := h
  obtain ⟨es, c, h1, h2, h3, h4⟩ := h
  rcases findNow_spec hk es.toList 0 h3 with ⟨f1, f2⟩ | ⟨j, e, f1, f2, f3⟩
  · obtain ⟨x, hx, hxe⟩ := List.mem_map.1 (h4.mem_iff.2 (.head _))
    simp only [Prod.mk.injEq] at hxe
    exact absurd hxe.1 (f2 x hx)
  · have hj : es[j]? = some e := by simpa using f2
    have hkey : ∀ e', es[j]? = some e' → ({ e' with key := k, val := u } : MapEntry).key = e'.key := fun e' he' => by rw [hj] at he'; cases he'; exact f3.symm
    refine ⟨{ w with heap := w.heap.setIfInBounds b (.map (es.modify j fun e => { e with key := k, val := u }) c) }, by simp [Instr.mapUpdate, run_underlying hm, MapKept.run_getObj_map h1, run_checkKey hd hk, run_findKey hd f1, hj, f3, run_keyThatStays hk, run_setObj_map _ h1, Result.andThen],
      ⟨_, _, (heap_set h1).1, stamped_modify h2 _ _ (fun _ _ => rfl) (fun e' _ he' => hkey e' he'), isKey_modify h3 _ _ hkey, ?_⟩, fr_setObj _⟩
    rw [Array.toList_modify]
    exact modify_perm _ f2 f3 (h'.found h1 (List.mem_of_getElem? f2) f3) ⟨rfl, rfl⟩ h4

/-- a store at a new key -/
theorem MapOf.run_add (h : MapOf w d b M) (hm : P.underlying t = some (.map kt et)) (hd : P.underlying kt = some d) (hk : IsKey d k) (hin : ∀ p ∈ M, p.1 ≠ k) (u : Value) :
    ∃ w', (Instr.mapUpdate t (.map (some b)) k u).run P w = .ok () w' ∧ MapOf w' d b ((k, u) :: M) ∧ Fr (fun i => i = b) w w' := by
  obtain ⟨es, c, h1, h2, h3, h4⟩ := h
  rcases findNow_spec hk es.toList 0 h3 with ⟨f1, f2⟩ | ⟨j, e, f1, f2, f3⟩
  · refine ⟨{ w with heap := w.heap.setIfInBounds b (.map (es.push { key := k, val := u, born := c }) (c + 1)) }, by simp [Instr.mapUpdate, run_underlying hm, MapKept.run_getObj_map h1, run_checkKey hd hk, run_findKey hd f1, run_setObj_map _ h1, Result.andThen],
      ⟨_, _, (heap_set h1).1, stamped_push h2 f2, ?_, ?_⟩, fr_setObj _⟩
    · intro x hx
      simp only [Array.toList_push, List.mem_append, List.mem_singleton] at hx
      rcases hx with hx | rfl
      · exact h3 x hx
      · exact hk
    · rw [Array.toList_push, List.map_append]
      exact (List.perm_append_singleton _ _).trans (h4.cons _)
  · exact absurd f3 (hin _ (h4.mem_iff.1 (List.mem_map.2 ⟨e, List.mem_of_getElem? f2, rfl⟩)))

theorem MapOf.run_del (h : MapOf w d b ((k, v) :: M)) (hm : P.underlying t = some (.map kt et)) (hd : P.underlying kt = some d) (ty : TypeId) :
    ∃ w', (Builtin.delete_ #[t, kt] ty #[.map (some b), k]).run P w = .ok (.tuple #[]) w' ∧ MapOf w' d b M ∧ Fr (fun i => i = b) w w' := by
  have hk : IsKey d k := h.isKey (k, v) (.head _)
  have h' := h
  obtain ⟨es, c, h1, h2, h3, h4⟩ := h
  have hsub : ∀ i, ∀ x ∈ (es.eraseIdxIfInBounds i).toList, IsKey d x.key := by
    intro i x hx
    have hs' : (es.eraseIdxIfInBounds i).toList.Sublist es.toList := by
      unfold Array.eraseIdxIfInBounds
      split
      · simp only [Array.toList_eraseIdx]; exact List.eraseIdx_sublist _ _
      · exact List.Sublist.refl _
    exact h3 x (hs'.subset hx)
  rcases findNow_spec hk es.toList 0 h3 with ⟨f1, f2⟩ | ⟨j, e, f1, f2, f3⟩
  · obtain ⟨x, hx, hxe⟩ := List.mem_map.1 (h4.mem_iff.2 (.head _))
    simp only [Prod.mk.injEq] at hxe
    exact absurd hxe.1 (f2 x hx)
  · refine ⟨{ w with heap := w.heap.setIfInBounds b (.map (es.eraseIdxIfInBounds (0 + j)) c) }, by simp [Builtin.delete_, run_underlying hm, MapKept.run_getObj_map h1, run_checkKey hd hk, run_findKey hd f1, run_setObj_map _ h1, Result.andThen],
      ⟨_, _, (heap_set h1).1, stamped_erase h2 _, hsub _, ?_⟩, fr_setObj _⟩
    have hjl : j < es.size := by have := (List.getElem?_eq_some_iff.1 f2).1; simpa using this
    have e1 : (es.eraseIdxIfInBounds (0 + j)).toList = es.toList.eraseIdx j := by
      unfold Array.eraseIdxIfInBounds
      rw [dif_pos (by omega)]
      simp
    have := erase_perm f2 f3 (h'.found h1 (List.mem_of_getElem? f2) f3) h4
    rw [← e1] at this
    simpa using this

theorem MapOf.run_del_none (h : MapOf w d b M) (hm : P.underlying t = some (.map kt et)) (hd : P.underlying kt = some d) (hk : IsKey d k) (hin : ∀ p ∈ M, p.1 ≠ k) (ty : TypeId) :
    ∃ w', (Builtin.delete_ #[t, kt] ty #[.map (some b), k]).run P w = .ok (.tuple #[]) w' ∧ MapOf w' d b M ∧ Fr (fun i => i = b) w w' := by
  obtain ⟨es, c, h1, h2, h3, h4⟩ := h
  rcases findNow_spec hk es.toList 0 h3 with ⟨f1, f2⟩ | ⟨j, e, f1, f2, f3⟩
  · exact ⟨{ w with heap := w.heap.setIfInBounds b (.map es c) }, by simp [Builtin.delete_, run_underlying hm, MapKept.run_getObj_map h1, run_checkKey hd hk, run_findKey hd f1, run_setObj_map _ h1, Result.andThen],
      ⟨_, _, (heap_set h1).1, h2, h3, h4⟩, fr_setObj _⟩
  · exact absurd f3 (hin _ (h4.mem_iff.1 (List.mem_map.2 ⟨e, List.mem_of_getElem? f2, rfl⟩)))
end

/-! ### at the operation, for the walk -/
section
variable {P : Program} {w : World} {ops : Array Oper} {rest : List Oper} {o : Oper} {a : Act} {Q : Exit → Act → World → Prop} {d : TypeDesc} {b : Nat} {M : List (Value × Value)} {key v val : Value}

theorem wpList_map_set (hg : o.guard = none) (m x u : Operand) (t : TypeId) (hop : o.op = Op.mapUpdate t m x u) (kt et : TypeId) (hm : P.underlying t = some (.map kt et)) (hd : P.underlying kt = some d)
    (ha : a.eval m = .map (some b)) (hx : a.eval x = key) (hv : a.eval u = val) (h : MapOf w d b ((key, v) :: M))
    (hK : ∀ w', MapOf w' d b ((key, val) :: M) → Fr (fun i => i = b) w w' → wpList P ops Q rest (a.put o.dst undef) w') : wpList P ops Q (o :: rest) a w := by
  refine wpList_plain hg fun K' hK' => ?_
  obtain ⟨w', hrun, r1, r2⟩ := h.run_set hm hd val
  unfold Oper.wp
  simp [execOp, hop, ha, hx, hv, hrun, Result.andThen]
  exact hK' _ _ (hK w' r1 r2)
theorem wpList_map_add (hg : o.guard = none) (m x u : Operand) (t : TypeId) (hop : o.op = Op.mapUpdate t m x u) (kt et : TypeId) (hm : P.underlying t = some (.map kt et)) (hd : P.underlying kt = some d)
    (ha : a.eval m = .map (some b)) (hx : a.eval x = key) (hv : a.eval u = val) (h : MapOf w d b M) (hk : IsKey d key) (hin : ∀ p ∈ M, p.1 ≠ key)
    (hK : ∀ w', MapOf w' d b ((key, val) :: M) → Fr (fun i => i = b) w w' → wpList P ops Q rest (a.put o.dst undef) w') : wpList P ops Q (o :: rest) a w := by
  refine wpList_plain hg fun K' hK' => ?_
  obtain ⟨w', hrun, r1, r2⟩ := h.run_add hm hd hk hin val
  unfold Oper.wp
  simp [execOp, hop, ha, hx, hv, hrun, Result.andThen]
  exact hK' _ _ (hK w' r1 r2)
theorem wpList_map_del (hg : o.guard = none) (m x : Operand) (t kt : TypeId) (hop : o.op = Op.call { callee := Callee.builtin Builtin.delete, args := #[m, x], argTypes := #[t, kt] }) (et : TypeId) (hm : P.underlying t = some (.map kt et)) (hd : P.underlying kt = some d)
    (ha : a.eval m = .map (some b)) (hx : a.eval x = key) (h : MapOf w d b ((key, v) :: M))
    (hK : ∀ w', MapOf w' d b M → Fr (fun i => i = b) w w' → wpList P ops Q rest (a.put o.dst (.tuple #[])) w') : wpList P ops Q (o :: rest) a w := by
  refine wpList_plain hg fun K' hK' => ?_
  obtain ⟨w', hrun, r1, r2⟩ := h.run_del hm hd o.type
  unfold Oper.wp
  simp [execOp, hop, ha, hx, resolve, invoke, builtin, hrun, Result.andThen]
  exact hK' _ _ (hK w' r1 r2)
end
end Go.Proofs.YtgmghopcppniaaaGreatDoor
