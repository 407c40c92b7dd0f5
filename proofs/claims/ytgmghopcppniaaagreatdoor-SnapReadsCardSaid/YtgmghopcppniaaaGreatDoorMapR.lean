/- Ranging over a map in memory: what is left is a list of entries; the step takes one of them, whichever the tape says. -/
import Derived.Test.YtgmghopcppniaaaGreatDoorMaps
import Derived.Maps.RangeRun
import Derived.Maps.RangeWalk
namespace Go.Proofs.YtgmghopcppniaaaGreatDoor
open Go.RowKit Go.Lib Go.MapKept
open Go.ChangeMaps (setBlock)

def kvs (l : List MapEntry) : List (Value × Value) := l.map fun x => (x.key, x.val)
def MRange (w : World) (d : TypeDesc) (b r : Nat) (M rest : List (Value × Value)) : Prop :=
  ∃ es clock since seen c0, w.heap[b]? = some (.map es clock) ∧ Stamped es clock ∧ (∀ x ∈ es.toList, IsKey d x.key) ∧ (kvs es.toList).Perm M ∧
    w.heap[r]? = some (.mapIter (some b) since seen c0) ∧ (∀ x ∈ es.toList, x.born < since) ∧ since ≤ c0 ∧ since ≤ clock ∧ (kvs (leftOf es seen).toList).Perm rest

theorem born_perm {e : MapEntry} : ∀ {L : List MapEntry}, (L.map (·.born)).Nodup → e ∈ L → L.Perm (e :: L.filter fun x => !(x.born == e.born))
  | [], _, h => by cases h
  | x :: L, hn, h => by
    rw [List.map_cons, List.nodup_cons] at hn
    rcases List.mem_cons.1 h with rfl | h
    · rw [List.filter_cons, if_neg (by simp)]
      have : L.filter (fun x => !(x.born == e.born)) = L := by
        rw [List.filter_eq_self]
        intro y hy
        have : y.born ≠ e.born := fun h => hn.1 (h ▸ List.mem_map.2 ⟨y, hy, rfl⟩)
        simpa using this
      rw [this]
    · have hne : x.born ≠ e.born := fun h2 => hn.1 (h2 ▸ List.mem_map.2 ⟨e, h, rfl⟩)
      rw [List.filter_cons, if_pos (by simpa using hne)]
      exact ((born_perm hn.2 h).cons x).trans (List.Perm.swap ..)

section
variable {w w' : World} {d : TypeDesc} {b r : Nat} {M rest : List (Value × Value)} {P : Program} {t kt et : TypeId}
theorem MRange.map (h : MRange w d b r M rest) : MapOf w d b M := let ⟨es, c, _, _, _, h1, h2, h3, h4, _⟩ := h; ⟨es, c, h1, h2, h3, h4⟩
theorem MRange.keep (h : MRange w d b r M rest) (hb : w'.heap[b]? = w.heap[b]?) (hr : w'.heap[r]? = w.heap[r]?) : MRange w' d b r M rest :=
  let ⟨es, c, s, n, c0, h1, h2, h3, h4, h5, h6⟩ := h; ⟨es, c, s, n, c0, hb.trans h1, h2, h3, h4, hr.trans h5, h6⟩
theorem MRange.drew (h : MRange w d b r M rest) (n : Nat) : MRange (w.drewN n) d b r M rest := h.keep rfl rfl
theorem MRange.sub (h : MRange w d b r M rest) : ∀ p ∈ rest, p ∈ M := by
  obtain ⟨es, c, s, n, c0, h1, h2, h3, h4, h5, h6, h7, _, h8⟩ := h
  intro p hp
  obtain ⟨x, hx, rfl⟩ := List.mem_map.1 (h8.mem_iff.2 hp)
  unfold leftOf at hx
  rw [Array.toList_filter] at hx
  exact h4.mem_iff.1 (List.mem_map.2 ⟨x, (List.mem_filter.1 hx).1, rfl⟩)

theorem MapOf.run_range (h : MapOf w d b M) (hm : P.underlying t = some (.map kt et)) :
    ∃ w', (Instr.range t (.map (some b))).run P w = .ok (.pointer (some ⟨w.heap.size, 0, none⟩)) w' ∧ MRange w' d b w.heap.size M M ∧ Fr (fun _ => False) w w' ∧ w'.heap.size = w.heap.size + 1 := by
  have hlt := h.lt
  obtain ⟨es, c, h1, h2, h3, h4⟩ := h
  refine ⟨_, run_range_map w t kt et b es c hm h1, ⟨es, c, c, #[], c, block_old h1 _, h2, h3, h4, block_new _ _, h2.1, Nat.le_refl _, Nat.le_refl _, ?_⟩, (Fr.refl _ _).alloc _, by simp⟩
  have : (leftOf es #[]) = es := by unfold leftOf; simp
  rw [this]
  exact h4

theorem MRange.run_next (h : MRange w d b r M rest) (ty : TypeId) :
    (rest = [] ∧ (Instr.next (.pointer (some ⟨r, 0, none⟩)) false ty).run P w = .ok (.tuple #[.bool false]) w) ∨
    ∃ k v w' rest', rest.Perm ((k, v) :: rest') ∧ (Instr.next (.pointer (some ⟨r, 0, none⟩)) false ty).run P w = .ok (.tuple #[.bool true, k, v]) w' ∧ MRange w' d b r M rest' ∧ Fr (fun i => i = r) w w' ∧
      (Instr.entry (.pointer (some ⟨r, 0, none⟩))).run P w' = .ok (.tuple #[k, v]) w' ∧ w'.heap.size = w.heap.size := by
  obtain ⟨es, c, since, seen, c0, h1, h2, h3, h4, h5, h6, h7, h7', h8⟩ := h
  have hne : r ≠ b := by rintro rfl; rw [h1] at h5; cases h5
  rcases run_next_at (P := P) w ty r b since c0 seen es c h5 h1 h6 h7 with ⟨h0, hrun⟩ | ⟨e, he, w1, hal, hrun⟩
  · refine .inl ⟨?_, hrun⟩
    have : (leftOf es seen).toList = [] := by rw [← List.length_eq_zero_iff]; simpa using h0
    rw [this] at h8
    exact List.Perm.eq_nil h8.symm
  · have hr1 : w1.heap[r]? = some (.mapIter (some b) since seen c0) := by rcases hal with rfl | rfl <;> exact h5
    have hb1 : w1.heap[b]? = some (.map es c) := by rcases hal with rfl | rfl <;> exact h1
    have hset := heap_set (o' := .mapIter (some b) since (seen.push e.born) c) hr1
    have hb' : (setBlock w1 r (.mapIter (some b) since (seen.push e.born) c)).heap[b]? = some (.map es c) := (hset.2 b (fun e1 => hne e1.symm)).trans hb1
    have hem : e ∈ es.toList := by
      unfold leftOf at he; rw [Array.toList_filter] at he; exact (List.mem_filter.1 he).1
    have hnd : ((leftOf es seen).toList.map (·.born)).Nodup := by
      unfold leftOf; rw [Array.toList_filter]
      exact h2.2.1.sublist (List.filter_sublist.map _)
    have hleft : (leftOf es (seen.push e.born)).toList = (leftOf es seen).toList.filter fun x => !(x.born == e.born) := by
      unfold leftOf
      rw [Array.toList_filter, Array.toList_filter, List.filter_filter]
      refine List.filter_congr fun x _ => ?_
      show (!(seen.push e.born).contains x.born) = _
      rw [contains_push]
      cases seen.contains x.born <;> cases (x.born == e.born) <;> rfl
    have hp : (kvs (leftOf es seen).toList).Perm ((e.key, e.val) :: kvs (leftOf es (seen.push e.born)).toList) := by
      have := (born_perm hnd he).map fun x : MapEntry => (x.key, x.val)
      rw [hleft]
      exact this
    refine .inr ⟨e.key, e.val, _, kvs (leftOf es (seen.push e.born)).toList, h8.symm.trans hp, hrun,
      ⟨es, c, since, seen.push e.born, c, hb', h2, h3, h4, hset.1, h6, h7', h7', .refl _⟩, ?_, run_entry_at _ r b since seen es c e hset.1 hb' hem h2.2.1, ?_⟩
    · refine ⟨?_, ?_, ?_, ?_, fun k _ hk => ?_⟩
      · rcases hal with rfl | rfl <;> rfl
      · rcases hal with rfl | rfl <;> rfl
      · rcases hal with rfl | rfl <;> rfl
      · rcases hal with rfl | rfl <;> simp [setBlock]
      · have := hset.2 k hk
        rcases hal with rfl | rfl <;> exact this
    · rcases hal with rfl | rfl <;> simp [setBlock]
end

/-! ### at the operation, for the walk -/
section
variable {P : Program} {w : World} {ops : Array Oper} {rest : List Oper} {o : Oper} {a : Act} {Q : Exit → Act → World → Prop} {d : TypeDesc} {b r : Nat} {M L : List (Value × Value)}
theorem wpList_map_range (hg : o.guard = none) (m : Operand) (t : TypeId) (hop : o.op = Op.range t m) (kt et : TypeId) (hm : P.underlying t = some (.map kt et)) (ha : a.eval m = .map (some b)) (h : MapOf w d b M)
    (hK : ∀ w', MRange w' d b w.heap.size M M → Fr (fun _ => False) w w' → w'.heap.size = w.heap.size + 1 → wpList P ops Q rest (a.put o.dst (.pointer (some ⟨w.heap.size, 0, none⟩))) w') : wpList P ops Q (o :: rest) a w := by
  refine wpList_plain hg fun K' hK' => ?_
  obtain ⟨w', hrun, r1, r2, r3⟩ := h.run_range hm
  unfold Oper.wp
  simp [execOp, hop, ha, hrun, Result.andThen]
  exact hK' _ _ (hK w' r1 r2 r3)
theorem wpList_map_next (hg : o.guard = none) (it : Operand) (hop : o.op = Op.next it false) (hit : a.eval it = .pointer (some ⟨r, 0, none⟩)) (h : MRange w d b r M L)
    (hDone : L = [] → wpList P ops Q rest (a.put o.dst (.tuple #[.bool false])) w)
    (hMore : ∀ k v w' L', L.Perm ((k, v) :: L') → MRange w' d b r M L' → Fr (fun i => i = r) w w' → (Instr.entry (.pointer (some ⟨r, 0, none⟩))).run P w' = .ok (.tuple #[k, v]) w' → w'.heap.size = w.heap.size → wpList P ops Q rest (a.put o.dst (.tuple #[.bool true, k, v])) w') :
    wpList P ops Q (o :: rest) a w := by
  refine wpList_plain hg fun K' hK' => ?_
  unfold Oper.wp
  rcases h.run_next (P := P) o.type with ⟨h0, hrun⟩ | ⟨k, v, w', L', h1, hrun, h2, h3, h4, h5⟩
  · simp [execOp, hop, hit, hrun, Result.andThen]
    exact hK' _ _ (hDone h0)
  · simp [execOp, hop, hit, hrun, Result.andThen]
    exact hK' _ _ (hMore k v w' L' h1 h2 h3 h4 h5)
end
end Go.Proofs.YtgmghopcppniaaaGreatDoor
