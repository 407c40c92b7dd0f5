/- Two agendas of new memory, beside one another, and memory K that neither owns. -/
import Derived.Test.YtfmkdilllgncfaaL1
namespace Go.Proofs.Ytfmkdilllgncfaa
open Go.RowKit Go.Lib

def Two (w0 w : World) (K : Nat → Prop) (b1 : Nat) (m1 : List (Int × Int)) (b2 : Nat) (m2 : List (Int × Int)) : Prop :=
  ∃ o1 o2, Ag w o1 b1 m1 ∧ Ag w o2 b2 m2 ∧ (∀ k, o1 k → ¬ o2 k) ∧ (∀ k, o1 k → w0.heap.size ≤ k) ∧ (∀ k, o2 k → w0.heap.size ≤ k) ∧ Fr (fun _ => False) w0 w ∧ (∀ k, K k → k < w.heap.size ∧ ¬ o1 k ∧ ¬ o2 k)

section
variable {w0 w : World} {K : Nat → Prop} {b1 b2 : Nat} {m1 m2 : List (Int × Int)}
theorem Two.symm (h : Two w0 w K b1 m1 b2 m2) : Two w0 w K b2 m2 b1 m1 := by
  obtain ⟨o1, o2, h1, h2, h3, h4, h5, h6, h7⟩ := h
  exact ⟨o2, o1, h2, h1, fun k a b => h3 k b a, h5, h4, h6, fun k hk => ⟨(h7 k hk).1, (h7 k hk).2.2, (h7 k hk).2.1⟩⟩
theorem Two.fr (h : Two w0 w K b1 m1 b2 m2) : Fr (fun _ => False) w0 w := let ⟨_, _, _, _, _, _, _, h6, _⟩ := h; h6
theorem Two.sorted (h : Two w0 w K b1 m1 b2 m2) : Sorted m1 ∧ Sorted m2 := let ⟨_, _, h1, h2, _⟩ := h; ⟨h1.sorted, h2.sorted⟩
theorem Two.drewN (h : Two w0 w K b1 m1 b2 m2) (n : Nat) : Two w0 (w.drewN n) K b1 m1 b2 m2 := by
  obtain ⟨o1, o2, h1, h2, h3, h4, h5, h6, h7⟩ := h
  exact ⟨o1, o2, h1.drewN n, h2.drewN n, h3, h4, h5, h6.drewN n, h7⟩
theorem two_new (h : Mine w0 w b1 m1) : Calls Try.prog 9 #[] w fun e w' => ∃ b2, e = .returned (.pointer (some ⟨b2, 0, none⟩)) ∧ Two w0 w' (fun _ => False) b1 m1 b2 [] := by
  obtain ⟨own, h1, h2, h3⟩ := h
  refine Calls.mono (new_h w) ?_
  rintro e w' ⟨ba, rfl, h4, h5⟩
  have hlt : ∀ k, own k → k < w.heap.size := by obtain ⟨_, _, _, _, _, _, _, _, h6⟩ := h1; exact h6
  exact ⟨ba, rfl, own, _, h1.other h5 fun _ _ h => h, h4, fun k hk hk2 => by have := hlt k hk; omega, h2, fun k hk => Nat.le_trans h3.size hk.1, h3.next h5, fun _ h => h.elim⟩
theorem two_put (h : Two w0 w K b1 m1 b2 m2) (hm : m1.length < 999999) (t id : Int) : Calls Try.prog 16 #[.pointer (some ⟨b1, 0, none⟩), .int .i64 t, .int .i64 id] w fun e w' => e = .returned (.tuple #[]) ∧ Two w0 w' K b1 (putL m1 t id) b2 m2 := by
  obtain ⟨o1, o2, h1, h2, h3, h4, h5, h6, h7⟩ := h
  have hlt : ∀ k, o2 k → k < w.heap.size := by obtain ⟨_, _, _, _, _, _, _, _, h8⟩ := h2; exact h8
  refine Calls.mono (put_m h1 hm t id) ?_
  rintro e w' ⟨rfl, own', h8, h9, h10⟩
  refine ⟨rfl, own', o2, h8, h2.other h10 fun k a b => h3 k b a, fun k a b => ?_, fun k hk => ?_, h5, h6.trans h10 fun i hi => .inr (h4 i hi), fun k hk => ⟨Nat.lt_of_lt_of_le (h7 k hk).1 h10.size, fun a => ?_, (h7 k hk).2.2⟩⟩
  · rcases h9 k a with h | h
    · exact h3 k h b
    · have := hlt k b; omega
  · rcases h9 k hk with h | h
    · exact h4 k h
    · exact Nat.le_trans h6.size h
  · rcases h9 k a with h | h
    · exact (h7 k hk).2.1 h
    · have := (h7 k hk).1; omega
theorem two_len (h : Two w0 w K b1 m1 b2 m2) : Calls Try.prog 19 #[.pointer (some ⟨b1, 0, none⟩)] w fun e w' => e = .returned (.int .i64 m1.length) ∧ w = w' := by
  obtain ⟨o1, o2, h1, _⟩ := h
  exact len_m h1
theorem two_due (h : Two w0 w K b1 m1 b2 m2) (hm : m1.length < 999999) (now : Int) : Calls Try.prog 15 #[.pointer (some ⟨b1, 0, none⟩), .int .i64 now] w fun e w' =>
    ∃ v, e = .returned v ∧ Two w0 w' (fun k => K k ∨ v.ownBlock = some k) b1 (leftL m1 now) b2 m2 ∧ IR w' (fun k => v.ownBlock = some k) v ((dueL m1 now).map (·.2)) ∧ Fr (fun k => ¬ K k) w w' ∧ ∀ k, v.ownBlock = some k → w.heap.size ≤ k := by
  obtain ⟨o1, o2, h1, h2, h3, h4, h5, h6, h7⟩ := h
  have hlt1 : ∀ k, o1 k → k < w.heap.size := by obtain ⟨_, _, _, _, _, _, _, _, h8⟩ := h1; exact h8
  have hlt : ∀ k, o2 k → k < w.heap.size := by obtain ⟨_, _, _, _, _, _, _, _, h8⟩ := h2; exact h8
  refine Calls.mono (due_m h1 hm now) ?_
  rintro e w' ⟨v, rfl, h8, h9, h10⟩
  refine ⟨v, rfl, ⟨o1, o2, h8, h2.other h9 fun k a b => h3 k b a, h3, h4, h5, h6.trans h9 fun i hi => .inr (h4 i hi), fun k hk => ?_⟩, ?_, h9.mono fun k _ hk hK => (h7 k hK).2.1 hk, fun k hk => (h10.lt k hk).1⟩
  · rcases hk with hk | hk
    · exact ⟨Nat.lt_of_lt_of_le (h7 k hk).1 h9.size, (h7 k hk).2⟩
    · have hb := h10.lt k hk
      exact ⟨hb.2, fun a => by have := hlt1 k a; omega, fun a => by have := hlt k a; omega⟩
  · have := SRow.of_owns h10
    unfold IR
    simpa [idsV, List.map_map, Function.comp_def] using this
/-- memory of one's own is made, or written where neither agenda lies -/
theorem Two.mine (h : Two w0 w K b1 m1 b2 m2) {w' : World} {B : Nat} (hB : w.heap.size ≤ B) (hf : Fr (fun k => B ≤ k) w w') : Two w0 w' (fun k => K k ∨ (w.heap.size ≤ k ∧ k < w'.heap.size)) b1 m1 b2 m2 := by
  obtain ⟨o1, o2, h1, h2, h3, h4, h5, h6, h7⟩ := h
  have hlt1 : ∀ k, o1 k → k < w.heap.size := by obtain ⟨_, _, _, _, _, _, _, _, h8⟩ := h1; exact h8
  have hlt : ∀ k, o2 k → k < w.heap.size := by obtain ⟨_, _, _, _, _, _, _, _, h8⟩ := h2; exact h8
  refine ⟨o1, o2, h1.other hf fun k a b => by have := hlt1 k a; omega, h2.other hf fun k a b => by have := hlt k a; omega, h3, h4, h5, h6.trans hf fun i hi => .inr (by have := h6.size; omega), fun k hk => ?_⟩
  rcases hk with hk | hk
  · exact ⟨Nat.lt_of_lt_of_le (h7 k hk).1 hf.size, (h7 k hk).2⟩
  · exact ⟨hk.2, fun a => by have := hlt1 k a; omega, fun a => by have := hlt k a; omega⟩
end

/-! ### the plain law of AgendaSteps -/
theorem due_two (m : List (Int × Int)) {a b : Int} (h : a ≤ b) : dueL m a ++ dueL (leftL m a) b = dueL m b ∧ leftL (leftL m a) b = leftL m b := by
  induction m with
  | nil => exact ⟨rfl, rfl⟩
  | cons p m ih =>
    by_cases hp : p.1 ≤ a
    · rw [(due_head p m a hp).1, (due_head p m a hp).2, (due_head p m b (by omega)).1, (due_head p m b (by omega)).2, ih.2]
      exact ⟨by rw [List.cons_append, ih.1], rfl⟩
    · rw [(due_stop p m a hp).1, (due_stop p m a hp).2]
      exact ⟨rfl, rfl⟩

/-! ### the plain law of AgendaOrders: the puts of a turned row -/
def turned (l : List Int) (s k : Nat) : List (Int × Int) := (List.range k).map fun j => (l.getD ((j + s) % l.length) 0, (((j + s) % l.length : Nat) : Int))
theorem prs_range (l : List Int) {k : Nat} (h : k ≤ l.length) : prs l k = (List.range k).map fun j => (l.getD j 0, (j : Int)) := by
  induction k with
  | zero => simp [prs]
  | succ k ih =>
    rw [prs_succ (p := l.getD k 0) (by simp [List.getD, show k < l.length by omega]), ih (by omega), List.range_succ, List.map_append]
    rfl
theorem turn_mod {n s j : Nat} (hs : s < n) (hj : j < n) : (j + s) % n = if j + s < n then j + s else j + s - n := by
  split
  · exact Nat.mod_eq_of_lt ‹_›
  · rw [Nat.mod_eq_sub_mod (by omega), Nat.mod_eq_of_lt (by omega)]
theorem turn_perm {n s : Nat} (hs : s < n) : ((List.range n).map fun j => (j + s) % n).Perm (List.range n) := by
  have e1 : List.range n = List.range (n - s) ++ (List.range s).map (fun x => (n - s) + x) := by rw [← List.range_add]; congr 1; omega
  have e2 : List.range n = List.range s ++ (List.range (n - s)).map (fun x => s + x) := by rw [← List.range_add]; congr 1; omega
  conv => lhs; rw [e1]
  rw [List.map_append, List.map_map]
  have e3 : (List.range (n - s)).map (fun j => (j + s) % n) = (List.range (n - s)).map (fun x => s + x) := by
    refine List.map_congr_left fun j hj => ?_
    rw [List.mem_range] at hj
    rw [turn_mod hs (by omega), if_pos (by omega)]
    omega
  have e4 : (List.range s).map ((fun j => (j + s) % n) ∘ fun x => (n - s) + x) = List.range s := by
    conv => rhs; rw [← List.map_id (List.range s)]
    refine List.map_congr_left fun j hj => ?_
    rw [List.mem_range] at hj
    simp only [Function.comp, id]
    rw [turn_mod hs (by omega), if_neg (by omega)]
    omega
  rw [e3, e4]
  conv => rhs; rw [e2]
  exact List.perm_append_comm
theorem turned_perm {l : List Int} {s : Nat} (hs : s < l.length) : (turned l s l.length).Perm (prs l l.length) := by
  rw [prs_range l (Nat.le_refl _)]
  have := (turn_perm hs).map fun j => (l.getD j 0, (j : Int))
  rwa [List.map_map] at this
theorem turned_put {l : List Int} {s k : Nat} {m : List (Int × Int)} (hs : s < l.length) (hk : k < l.length) (hm : m.Perm (turned l s k)) : (putL m (l.getD ((k + s) % l.length) 0) (((k + s) % l.length : Nat) : Int)).Perm (turned l s (k + 1)) := by
  unfold putL
  refine (insL_perm _ _).trans ?_
  have e : turned l s (k + 1) = turned l s k ++ [(l.getD ((k + s) % l.length) 0, (((k + s) % l.length : Nat) : Int))] := by
    unfold turned; rw [List.range_succ, List.map_append]; rfl
  rw [e, dropL_of_not]
  · exact (hm.cons _).trans (List.perm_append_singleton _ _).symm
  · intro q hq hne
    obtain ⟨j, hj, rfl⟩ := List.mem_map.1 (hm.mem_iff.1 hq)
    rw [List.mem_range] at hj
    simp only at hne
    rw [turn_mod hs hk, turn_mod hs (by omega)] at hne
    split at hne <;> split at hne <;> omega
theorem turned_length (l : List Int) (s k : Nat) : (turned l s k).length = k := by simp [turned]
end Go.Proofs.Ytfmkdilllgncfaa
