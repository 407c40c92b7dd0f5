/- Files by rising names: what is found, put in, taken out, in plain words. -/
import Derived.WalkKit
namespace Go.Proofs.YtfcnjbkoneinpaaDoor

structure FileD where
  name : List UInt8
  bytes : List UInt8
  synced : Nat

def Sorted (l : List FileD) : Prop := l.Pairwise fun f g => f.name < g.name
def getF (l : List FileD) (n : List UInt8) : Option FileD := l.find? fun f => decide (f.name = n)
def delF (l : List FileD) (n : List UInt8) : List FileD := l.filter fun f => !decide (f.name = n)
def posF (l : List FileD) (n : List UInt8) : Nat := (l.takeWhile fun f => decide (f.name < n)).length
def putF : List FileD → FileD → List FileD
  | [], f => [f]
  | g :: t, f => if g.name = f.name then f :: t else if g.name < f.name then g :: putF t f else f :: g :: t
def total (l : List FileD) : Nat := (l.map fun f => f.bytes.length).sum

theorem str_lt_irrefl {a : List UInt8} : ¬ a < a := List.lt_irrefl a
theorem str_lt_trans {a b c : List UInt8} (h : a < b) (k : b < c) : a < c := List.lt_trans h k
theorem str_lt_ne {a b : List UInt8} (h : a < b) : a ≠ b := by rintro rfl; exact str_lt_irrefl h
theorem str_tri {a b : List UInt8} (h : ¬ a < b) (k : a ≠ b) : b < a := by
  by_cases h2 : b < a
  · exact h2
  · exact absurd (List.le_antisymm (List.not_lt.1 h2) (List.not_lt.1 h)) k

section
variable {l : List FileD} {n m : List UInt8} {f g : FileD}
theorem sorted_cons : Sorted (f :: l) ↔ (∀ g ∈ l, f.name < g.name) ∧ Sorted l := List.pairwise_cons
theorem get_cons : getF (f :: l) n = if f.name = n then some f else getF l n := by
  unfold getF; rw [List.find?_cons]; by_cases h : f.name = n <;> simp [h]
theorem del_cons : delF (f :: l) n = if f.name = n then delF l n else f :: delF l n := by
  unfold delF; rw [List.filter_cons]; by_cases h : f.name = n <;> simp [h]
theorem get_mem (h : getF l n = some f) : f ∈ l ∧ f.name = n := by
  unfold getF at h
  exact ⟨List.mem_of_find?_eq_some h, by simpa using List.find?_some h⟩
theorem get_none : getF l n = none ↔ ∀ f ∈ l, f.name ≠ n := by
  unfold getF; rw [List.find?_eq_none]; simp
theorem get_of_mem (hs : Sorted l) (hf : f ∈ l) (hn : f.name = n) : getF l n = some f := by
  induction l with
  | nil => cases hf
  | cons g t ih =>
    rw [sorted_cons] at hs
    rw [get_cons]
    rcases List.mem_cons.1 hf with rfl | h
    · rw [if_pos hn]
    · rw [if_neg (by rintro rfl; exact str_lt_irrefl (hn ▸ hs.1 f h)), ih hs.2 h]
theorem mem_del : f ∈ delF l n ↔ f ∈ l ∧ f.name ≠ n := by unfold delF; rw [List.mem_filter]; simp
theorem del_sorted (hs : Sorted l) (n : List UInt8) : Sorted (delF l n) := List.Pairwise.sublist List.filter_sublist hs
theorem del_none (h : getF l n = none) : delF l n = l := by
  unfold delF; rw [List.filter_eq_self]; intro f hf; simpa using get_none.1 h f hf
theorem get_del : getF (delF l n) m = if m = n then none else getF l m := by
  induction l with
  | nil => simp [delF, getF]
  | cons g t ih =>
    rw [del_cons, get_cons]
    by_cases h : g.name = n
    · rw [if_pos h, ih]
      by_cases h2 : m = n
      · rw [if_pos h2, if_pos h2]
      · rw [if_neg h2, if_neg h2, if_neg (by rw [h]; exact fun e => h2 e.symm)]
    · rw [if_neg h, get_cons, ih]
      by_cases h3 : g.name = m
      · rw [if_pos h3, if_pos h3, if_neg (by rw [← h3]; exact h)]
      · rw [if_neg h3, if_neg h3]
theorem mem_put (hs : Sorted l) : g ∈ putF l f ↔ g = f ∨ (g ∈ l ∧ g.name ≠ f.name) := by
  induction l with
  | nil => simp [putF]
  | cons h t ih =>
    rw [sorted_cons] at hs
    unfold putF
    by_cases e : h.name = f.name
    · rw [if_pos e, List.mem_cons, List.mem_cons]
      constructor
      · rintro (rfl | k)
        · exact .inl rfl
        · exact .inr ⟨.inr k, fun e2 => str_lt_irrefl (show g.name < g.name from by have := hs.1 g k; rw [e, ← e2] at this; exact this)⟩
      · rintro (rfl | ⟨rfl | k, ne⟩)
        · exact .inl rfl
        · exact absurd e ne
        · exact .inr k
    · rw [if_neg e]
      by_cases lt : h.name < f.name
      · rw [if_pos lt, List.mem_cons, ih hs.2, List.mem_cons]
        constructor
        · rintro (rfl | rfl | ⟨k, ne⟩); exact .inr ⟨.inl rfl, e⟩; exact .inl rfl; exact .inr ⟨.inr k, ne⟩
        · rintro (rfl | ⟨rfl | k, ne⟩); exact .inr (.inl rfl); exact .inl rfl; exact .inr (.inr ⟨k, ne⟩)
      · rw [if_neg lt, List.mem_cons]
        have hlt := str_tri lt e
        constructor
        · rintro (rfl | k)
          · exact .inl rfl
          · refine .inr ⟨k, ?_⟩
            rcases List.mem_cons.1 k with rfl | k2
            · exact e
            · exact fun e2 => str_lt_irrefl (str_lt_trans hlt (e2 ▸ hs.1 g k2))
        · rintro (rfl | ⟨k, _⟩); exact .inl rfl; exact .inr k
theorem put_sorted (hs : Sorted l) (f : FileD) : Sorted (putF l f) := by
  induction l with
  | nil => simp [putF, Sorted]
  | cons h t ih =>
    have hs' := sorted_cons.1 hs
    unfold putF
    by_cases e : h.name = f.name
    · rw [if_pos e, sorted_cons]
      exact ⟨fun g hg => e ▸ hs'.1 g hg, hs'.2⟩
    · rw [if_neg e]
      by_cases lt : h.name < f.name
      · rw [if_pos lt, sorted_cons]
        refine ⟨fun g hg => ?_, ih hs'.2⟩
        rcases (mem_put hs'.2).1 hg with rfl | ⟨k, _⟩
        · exact lt
        · exact hs'.1 g k
      · rw [if_neg lt, sorted_cons]
        have hlt := str_tri lt e
        refine ⟨fun g hg => ?_, hs⟩
        rcases List.mem_cons.1 hg with rfl | k
        · exact hlt
        · exact str_lt_trans hlt (hs'.1 g k)
theorem get_put (hs : Sorted l) : getF (putF l f) m = if m = f.name then some f else getF l m := by
  by_cases h : m = f.name
  · rw [if_pos h]
    exact get_of_mem (put_sorted hs f) ((mem_put hs).2 (.inl rfl)) h.symm
  · rw [if_neg h]
    cases hg : getF l m with
    | none => exact get_none.2 fun g hgm => by rcases (mem_put hs).1 hgm with rfl | ⟨k, _⟩; exact fun e => h e.symm; exact get_none.1 hg g k
    | some g =>
      obtain ⟨h1, h2⟩ := get_mem hg
      exact get_of_mem (put_sorted hs f) ((mem_put hs).2 (.inr ⟨h1, by rw [h2]; exact h⟩)) h2

theorem get_perm (hs : Sorted l) (h : getF l n = some f) : l.Perm (f :: delF l n) := by
  induction l with
  | nil => cases h
  | cons g t ih =>
    have hs' := sorted_cons.1 hs
    rw [get_cons] at h
    rw [del_cons]
    by_cases e : g.name = n
    · rw [if_pos e] at h ⊢
      obtain rfl := Option.some.inj h
      rw [del_none (get_none.2 fun x hx => by rw [← e]; exact (str_lt_ne (hs'.1 x hx)).symm)]
    · rw [if_neg e] at h ⊢
      exact ((ih hs'.2 h).cons g).trans (List.Perm.swap ..)
theorem put_perm (hs : Sorted l) (f : FileD) : (putF l f).Perm (f :: delF l f.name) := by
  induction l with
  | nil => simp [putF, delF]
  | cons g t ih =>
    have hs' := sorted_cons.1 hs
    unfold putF
    rw [del_cons]
    by_cases e : g.name = f.name
    · rw [if_pos e, if_pos e, del_none (get_none.2 fun x hx => by rw [← e]; exact (str_lt_ne (hs'.1 x hx)).symm)]
    · rw [if_neg e, if_neg e]
      by_cases lt : g.name < f.name
      · rw [if_pos lt]
        exact ((ih hs'.2).cons g).trans (List.Perm.swap ..)
      · rw [if_neg lt]
        have hlt := str_tri lt e
        rw [del_none (get_none.2 fun x hx => by
          exact (str_lt_ne (str_lt_trans hlt (hs'.1 x hx))).symm)]

/-! ### sizes -/
theorem total_perm {l m : List FileD} (h : l.Perm m) : total l = total m := (h.map _).sum_nat
theorem total_cons : total (f :: l) = f.bytes.length + total l := by simp [total]
theorem total_get (hs : Sorted l) (h : getF l n = some f) : total l = f.bytes.length + total (delF l n) := by
  rw [total_perm (get_perm hs h), total_cons]
theorem total_put (hs : Sorted l) (f : FileD) : total (putF l f) = f.bytes.length + total (delF l f.name) := by
  rw [total_perm (put_perm hs f), total_cons]
theorem del_total_le (l : List FileD) (n : List UInt8) : total (delF l n) ≤ total l := by
  induction l with
  | nil => simp [delF]
  | cons g t ih => rw [del_cons]; split <;> simp only [total_cons] <;> omega
theorem len_get (hs : Sorted l) (h : getF l n = some f) : l.length = (delF l n).length + 1 := by
  rw [(get_perm hs h).length_eq, List.length_cons]
theorem len_put (hs : Sorted l) (f : FileD) : (putF l f).length = (delF l f.name).length + 1 := by
  rw [(put_perm hs f).length_eq, List.length_cons]
theorem del_len_le (l : List FileD) (n : List UInt8) : (delF l n).length ≤ l.length := List.length_filter_le _ _
theorem mem_total (h : f ∈ l) : f.bytes.length ≤ total l := by
  induction l with
  | nil => cases h
  | cons g t ih =>
    rw [total_cons]
    rcases List.mem_cons.1 h with rfl | h
    · omega
    · have := ih h; omega

/-! ### by places -/
theorem pos_le (l : List FileD) (n : List UInt8) : posF l n ≤ l.length := (List.takeWhile_prefix _).length_le
theorem pos_cons : posF (f :: l) n = if f.name < n then posF l n + 1 else 0 := by
  unfold posF; rw [List.takeWhile_cons]; by_cases h : f.name < n <;> simp [h]
theorem pos_at : ∀ {l : List FileD} {k : Nat}, k ≤ l.length → (∀ i f, i < k → l[i]? = some f → f.name < n) → (∀ f, l[k]? = some f → ¬ f.name < n) → posF l n = k
  | [], k, hk, _, _ => by simp at hk; subst hk; rfl
  | g :: t, 0, _, _, h => by rw [pos_cons, if_neg (h g rfl)]
  | g :: t, k + 1, hk, h1, h2 => by
    rw [pos_cons, if_pos (h1 0 g (by omega) rfl), pos_at (by simpa using hk) (fun i f hi hf => h1 (i + 1) f (by omega) hf) (fun f hf => h2 f hf)]
theorem get_pos (hs : Sorted l) : getF l n = (l[posF l n]?).bind fun f => if f.name = n then some f else none := by
  induction l with
  | nil => simp [getF]
  | cons g t ih =>
    have hs' := sorted_cons.1 hs
    rw [get_cons, pos_cons]
    by_cases e : g.name = n
    · rw [if_pos e, if_neg (by rw [e]; exact str_lt_irrefl)]; simp [e]
    · rw [if_neg e]
      by_cases lt : g.name < n
      · rw [if_pos lt, List.getElem?_cons_succ, ih hs'.2]
      · rw [if_neg lt]
        have hlt := str_tri lt e
        have : getF t n = none := get_none.2 fun x hx => (str_lt_ne (str_lt_trans hlt (hs'.1 x hx))).symm
        rw [this]; simp [e]
theorem del_pos (hs : Sorted l) (h : getF l n = some f) : delF l n = l.eraseIdx (posF l n) := by
  induction l with
  | nil => cases h
  | cons g t ih =>
    have hs' := sorted_cons.1 hs
    rw [get_cons] at h
    rw [del_cons, pos_cons]
    by_cases e : g.name = n
    · rw [if_pos e, if_neg (by rw [e]; exact str_lt_irrefl), List.eraseIdx_cons_zero]
      exact del_none (get_none.2 fun x hx => by rw [← e]; exact (str_lt_ne (hs'.1 x hx)).symm)
    · rw [if_neg e] at h ⊢
      by_cases lt : g.name < n
      · rw [if_pos lt, List.eraseIdx_cons_succ, ih hs'.2 h]
      · have hlt := str_tri lt e
        obtain ⟨k1, k2⟩ := get_mem h
        exact absurd k2 (str_lt_ne (str_lt_trans hlt (hs'.1 f k1))).symm
theorem put_old (hs : Sorted l) (h : getF l f.name = some g) : putF l f = l.set (posF l f.name) f := by
  induction l with
  | nil => cases h
  | cons x t ih =>
    have hs' := sorted_cons.1 hs
    rw [get_cons] at h
    unfold putF
    rw [pos_cons]
    by_cases e : x.name = f.name
    · rw [if_pos e, if_neg (by rw [e]; exact str_lt_irrefl), List.set_cons_zero]
    · rw [if_neg e] at h ⊢
      by_cases lt : x.name < f.name
      · rw [if_pos lt, if_pos lt, List.set_cons_succ, ih hs'.2 h]
      · have hlt := str_tri lt e
        obtain ⟨k1, k2⟩ := get_mem h
        exact absurd k2 (str_lt_ne (str_lt_trans hlt (hs'.1 g k1))).symm
theorem put_new (hs : Sorted l) (h : getF l f.name = none) : putF l f = l.take (posF l f.name) ++ f :: l.drop (posF l f.name) := by
  induction l with
  | nil => simp [putF]
  | cons x t ih =>
    have hs' := sorted_cons.1 hs
    rw [get_cons] at h
    unfold putF
    rw [pos_cons]
    by_cases e : x.name = f.name
    · rw [if_pos e] at h; cases h
    · rw [if_neg e] at h ⊢
      by_cases lt : x.name < f.name
      · rw [if_pos lt, if_pos lt, ih hs'.2 h]; simp
      · rw [if_neg lt, if_neg lt]; simp
theorem get_at (hs : Sorted l) (h : getF l n = some f) : l[posF l n]? = some f := by
  rw [get_pos hs] at h
  cases e : l[posF l n]? with
  | none => rw [e] at h; cases h
  | some g =>
    rw [e] at h
    simp only [Option.bind_some] at h
    split at h
    · exact h
    · cases h
end
end Go.Proofs.YtfcnjbkoneinpaaDoor
