/- The walk of With. -/
import Derived.Test.YtnplikpjogoghaaC5
import Derived.Test.YtnplikpjogoghaaC4
import Derived.Test.YtnplikpjogoghaaShelf2
namespace Go.Proofs.Ytnplikpjogoghaa
open Go.RowKit Go.Lib Go.Shelf

/-! ### a number put in -/
/-- how many stand ahead of the first greater one -/
def below (l : List Int) (n : Int) : Nat := (l.takeWhile fun x => decide (x ≤ n)).length
def putAt (l : List Int) (k : Nat) (n : Int) : List Int := l.take k ++ n :: l.drop k
def withL (l : List Int) (n : Int) : List Int := if hasB l n = true then l else putAt l (below l n) n
theorem below_at : ∀ {l : List Int} {n : Int} {k : Nat}, k ≤ l.length → (∀ i x, i < k → l[i]? = some x → x ≤ n) → (∀ x, l[k]? = some x → n < x) → below l n = k
  | [], n, k, hk, _, _ => by simp at hk; subst hk; rfl
  | y :: l, n, 0, _, _, h => by have := h y rfl; unfold below; rw [List.takeWhile_cons, if_neg (by simp; omega)]; rfl
  | y :: l, n, k + 1, hk, h1, h2 => by
    have h0 := h1 0 y (by omega) rfl
    have := below_at (l := l) (n := n) (k := k) (by simpa using hk) (fun i x hi hx => h1 (i + 1) x (by omega) hx) (fun x hx => h2 x hx)
    unfold below at this ⊢
    rw [List.takeWhile_cons, if_pos (by simpa using h0), List.length_cons, this]

theorem ir_cells {w : World} {S : Nat → Prop} {g off cap : Nat} {l : List Int} (hc : ∀ i p, l[i]? = some p → w.cell? ⟨g, off + i, none⟩ = some (.int .i64 p)) (hS : S g) (h1 : l.length ≤ cap) (h2 : cap ≤ maxLen) : IR w S (.slice (some ⟨g, off, none⟩) l.length cap) l := by
  refine ⟨by simp, some ⟨g, off, none⟩, cap, rfl, h1, h2, fun h => (by cases h), fun _ => ⟨g, off, rfl, hS, fun i u hu => ?_⟩⟩
  rw [List.getElem?_map] at hu
  cases hp : l[i]? with
  | none => rw [hp] at hu; cases hu
  | some p => rw [hp] at hu; obtain rfl := Option.some.inj hu; exact hc i p hp

theorem putAt_length {l : List Int} {i : Nat} (n : Int) (hi : i ≤ l.length) : (putAt l i n).length = l.length + 1 := by
  unfold putAt; rw [List.length_append, List.length_cons, List.length_take, List.length_drop]; omega
theorem putAt_lt {l : List Int} {i j : Nat} (n : Int) (hi : i ≤ l.length) (hj : j < i) : (putAt l i n)[j]? = l[j]? := by
  unfold putAt; rw [List.getElem?_append_left (by rw [List.length_take]; omega), List.getElem?_take, if_pos hj]
theorem putAt_eq {l : List Int} {i : Nat} (n : Int) (hi : i ≤ l.length) : (putAt l i n)[i]? = some n := by
  unfold putAt; rw [List.getElem?_append_right (by rw [List.length_take]; omega), List.length_take, Nat.min_eq_left hi, Nat.sub_self]; rfl
theorem putAt_gt {l : List Int} {i j : Nat} (n : Int) (hi : i ≤ l.length) : (putAt l i n)[i + 1 + j]? = l[i + j]? := by
  unfold putAt; rw [List.getElem?_append_right (by rw [List.length_take]; omega), List.length_take, Nat.min_eq_left hi, show i + 1 + j - i = j + 1 by omega, List.getElem?_cons_succ, List.getElem?_drop]

section
variable {w W : World} {g i : Nat} {l : List Int} {n : Int}
/-- what stood from i on is put behind i: what is there then -/
theorem cells_tail (hi : i ≤ l.length) (hsome : ∀ j, j < l.length + 1 → (W.cell? ⟨g, j, none⟩).isSome = true) (o : Nat) (ho : o = i + 1) (j : Nat) (p : Int) (hj : l[i + j]? = some p) :
    (W.setCells g o ((l.map (Value.int .i64)).drop i)).cell? ⟨g, i + 1 + j, none⟩ = some (.int .i64 p) := by
  subst ho
  have hl := (List.getElem?_eq_some_iff.1 hj).1
  have hd : j < ((l.map (Value.int .i64)).drop i).length := by rw [List.length_drop, List.length_map]; omega
  rw [World.cell?_setCells_in g _ (i + 1) W (fun k hk => hsome _ (by rw [List.length_drop, List.length_map] at hk; omega)) j hd]
  have : ((l.map (Value.int .i64)).drop i)[j]? = some (.int .i64 p) := by rw [List.getElem?_drop, List.getElem?_map, hj]; rfl
  rw [List.getElem?_eq_getElem hd] at this
  exact this
theorem cells_ahead (vs : List Value) (o j : Nat) (ho : j < o) : (W.setCells g o vs).cell? ⟨g, j, none⟩ = W.cell? ⟨g, j, none⟩ := World.cell?_setCells_out g vs o W _ fun _ _ => .inl ho
theorem cells_one (v : Value) (o : Nat) (hs : (W.cell? ⟨g, o, none⟩).isSome = true) : (W.setCells g o [v]).cell? ⟨g, o, none⟩ = some v := by
  obtain ⟨u, hu⟩ := Option.isSome_iff_exists.1 hs
  exact World.cell?_setCell_same _ _ _ hu
theorem cells_one_ne (v : Value) (o j : Nat) (h : j ≠ o) : (W.setCells g o [v]).cell? ⟨g, j, none⟩ = W.cell? ⟨g, j, none⟩ := World.cell?_setCells_out g [v] o W _ fun _ _ => by simp; omega

/-- in place: the tail first, then the number -/
theorem put_shift (hi : i ≤ l.length) (hc : ∀ j p, l[j]? = some p → W.cell? ⟨g, j, none⟩ = some (.int .i64 p)) (hsome : ∀ j, j < l.length + 1 → (W.cell? ⟨g, j, none⟩).isSome = true) (o1 o2 : Nat) (h1 : o1 = i + 1) (h2 : o2 = i) :
    ∀ j p, (putAt l i n)[j]? = some p → ((W.setCells g o1 ((l.map (Value.int .i64)).drop i)).setCells g o2 [.int .i64 n]).cell? ⟨g, 0 + j, none⟩ = some (.int .i64 p) := by
  rw [h2]
  clear h2
  intro j p hj
  rw [Nat.zero_add]
  rcases Nat.lt_trichotomy j i with h | rfl | h
  · rw [putAt_lt n hi h] at hj
    rw [cells_one_ne _ _ _ (by omega), cells_ahead _ _ _ (by omega)]
    exact hc j p hj
  · rw [putAt_eq n hi] at hj
    obtain rfl := Option.some.inj hj
    refine cells_one _ _ ?_
    rw [cells_ahead _ _ _ (by omega)]
    exact hsome _ (by omega)
  · obtain ⟨k, rfl⟩ : ∃ k, j = i + 1 + k := ⟨j - i - 1, by omega⟩
    rw [putAt_gt n hi] at hj
    rw [cells_one_ne _ _ _ (by omega)]
    exact cells_tail hi hsome _ h1 k p hj
/-- in a new row: the number first, then the tail -/
theorem put_new {W2 : World} (hi : i ≤ l.length) (hc : ∀ j p, j < i → l[j]? = some p → W.cell? ⟨g, j, none⟩ = some (.int .i64 p)) (hsome : ∀ j, j < l.length + 1 → (W.cell? ⟨g, j, none⟩).isSome = true)
    (hW : ∀ x, W2.cell? x = (W.setCells g i [.int .i64 n]).cell? x) :
    ∀ j p, (putAt l i n)[j]? = some p → (W2.setCells g (i + 1) ((l.map (Value.int .i64)).drop i)).cell? ⟨g, 0 + j, none⟩ = some (.int .i64 p) := by
  intro j p hj
  rw [Nat.zero_add]
  rcases Nat.lt_trichotomy j i with h | rfl | h
  · rw [putAt_lt n hi h] at hj
    rw [cells_ahead _ _ _ (by omega), hW, cells_one_ne _ _ _ (by omega)]
    exact hc j p h hj
  · rw [putAt_eq n hi] at hj
    obtain rfl := Option.some.inj hj
    rw [cells_ahead _ _ _ (by omega), hW]
    exact cells_one _ _ (hsome _ (by omega))
  · obtain ⟨k, rfl⟩ : ∃ k, j = i + 1 + k := ⟨j - i - 1, by omega⟩
    rw [putAt_gt n hi] at hj
    refine cells_tail hi (fun q hq => ?_) _ rfl k p hj
    rw [hW]
    by_cases hqi : q = i
    · subst hqi; rw [cells_one _ _ (hsome _ hq)]; rfl
    · rw [cells_one_ne _ _ _ hqi]; exact hsome _ hq

theorem fr_setCells {o : Nat → Prop} {x y : World} {g : Nat} (hg : o g ∨ x.heap.size ≤ g) : ∀ (vs : List Value) (k : Nat) {y : World}, Fr o x y → Fr o x (y.setCells g k vs)
  | [], _, _, h => h
  | v :: r, k, _, h => fr_setCells (y := y) hg r (k + 1) (h.setCell (p := ⟨g, k, none⟩) hg v)
end
end Go.Proofs.Ytnplikpjogoghaa
