/- Plain laws of rising rows: a number put in, a number taken out, rows that may follow one another. -/
import Derived.Test.YtnplikpjogoghaaC3
import Derived.Test.YtnplikpjogoghaaC6
import Derived.Test.YtnplikpjogoghaaV1
import Derived.Test.YtnplikpjogoghaaW2
namespace Go.Proofs.Ytnplikpjogoghaa

theorem rises_pair {l : List Int} : Rises l ↔ l.Pairwise (· < ·) := by
  rw [List.pairwise_iff_getElem]
  constructor
  · intro h i j hi hj hij
    exact rises_lt h j i _ _ hij (List.getElem?_eq_getElem hi) (List.getElem?_eq_getElem hj)
  · intro h i p q hp hq
    obtain ⟨hi, rfl⟩ := List.getElem?_eq_some_iff.1 hp
    obtain ⟨hj, rfl⟩ := List.getElem?_eq_some_iff.1 hq
    exact h i (i + 1) hi hj (by omega)
theorem rises_nodup {l : List Int} (h : Rises l) : l.Nodup := (rises_pair.1 h).imp fun h => Int.ne_of_lt h
theorem nodup_le : ∀ (a b : List Int), a.Nodup → (∀ x ∈ a, x ∈ b) → a.length ≤ b.length
  | [], _, _, _ => Nat.zero_le _
  | x :: a, b, hn, hs => by
    rw [List.nodup_cons] at hn
    have hx := hs x (List.mem_cons_self ..)
    have := nodup_le a (b.erase x) hn.2 fun y hy => (List.mem_erase_of_ne (by rintro rfl; exact hn.1 hy)).2 (hs y (List.mem_cons_of_mem _ hy))
    rw [List.length_erase_of_mem hx] at this
    have := List.length_pos_of_mem hx
    rw [List.length_cons]; omega
theorem nodup_full {a b : List Int} (hn : a.Nodup) (hs : ∀ x ∈ a, x ∈ b) (hl : b.length ≤ a.length) : ∀ x ∈ b, x ∈ a := by
  intro x hx
  by_cases h : x ∈ a
  · exact h
  · have := nodup_le (x :: a) b (List.nodup_cons.2 ⟨h, hn⟩) (fun y hy => by rcases List.mem_cons.1 hy with rfl | h1; exact hx; exact hs y h1)
    rw [List.length_cons] at this; omega
theorem cnt_all {l m : List Int} : cntB l m = l.length ↔ ∀ x ∈ l, x ∈ m := by
  unfold cntB
  rw [List.length_filter_eq_length_iff]
  exact ⟨fun h x hx => hasB_iff.1 (h x hx), fun h x hx => hasB_iff.2 (h x hx)⟩
theorem cnt_back {l m : List Int} (hl : l.Nodup) (hm : m.Nodup) : cntB l m = m.length ↔ ∀ x ∈ m, x ∈ l := by
  have hf : (l.filter (hasB m)).Nodup := hl.sublist List.filter_sublist
  have hs : ∀ x ∈ l.filter (hasB m), x ∈ m := fun x hx => hasB_iff.1 (List.mem_filter.1 hx).2
  unfold cntB
  constructor
  · intro h x hx
    exact (List.mem_filter.1 (nodup_full hf hs (by omega) x hx)).1
  · intro h
    exact Nat.le_antisymm (nodup_le _ _ hf hs) (nodup_le _ _ hm fun x hx => List.mem_filter.2 ⟨h x hx, hasB_iff.2 hx⟩)
/-- the reference's answer -/
theorem next_iff {l m : List Int} (hl : RightP l) (hm : RightP m) : NextP l m ↔ (m.length = l.length + 1 ∧ cntB l m = l.length) ∨ (l.length = m.length + 1 ∧ cntB l m = m.length) := by
  unfold NextP
  rw [cnt_all, cnt_back (rises_nodup hl.2.2.1) (rises_nodup hm.2.2.1)]
  exact ⟨fun h => h.2.2, fun h => ⟨hl, hm, h⟩⟩
theorem next_self {l : List Int} : ¬ NextP l l := by
  rintro ⟨_, _, h | h⟩ <;> omega
theorem next_comm {l m : List Int} : NextP l m ↔ NextP m l := by
  constructor <;> (rintro ⟨h1, h2, h | h⟩; exact ⟨h2, h1, .inr h⟩; exact ⟨h2, h1, .inl h⟩)

/-! ### rising rows of the same members are the same -/
theorem pair_ext : ∀ {a b : List Int}, a.Pairwise (· < ·) → b.Pairwise (· < ·) → (∀ x, x ∈ a ↔ x ∈ b) → a = b
  | [], [], _, _, _ => rfl
  | [], y :: b, _, _, h => absurd ((h y).2 (List.mem_cons_self ..)) (by simp)
  | x :: a, [], _, _, h => absurd ((h x).1 (List.mem_cons_self ..)) (by simp)
  | x :: a, y :: b, ha, hb, h => by
    rw [List.pairwise_cons] at ha hb
    have hxy : x = y := by
      have h1 := (h x).1 (List.mem_cons_self ..)
      have h2 := (h y).2 (List.mem_cons_self ..)
      rcases List.mem_cons.1 h1 with e | h1
      · exact e
      · rcases List.mem_cons.1 h2 with e | h2
        · exact e.symm
        · have := ha.1 _ h2; have := hb.1 _ h1; omega
    subst hxy
    congr 1
    refine pair_ext ha.2 hb.2 fun z => ?_
    constructor
    · intro hz
      have h1 := ha.1 _ hz
      rcases List.mem_cons.1 ((h z).1 (List.mem_cons_of_mem _ hz)) with e | h2
      · omega
      · exact h2
    · intro hz
      have h1 := hb.1 _ hz
      rcases List.mem_cons.1 ((h z).2 (List.mem_cons_of_mem _ hz)) with e | h2
      · omega
      · exact h2
theorem rises_ext {a b : List Int} (ha : Rises a) (hb : Rises b) (h : ∀ x, x ∈ a ↔ x ∈ b) : a = b := pair_ext (rises_pair.1 ha) (rises_pair.1 hb) h

/-! ### put in -/
theorem below_le (l : List Int) (n : Int) : below l n ≤ l.length := by
  unfold below; exact (List.takeWhile_prefix _).length_le
theorem take_below (l : List Int) (n : Int) : ∀ x ∈ l.take (below l n), x ≤ n := by
  intro x hx
  unfold below at hx
  rw [List.prefix_iff_eq_take.1 (List.takeWhile_prefix (l := l) fun x => decide (x ≤ n)) |>.symm] at hx
  have := List.all_eq_true.1 (List.all_takeWhile (p := fun x => decide (x ≤ n)) (l := l)) x hx
  simpa using this
theorem drop_below {l : List Int} (h : Rises l) (n : Int) : ∀ x ∈ l.drop (below l n), n < x := by
  intro x hx
  have hd : l.drop (below l n) = l.dropWhile fun x => decide (x ≤ n) := by
    have h1 := List.takeWhile_append_dropWhile (p := fun x => decide (x ≤ n)) (l := l)
    unfold below
    rw [show l.drop (l.takeWhile fun x => decide (x ≤ n)).length = ((l.takeWhile fun x => decide (x ≤ n)) ++ l.dropWhile fun x => decide (x ≤ n)).drop (l.takeWhile fun x => decide (x ≤ n)).length from by rw [h1]]
    exact List.drop_left
  rw [hd] at hx
  have hp := rises_pair.1 h
  have hp2 : (l.dropWhile fun x => decide (x ≤ n)).Pairwise (· < ·) := hp.sublist (List.dropWhile_suffix _).sublist
  cases he : (l.dropWhile fun x => decide (x ≤ n)) with
  | nil => rw [he] at hx; cases hx
  | cons y t =>
    have hy : ¬ (decide (y ≤ n) = true) := by
      have := List.head?_dropWhile_not (fun x => decide (x ≤ n)) l
      rw [he] at this
      simpa using this
    rw [he] at hx hp2
    rw [List.pairwise_cons] at hp2
    simp at hy
    rcases List.mem_cons.1 hx with rfl | h2
    · exact hy
    · have := hp2.1 _ h2; omega
theorem mem_put {l : List Int} {k : Nat} {n x : Int} : x ∈ putAt l k n ↔ x = n ∨ x ∈ l := by
  unfold putAt
  rw [List.mem_append, List.mem_cons]
  conv => rhs; rw [← List.take_append_drop k l, List.mem_append]
  constructor
  · rintro (h | h | h); exact .inr (.inl h); exact .inl h; exact .inr (.inr h)
  · rintro (h | h | h); exact .inr (.inl h); exact .inl h; exact .inr (.inr h)
theorem has_no {l : List Int} {n : Int} (h : hasB l n = false) : n ∉ l := fun hx => by rw [hasB_iff.2 hx] at h; cases h
theorem mem_with {l : List Int} {n x : Int} : x ∈ withL l n ↔ x = n ∨ x ∈ l := by
  unfold withL
  split
  · next h => exact ⟨.inr, fun hx => by rcases hx with rfl | hx; exact hasB_iff.1 h; exact hx⟩
  · exact mem_put
theorem with_rises {l : List Int} (h : Rises l) (n : Int) : Rises (withL l n) := by
  unfold withL
  split
  · exact h
  · next hn =>
    have hn' : n ∉ l := fun hx => hn (hasB_iff.2 hx)
    have hp := rises_pair.1 h
    rw [rises_pair]
    unfold putAt
    rw [List.pairwise_append]
    refine ⟨hp.sublist (List.take_sublist _ _), List.pairwise_cons.2 ⟨drop_below h n, hp.sublist (List.drop_sublist _ _)⟩, fun x hx y hy => ?_⟩
    have h1 := take_below l n x hx
    have h2 : x ≠ n := by rintro rfl; exact hn' (List.mem_of_mem_take hx)
    rcases List.mem_cons.1 hy with rfl | hy
    · omega
    · have := drop_below h n y hy; omega
theorem with_len {l : List Int} {n : Int} (h : hasB l n = false) : (withL l n).length = l.length + 1 := by
  unfold withL
  rw [h, if_neg (by simp), putAt_length n (below_le l n)]
theorem with_len_le (l : List Int) (n : Int) : (withL l n).length ≤ l.length + 1 := by
  cases h : hasB l n with
  | true => unfold withL; rw [if_pos h]; omega
  | false => rw [with_len h]; omega
theorem with_has {l : List Int} {n : Int} (h : hasB l n = true) : withL l n = l := by unfold withL; rw [if_pos h]

/-! ### taken out -/
theorem mem_without {l : List Int} {n x : Int} : x ∈ withoutL l n ↔ x ∈ l ∧ x ≠ n := by
  unfold withoutL; rw [List.mem_filter]; simp
theorem without_rises {l : List Int} (h : Rises l) (n : Int) : Rises (withoutL l n) := by
  rw [rises_pair] at h ⊢
  exact h.sublist List.filter_sublist
theorem without_len_le (l : List Int) (n : Int) : (withoutL l n).length ≤ l.length := List.length_filter_le _ _
theorem without_no {l : List Int} {n : Int} (h : hasB l n = false) : withoutL l n = l := by
  unfold withoutL
  rw [List.filter_eq_self]
  intro x hx
  have : x ≠ n := by rintro rfl; exact has_no h hx
  simp [this]
theorem without_len {l : List Int} {n : Int} (hr : Rises l) (h : hasB l n = true) : (withoutL l n).length + 1 = l.length := by
  have hn := rises_nodup hr
  have hm := hasB_iff.1 h
  have e1 : l.length ≤ (n :: withoutL l n).length := nodup_le l _ hn fun x hx => by
    by_cases e : x = n
    · rw [e]; exact List.mem_cons_self ..
    · exact List.mem_cons_of_mem _ (mem_without.2 ⟨hx, e⟩)
  have e2 : (n :: withoutL l n).length ≤ l.length := nodup_le _ l (List.nodup_cons.2 ⟨fun hx => (mem_without.1 hx).2 rfl, rises_nodup (without_rises hr n)⟩) fun x hx => by
    rcases List.mem_cons.1 hx with rfl | hx
    · exact hm
    · exact (mem_without.1 hx).1
  rw [List.length_cons] at e1 e2
  omega
theorem with_without {l : List Int} {n : Int} (hr : Rises l) (h : hasB l n = true) : withL (withoutL l n) n = l :=
  rises_ext (with_rises (without_rises hr n) n) hr fun x => by
    rw [mem_with, mem_without]
    constructor
    · rintro (rfl | h1); exact hasB_iff.1 h; exact h1.1
    · intro hx; by_cases e : x = n; exact .inl e; exact .inr ⟨hx, e⟩
theorem without_with {l : List Int} {n : Int} (hr : Rises l) (h : hasB l n = false) : withoutL (withL l n) n = l :=
  rises_ext (without_rises (with_rises hr n) n) hr fun x => by
    rw [mem_without, mem_with]
    constructor
    · rintro ⟨h1 | h1, h2⟩; exact absurd h1 h2; exact h1
    · intro hx; exact ⟨.inr hx, by rintro rfl; exact has_no h hx⟩

/-! ### the one or the other -/
def togL (l : List Int) (n : Int) : List Int := if hasB l n = true then withoutL l n else withL l n
theorem tog_rises {l : List Int} (h : Rises l) (n : Int) : Rises (togL l n) := by
  unfold togL; split; exact without_rises h n; exact with_rises h n
theorem tog_len {l : List Int} (h : Rises l) (n : Int) : (hasB l n = true ∧ (togL l n).length + 1 = l.length) ∨ (hasB l n = false ∧ (togL l n).length = l.length + 1) := by
  unfold togL
  cases hb : hasB l n with
  | true => exact .inl ⟨rfl, by rw [if_pos rfl]; exact without_len h hb⟩
  | false => exact .inr ⟨rfl, by rw [if_neg (by simp)]; exact with_len hb⟩
theorem tog_len_le (l : List Int) (n : Int) : (togL l n).length ≤ l.length + 1 := by
  unfold togL; split
  · have := without_len_le l n; omega
  · exact with_len_le l n
theorem tog_next {l : List Int} (h : RightP l) (n : Int) : NextP l (togL l n) ↔ RightP (togL l n) := by
  refine ⟨fun k => k.2.1, fun k => ⟨h, k, ?_⟩⟩
  rcases tog_len h.2.2.1 n with ⟨hb, hl⟩ | ⟨hb, hl⟩
  · refine .inr ⟨by omega, fun x hx => ?_⟩
    unfold togL at hx; rw [if_pos hb] at hx; exact (mem_without.1 hx).1
  · refine .inl ⟨hl, fun x hx => ?_⟩
    unfold togL; rw [if_neg (by rw [hb]; simp)]; exact mem_with.2 (.inr hx)
theorem tog_tog {l : List Int} (h : Rises l) (n : Int) : togL (togL l n) n = l := by
  cases hb : hasB l n with
  | true =>
    have e : togL l n = withoutL l n := by unfold togL; rw [if_pos hb]
    have : hasB (withoutL l n) n = false := by
      cases e : hasB (withoutL l n) n with
      | false => rfl
      | true => exact absurd rfl (mem_without.1 (hasB_iff.1 e)).2
    rw [e]
    unfold togL
    rw [this, if_neg (by simp)]
    exact with_without h hb
  | false =>
    have e : togL l n = withL l n := by unfold togL; rw [if_neg (by rw [hb]; simp)]
    have : hasB (withL l n) n = true := hasB_iff.2 (mem_with.2 (.inl rfl))
    rw [e]
    unfold togL
    rw [this, if_pos rfl]
    exact without_with h hb
theorem tog_two {l : List Int} (h : Rises l) {a b : Int} : ¬ NextP l (togL (togL l a) b) := by
  rintro ⟨_, _, k⟩
  have h1 := tog_len h a
  have h2 := tog_len (tog_rises h a) b
  rcases k with ⟨k, _⟩ | ⟨k, _⟩ <;> omega
end Go.Proofs.Ytnplikpjogoghaa
