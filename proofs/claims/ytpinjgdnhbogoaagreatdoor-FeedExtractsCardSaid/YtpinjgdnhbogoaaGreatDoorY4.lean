/- The reference's tag, part, Read in the same plain words (no program). -/
import Derived.Test.YtpinjgdnhbogoaaGreatDoorM0
import Derived.Test.YtpinjgdnhbogoaaGreatDoorM5
namespace Go.Proofs.YtpinjgdnhbogoaaGreatDoor

theorem suf_drop {a b : Str} (h : a <:+ b) : a = b.drop (b.length - a.length) := by
  obtain ⟨p, rfl⟩ := h
  rw [List.length_append, Nat.add_sub_cancel, List.drop_left]
theorem cut_suf {p s a b : Str} (h : cutL p s = some (a, b)) : b <:+ s := ⟨a ++ p, by rw [cutL_some h]; simp⟩
theorem trim_suf (s : Str) : trimL s <:+ s := List.dropWhile_suffix _
theorem attr_suf {s a v left : Str} (h : attrL s = some (a, v, left)) : left <:+ s := by
  unfold attrL at h
  split at h
  · cases h
  · split at h
    · rename_i s2 h2
      split at h
      · rename_i q s4 h4
        split at h
        · split at h
          · cases h
          · rename_i value rest hc
            split at h
            · cases h
            · split at h
              · cases h
              · simp only [Option.some.injEq, Prod.mk.injEq] at h
                obtain ⟨_, _, rfl⟩ := h
                have e1 := cut_suf hc
                have e2 : s4 <:+ s2 := (List.suffix_cons q s4).trans (h4 ▸ trim_suf s2)
                have e3 := (List.suffix_cons 61 s2).trans (h2 ▸ trim_suf _)
                exact ((e1.trans e2).trans e3).trans (List.drop_suffix _ _)
        · cases h
      · cases h
    · cases h
theorem attrs_suf : ∀ (m : Nat) {l l2 : List (Str × Str)} {s rest : Str} {b : Bool}, s.length < m → attrsL l s = some (l2, b, rest) → rest <:+ s
  | 0, _, _, _, _, _, hm, _ => by omega
  | m + 1, l, l2, s, rest, b, hm, h => by
    rw [attrsL_step] at h
    split at h
    · simp only [Option.some.injEq, Prod.mk.injEq] at h
      obtain ⟨_, _, rfl⟩ := h
      exact (List.drop_suffix _ _).trans (trim_suf s)
    · split at h
      · simp only [Option.some.injEq, Prod.mk.injEq] at h
        obtain ⟨_, _, rfl⟩ := h
        exact (List.drop_suffix _ _).trans (trim_suf s)
      · split at h
        · cases h
        · split at h
          · cases h
          · rename_i a v left ha
            split at h
            · cases h
            · have h1 := attrL_len ha
              have h2 := trim_le s
              have h3 := attrs_suf m (by omega) h
              exact (h3.trans (attr_suf ha)).trans (trim_suf s)
/-- what a tag's attributes make of it -/
def tagOut (n : Str) : Option (List (Str × Str) × Bool × Str) → Option (List TokD × Str)
  | none => none
  | some (l, true, rest) => some ([⟨1, n, l, []⟩, ⟨2, n, [], []⟩], rest)
  | some (l, false, rest) => some ([⟨1, n, l, []⟩], rest)
theorem tag_out {s n : Str} (hn : nameL s = n) (h0 : n ≠ []) : tagL s = tagOut n (attrsL [] (s.drop n.length)) := by
  unfold tagL
  rw [hn, if_neg (by simpa using h0), attrsL_eq (by rw [List.length_drop]; omega)]
  rcases attrsL [] (s.drop n.length) with _ | ⟨l, b, r⟩
  · rfl
  · cases b <;> rfl
theorem tag_no {s : Str} (hn : nameL s = []) : tagL s = none := by unfold tagL; rw [hn]; rfl
theorem tag_suf {s rest : Str} {l : List TokD} (h : tagL s = some (l, rest)) : rest <:+ s := by
  by_cases h0 : nameL s = []
  · rw [tag_no h0] at h; cases h
  · rw [tag_out rfl h0] at h
    rcases ha : attrsL [] (s.drop (nameL s).length) with _ | ⟨l2, b, r⟩
    · rw [ha] at h; cases h
    · have e := (attrs_suf _ (Nat.lt_succ_self _) ha).trans (List.drop_suffix _ _)
      rw [ha] at h
      cases b <;> (simp [tagOut] at h; obtain ⟨_, rfl⟩ := h; exact e)
/-- i bytes of a tag are read, its attributes so far -/
structure TagAt (s n : Str) (i : Nat) (l : List (Str × Str)) : Prop where
  le : i ≤ s.length
  len : l.length ≤ i
  eq : tagL (s.drop 1) = tagOut n (attrsL l (s.drop i))
theorem TagAt.start {s n : Str} (h1 : 1 ≤ s.length) (hn : nameL (s.drop 1) = n) (h0 : n ≠ []) : TagAt s n (1 + n.length) [] := by
  have h2 := name_le (s.drop 1)
  rw [hn, List.length_drop] at h2
  exact ⟨by omega, Nat.zero_le _, by rw [tag_out hn h0, List.drop_drop]⟩
theorem pre_drop {p s : Str} (h : p.isPrefixOf s = true) : p.length ≤ s.length := (List.isPrefixOf_iff_prefix.1 h).length_le
theorem blanks_at {s : Str} {i k : Nat} (hk : blanksN (s.drop i) = k) : trimL (s.drop i) = s.drop (i + k) := by rw [← blanks_drop, hk, List.drop_drop]
section
variable {s n : Str} {i k : Nat} {l : List (Str × Str)} (h : TagAt s n i l) (hk : blanksN (s.drop i) = k)
include h hk
theorem TagAt.self (hp : ([47, 62] : Str).isPrefixOf (s.drop (i + k)) = true) : tagL (s.drop 1) = some ([⟨1, n, l, []⟩, ⟨2, n, [], []⟩], s.drop (i + k + 2)) ∧ i + k + 2 ≤ s.length := by
  have h1 := pre_drop hp
  rw [List.length_drop] at h1
  have h2 : ([47, 62] : Str).length = 2 := rfl
  refine ⟨?_, by omega⟩
  rw [h.eq, attrsL_step, blanks_at hk, if_pos hp, List.drop_drop]; rfl
theorem TagAt.stop (hp : ([47, 62] : Str).isPrefixOf (s.drop (i + k)) = false) (hq : ([62] : Str).isPrefixOf (s.drop (i + k)) = true) : tagL (s.drop 1) = some ([⟨1, n, l, []⟩], s.drop (i + k + 1)) ∧ i + k + 1 ≤ s.length := by
  have h1 := pre_drop hq
  rw [List.length_drop] at h1
  have h2 : ([62] : Str).length = 1 := rfl
  refine ⟨?_, by omega⟩
  rw [h.eq, attrsL_step, blanks_at hk, if_neg (by rw [hp]; simp), if_pos hq, List.drop_drop]; rfl
theorem TagAt.step (hp : ([47, 62] : Str).isPrefixOf (s.drop (i + k)) = false) (hq : ([62] : Str).isPrefixOf (s.drop (i + k)) = false) (h0 : k ≠ 0) : tagL (s.drop 1) = tagOut n (match attrL (s.drop (i + k)) with
      | none => none
      | some (a, v, left) => if l.any (fun b => b.1 == a) then none else attrsL (l ++ [(a, v)]) left) := by
  have h3 := h.le
  have h4 := blanks_le (s.drop i)
  rw [hk, List.length_drop] at h4
  rw [h.eq, attrsL_step, blanks_at hk, if_neg (by rw [hp]; simp), if_neg (by rw [hq]; simp), if_neg (by rw [List.length_drop, List.length_drop]; omega)]
  cases attrL (s.drop (i + k)) <;> rfl
theorem TagAt.tight (hp : ([47, 62] : Str).isPrefixOf (s.drop (i + k)) = false) (hq : ([62] : Str).isPrefixOf (s.drop (i + k)) = false) (h0 : k = 0) : tagL (s.drop 1) = none := by
  rw [h.eq, attrsL_step, blanks_at hk, if_neg (by rw [hp]; simp), if_neg (by rw [hq]; simp), if_pos (by rw [h0]; rfl)]; rfl
theorem TagAt.bad (hp : ([47, 62] : Str).isPrefixOf (s.drop (i + k)) = false) (hq : ([62] : Str).isPrefixOf (s.drop (i + k)) = false) (ha : attrL (s.drop (i + k)) = none) : tagL (s.drop 1) = none := by
  by_cases h0 : k = 0
  · exact h.tight hk hp hq h0
  · rw [h.step hk hp hq h0, ha]; rfl
theorem TagAt.dup (hp : ([47, 62] : Str).isPrefixOf (s.drop (i + k)) = false) (hq : ([62] : Str).isPrefixOf (s.drop (i + k)) = false) {a v left : Str} (ha : attrL (s.drop (i + k)) = some (a, v, left)) (hd : (l.any fun b => b.1 == a) = true) : tagL (s.drop 1) = none := by
  by_cases h0 : k = 0
  · exact h.tight hk hp hq h0
  · rw [h.step hk hp hq h0, ha]; dsimp only; rw [if_pos hd]; rfl
theorem TagAt.next (hp : ([47, 62] : Str).isPrefixOf (s.drop (i + k)) = false) (hq : ([62] : Str).isPrefixOf (s.drop (i + k)) = false) (h0 : k ≠ 0) {a v left : Str} (ha : attrL (s.drop (i + k)) = some (a, v, left)) (hd : (l.any fun b => b.1 == a) = false) {m : Nat} (hm : (s.drop (i + k)).length - left.length = m) : TagAt s n (i + k + m) (l ++ [(a, v)]) := by
  have h1 := attrL_len ha
  have h2 := suf_drop (attr_suf ha)
  have h3 := h.len
  rw [hm, List.drop_drop] at h2
  rw [List.length_drop] at h1 hm
  refine ⟨by omega, by rw [List.length_append]; simp; omega, ?_⟩
  rw [h.step hk hp hq h0, ha]
  dsimp only
  rw [if_neg (by rw [hd]; simp), ← h2]
end

/-! ### a part -/
/-- n bytes are a part, that says u, with tokens l; 0: it is none -/
def RPart (s u : Str) (l : List TokD) (n : Nat) : Prop := (n = 0 ∧ partL s = none) ∨ (0 < n ∧ n ≤ s.length ∧ partL s = some (u, l, s.drop n))
theorem RPart.zero {s u : Str} {l : List TokD} (h : partL s = none) : RPart s u l 0 := .inl ⟨rfl, h⟩
theorem rpart_c {s : Str} (h : ([60, 33, 45, 45] : Str).isPrefixOf s = true) : partL s = (cutL [45, 45, 62] (s.drop 4)).map fun q => ([], [], q.2) := by
  unfold partL stripL; rw [if_pos h]; rfl
theorem rpart_i {s : Str} (h1 : ([60, 33, 45, 45] : Str).isPrefixOf s = false) (h : ([60, 63] : Str).isPrefixOf s = true) : partL s = (cutL [63, 62] (s.drop 2)).map fun q => ([], [], q.2) := by
  unfold partL stripL; rw [if_neg (by rw [h1]; simp), if_pos h]; rfl
theorem rpart_d {s : Str} (h1 : ([60, 33, 45, 45] : Str).isPrefixOf s = false) (h2 : ([60, 63] : Str).isPrefixOf s = false) (h : ([60, 33, 91, 67, 68, 65, 84, 65, 91] : Str).isPrefixOf s = true) : partL s = (cutL [93, 93, 62] (s.drop 9)).map fun q => (q.1, [], q.2) := by
  unfold partL stripL; rw [if_neg (by rw [h1]; simp), if_neg (by rw [h2]; simp), if_pos h]; rfl
def rdocT (r : Str) : Option (Str × List TokD × Str) := match cutL [62] r with
  | none => none
  | some (t, rest) => if t.contains 60 || t.contains 91 then none else some ([], [], rest)
theorem rpart_t {s : Str} (h1 : ([60, 33, 45, 45] : Str).isPrefixOf s = false) (h2 : ([60, 63] : Str).isPrefixOf s = false) (h3 : ([60, 33, 91, 67, 68, 65, 84, 65, 91] : Str).isPrefixOf s = false) (h : ([60, 33, 68, 79, 67, 84, 89, 80, 69] : Str).isPrefixOf s = true) : partL s = rdocT (s.drop 9) := by
  unfold partL stripL rdocT; rw [if_neg (by rw [h1]; simp), if_neg (by rw [h2]; simp), if_neg (by rw [h3]; simp), if_pos h]; rfl
theorem rpart_e {s : Str} (h1 : ([60, 33, 45, 45] : Str).isPrefixOf s = false) (h2 : ([60, 63] : Str).isPrefixOf s = false) (h3 : ([60, 33, 91, 67, 68, 65, 84, 65, 91] : Str).isPrefixOf s = false) (h4 : ([60, 33, 68, 79, 67, 84, 89, 80, 69] : Str).isPrefixOf s = false) (h : ([60, 47] : Str).isPrefixOf s = true) : partL s = (closeL (s.drop 2)).map fun q => ([], q.1, q.2) := by
  unfold partL stripL; rw [if_neg (by rw [h1]; simp), if_neg (by rw [h2]; simp), if_neg (by rw [h3]; simp), if_neg (by rw [h4]; simp), if_pos h]; rfl
theorem rpart_o {s : Str} (h1 : ([60, 33, 45, 45] : Str).isPrefixOf s = false) (h2 : ([60, 63] : Str).isPrefixOf s = false) (h3 : ([60, 33, 91, 67, 68, 65, 84, 65, 91] : Str).isPrefixOf s = false) (h4 : ([60, 33, 68, 79, 67, 84, 89, 80, 69] : Str).isPrefixOf s = false) (h5 : ([60, 47] : Str).isPrefixOf s = false) : partL s = (tagL (s.drop 1)).map fun q => ([], q.1, q.2) := by
  unfold partL stripL; rw [if_neg (by rw [h1]; simp), if_neg (by rw [h2]; simp), if_neg (by rw [h3]; simp), if_neg (by rw [h4]; simp), if_neg (by rw [h5]; simp)]
theorem until_part {p s : Str} {i : Nat} (h0 : 0 < p.length) (hi : i ≤ s.length) (h : partL s = (cutL p (s.drop i)).map fun q => ([], [], q.2)) : RPart s [] [] (untilN p s i) := by
  unfold untilN
  cases hc : cutL p (s.drop i) with
  | none => exact .zero (by rw [h, hc]; rfl)
  | some q =>
    obtain ⟨a, b⟩ := q
    obtain ⟨e1, e2, e3⟩ := cut_place hc hi
    exact .inr ⟨by dsimp only; omega, e2, by rw [h, hc, e3]; rfl⟩
theorem data_part {s : Str} (hi : 9 ≤ s.length) (h : partL s = (cutL [93, 93, 62] (s.drop 9)).map fun q => (q.1, [], q.2)) : (untilN [93, 93, 62] s 9 = 0 ∧ partL s = none) ∨ (12 ≤ untilN [93, 93, 62] s 9 ∧ RPart s ((s.take (untilN [93, 93, 62] s 9 - 3)).drop 9) [] (untilN [93, 93, 62] s 9)) := by
  unfold untilN
  cases hc : cutL [93, 93, 62] (s.drop 9) with
  | none => exact .inl ⟨rfl, by rw [h, hc]; rfl⟩
  | some q =>
    obtain ⟨a, b⟩ := q
    obtain ⟨e1, e2, e3⟩ := cut_place hc hi
    have e4 : ([93, 93, 62] : Str).length = 3 := rfl
    have e5 : 9 + a.length + 3 - 3 = 9 + a.length := by omega
    have e6 := take_mid (cutL_some hc) hi
    rw [e4] at e2 e3
    refine .inr ⟨by dsimp only; rw [e4]; omega, .inr ⟨by dsimp only; rw [e4]; omega, e2, ?_⟩⟩
    rw [h, hc]
    dsimp only [Option.map_some]
    rw [e4, e5, e6, ← e3]
theorem contains_iff {c : UInt8} {t : Str} : t.contains c = true ↔ c ∈ t := by simp
theorem doc_part {s : Str} (hp : ([60, 33, 68, 79, 67, 84, 89, 80, 69] : Str).isPrefixOf s = true) (h : partL s = rdocT (s.drop 9)) :
    ((0 ≤ findZ [60] (s.take (untilN [62] s 9)) 1 ∨ 0 ≤ findZ [91] (s.take (untilN [62] s 9)) 1) → partL s = none) ∧
    (findZ [60] (s.take (untilN [62] s 9)) 1 < 0 → findZ [91] (s.take (untilN [62] s 9)) 1 < 0 → RPart s [] [] (untilN [62] s 9)) ∧ untilN [62] s 9 ≤ s.length := by
  have hi := pre_drop hp
  have hi9 : 9 ≤ s.length := hi
  obtain ⟨r, hr⟩ := List.isPrefixOf_iff_prefix.1 hp
  have e9 : s.drop 9 = r := by rw [← hr]; rfl
  unfold untilN
  cases hc : cutL [62] (s.drop 9) with
  | none =>
    have e : partL s = none := by rw [h]; unfold rdocT; rw [hc]
    exact ⟨fun _ => e, fun _ _ => .zero e, Nat.zero_le _⟩
  | some q =>
    obtain ⟨a, b⟩ := q
    obtain ⟨e1, e2, e3⟩ := cut_place hc hi9
    have e4 : ([62] : Str).length = 1 := rfl
    rw [e4] at e2 e3
    have e5 := cutL_some hc
    have e6 : (s.take (9 + a.length + 1)).drop 1 = [33, 68, 79, 67, 84, 89, 80, 69] ++ (a ++ [62]) := by
      rw [List.drop_take, ← hr]
      show List.take (9 + a.length + 1 - 1) ([33, 68, 79, 67, 84, 89, 80, 69] ++ r) = _
      rw [← e9, e5, show 9 + a.length + 1 - 1 = ([33, 68, 79, 67, 84, 89, 80, 69] : Str).length + (a ++ [62]).length from by simp; omega, List.take_length_add_append, ← List.append_assoc, List.take_left' rfl]
    have key : ∀ {c : UInt8}, c ∉ ([33, 68, 79, 67, 84, 89, 80, 69] : Str) → c ≠ 62 → (0 ≤ findZ [c] (s.take (9 + a.length + 1)) 1 ↔ c ∈ a) := by
      intro c h1 h2
      rw [find_take (s := s), e6]
      simp only [List.mem_append]
      exact ⟨fun h => by rcases h with h | h | h; exact absurd h h1; exact h; simp at h; exact absurd h h2, fun h => .inr (.inl h)⟩
    have k1 := key (c := 60) (by decide) (by decide)
    have k2 := key (c := 91) (by decide) (by decide)
    dsimp only
    rw [e4]
    refine ⟨fun hf => ?_, fun f1 f2 => ?_, e2⟩
    · rw [h]; unfold rdocT; rw [hc]; dsimp only
      rw [if_pos]
      rcases hf with hf | hf
      · rw [contains_iff.2 (k1.1 hf)]; rfl
      · rw [contains_iff.2 (k2.1 hf)]; simp
    · refine .inr ⟨by omega, e2, ?_⟩
      rw [h]; unfold rdocT; rw [hc]; dsimp only
      rw [if_neg, e3]
      intro hf
      rw [Bool.or_eq_true, contains_iff, contains_iff] at hf
      rcases hf with hf | hf
      · have := k1.2 hf; omega
      · have := k2.2 hf; omega
theorem close_part {s n : Str} {k : Nat} (_hi : 2 ≤ s.length) (h : partL s = (closeL (s.drop 2)).map fun q => ([], q.1, q.2)) (hn : nameL (s.drop 2) = n) (hk : blanksN (s.drop (2 + n.length)) = k) :
    ((n = [] ∨ ([62] : Str).isPrefixOf (s.drop (2 + n.length + k)) = false) → partL s = none) ∧ (n ≠ [] → ([62] : Str).isPrefixOf (s.drop (2 + n.length + k)) = true → RPart s [] [⟨2, n, [], []⟩] (2 + n.length + k + 1)) := by
  have hb : trimL ((s.drop 2).drop n.length) = s.drop (2 + n.length + k) := by rw [List.drop_drop]; exact blanks_at hk
  have hcl : closeL (s.drop 2) = if n.isEmpty then none else match s.drop (2 + n.length + k) with
    | 62 :: rest => some ([⟨2, n, [], []⟩], rest)
    | _ => none := by unfold closeL; rw [hn, hb]; rfl
  constructor
  · intro hd
    rw [h, hcl]
    rcases hd with rfl | hd
    · rfl
    · split
      · rfl
      · split
        · rename_i hr; rw [hr] at hd; simp [List.isPrefixOf] at hd
        · rfl
  · intro h0 hp
    obtain ⟨r, hr⟩ := List.isPrefixOf_iff_prefix.1 hp
    have hl := congrArg List.length hr
    rw [List.length_append, List.length_drop] at hl
    have hl1 : ([62] : Str).length = 1 := rfl
    refine .inr ⟨by omega, by omega, ?_⟩
    have e1 : s.drop (2 + n.length + k + 1) = r := by rw [← List.drop_drop, ← hr]; rfl
    rw [h, hcl, if_neg (by simpa using h0), ← hr, e1]; rfl
theorem tag_part {s : Str} (hi : 1 ≤ s.length) (h : partL s = (tagL (s.drop 1)).map fun q => ([], q.1, q.2)) : (tagL (s.drop 1) = none → partL s = none) ∧ ∀ {l : List TokD} {rest : Str}, tagL (s.drop 1) = some (l, rest) → RPart s [] l (s.length - rest.length) := by
  constructor
  · intro e; rw [h, e]; rfl
  · intro l rest e
    have h1 := tag_suf e
    have h2 := h1.length_le
    rw [List.length_drop] at h2
    have h3 := h1.trans (List.drop_suffix 1 s)
    exact .inr ⟨by omega, by omega, by rw [h, e, ← suf_drop h3]; rfl⟩
end Go.Proofs.YtpinjgdnhbogoaaGreatDoor

/- The reference's Read, step by step (no program). -/
namespace Go.Proofs.YtpinjgdnhbogoaaGreatDoor

theorem cut1_fresh {c : UInt8} : ∀ {s a b : Str}, cutL [c] s = some (a, b) → c ∉ a
  | [], _, _, h => by simp [cutL] at h
  | x :: t, a, b, h => by
    rw [cut1_cons] at h
    by_cases hx : x = c
    · rw [if_pos hx] at h
      simp only [Option.some.injEq, Prod.mk.injEq] at h
      obtain ⟨rfl, _⟩ := h
      simp
    · rw [if_neg hx] at h
      cases hc : cutL [c] t with
      | none => rw [hc] at h; cases h
      | some q =>
        rw [hc] at h
        simp only [Option.map_some, Option.some.injEq, Prod.mk.injEq] at h
        obtain ⟨rfl, _⟩ := h
        have := cut1_fresh (a := q.1) (b := q.2) hc
        simp only [List.mem_cons, not_or]
        exact ⟨fun e => hx e.symm, this⟩
/-- the end of a text that begins at a place -/
def segN (s : Str) (i : Nat) : Nat := match cutL [60] (s.drop i) with | none => s.length | some q => i + q.1.length
theorem seg_none {s : Str} {i : Nat} (h : findZ [60] s i < 0) : segN s i = s.length := by unfold segN; rw [find_none h]
theorem seg_some {s : Str} {i : Nat} (h : ¬ findZ [60] s i < 0) : ((segN s i : Nat) : Int) = findZ [60] s i := by
  obtain ⟨a, b, h1, h2, _⟩ := find_some h
  unfold segN
  rw [h1, h2]
theorem seg_parts {s : Str} {i : Nat} (hi : i < s.length) (hc : s.getD i 0 ≠ 60) : i < segN s i ∧ segN s i ≤ s.length ∧ s.drop i = (s.take (segN s i)).drop i ++ s.drop (segN s i) ∧ 60 ∉ (s.take (segN s i)).drop i ∧ (s.drop (segN s i) = [] ∨ ∃ t, s.drop (segN s i) = 60 :: t) := by
  unfold segN
  cases h : cutL [60] (s.drop i) with
  | none =>
    dsimp only
    rw [List.take_length, List.drop_length]
    exact ⟨hi, Nat.le_refl _, by simp, cut1_none.1 h, .inl rfl⟩
  | some q =>
    obtain ⟨a, b⟩ := q
    dsimp only
    have e1 := cutL_some h
    have e2 := take_mid e1 (Nat.le_of_lt hi)
    obtain ⟨e3, e4, e5⟩ := cut_place h (Nat.le_of_lt hi)
    have e6 : ([60] : Str).length = 1 := rfl
    rw [e6] at e3 e4 e5
    have e7 : s.drop (i + a.length) = 60 :: b := by rw [← List.drop_drop, e1, List.drop_left]; rfl
    rw [e2, e7]
    refine ⟨?_, by omega, e1, cut1_fresh h, .inr ⟨b, rfl⟩⟩
    cases a with
    | nil =>
      rw [drop_getD hi] at e1
      injection e1 with e1 _
      exact absurd e1 hc
    | cons x a => simp
theorem RdTo.seg {s words : Str} {l : List TokD} {i : Nat} (h : RdTo s l words (s.drop i)) (hi : i < s.length) (hc : s.getD i 0 ≠ 60) {u : Str} (hs : saidL ((s.take (segN s i)).drop i) = .ok u) : RdTo s l (words ++ u) (s.drop (segN s i)) := by
  obtain ⟨h1, h2, h3, h4, h5⟩ := seg_parts hi hc
  rw [h3] at h
  refine h.text (fun e => ?_) h4 h5 hs
  have := congrArg List.length e
  rw [List.length_drop, List.length_take] at this
  simp at this
  omega
theorem RdTo.segBad {s words : Str} {l : List TokD} {i k : Nat} (h : RdTo s l words (s.drop i)) (hi : i < s.length) (hc : s.getD i 0 ≠ 60) (hs : saidL ((s.take (segN s i)).drop i) = .error k) : readL s = .error (i + k) := by
  obtain ⟨h1, h2, h3, h4, h5⟩ := seg_parts hi hc
  have h0 := h
  rw [h3] at h
  rw [h.textBad (fun e => ?_) h4 h5 hs, ← h3, List.length_drop]
  · congr 2; omega
  · have := congrArg List.length e
    rw [List.length_drop, List.length_take] at this
    simp at this
    omega
section
variable {s words : Str} {l : List TokD} {i : Nat} (h : RdTo s l words (s.drop i)) (hi : i < s.length) (hc : s.getD i 0 = 60)
include h hi hc
theorem RdTo.noPart (hp : partL (s.drop i) = none) : readL s = .error i := by
  rw [drop_getD hi, hc] at h hp
  rw [h.partBad hp]
  congr 1
  rw [List.length_cons, List.length_drop]; omega
theorem RdTo.quiet {u : Str} {n : Nat} (hn : 0 < n) (hp : RPart (s.drop i) u [] n) : RdTo s l (words ++ u) (s.drop (i + n)) := by
  rcases hp with ⟨e, _⟩ | ⟨_, _, hp⟩
  · omega
  · rw [List.drop_drop, drop_getD hi, hc] at hp
    rw [drop_getD hi, hc] at h
    exact h.part0 hp
theorem RdTo.loud {u : Str} {n : Nat} {toks : List TokD} (hn : 0 < n) (hp : RPart (s.drop i) u toks n) (h0 : toks ≠ []) : RdTo s (flushL l (words ++ u) ++ toks) [] (s.drop (i + n)) := by
  rcases hp with ⟨e, _⟩ | ⟨_, _, hp⟩
  · omega
  · rw [List.drop_drop, drop_getD hi, hc] at hp
    rw [drop_getD hi, hc] at h
    exact h.part1 hp h0
end
theorem RPart.le {s u : Str} {l : List TokD} {n : Nat} (h : RPart s u l n) : n ≤ s.length := by
  rcases h with ⟨rfl, _⟩ | ⟨_, h, _⟩
  · exact Nat.zero_le _
  · exact h
theorem RPart.bad {s u : Str} {l : List TokD} (h : RPart s u l 0) : partL s = none := by
  rcases h with ⟨_, h⟩ | ⟨h, _, _⟩
  · exact h
  · omega
theorem RPart.out {s u : Str} {l : List TokD} {n : Nat} (hn : 0 < n) (h : RPart s u l n) : u.length ≤ s.length ∧ l.length ≤ 2 := by
  rcases h with ⟨e, _⟩ | ⟨_, _, h⟩
  · omega
  · have := partL_out h; omega
theorem RdTo.done {s words : Str} {l : List TokD} (h : RdTo s l words (s.drop s.length)) : readL s = .ok (flushL l words) := by
  rw [List.drop_length] at h; exact h.last
end Go.Proofs.YtpinjgdnhbogoaaGreatDoor
