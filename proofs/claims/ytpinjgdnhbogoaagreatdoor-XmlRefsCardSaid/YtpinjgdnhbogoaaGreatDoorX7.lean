/- What is written is read (no program). -/
import Derived.Test.YtpinjgdnhbogoaaGreatDoorX6
namespace Go.Proofs.YtpinjgdnhbogoaaGreatDoor

def NameOK (n : Str) : Prop := n ≠ [] ∧ nameL n = n
theorem name_idem (s : Str) : nameL (nameL s) = nameL s := by
  cases s with
  | nil => rfl
  | cons c r =>
    have e1 : nameL (c :: r) = if beginsC c = true then c :: r.takeWhile goesC else [] := rfl
    rw [e1]
    by_cases hb : beginsC c = true
    · rw [if_pos hb]
      show (if beginsC c = true then c :: (r.takeWhile goesC).takeWhile goesC else []) = _
      have e2 : ∀ l : Str, (l.takeWhile goesC).takeWhile goesC = l.takeWhile goesC := by
        intro l
        induction l with
        | nil => rfl
        | cons x y ih =>
          rw [List.takeWhile_cons]
          by_cases h : goesC x = true
          · rw [if_pos h, List.takeWhile_cons, if_pos h, ih]
          · rw [if_neg h]; rfl
      rw [if_pos hb, e2]
    · rw [if_neg hb]; rfl
theorem nameOK_of {s : Str} (h : ¬ (nameL s).isEmpty = true) : NameOK (nameL s) := ⟨fun e => h (by rw [e]; rfl), name_idem s⟩
theorem NameOK.first {n : Str} (h : NameOK n) : ∃ c t, n = c :: t ∧ beginsC c = true := by
  obtain ⟨h1, h2⟩ := h
  obtain ⟨c, t, rfl⟩ := List.exists_cons_of_ne_nil h1
  refine ⟨c, t, rfl, ?_⟩
  by_cases hb : beginsC c = true
  · exact hb
  · rw [show nameL (c :: t) = if beginsC c = true then c :: t.takeWhile goesC else [] from rfl, if_neg hb] at h2; cases h2
theorem NameOK.stop {n : Str} (h : NameOK n) {c : UInt8} (hc : goesC c = false) (r : Str) : nameL (n ++ c :: r) = n := by
  obtain ⟨x, t, rfl, hb⟩ := h.first
  have h2 := h.2
  rw [show nameL (x :: t) = if beginsC x = true then x :: t.takeWhile goesC else [] from rfl, if_pos hb] at h2
  have ht : t.takeWhile goesC = t := (List.cons.inj h2).2
  show (if beginsC x = true then x :: (t ++ c :: r).takeWhile goesC else []) = _
  rw [if_pos hb, List.takeWhile_append_of_pos (fun a ha => by rw [← ht] at ha; exact List.all_eq_true.1 (List.all_takeWhile (l := t) (p := goesC)) a ha), List.takeWhile_cons, if_neg (by rw [hc]; simp), List.append_nil]
theorem NameOK.nonempty {n : Str} (h : NameOK n) : ¬ n.isEmpty = true := by
  obtain ⟨c, t, rfl, _⟩ := h.first; simp
theorem cut_at {q : UInt8} : ∀ {v : Str} (r : Str), q ∉ v → cutL [q] (v ++ q :: r) = some (v, r)
  | [], r, _ => by rw [List.nil_append, cut1_cons, if_pos rfl]
  | x :: v, r, h => by
    rw [List.cons_append, cut1_cons, if_neg (fun e => h (by rw [e]; exact List.mem_cons_self ..)), cut_at r (fun k => h (List.mem_cons_of_mem _ k))]; rfl
theorem trim_cons {c : UInt8} (s : Str) (h : blankC c = false) : trimL (c :: s) = c :: s := by
  unfold trimL; rw [List.dropWhile_cons, if_neg (by rw [h]; simp)]
theorem attrL_write {n : Str} (h : NameOK n) {q : UInt8} (hq : q = 34 ∨ q = 39) (v r : Str) : attrL (n ++ 61 :: q :: (escL v ++ q :: r)) = some (n, v, r) := by
  have h1 : nameL (n ++ 61 :: q :: (escL v ++ q :: r)) = n := h.stop (by decide) _
  have hq1 : blankC q = false := by rcases hq with rfl | rfl <;> decide
  have hq2 : q ∉ escL v := esc_mem (by rcases hq with rfl | rfl <;> simp) v
  have h60 : ¬ (escL v).contains 60 = true := by simpa using esc_mem (x := 60) (.inl rfl) v
  unfold attrL
  rw [h1, if_neg h.nonempty, List.drop_left, trim_cons _ (by decide)]
  show (match trimL (q :: (escL v ++ q :: r)) with
      | q :: s4 => if q = 34 ∨ q = 39 then
          match cutL [q] s4 with
          | none => none
          | some (value, rest) => match saidL value with
            | .error _ => none
            | .ok v => if value.contains 60 then none else some (n, v, rest)
        else none
      | [] => none) = some (n, v, r)
  rw [trim_cons _ hq1]
  simp only []
  rw [if_pos hq, cut_at r hq2]
  simp only [saidL_esc]
  rw [if_neg h60]
theorem attrs_end (l : List (Str × Str)) (r : Str) : attrsL l (62 :: r) = some (l, false, r) := by
  rw [attrsL_step, trim_cons _ (by decide)]
  rfl
theorem attrs_self (l : List (Str × Str)) (r : Str) : attrsL l (47 :: 62 :: r) = some (l, true, r) := by
  rw [attrsL_step, trim_cons _ (by decide)]
  rfl
theorem attrs_one {n : Str} (h : NameOK n) {q : UInt8} (hq : q = 34 ∨ q = 39) (l : List (Str × Str)) (v r : Str) (hl : l.any (fun b => b.1 == n) = false) : attrsL l (32 :: (n ++ 61 :: q :: (escL v ++ q :: r))) = attrsL (l ++ [(n, v)]) r := by
  obtain ⟨c, t, rfl, hb⟩ := h.first
  have hbl : blankC c = false := by
    by_cases k : blankC c = true
    · exfalso
      unfold blankC at k
      simp only [Bool.or_eq_true, beq_iff_eq] at k
      rcases k with ((rfl | rfl) | rfl) | rfl <;> (revert hb; decide)
    · simpa using k
  have n1 : c ≠ 47 := by rintro rfl; revert hb; decide
  have n2 : c ≠ 62 := by rintro rfl; revert hb; decide
  have htr : trimL (32 :: (c :: t ++ 61 :: q :: (escL v ++ q :: r))) = c :: t ++ 61 :: q :: (escL v ++ q :: r) := by
    unfold trimL
    rw [List.dropWhile_cons, if_pos (by decide), List.cons_append, List.dropWhile_cons, if_neg (by rw [hbl]; simp)]
  rw [attrsL_step, htr]
  have p1 : ¬ [47, 62].isPrefixOf (c :: t ++ 61 :: q :: (escL v ++ q :: r)) = true := by
    intro k
    obtain ⟨z, hz⟩ := List.isPrefixOf_iff_prefix.1 k
    exact n1 (List.cons.inj hz).1.symm
  have p2 : ¬ [62].isPrefixOf (c :: t ++ 61 :: q :: (escL v ++ q :: r)) = true := by
    intro k
    obtain ⟨z, hz⟩ := List.isPrefixOf_iff_prefix.1 k
    exact n2 (List.cons.inj hz).1.symm
  rw [if_neg p1, if_neg p2, if_neg (by simp), attrL_write h hq]
  dsimp only
  rw [hl]; rfl
/-- names of attributes that are right: each is a name, none stands twice -/
def AttrsOK (l : List (Str × Str)) : Prop := (∀ a ∈ l, NameOK a.1) ∧ (l.map (·.1)).Nodup
theorem attrs_write : ∀ (as l : List (Str × Str)) (r : Str), AttrsOK (l ++ as) → attrsL l (as.flatMap attrW ++ 62 :: r) = some (l ++ as, false, r)
  | [], l, r, _ => by rw [List.append_nil]; exact attrs_end l r
  | a :: as, l, r, h => by
    have ha : NameOK a.1 := h.1 a (by simp)
    have hl : l.any (fun b => b.1 == a.1) = false := by
      have h2 := h.2
      rw [List.map_append, List.nodup_append] at h2
      rw [List.any_eq_false]
      intro b hb hk
      exact h2.2.2 b.1 (List.mem_map_of_mem hb) a.1 (by simp) (by simpa using hk)
    have e : (a :: as).flatMap attrW ++ 62 :: r = 32 :: (a.1 ++ 61 :: 34 :: (escL a.2 ++ 34 :: (as.flatMap attrW ++ 62 :: r))) := by
      rw [List.flatMap_cons]; simp [attrW]
    rw [e, attrs_one ha (.inl rfl) l a.2 _ hl, attrs_write as (l ++ [a]) r (by simpa using h)]
    simp
theorem attrs_head (as : List (Str × Str)) (r : Str) : ∃ c t, as.flatMap attrW ++ 62 :: r = c :: t ∧ goesC c = false := by
  cases as with
  | nil => exact ⟨62, r, rfl, by decide⟩
  | cons a as => exact ⟨32, _, rfl, by decide⟩
theorem tag_write {n : Str} (h : NameOK n) {as : List (Str × Str)} (ha : AttrsOK as) (r : Str) : tagL (n ++ (as.flatMap attrW ++ 62 :: r)) = some ([⟨1, n, as, []⟩], r) := by
  obtain ⟨c, t, e, hc⟩ := attrs_head as r
  have h1 : nameL (n ++ (as.flatMap attrW ++ 62 :: r)) = n := by rw [e]; exact h.stop hc t
  unfold tagL
  rw [h1, if_neg h.nonempty, List.drop_left, attrsL_eq (by simp; omega), attrs_write as [] r (by simpa using ha)]
  rfl
theorem part_tag {c : UInt8} (hb : beginsC c = true) (s : Str) : partL (60 :: c :: s) = (tagL (c :: s)).map fun q => ([], q.1, q.2) := by
  have n1 : (33 : UInt8) ≠ c := by rintro rfl; revert hb; decide
  have n2 : (63 : UInt8) ≠ c := by rintro rfl; revert hb; decide
  have n3 : (47 : UInt8) ≠ c := by rintro rfl; revert hb; decide
  unfold partL
  rw [strip_other n1, strip_other n2, strip_other n1, strip_other n1, strip_other n3]
  rfl
theorem part_open {n : Str} (h : NameOK n) {as : List (Str × Str)} (ha : AttrsOK as) (r : Str) : partL (60 :: (n ++ (as.flatMap attrW ++ 62 :: r))) = some ([], [⟨1, n, as, []⟩], r) := by
  have ht := tag_write h ha r
  obtain ⟨c, t, rfl, hb⟩ := h.first
  rw [List.cons_append] at ht ⊢
  rw [part_tag hb, ht]; rfl
theorem part_close {n : Str} (h : NameOK n) (r : Str) : partL (60 :: 47 :: (n ++ 62 :: r)) = some ([], [⟨2, n, [], []⟩], r) := by
  have h1 : nameL (n ++ 62 :: r) = n := h.stop (by decide) r
  unfold partL
  rw [strip_other (by decide), strip_other (by decide), strip_other (by decide), strip_other (by decide)]
  have e : stripL [60, 47] (60 :: 47 :: (n ++ 62 :: r)) = some (n ++ 62 :: r) := rfl
  rw [e]
  dsimp only
  unfold closeL
  rw [h1, if_neg h.nonempty, List.drop_left, trim_cons _ (by decide)]
  rfl

/-- a token as reading gives it -/
def TokOK (t : TokD) : Prop :=
  (t.kind = 1 ∧ NameOK t.name ∧ AttrsOK t.attrs ∧ t.text = []) ∨ (t.kind = 2 ∧ NameOK t.name ∧ t.attrs = [] ∧ t.text = []) ∨ (t.kind = 3 ∧ t.name = [] ∧ t.attrs = [] ∧ t.text ≠ [])
def notWords : List TokD → Prop
  | [] => True
  | t :: _ => t.kind ≠ 3
/-- tokens as reading gives them: no words beside words -/
inductive Good : List TokD → Prop
  | nil : Good []
  | cons {t : TokD} {l : List TokD} : TokOK t → (t.kind = 3 → notWords l) → Good l → Good (t :: l)
theorem esc_ne {s : Str} (h : s ≠ []) : escL s ≠ [] := by
  obtain ⟨c, t, rfl⟩ := List.exists_cons_of_ne_nil h
  rw [escL_cons]
  unfold escC
  repeat' split
  all_goals simp
theorem write_next {l : List TokD} (h : Good l) (hn : notWords l) : Next (writeL l) := by
  cases h with
  | nil => exact .inl rfl
  | cons ht _ _ =>
    rename_i t l'
    unfold writeL
    rw [List.flatMap_cons]
    rcases ht with ⟨k, _⟩ | ⟨k, _⟩ | ⟨k, _⟩
    · right; unfold tokW; rw [if_pos k]; exact ⟨_, rfl⟩
    · right; unfold tokW; rw [if_neg (by rw [k]; decide), if_pos k]; exact ⟨_, rfl⟩
    · exact absurd k hn
theorem flush_nil (l : List TokD) : flushL l [] = l := rfl
theorem flush_words (l : List TokD) {w : Str} (h : w ≠ []) : flushL l w = l ++ [⟨3, [], [], w⟩] := by
  unfold flushL; rw [if_neg (by simpa using h)]
theorem read_write : ∀ {l : List TokD}, Good l → ∀ (k : Nat) (l0 : List TokD) (w : Str), (w = [] ∨ notWords l) → readG k l0 w (writeL l) = .ok (flushL l0 w ++ l)
  | [], _, k, l0, w, _ => by rw [List.append_nil]; rfl
  | t :: l, .cons ht hw hl, k, l0, w, hor => by
    have e : writeL (t :: l) = tokW t ++ writeL l := rfl
    rw [e]
    obtain ⟨kd, nm, as, tx⟩ := t
    rcases ht with ⟨h1, h2, h3, h4⟩ | ⟨h1, h2, h3, h4⟩ | ⟨h1, h2, h3, h4⟩
    · simp only at h1 h2 h3 h4
      subst h1; subst h4
      have e2 : tokW ⟨1, nm, as, []⟩ ++ writeL l = 60 :: (nm ++ (as.flatMap attrW ++ 62 :: writeL l)) := by simp [tokW]
      rw [e2, readG_part (part_open h2 h3 _), if_neg (by simp), read_write hl _ _ [] (.inl rfl), flush_nil, List.append_nil]
      simp
    · simp only at h1 h2 h3 h4
      subst h1; subst h3; subst h4
      have e2 : tokW ⟨2, nm, [], []⟩ ++ writeL l = 60 :: 47 :: (nm ++ 62 :: writeL l) := by simp [tokW]
      rw [e2, readG_part (part_close h2 _), if_neg (by simp), read_write hl _ _ [] (.inl rfl), flush_nil, List.append_nil]
      simp
    · simp only at h1 h2 h3 h4
      subst h1; subst h2; subst h3
      have hw' := hw rfl
      have hwe : w = [] := by rcases hor with h | h; exact h; exact absurd rfl h
      subst hwe
      have e2 : tokW ⟨3, [], [], tx⟩ = escL tx := by simp [tokW]
      rw [e2, readG_text (esc_ne h4) (esc_mem (.inl rfl) _) (write_next hl hw'), saidL_esc]
      dsimp only
      rw [List.nil_append, read_write hl _ _ tx (.inr hw'), flush_words _ h4, flush_nil]
      simp
end Go.Proofs.YtpinjgdnhbogoaaGreatDoor
