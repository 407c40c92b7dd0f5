/- Texts one behind another; what changes nothing (no program). -/
import Derived.Test.YtpinjgdnhbogoaaGreatDoorX8
namespace Go.Proofs.YtpinjgdnhbogoaaGreatDoor

theorem readG_zero {k : Nat} {l : List TokD} {s : Str} : readG k l [] s = match readL s with | .ok r => .ok (l ++ r) | .error i => .error (k + i) := by
  have := readG_shift (s.length + 1) s k 0 l [] [] (Nat.lt_succ_self _)
  rw [Nat.add_zero, List.append_nil] at this
  exact this
theorem tag_q (b r : Str) (hb : b.all blankC = true) (n : UInt8) (hn : beginsC n = true) : partL (60 :: n :: (b ++ 47 :: 62 :: r)) = some ([], [⟨1, [n], [], []⟩, ⟨2, [n], [], []⟩], r) := by
  have hok : NameOK [n] := ⟨by simp, by rw [show nameL [n] = if beginsC n = true then n :: ([] : Str).takeWhile goesC else [] from rfl, if_pos hn]; rfl⟩
  have hstop : nameL (n :: (b ++ 47 :: 62 :: r)) = [n] := by
    cases b with
    | nil => exact hok.stop (c := 47) (by decide) _
    | cons c t =>
      have hc : blankC c = true := by simp at hb; exact hb.1
      have hg : goesC c = false := by
        unfold blankC at hc
        simp only [Bool.or_eq_true, beq_iff_eq] at hc
        rcases hc with ((rfl | rfl) | rfl) | rfl <;> decide
      exact hok.stop (c := c) hg _
  have htr : trimL (b ++ 47 :: 62 :: r) = 47 :: 62 :: r := by
    unfold trimL
    rw [List.dropWhile_append_of_pos (fun a ha => List.all_eq_true.1 hb a ha)]
    rw [List.dropWhile_cons, if_neg (by decide)]
  rw [part_tag hn]
  unfold tagL
  rw [hstop, if_neg (by simp), attrsL_eq (by simp; omega)]
  have e : attrsL [] (List.drop ([n] : Str).length (n :: (b ++ 47 :: 62 :: r))) = some ([], true, r) := by
    show attrsL [] (b ++ 47 :: 62 :: r) = _
    rw [attrsL_step, htr]; rfl
  rw [e]
  rfl
theorem tag_open (b r : Str) (hb : b.all blankC = true) (n : UInt8) (hn : beginsC n = true) : partL (60 :: n :: (b ++ 62 :: r)) = some ([], [⟨1, [n], [], []⟩], r) := by
  have hok : NameOK [n] := ⟨by simp, by rw [show nameL [n] = if beginsC n = true then n :: ([] : Str).takeWhile goesC else [] from rfl, if_pos hn]; rfl⟩
  have hstop : nameL (n :: (b ++ 62 :: r)) = [n] := by
    cases b with
    | nil => exact hok.stop (c := 62) (by decide) _
    | cons c t =>
      have hc : blankC c = true := by simp at hb; exact hb.1
      have hg : goesC c = false := by
        unfold blankC at hc
        simp only [Bool.or_eq_true, beq_iff_eq] at hc
        rcases hc with ((rfl | rfl) | rfl) | rfl <;> decide
      exact hok.stop (c := c) hg _
  have htr : trimL (b ++ 62 :: r) = 62 :: r := by
    unfold trimL
    rw [List.dropWhile_append_of_pos (fun a ha => List.all_eq_true.1 hb a ha)]
    rw [List.dropWhile_cons, if_neg (by decide)]
  rw [part_tag hn]
  unfold tagL
  rw [hstop, if_neg (by simp), attrsL_eq (by simp; omega)]
  have e : attrsL [] (List.drop ([n] : Str).length (n :: (b ++ 62 :: r))) = some ([], false, r) := by
    show attrsL [] (b ++ 62 :: r) = _
    rw [attrsL_step, htr]; rfl
  rw [e]
  rfl
theorem tag_close (b r : Str) (hb : b.all blankC = true) (n : UInt8) (hn : beginsC n = true) : partL (60 :: 47 :: n :: (b ++ 62 :: r)) = some ([], [⟨2, [n], [], []⟩], r) := by
  have hok : NameOK [n] := ⟨by simp, by rw [show nameL [n] = if beginsC n = true then n :: ([] : Str).takeWhile goesC else [] from rfl, if_pos hn]; rfl⟩
  have hstop : nameL (n :: (b ++ 62 :: r)) = [n] := by
    cases b with
    | nil => exact hok.stop (c := 62) (by decide) _
    | cons c t =>
      have hc : blankC c = true := by simp at hb; exact hb.1
      have hg : goesC c = false := by
        unfold blankC at hc
        simp only [Bool.or_eq_true, beq_iff_eq] at hc
        rcases hc with ((rfl | rfl) | rfl) | rfl <;> decide
      exact hok.stop (c := c) hg _
  have htr : trimL (b ++ 62 :: r) = 62 :: r := by
    unfold trimL
    rw [List.dropWhile_append_of_pos (fun a ha => List.all_eq_true.1 hb a ha)]
    rw [List.dropWhile_cons, if_neg (by decide)]
  have hcl : closeL (n :: (b ++ 62 :: r)) = some ([⟨2, [n], [], []⟩], r) := by
    unfold closeL
    rw [hstop, if_neg (by simp)]
    rw [show List.drop ([n] : Str).length (n :: (b ++ 62 :: r)) = b ++ 62 :: r from rfl, htr]
    rfl
  unfold partL
  rw [strip_other (by decide), strip_other (by decide), strip_other (by decide), strip_other (by decide)]
  have e : stripL [60, 47] (60 :: 47 :: n :: (b ++ 62 :: r)) = some (n :: (b ++ 62 :: r)) := rfl
  rw [e]
  dsimp only
  rw [hcl]; rfl

/-! ### XmlJoins -/
def qTag : Str := [60, 113, 47, 62]
theorem read_join {s : Str} {a : List TokD} (h : readL s = .ok a) (t : Str) : readL (s ++ (qTag ++ t)) = match readL t with | .ok b => .ok (a ++ (⟨1, [113], [], []⟩ :: ⟨2, [113], [], []⟩ :: b)) | .error i => .error (s.length + 4 + i) := by
  obtain ⟨l', w', e1, e2⟩ := readG_more (s.length + 1) s 0 [] [] (Nat.lt_succ_self _) h
  have hq := tag_q [] t rfl 113 (by decide)
  have e3 := e2 (qTag ++ t) (.inr ⟨_, rfl⟩)
  show readG 0 [] [] _ = _
  rw [e3]
  show readG (0 + s.length) l' w' (60 :: 113 :: ([] ++ 47 :: 62 :: t)) = _
  rw [readG_part hq, if_neg (by simp), readG_zero, List.append_nil, ← e1]
  have e4 : 0 + s.length + ((60 :: 113 :: ([] ++ 47 :: 62 :: t)).length - t.length) = s.length + 4 := by simp; omega
  cases readL t with
  | ok b => simp
  | error i => simp only [e4]

/-! ### XmlSilent -/
theorem comment_cut {c r : Str} (h : 45 ∉ c) : cutL [45, 45, 62] (c ++ 45 :: 45 :: 62 :: r) = some (c, r) := by
  induction c with
  | nil =>
    show cutL [45, 45, 62] (45 :: 45 :: 62 :: r) = _
    unfold cutL; rw [if_pos (by simp [List.isPrefixOf])]; rfl
  | cons x c ih =>
    rw [List.cons_append]
    unfold cutL
    have hx : ¬ ([45, 45, 62] : Str).isPrefixOf (x :: (c ++ 45 :: 45 :: 62 :: r)) = true := by
      intro k
      obtain ⟨z, hz⟩ := List.isPrefixOf_iff_prefix.1 k
      exact h (by rw [← (List.cons.inj hz).1]; exact List.mem_cons_self ..)
    rw [if_neg hx, ih (fun k => h (List.mem_cons_of_mem _ k))]; rfl
theorem instr_cut {c r : Str} (h : 63 ∉ c) : cutL [63, 62] (c ++ 63 :: 62 :: r) = some (c, r) := by
  induction c with
  | nil =>
    show cutL [63, 62] (63 :: 62 :: r) = _
    unfold cutL; rw [if_pos (by simp [List.isPrefixOf])]; rfl
  | cons x c ih =>
    rw [List.cons_append]
    unfold cutL
    have hx : ¬ ([63, 62] : Str).isPrefixOf (x :: (c ++ 63 :: 62 :: r)) = true := by
      intro k
      obtain ⟨z, hz⟩ := List.isPrefixOf_iff_prefix.1 k
      exact h (by rw [← (List.cons.inj hz).1]; exact List.mem_cons_self ..)
    rw [if_neg hx, ih (fun k => h (List.mem_cons_of_mem _ k))]; rfl
theorem part_comment {c : Str} (r : Str) (h : 45 ∉ c) : partL (60 :: 33 :: 45 :: 45 :: (c ++ 45 :: 45 :: 62 :: r)) = some ([], [], r) := by
  unfold partL
  have e : stripL [60, 33, 45, 45] (60 :: 33 :: 45 :: 45 :: (c ++ 45 :: 45 :: 62 :: r)) = some (c ++ 45 :: 45 :: 62 :: r) := rfl
  rw [e]
  dsimp only
  rw [comment_cut h]; rfl
theorem part_instr {c : Str} (r : Str) (h : 63 ∉ c) : partL (60 :: 63 :: (c ++ 63 :: 62 :: r)) = some ([], [], r) := by
  unfold partL
  have e : stripL [60, 63] (60 :: 63 :: (c ++ 63 :: 62 :: r)) = some (c ++ 63 :: 62 :: r) := rfl
  rw [strip_other (by decide), e]
  dsimp only
  rw [instr_cut h]; rfl
def silentT (c s b : Str) : Str :=
  60 :: 33 :: 45 :: 45 :: (c ++ 45 :: 45 :: 62 :: (s ++ 60 :: 63 :: (c ++ 63 :: 62 :: 60 :: 113 :: (b ++ 47 :: 62 :: 60 :: 114 :: (b ++ 62 :: 60 :: 47 :: 114 :: (b ++ 62 :: []))))))
theorem read_silent {s c b : Str} {a : List TokD} (h : readL s = .ok a) (h1 : 45 ∉ c) (h2 : 63 ∉ c) (hb : b.all blankC = true) :
    readL (silentT c s b) = .ok (a ++ [⟨1, [113], [], []⟩, ⟨2, [113], [], []⟩, ⟨1, [114], [], []⟩, ⟨2, [114], [], []⟩]) := by
  obtain ⟨l', w', e1, e2⟩ := readG_more (s.length + 1) s 0 [] [] (Nat.lt_succ_self _) h
  show readG 0 [] [] _ = _
  unfold silentT
  rw [readG_part (part_comment _ h1), if_pos (show ([] : List TokD).isEmpty = true from rfl), List.append_nil]
  have e3 : ∀ k x, Next x → readG k [] [] (s ++ x) = match readG (0 + s.length) l' w' x with | .ok r => .ok r | .error i => .error (k + i) := by
    intro k x hx
    have := readG_shift ((s ++ x).length + 1) (s ++ x) k 0 [] [] [] (Nat.lt_succ_self _)
    rw [Nat.add_zero, List.append_nil, e2 x hx] at this
    rw [this]
    cases readG (0 + s.length) l' w' x <;> rfl
  rw [e3 _ _ (.inr ⟨_, rfl⟩), readG_part (part_instr _ h2), if_pos (show ([] : List TokD).isEmpty = true from rfl), List.append_nil, readG_part (tag_q b _ hb 113 (by decide)), if_neg (by simp), readG_part (tag_open b _ hb 114 (by decide)), if_neg (by simp), readG_part (tag_close b _ hb 114 (by decide)), if_neg (by simp), readG_nil]
  simp only [List.append_nil, flush_nil, ← e1]
  simp
end Go.Proofs.YtpinjgdnhbogoaaGreatDoor
