/- Layer 11 in plain words: what is read of a text, what is written, and the laws of both (no program). -/
import Derived.WalkKit
import Derived.Lib.IndexMore
import Derived.Lib.SlTrimSet
import Derived.Lib.Strings
/- What layer 11 reads of a text, in plain words (no program). -/
namespace Go.Proofs.YtpinjgdnhbogoaaGreatDoor

abbrev Str := List UInt8
structure TokD where
  kind : Int
  name : Str
  attrs : List (Str × Str)
  text : Str
deriving DecidableEq

def blankC (c : UInt8) : Bool := c == 32 || c == 9 || c == 10 || c == 13
def beginsC (c : UInt8) : Bool := (decide (65 ≤ c.toNat) && decide (c.toNat ≤ 90)) || (decide (97 ≤ c.toNat) && decide (c.toNat ≤ 122)) || c == 95 || c == 58 || decide (128 ≤ c.toNat)
def goesC (c : UInt8) : Bool := beginsC c || (decide (48 ≤ c.toNat) && decide (c.toNat ≤ 57)) || c == 46 || c == 45
def nameL : Str → Str
  | [] => []
  | c :: t => if beginsC c then c :: t.takeWhile goesC else []
def trimL (s : Str) : Str := s.dropWhile blankC
/-- what is ahead of a text, and behind it; none: it is not there -/
def cutL (p : Str) : Str → Option (Str × Str)
  | [] => if p.isEmpty then some ([], []) else none
  | x :: t => if p.isPrefixOf (x :: t) then some ([], (x :: t).drop p.length) else (cutL p t).map fun q => (x :: q.1, q.2)
def digV (c : UInt8) : Nat := if 48 ≤ c.toNat ∧ c.toNat ≤ 57 then c.toNat - 48 else if 97 ≤ c.toNat ∧ c.toNat ≤ 122 then c.toNat - 87 else if 65 ≤ c.toNat ∧ c.toNat ≤ 90 then c.toNat - 55 else 99
def numV (base : Nat) (l : Str) : Nat := l.foldl (fun v c => base * v + digV c) 0
def runeOK (v : Nat) : Bool := decide (1 ≤ v) && decide (v ≤ 1114111) && !(decide (55296 ≤ v) && decide (v ≤ 57343))
def utf8L (v : Nat) : Str :=
  if v < 128 then [UInt8.ofNat v]
  else if v < 2048 then [UInt8.ofNat (192 + v / 64), UInt8.ofNat (128 + v % 64)]
  else if v < 65536 then [UInt8.ofNat (224 + v / 4096), UInt8.ofNat (128 + v / 64 % 64), UInt8.ofNat (128 + v % 64)]
  else [UInt8.ofNat (240 + v / 262144), UInt8.ofNat (128 + v / 4096 % 64), UInt8.ofNat (128 + v / 64 % 64), UInt8.ofNat (128 + v % 64)]
def numL (base most : Nat) (ds : Str) : Option Str :=
  if !ds.isEmpty && ds.all (fun c => decide (digV c < base)) && decide (ds.length ≤ most) && runeOK (numV base ds) then some (utf8L (numV base ds)) else none
def bodyL (b : Str) : Option Str :=
  if b = [97, 109, 112] then some [38] else if b = [108, 116] then some [60] else if b = [103, 116] then some [62] else if b = [113, 117, 111, 116] then some [34] else if b = [97, 112, 111, 115] then some [39]
  else match b with
    | 35 :: 120 :: ds => numL 16 6 ds
    | 35 :: ds => numL 10 7 ds
    | _ => none
def refL (s : Str) : Option (Str × Str) := match cutL [59] s with | none => none | some (b, rest) => (bodyL b).map fun t => (t, rest)
/-- what a text says; else the place of what is no reference -/
def saidF : Nat → Str → Except Nat Str
  | 0, s => .ok s
  | n + 1, s => match cutL [38] s with
    | none => .ok s
    | some (plain, more) => match refL more with
      | none => .error plain.length
      | some (t, left) => match saidF n left with
        | .ok u => .ok (plain ++ (t ++ u))
        | .error k => .error (plain.length + 1 + (more.length - left.length) + k)
def saidL (s : Str) : Except Nat Str := saidF (s.length + 1) s
def attrL (s : Str) : Option (Str × Str × Str) :=
  if (nameL s).isEmpty then none
  else match trimL (s.drop (nameL s).length) with
    | 61 :: s2 => match trimL s2 with
      | q :: s4 => if q = 34 ∨ q = 39 then
          match cutL [q] s4 with
          | none => none
          | some (value, rest) => match saidL value with
            | .error _ => none
            | .ok v => if value.contains 60 then none else some (nameL s, v, rest)
        else none
      | [] => none
    | _ => none
/-- the attributes of a tag, whether it closes itself, and what is behind it -/
def attrsF : Nat → List (Str × Str) → Str → Option (List (Str × Str) × Bool × Str)
  | 0, _, _ => none
  | n + 1, l, s =>
    let rest := trimL s
    if [47, 62].isPrefixOf rest then some (l, true, rest.drop 2)
    else if [62].isPrefixOf rest then some (l, false, rest.drop 1)
    else if rest.length = s.length then none
    else match attrL rest with
      | none => none
      | some (a, v, left) => if l.any (fun b => b.1 == a) then none else attrsF n (l ++ [(a, v)]) left
def tagL (s : Str) : Option (List TokD × Str) :=
  if (nameL s).isEmpty then none
  else match attrsF (s.length + 1) [] (s.drop (nameL s).length) with
    | none => none
    | some (l, true, rest) => some ([⟨1, nameL s, l, []⟩, ⟨2, nameL s, [], []⟩], rest)
    | some (l, false, rest) => some ([⟨1, nameL s, l, []⟩], rest)
def stripL (p s : Str) : Option Str := if p.isPrefixOf s then some (s.drop p.length) else none
def closeL (s : Str) : Option (List TokD × Str) :=
  if (nameL s).isEmpty then none
  else match trimL (s.drop (nameL s).length) with
    | 62 :: rest => some ([⟨2, nameL s, [], []⟩], rest)
    | _ => none
def partL (s : Str) : Option (Str × List TokD × Str) :=
  match stripL [60, 33, 45, 45] s with
  | some r => (cutL [45, 45, 62] r).map fun q => ([], [], q.2)
  | none => match stripL [60, 63] s with
    | some r => (cutL [63, 62] r).map fun q => ([], [], q.2)
    | none => match stripL [60, 33, 91, 67, 68, 65, 84, 65, 91] s with
      | some r => (cutL [93, 93, 62] r).map fun q => (q.1, [], q.2)
      | none => match stripL [60, 33, 68, 79, 67, 84, 89, 80, 69] s with
        | some r => match cutL [62] r with
          | none => none
          | some (t, rest) => if t.contains 60 || t.contains 91 then none else some ([], [], rest)
        | none => match stripL [60, 47] s with
          | some r => (closeL r).map fun q => ([], q.1, q.2)
          | none => (tagL (s.drop 1)).map fun q => ([], q.1, q.2)
def flushL (l : List TokD) (words : Str) : List TokD := if words.isEmpty then l else l ++ [⟨3, [], [], words⟩]
/-- at: how many bytes are read -/
def readF : Nat → Nat → List TokD → Str → Str → Except Nat (List TokD)
  | 0, _, l, words, _ => .ok (flushL l words)
  | n + 1, at_, l, words, s => match s with
    | [] => .ok (flushL l words)
    | c :: t => if c ≠ 60 then
        match saidL ((c :: t).takeWhile (· ≠ 60)) with
        | .error k => .error (at_ + k)
        | .ok u => readF n (at_ + ((c :: t).takeWhile (· ≠ 60)).length) l (words ++ u) ((c :: t).dropWhile (· ≠ 60))
      else match partL (c :: t) with
        | none => .error at_
        | some (u, toks, left) =>
          if toks.isEmpty then readF n (at_ + ((c :: t).length - left.length)) l (words ++ u) left
          else readF n (at_ + ((c :: t).length - left.length)) (flushL l (words ++ u) ++ toks) [] left
def readL (s : Str) : Except Nat (List TokD) := readF (s.length + 1) 0 [] [] s
/-- the whole answer: tokens, error, place -/
def readD (s : Str) : List TokD × Int × Int := if 20000 < s.length then ([], 10, 0) else match readL s with | .error k => ([], 8, k) | .ok l => (l, 0, 0)
def ofS (s : String) : Str := s.toUTF8.data.toList

example : readD [60, 97, 32, 98, 61, 34, 49, 38, 97, 109, 112, 59, 50, 34, 62, 120, 60, 33, 45, 45, 32, 121, 32, 45, 45, 62, 60, 33, 91, 67, 68, 65, 84, 65, 91, 60, 122, 62, 93, 93, 62, 60, 47, 97, 62] = ([⟨1, [97], [([98], [49, 38, 50])], []⟩, ⟨3, [], [], [120, 60, 122, 62]⟩, ⟨2, [97], [], []⟩], 0, 0) := by decide +kernel
end Go.Proofs.YtpinjgdnhbogoaaGreatDoor

/- What layer 11 reads, in the library's words; what is known of cuts (no program). -/
namespace Go.Proofs.YtpinjgdnhbogoaaGreatDoor

theorem cutL_some : ∀ {p s a b : Str}, cutL p s = some (a, b) → s = a ++ (p ++ b)
  | p, [], a, b, h => by
    unfold cutL at h
    split at h
    · rename_i hp
      simp only [Option.some.injEq, Prod.mk.injEq] at h
      obtain ⟨rfl, rfl⟩ := h
      cases p with
      | nil => rfl
      | cons _ _ => simp at hp
    · cases h
  | p, x :: t, a, b, h => by
    unfold cutL at h
    split at h
    · rename_i hp
      simp only [Option.some.injEq, Prod.mk.injEq] at h
      obtain ⟨rfl, rfl⟩ := h
      obtain ⟨r, hr⟩ := List.isPrefixOf_iff_prefix.1 hp
      rw [← hr, List.drop_left]; rfl
    · cases hc : cutL p t with
      | none => rw [hc] at h; cases h
      | some q =>
        rw [hc] at h
        simp only [Option.map_some, Option.some.injEq, Prod.mk.injEq] at h
        obtain ⟨rfl, rfl⟩ := h
        have := cutL_some (a := q.1) (b := q.2) hc
        rw [List.cons_append, ← this]
theorem cutL_lens {p s a b : Str} (h : cutL p s = some (a, b)) : s.length = a.length + (p.length + b.length) := by
  rw [cutL_some h, List.length_append, List.length_append]
theorem index_cut : ∀ (p s : Str), Lib.index s p = match cutL p s with | some q => (q.1.length : Int) | none => -1
  | p, [] => by
    unfold Lib.index cutL
    cases hp : p.isEmpty <;> simp
  | p, x :: t => by
    unfold Lib.index cutL
    have ih := index_cut p t
    by_cases hp : p.isPrefixOf (x :: t) = true
    · rw [if_pos hp, if_pos hp]; rfl
    · rw [if_neg hp, if_neg hp]
      cases hc : cutL p t with
      | none => rw [hc] at ih; simp only at ih; rw [ih]; rfl
      | some q =>
        rw [hc] at ih
        simp only at ih
        rw [ih, if_neg (by simp)]
        simp
theorem cut_lib (p s : Str) : Lib.cut s p = match cutL p s with | some q => (q.1, q.2, true) | none => (s, [], false) := by
  have h := index_cut p s
  unfold Lib.cut
  cases hc : cutL p s with
  | none => rw [hc] at h; simp only at h; rw [h]; rfl
  | some q =>
    rw [hc] at h
    simp only at h
    rw [h, if_pos (by omega)]
    have e := cutL_some (a := q.1) (b := q.2) hc
    have e1 : ((q.1.length : Int)).toNat = q.1.length := by omega
    rw [e1]
    conv => lhs; rw [e]
    rw [List.take_left, ← List.drop_drop, List.drop_left, List.drop_left]
theorem contains_lib (s : Str) (c : UInt8) : Lib.contains s [c] = s.contains c := by
  unfold Lib.contains
  rw [index_cut]
  induction s with
  | nil => rfl
  | cons x t ih =>
    unfold cutL
    by_cases h : x = c
    · subst h
      simp [List.isPrefixOf]
    · have h1 : ([c] : Str).isPrefixOf (x :: t) = false := by simp [List.isPrefixOf]; exact fun e => h e.symm
      rw [h1, if_neg (by simp)]
      have h2 : (x :: t).contains c = t.contains c := by simp; intro e; exact absurd e.symm h
      rw [h2, ← ih]
      cases cutL [c] t with
      | none => rfl
      | some q =>
        have h3 : (0 : Int) ≤ ((x :: q.1).length : Int) := Int.natCast_nonneg _
        have h4 : (0 : Int) ≤ (q.1.length : Int) := Int.natCast_nonneg _
        show decide ((0 : Int) ≤ ((x :: q.1).length : Int)) = decide ((0 : Int) ≤ (q.1.length : Int))
        rw [decide_eq_true h3, decide_eq_true h4]
theorem trim_lib (s : Str) : Lib.trimLeftS s [32, 9, 10, 13] = trimL s := by
  unfold Lib.trimLeftS trimL
  congr 1
  funext c
  show List.contains [32, 9, 10, 13] c = blankC c
  unfold blankC
  simp only [List.contains_cons, List.contains_nil, Bool.or_false, Bool.or_assoc]
theorem strip_lib (p s : Str) : (Lib.trimPrefix s p, Lib.hasPrefix s p) = match stripL p s with | some r => (r, true) | none => (s, false) := by
  unfold Lib.trimPrefix Lib.hasPrefix stripL
  by_cases h : p.isPrefixOf s = true
  · rw [if_pos h, if_pos h, h]
  · rw [if_neg h, if_neg h]; simp [h]
theorem stripL_some {p s r : Str} (h : stripL p s = some r) : s = p ++ r := by
  unfold stripL at h
  split at h
  · rename_i hp
    obtain ⟨q, hq⟩ := List.isPrefixOf_iff_prefix.1 hp
    rw [← Option.some.inj h, ← hq, List.drop_left]
  · cases h
theorem name_le (s : Str) : (nameL s).length ≤ s.length := by
  cases s with
  | nil => simp [nameL]
  | cons c t =>
    show (if beginsC c = true then c :: t.takeWhile goesC else []).length ≤ t.length + 1
    by_cases h : beginsC c = true
    · rw [if_pos h]; have := (List.takeWhile_prefix (p := goesC) (l := t)).length_le; simp; omega
    · rw [if_neg h]; exact Nat.zero_le _
theorem trim_le (s : Str) : (trimL s).length ≤ s.length := (List.dropWhile_suffix blankC).length_le

/-! ### a cut of a longer text -/
end Go.Proofs.YtpinjgdnhbogoaaGreatDoor

/- What a text says, byte by byte; escaped texts (no program). -/
namespace Go.Proofs.YtpinjgdnhbogoaaGreatDoor

theorem cut1_cons (c x : UInt8) (t : Str) : cutL [c] (x :: t) = if x = c then some ([], t) else (cutL [c] t).map fun q => (x :: q.1, q.2) := by
  conv => lhs; unfold cutL
  by_cases h : x = c
  · subst h
    rw [if_pos (by simp [List.isPrefixOf]), if_pos rfl]; rfl
  · rw [if_neg (by simp [List.isPrefixOf]; exact fun e => h e.symm), if_neg h]
theorem refL_len {s t left : Str} (h : refL s = some (t, left)) : left.length < s.length := by
  unfold refL at h
  cases hc : cutL [59] s with
  | none => rw [hc] at h; cases h
  | some q =>
    rw [hc] at h
    have := cutL_lens (a := q.1) (b := q.2) hc
    cases hb : bodyL q.1 with
    | none => simp [hb] at h
    | some v =>
      simp [hb] at h
      rw [← h.2, this]; simp; omega
theorem saidF_fuel : ∀ (n m : Nat) (s : Str), s.length < n → s.length < m → saidF n s = saidF m s
  | 0, _, _, h, _ => by omega
  | _, 0, _, _, h => by omega
  | n + 1, m + 1, s, h1, h2 => by
    unfold saidF
    cases hc : cutL [38] s with
    | none => rfl
    | some q =>
      obtain ⟨plain, more⟩ := q
      have hl := cutL_lens hc
      dsimp only
      cases hr : refL more with
      | none => rfl
      | some p =>
        obtain ⟨t, left⟩ := p
        have hl2 := refL_len hr
        dsimp only
        simp only [List.length_singleton] at hl
        rw [saidF_fuel n m left (by omega) (by omega)]
theorem saidL_eq {n : Nat} {s : Str} (h : s.length < n) : saidF n s = saidL s := saidF_fuel _ _ _ h (Nat.lt_succ_self _)
theorem saidL_nil : saidL [] = .ok [] := rfl
theorem saidL_cons {c : UInt8} (t : Str) (h : c ≠ 38) : saidL (c :: t) = match saidL t with | .ok u => .ok (c :: u) | .error k => .error (k + 1) := by
  unfold saidL saidF
  rw [cut1_cons, if_neg h]
  cases hc : cutL [38] t with
  | none => rfl
  | some q =>
    obtain ⟨plain, more⟩ := q
    have hl := cutL_lens hc
    simp only [List.length_singleton] at hl
    simp only [Option.map_some]
    cases hr : refL more with
    | none => rfl
    | some p =>
      obtain ⟨u, left⟩ := p
      have hl2 := refL_len hr
      dsimp only
      rw [saidF_fuel (c :: t).length t.length left (by simp; omega) (by omega)]
      cases saidF t.length left with
      | ok v => rfl
      | error k => simp; omega
theorem saidL_none {t : Str} (h : refL t = none) : saidL (38 :: t) = .error 0 := by
  unfold saidL saidF
  rw [cut1_cons, if_pos rfl]
  simp only [h]; rfl
theorem saidL_amp {t u left : Str} (h : refL t = some (u, left)) : saidL (38 :: t) = match saidL left with | .ok v => .ok (u ++ v) | .error k => .error (1 + (t.length - left.length) + k) := by
  have hl := refL_len h
  conv => lhs; unfold saidL saidF
  rw [cut1_cons, if_pos rfl]
  simp only [h]
  rw [saidL_eq (s := left) (by simp; omega)]
  cases saidL left with
  | ok v => rfl
  | error k => simp

/-! ### escaped -/
def escC (c : UInt8) : Str := if c = 38 then [38, 97, 109, 112, 59] else if c = 60 then [38, 108, 116, 59] else if c = 62 then [38, 103, 116, 59] else if c = 34 then [38, 113, 117, 111, 116, 59] else if c = 39 then [38, 97, 112, 111, 115, 59] else [c]
def escL (s : Str) : Str := s.flatMap escC
theorem escL_cons (c : UInt8) (s : Str) : escL (c :: s) = escC c ++ escL s := rfl
theorem escL_append (a b : Str) : escL (a ++ b) = escL a ++ escL b := List.flatMap_append
theorem ref_amp (s : Str) : refL (97 :: 109 :: 112 :: 59 :: s) = some ([38], s) := by
  unfold refL; simp only [cut1_cons]; simp [bodyL]
theorem ref_lt (s : Str) : refL (108 :: 116 :: 59 :: s) = some ([60], s) := by
  unfold refL; simp only [cut1_cons]; simp [bodyL]
theorem ref_gt (s : Str) : refL (103 :: 116 :: 59 :: s) = some ([62], s) := by
  unfold refL; simp only [cut1_cons]; simp [bodyL]
theorem ref_quot (s : Str) : refL (113 :: 117 :: 111 :: 116 :: 59 :: s) = some ([34], s) := by
  unfold refL; simp only [cut1_cons]; simp [bodyL]
theorem ref_apos (s : Str) : refL (97 :: 112 :: 111 :: 115 :: 59 :: s) = some ([39], s) := by
  unfold refL; simp only [cut1_cons]; simp [bodyL]
theorem saidL_esc : ∀ s : Str, saidL (escL s) = .ok s
  | [] => rfl
  | c :: s => by
    have ih := saidL_esc s
    rw [escL_cons]
    unfold escC
    by_cases h1 : c = 38
    · rw [if_pos h1]; show saidL (38 :: (97 :: 109 :: 112 :: 59 :: escL s)) = _; rw [saidL_amp (ref_amp _), ih, h1]; rfl
    rw [if_neg h1]
    by_cases h2 : c = 60
    · rw [if_pos h2]; show saidL (38 :: (108 :: 116 :: 59 :: escL s)) = _; rw [saidL_amp (ref_lt _), ih, h2]; rfl
    rw [if_neg h2]
    by_cases h3 : c = 62
    · rw [if_pos h3]; show saidL (38 :: (103 :: 116 :: 59 :: escL s)) = _; rw [saidL_amp (ref_gt _), ih, h3]; rfl
    rw [if_neg h3]
    by_cases h4 : c = 34
    · rw [if_pos h4]; show saidL (38 :: (113 :: 117 :: 111 :: 116 :: 59 :: escL s)) = _; rw [saidL_amp (ref_quot _), ih, h4]; rfl
    rw [if_neg h4]
    by_cases h5 : c = 39
    · rw [if_pos h5]; show saidL (38 :: (97 :: 112 :: 111 :: 115 :: 59 :: escL s)) = _; rw [saidL_amp (ref_apos _), ih, h5]; rfl
    rw [if_neg h5]
    show saidL (c :: escL s) = _
    rw [saidL_cons _ h1, ih]
/-- no mark stands in an escaped text -/
theorem esc_mem {x : UInt8} (hx : x = 60 ∨ x = 62 ∨ x = 34 ∨ x = 39) (s : Str) : x ∉ escL s := by
  intro h
  unfold escL at h
  obtain ⟨c, _, hc⟩ := List.mem_flatMap.1 h
  unfold escC at hc
  by_cases h1 : c = 38
  · rw [if_pos h1] at hc; rcases hx with rfl | rfl | rfl | rfl <;> simp at hc
  rw [if_neg h1] at hc
  by_cases h2 : c = 60
  · rw [if_pos h2] at hc; rcases hx with rfl | rfl | rfl | rfl <;> simp at hc
  rw [if_neg h2] at hc
  by_cases h3 : c = 62
  · rw [if_pos h3] at hc; rcases hx with rfl | rfl | rfl | rfl <;> simp at hc
  rw [if_neg h3] at hc
  by_cases h4 : c = 34
  · rw [if_pos h4] at hc; rcases hx with rfl | rfl | rfl | rfl <;> simp at hc
  rw [if_neg h4] at hc
  by_cases h5 : c = 39
  · rw [if_pos h5] at hc; rcases hx with rfl | rfl | rfl | rfl <;> simp at hc
  rw [if_neg h5] at hc
  have : x = c := by simpa using hc
  subst this
  rcases hx with rfl | rfl | rfl | rfl
  · exact h2 rfl
  · exact h3 rfl
  · exact h4 rfl
  · exact h5 rfl
def attrW (a : Str × Str) : Str := 32 :: (a.1 ++ (61 :: 34 :: (escL a.2 ++ [34])))
def tokW (t : TokD) : Str :=
  if t.kind = 1 then 60 :: (t.name ++ (t.attrs.flatMap attrW ++ [62]))
  else if t.kind = 2 then 60 :: 47 :: (t.name ++ [62])
  else if t.kind = 3 then escL t.text else []
def writeL (l : List TokD) : Str := l.flatMap tokW
end Go.Proofs.YtpinjgdnhbogoaaGreatDoor

/- Parts and whole texts, step by step (no program). -/
namespace Go.Proofs.YtpinjgdnhbogoaaGreatDoor

theorem attrL_len {s a v left : Str} (h : attrL s = some (a, v, left)) : left.length < s.length := by
  unfold attrL at h
  split at h
  · cases h
  · have h0 := name_le s
    have h1 := trim_le (s.drop (nameL s).length)
    rw [List.length_drop] at h1
    split at h
    · rename_i s2 he
      have h2 := trim_le s2
      rw [he] at h1
      simp only [List.length_cons] at h1
      split at h
      · rename_i q s4 he2
        rw [he2] at h2
        simp only [List.length_cons] at h2
        split at h
        · cases hc : cutL [q] s4 with
          | none => rw [hc] at h; cases h
          | some p =>
            rw [hc] at h
            have := cutL_lens (a := p.1) (b := p.2) hc
            dsimp only at h
            cases hs : saidL p.1 with
            | error k => rw [hs] at h; cases h
            | ok u =>
              rw [hs] at h
              dsimp only at h
              split at h
              · cases h
              · simp only [Option.some.injEq, Prod.mk.injEq] at h
                rw [← h.2.2]; simp at this; omega
        · cases h
      · cases h
    · cases h
theorem attrsF_len : ∀ (n : Nat) (l : List (Str × Str)) (s : Str) {l' : List (Str × Str)} {b : Bool} {left : Str}, attrsF n l s = some (l', b, left) → left.length < s.length
  | 0, _, _, _, _, _, h => by cases h
  | n + 1, l, s, l', b, left, h => by
    have h0 := trim_le s
    unfold attrsF at h
    dsimp only at h
    split at h
    · rename_i hp
      have := (List.isPrefixOf_iff_prefix.1 hp).length_le
      simp only [Option.some.injEq, Prod.mk.injEq] at h
      rw [← h.2.2, List.length_drop]; simp at this; omega
    split at h
    · rename_i hp
      have := (List.isPrefixOf_iff_prefix.1 hp).length_le
      simp only [Option.some.injEq, Prod.mk.injEq] at h
      rw [← h.2.2, List.length_drop]; simp at this; omega
    split at h
    · cases h
    cases ha : attrL (trimL s) with
    | none => rw [ha] at h; cases h
    | some p =>
      obtain ⟨a, v, r⟩ := p
      rw [ha] at h
      dsimp only at h
      have h1 := attrL_len ha
      split at h
      · cases h
      · have := attrsF_len n _ _ h
        omega
theorem attrsF_fuel : ∀ (n m : Nat) (l : List (Str × Str)) (s : Str), s.length < n → s.length < m → attrsF n l s = attrsF m l s
  | 0, _, _, _, h, _ => by omega
  | _, 0, _, _, _, h => by omega
  | n + 1, m + 1, l, s, h1, h2 => by
    have h0 := trim_le s
    unfold attrsF
    dsimp only
    cases ha : attrL (trimL s) with
    | none => rfl
    | some p =>
      obtain ⟨a, v, r⟩ := p
      have h3 := attrL_len ha
      dsimp only
      rw [attrsF_fuel n m _ r (by omega) (by omega)]
def attrsL (l : List (Str × Str)) (s : Str) : Option (List (Str × Str) × Bool × Str) := attrsF (s.length + 1) l s
theorem attrsL_eq {n : Nat} {l : List (Str × Str)} {s : Str} (h : s.length < n) : attrsF n l s = attrsL l s := attrsF_fuel _ _ _ _ h (Nat.lt_succ_self _)
theorem attrsL_step (l : List (Str × Str)) (s : Str) : attrsL l s = (if [47, 62].isPrefixOf (trimL s) then some (l, true, (trimL s).drop 2)
    else if [62].isPrefixOf (trimL s) then some (l, false, (trimL s).drop 1)
    else if (trimL s).length = s.length then none
    else match attrL (trimL s) with
      | none => none
      | some (a, v, left) => if l.any (fun b => b.1 == a) then none else attrsL (l ++ [(a, v)]) left) := by
  have h0 := trim_le s
  conv => lhs; unfold attrsL attrsF
  dsimp only
  cases ha : attrL (trimL s) with
  | none => rfl
  | some p =>
    obtain ⟨a, v, r⟩ := p
    have h3 := attrL_len ha
    dsimp only
    rw [attrsL_eq (n := s.length) (by omega)]
theorem tagL_len {s : Str} {l : List TokD} {left : Str} (h : tagL s = some (l, left)) : left.length < s.length := by
  unfold tagL at h
  split at h
  · cases h
  have h0 := name_le s
  cases ha : attrsF (s.length + 1) [] (s.drop (nameL s).length) with
  | none => rw [ha] at h; cases h
  | some p =>
    obtain ⟨as, b, r⟩ := p
    have h1 := attrsF_len _ _ _ ha
    rw [List.length_drop] at h1
    rw [ha] at h
    cases b <;> (simp only [Option.some.injEq, Prod.mk.injEq] at h; rw [← h.2]; omega)
theorem closeL_len {s : Str} {l : List TokD} {left : Str} (h : closeL s = some (l, left)) : left.length < s.length := by
  unfold closeL at h
  split at h
  · cases h
  have h1 := trim_le (s.drop (nameL s).length)
  rw [List.length_drop] at h1
  split at h
  · rename_i r he
    rw [he] at h1
    simp only [Option.some.injEq, Prod.mk.injEq] at h
    rw [← h.2]; simp at h1; omega
  · cases h
theorem partL_len {s u left : Str} {l : List TokD} (h : partL s = some (u, l, left)) : left.length < s.length := by
  have key : ∀ (p r : Str) (c : Str) (f : Str × Str → Str × List TokD × Str), stripL p s = some r → (∀ q, (f q).2.2 = q.2) → p ≠ [] → (cutL c r).map f = some (u, l, left) → left.length < s.length := by
    intro p r c f hs hf hp hm
    have hl := congrArg List.length (stripL_some hs)
    rw [List.length_append] at hl
    have hp2 : 0 < p.length := List.length_pos_iff.2 hp
    cases hc : cutL c r with
    | none => rw [hc] at hm; cases hm
    | some q =>
      rw [hc] at hm
      have h2 := cutL_lens (a := q.1) (b := q.2) hc
      have h3 := hf q
      rw [Option.some.inj hm] at h3
      dsimp only at h3
      rw [h3]; omega
  unfold partL at h
  cases h1 : stripL [60, 33, 45, 45] s with
  | some r => rw [h1] at h; exact key _ r _ _ h1 (fun _ => rfl) (by simp) h
  | none =>
  rw [h1] at h
  dsimp only at h
  cases h2 : stripL [60, 63] s with
  | some r => rw [h2] at h; exact key _ r _ _ h2 (fun _ => rfl) (by simp) h
  | none =>
  rw [h2] at h
  dsimp only at h
  cases h3 : stripL [60, 33, 91, 67, 68, 65, 84, 65, 91] s with
  | some r => rw [h3] at h; exact key _ r _ _ h3 (fun _ => rfl) (by simp) h
  | none =>
  rw [h3] at h
  dsimp only at h
  cases h4 : stripL [60, 33, 68, 79, 67, 84, 89, 80, 69] s with
  | some r =>
    rw [h4] at h
    dsimp only at h
    have hl := congrArg List.length (stripL_some h4)
    cases hc : cutL [62] r with
    | none => rw [hc] at h; cases h
    | some q =>
      have h2 := cutL_lens (a := q.1) (b := q.2) hc
      rw [hc] at h
      dsimp only at h
      split at h
      · cases h
      · simp only [Option.some.injEq, Prod.mk.injEq] at h
        rw [← h.2.2]; simp at hl; omega
  | none =>
  rw [h4] at h
  dsimp only at h
  cases h5 : stripL [60, 47] s with
  | some r =>
    rw [h5] at h
    dsimp only at h
    have hl := congrArg List.length (stripL_some h5)
    cases hc : closeL r with
    | none => rw [hc] at h; cases h
    | some q =>
      have h2 := closeL_len (l := q.1) (left := q.2) hc
      rw [hc] at h
      simp only [Option.map_some, Option.some.injEq, Prod.mk.injEq] at h
      rw [← h.2.2]; simp at hl; omega
  | none =>
  rw [h5] at h
  dsimp only at h
  cases hc : tagL (s.drop 1) with
  | none => rw [hc] at h; cases h
  | some q =>
    have h2 := tagL_len (l := q.1) (left := q.2) hc
    rw [hc] at h
    simp only [Option.map_some, Option.some.injEq, Prod.mk.injEq] at h
    rw [← h.2.2]; rw [List.length_drop] at h2; omega

theorem readF_fuel : ∀ (n m k : Nat) (l : List TokD) (w s : Str), s.length < n → s.length < m → readF n k l w s = readF m k l w s
  | 0, _, _, _, _, _, h, _ => by omega
  | _, 0, _, _, _, _, _, h => by omega
  | n + 1, m + 1, k, l, w, [], _, _ => rfl
  | n + 1, m + 1, k, l, w, c :: t, h1, h2 => by
    unfold readF
    dsimp only
    by_cases hc : c ≠ 60
    · rw [if_pos hc, if_pos hc]
      cases saidL ((c :: t).takeWhile (· ≠ 60)) with
      | error j => rfl
      | ok u =>
        have hl : ((c :: t).dropWhile (fun x => decide (x ≠ 60))).length < (c :: t).length := by
          rw [List.dropWhile_cons, if_pos (by simpa using hc)]
          have := (List.dropWhile_suffix (fun x : UInt8 => decide (x ≠ 60)) (l := t)).length_le
          simp; simp at this; omega
        dsimp only
        exact readF_fuel n m _ _ _ _ (by omega) (by omega)
    · rw [if_neg hc, if_neg hc]
      cases hp : partL (c :: t) with
      | none => rfl
      | some p =>
        obtain ⟨u, toks, left⟩ := p
        have hl := partL_len hp
        dsimp only
        rw [readF_fuel n m _ _ _ left (by omega) (by omega), readF_fuel n m _ _ _ left (by omega) (by omega)]
def readG (k : Nat) (l : List TokD) (w s : Str) : Except Nat (List TokD) := readF (s.length + 1) k l w s
theorem readG_eq {n k : Nat} {l : List TokD} {w s : Str} (h : s.length < n) : readF n k l w s = readG k l w s := readF_fuel _ _ _ _ _ _ h (Nat.lt_succ_self _)
theorem readG_nil (k : Nat) (l : List TokD) (w : Str) : readG k l w [] = .ok (flushL l w) := rfl
theorem readG_part {k : Nat} {l toks : List TokD} {w t u left : Str} (h : partL (60 :: t) = some (u, toks, left)) :
    readG k l w (60 :: t) = if toks.isEmpty then readG (k + ((60 :: t).length - left.length)) l (w ++ u) left else readG (k + ((60 :: t).length - left.length)) (flushL l (w ++ u) ++ toks) [] left := by
  have hl := partL_len h
  conv => lhs; unfold readG readF
  dsimp only
  rw [if_neg (by simp), h]
  dsimp only
  rw [readG_eq (s := left) (by omega), readG_eq (s := left) (by omega)]
theorem readG_bad {k : Nat} {l : List TokD} {w t : Str} (h : partL (60 :: t) = none) : readG k l w (60 :: t) = .error k := by
  unfold readG readF
  dsimp only
  rw [if_neg (by simp), h]
/-- a text up to a mark, or the end -/
theorem readG_text {k : Nat} {l : List TokD} {w seg rest : Str} (hseg : seg ≠ []) (hno : 60 ∉ seg) (hrest : rest = [] ∨ ∃ t, rest = 60 :: t) :
    readG k l w (seg ++ rest) = match saidL seg with | .error j => .error (k + j) | .ok u => readG (k + seg.length) l (w ++ u) rest := by
  obtain ⟨c, t, rfl⟩ := List.exists_cons_of_ne_nil hseg
  have hc : c ≠ 60 := fun e => hno (by rw [e]; exact List.mem_cons_self ..)
  have hall : ∀ x ∈ (c :: t), decide (x ≠ 60) = true := fun x hx => by simp; exact fun e => hno (by rw [← e]; exact hx)
  have h1 : ((c :: t) ++ rest).takeWhile (fun x => decide (x ≠ 60)) = c :: t := by
    rw [List.takeWhile_append_of_pos hall]
    rcases hrest with rfl | ⟨r, rfl⟩ <;> simp
  have h2 : ((c :: t) ++ rest).dropWhile (fun x => decide (x ≠ 60)) = rest := by
    rw [List.dropWhile_append_of_pos hall]
    rcases hrest with rfl | ⟨r, rfl⟩ <;> simp
  rw [List.cons_append] at h1 h2 ⊢
  conv => lhs; unfold readG readF
  dsimp only
  rw [if_pos hc, h1, h2]
  cases saidL (c :: t) with
  | error j => rfl
  | ok u =>
    dsimp only
    exact readG_eq (by simp; omega)
end Go.Proofs.YtpinjgdnhbogoaaGreatDoor

/- A text with more behind it; a text behind others (no program). -/
namespace Go.Proofs.YtpinjgdnhbogoaaGreatDoor

end Go.Proofs.YtpinjgdnhbogoaaGreatDoor

/- Parts of a longer text; a whole text read on (no program). -/
namespace Go.Proofs.YtpinjgdnhbogoaaGreatDoor

theorem strip_other {a b c : UInt8} {p s : Str} (h : b ≠ c) : stripL (a :: b :: p) (a :: c :: s) = none := by
  unfold stripL
  rw [if_neg]
  intro k
  obtain ⟨z, hz⟩ := List.isPrefixOf_iff_prefix.1 k
  exact h (List.cons.inj (List.cons.inj hz).2).1
/-! ### a whole text, read on -/
/-- what follows a text that is read begins with a mark, or is nothing -/
def Next (x : Str) : Prop := x = [] ∨ ∃ t, x = 60 :: t
theorem split_text (s : Str) : ∃ seg rest, s = seg ++ rest ∧ 60 ∉ seg ∧ Next rest := by
  refine ⟨s.takeWhile (fun x => decide (x ≠ 60)), s.dropWhile (fun x => decide (x ≠ 60)), List.takeWhile_append_dropWhile.symm, fun h => ?_, ?_⟩
  · have := List.all_eq_true.1 (List.all_takeWhile (l := s) (p := fun x => decide (x ≠ 60))) 60 h
    simp at this
  · cases hd : s.dropWhile (fun x => decide (x ≠ 60)) with
    | nil => exact .inl rfl
    | cons c t =>
      have := List.head?_dropWhile_not (fun x : UInt8 => decide (x ≠ 60)) s
      rw [hd] at this
      simp at this
      exact .inr ⟨t, by rw [this]⟩
end Go.Proofs.YtpinjgdnhbogoaaGreatDoor

/- What is written is read (no program). -/
namespace Go.Proofs.YtpinjgdnhbogoaaGreatDoor

def NameOK (n : Str) : Prop := n ≠ [] ∧ nameL n = n
theorem name_idem (s : Str) : nameL (nameL s) = nameL s := by
  cases s with
  | nil => rfl
  | cons c r =>
    have e1 : nameL (c :: r) = if beginsC c = true then c :: r.takeWhile goesC else [] := rfl
    rw [e1]
    by_cases hb : beginsC c = true
    · rw [if_pos hb]
      show (if beginsC c = true then c :: (r.takeWhile goesC).takeWhile goesC else []) = _
      have e2 : ∀ l : Str, (l.takeWhile goesC).takeWhile goesC = l.takeWhile goesC := by
        intro l
        induction l with
        | nil => rfl
        | cons x y ih =>
          rw [List.takeWhile_cons]
          by_cases h : goesC x = true
          · rw [if_pos h, List.takeWhile_cons, if_pos h, ih]
          · rw [if_neg h]; rfl
      rw [if_pos hb, e2]
    · rw [if_neg hb]; rfl
theorem nameOK_of {s : Str} (h : ¬ (nameL s).isEmpty = true) : NameOK (nameL s) := ⟨fun e => h (by rw [e]; rfl), name_idem s⟩
theorem NameOK.first {n : Str} (h : NameOK n) : ∃ c t, n = c :: t ∧ beginsC c = true := by
  obtain ⟨h1, h2⟩ := h
  obtain ⟨c, t, rfl⟩ := List.exists_cons_of_ne_nil h1
  refine ⟨c, t, rfl, ?_⟩
  by_cases hb : beginsC c = true
  · exact hb
  · rw [show nameL (c :: t) = if beginsC c = true then c :: t.takeWhile goesC else [] from rfl, if_neg hb] at h2; cases h2
theorem NameOK.stop {n : Str} (h : NameOK n) {c : UInt8} (hc : goesC c = false) (r : Str) : nameL (n ++ c :: r) = n := by
  obtain ⟨x, t, rfl, hb⟩ := h.first
  have h2 := h.2
  rw [show nameL (x :: t) = if beginsC x = true then x :: t.takeWhile goesC else [] from rfl, if_pos hb] at h2
  have ht : t.takeWhile goesC = t := (List.cons.inj h2).2
  show (if beginsC x = true then x :: (t ++ c :: r).takeWhile goesC else []) = _
  rw [if_pos hb, List.takeWhile_append_of_pos (fun a ha => by rw [← ht] at ha; exact List.all_eq_true.1 (List.all_takeWhile (l := t) (p := goesC)) a ha), List.takeWhile_cons, if_neg (by rw [hc]; simp), List.append_nil]
theorem NameOK.nonempty {n : Str} (h : NameOK n) : ¬ n.isEmpty = true := by
  obtain ⟨c, t, rfl, _⟩ := h.first; simp
theorem cut_at {q : UInt8} : ∀ {v : Str} (r : Str), q ∉ v → cutL [q] (v ++ q :: r) = some (v, r)
  | [], r, _ => by rw [List.nil_append, cut1_cons, if_pos rfl]
  | x :: v, r, h => by
    rw [List.cons_append, cut1_cons, if_neg (fun e => h (by rw [e]; exact List.mem_cons_self ..)), cut_at r (fun k => h (List.mem_cons_of_mem _ k))]; rfl
theorem trim_cons {c : UInt8} (s : Str) (h : blankC c = false) : trimL (c :: s) = c :: s := by
  unfold trimL; rw [List.dropWhile_cons, if_neg (by rw [h]; simp)]
theorem attrL_write {n : Str} (h : NameOK n) {q : UInt8} (hq : q = 34 ∨ q = 39) (v r : Str) : attrL (n ++ 61 :: q :: (escL v ++ q :: r)) = some (n, v, r) := by
  have h1 : nameL (n ++ 61 :: q :: (escL v ++ q :: r)) = n := h.stop (by decide) _
  have hq1 : blankC q = false := by rcases hq with rfl | rfl <;> decide
  have hq2 : q ∉ escL v := esc_mem (by rcases hq with rfl | rfl <;> simp) v
  have h60 : ¬ (escL v).contains 60 = true := by simpa using esc_mem (x := 60) (.inl rfl) v
  unfold attrL
  rw [h1, if_neg h.nonempty, List.drop_left, trim_cons _ (by decide)]
  show (match trimL (q :: (escL v ++ q :: r)) with
      | q :: s4 => if q = 34 ∨ q = 39 then
          match cutL [q] s4 with
          | none => none
          | some (value, rest) => match saidL value with
            | .error _ => none
            | .ok v => if value.contains 60 then none else some (n, v, rest)
        else none
      | [] => none) = some (n, v, r)
  rw [trim_cons _ hq1]
  simp only []
  rw [if_pos hq, cut_at r hq2]
  simp only [saidL_esc]
  rw [if_neg h60]
theorem attrs_end (l : List (Str × Str)) (r : Str) : attrsL l (62 :: r) = some (l, false, r) := by
  rw [attrsL_step, trim_cons _ (by decide)]
  rfl
theorem attrs_self (l : List (Str × Str)) (r : Str) : attrsL l (47 :: 62 :: r) = some (l, true, r) := by
  rw [attrsL_step, trim_cons _ (by decide)]
  rfl
theorem attrs_one {n : Str} (h : NameOK n) {q : UInt8} (hq : q = 34 ∨ q = 39) (l : List (Str × Str)) (v r : Str) (hl : l.any (fun b => b.1 == n) = false) : attrsL l (32 :: (n ++ 61 :: q :: (escL v ++ q :: r))) = attrsL (l ++ [(n, v)]) r := by
  obtain ⟨c, t, rfl, hb⟩ := h.first
  have hbl : blankC c = false := by
    by_cases k : blankC c = true
    · exfalso
      unfold blankC at k
      simp only [Bool.or_eq_true, beq_iff_eq] at k
      rcases k with ((rfl | rfl) | rfl) | rfl <;> (revert hb; decide)
    · simpa using k
  have n1 : c ≠ 47 := by rintro rfl; revert hb; decide
  have n2 : c ≠ 62 := by rintro rfl; revert hb; decide
  have htr : trimL (32 :: (c :: t ++ 61 :: q :: (escL v ++ q :: r))) = c :: t ++ 61 :: q :: (escL v ++ q :: r) := by
    unfold trimL
    rw [List.dropWhile_cons, if_pos (by decide), List.cons_append, List.dropWhile_cons, if_neg (by rw [hbl]; simp)]
  rw [attrsL_step, htr]
  have p1 : ¬ [47, 62].isPrefixOf (c :: t ++ 61 :: q :: (escL v ++ q :: r)) = true := by
    intro k
    obtain ⟨z, hz⟩ := List.isPrefixOf_iff_prefix.1 k
    exact n1 (List.cons.inj hz).1.symm
  have p2 : ¬ [62].isPrefixOf (c :: t ++ 61 :: q :: (escL v ++ q :: r)) = true := by
    intro k
    obtain ⟨z, hz⟩ := List.isPrefixOf_iff_prefix.1 k
    exact n2 (List.cons.inj hz).1.symm
  rw [if_neg p1, if_neg p2, if_neg (by simp), attrL_write h hq]
  dsimp only
  rw [hl]; rfl
/-- names of attributes that are right: each is a name, none stands twice -/
def AttrsOK (l : List (Str × Str)) : Prop := (∀ a ∈ l, NameOK a.1) ∧ (l.map (·.1)).Nodup
theorem attrs_write : ∀ (as l : List (Str × Str)) (r : Str), AttrsOK (l ++ as) → attrsL l (as.flatMap attrW ++ 62 :: r) = some (l ++ as, false, r)
  | [], l, r, _ => by rw [List.append_nil]; exact attrs_end l r
  | a :: as, l, r, h => by
    have ha : NameOK a.1 := h.1 a (by simp)
    have hl : l.any (fun b => b.1 == a.1) = false := by
      have h2 := h.2
      rw [List.map_append, List.nodup_append] at h2
      rw [List.any_eq_false]
      intro b hb hk
      exact h2.2.2 b.1 (List.mem_map_of_mem hb) a.1 (by simp) (by simpa using hk)
    have e : (a :: as).flatMap attrW ++ 62 :: r = 32 :: (a.1 ++ 61 :: 34 :: (escL a.2 ++ 34 :: (as.flatMap attrW ++ 62 :: r))) := by
      rw [List.flatMap_cons]; simp [attrW]
    rw [e, attrs_one ha (.inl rfl) l a.2 _ hl, attrs_write as (l ++ [a]) r (by simpa using h)]
    simp
theorem attrs_head (as : List (Str × Str)) (r : Str) : ∃ c t, as.flatMap attrW ++ 62 :: r = c :: t ∧ goesC c = false := by
  cases as with
  | nil => exact ⟨62, r, rfl, by decide⟩
  | cons a as => exact ⟨32, _, rfl, by decide⟩
theorem tag_write {n : Str} (h : NameOK n) {as : List (Str × Str)} (ha : AttrsOK as) (r : Str) : tagL (n ++ (as.flatMap attrW ++ 62 :: r)) = some ([⟨1, n, as, []⟩], r) := by
  obtain ⟨c, t, e, hc⟩ := attrs_head as r
  have h1 : nameL (n ++ (as.flatMap attrW ++ 62 :: r)) = n := by rw [e]; exact h.stop hc t
  unfold tagL
  rw [h1, if_neg h.nonempty, List.drop_left, attrsL_eq (by simp; omega), attrs_write as [] r (by simpa using ha)]
  rfl
theorem part_tag {c : UInt8} (hb : beginsC c = true) (s : Str) : partL (60 :: c :: s) = (tagL (c :: s)).map fun q => ([], q.1, q.2) := by
  have n1 : (33 : UInt8) ≠ c := by rintro rfl; revert hb; decide
  have n2 : (63 : UInt8) ≠ c := by rintro rfl; revert hb; decide
  have n3 : (47 : UInt8) ≠ c := by rintro rfl; revert hb; decide
  unfold partL
  rw [strip_other n1, strip_other n2, strip_other n1, strip_other n1, strip_other n3]
  rfl
theorem part_open {n : Str} (h : NameOK n) {as : List (Str × Str)} (ha : AttrsOK as) (r : Str) : partL (60 :: (n ++ (as.flatMap attrW ++ 62 :: r))) = some ([], [⟨1, n, as, []⟩], r) := by
  have ht := tag_write h ha r
  obtain ⟨c, t, rfl, hb⟩ := h.first
  rw [List.cons_append] at ht ⊢
  rw [part_tag hb, ht]; rfl
theorem part_close {n : Str} (h : NameOK n) (r : Str) : partL (60 :: 47 :: (n ++ 62 :: r)) = some ([], [⟨2, n, [], []⟩], r) := by
  have h1 : nameL (n ++ 62 :: r) = n := h.stop (by decide) r
  unfold partL
  rw [strip_other (by decide), strip_other (by decide), strip_other (by decide), strip_other (by decide)]
  have e : stripL [60, 47] (60 :: 47 :: (n ++ 62 :: r)) = some (n ++ 62 :: r) := rfl
  rw [e]
  dsimp only
  unfold closeL
  rw [h1, if_neg h.nonempty, List.drop_left, trim_cons _ (by decide)]
  rfl

/-- a token as reading gives it -/
def TokOK (t : TokD) : Prop :=
  (t.kind = 1 ∧ NameOK t.name ∧ AttrsOK t.attrs ∧ t.text = []) ∨ (t.kind = 2 ∧ NameOK t.name ∧ t.attrs = [] ∧ t.text = []) ∨ (t.kind = 3 ∧ t.name = [] ∧ t.attrs = [] ∧ t.text ≠ [])
def notWords : List TokD → Prop
  | [] => True
  | t :: _ => t.kind ≠ 3
/-- tokens as reading gives them: no words beside words -/
inductive Good : List TokD → Prop
  | nil : Good []
  | cons {t : TokD} {l : List TokD} : TokOK t → (t.kind = 3 → notWords l) → Good l → Good (t :: l)
theorem esc_ne {s : Str} (h : s ≠ []) : escL s ≠ [] := by
  obtain ⟨c, t, rfl⟩ := List.exists_cons_of_ne_nil h
  rw [escL_cons]
  unfold escC
  repeat' split
  all_goals simp
theorem flush_nil (l : List TokD) : flushL l [] = l := rfl
theorem flush_words (l : List TokD) {w : Str} (h : w ≠ []) : flushL l w = l ++ [⟨3, [], [], w⟩] := by
  unfold flushL; rw [if_neg (by simpa using h)]
end Go.Proofs.YtpinjgdnhbogoaaGreatDoor

/- Tokens that are read are right (no program). -/
namespace Go.Proofs.YtpinjgdnhbogoaaGreatDoor

theorem attrL_name {s a v left : Str} (h : attrL s = some (a, v, left)) : NameOK a := by
  unfold attrL at h
  split at h
  · cases h
  rename_i hn
  split at h
  · split at h
    · split at h
      · rename_i q s4 _ _
        cases hc : cutL [q] s4 with
        | none => rw [hc] at h; cases h
        | some p =>
          rw [hc] at h
          dsimp only at h
          cases hs : saidL p.1 with
          | error k => rw [hs] at h; cases h
          | ok u =>
            rw [hs] at h
            dsimp only at h
            split at h
            · cases h
            · simp only [Option.some.injEq, Prod.mk.injEq] at h
              rw [← h.1]; exact nameOK_of hn
      · cases h
    · cases h
  · cases h
theorem attrsF_ok : ∀ (n : Nat) (l : List (Str × Str)) (s : Str) {l' : List (Str × Str)} {b : Bool} {left : Str}, AttrsOK l → attrsF n l s = some (l', b, left) → AttrsOK l'
  | 0, _, _, _, _, _, _, h => by cases h
  | n + 1, l, s, l', b, left, hok, h => by
    unfold attrsF at h
    dsimp only at h
    split at h
    · simp only [Option.some.injEq, Prod.mk.injEq] at h; rw [← h.1]; exact hok
    split at h
    · simp only [Option.some.injEq, Prod.mk.injEq] at h; rw [← h.1]; exact hok
    split at h
    · cases h
    cases ha : attrL (trimL s) with
    | none => rw [ha] at h; cases h
    | some p =>
      obtain ⟨a, v, r⟩ := p
      rw [ha] at h
      dsimp only at h
      split at h
      · cases h
      · rename_i hany
        have hn := attrL_name ha
        refine attrsF_ok n _ _ ⟨fun x hx => ?_, ?_⟩ h
        · rcases List.mem_append.1 hx with hx | hx
          · exact hok.1 x hx
          · rw [List.mem_singleton.1 hx]; exact hn
        · rw [List.map_append, List.nodup_append]
          refine ⟨hok.2, by simp, fun x hx y hy => ?_⟩
          rintro rfl
          apply hany
          obtain ⟨z, hz, hzx⟩ := List.mem_map.1 hx
          rw [List.any_eq_true]
          exact ⟨z, hz, by rw [hzx]; simpa using hy⟩
theorem attrs_nil : AttrsOK [] := ⟨(fun _ h => by cases h), List.nodup_nil⟩
def TagOK (l : List TokD) : Prop := ∀ t ∈ l, TokOK t ∧ t.kind ≠ 3
theorem tagL_ok {s left : Str} {l : List TokD} (h : tagL s = some (l, left)) : TagOK l := by
  unfold tagL at h
  split at h
  · cases h
  rename_i hn
  have hn' := nameOK_of hn
  cases ha : attrsF (s.length + 1) [] (s.drop (nameL s).length) with
  | none => rw [ha] at h; cases h
  | some p =>
    obtain ⟨as, b, r⟩ := p
    have hok := attrsF_ok _ _ _ attrs_nil ha
    rw [ha] at h
    cases b with
    | false =>
      simp only [Option.some.injEq, Prod.mk.injEq] at h
      rw [← h.1]
      intro t ht
      rw [List.mem_singleton.1 ht]
      exact ⟨.inl ⟨rfl, hn', hok, rfl⟩, by simp⟩
    | true =>
      simp only [Option.some.injEq, Prod.mk.injEq] at h
      rw [← h.1]
      intro t ht
      rcases List.mem_cons.1 ht with rfl | ht
      · exact ⟨.inl ⟨rfl, hn', hok, rfl⟩, by simp⟩
      · rw [List.mem_singleton.1 ht]
        exact ⟨.inr (.inl ⟨rfl, hn', rfl, rfl⟩), by simp⟩
theorem closeL_ok {s left : Str} {l : List TokD} (h : closeL s = some (l, left)) : TagOK l := by
  unfold closeL at h
  split at h
  · cases h
  rename_i hn
  split at h
  · simp only [Option.some.injEq, Prod.mk.injEq] at h
    rw [← h.1]
    intro t ht
    rw [List.mem_singleton.1 ht]
    exact ⟨.inr (.inl ⟨rfl, nameOK_of hn, rfl, rfl⟩), by simp⟩
  · cases h
theorem cut_map_nil {c r : Str} {f : Str × Str → Str × List TokD × Str} {x : Str × List TokD × Str} (hf : ∀ q, (f q).2.1 = []) (h : (cutL c r).map f = some x) : TagOK x.2.1 := by
  cases hq : cutL c r with
  | none => rw [hq] at h; cases h
  | some q =>
    rw [hq] at h
    rw [← Option.some.inj h, hf]
    intro t ht; cases ht
theorem partL_ok {s u left : Str} {l : List TokD} (h : partL s = some (u, l, left)) : TagOK l := by
  unfold partL at h
  split at h
  · exact cut_map_nil (fun _ => rfl) h
  split at h
  · exact cut_map_nil (fun _ => rfl) h
  split at h
  · exact cut_map_nil (fun _ => rfl) h
  split at h
  · split at h
    · cases h
    · split at h
      · cases h
      · simp only [Option.some.injEq, Prod.mk.injEq] at h
        rw [← h.2.1]; intro t ht; cases ht
  split at h
  · rename_i r _
    cases hc : closeL r with
    | none => rw [hc] at h; cases h
    | some q =>
      rw [hc] at h
      simp only [Option.map_some, Option.some.injEq, Prod.mk.injEq] at h
      rw [← h.2.1]; exact closeL_ok (left := q.2) hc
  · cases hc : tagL (s.drop 1) with
    | none => rw [hc] at h; cases h
    | some q =>
      rw [hc] at h
      simp only [Option.map_some, Option.some.injEq, Prod.mk.injEq] at h
      rw [← h.2.1]; exact tagL_ok (left := q.2) hc

def lastOK (l : List TokD) : Prop := ∀ t, l.getLast? = some t → t.kind ≠ 3
theorem good_app : ∀ {l m : List TokD}, Good l → Good m → (lastOK l ∨ notWords m) → Good (l ++ m)
  | [], _, _, hm, _ => hm
  | t :: l, m, .cons ht hw hl, hm, hor => by
    refine .cons ht (fun hk => ?_) (good_app hl hm ?_)
    · cases l with
      | nil =>
        rcases hor with h | h
        · exact absurd hk (h t rfl)
        · exact h
      | cons x y => exact hw hk
    · rcases hor with h | h
      · cases l with
        | nil => exact .inl fun _ h => by cases h
        | cons x y => exact .inl fun z hz => h z (by rw [List.getLast?_cons_cons]; exact hz)
      · exact .inr h
theorem tag_good : ∀ {l : List TokD}, TagOK l → Good l
  | [], _ => .nil
  | t :: _l, h => .cons (h t (List.mem_cons_self ..)).1 (fun hk => absurd hk (h t (List.mem_cons_self ..)).2) (tag_good fun x hx => h x (List.mem_cons_of_mem _ hx))
theorem tag_notWords {l : List TokD} (h : TagOK l) : notWords l := by
  cases l with
  | nil => trivial
  | cons t l => exact (h t (List.mem_cons_self ..)).2
theorem flush_good {l : List TokD} (h : Good l) (hl : lastOK l) (w : Str) : Good (flushL l w) := by
  by_cases hw : w = []
  · rw [hw, flush_nil]; exact h
  · rw [flush_words l hw]
    exact good_app h (.cons (.inr (.inr ⟨rfl, rfl, rfl, hw⟩)) (fun _ => trivial) .nil) (.inl hl)
theorem readG_good : ∀ (n : Nat) (s : Str) (k : Nat) (l : List TokD) (w : Str) {r : List TokD}, s.length < n → Good l → lastOK l → readG k l w s = .ok r → Good r
  | 0, _, _, _, _, _, h, _, _, _ => by omega
  | n + 1, s, k, l, w, r, hn, hg, hl, h => by
    obtain ⟨seg, rest, rfl, hno, hrest⟩ := split_text s
    by_cases hs : seg = []
    · subst hs
      rw [List.nil_append] at h hn
      rcases hrest with rfl | ⟨t, rfl⟩
      · rw [readG_nil] at h
        rw [← Except.ok.inj h]; exact flush_good hg hl w
      · cases hp : partL (60 :: t) with
        | none => rw [readG_bad hp] at h; cases h
        | some p =>
          obtain ⟨u, toks, left⟩ := p
          have hlen := partL_len hp
          have hok := partL_ok hp
          rw [readG_part hp] at h
          by_cases ht : toks.isEmpty = true
          · rw [if_pos ht] at h
            exact readG_good n left _ _ _ (by omega) hg hl h
          · rw [if_neg ht] at h
            refine readG_good n left _ _ _ (by omega) (good_app (flush_good hg hl _) (tag_good hok) (.inr (tag_notWords hok))) (fun x hx => ?_) h
            have hne : toks ≠ [] := fun e => ht (by rw [e]; rfl)
            have hx2 : toks.getLast? = some x := by
              rw [List.getLast?_append] at hx
              cases hq : toks.getLast? with
              | none => exact absurd (List.getLast?_eq_none_iff.1 hq) hne
              | some y => rw [hq] at hx; simpa using hx
            exact (hok x (List.mem_of_getLast? hx2)).2
    · rw [readG_text hs hno hrest] at h
      cases hsd : saidL seg with
      | error j => rw [hsd] at h; cases h
      | ok u =>
        rw [hsd] at h
        dsimp only at h
        have hpos := List.length_pos_iff.2 hs
        rw [List.length_append] at hn
        exact readG_good n rest _ _ _ (by omega) hg hl h
theorem readL_good {s : Str} {l : List TokD} (h : readL s = .ok l) : Good l :=
  readG_good _ s 0 [] [] (Nat.lt_succ_self _) .nil (fun _ h => by cases h) h
end Go.Proofs.YtpinjgdnhbogoaaGreatDoor

/- Texts one behind another; what changes nothing (no program). -/
namespace Go.Proofs.YtpinjgdnhbogoaaGreatDoor

/-! ### XmlJoins -/
def qTag : Str := [60, 113, 47, 62]
/-! ### XmlSilent -/
def silentT (c s b : Str) : Str :=
  60 :: 33 :: 45 :: 45 :: (c ++ 45 :: 45 :: 62 :: (s ++ 60 :: 63 :: (c ++ 63 :: 62 :: 60 :: 113 :: (b ++ 47 :: 62 :: 60 :: 114 :: (b ++ 62 :: 60 :: 47 :: 114 :: (b ++ 62 :: []))))))
end Go.Proofs.YtpinjgdnhbogoaaGreatDoor

/- Numbers of runes (no program). -/
namespace Go.Proofs.YtpinjgdnhbogoaaGreatDoor

/-- digits of a number, to a base, as the law writes them -/
def digF (base : Nat) (d : Nat → UInt8) : Nat → Nat → Str
  | 0, n => [d n]
  | k + 1, n => if n < base then [d n] else digF base d k (n / base) ++ [d (n % base)]
def decC (n : Nat) : UInt8 := UInt8.ofNat (48 + n)
def hexC (n : Nat) : UInt8 := if n < 10 then UInt8.ofNat (48 + n) else UInt8.ofNat (87 + n)
def decL (n : Nat) : Str := digF 10 decC 7 n
def hexL (n : Nat) : Str := digF 16 hexC 7 n
theorem numV_snoc (base : Nat) (l : Str) (c : UInt8) : numV base (l ++ [c]) = base * numV base l + digV c := by unfold numV; rw [List.foldl_append]; rfl
def refT (r : Nat) : Str := 38 :: 35 :: (decL r ++ [59])
def refX (r : Nat) : Str := 38 :: 35 :: 120 :: (hexL r ++ [59])
/-! ### what a character's bytes say -/
def headV (c : UInt8) : Nat := if c.toNat < 128 then c.toNat else if c.toNat < 224 then c.toNat - 192 else if c.toNat < 240 then c.toNat - 224 else c.toNat - 240
def valL : Str → Nat
  | [] => 0
  | c :: t => t.foldl (fun n x => 64 * n + x.toNat % 64) (headV c)
end Go.Proofs.YtpinjgdnhbogoaaGreatDoor
