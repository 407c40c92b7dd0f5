/- Layers 1 and 4 as the reference reads and writes them, in plain words (no program). -/
import Derived.Test.YtgmghopcppniaaaGreatDoorC3
namespace Go.Proofs.YtgmghopcppniaaaGreatDoor

/-! ### numbers, read as they come -/
def foldN (s : Str) : Nat := s.foldl (fun a c => 128 * a + c.toNat % 128) 0
theorem foldN_snoc (s : Str) (c : UInt8) : foldN (s ++ [c]) = 128 * foldN s + c.toNat % 128 := by unfold foldN; rw [List.foldl_append]; rfl
theorem foldN_hi : ∀ (n v : Nat), v ≤ n → foldN (natHi v) = v
  | n, 0, _ => by rw [natHi_zero]; rfl
  | 0, v + 1, h => by omega
  | n + 1, v + 1, h => by
    rw [natHi_pos (by omega), foldN_snoc, foldN_hi n _ (by omega), byte_hi]; omega
theorem foldN_nat (v : Nat) : foldN (natL v) = v := by
  unfold natL; rw [foldN_snoc, foldN_hi _ _ (Nat.le_refl _), byte_lo]; omega
theorem natHi_big : ∀ (n v : Nat), v ≤ n → ∀ c ∈ natHi v, 128 ≤ c.toNat
  | n, 0, _, c, hc => by rw [natHi_zero] at hc; cases hc
  | 0, v + 1, h, _, _ => by omega
  | n + 1, v + 1, h, c, hc => by
    rw [natHi_pos (by omega)] at hc
    rcases List.mem_append.1 hc with hc | hc
    · exact natHi_big n _ (by omega) c hc
    · simp only [List.mem_singleton] at hc
      subst hc; rw [byte_hi]; omega
/-- so many bytes are read, all of them with more to come -/
structure RAt (s : Str) (i v : Nat) : Prop where
  le : i ≤ s.length
  ten : i ≤ 10
  val : v = foldN (s.take i) % 18446744073709551616
  big : ∀ j, j < i → 128 ≤ (s.getD j 0).toNat
theorem RAt.start (s : Str) : RAt s 0 0 := ⟨Nat.zero_le _, Nat.zero_le _, rfl, fun j h => by omega⟩
theorem take_snoc {s : Str} {i : Nat} {c : UInt8} (hl : i < s.length) (hc : s.getD i 0 = c) : s.take (i + 1) = s.take i ++ [c] := by
  have e : s[i]? = some c := by
    rw [List.getElem?_eq_getElem hl, ← hc, List.getD_eq_getElem?_getD, List.getElem?_eq_getElem hl]; rfl
  rw [List.take_add_one, e]; rfl
theorem RAt.more {s : Str} {i v : Nat} {c : UInt8} (h : RAt s i v) (hl : i < s.length) (h10 : i < 10) (hc : s.getD i 0 = c) (hb : 128 ≤ c.toNat) : RAt s (i + 1) ((128 * v + c.toNat % 128) % 18446744073709551616) := by
  refine ⟨hl, h10, ?_, fun j hj => ?_⟩
  · rw [take_snoc hl hc, foldN_snoc, h.val]; omega
  · rcases Nat.lt_succ_iff_lt_or_eq.1 hj with h1 | rfl
    · exact h.big j h1
    · rw [hc]; exact hb
/-- where a number ends -/
theorem int_end {s t : Str} {n : Int} (h : toIntL s = some (n, t)) : ∃ j, j < 10 ∧ s.take (j + 1) = intL n ∧ t = s.drop (j + 1) ∧ j < s.length ∧ (s.getD j 0).toNat < 128 ∧ ∀ k, k < j → 128 ≤ (s.getD k 0).toNat := by
  obtain ⟨h1, h2⟩ := toInt_back h
  have hlen := intL_len h2
  have hpos := intL_pos n
  have hL : intL n = natHi (zig n / 128) ++ [UInt8.ofNat (zig n % 128)] := rfl
  have hll : (intL n).length = (natHi (zig n / 128)).length + 1 := by rw [hL, List.length_append]; rfl
  refine ⟨(natHi (zig n / 128)).length, by omega, ?_, ?_, ?_, ?_, ?_⟩
  · rw [← hll, h1, List.take_left]
  · rw [← hll, h1, List.drop_left]
  · rw [h1, List.length_append]; omega
  · rw [h1, hL, List.getD_eq_getElem?_getD, List.append_assoc, List.getElem?_append_right (Nat.le_refl _), Nat.sub_self]
    show (UInt8.ofNat (zig n % 128)).toNat < 128
    rw [byte_lo]; omega
  · intro k hk
    have e : s.getD k 0 = (natHi (zig n / 128))[k] := by
      rw [h1, hL, List.getD_eq_getElem?_getD, List.append_assoc, List.getElem?_append_left hk, List.getElem?_eq_getElem hk]; rfl
    rw [e]
    exact natHi_big _ _ (Nat.le_refl _) _ (List.getElem_mem _)
theorem RAt.yes {s : Str} {i v : Nat} {n : Int} (_h : RAt s i v) (hn : I64 n) (he : intL n = s.take (i + 1)) : toIntL s = some (n, s.drop (i + 1)) := by
  have := toInt_int hn (s.drop (i + 1))
  rwa [he, List.take_append_drop] at this
theorem RAt.no {s : Str} {i v : Nat} {c : UInt8} (h : RAt s i v) (hl : i < s.length) (hc : s.getD i 0 = c) (hs : c.toNat < 128) (hne : intL (unzig ((128 * v + c.toNat) % 18446744073709551616)) ≠ s.take (i + 1)) : toIntL s = none := by
  cases ht : toIntL s with
  | none => rfl
  | some p =>
    obtain ⟨n, t⟩ := p
    obtain ⟨j, h1, h2, h3, h4, h5, h6⟩ := int_end ht
    obtain rfl : i = j := by
      rcases Nat.lt_trichotomy i j with h7 | h7 | h7
      · have := h6 i h7; rw [hc] at this; omega
      · exact h7
      · have := h.big j h7; omega
    obtain ⟨_, hI⟩ := toInt_back ht
    have e1 : foldN (s.take (i + 1)) = zig n := by rw [h2]; exact foldN_nat _
    have e2 := zig_lt hI
    rw [take_snoc hl hc, foldN_snoc] at e1
    have e3 : (128 * v + c.toNat) % 18446744073709551616 = zig n := by rw [h.val]; omega
    rw [e3, unzig_zig] at hne
    exact absurd h2.symm hne
theorem RAt.out {s : Str} {i v : Nat} (h : RAt s i v) (he : i = 10 ∨ i = s.length) : toIntL s = none := by
  cases ht : toIntL s with
  | none => rfl
  | some p =>
    obtain ⟨n, t⟩ := p
    obtain ⟨j, h1, h2, h3, h4, h5, h6⟩ := int_end ht
    have : j < i := by omega
    have := h.big j this
    omega
/-- numbers in a row: twenty are as good as thirteen, if no more are there -/
theorem numsF_mono : ∀ (k m : Nat) (s : Str) {l : List Int}, numsF k s = some l → k ≤ m → numsF m s = some l
  | k, m, s, l, h, hk => by
    obtain ⟨h1, h2, h3⟩ := nums_back k s h
    rw [h1]; exact nums_ints l m (by omega) h3
theorem numsF_less {k m : Nat} {s : Str} {l : List Int} (h : numsF m s = some l) (hl : l.length ≤ k) : numsF k s = some l := by
  obtain ⟨h1, h2, h3⟩ := nums_back m s h
  rw [h1]; exact nums_ints l k hl h3
/-- some numbers have been read -/
theorem nums_at : ∀ (ns : List Int) (rest : Str) (k : Nat), (∀ n ∈ ns, I64 n) → numsF k (intsL ns ++ rest) = if k < ns.length then none else (numsF (k - ns.length) rest).map (ns ++ ·)
  | [], rest, k, _ => by
    rw [if_neg (by simp)]
    show numsF k rest = (numsF k rest).map fun x => x
    rw [Option.map_id']
  | n :: ns, rest, 0, _ => by
    rw [if_pos (by simp), intsL_cons, List.append_assoc]
    exact numsF_full (intL_ne _ _)
  | n :: ns, rest, k + 1, hI => by
    rw [intsL_cons, List.append_assoc, numsF_step (intL_ne _ _) (toInt_int (hI n (List.mem_cons_self ..)) _), nums_at ns rest k fun m hm => hI m (List.mem_cons_of_mem _ hm)]
    simp only [List.length_cons, Nat.add_lt_add_iff_right, Nat.add_sub_add_right]
    by_cases hk : k < ns.length
    · rw [if_pos hk, if_pos hk]
    · rw [if_neg hk, if_neg hk]
      cases numsF (k - ns.length) rest <;> rfl
structure NumsAt (s : Str) (ns : List Int) (rest : Str) : Prop where
  all : s = intsL ns ++ rest
  inr : ∀ n ∈ ns, I64 n
theorem NumsAt.start (s : Str) : NumsAt s [] s := ⟨rfl, fun _ h => by cases h⟩
theorem NumsAt.more {s rest t : Str} {ns : List Int} {n : Int} (h : NumsAt s ns rest) (ht : toIntL rest = some (n, t)) : NumsAt s (ns ++ [n]) t := by
  obtain ⟨h1, h2⟩ := toInt_back ht
  refine ⟨by rw [intsL_app, List.append_assoc, show intsL [n] = intL n from List.append_nil _, ← h1]; exact h.all, fun x hx => ?_⟩
  rcases List.mem_append.1 hx with hx | hx
  · exact h.inr x hx
  · rw [List.mem_singleton.1 hx]; exact h2
theorem NumsAt.bad {s rest : Str} {ns : List Int} (h : NumsAt s ns rest) (hr : rest ≠ []) (ht : toIntL rest = none) (k : Nat) : numsF k s = none := by
  rw [h.all, nums_at ns rest k h.inr]
  split
  · rfl
  · rw [numsF_bad hr ht]; rfl
theorem NumsAt.done {s : Str} {ns : List Int} (h : NumsAt s ns []) (k : Nat) : numsF k s = if ns.length ≤ k then some ns else none := by
  rw [h.all, nums_at ns [] k h.inr, numsF_nil]
  by_cases hk : k < ns.length
  · rw [if_pos hk, if_neg (by omega)]
  · rw [if_neg hk, if_pos (by omega)]; simp
theorem NumsAt.full {s rest : Str} {ns : List Int} (h : NumsAt s ns rest) (hr : rest ≠ []) {k : Nat} (hk : k ≤ ns.length) : numsF k s = none := by
  rw [h.all, nums_at ns rest k h.inr]
  split
  · rfl
  · rw [show k - ns.length = 0 by omega, numsF_full hr]; rfl
end Go.Proofs.YtgmghopcppniaaaGreatDoor
