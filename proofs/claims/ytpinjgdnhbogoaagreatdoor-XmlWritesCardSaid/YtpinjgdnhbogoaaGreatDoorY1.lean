/- The reference's helpers of layer 11 in the same plain words (no program). -/
import Derived.Test.YtpinjgdnhbogoaaGreatDoorXX
namespace Go.Proofs.YtpinjgdnhbogoaaGreatDoor

/-- where p stands in s from i on; -1: nowhere -/
def findZ (p s : Str) (i : Nat) : Int := match cutL p (s.drop i) with | none => -1 | some q => ((i + q.1.length : Nat) : Int)
theorem cut_short : ∀ {p s : Str}, s.length < p.length → cutL p s = none
  | [], _, h => by simp at h
  | y :: p, [], h => by simp [cutL]
  | y :: p, x :: t, h => by
    unfold cutL
    rw [if_neg (fun hp => by have := (List.isPrefixOf_iff_prefix.1 hp).length_le; omega), cut_short (p := y :: p) (s := t) (by simp at h ⊢; omega)]; rfl
theorem drop_cons {s : Str} {i : Nat} (hi : i < s.length) : s.drop i = s[i] :: s.drop (i + 1) := List.drop_eq_getElem_cons hi
theorem find_hit {p s : Str} {i : Nat} (hi : i < s.length) (h : p.isPrefixOf (s.drop i) = true) : findZ p s i = (i : Int) := by
  unfold findZ
  rw [drop_cons hi] at h ⊢
  unfold cutL
  rw [if_pos h]; rfl
theorem find_miss {p s : Str} {i : Nat} (hi : i < s.length) (h : ¬ p.isPrefixOf (s.drop i) = true) : findZ p s i = findZ p s (i + 1) := by
  unfold findZ
  rw [drop_cons hi] at h ⊢
  conv => lhs; unfold cutL
  rw [if_neg h]
  cases cutL p (s.drop (i + 1)) with
  | none => rfl
  | some q => simp only [Option.map_some, List.length_cons]; rw [show i + (q.1.length + 1) = i + 1 + q.1.length by omega]
theorem find_end {p s : Str} {i : Nat} (h0 : 0 < p.length) (h : s.length < i + p.length) : findZ p s i = -1 := by
  unfold findZ
  rw [cut_short (by rw [List.length_drop]; omega)]
theorem find_none {p s : Str} {i : Nat} (h : findZ p s i < 0) : cutL p (s.drop i) = none := by
  unfold findZ at h
  cases hc : cutL p (s.drop i) with
  | none => rfl
  | some q => rw [hc] at h; simp only at h; omega
theorem find_some {p s : Str} {i : Nat} (h : ¬ findZ p s i < 0) : ∃ a b, cutL p (s.drop i) = some (a, b) ∧ findZ p s i = ((i + a.length : Nat) : Int) ∧ s.drop i = a ++ (p ++ b) := by
  unfold findZ at h ⊢
  cases hc : cutL p (s.drop i) with
  | none => rw [hc] at h; simp at h
  | some q => exact ⟨q.1, q.2, rfl, rfl, cutL_some hc⟩

/-! ### digits -/
def sixV (c : UInt8) : Int := if digV c < 16 then digV c else -1
def numQ (base most : Nat) (ds : Str) : Bool := ds.all (fun c => decide (digV c < base)) && decide (ds.length ≤ most)
theorem numL_num (base most : Nat) (ds : Str) : numL base most ds = if !ds.isEmpty && numQ base most ds && runeOK (numV base ds) then some (utf8L (numV base ds)) else none := by
  unfold numL numQ
  cases ds.isEmpty <;> simp [Bool.and_assoc]

/-! ### a reference -/
def refNames : List (Str × Str) := [([97, 109, 112, 59], [38]), ([108, 116, 59], [60]), ([103, 116, 59], [62]), ([113, 117, 111, 116, 59], [34]), ([97, 112, 111, 115, 59], [39])]
theorem ref_named {p c s : Str} (h : (p, c) ∈ refNames) (hp : p.isPrefixOf s = true) : refL s = some (c, s.drop p.length) := by
  obtain ⟨r, rfl⟩ := List.isPrefixOf_iff_prefix.1 hp
  rw [List.drop_left]
  simp only [refNames, List.mem_cons, Prod.mk.injEq, List.not_mem_nil, or_false] at h
  rcases h with ⟨rfl, rfl⟩ | ⟨rfl, rfl⟩ | ⟨rfl, rfl⟩ | ⟨rfl, rfl⟩ | ⟨rfl, rfl⟩
  · exact ref_amp r
  · exact ref_lt r
  · exact ref_gt r
  · exact ref_quot r
  · exact ref_apos r
def numRef (b : Str) : Option Str := match b with | 35 :: 120 :: ds => numL 16 6 ds | 35 :: ds => numL 10 7 ds | _ => none
theorem numRef_16 (ds : Str) : numRef (35 :: 120 :: ds) = numL 16 6 ds := rfl
theorem numRef_10 {ds : Str} (hx : ∀ t, ds ≠ 120 :: t) : numRef (35 :: ds) = numL 10 7 ds := by
  cases ds with
  | nil => rfl
  | cons c t =>
    have h : c ≠ 120 := fun e => hx t (by rw [e])
    unfold numRef
    split
    · rename_i he; injection he with _ he; injection he with he _; exact absurd he h
    · rename_i he; injection he with _ he; rw [he]
    · rename_i he; exact absurd rfl (he _)
theorem numRef_no {b : Str} (hb : ∀ t, b ≠ 35 :: t) : numRef b = none := by
  unfold numRef
  split
  · exact absurd rfl (hb _)
  · exact absurd rfl (hb _)
  · rfl
/-- none of the five: a number, or nothing -/
theorem ref_other {s : Str} (h : ∀ q ∈ refNames, ¬ q.1.isPrefixOf s = true) : refL s = match cutL [59] s with
    | none => none
    | some (b, rest) => (numRef b).map fun t => (t, rest) := by
  unfold refL
  cases hc : cutL [59] s with
  | none => rfl
  | some q =>
    obtain ⟨b, rest⟩ := q
    have hs := cutL_some hc
    have key : ∀ p c, (p ++ [59], c) ∈ refNames → b ≠ p := by
      rintro p c hm rfl
      refine h _ hm (List.isPrefixOf_iff_prefix.2 ⟨rest, ?_⟩)
      rw [hs, List.append_assoc]
    dsimp only
    unfold bodyL
    rw [if_neg (key [97, 109, 112] [38] (by simp [refNames])), if_neg (key [108, 116] [60] (by simp [refNames])), if_neg (key [103, 116] [62] (by simp [refNames])), if_neg (key [113, 117, 111, 116] [34] (by simp [refNames])), if_neg (key [97, 112, 111, 115] [39] (by simp [refNames]))]
    rfl
end Go.Proofs.YtpinjgdnhbogoaaGreatDoor
