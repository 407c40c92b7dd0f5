/- Layer 1 in plain words: numbers and frames as bytes, and back (no program). -/
import Derived.WalkKit
namespace Go.Proofs.YtgmghopcppniaaaGreatDoor

abbrev Str := List UInt8

/-! ### naturals, seven bits a byte, the highest first -/
def natHi (v : Nat) : Str := if v = 0 then [] else natHi (v / 128) ++ [UInt8.ofNat (128 + v % 128)]
termination_by v
decreasing_by omega
def natL (v : Nat) : Str := natHi (v / 128) ++ [UInt8.ofNat (v % 128)]
/-- reading: how many bytes may still come, is it the first one, what was read -/
def toNatF : Nat → Bool → Nat → Str → Option (Nat × Str)
  | 0, _, _, _ => none
  | _ + 1, _, _, [] => none
  | k + 1, f, v, c :: t => if (f && c == 128) || decide (144115188075855872 ≤ v) then none
      else if c.toNat < 128 then some (v * 128 + c.toNat, t) else toNatF k false (v * 128 + c.toNat % 128) t
theorem toNat_cons (k : Nat) (f : Bool) (v : Nat) (c : UInt8) (t : Str) : toNatF (k + 1) f v (c :: t) = if (f && c == 128) || decide (144115188075855872 ≤ v) then none else if c.toNat < 128 then some (v * 128 + c.toNat, t) else toNatF k false (v * 128 + c.toNat % 128) t := rfl
theorem natHi_zero : natHi 0 = [] := by unfold natHi; rfl
theorem natHi_pos {v : Nat} (h : v ≠ 0) : natHi v = natHi (v / 128) ++ [UInt8.ofNat (128 + v % 128)] := by conv => lhs; unfold natHi; rw [if_neg h]
theorem byte_lo {v : Nat} : (UInt8.ofNat (v % 128)).toNat = v % 128 := by rw [UInt8.toNat_ofNat']; omega
theorem byte_hi {v : Nat} : (UInt8.ofNat (128 + v % 128)).toNat = 128 + v % 128 := by rw [UInt8.toNat_ofNat']; omega
theorem byte_eq {a b : UInt8} (h : a.toNat = b.toNat) : a = b := UInt8.toNat.inj h
theorem natHi_len : ∀ (k v : Nat), v < 128 ^ k → (natHi v).length ≤ k
  | 0, v, h => by
    have e : v = 0 := by simpa using h
    rw [e, natHi_zero]; exact Nat.le_refl _
  | k + 1, v, h => by
    by_cases e : v = 0
    · rw [e, natHi_zero]; exact Nat.zero_le _
    · rw [natHi_pos e, List.length_append, List.length_singleton]
      have := natHi_len k (v / 128) (by rw [Nat.pow_succ] at h; omega)
      omega
/-- the bytes that say there are more -/
theorem toNat_hi : ∀ (n v k : Nat) (r : Str), v ≤ n → v < 144115188075855872 → toNatF (k + (natHi v).length) true 0 (natHi v ++ r) = toNatF k (decide (v = 0)) v r
  | n, 0, k, r, _, _ => by rw [natHi_zero]; rfl
  | 0, v + 1, _, _, h, _ => by omega
  | n + 1, v + 1, k, r, hn, hv => by
    rw [natHi_pos (Nat.succ_ne_zero v), List.length_append, List.length_singleton, List.append_assoc]
    have ih := toNat_hi n ((v + 1) / 128) (k + 1) ([UInt8.ofNat (128 + (v + 1) % 128)] ++ r) (by omega) (by omega)
    rw [show k + ((natHi ((v + 1) / 128)).length + 1) = k + 1 + (natHi ((v + 1) / 128)).length by omega, ih]
    show toNatF (k + 1) _ _ (UInt8.ofNat (128 + (v + 1) % 128) :: r) = _
    rw [toNat_cons]
    have h1 : ¬ ((decide ((v + 1) / 128 = 0) && UInt8.ofNat (128 + (v + 1) % 128) == 128) || decide (144115188075855872 ≤ (v + 1) / 128)) = true := by
      simp only [Bool.or_eq_true, Bool.and_eq_true, decide_eq_true_eq, beq_iff_eq, not_or, not_and]
      refine ⟨fun h0 e => ?_, by omega⟩
      have h2 := congrArg UInt8.toNat e
      rw [byte_hi] at h2
      have h3 : (128 : UInt8).toNat = 128 := rfl
      omega
    rw [if_neg h1, if_neg (by rw [byte_hi]; omega), byte_hi, show (v + 1) / 128 * 128 + (128 + (v + 1) % 128) % 128 = v + 1 by omega]
    rw [decide_eq_false (Nat.succ_ne_zero v)]
theorem toNat_nat {v : Nat} (hv : v < 18446744073709551616) (r : Str) : toNatF 10 true 0 (natL v ++ r) = some (v, r) := by
  have hl := natHi_len 9 (v / 128) (by omega)
  unfold natL
  rw [List.append_assoc, show (10 : Nat) = (10 - (natHi (v / 128)).length - 1 + 1) + (natHi (v / 128)).length by omega, toNat_hi _ _ _ _ (Nat.le_refl _) (by omega)]
  show toNatF _ _ _ (UInt8.ofNat (v % 128) :: r) = _
  rw [toNat_cons]
  have h1 : ¬ ((decide (v / 128 = 0) && UInt8.ofNat (v % 128) == 128) || decide (144115188075855872 ≤ v / 128)) = true := by
    simp only [Bool.or_eq_true, Bool.and_eq_true, decide_eq_true_eq, beq_iff_eq, not_or, not_and]
    refine ⟨fun _ e => ?_, by omega⟩
    have h2 := congrArg UInt8.toNat e
    rw [byte_lo] at h2
    have h3 : (128 : UInt8).toNat = 128 := rfl
    omega
  rw [if_neg h1, if_pos (by rw [byte_lo]; omega), byte_lo, show v / 128 * 128 + v % 128 = v by omega]
theorem toNat_back : ∀ (k : Nat) (f : Bool) (acc : Nat) (s : Str) {v : Nat} {t : Str}, toNatF k f acc s = some (v, t) → (f = true → acc = 0) → (f = false → 0 < acc) → natHi acc ++ s = natL v ++ t ∧ v < 18446744073709551616
  | 0, _, _, _, _, _, h, _, _ => by cases h
  | k + 1, _, _, [], _, _, h, _, _ => by cases h
  | k + 1, f, acc, c :: s, v, t, h, hf, hg => by
    unfold toNatF at h
    split at h
    · cases h
    · rename_i h0
      simp only [Bool.or_eq_true, Bool.and_eq_true, decide_eq_true_eq, beq_iff_eq, not_or, not_and] at h0
      obtain ⟨h1, h2⟩ := h0
      have hc := c.toNat_lt
      split at h
      · rename_i h3
        simp only [Option.some.injEq, Prod.mk.injEq] at h
        obtain ⟨rfl, rfl⟩ := h
        refine ⟨?_, by omega⟩
        unfold natL
        rw [show (acc * 128 + c.toNat) / 128 = acc by omega, show (acc * 128 + c.toNat) % 128 = c.toNat by omega, List.append_assoc, UInt8.ofNat_toNat]
        rfl
      · rename_i h3
        have hpos : 0 < acc * 128 + c.toNat % 128 := by
          cases f with
          | false => have := hg rfl; omega
          | true =>
            have h4 : c ≠ 128 := h1 rfl
            rcases Nat.lt_or_ge 128 c.toNat with h5 | h5
            · omega
            · exact absurd (byte_eq (show c.toNat = (128 : UInt8).toNat from by have h6 : (128 : UInt8).toNat = 128 := rfl; omega)) h4
        obtain ⟨h4, h5⟩ := toNat_back k false _ s h (fun e => by cases e) (fun _ => hpos)
        refine ⟨?_, h5⟩
        rw [natHi_pos (by omega), show (acc * 128 + c.toNat % 128) / 128 = acc by omega, show 128 + (acc * 128 + c.toNat % 128) % 128 = c.toNat by omega, UInt8.ofNat_toNat, List.append_assoc] at h4
        exact h4

/-! ### numbers -/
def zig (n : Int) : Nat := if 0 ≤ n then 2 * n.toNat else 2 * (-(n + 1)).toNat + 1
def unzig (v : Nat) : Int := if v % 2 = 0 then ((v / 2 : Nat) : Int) else -((v / 2 : Nat) : Int) - 1
def I64 (n : Int) : Prop := -9223372036854775808 ≤ n ∧ n ≤ 9223372036854775807
theorem unzig_zig (n : Int) : unzig (zig n) = n := by unfold zig unzig; split <;> split <;> omega
theorem zig_unzig (v : Nat) : zig (unzig v) = v := by unfold zig unzig; split <;> split <;> omega
theorem zig_lt {n : Int} (h : I64 n) : zig n < 18446744073709551616 := by unfold I64 at h; unfold zig; split <;> omega
theorem unzig_in {v : Nat} (h : v < 18446744073709551616) : I64 (unzig v) := by unfold I64 unzig; split <;> omega
def intL (n : Int) : Str := natL (zig n)
def toIntL (s : Str) : Option (Int × Str) := match toNatF 10 true 0 s with | none => none | some (v, t) => some (unzig v, t)
theorem toInt_int {n : Int} (h : I64 n) (r : Str) : toIntL (intL n ++ r) = some (n, r) := by
  unfold toIntL intL; rw [toNat_nat (zig_lt h)]; dsimp only; rw [unzig_zig]
theorem toInt_back {s t : Str} {n : Int} (h : toIntL s = some (n, t)) : s = intL n ++ t ∧ I64 n := by
  unfold toIntL at h
  split at h
  · cases h
  · rename_i v t' e
    simp only [Option.some.injEq, Prod.mk.injEq] at h
    obtain ⟨rfl, rfl⟩ := h
    obtain ⟨h1, h2⟩ := toNat_back _ _ _ _ e (fun _ => rfl) (fun e => by cases e)
    rw [natHi_zero, List.nil_append] at h1
    exact ⟨by unfold intL; rw [zig_unzig]; exact h1, unzig_in h2⟩
theorem natL_pos (v : Nat) : 0 < (natL v).length := by unfold natL; simp
theorem intL_pos (n : Int) : 0 < (intL n).length := natL_pos _
theorem natL_len {v : Nat} (h : v < 18446744073709551616) : (natL v).length ≤ 10 := by
  unfold natL
  have := natHi_len 9 (v / 128) (by omega)
  simp; omega
theorem intL_len {n : Int} (h : I64 n) : (intL n).length ≤ 10 := natL_len (zig_lt h)
theorem natL_short {v : Nat} (h : v < 16384) : (natL v).length ≤ 2 := by
  unfold natL
  have := natHi_len 1 (v / 128) (by omega)
  simp; omega

/-! ### numbers in a row -/
def intsL (l : List Int) : Str := l.flatMap intL
theorem intsL_cons (n : Int) (l : List Int) : intsL (n :: l) = intL n ++ intsL l := rfl
theorem intsL_app (a b : List Int) : intsL (a ++ b) = intsL a ++ intsL b := List.flatMap_append
/-- all of a text read as numbers, at most so many -/
def numsF : Nat → Str → Option (List Int)
  | _, [] => some []
  | 0, _ :: _ => none
  | k + 1, c :: s => match toIntL (c :: s) with
    | none => none
    | some (n, t) => match numsF k t with | none => none | some l => some (n :: l)
theorem numsF_nil (k : Nat) : numsF k [] = some [] := by cases k <;> rfl
theorem numsF_step {k : Nat} {s t : Str} {n : Int} (hs : s ≠ []) (h : toIntL s = some (n, t)) : numsF (k + 1) s = match numsF k t with | none => none | some l => some (n :: l) := by
  cases s with
  | nil => exact absurd rfl hs
  | cons c s => conv => lhs; unfold numsF
                rw [h]
theorem numsF_bad {k : Nat} {s : Str} (hs : s ≠ []) (h : toIntL s = none) : numsF k s = none := by
  cases s with
  | nil => exact absurd rfl hs
  | cons c s =>
    cases k with
    | zero => rfl
    | succ k => unfold numsF; rw [h]
theorem numsF_full {s : Str} (hs : s ≠ []) : numsF 0 s = none := by
  cases s with
  | nil => exact absurd rfl hs
  | cons c s => rfl
theorem intL_ne (n : Int) (r : Str) : intL n ++ r ≠ [] := by
  have := intL_pos n
  intro h
  have h2 := congrArg List.length h
  rw [List.length_append, List.length_nil] at h2; omega
theorem nums_ints : ∀ (l : List Int) (k : Nat), l.length ≤ k → (∀ n ∈ l, I64 n) → numsF k (intsL l) = some l
  | [], k, _, _ => numsF_nil k
  | n :: l, 0, h, _ => by simp at h
  | n :: l, k + 1, h, hI => by
    rw [intsL_cons, numsF_step (intL_ne _ _) (toInt_int (hI n (List.mem_cons_self ..)) _), nums_ints l k (by simpa using h) fun m hm => hI m (List.mem_cons_of_mem _ hm)]
theorem nums_back : ∀ (k : Nat) (s : Str) {l : List Int}, numsF k s = some l → s = intsL l ∧ l.length ≤ k ∧ ∀ n ∈ l, I64 n
  | k, [], l, h => by
    rw [numsF_nil] at h
    obtain rfl := Option.some.inj h
    exact ⟨rfl, Nat.zero_le _, fun _ h => by cases h⟩
  | 0, c :: s, l, h => by cases h
  | k + 1, c :: s, l, h => by
    cases ht : toIntL (c :: s) with
    | none => rw [numsF_bad (by simp) ht] at h; cases h
    | some p =>
      obtain ⟨n, t⟩ := p
      rw [numsF_step (by simp) ht] at h
      cases hm : numsF k t with
      | none => rw [hm] at h; cases h
      | some m =>
        rw [hm] at h
        obtain rfl := Option.some.inj h
        obtain ⟨h1, h2⟩ := toInt_back ht
        obtain ⟨h3, h4, h5⟩ := nums_back k t hm
        refine ⟨by rw [h1, intsL_cons, h3], by simpa using h4, fun x hx => ?_⟩
        rcases List.mem_cons.1 hx with rfl | hx
        · exact h2
        · exact h5 x hx
end Go.Proofs.YtgmghopcppniaaaGreatDoor

/- Frames in plain words: laid round a text, taken off (no program). -/
namespace Go.Proofs.YtgmghopcppniaaaGreatDoor

def crcB (c : Nat) : Nat := if c % 2 = 1 then (c / 2) ^^^ 2197175160 else c / 2
def crcN : Nat → Nat → Nat
  | 0, c => c
  | k + 1, c => crcN k (crcB c)
def sumL (c : Nat) (s : Str) : Nat := s.foldl (fun c b => crcN 8 (c ^^^ b.toNat)) c
def crcL (s : Str) : Nat := 4294967295 ^^^ sumL 4294967295 s
theorem crcB_lt {c : Nat} (h : c < 4294967296) : crcB c < 4294967296 := by
  unfold crcB; split
  · exact Nat.xor_lt_two_pow (n := 32) (by omega) (by decide)
  · omega
theorem crcN_lt : ∀ (k : Nat) {c : Nat}, c < 4294967296 → crcN k c < 4294967296
  | 0, _, h => h
  | k + 1, _, h => crcN_lt k (crcB_lt h)
theorem crcN_snoc : ∀ (k c : Nat), crcN (k + 1) c = crcB (crcN k c)
  | 0, _ => rfl
  | k + 1, c => crcN_snoc k (crcB c)
theorem sum_lt : ∀ (s : Str) {c : Nat}, c < 4294967296 → sumL c s < 4294967296
  | [], _, h => h
  | b :: s, c, h => sum_lt s (crcN_lt 8 (Nat.xor_lt_two_pow (n := 32) h (by have := b.toNat_lt; omega)))
theorem crc_lt (s : Str) : crcL s < 4294967296 := Nat.xor_lt_two_pow (n := 32) (by decide) (sum_lt s (by decide))
theorem sum_app (c : Nat) (a b : Str) : sumL c (a ++ b) = sumL (sumL c a) b := List.foldl_append
theorem sum_snoc {c : Nat} {s : Str} {k : Nat} {b : UInt8} (h : s[k]? = some b) : sumL c (s.take (k + 1)) = crcN 8 (sumL c (s.take k) ^^^ b.toNat) := by
  rw [List.take_add_one, h, sum_app]; rfl

def fourL (v : Nat) : Str := [UInt8.ofNat (v / 16777216), UInt8.ofNat (v / 65536), UInt8.ofNat (v / 256), UInt8.ofNat v]
def fourN (s : Str) : Nat := (s.getD 0 0).toNat * 16777216 + (s.getD 1 0).toNat * 65536 + (s.getD 2 0).toNat * 256 + (s.getD 3 0).toNat
theorem four_len (v : Nat) : (fourL v).length = 4 := rfl
theorem four_back {v : Nat} (h : v < 4294967296) (r : Str) : fourN (fourL v ++ r) = v := by
  unfold fourN fourL
  show (UInt8.ofNat (v / 16777216)).toNat * 16777216 + (UInt8.ofNat (v / 65536)).toNat * 65536 + (UInt8.ofNat (v / 256)).toNat * 256 + (UInt8.ofNat v).toNat = v
  simp only [UInt8.toNat_ofNat']
  omega
theorem four_of {a b c d : UInt8} {t : Str} : fourL (fourN (a :: b :: c :: d :: t)) = [a, b, c, d] := by
  have ha := a.toNat_lt
  have hb := b.toNat_lt
  have hc := c.toNat_lt
  have hd := d.toNat_lt
  unfold fourN fourL
  simp only [List.getD_cons_zero, List.getD_cons_succ, List.cons.injEq, and_true]
  refine ⟨byte_eq ?_, byte_eq ?_, byte_eq ?_, byte_eq ?_⟩ <;> rw [UInt8.toNat_ofNat'] <;> omega
theorem four_lt (s : Str) : fourN s < 4294967296 := by
  have ha := (s.getD 0 0).toNat_lt
  have hb := (s.getD 1 0).toNat_lt
  have hc := (s.getD 2 0).toNat_lt
  have hd := (s.getD 3 0).toNat_lt
  unfold fourN; omega

def headF (s : Str) : Str := fourL s.length ++ fourL (crcL (fourL s.length ++ s))
def frameL (s : Str) : Str := headF s ++ s
theorem headF_len (s : Str) : (headF s).length = 8 := rfl
theorem frame_len (s : Str) : (frameL s).length = 8 + s.length := by unfold frameL; rw [List.length_append, headF_len]
/-- a frame taken off: what it holds, how many bytes it has -/
def unframeL (s : Str) : Except Int (Str × Nat) :=
  if s.length < 4 then .error 8
  else if 65536 < fourN s then .error 10
  else if s.length < 8 + fourN s then .error 8
  else if frameL ((s.drop 8).take (fourN s)) = s.take (8 + fourN s) then .ok ((s.drop 8).take (fourN s), 8 + fourN s)
  else .error 9
theorem unframe_frame {s : Str} (h : s.length ≤ 65536) (r : Str) : unframeL (frameL s ++ r) = .ok (s, 8 + s.length) := by
  have hn : fourN (frameL s ++ r) = s.length := by
    unfold frameL headF; rw [List.append_assoc, List.append_assoc]; exact four_back (by omega) _
  have hl : (frameL s ++ r).length = 8 + s.length + r.length := by rw [List.length_append, frame_len]
  have hd : ((frameL s ++ r).drop 8).take s.length = s := by
    unfold frameL; rw [List.append_assoc, List.drop_left' (headF_len s), List.take_left]
  have ht : (frameL s ++ r).take (8 + s.length) = frameL s := by rw [← frame_len, List.take_left]
  unfold unframeL
  rw [hn, if_neg (by omega), if_neg (by omega), if_neg (by omega), hd, ht, if_pos rfl]
theorem unframe_back {s t : Str} {n : Nat} (h : unframeL s = .ok (t, n)) : s = frameL t ++ s.drop n ∧ n = 8 + t.length ∧ t.length ≤ 65536 ∧ n ≤ s.length := by
  unfold unframeL at h
  split at h
  · cases h
  split at h
  · cases h
  split at h
  · cases h
  split at h
  · rename_i h1 h2 h3 h4
    simp only [Except.ok.injEq, Prod.mk.injEq] at h
    obtain ⟨rfl, rfl⟩ := h
    have hl : ((s.drop 8).take (fourN s)).length = fourN s := by rw [List.length_take, List.length_drop]; omega
    refine ⟨?_, by rw [hl], by rw [hl]; omega, by omega⟩
    rw [h4, List.take_append_drop]
  · cases h
theorem unframe_err {s : Str} {e : Int} (h : unframeL s = .error e) : e = 8 ∨ e = 9 ∨ e = 10 := by
  unfold unframeL at h
  split at h
  · exact .inl (Except.error.inj h).symm
  split at h
  · exact .inr (.inr (Except.error.inj h).symm)
  split at h
  · exact .inl (Except.error.inj h).symm
  split at h
  · cases h
  · exact .inr (.inl (Except.error.inj h).symm)
/-- a frame that is cut short is none -/
theorem unframe_short {s : Str} (h : s.length ≤ 65536) {k : Nat} (hk : k < (frameL s).length) : ∃ e, unframeL ((frameL s).take k) = .error e := by
  cases hu : unframeL ((frameL s).take k) with
  | error e => exact ⟨e, rfl⟩
  | ok p =>
    obtain ⟨t, n⟩ := p
    obtain ⟨h1, h2, h3, h4⟩ := unframe_back hu
    have h5 := unframe_frame h3 (((frameL s).take k).drop n ++ (frameL s).drop k)
    rw [← List.append_assoc, ← h1, List.take_append_drop] at h5
    have h6 := unframe_frame h []
    rw [List.append_nil, h5] at h6
    simp only [Except.ok.injEq, Prod.mk.injEq] at h6
    rw [List.length_take] at h4
    rw [frame_len] at hk
    rw [h6.1] at h2
    omega
/-- what the document's answer asks: the sum alone -/
theorem frame_sum {s t : Str} (h1 : s.length = 8 + t.length) (h2 : s.drop 8 = t) (h3 : fourN s = t.length) : frameL t = s ↔ (s.drop 4).take 4 = fourL (crcL (s.take 4 ++ t)) := by
  obtain ⟨p, hp, q, hq, e⟩ : ∃ p : Str, p.length = 4 ∧ ∃ q : Str, q.length = 4 ∧ s = p ++ (q ++ t) :=
    ⟨s.take 4, by rw [List.length_take]; omega, (s.drop 4).take 4, by rw [List.length_take, List.length_drop]; omega, by rw [← h2, show (8 : Nat) = 4 + 4 from rfl, ← List.drop_drop, List.take_append_drop, List.take_append_drop]⟩
  have h4 : fourL t.length = p := by
    rw [← h3, e]
    match p, hp with
    | [a, b, c, d], _ => exact four_of
  have e1 : s.take 4 = p := by rw [e, ← hp, List.take_left]
  have e2 : (s.drop 4).take 4 = q := by rw [e, List.drop_left' hp, ← hq, List.take_left]
  rw [e1, e2, e]
  unfold frameL headF
  rw [h4, List.append_assoc, List.append_cancel_left_eq, List.append_cancel_right_eq]
  exact eq_comm
end Go.Proofs.YtgmghopcppniaaaGreatDoor

/- Layer 4 in plain words: bases packed and unpacked (no program). -/
namespace Go.Proofs.YtgmghopcppniaaaGreatDoor

structure BaseD where
  index : Int
  term : Int
  voters : List Int
  data : Str
deriving DecidableEq
def upL : Int → List Int → Bool
  | _, [] => true
  | last, v :: t => decide (last < v) && decide (v ≤ 9) && upL v t
def rightB (b : BaseD) : Bool := upL 0 b.voters && (decide (0 < b.index) && (decide (b.index ≤ 1099511627776) && (decide (0 ≤ b.term) && (decide (b.term ≤ 1099511627776) && (decide (0 < b.voters.length) && decide (b.data.length ≤ 4000000))))))
theorem up_len : ∀ (l : List Int) (last : Int), upL last l = true → 0 ≤ last → last ≤ 9 → (l.length : Int) ≤ 9 - last
  | [], last, _, _, h => by simp; omega
  | v :: t, last, h, h0, h9 => by
    unfold upL at h
    simp only [Bool.and_eq_true, decide_eq_true_eq] at h
    have := up_len t v h.2 (by omega) h.1.2
    rw [List.length_cons]; omega
theorem up_in : ∀ (l : List Int) (last : Int), upL last l = true → ∀ v ∈ l, last < v ∧ v ≤ 9
  | [], _, _, _, h => by cases h
  | v :: t, last, h, x, hx => by
    unfold upL at h
    simp only [Bool.and_eq_true, decide_eq_true_eq] at h
    rcases List.mem_cons.1 hx with rfl | hx
    · exact h.1
    · have := up_in t v h.2 x hx; omega
theorem right_parts {b : BaseD} (h : rightB b = true) : upL 0 b.voters = true ∧ 0 < b.index ∧ b.index ≤ 1099511627776 ∧ 0 ≤ b.term ∧ b.term ≤ 1099511627776 ∧ 0 < b.voters.length ∧ b.data.length ≤ 4000000 := by
  unfold rightB at h
  simpa only [Bool.and_eq_true, decide_eq_true_eq] using h
theorem right_voters {b : BaseD} (h : rightB b = true) : b.voters.length ≤ 9 ∧ ∀ v ∈ b.voters, 0 < v ∧ v ≤ 9 := by
  obtain ⟨h1, _⟩ := right_parts h
  have := up_len _ _ h1 (by omega) (by omega)
  exact ⟨by omega, up_in _ _ h1⟩

/-! ### chunks -/
def chunksF : Nat → Str → List Str
  | 0, _ => []
  | k + 1, d => if d = [] then [] else d.take 1000 :: chunksF k (d.drop 1000)
def chunksL (d : Str) : List Str := chunksF d.length d
theorem chunksF_more : ∀ (k m : Nat) (d : Str), d.length ≤ k → d.length ≤ m → chunksF k d = chunksF m d
  | 0, m, d, h, _ => by
    have e : d = [] := List.eq_nil_of_length_eq_zero (by omega)
    subst e
    cases m <;> rfl
  | k + 1, 0, d, _, h => by
    have e : d = [] := List.eq_nil_of_length_eq_zero (by omega)
    subst e; rfl
  | k + 1, m + 1, d, h1, h2 => by
    unfold chunksF
    by_cases e : d = []
    · rw [if_pos e, if_pos e]
    · have : 0 < d.length := List.length_pos_iff.2 e
      rw [if_neg e, if_neg e, chunksF_more k m _ (by rw [List.length_drop]; omega) (by rw [List.length_drop]; omega)]
theorem chunks_nil : chunksL [] = [] := rfl
theorem chunks_cons {d : Str} (h : d ≠ []) : chunksL d = d.take 1000 :: chunksL (d.drop 1000) := by
  have hp : 0 < d.length := List.length_pos_iff.2 h
  conv => lhs; rw [chunksL, show d.length = (d.length - 1) + 1 by omega]
  unfold chunksF
  rw [if_neg h]
  congr 1
  exact chunksF_more _ _ _ (by rw [List.length_drop]; omega) (Nat.le_refl _)
theorem chunk_bytes : ∀ (n : Nat) (d : Str), d.length ≤ n → ((chunksL d).flatMap frameL).length = d.length + 8 * ((d.length + 999) / 1000)
  | n, [], _ => rfl
  | 0, c :: d, h => by simp at h
  | n + 1, c :: d, h => by
    rw [chunks_cons (by simp), List.flatMap_cons, List.length_append, frame_len, chunk_bytes n _ (by rw [List.length_drop]; simp only [List.length_cons] at h ⊢; omega), List.length_drop, List.length_take]
    simp only [List.length_cons]
    omega
theorem chunks_all : ∀ (n : Nat) (d : Str), d.length ≤ n → (chunksL d).flatten = d
  | n, [], _ => rfl
  | 0, c :: d, h => by simp at h
  | n + 1, c :: d, h => by
    rw [chunks_cons (by simp), List.flatten_cons, chunks_all n _ (by rw [List.length_drop]; simp only [List.length_cons] at h ⊢; omega), List.take_append_drop]
theorem chunk_short : ∀ (n : Nat) (d : Str), d.length ≤ n → ∀ c ∈ chunksL d, c.length ≤ 1000 ∧ c ≠ []
  | n, [], _, _, hc => by cases hc
  | 0, c :: d, h, _, _ => by simp at h
  | n + 1, c :: d, h, x, hx => by
    rw [chunks_cons (by simp)] at hx
    rcases List.mem_cons.1 hx with rfl | hx
    · exact ⟨by rw [List.length_take]; omega, by simp⟩
    · exact chunk_short n _ (by rw [List.length_drop]; simp only [List.length_cons] at h ⊢; omega) x hx

/-! ### packed -/
def headI (b : BaseD) (long : Nat) : List Int := b.index :: b.term :: (b.voters.length : Int) :: (b.voters ++ [(long : Int)])
def headL (b : BaseD) : Str := intsL (headI b b.data.length)
def payloadsL (b : BaseD) : List Str := headL b :: chunksL b.data
def packL (b : BaseD) : Str := (payloadsL b).flatMap frameL
def packD (b : BaseD) : Str × Int := if rightB b = true then (packL b, 0) else ([], 1)
/-! ### unpacked -/
def takeL (s : Str) : Except Int (Str × Str) := match unframeL s with
  | .ok (t, n) => .ok (t, s.drop n)
  | .error e => .error (if e = 9 then 9 else 8)
def headOf (s : Str) : Option (BaseD × Int) := match numsF 13 s with
  | none => none
  | some l => if l.length < 4 ∨ l.getD 2 0 ≠ (l.length : Int) - 4 then none
    else if rightB ⟨l.getD 0 0, l.getD 1 0, (l.take (l.length - 1)).drop 3, []⟩ = true ∧ 0 ≤ l.getD (l.length - 1) 0 ∧ l.getD (l.length - 1) 0 ≤ 4000000 then some (⟨l.getD 0 0, l.getD 1 0, (l.take (l.length - 1)).drop 3, []⟩, l.getD (l.length - 1) 0) else none
def dataF : Nat → Int → Str → Str → Except Int (Str × Str)
  | 0, _, _, _ => .error 8
  | k + 1, long, d, s => if (d.length : Int) < long then match takeL s with
      | .error e => .error e
      | .ok (t, r) => if (t.length : Int) = min 1000 (long - d.length) then dataF k long (d ++ t) r else .error 8
    else .ok (d, s)
def unpackL (s : Str) : Except Int BaseD := match takeL s with
  | .error e => .error e
  | .ok (t, r) => match headOf t with
    | none => .error 8
    | some (b, long) => match dataF (r.length + 1) long [] r with
      | .error e => .error e
      | .ok (d, r2) => if r2 = [] then .ok { b with data := d } else .error 8
theorem take_ok {s t : Str} {n : Nat} (h : unframeL s = .ok (t, n)) : takeL s = .ok (t, s.drop n) := by unfold takeL; rw [h]
theorem take_no {s : Str} {e : Int} (h : unframeL s = .error e) : takeL s = .error (if e = 9 then 9 else 8) := by unfold takeL; rw [h]
theorem data_end {k : Nat} {long : Int} {d s : Str} (h : ¬ (d.length : Int) < long) : dataF (k + 1) long d s = .ok (d, s) := by unfold dataF; rw [if_neg h]
theorem data_bad {k : Nat} {long : Int} {d s : Str} {e : Int} (h : (d.length : Int) < long) (ht : takeL s = .error e) : dataF (k + 1) long d s = .error e := by unfold dataF; rw [if_pos h, ht]
theorem data_odd {k : Nat} {long : Int} {d s t r : Str} (h : (d.length : Int) < long) (ht : takeL s = .ok (t, r)) (hl : ¬ (t.length : Int) = min 1000 (long - d.length)) : dataF (k + 1) long d s = .error 8 := by unfold dataF; rw [if_pos h, ht]; dsimp only; rw [if_neg hl]
theorem data_more {k : Nat} {long : Int} {d s t r : Str} (h : (d.length : Int) < long) (ht : takeL s = .ok (t, r)) (hl : (t.length : Int) = min 1000 (long - d.length)) : dataF (k + 1) long d s = dataF k long (d ++ t) r := by
  conv => lhs; unfold dataF
  rw [if_pos h, ht]; dsimp only; rw [if_pos hl]
theorem unpack_take {s : Str} {e : Int} (h : takeL s = .error e) : unpackL s = .error e := by unfold unpackL; rw [h]
theorem unpack_head {s t r : Str} (h : takeL s = .ok (t, r)) (h2 : headOf t = none) : unpackL s = .error 8 := by unfold unpackL; rw [h]; dsimp only; rw [h2]
theorem unpack_data {s t r : Str} {b : BaseD} {long : Int} {e : Int} (h : takeL s = .ok (t, r)) (h2 : headOf t = some (b, long)) (h3 : dataF (r.length + 1) long [] r = .error e) : unpackL s = .error e := by unfold unpackL; rw [h]; dsimp only; rw [h2]; dsimp only; rw [h3]
theorem unpack_done {s t r d r2 : Str} {b : BaseD} {long : Int} (h : takeL s = .ok (t, r)) (h2 : headOf t = some (b, long)) (h3 : dataF (r.length + 1) long [] r = .ok (d, r2)) : unpackL s = if r2 = [] then .ok { b with data := d } else .error 8 := by unfold unpackL; rw [h]; dsimp only; rw [h2]; dsimp only; rw [h3]
theorem take_frame {s : Str} (h : s.length ≤ 65536) (r : Str) : takeL (frameL s ++ r) = .ok (s, r) := by
  rw [take_ok (unframe_frame h r), ← frame_len, List.drop_left]
theorem take_back {s t r : Str} (h : takeL s = .ok (t, r)) : s = frameL t ++ r ∧ t.length ≤ 65536 := by
  unfold takeL at h
  split at h
  · rename_i t' n e
    simp only [Except.ok.injEq, Prod.mk.injEq] at h
    obtain ⟨rfl, rfl⟩ := h
    obtain ⟨h1, _, h3, _⟩ := unframe_back e
    exact ⟨h1, h3⟩
  · cases h
theorem take_err {s : Str} {e : Int} (h : takeL s = .error e) : e = 8 ∨ e = 9 := by
  unfold takeL at h
  split at h
  · cases h
  · have := Except.error.inj h
    split at this <;> omega
theorem headI_len (b : BaseD) (n : Nat) : (headI b n).length = b.voters.length + 4 := by unfold headI; simp
theorem head_in {b : BaseD} (h : rightB b = true) {n : Nat} (hn : n ≤ 4000000) : ∀ x ∈ headI b n, I64 x := by
  obtain ⟨_, h1, h2, h3, h4, h5, h6⟩ := right_parts h
  obtain ⟨h7, h8⟩ := right_voters h
  intro x hx
  unfold headI at hx
  simp only [List.mem_cons, List.mem_append, List.not_mem_nil, or_false] at hx
  unfold I64
  rcases hx with rfl | rfl | rfl | hx | rfl
  · omega
  · omega
  · omega
  · have := h8 x hx; omega
  · omega
theorem headOf_head {b : BaseD} (h : rightB b = true) : headOf (headL b) = some ({ b with data := [] }, (b.data.length : Int)) := by
  obtain ⟨h0, h1, h2, h3, h4, h5, h6⟩ := right_parts h
  obtain ⟨h7, h8⟩ := right_voters h
  have hn : numsF 13 (headL b) = some (headI b b.data.length) := nums_ints _ _ (by rw [headI_len]; omega) (head_in h h6)
  have hl := headI_len b b.data.length
  have e3 : ((headI b b.data.length).take (b.voters.length + 4 - 1)).drop 3 = b.voters := by
    unfold headI
    rw [show b.voters.length + 4 - 1 = b.voters.length + 1 + 1 + 1 by omega]
    simp
  have e4 : (headI b b.data.length).getD (b.voters.length + 4 - 1) 0 = (b.data.length : Int) := by
    unfold headI
    rw [show b.voters.length + 4 - 1 = b.voters.length + 1 + 1 + 1 by omega]
    simp
  have e2 : (headI b b.data.length).getD 2 0 = (b.voters.length : Int) := rfl
  have e0 : (headI b b.data.length).getD 0 0 = b.index := rfl
  have e1 : (headI b b.data.length).getD 1 0 = b.term := rfl
  unfold headOf
  rw [hn]
  dsimp only
  rw [hl, e2, e3, e4, e0, e1, if_neg (by omega), if_pos ⟨by
    unfold rightB at h ⊢
    simp only [Bool.and_eq_true, decide_eq_true_eq] at h ⊢
    exact ⟨h.1, h.2.1, h.2.2.1, h.2.2.2.1, h.2.2.2.2.1, h.2.2.2.2.2.1, Nat.zero_le _⟩, by omega, by omega⟩]
theorem last_cut {l : List Int} (h : l ≠ []) : l = l.take (l.length - 1) ++ [l.getD (l.length - 1) 0] := by
  have hp : 0 < l.length := List.length_pos_iff.2 h
  conv => lhs; rw [← List.take_append_drop (l.length - 1) l]
  congr 1
  rw [List.drop_eq_getElem_cons (by omega)]
  rw [List.drop_of_length_le (by omega), List.getD_eq_getElem?_getD, List.getElem?_eq_getElem (by omega)]
  rfl
theorem headOf_back {s : Str} {b : BaseD} {long : Int} (h : headOf s = some (b, long)) : rightB b = true ∧ b.data = [] ∧ 0 ≤ long ∧ long ≤ 4000000 ∧ s = intsL (headI b long.toNat) := by
  unfold headOf at h
  split at h
  · cases h
  · rename_i l e
    obtain ⟨h1, h2, h3⟩ := nums_back _ _ e
    split at h
    · cases h
    · rename_i h4
      split at h
      · rename_i h5
        simp only [Option.some.injEq, Prod.mk.injEq] at h
        obtain ⟨rfl, rfl⟩ := h
        refine ⟨h5.1, rfl, h5.2.1, h5.2.2, ?_⟩
        rw [h1]
        congr 1
        rw [not_or, Nat.not_lt, ne_eq, Classical.not_not] at h4
        match l, h4 with
        | a :: b :: c :: t, h4 =>
          have ht : t ≠ [] := by rintro rfl; simp at h4
          have hlt : 0 < t.length := List.length_pos_iff.2 ht
          have hl : (a :: b :: c :: t).length - 1 = (t.length - 1) + 1 + 1 + 1 := by simp only [List.length_cons]; omega
          unfold headI
          dsimp only
          rw [hl]
          simp only [List.take_succ_cons, List.drop_succ_cons, List.drop_zero, List.getD_cons_succ, List.getD_cons_zero, List.cons.injEq, true_and]
          have h6 : c = (t.length : Int) - 1 := by
            have := h4.2
            simp only [List.getD_cons_succ, List.getD_cons_zero, List.length_cons] at this
            omega
          refine ⟨by rw [List.length_take, h6]; omega, ?_⟩
          rw [hl] at h5
          have h7 := h5.2.1
          simp only [List.getD_cons_succ] at h7
          rw [Int.toNat_of_nonneg h7]
          exact last_cut ht
        | [], h4 => simp at h4
        | [_], h4 => simp at h4
        | [_, _], h4 => simp at h4
      · cases h
theorem dataF_all : ∀ (k : Nat) (long : Int) (d x r : Str), x.length < k → long = (d.length + x.length : Nat) → dataF k long d ((chunksL x).flatMap frameL ++ r) = .ok (d ++ x, r)
  | 0, _, _, _, _, h, _ => by omega
  | k + 1, long, d, [], r, _, h => by
    rw [data_end (by rw [h]; simp)]
    simp [chunks_nil]
  | k + 1, long, d, c :: x, r, hk, h => by
    have hlen : ((c :: x).take 1000).length = min 1000 (x.length + 1) := by rw [List.length_take]; rfl
    have hl : (d.length : Int) < long := by rw [h, List.length_cons]; omega
    rw [chunks_cons (by simp), List.flatMap_cons, List.append_assoc, data_more hl (take_frame (by rw [hlen]; omega) _) (by rw [hlen, h, List.length_cons]; omega),
      dataF_all k long _ _ r (by rw [List.length_drop]; simp only [List.length_cons] at hk ⊢; omega) (by rw [h, List.length_append, hlen, List.length_drop, List.length_cons]; omega), List.append_assoc, List.take_append_drop]
theorem dataF_back : ∀ (k : Nat) (long : Int) (d s : Str) {d2 r : Str}, dataF k long d s = .ok (d2, r) → (d.length : Int) ≤ long → ∃ x, d2 = d ++ x ∧ (d2.length : Int) = long ∧ s = (chunksL x).flatMap frameL ++ r
  | 0, _, _, _, _, _, h, _ => by cases h
  | k + 1, long, d, s, d2, r, h, hl => by
    unfold dataF at h
    split at h
    · rename_i hlt
      split at h
      · cases h
      · rename_i t s2 e
        split at h
        · rename_i ht
          obtain ⟨h1, h2⟩ := take_back e
          obtain ⟨x, h3, h4, h5⟩ := dataF_back k long (d ++ t) s2 h (by rw [List.length_append]; omega)
          have htp : t ≠ [] := by rintro rfl; simp at ht; omega
          refine ⟨t ++ x, by rw [h3, List.append_assoc], h4, ?_⟩
          rw [chunks_cons (by simp [htp]), h1, h5, List.flatMap_cons, ← List.append_assoc]
          have hx : x = [] ∨ t.length = 1000 := by
            by_cases h6 : t.length = 1000
            · exact .inr h6
            · left
              apply List.eq_nil_of_length_eq_zero
              rw [h3] at h4
              simp only [List.length_append] at h4
              omega
          rcases hx with rfl | h6
          · have h7 : t.length ≤ 1000 := by omega
            rw [List.append_nil, List.take_of_length_le h7, List.drop_of_length_le h7]
          · rw [List.take_left' h6, List.drop_left' h6]
        · cases h
    · simp only [Except.ok.injEq, Prod.mk.injEq] at h
      obtain ⟨rfl, rfl⟩ := h
      exact ⟨[], by simp, by omega, by simp [chunks_nil]⟩
theorem ints_len : ∀ (l : List Int), (∀ n ∈ l, I64 n) → (intsL l).length ≤ l.length * 10
  | [], _ => Nat.zero_le _
  | n :: l, h => by
    have h1 := intL_len (h n (List.mem_cons_self ..))
    have h2 := ints_len l fun m hm => h m (List.mem_cons_of_mem _ hm)
    rw [intsL_cons, List.length_append, List.length_cons]; omega
theorem head_len {b : BaseD} (h : rightB b = true) : (headL b).length ≤ 130 := by
  obtain ⟨h0, h1, h2, h3, h4, h5, h6⟩ := right_parts h
  have h7 := ints_len _ (head_in h h6)
  have h8 := (right_voters h).1
  rw [headI_len] at h7
  show (intsL _).length ≤ _
  omega
/-- what was packed is unpacked, and nothing may stand behind it -/
theorem unpack_pack {b : BaseD} (h : rightB b = true) (r : Str) : unpackL (packL b ++ r) = if r = [] then .ok b else .error 8 := by
  have hl := head_len h
  obtain ⟨h0, h1, h2, h3, h4, h5, h6⟩ := right_parts h
  have h7 : packL b ++ r = frameL (headL b) ++ ((chunksL b.data).flatMap frameL ++ r) := by unfold packL payloadsL; rw [List.flatMap_cons, List.append_assoc]
  rw [h7, unpack_done (take_frame (by omega) _) (headOf_head h) (dataF_all _ _ [] b.data r (by rw [List.length_append, chunk_bytes _ _ (Nat.le_refl _)]; omega) (by simp))]
  rfl
theorem unpack_back {s : Str} {b : BaseD} (h : unpackL s = .ok b) : rightB b = true ∧ s = packL b := by
  unfold unpackL at h
  split at h
  · cases h
  · rename_i t r e
    split at h
    · cases h
    · rename_i b0 long e2
      split at h
      · cases h
      · rename_i d r2 e3
        split at h
        · rename_i h0
          obtain rfl := Except.ok.inj h
          obtain ⟨h1, h2⟩ := take_back e
          obtain ⟨h3, h4, h5, h6, h7⟩ := headOf_back e2
          obtain ⟨x, h8, h9, h10⟩ := dataF_back _ _ _ _ e3 (by simpa using h5)
          rw [List.nil_append] at h8
          subst h8
          refine ⟨?_, ?_⟩
          · unfold rightB at h3 ⊢
            simp only [Bool.and_eq_true, decide_eq_true_eq] at h3 ⊢
            exact ⟨h3.1, h3.2.1, h3.2.2.1, h3.2.2.2.1, h3.2.2.2.2.1, h3.2.2.2.2.2.1, by omega⟩
          · rw [h1, h10, h0, List.append_nil, h7]
            unfold packL payloadsL headL headI
            rw [List.flatMap_cons]
            dsimp only
            rw [show long.toNat = d.length by omega]
        · cases h
theorem unpack_err {s : Str} {e : Int} (h : unpackL s = .error e) : e = 8 ∨ e = 9 := by
  have hd : ∀ (k : Nat) (long : Int) (d s : Str) {e : Int}, dataF k long d s = .error e → e = 8 ∨ e = 9 := by
    intro k
    induction k with
    | zero => intro long d s e h; exact .inl (Except.error.inj h).symm
    | succ k ih =>
      intro long d s e h
      unfold dataF at h
      split at h
      · split at h
        · rename_i e1
          obtain rfl := Except.error.inj h
          exact take_err e1
        · split at h
          · exact ih _ _ _ h
          · exact .inl (Except.error.inj h).symm
      · cases h
  unfold unpackL at h
  split at h
  · rename_i e1
    obtain rfl := Except.error.inj h
    exact take_err e1
  · split at h
    · exact .inl (Except.error.inj h).symm
    · split at h
      · rename_i e1
        obtain rfl := Except.error.inj h
        exact hd _ _ _ _ e1
      · split at h
        · cases h
        · exact .inl (Except.error.inj h).symm
theorem pack_bytes (b : BaseD) : (packL b).length = 8 + (headL b).length + b.data.length + 8 * ((b.data.length + 999) / 1000) := by
  unfold packL payloadsL
  rw [List.flatMap_cons, List.length_append, frame_len, chunk_bytes _ _ (Nat.le_refl _)]
  omega
/-- SnapLengths: cut short it is none -/
theorem unpack_cut {b : BaseD} (h : rightB b = true) {k : Nat} (hk : k < (packL b).length) : ∃ e, unpackL ((packL b).take k) = .error e := by
  cases hu : unpackL ((packL b).take k) with
  | error e => exact ⟨e, rfl⟩
  | ok c =>
    obtain ⟨h1, h2⟩ := unpack_back hu
    have h3 := unpack_pack h1 ((packL b).drop k)
    rw [← h2, List.take_append_drop] at h3
    have h4 := unpack_pack h []
    rw [List.append_nil, if_pos rfl, h3] at h4
    split at h4
    · rename_i h5
      have h6 := congrArg List.length h5
      rw [List.length_drop, List.length_nil] at h6
      omega
    · cases h4
theorem pack_grows {b : BaseD} (hd : b.data.length ≤ 5000) : ∃ g, g ≤ 2 ∧ (packL b).length = (packL { b with data := [] }).length + b.data.length + 8 * ((b.data.length + 999) / 1000) + g := by
  rw [pack_bytes, pack_bytes]
  have e : ∀ n, (intsL (headI b n)).length = (intsL [b.index, b.term, (b.voters.length : Int)] ++ intsL b.voters).length + (intL (n : Int)).length := by
    intro n
    have : headI b n = [b.index, b.term, (b.voters.length : Int)] ++ b.voters ++ [(n : Int)] := by unfold headI; simp
    rw [this, intsL_app, intsL_app, List.length_append]
    show _ + (intsL [(n : Int)]).length = _
    unfold intsL
    simp
  have e1 := e b.data.length
  have e2 := e 0
  have h1 := natL_short (v := zig (b.data.length : Int)) (by unfold zig; rw [if_pos (by omega)]; omega)
  have h2 := intL_pos (b.data.length : Int)
  have h3 := natL_short (v := zig ((0 : Nat) : Int)) (by decide)
  have h4 := intL_pos ((0 : Nat) : Int)
  have h5 : intL ((0 : Nat) : Int) = [0] := by show natL 0 = [0]; unfold natL; rw [show (0 : Nat) / 128 = 0 from rfl, natHi_zero]; rfl
  refine ⟨(intL (b.data.length : Int)).length - 1, by show (natL _).length - 1 ≤ 2; omega, ?_⟩
  show 8 + (intsL (headI b b.data.length)).length + _ + _ = 8 + (intsL (headI b 0)).length + 0 + 8 * ((0 + 999) / 1000) + _ + _ + _
  rw [e1, e2, h5]
  simp only [List.length_singleton]
  omega
end Go.Proofs.YtgmghopcppniaaaGreatDoor
