/- Layer 1 in plain words: numbers and frames as bytes, and back (no program). -/
import Derived.WalkKit
namespace Go.Proofs.YtgmghopcppniaaaGreatDoor

abbrev Str := List UInt8

/-! ### naturals, seven bits a byte, the highest first -/
def natHi (v : Nat) : Str := if v = 0 then [] else natHi (v / 128) ++ [UInt8.ofNat (128 + v % 128)]
termination_by v
decreasing_by omega
def natL (v : Nat) : Str := natHi (v / 128) ++ [UInt8.ofNat (v % 128)]
/-- reading: how many bytes may still come, is it the first one, what was read -/
def toNatF : Nat → Bool → Nat → Str → Option (Nat × Str)
 | 0, _, _, _ => none
 | _ + 1, _, _, [] => none
 | k + 1, f, v, c :: t => if (f && c == 128) || decide (144115188075855872 ≤ v) then none
   else if c.toNat < 128 then some (v * 128 + c.toNat, t) else toNatF k false (v * 128 + c.toNat % 128) t
theorem toNat_cons (k : Nat) (f : Bool) (v : Nat) (c : UInt8) (t : Str) : toNatF (k + 1) f v (c :: t) = if (f && c == 128) || decide (144115188075855872 ≤ v) then none else if c.toNat < 128 then some (v * 128 + c.toNat, t) else toNatF k false (v * 128 + c.toNat % 128) t := rfl
theorem natHi_zero : natHi 0 = [] := by unfold natHi; rfl
theorem natHi_pos {v : Nat} (h : v ≠ 0) : natHi v = natHi (v / 128) ++ [UInt8.ofNat (128 + v % 128)] := by conv => lhs; unfold natHi; rw [if_neg h]
theorem byte_lo {v : Nat} : (UInt8.ofNat (v % 128)).toNat = v % 128 := by rw [UInt8.toNat_ofNat']; omega
theorem byte_hi {v : Nat} : (UInt8.ofNat (128 + v % 128)).toNat = 128 + v % 128 := by rw [UInt8.toNat_ofNat']; omega
theorem byte_eq {a b : UInt8} (h : a.toNat = b.toNat) : a = b := UInt8.toNat.inj h
theorem natHi_len : ∀ (k v : Nat), v < 128 ^ k → (natHi v).length ≤ k
 | 0, v, h => by
  have e : v = 0 := by simpa using h
  rw [e, natHi_zero]; exact Nat.le_refl _
 | k + 1, v, h => by
  by_cases e : v = 0
  ·rw [e, natHi_zero]; exact Nat.zero_le _
  ·rw [natHi_pos e, List.length_append, List.length_singleton]
   have := natHi_len k (v / 128) (by rw [Nat.pow_succ] at h; omega)
   omega
/-- the bytes that say there are more -/
theorem toNat_hi : ∀ (n v k : Nat) (r : Str), v ≤ n → v < 144115188075855872 → toNatF (k + (natHi v).length) true 0 (natHi v ++ r) = toNatF k (decide (v = 0)) v r
 | n, 0, k, r, _, _ => by rw [natHi_zero]; rfl
 | 0, v + 1, _, _, h, _ => by omega
 | n + 1, v + 1, k, r, hn, hv => by
  rw [natHi_pos (Nat.succ_ne_zero v), List.length_append, List.length_singleton, List.append_assoc]
  have ih := toNat_hi n ((v + 1) / 128) (k + 1) ([UInt8.ofNat (128 + (v + 1) % 128)] ++ r) (by omega) (by omega)
  rw [show k + ((natHi ((v + 1) / 128)).length + 1) = k + 1 + (natHi ((v + 1) / 128)).length by omega, ih]
  show toNatF (k + 1) _ _ (UInt8.ofNat (128 + (v + 1) % 128) :: r) = _
  rw [toNat_cons]
  have h1 : ¬ ((decide ((v + 1) / 128 = 0) && UInt8.ofNat (128 + (v + 1) % 128) == 128) || decide (144115188075855872 ≤ (v + 1) / 128)) = true := by
   simp only [Bool.or_eq_true, Bool.and_eq_true, decide_eq_true_eq, beq_iff_eq, not_or, not_and]
   refine ⟨fun h0 e => ?_, by omega⟩
   have h2 := congrArg UInt8.toNat e
   rw [byte_hi] at h2
   have h3 : (128 : UInt8).toNat = 128 := rfl
   omega
  rw [if_neg h1, if_neg (by rw [byte_hi]; omega), byte_hi, show (v + 1) / 128 * 128 + (128 + (v + 1) % 128) % 128 = v + 1 by omega]
  rw [decide_eq_false (Nat.succ_ne_zero v)]
theorem toNat_nat {v : Nat} (hv : v < 18446744073709551616) (r : Str) : toNatF 10 true 0 (natL v ++ r) = some (v, r) := by
 have hl := natHi_len 9 (v / 128) (by omega)
 unfold natL
 rw [List.append_assoc, show (10 : Nat) = (10 - (natHi (v / 128)).length - 1 + 1) + (natHi (v / 128)).length by omega, toNat_hi _ _ _ _ (Nat.le_refl _) (by omega)]
 show toNatF _ _ _ (UInt8.ofNat (v % 128) :: r) = _
 rw [toNat_cons]
 have h1 : ¬ ((decide (v / 128 = 0) && UInt8.ofNat (v % 128) == 128) || decide (144115188075855872 ≤ v / 128)) = true := by
  simp only [Bool.or_eq_true, Bool.and_eq_true, decide_eq_true_eq, beq_iff_eq, not_or, not_and]
  refine ⟨fun _ e => ?_, by omega⟩
  have h2 := congrArg UInt8.toNat e
  rw [byte_lo] at h2
  have h3 : (128 : UInt8).toNat = 128 := rfl
  omega
 rw [if_neg h1, if_pos (by rw [byte_lo]; omega), byte_lo, show v / 128 * 128 + v % 128 = v by omega]
theorem toNat_back : ∀ (k : Nat) (f : Bool) (acc : Nat) (s : Str) {v : Nat} {t : Str}, toNatF k f acc s = some (v, t) → (f = true → acc = 0) → (f = false → 0 < acc) → natHi acc ++ s = natL v ++ t ∧ v < 18446744073709551616
 | 0, _, _, _, _, _, h, _, _ => by cases h
 | k + 1, _, _, [], _, _, h, _, _ => by cases h
 | k + 1, f, acc, c :: s, v, t, h, hf, hg => by
  unfold toNatF at h
  split at h
  ·cases h
  ·rename_i h0
   simp only [Bool.or_eq_true, Bool.and_eq_true, decide_eq_true_eq, beq_iff_eq, not_or, not_and] at h0
   obtain ⟨h1, h2⟩ := h0
   have hc := c.toNat_lt
   split at h
   ·rename_i h3
    simp only [Option.some.injEq, Prod.mk.injEq] at h
    obtain ⟨rfl, rfl⟩ := h
    refine ⟨?_, by omega⟩
    unfold natL
    rw [show (acc * 128 + c.toNat) / 128 = acc by omega, show (acc * 128 + c.toNat) % 128 = c.toNat by omega, List.append_assoc, UInt8.ofNat_toNat]
    rfl
   ·rename_i h3
    have hpos : 0 < acc * 128 + c.toNat % 128 := by
     cases f with
     | false => have := hg rfl; omega
     | true =>
      have h4 : c ≠ 128 := h1 rfl
      rcases Nat.lt_or_ge 128 c.toNat with h5 | h5
      ·omega
      ·exact absurd (byte_eq (show c.toNat = (128 : UInt8).toNat from by have h6 : (128 : UInt8).toNat = 128 := rfl; omega)) h4
    obtain ⟨h4, h5⟩ := toNat_back k false _ s h (fun e => by cases e) (fun _ => hpos)
    refine ⟨?_, h5⟩
    rw [natHi_pos (by omega), show (acc * 128 + c.toNat % 128) / 128 = acc by omega, show 128 + (acc * 128 + c.toNat % 128) % 128 = c.toNat by omega, UInt8.ofNat_toNat, List.append_assoc] at h4
    exact h4

/-! ### numbers -/
def zig (n : Int) : Nat := if 0 ≤ n then 2 * n.toNat else 2 * (-(n + 1)).toNat + 1
def unzig (v : Nat) : Int := if v % 2 = 0 then ((v / 2 : Nat) : Int) else -((v / 2 : Nat) : Int) - 1
def I64 (n : Int) : Prop := -9223372036854775808 ≤ n ∧ n ≤ 9223372036854775807
theorem unzig_zig (n : Int) : unzig (zig n) = n := by unfold zig unzig; split <;> split <;> omega
theorem zig_unzig (v : Nat) : zig (unzig v) = v := by unfold zig unzig; split <;> split <;> omega
theorem zig_lt {n : Int} (h : I64 n) : zig n < 18446744073709551616 := by unfold I64 at h; unfold zig; split <;> omega
theorem unzig_in {v : Nat} (h : v < 18446744073709551616) : I64 (unzig v) := by unfold I64 unzig; split <;> omega
def intL (n : Int) : Str := natL (zig n)
def toIntL (s : Str) : Option (Int × Str) := match toNatF 10 true 0 s with | none => none | some (v, t) => some (unzig v, t)
theorem toInt_int {n : Int} (h : I64 n) (r : Str) : toIntL (intL n ++ r) = some (n, r) := by
 unfold toIntL intL; rw [toNat_nat (zig_lt h)]; dsimp only; rw [unzig_zig]
theorem toInt_back {s t : Str} {n : Int} (h : toIntL s = some (n, t)) : s = intL n ++ t ∧ I64 n := by
 unfold toIntL at h
 split at h
 ·cases h
 ·rename_i v t' e
  simp only [Option.some.injEq, Prod.mk.injEq] at h
  obtain ⟨rfl, rfl⟩ := h
  obtain ⟨h1, h2⟩ := toNat_back _ _ _ _ e (fun _ => rfl) (fun e => by cases e)
  rw [natHi_zero, List.nil_append] at h1
  exact ⟨by unfold intL; rw [zig_unzig]; exact h1, unzig_in h2⟩
theorem natL_pos (v : Nat) : 0 < (natL v).length := by unfold natL; simp
theorem intL_pos (n : Int) : 0 < (intL n).length := natL_pos _
theorem natL_len {v : Nat} (h : v < 18446744073709551616) : (natL v).length ≤ 10 := by
 unfold natL
 have := natHi_len 9 (v / 128) (by omega)
 simp; omega
theorem intL_len {n : Int} (h : I64 n) : (intL n).length ≤ 10 := natL_len (zig_lt h)
/-! ### numbers in a row -/
def intsL (l : List Int) : Str := l.flatMap intL
theorem intsL_cons (n : Int) (l : List Int) : intsL (n :: l) = intL n ++ intsL l := rfl
theorem intsL_app (a b : List Int) : intsL (a ++ b) = intsL a ++ intsL b := List.flatMap_append
/-- all of a text read as numbers, at most so many -/
def numsF : Nat → Str → Option (List Int)
 | _, [] => some []
 | 0, _ :: _ => none
 | k + 1, c :: s => match toIntL (c :: s) with
  | none => none
  | some (n, t) => match numsF k t with | none => none | some l => some (n :: l)
end Go.Proofs.YtgmghopcppniaaaGreatDoor

/- Frames in plain words: laid round a text, taken off (no program). -/
namespace Go.Proofs.YtgmghopcppniaaaGreatDoor

def crcB (c : Nat) : Nat := if c % 2 = 1 then (c / 2) ^^^ 2197175160 else c / 2
def crcN : Nat → Nat → Nat
 | 0, c => c
 | k + 1, c => crcN k (crcB c)
def sumL (c : Nat) (s : Str) : Nat := s.foldl (fun c b => crcN 8 (c ^^^ b.toNat)) c
def crcL (s : Str) : Nat := 4294967295 ^^^ sumL 4294967295 s
theorem crcB_lt {c : Nat} (h : c < 4294967296) : crcB c < 4294967296 := by
 unfold crcB; split
 ·exact Nat.xor_lt_two_pow (n := 32) (by omega) (by decide)
 ·omega
theorem crcN_lt : ∀ (k : Nat) {c : Nat}, c < 4294967296 → crcN k c < 4294967296
 | 0, _, h => h
 | k + 1, _, h => crcN_lt k (crcB_lt h)
theorem crcN_snoc : ∀ (k c : Nat), crcN (k + 1) c = crcB (crcN k c)
 | 0, _ => rfl
 | k + 1, c => crcN_snoc k (crcB c)
theorem sum_lt : ∀ (s : Str) {c : Nat}, c < 4294967296 → sumL c s < 4294967296
 | [], _, h => h
 | b :: s, c, h => sum_lt s (crcN_lt 8 (Nat.xor_lt_two_pow (n := 32) h (by have := b.toNat_lt; omega)))
theorem crc_lt (s : Str) : crcL s < 4294967296 := Nat.xor_lt_two_pow (n := 32) (by decide) (sum_lt s (by decide))
theorem sum_app (c : Nat) (a b : Str) : sumL c (a ++ b) = sumL (sumL c a) b := List.foldl_append
theorem sum_snoc {c : Nat} {s : Str} {k : Nat} {b : UInt8} (h : s[k]? = some b) : sumL c (s.take (k + 1)) = crcN 8 (sumL c (s.take k) ^^^ b.toNat) := by
 rw [List.take_add_one, h, sum_app]; rfl

def fourL (v : Nat) : Str := [UInt8.ofNat (v / 16777216), UInt8.ofNat (v / 65536), UInt8.ofNat (v / 256), UInt8.ofNat v]
def fourN (s : Str) : Nat := (s.getD 0 0).toNat * 16777216 + (s.getD 1 0).toNat * 65536 + (s.getD 2 0).toNat * 256 + (s.getD 3 0).toNat
theorem four_len (v : Nat) : (fourL v).length = 4 := rfl
theorem four_back {v : Nat} (h : v < 4294967296) (r : Str) : fourN (fourL v ++ r) = v := by
 unfold fourN fourL
 show (UInt8.ofNat (v / 16777216)).toNat * 16777216 + (UInt8.ofNat (v / 65536)).toNat * 65536 + (UInt8.ofNat (v / 256)).toNat * 256 + (UInt8.ofNat v).toNat = v
 simp only [UInt8.toNat_ofNat']
 omega
theorem four_of {a b c d : UInt8} {t : Str} : fourL (fourN (a :: b :: c :: d :: t)) = [a, b, c, d] := by
 have ha := a.toNat_lt
 have hb := b.toNat_lt
 have hc := c.toNat_lt
 have hd := d.toNat_lt
 unfold fourN fourL
 simp only [List.getD_cons_zero, List.getD_cons_succ, List.cons.injEq, and_true]
 refine ⟨byte_eq ?_, byte_eq ?_, byte_eq ?_, byte_eq ?_⟩ <;> rw [UInt8.toNat_ofNat'] <;> omega
def headF (s : Str) : Str := fourL s.length ++ fourL (crcL (fourL s.length ++ s))
def frameL (s : Str) : Str := headF s ++ s
theorem headF_len (s : Str) : (headF s).length = 8 := rfl
theorem frame_len (s : Str) : (frameL s).length = 8 + s.length := by unfold frameL; rw [List.length_append, headF_len]
/-- a frame taken off: what it holds, how many bytes it has -/
def unframeL (s : Str) : Except Int (Str × Nat) :=
 if s.length < 4 then .error 8
 else if 65536 < fourN s then .error 10
 else if s.length < 8 + fourN s then .error 8
 else if frameL ((s.drop 8).take (fourN s)) = s.take (8 + fourN s) then .ok ((s.drop 8).take (fourN s), 8 + fourN s)
 else .error 9
theorem unframe_frame {s : Str} (h : s.length ≤ 65536) (r : Str) : unframeL (frameL s ++ r) = .ok (s, 8 + s.length) := by
 have hn : fourN (frameL s ++ r) = s.length := by
  unfold frameL headF; rw [List.append_assoc, List.append_assoc]; exact four_back (by omega) _
 have hl : (frameL s ++ r).length = 8 + s.length + r.length := by rw [List.length_append, frame_len]
 have hd : ((frameL s ++ r).drop 8).take s.length = s := by
  unfold frameL; rw [List.append_assoc, List.drop_left' (headF_len s), List.take_left]
 have ht : (frameL s ++ r).take (8 + s.length) = frameL s := by rw [← frame_len, List.take_left]
 unfold unframeL
 rw [hn, if_neg (by omega), if_neg (by omega), if_neg (by omega), hd, ht, if_pos rfl]
theorem unframe_back {s t : Str} {n : Nat} (h : unframeL s = .ok (t, n)) : s = frameL t ++ s.drop n ∧ n = 8 + t.length ∧ t.length ≤ 65536 ∧ n ≤ s.length := by
 unfold unframeL at h
 split at h
 ·cases h
 split at h
 ·cases h
 split at h
 ·cases h
 split at h
 ·rename_i h1 h2 h3 h4
  simp only [Except.ok.injEq, Prod.mk.injEq] at h
  obtain ⟨rfl, rfl⟩ := h
  have hl : ((s.drop 8).take (fourN s)).length = fourN s := by rw [List.length_take, List.length_drop]; omega
  refine ⟨?_, by rw [hl], by rw [hl]; omega, by omega⟩
  rw [h4, List.take_append_drop]
 ·cases h
theorem unframe_err {s : Str} {e : Int} (h : unframeL s = .error e) : e = 8 ∨ e = 9 ∨ e = 10 := by
 unfold unframeL at h
 split at h
 ·exact .inl (Except.error.inj h).symm
 split at h
 ·exact .inr (.inr (Except.error.inj h).symm)
 split at h
 ·exact .inl (Except.error.inj h).symm
 split at h
 ·cases h
 ·exact .inr (.inl (Except.error.inj h).symm)
end Go.Proofs.YtgmghopcppniaaaGreatDoor

/- Layer 4 in plain words: bases packed and unpacked (no program). -/
namespace Go.Proofs.YtgmghopcppniaaaGreatDoor

structure BaseD where
 index : Int
 term : Int
 voters : List Int
 data : Str
deriving DecidableEq
def upL : Int → List Int → Bool
 | _, [] => true
 | last, v :: t => decide (last < v) && decide (v ≤ 9) && upL v t
def rightB (b : BaseD) : Bool := upL 0 b.voters && (decide (0 < b.index) && (decide (b.index ≤ 1099511627776) && (decide (0 ≤ b.term) && (decide (b.term ≤ 1099511627776) && (decide (0 < b.voters.length) && decide (b.data.length ≤ 4000000))))))
/-! ### chunks -/
def chunksF : Nat → Str → List Str
 | 0, _ => []
 | k + 1, d => if d = [] then [] else d.take 1000 :: chunksF k (d.drop 1000)
def chunksL (d : Str) : List Str := chunksF d.length d
/-! ### packed -/
def headI (b : BaseD) (long : Nat) : List Int := b.index :: b.term :: (b.voters.length : Int) :: (b.voters ++ [(long : Int)])
def headL (b : BaseD) : Str := intsL (headI b b.data.length)
def payloadsL (b : BaseD) : List Str := headL b :: chunksL b.data
def packL (b : BaseD) : Str := (payloadsL b).flatMap frameL
def packD (b : BaseD) : Str × Int := if rightB b = true then (packL b, 0) else ([], 1)
/-! ### unpacked -/
def takeL (s : Str) : Except Int (Str × Str) := match unframeL s with
 | .ok (t, n) => .ok (t, s.drop n)
 | .error e => .error (if e = 9 then 9 else 8)
def headOf (s : Str) : Option (BaseD × Int) := match numsF 13 s with
 | none => none
 | some l => if l.length < 4 ∨ l.getD 2 0 ≠ (l.length : Int) - 4 then none
  else if rightB ⟨l.getD 0 0, l.getD 1 0, (l.take (l.length - 1)).drop 3, []⟩ = true ∧ 0 ≤ l.getD (l.length - 1) 0 ∧ l.getD (l.length - 1) 0 ≤ 4000000 then some (⟨l.getD 0 0, l.getD 1 0, (l.take (l.length - 1)).drop 3, []⟩, l.getD (l.length - 1) 0) else none
def dataF : Nat → Int → Str → Str → Except Int (Str × Str)
 | 0, _, _, _ => .error 8
 | k + 1, long, d, s => if (d.length : Int) < long then match takeL s with
   | .error e => .error e
   | .ok (t, r) => if (t.length : Int) = min 1000 (long - d.length) then dataF k long (d ++ t) r else .error 8
  else .ok (d, s)
def unpackL (s : Str) : Except Int BaseD := match takeL s with
 | .error e => .error e
 | .ok (t, r) => match headOf t with
  | none => .error 8
  | some (b, long) => match dataF (r.length + 1) long [] r with
   | .error e => .error e
   | .ok (d, r2) => if r2 = [] then .ok { b with data := d } else .error 8
theorem ints_len : ∀ (l : List Int), (∀ n ∈ l, I64 n) → (intsL l).length ≤ l.length * 10
 | [], _ => Nat.zero_le _
 | n :: l, h => by
  have h1 := intL_len (h n (List.mem_cons_self ..))
  have h2 := ints_len l fun m hm => h m (List.mem_cons_of_mem _ hm)
  rw [intsL_cons, List.length_append, List.length_cons]; omega
end Go.Proofs.YtgmghopcppniaaaGreatDoor

/- Files by rising names: what is found, put in, taken out, in plain words. -/
namespace Go.Proofs.YtgmghopcppniaaaGreatDoor

structure FileD where
 name : List UInt8
 bytes : List UInt8
 synced : Nat

def Sorted (l : List FileD) : Prop := l.Pairwise fun f g => f.name < g.name
def getF (l : List FileD) (n : List UInt8) : Option FileD := l.find? fun f => decide (f.name = n)
def delF (l : List FileD) (n : List UInt8) : List FileD := l.filter fun f => !decide (f.name = n)
def posF (l : List FileD) (n : List UInt8) : Nat := (l.takeWhile fun f => decide (f.name < n)).length
def putF : List FileD → FileD → List FileD
 | [], f => [f]
 | g :: t, f => if g.name = f.name then f :: t else if g.name < f.name then g :: putF t f else f :: g :: t
def total (l : List FileD) : Nat := (l.map fun f => f.bytes.length).sum

theorem str_lt_irrefl {a : List UInt8} : ¬ a < a := List.lt_irrefl a
theorem str_lt_trans {a b c : List UInt8} (h : a < b) (k : b < c) : a < c := List.lt_trans h k
theorem str_lt_ne {a b : List UInt8} (h : a < b) : a ≠ b := by rintro rfl; exact str_lt_irrefl h
theorem str_tri {a b : List UInt8} (h : ¬ a < b) (k : a ≠ b) : b < a := by
 by_cases h2 : b < a
 ·exact h2
 ·exact absurd (List.le_antisymm (List.not_lt.1 h2) (List.not_lt.1 h)) k

section
variable {l : List FileD} {n m : List UInt8} {f g : FileD}
theorem sorted_cons : Sorted (f :: l) ↔ (∀ g ∈ l, f.name < g.name) ∧ Sorted l := List.pairwise_cons
theorem get_cons : getF (f :: l) n = if f.name = n then some f else getF l n := by
 unfold getF; rw [List.find?_cons]; by_cases h : f.name = n <;> simp [h]
theorem del_cons : delF (f :: l) n = if f.name = n then delF l n else f :: delF l n := by
 unfold delF; rw [List.filter_cons]; by_cases h : f.name = n <;> simp [h]
theorem get_mem (h : getF l n = some f) : f ∈ l ∧ f.name = n := by
 unfold getF at h
 exact ⟨List.mem_of_find?_eq_some h, by simpa using List.find?_some h⟩
theorem get_none : getF l n = none ↔ ∀ f ∈ l, f.name ≠ n := by
 unfold getF; rw [List.find?_eq_none]; simp
theorem get_of_mem (hs : Sorted l) (hf : f ∈ l) (hn : f.name = n) : getF l n = some f := by
 induction l with
 | nil => cases hf
 | cons g t ih =>
  rw [sorted_cons] at hs
  rw [get_cons]
  rcases List.mem_cons.1 hf with rfl | h
  ·rw [if_pos hn]
  ·rw [if_neg (by rintro rfl; exact str_lt_irrefl (hn ▸ hs.1 f h)), ih hs.2 h]
theorem mem_del : f ∈ delF l n ↔ f ∈ l ∧ f.name ≠ n := by unfold delF; rw [List.mem_filter]; simp
theorem del_sorted (hs : Sorted l) (n : List UInt8) : Sorted (delF l n) := List.Pairwise.sublist List.filter_sublist hs
theorem del_none (h : getF l n = none) : delF l n = l := by
 unfold delF; rw [List.filter_eq_self]; intro f hf; simpa using get_none.1 h f hf
theorem get_del : getF (delF l n) m = if m = n then none else getF l m := by
 induction l with
 | nil => simp [delF, getF]
 | cons g t ih =>
  rw [del_cons, get_cons]
  by_cases h : g.name = n
  ·rw [if_pos h, ih]
   by_cases h2 : m = n
   ·rw [if_pos h2, if_pos h2]
   ·rw [if_neg h2, if_neg h2, if_neg (by rw [h]; exact fun e => h2 e.symm)]
  ·rw [if_neg h, get_cons, ih]
   by_cases h3 : g.name = m
   ·rw [if_pos h3, if_pos h3, if_neg (by rw [← h3]; exact h)]
   ·rw [if_neg h3, if_neg h3]
theorem mem_put (hs : Sorted l) : g ∈ putF l f ↔ g = f ∨ (g ∈ l ∧ g.name ≠ f.name) := by
 induction l with
 | nil => simp [putF]
 | cons h t ih =>
  rw [sorted_cons] at hs
  unfold putF
  by_cases e : h.name = f.name
  ·rw [if_pos e, List.mem_cons, List.mem_cons]
   constructor
   ·rintro (rfl | k)
    ·exact .inl rfl
    ·exact .inr ⟨.inr k, fun e2 => str_lt_irrefl (show g.name < g.name from by have := hs.1 g k; rw [e, ← e2] at this; exact this)⟩
   ·rintro (rfl | ⟨rfl | k, ne⟩)
    ·exact .inl rfl
    ·exact absurd e ne
    ·exact .inr k
  ·rw [if_neg e]
   by_cases lt : h.name < f.name
   ·rw [if_pos lt, List.mem_cons, ih hs.2, List.mem_cons]
    constructor
    ·rintro (rfl | rfl | ⟨k, ne⟩); exact .inr ⟨.inl rfl, e⟩; exact .inl rfl; exact .inr ⟨.inr k, ne⟩
    ·rintro (rfl | ⟨rfl | k, ne⟩); exact .inr (.inl rfl); exact .inl rfl; exact .inr (.inr ⟨k, ne⟩)
   ·rw [if_neg lt, List.mem_cons]
    have hlt := str_tri lt e
    constructor
    ·rintro (rfl | k)
     ·exact .inl rfl
     ·refine .inr ⟨k, ?_⟩
      rcases List.mem_cons.1 k with rfl | k2
      ·exact e
      ·exact fun e2 => str_lt_irrefl (str_lt_trans hlt (e2 ▸ hs.1 g k2))
    ·rintro (rfl | ⟨k, _⟩); exact .inl rfl; exact .inr k
theorem put_sorted (hs : Sorted l) (f : FileD) : Sorted (putF l f) := by
 induction l with
 | nil => simp [putF, Sorted]
 | cons h t ih =>
  have hs' := sorted_cons.1 hs
  unfold putF
  by_cases e : h.name = f.name
  ·rw [if_pos e, sorted_cons]
   exact ⟨fun g hg => e ▸ hs'.1 g hg, hs'.2⟩
  ·rw [if_neg e]
   by_cases lt : h.name < f.name
   ·rw [if_pos lt, sorted_cons]
    refine ⟨fun g hg => ?_, ih hs'.2⟩
    rcases (mem_put hs'.2).1 hg with rfl | ⟨k, _⟩
    ·exact lt
    ·exact hs'.1 g k
   ·rw [if_neg lt, sorted_cons]
    have hlt := str_tri lt e
    refine ⟨fun g hg => ?_, hs⟩
    rcases List.mem_cons.1 hg with rfl | k
    ·exact hlt
    ·exact str_lt_trans hlt (hs'.1 g k)
theorem get_put (hs : Sorted l) : getF (putF l f) m = if m = f.name then some f else getF l m := by
 by_cases h : m = f.name
 ·rw [if_pos h]
  exact get_of_mem (put_sorted hs f) ((mem_put hs).2 (.inl rfl)) h.symm
 ·rw [if_neg h]
  cases hg : getF l m with
  | none => exact get_none.2 fun g hgm => by rcases (mem_put hs).1 hgm with rfl | ⟨k, _⟩; exact fun e => h e.symm; exact get_none.1 hg g k
  | some g =>
   obtain ⟨h1, h2⟩ := get_mem hg
   exact get_of_mem (put_sorted hs f) ((mem_put hs).2 (.inr ⟨h1, by rw [h2]; exact h⟩)) h2

theorem get_perm (hs : Sorted l) (h : getF l n = some f) : l.Perm (f :: delF l n) := by
 induction l with
 | nil => cases h
 | cons g t ih =>
  have hs' := sorted_cons.1 hs
  rw [get_cons] at h
  rw [del_cons]
  by_cases e : g.name = n
  ·rw [if_pos e] at h ⊢
   obtain rfl := Option.some.inj h
   rw [del_none (get_none.2 fun x hx => by rw [← e]; exact (str_lt_ne (hs'.1 x hx)).symm)]
  ·rw [if_neg e] at h ⊢
   exact ((ih hs'.2 h).cons g).trans (List.Perm.swap ..)
theorem put_perm (hs : Sorted l) (f : FileD) : (putF l f).Perm (f :: delF l f.name) := by
 induction l with
 | nil => simp [putF, delF]
 | cons g t ih =>
  have hs' := sorted_cons.1 hs
  unfold putF
  rw [del_cons]
  by_cases e : g.name = f.name
  ·rw [if_pos e, if_pos e, del_none (get_none.2 fun x hx => by rw [← e]; exact (str_lt_ne (hs'.1 x hx)).symm)]
  ·rw [if_neg e, if_neg e]
   by_cases lt : g.name < f.name
   ·rw [if_pos lt]
    exact ((ih hs'.2).cons g).trans (List.Perm.swap ..)
   ·rw [if_neg lt]
    have hlt := str_tri lt e
    rw [del_none (get_none.2 fun x hx => by
     exact (str_lt_ne (str_lt_trans hlt (hs'.1 x hx))).symm)]

/-! ### sizes -/
theorem total_perm {l m : List FileD} (h : l.Perm m) : total l = total m := (h.map _).sum_nat
theorem total_cons : total (f :: l) = f.bytes.length + total l := by simp [total]
theorem total_get (hs : Sorted l) (h : getF l n = some f) : total l = f.bytes.length + total (delF l n) := by
 rw [total_perm (get_perm hs h), total_cons]
theorem total_put (hs : Sorted l) (f : FileD) : total (putF l f) = f.bytes.length + total (delF l f.name) := by
 rw [total_perm (put_perm hs f), total_cons]
theorem del_total_le (l : List FileD) (n : List UInt8) : total (delF l n) ≤ total l := by
 induction l with
 | nil => simp [delF]
 | cons g t ih => rw [del_cons]; split <;> simp only [total_cons] <;> omega
theorem len_get (hs : Sorted l) (h : getF l n = some f) : l.length = (delF l n).length + 1 := by
 rw [(get_perm hs h).length_eq, List.length_cons]
theorem len_put (hs : Sorted l) (f : FileD) : (putF l f).length = (delF l f.name).length + 1 := by
 rw [(put_perm hs f).length_eq, List.length_cons]
theorem del_len_le (l : List FileD) (n : List UInt8) : (delF l n).length ≤ l.length := List.length_filter_le _ _
theorem mem_total (h : f ∈ l) : f.bytes.length ≤ total l := by
 induction l with
 | nil => cases h
 | cons g t ih =>
  rw [total_cons]
  rcases List.mem_cons.1 h with rfl | h
  ·omega
  ·have := ih h; omega

/-! ### by places -/
theorem pos_le (l : List FileD) (n : List UInt8) : posF l n ≤ l.length := (List.takeWhile_prefix _).length_le
theorem pos_cons : posF (f :: l) n = if f.name < n then posF l n + 1 else 0 := by
 unfold posF; rw [List.takeWhile_cons]; by_cases h : f.name < n <;> simp [h]
theorem pos_at : ∀ {l : List FileD} {k : Nat}, k ≤ l.length → (∀ i f, i < k → l[i]? = some f → f.name < n) → (∀ f, l[k]? = some f → ¬ f.name < n) → posF l n = k
 | [], k, hk, _, _ => by simp at hk; subst hk; rfl
 | g :: t, 0, _, _, h => by rw [pos_cons, if_neg (h g rfl)]
 | g :: t, k + 1, hk, h1, h2 => by
  rw [pos_cons, if_pos (h1 0 g (by omega) rfl), pos_at (by simpa using hk) (fun i f hi hf => h1 (i + 1) f (by omega) hf) (fun f hf => h2 f hf)]
theorem get_pos (hs : Sorted l) : getF l n = (l[posF l n]?).bind fun f => if f.name = n then some f else none := by
 induction l with
 | nil => simp [getF]
 | cons g t ih =>
  have hs' := sorted_cons.1 hs
  rw [get_cons, pos_cons]
  by_cases e : g.name = n
  ·rw [if_pos e, if_neg (by rw [e]; exact str_lt_irrefl)]; simp [e]
  ·rw [if_neg e]
   by_cases lt : g.name < n
   ·rw [if_pos lt, List.getElem?_cons_succ, ih hs'.2]
   ·rw [if_neg lt]
    have hlt := str_tri lt e
    have : getF t n = none := get_none.2 fun x hx => (str_lt_ne (str_lt_trans hlt (hs'.1 x hx))).symm
    rw [this]; simp [e]
theorem del_pos (hs : Sorted l) (h : getF l n = some f) : delF l n = l.eraseIdx (posF l n) := by
 induction l with
 | nil => cases h
 | cons g t ih =>
  have hs' := sorted_cons.1 hs
  rw [get_cons] at h
  rw [del_cons, pos_cons]
  by_cases e : g.name = n
  ·rw [if_pos e, if_neg (by rw [e]; exact str_lt_irrefl), List.eraseIdx_cons_zero]
   exact del_none (get_none.2 fun x hx => by rw [← e]; exact (str_lt_ne (hs'.1 x hx)).symm)
  ·rw [if_neg e] at h ⊢
   by_cases lt : g.name < n
   ·rw [if_pos lt, List.eraseIdx_cons_succ, ih hs'.2 h]
   ·have hlt := str_tri lt e
    obtain ⟨k1, k2⟩ := get_mem h
    exact absurd k2 (str_lt_ne (str_lt_trans hlt (hs'.1 f k1))).symm
theorem put_old (hs : Sorted l) (h : getF l f.name = some g) : putF l f = l.set (posF l f.name) f := by
 induction l with
 | nil => cases h
 | cons x t ih =>
  have hs' := sorted_cons.1 hs
  rw [get_cons] at h
  unfold putF
  rw [pos_cons]
  by_cases e : x.name = f.name
  ·rw [if_pos e, if_neg (by rw [e]; exact str_lt_irrefl), List.set_cons_zero]
  ·rw [if_neg e] at h ⊢
   by_cases lt : x.name < f.name
   ·rw [if_pos lt, if_pos lt, List.set_cons_succ, ih hs'.2 h]
   ·have hlt := str_tri lt e
    obtain ⟨k1, k2⟩ := get_mem h
    exact absurd k2 (str_lt_ne (str_lt_trans hlt (hs'.1 g k1))).symm
theorem put_new (hs : Sorted l) (h : getF l f.name = none) : putF l f = l.take (posF l f.name) ++ f :: l.drop (posF l f.name) := by
 induction l with
 | nil => simp [putF]
 | cons x t ih =>
  have hs' := sorted_cons.1 hs
  rw [get_cons] at h
  unfold putF
  rw [pos_cons]
  by_cases e : x.name = f.name
  ·rw [if_pos e] at h; cases h
  ·rw [if_neg e] at h ⊢
   by_cases lt : x.name < f.name
   ·rw [if_pos lt, if_pos lt, ih hs'.2 h]; simp
   ·rw [if_neg lt, if_neg lt]; simp
theorem get_at (hs : Sorted l) (h : getF l n = some f) : l[posF l n]? = some f := by
 rw [get_pos hs] at h
 cases e : l[posF l n]? with
 | none => rw [e] at h; cases h
 | some g =>
  rw [e] at h
  simp only [Option.bind_some] at h
  split at h
  ·exact h
  ·cases h
end
end Go.Proofs.YtgmghopcppniaaaGreatDoor

/- A disk in plain words: what each call answers, and what becomes of the disk. -/
namespace Go.Proofs.YtgmghopcppniaaaGreatDoor

structure DiskD where
 files : List FileD
 most : Int
 fuse : Int
 dead : Bool

def okByte (b : UInt8) : Bool := (decide (97 ≤ b.toNat) && decide (b.toNat ≤ 122)) || (decide (48 ≤ b.toNat) && decide (b.toNat ≤ 57))
def nameOK (n : List UInt8) : Bool := decide (1 ≤ n.length) && decide (n.length ≤ 24) && n.all okByte

structure InvD (D : DiskD) : Prop where
 sorted : Sorted D.files
 names : ∀ f ∈ D.files, nameOK f.name = true
 synced : ∀ f ∈ D.files, f.synced ≤ f.bytes.length
 full : (total D.files : Int) ≤ D.most
 most : D.most ≤ 10000000
 many : D.files.length ≤ 40
 fuse : -1 ≤ D.fuse ∧ D.fuse ≤ 9223372036854775807

def newD (most : Int) : DiskD := ⟨[], most, -1, false⟩
def turnD (D : DiskD) : Int × DiskD := if D.fuse = 0 then (7, { D with dead := true }) else (0, { D with fuse := max (D.fuse - 1) (-1) })
def setF (D : DiskD) (l : List FileD) : DiskD := { D with files := l }
def findD (D : DiskD) (n : List UInt8) : Int := if D.dead then 7 else if (getF D.files n).isSome then 0 else 4
/-- a turn, and then the files -/
def thenD (D : DiskD) (l : List FileD) : Int × DiskD := if (turnD D).1 = 0 then (0, setF (turnD D).2 l) else turnD D
def grown (l : List FileD) (n x : List UInt8) : FileD := match getF l n with | some f => ⟨n, f.bytes ++ x, f.synced⟩ | none => ⟨n, x, 0⟩
def appendD (D : DiskD) (n x : List UInt8) : Int × DiskD :=
 if D.dead then (7, D) else if nameOK n = false then (3, D) else if getF D.files n = none ∧ D.files.length = 40 then (11, D)
 else if D.most < (total D.files : Int) + x.length then (6, D) else thenD D (putF D.files (grown D.files n x))
def syncD (D : DiskD) (n : List UInt8) : Int × DiskD :=
 if D.dead then (7, D) else match getF D.files n with | none => (4, D) | some f => thenD D (putF D.files ⟨n, f.bytes, f.bytes.length⟩)
def truncD (D : DiskD) (n : List UInt8) (k : Int) : Int × DiskD :=
 if D.dead then (7, D) else match getF D.files n with | none => (4, D) | some f => if k < 0 ∨ (f.bytes.length : Int) < k then (2, D) else thenD D (putF D.files ⟨n, f.bytes.take k.toNat, min f.synced k.toNat⟩)
def renameD (D : DiskD) (n to : List UInt8) : Int × DiskD :=
 if D.dead then (7, D) else match getF D.files n with | none => (4, D) | some f => if nameOK to = false then (3, D) else thenD D (putF (delF D.files n) ⟨to, f.bytes, f.synced⟩)
def deleteD (D : DiskD) (n : List UInt8) : Int × DiskD :=
 if D.dead then (7, D) else match getF D.files n with | none => (4, D) | some _ => thenD D (delF D.files n)
def readD (D : DiskD) (n : List UInt8) : List UInt8 × Int :=
 if D.dead then ([], 7) else match getF D.files n with | none => ([], 4) | some f => (f.bytes, 0)
def fuseD (D : DiskD) (k : Int) : DiskD := { D with fuse := max k (-1) }
/-- a byte that noise has met: how the two are put together is left open -/
def nthD (l : List Int) (k : Nat) : Int := l.getD k 0
def keptD (f : FileD) (c : Int) : Nat := f.synced + (min (max c 0) ((f.bytes.length - f.synced : Nat) : Int)).toNat
def crashF (xb : UInt8 → Int → UInt8) (keep noise : List Int) (k : Nat) (f : FileD) : FileD :=
 let n := keptD f (nthD keep k)
 ⟨f.name, if f.synced < n then f.bytes.take (n - 1) ++ [xb (f.bytes.getD (n - 1) 0) (nthD noise k)] else f.bytes.take f.synced, n⟩
def crashL (xb : UInt8 → Int → UInt8) (keep noise : List Int) : Nat → List FileD → List FileD
 | _, [] => []
 | k, f :: t => if f.bytes.length = f.synced then f :: crashL xb keep noise k t else crashF xb keep noise k f :: crashL xb keep noise (k + 1) t
def crashD (xb : UInt8 → Int → UInt8) (D : DiskD) (keep noise : List Int) : DiskD := { D with files := crashL xb keep noise 0 D.files, fuse := -1, dead := false }

/-! ### what stays right -/
section
variable {D : DiskD} {l : List FileD} {n x to : List UInt8} {f : FileD}
theorem InvD.new {most : Int} (h0 : 0 ≤ most) (h1 : most ≤ 10000000) : InvD (newD most) :=
 ⟨List.Pairwise.nil, (fun _ h => by cases h), (fun _ h => by cases h), by simp [newD, total]; exact h0, h1, by simp [newD], by simp [newD]⟩
theorem InvD.turn (h : InvD D) : InvD (turnD D).2 := by
 unfold turnD
 have := h.fuse
 split
 ·exact ⟨h.sorted, h.names, h.synced, h.full, h.most, h.many, h.fuse⟩
 ·exact ⟨h.sorted, h.names, h.synced, h.full, h.most, h.many, by simp; omega⟩
theorem turn_files : (turnD D).2.files = D.files ∧ (turnD D).2.most = D.most := by unfold turnD; split <;> exact ⟨rfl, rfl⟩
theorem InvD.set (h : InvD D) (h1 : Sorted l) (h2 : ∀ f ∈ l, nameOK f.name = true) (h3 : ∀ f ∈ l, f.synced ≤ f.bytes.length) (h4 : (total l : Int) ≤ D.most) (h5 : l.length ≤ 40) : InvD (setF D l) :=
 ⟨h1, h2, h3, h4, h.most, h5, h.fuse⟩
theorem InvD.then (h : InvD D) (h1 : Sorted l) (h2 : ∀ f ∈ l, nameOK f.name = true) (h3 : ∀ f ∈ l, f.synced ≤ f.bytes.length) (h4 : (total l : Int) ≤ D.most) (h5 : l.length ≤ 40) : InvD (thenD D l).2 := by
 unfold thenD
 split
 ·exact h.turn.set h1 h2 h3 (by rw [turn_files.2]; exact h4) h5
 ·exact h.turn
theorem InvD.then_put (h : InvD D) (f : FileD) (hn : nameOK f.name = true) (hs : f.synced ≤ f.bytes.length) (ht : (f.bytes.length : Int) + total (delF D.files f.name) ≤ D.most) (hm : (delF D.files f.name).length < 40) : InvD (thenD D (putF D.files f)).2 := by
 refine h.then (put_sorted h.sorted f) (fun g hg => ?_) (fun g hg => ?_) (by rw [total_put h.sorted]; omega) (by rw [len_put h.sorted]; omega)
 ·rcases (mem_put h.sorted).1 hg with rfl | ⟨k, _⟩; exact hn; exact h.names g k
 ·rcases (mem_put h.sorted).1 hg with rfl | ⟨k, _⟩; exact hs; exact h.synced g k
theorem grown_name : (grown l n x).name = n := by unfold grown; split <;> rfl
theorem del_len_lt (h : InvD D) (hg : getF D.files n = some f) : (delF D.files n).length < 40 := by
 have := len_get h.sorted hg; have := h.many; omega
theorem InvD.append (h : InvD D) (n x : List UInt8) : InvD (appendD D n x).2 := by
 unfold appendD
 split
 ·exact h
 split
 ·exact h
 next hn =>
 split
 ·exact h
 next hm =>
 split
 ·exact h
 next hf =>
 have hn' : nameOK n = true := by simpa using hn
 cases hg : getF D.files n with
 | none =>
  have e : grown D.files n x = ⟨n, x, 0⟩ := by unfold grown; rw [hg]
  rw [e]
  have hd := del_none hg
  refine h.then_put _ hn' (Nat.zero_le _) ?_ ?_
  ·show (x.length : Int) + total (delF D.files n) ≤ _; rw [hd]; omega
  ·show (delF D.files n).length < 40; rw [hd]; have := h.many; by_cases e : D.files.length = 40; exact absurd ⟨hg, e⟩ hm; omega
 | some f =>
  have e : grown D.files n x = ⟨n, f.bytes ++ x, f.synced⟩ := by unfold grown; rw [hg]
  rw [e]
  have hgm := get_mem hg
  have ht := total_get h.sorted hg
  refine h.then_put _ hn' ?_ ?_ ?_
  ·show f.synced ≤ (f.bytes ++ x).length; rw [List.length_append]; have := h.synced f hgm.1; omega
  ·show ((f.bytes ++ x).length : Int) + total (delF D.files n) ≤ _; rw [List.length_append]; omega
  ·exact del_len_lt h hg
theorem InvD.sync (h : InvD D) (n : List UInt8) : InvD (syncD D n).2 := by
 unfold syncD
 split
 ·exact h
 cases hg : getF D.files n with
 | none => exact h
 | some f =>
  have hgm := get_mem hg
  have ht := total_get h.sorted hg
  have hfull := h.full
  refine h.then_put ⟨n, f.bytes, f.bytes.length⟩ (by rw [← hgm.2]; exact h.names f hgm.1) (Nat.le_refl _) ?_ (del_len_lt h hg)
  show (f.bytes.length : Int) + total (delF D.files n) ≤ _; omega
theorem InvD.trunc (h : InvD D) (n : List UInt8) (k : Int) : InvD (truncD D n k).2 := by
 unfold truncD
 split
 ·exact h
 cases hg : getF D.files n with
 | none => exact h
 | some f =>
  dsimp only
  split
  ·exact h
  have hgm := get_mem hg
  have ht := total_get h.sorted hg
  have hfull := h.full
  have hs := h.synced f hgm.1
  refine h.then_put ⟨n, f.bytes.take k.toNat, min f.synced k.toNat⟩ (by rw [← hgm.2]; exact h.names f hgm.1) ?_ ?_ (del_len_lt h hg)
  ·show min f.synced k.toNat ≤ (f.bytes.take k.toNat).length; rw [List.length_take]; omega
  ·show ((f.bytes.take k.toNat).length : Int) + total (delF D.files n) ≤ _; rw [List.length_take]; omega
theorem InvD.delete (h : InvD D) (n : List UInt8) : InvD (deleteD D n).2 := by
 unfold deleteD
 split
 ·exact h
 cases hg : getF D.files n with
 | none => exact h
 | some f =>
  have := del_total_le D.files n
  have := del_len_le D.files n
  have := h.full
  have := h.many
  exact h.then (del_sorted h.sorted n) (fun g k => h.names g (mem_del.1 k).1) (fun g k => h.synced g (mem_del.1 k).1) (by omega) (by omega)
theorem InvD.fused (h : InvD D) (k : Int) (hk : k ≤ 9223372036854775807) : InvD (fuseD D k) :=
 ⟨h.sorted, h.names, h.synced, h.full, h.most, h.many, by simp [fuseD]; omega⟩
variable {xb : UInt8 → Int → UInt8} {keep noise : List Int}
theorem kept_le (hf : f.synced ≤ f.bytes.length) (c : Int) : keptD f c ≤ f.bytes.length := by unfold keptD; omega
theorem crashF_len (hf : f.synced ≤ f.bytes.length) (k : Nat) : (crashF xb keep noise k f).bytes.length = keptD f (nthD keep k) ∧ (crashF xb keep noise k f).synced = keptD f (nthD keep k) ∧ (crashF xb keep noise k f).name = f.name := by
 refine ⟨?_, rfl, rfl⟩
 have h1 := kept_le hf (nthD keep k)
 have h2 : f.synced ≤ keptD f (nthD keep k) := by unfold keptD; omega
 unfold crashF
 dsimp only
 split
 ·rw [List.length_append, List.length_take, List.length_singleton]; omega
 ·rw [List.length_take]; omega
theorem crash_names : ∀ (l : List FileD) (k : Nat), (crashL xb keep noise k l).map (·.name) = l.map (·.name)
 | [], _ => rfl
 | f :: t, k => by
  unfold crashL
  split
  ·rw [List.map_cons, List.map_cons, crash_names t k]
  ·rw [List.map_cons, List.map_cons, crash_names t (k + 1)]; rfl
theorem sorted_names {a b : List FileD} (h : a.map (·.name) = b.map (·.name)) (hb : Sorted b) : Sorted a := by
 unfold Sorted at *
 have := List.pairwise_map (f := fun f : FileD => f.name) (R := fun x y : List UInt8 => x < y) (l := b)
 have h2 := List.pairwise_map (f := fun f : FileD => f.name) (R := fun x y : List UInt8 => x < y) (l := a)
 exact h2.1 (h ▸ this.2 hb)
theorem crash_all : ∀ (l : List FileD) (k : Nat), (∀ f ∈ l, f.synced ≤ f.bytes.length) → (∀ g ∈ crashL xb keep noise k l, g.synced = g.bytes.length) ∧ total (crashL xb keep noise k l) ≤ total l
 | [], _, _ => ⟨fun _ h => (by cases h), Nat.le_refl _⟩
 | f :: t, k, h => by
  have h1 := h f (List.mem_cons_self ..)
  have h2 := fun g hg => h g (List.mem_cons_of_mem _ hg)
  unfold crashL
  split
  ·next e =>
   obtain ⟨k1, k2⟩ := crash_all t k h2
   refine ⟨fun g hg => ?_, by simp only [total_cons]; omega⟩
   rcases List.mem_cons.1 hg with rfl | hg
   ·exact e.symm
   ·exact k1 g hg
  ·obtain ⟨k1, k2⟩ := crash_all t (k + 1) h2
   obtain ⟨c1, c2, c3⟩ := crashF_len (xb := xb) (keep := keep) (noise := noise) h1 k
   have := kept_le h1 (nthD keep k)
   refine ⟨fun g hg => ?_, by simp only [total_cons]; omega⟩
   rcases List.mem_cons.1 hg with rfl | hg
   ·omega
   ·exact k1 g hg
theorem InvD.crash (h : InvD D) : InvD (crashD xb D keep noise) := by
 have hn := crash_names (xb := xb) (keep := keep) (noise := noise) D.files 0
 obtain ⟨h1, h2⟩ := crash_all (xb := xb) (keep := keep) (noise := noise) D.files 0 h.synced
 have hfull := h.full
 refine ⟨sorted_names hn h.sorted, fun f hf => ?_, fun f hf => Nat.le_of_eq (h1 f hf), ?_, h.most, ?_, by simp [crashD]⟩
 ·have : f.name ∈ (crashL xb keep noise 0 D.files).map (·.name) := List.mem_map.2 ⟨f, hf, rfl⟩
  rw [hn] at this
  obtain ⟨g, hg, e⟩ := List.mem_map.1 this
  rw [← e]; exact h.names g hg
 ·show ((total (crashL xb keep noise 0 D.files) : Nat) : Int) ≤ D.most; omega
 ·have := congrArg List.length hn
  rw [List.length_map, List.length_map] at this
  show (crashL xb keep noise 0 D.files).length ≤ 40
  rw [this]; exact h.many
end
end Go.Proofs.YtgmghopcppniaaaGreatDoor

/- What the laws say of a disk, in plain words. -/
namespace Go.Proofs.YtgmghopcppniaaaGreatDoor

structure ActD where
 op : Int
 n : Int
 name : List UInt8
 to : List UInt8
 data : List UInt8
 keep : List Int
 noise : List Int

def pickZ (c n : Int) : Int := (if c < 0 then -(c + 1) else c) % n
def quietP (p : Int × DiskD) : (List UInt8 × Int) × DiskD := (([], p.1), p.2)
def doesD (xb : UInt8 → Int → UInt8) (D : DiskD) (a : ActD) : (List UInt8 × Int) × DiskD :=
 if pickZ a.op 11 = 4 then quietP (syncD D a.name)
 else if pickZ a.op 11 = 5 then quietP (truncD D a.name a.n)
 else if pickZ a.op 11 = 6 then quietP (renameD D a.name a.to)
 else if pickZ a.op 11 = 7 then quietP (deleteD D a.name)
 else if pickZ a.op 11 = 8 then (readD D a.name, D)
 else if pickZ a.op 11 = 9 then (([], 0), fuseD D a.n)
 else if pickZ a.op 11 = 10 then (([], 0), crashD xb D a.keep a.noise)
 else quietP (appendD D a.name a.data)
def playD (xb : UInt8 → Int → UInt8) : DiskD → List ActD → DiskD
 | D, [] => D
 | D, a :: l => playD xb (doesD xb D a).2 l

section
variable {D D' : DiskD} {l : List FileD} {n m x to s t : List UInt8} {f g : FileD} {e : Int} {xb : UInt8 → Int → UInt8} {keep noise : List Int}

/-- what a call that changes something comes to: nothing, for one reason or another; or a turn, and then the files l -/
def Turned (D : DiskD) (l : List FileD) (p : Int × DiskD) : Prop :=
 (D.dead = true ∧ p = (7, D)) ∨ (D.dead = false ∧ p.2 = D ∧ p.1 ≠ 0 ∧ p.1 ≠ 7) ∨ (D.dead = false ∧ D.fuse = 0 ∧ p = (7, { D with dead := true })) ∨
 (D.dead = false ∧ D.fuse ≠ 0 ∧ p = (0, { D with files := l, fuse := max (D.fuse - 1) (-1) }))
theorem Turned.gone (h : D.dead = true) : Turned D l (7, D) := .inl ⟨h, rfl⟩
theorem Turned.no (h : D.dead = false) (e : Int) (h0 : e ≠ 0) (h7 : e ≠ 7) : Turned D l (e, D) := .inr (.inl ⟨h, rfl, h0, h7⟩)
theorem Turned.dies (h : D.dead = false) (hf : D.fuse = 0) : Turned D l (7, { D with dead := true }) := .inr (.inr (.inl ⟨h, hf, rfl⟩))
theorem Turned.done (h : D.dead = false) (hf : D.fuse ≠ 0) : Turned D l (0, { D with files := l, fuse := max (D.fuse - 1) (-1) }) := .inr (.inr (.inr ⟨h, hf, rfl⟩))
theorem turned_then (h : D.dead = false) (l : List FileD) : Turned D l (thenD D l) := by
 unfold thenD turnD
 by_cases hf : D.fuse = 0
 ·rw [if_pos hf]; simp; exact .dies h hf
 ·rw [if_neg hf]; simp [setF]; exact .done h hf
theorem turned_sync (D : DiskD) (n : List UInt8) : ∃ l, (∀ f, getF D.files n = some f → l = putF D.files ⟨n, f.bytes, f.bytes.length⟩) ∧ (getF D.files n = none → (syncD D n).1 ≠ 0) ∧ Turned D l (syncD D n) := by
 cases hd : D.dead with
 | true =>
  have e : syncD D n = (7, D) := by unfold syncD; rw [if_pos hd]
  rw [e]
  cases hg : getF D.files n with
  | none => exact ⟨[], (fun f hf => by cases hf), (fun _ => by simp), .gone hd⟩
  | some f => exact ⟨_, (fun f' hf => by obtain rfl := Option.some.inj hf; rfl), (fun h => by cases h), .gone hd⟩
 | false =>
  have hne : ¬ D.dead = true := by rw [hd]; simp
  unfold syncD
  rw [if_neg hne]
  cases hg : getF D.files n with
  | none => exact ⟨[], (fun f hf => by cases hf), (fun _ => by simp), .no hd 4 (by decide) (by decide)⟩
  | some f => exact ⟨_, (fun f' hf => by obtain rfl := Option.some.inj hf; rfl), (fun h => by cases h), turned_then hd _⟩
theorem turned_trunc (D : DiskD) (n : List UInt8) (k : Int) : ∃ l, (∀ m, m ≠ n → (truncD D n k).1 = 0 → Sorted D.files → getF l m = getF D.files m) ∧ Turned D l (truncD D n k) := by
 cases hd : D.dead with
 | true =>
  have e : truncD D n k = (7, D) := by unfold truncD; rw [if_pos hd]
  rw [e]
  exact ⟨[], (fun m _ he _ => by cases he), .gone hd⟩
 | false =>
  have hne : ¬ D.dead = true := by rw [hd]; simp
  unfold truncD
  rw [if_neg hne]
  cases hg : getF D.files n with
  | none => exact ⟨[], (fun m _ he _ => by cases he), .no hd 4 (by decide) (by decide)⟩
  | some f =>
   dsimp only
   split
   ·exact ⟨[], (fun m _ he _ => by cases he), .no hd 2 (by decide) (by decide)⟩
   ·exact ⟨_, (fun m hm _ hs => by rw [get_put hs, if_neg hm]), turned_then hd _⟩
/-! ### DiskOthers -/
/-! ### DiskFuses -/
/-- a disk with a fuse of so many turns, of which so many are done -/
def Fused (most many : Nat) (D : DiskD) : Prop := (D.dead = false ∧ D.fuse = (most : Int) - many ∧ many ≤ most) ∨ (D.dead = true ∧ many = most)
/-! ### DiskSynced, DiskMoves -/
def crash1 (xb : UInt8 → Int → UInt8) (keep noise : List Int) (f : FileD) : FileD := if f.bytes.length = f.synced then f else crashF xb keep noise 0 f
/-- all files but one have no tail -/
def OneTail (n : List UInt8) (l : List FileD) : Prop := ∀ f ∈ l, f.name ≠ n → f.bytes.length = f.synced
theorem crash_one : ∀ {l : List FileD}, Sorted l → OneTail n l → getF l n = some f → getF (crashL xb keep noise 0 l) n = some (crash1 xb keep noise f)
 | [], _, _, h => by cases h
 | g :: t, hs, ho, h => by
  have hs' := sorted_cons.1 hs
  rw [get_cons] at h
  unfold crashL
  by_cases e : g.name = n
  ·rw [if_pos e] at h
   obtain rfl := Option.some.inj h
   unfold crash1
   split
   ·rw [get_cons, if_pos e]
   ·rw [get_cons, if_pos (show (crashF xb keep noise 0 g).name = n from e)]
  ·rw [if_neg e] at h
   rw [if_pos (ho g (List.mem_cons_self ..) e), get_cons, if_neg e]
   exact crash_one hs'.2 (fun x hx => ho x (List.mem_cons_of_mem _ hx)) h
theorem crash_tails (h : InvD D) : ∀ f ∈ (crashD xb D keep noise).files, f.bytes.length = f.synced := fun f hf => ((crash_all D.files 0 h.synced).1 f hf).symm
/-- a disk that is not dead and has no fuse -/
structure Free (D : DiskD) : Prop where
 dead : D.dead = false
 fuse : D.fuse = -1
theorem grown_none (h : getF l n = none) : grown l n x = ⟨n, x, 0⟩ := by unfold grown; rw [h]
theorem grown_some (h : getF l n = some f) : grown l n x = ⟨n, f.bytes ++ x, f.synced⟩ := by unfold grown; rw [h]

/-- how much of t is kept -/
def keptN (c : Int) (t : List UInt8) : Nat := (min (max c 0) (t.length : Int)).toNat
theorem keptN_le (c : Int) (t : List UInt8) : keptN c t ≤ t.length := by unfold keptN; omega
theorem crash1_bytes (n s t : List UInt8) (keep noise : List Int) : (crash1 xb keep noise ⟨n, s ++ t, s.length⟩).bytes =
  if keptN (nthD keep 0) t = 0 then s else s ++ (t.take (keptN (nthD keep 0) t - 1) ++ [xb (t.getD (keptN (nthD keep 0) t - 1) 0) (nthD noise 0)]) := by
 have hk := keptN_le (nthD keep 0) t
 have e1 : keptD ⟨n, s ++ t, s.length⟩ (nthD keep 0) = s.length + keptN (nthD keep 0) t := by
  unfold keptD keptN; simp only [List.length_append]; rw [Nat.add_sub_cancel_left]
 unfold crash1
 simp only [List.length_append]
 by_cases h0 : t.length = 0
 ·have ht : t = [] := List.length_eq_zero_iff.1 h0
  subst ht
  simp [keptN]
  omega
 ·rw [if_neg (by omega)]
  unfold crashF
  dsimp only
  rw [e1]
  by_cases hz : keptN (nthD keep 0) t = 0
  ·rw [hz, if_neg (by omega), if_pos rfl]; simp
  ·rw [if_pos (by omega), if_neg hz]
   have e2 : s.length + keptN (nthD keep 0) t - 1 = s.length + (keptN (nthD keep 0) t - 1) := by omega
   rw [e2, List.take_append, List.take_of_length_le (by omega), Nat.add_sub_cancel_left, List.append_assoc]
   congr 3
   rw [List.getD_eq_getElem?_getD, List.getElem?_append_right (by omega), Nat.add_sub_cancel_left, List.getD_eq_getElem?_getD]

/-- a disk that has crashed: no tail, no fuse -/
structure Calm (n : List UInt8) (D : DiskD) : Prop where
 inv : InvD D
 free : Free D
 tails : OneTail n D.files
end
end Go.Proofs.YtgmghopcppniaaaGreatDoor
