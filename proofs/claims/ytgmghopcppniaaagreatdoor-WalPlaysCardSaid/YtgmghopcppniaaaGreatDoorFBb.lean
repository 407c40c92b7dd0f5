/- Layer 4 in plain words: snapshots saved on a disk, and loaded; what stays behind a crash (no program). -/
import Derived.Test.YtgmghopcppniaaaGreatDoorFB
import Derived.Lib.VarintBits
import Derived.Lib.AtoiAll
import Derived.Lib.ItoaNum
namespace Go.Proofs.YtgmghopcppniaaaGreatDoor

/-! ### names -/
def decHi (v : Nat) : Str := if v = 0 then [] else decHi (v / 10) ++ [UInt8.ofNat (48 + v % 10)]
termination_by v
decreasing_by omega
def decV (s : Str) : Nat := s.foldl (fun a c => a * 10 + (c.toNat - 48)) 0
theorem decHi_zero : decHi 0 = [] := by unfold decHi; rfl
theorem decHi_pos {v : Nat} (h : v ≠ 0) : decHi v = decHi (v / 10) ++ [UInt8.ofNat (48 + v % 10)] := by conv => lhs; unfold decHi; rw [if_neg h]
theorem decV_snoc (s : Str) (c : UInt8) : decV (s ++ [c]) = decV s * 10 + (c.toNat - 48) := by unfold decV; rw [List.foldl_append]; rfl
theorem decV_hi : ∀ (n v : Nat), v ≤ n → decV (decHi v) = v
 | n, 0, _ => by rw [decHi_zero]; rfl
 | 0, v + 1, h => by omega
 | n + 1, v + 1, h => by
  rw [decHi_pos (Nat.succ_ne_zero v), decV_snoc, decV_hi n _ (by omega), UInt8.toNat_ofNat']
  omega
theorem decHi_len : ∀ (k v : Nat), v < 10 ^ k → (decHi v).length ≤ k
 | 0, v, h => by
  have e : v = 0 := by simpa using h
  rw [e, decHi_zero]; exact Nat.le_refl _
 | k + 1, v, h => by
  by_cases e : v = 0
  ·rw [e, decHi_zero]; exact Nat.zero_le _
  ·rw [decHi_pos e, List.length_append, List.length_singleton]
   have := decHi_len k (v / 10) (by rw [Nat.pow_succ] at h; omega)
   omega
theorem decHi_digit : ∀ (n v : Nat), v ≤ n → ∀ c ∈ decHi v, 48 ≤ c.toNat ∧ c.toNat ≤ 57
 | n, 0, _, c, h => by rw [decHi_zero] at h; cases h
 | 0, v + 1, h, _, _ => by omega
 | n + 1, v + 1, h, c, hc => by
  rw [decHi_pos (Nat.succ_ne_zero v)] at hc
  rcases List.mem_append.1 hc with hc | hc
  ·exact decHi_digit n _ (by omega) c hc
  ·rw [List.mem_singleton] at hc
   rw [hc, UInt8.toNat_ofNat']
   omega
/-- a snapshot's file of a number -/
def nameS (n : Int) : Str := 112 :: decHi n.toNat
def freshN : Str := [116]
/-- the number that a file's name tells; 0: none -/
def idxD (s : Str) : Int := match s with
 | 112 :: t => if t.length ≤ 18 ∧ 0 < decV t ∧ decHi (decV t) = t then (decV t : Int) else 0
 | _ => 0
/-! ### saved -/
def namesL (l : List FileD) : List Str := l.map (·.name)
def pourD : List Str → DiskD → Int × DiskD
 | [], D => (0, D)
 | p :: l, D => if (appendD D freshN (frameL p)).1 ≠ 0 then appendD D freshN (frameL p) else pourD l (appendD D freshN (frameL p)).2
def writeD (D : DiskD) (b : BaseD) : Int × DiskD :=
 if (pourD (payloadsL b) D).1 ≠ 0 then pourD (payloadsL b) D
 else if (syncD (pourD (payloadsL b) D).2 freshN).1 ≠ 0 then syncD (pourD (payloadsL b) D).2 freshN
 else renameD (syncD (pourD (payloadsL b) D).2 freshN).2 freshN (nameS b.index)
def wipeD (i : Int) : List Str → DiskD → Int × DiskD
 | [], D => (0, D)
 | s :: l, D => if 0 < idxD s ∧ idxD s ≠ i then (if (deleteD D s).1 ≠ 0 then deleteD D s else wipeD i l (deleteD D s).2) else wipeD i l D
def saveD (D : DiskD) (b : BaseD) : Int × DiskD :=
 if rightB b = false then (1, D)
 else if (deleteD D freshN).1 = 7 then deleteD D freshN
 else if (writeD (deleteD D freshN).2 b).1 ≠ 0 then
  (if (deleteD (writeD (deleteD D freshN).2 b).2 freshN).1 = 7 then deleteD (writeD (deleteD D freshN).2 b).2 freshN
   else ((writeD (deleteD D freshN).2 b).1, (deleteD (writeD (deleteD D freshN).2 b).2 freshN).2))
 else wipeD b.index (namesL (writeD (deleteD D freshN).2 b).2.files) (writeD (deleteD D freshN).2 b).2
/-! ### loaded -/
def zeroB : BaseD := ⟨0, 0, [], []⟩
def betterD (D : DiskD) (best : BaseD) (s : Str) : BaseD :=
 if idxD s ≤ best.index then best else match unpackL (readD D s).1 with
  | .ok b => if b.index = idxD s then b else best
  | .error _ => best
def bestD (D : DiskD) : BaseD := (namesL D.files).foldl (betterD D) zeroB
def loadD (D : DiskD) : (BaseD × Bool) × Int := if D.dead = true then ((zeroB, false), 7) else ((bestD D, decide (0 < (bestD D).index)), 0)

/-! ### what stays -/
def fileS (b : BaseD) : FileD := ⟨nameS b.index, packL b, (packL b).length⟩
/-- the snapshots among the files are as they were -/
def SameS (l m : List FileD) : Prop := ∀ f : FileD, 0 < idxD f.name → (f ∈ m ↔ f ∈ l)
/-- how a call that touches no snapshot ends -/
structure Ends (D : DiskD) (p : Int × DiskD) : Prop where
 same : SameS D.files p.2.files
 sorted : Sorted p.2.files
 dead : p.1 = 7 ↔ p.2.dead = true
section
variable {D : DiskD} {l : List FileD} {n : Str} {p : Int × DiskD}
/-- what the file that is being written has -/
def Has (D : DiskD) (x : Str) : Prop := (x = [] ∧ getF D.files freshN = none) ∨ ∃ f, getF D.files freshN = some f ∧ f.bytes = x
end

/-! ### Keeps -/
/-- a snapshot among the files is one of these two -/
def OneOf (l : List FileD) (a b : BaseD) : Prop := ∀ f ∈ l, 0 < idxD f.name → (f = fileS a ∧ rightB a = true) ∨ (f = fileS b ∧ rightB b = true)
structure Alive (D : DiskD) (a : BaseD) : Prop where
 one : OneOf D.files a a
 has : a = zeroB ∨ (rightB a = true ∧ fileS a ∈ D.files)
structure Gone (l : List FileD) (a b : BaseD) : Prop where
 one : OneOf l a b
 has : a = zeroB ∨ (rightB a = true ∧ fileS a ∈ l) ∨ (rightB b = true ∧ fileS b ∈ l)
/-- how a save ends -/
def SaveEnd (a b : BaseD) (r : Int × DiskD) : Prop :=
 Sorted r.2.files ∧ ((r.1 = 7 ∧ r.2.dead = true ∧ Gone r.2.files a b) ∨ (r.1 = 0 ∧ r.2.dead = false ∧ Alive r.2 b) ∨ (r.1 ≠ 0 ∧ r.1 ≠ 7 ∧ r.2.dead = false ∧ Alive r.2 a))
/-! ### Load -/
/-! ### the crash -/
theorem crash_back {xb : UInt8 → Int → UInt8} {keep noise : List Int} : ∀ (l : List FileD) (k : Nat) {g : FileD}, g ∈ crashL xb keep noise k l → ∃ f ∈ l, g.name = f.name ∧ (f.bytes.length = f.synced → g = f)
 | [], _, _, h => by cases h
 | f :: t, k, g, h => by
  unfold crashL at h
  split at h
  ·rcases List.mem_cons.1 h with rfl | h
   ·exact ⟨g, List.mem_cons_self .., rfl, fun _ => rfl⟩
   ·obtain ⟨f2, h1, h2⟩ := crash_back t k h
    exact ⟨f2, List.mem_cons_of_mem _ h1, h2⟩
  ·rename_i hne
   rcases List.mem_cons.1 h with rfl | h
   ·exact ⟨f, List.mem_cons_self .., rfl, fun e => absurd e hne⟩
   ·obtain ⟨f2, h1, h2⟩ := crash_back t (k + 1) h
    exact ⟨f2, List.mem_cons_of_mem _ h1, h2⟩
theorem crash_mem {xb : UInt8 → Int → UInt8} {keep noise : List Int} : ∀ (l : List FileD) (k : Nat) {f : FileD}, f ∈ l → f.bytes.length = f.synced → f ∈ crashL xb keep noise k l
 | [], _, _, h, _ => by cases h
 | g :: t, k, f, h, e => by
  unfold crashL
  rcases List.mem_cons.1 h with rfl | h
  ·rw [if_pos e]; exact List.mem_cons_self ..
  ·split
   ·exact List.mem_cons_of_mem _ (crash_mem t k h e)
   ·exact List.mem_cons_of_mem _ (crash_mem t (k + 1) h e)
end Go.Proofs.YtgmghopcppniaaaGreatDoor

/- natural's two loops, in plain words. -/
namespace Go.Proofs.YtgmghopcppniaaaGreatDoor

/-- the first loop, behind j rounds: k is what is still to be counted -/
structure CountAt (v j k : Nat) : Prop where
 k : k = v / 128 ^ (j + 1)
 nz : j = 0 ∨ v / 128 ^ j ≠ 0
 le : j ≤ 9
theorem CountAt.start (v : Nat) : CountAt v 0 (v / 128) := ⟨by rw [Nat.zero_add, Nat.pow_one], Or.inl rfl, by omega⟩
theorem CountAt.lt {v j k : Nat} (h : CountAt v j k) (hv : v < 18446744073709551616) (hk : k ≠ 0) : j < 9 := by
 have h1 := h.le
 rcases Nat.lt_or_ge j 9 with h2 | h2
 ·exact h2
 ·have : j = 9 := by omega
  subst this
  exact absurd (h.k.trans (Nat.div_eq_of_lt (by omega))) hk
theorem CountAt.step {v j k : Nat} (h : CountAt v j k) (hv : v < 18446744073709551616) (hk : k ≠ 0) : CountAt v (j + 1) (k / 128) :=
 ⟨by rw [h.k, Nat.div_div_eq_div_mul, ← Nat.pow_succ], Or.inr (by rw [← h.k]; exact hk), by have := h.lt hv hk; omega⟩
/-- the second loop, ahead of place j: what was written -/
structure WriteAt (v j : Nat) (o : Str) : Prop where
 o : o = natHi (v / 128 ^ (j + 1))
 nz : j = 0 ∨ v / 128 ^ j ≠ 0
 le : j ≤ 9
theorem CountAt.write {v j : Nat} (h : CountAt v j 0) : WriteAt v j [] := ⟨by rw [← h.k, natHi_zero], h.nz, h.le⟩
theorem WriteAt.step {v j : Nat} {o : Str} (h : WriteAt v (j + 1) o) : WriteAt v j (o ++ [UInt8.ofNat (128 + v / 128 ^ (j + 1) % 128)]) := by
 have hz : v / 128 ^ (j + 1) ≠ 0 := h.nz.resolve_left (Nat.succ_ne_zero j)
 refine ⟨?_, Or.inr fun e => hz ?_, by have := h.le; omega⟩
 ·rw [natHi_pos hz, h.o, Nat.div_div_eq_div_mul, ← Nat.pow_succ]
 ·rw [Nat.pow_succ, ← Nat.div_div_eq_div_mul, e, Nat.zero_div]
theorem WriteAt.done {v : Nat} {o : Str} (h : WriteAt v 0 o) : o ++ [UInt8.ofNat (v % 128)] = natL v := by
 rw [h.o, Nat.zero_add, Nat.pow_one]; rfl
theorem shr7 (v : Nat) : Op.shift .shr .u64 (v : Int) .u64 7 = pure (.int .u64 ((v / 128 : Nat) : Int)) := by
 rw [shift_shr_u64 _ _ _ (by decide) (by decide)]; rfl
theorem or128_all : ∀ x : Fin 256, bits .or .u8 ((x.val : Nat) : Int) 128 = ((128 + x.val % 128 : Nat) : Int) := by decide +kernel
theorem or128 (x : Nat) (h : x < 256) : bits .or .u8 (x : Int) 128 = ((128 + x % 128 : Nat) : Int) := or128_all ⟨x, h⟩
theorem and127 (x : Nat) (h : x < 256) : bits .and .u8 (x : Int) 127 = ((x % 128 : Nat) : Int) := by
 rw [u8_and127 _ (by omega) (by omega)]; rfl
theorem wrap_byte (x : Nat) : IntKind.u8.wrap (x : Int) = ((x % 256 : Nat) : Int) := by rw [IntKind.wrap_u8]; rfl
end Go.Proofs.YtgmghopcppniaaaGreatDoor

/- Layers 1 and 4 as the reference reads and writes them, in plain words (no program). -/
namespace Go.Proofs.YtgmghopcppniaaaGreatDoor

/-! ### numbers, read as they come -/
def foldN (s : Str) : Nat := s.foldl (fun a c => 128 * a + c.toNat % 128) 0
theorem foldN_snoc (s : Str) (c : UInt8) : foldN (s ++ [c]) = 128 * foldN s + c.toNat % 128 := by unfold foldN; rw [List.foldl_append]; rfl
theorem foldN_hi : ∀ (n v : Nat), v ≤ n → foldN (natHi v) = v
 | n, 0, _ => by rw [natHi_zero]; rfl
 | 0, v + 1, h => by omega
 | n + 1, v + 1, h => by
  rw [natHi_pos (by omega), foldN_snoc, foldN_hi n _ (by omega), byte_hi]; omega
theorem foldN_nat (v : Nat) : foldN (natL v) = v := by
 unfold natL; rw [foldN_snoc, foldN_hi _ _ (Nat.le_refl _), byte_lo]; omega
theorem natHi_big : ∀ (n v : Nat), v ≤ n → ∀ c ∈ natHi v, 128 ≤ c.toNat
 | n, 0, _, c, hc => by rw [natHi_zero] at hc; cases hc
 | 0, v + 1, h, _, _ => by omega
 | n + 1, v + 1, h, c, hc => by
  rw [natHi_pos (by omega)] at hc
  rcases List.mem_append.1 hc with hc | hc
  ·exact natHi_big n _ (by omega) c hc
  ·simp only [List.mem_singleton] at hc
   subst hc; rw [byte_hi]; omega
/-- so many bytes are read, all of them with more to come -/
structure RAt (s : Str) (i v : Nat) : Prop where
 le : i ≤ s.length
 ten : i ≤ 10
 val : v = foldN (s.take i) % 18446744073709551616
 big : ∀ j, j < i → 128 ≤ (s.getD j 0).toNat
theorem RAt.start (s : Str) : RAt s 0 0 := ⟨Nat.zero_le _, Nat.zero_le _, rfl, fun j h => by omega⟩
theorem take_snoc {s : Str} {i : Nat} {c : UInt8} (hl : i < s.length) (hc : s.getD i 0 = c) : s.take (i + 1) = s.take i ++ [c] := by
 have e : s[i]? = some c := by
  rw [List.getElem?_eq_getElem hl, ← hc, List.getD_eq_getElem?_getD, List.getElem?_eq_getElem hl]; rfl
 rw [List.take_add_one, e]; rfl
theorem RAt.more {s : Str} {i v : Nat} {c : UInt8} (h : RAt s i v) (hl : i < s.length) (h10 : i < 10) (hc : s.getD i 0 = c) (hb : 128 ≤ c.toNat) : RAt s (i + 1) ((128 * v + c.toNat % 128) % 18446744073709551616) := by
 refine ⟨hl, h10, ?_, fun j hj => ?_⟩
 ·rw [take_snoc hl hc, foldN_snoc, h.val]; omega
 ·rcases Nat.lt_succ_iff_lt_or_eq.1 hj with h1 | rfl
  ·exact h.big j h1
  ·rw [hc]; exact hb
/-- where a number ends -/
theorem int_end {s t : Str} {n : Int} (h : toIntL s = some (n, t)) : ∃ j, j < 10 ∧ s.take (j + 1) = intL n ∧ t = s.drop (j + 1) ∧ j < s.length ∧ (s.getD j 0).toNat < 128 ∧ ∀ k, k < j → 128 ≤ (s.getD k 0).toNat := by
 obtain ⟨h1, h2⟩ := toInt_back h
 have hlen := intL_len h2
 have hpos := intL_pos n
 have hL : intL n = natHi (zig n / 128) ++ [UInt8.ofNat (zig n % 128)] := rfl
 have hll : (intL n).length = (natHi (zig n / 128)).length + 1 := by rw [hL, List.length_append]; rfl
 refine ⟨(natHi (zig n / 128)).length, by omega, ?_, ?_, ?_, ?_, ?_⟩
 ·rw [← hll, h1, List.take_left]
 ·rw [← hll, h1, List.drop_left]
 ·rw [h1, List.length_append]; omega
 ·rw [h1, hL, List.getD_eq_getElem?_getD, List.append_assoc, List.getElem?_append_right (Nat.le_refl _), Nat.sub_self]
  show (UInt8.ofNat (zig n % 128)).toNat < 128
  rw [byte_lo]; omega
 ·intro k hk
  have e : s.getD k 0 = (natHi (zig n / 128))[k] := by
   rw [h1, hL, List.getD_eq_getElem?_getD, List.append_assoc, List.getElem?_append_left hk, List.getElem?_eq_getElem hk]; rfl
  rw [e]
  exact natHi_big _ _ (Nat.le_refl _) _ (List.getElem_mem _)
theorem RAt.yes {s : Str} {i v : Nat} {n : Int} (_h : RAt s i v) (hn : I64 n) (he : intL n = s.take (i + 1)) : toIntL s = some (n, s.drop (i + 1)) := by
 have := toInt_int hn (s.drop (i + 1))
 rwa [he, List.take_append_drop] at this
theorem RAt.no {s : Str} {i v : Nat} {c : UInt8} (h : RAt s i v) (hl : i < s.length) (hc : s.getD i 0 = c) (hs : c.toNat < 128) (hne : intL (unzig ((128 * v + c.toNat) % 18446744073709551616)) ≠ s.take (i + 1)) : toIntL s = none := by
 cases ht : toIntL s with
 | none => rfl
 | some p =>
  obtain ⟨n, t⟩ := p
  obtain ⟨j, h1, h2, h3, h4, h5, h6⟩ := int_end ht
  obtain rfl : i = j := by
   rcases Nat.lt_trichotomy i j with h7 | h7 | h7
   ·have := h6 i h7; rw [hc] at this; omega
   ·exact h7
   ·have := h.big j h7; omega
  obtain ⟨_, hI⟩ := toInt_back ht
  have e1 : foldN (s.take (i + 1)) = zig n := by rw [h2]; exact foldN_nat _
  have e2 := zig_lt hI
  rw [take_snoc hl hc, foldN_snoc] at e1
  have e3 : (128 * v + c.toNat) % 18446744073709551616 = zig n := by rw [h.val]; omega
  rw [e3, unzig_zig] at hne
  exact absurd h2.symm hne
theorem RAt.out {s : Str} {i v : Nat} (h : RAt s i v) (he : i = 10 ∨ i = s.length) : toIntL s = none := by
 cases ht : toIntL s with
 | none => rfl
 | some p =>
  obtain ⟨n, t⟩ := p
  obtain ⟨j, h1, h2, h3, h4, h5, h6⟩ := int_end ht
  have : j < i := by omega
  have := h.big j this
  omega
structure NumsAt (s : Str) (ns : List Int) (rest : Str) : Prop where
 all : s = intsL ns ++ rest
 inr : ∀ n ∈ ns, I64 n
end Go.Proofs.YtgmghopcppniaaaGreatDoor

/- The number that a file's name tells, in the library's words (no program). -/
namespace Go.Proofs.YtgmghopcppniaaaGreatDoor
open Go.Lib

theorem dec_digits : ∀ (n v : Nat), v ≤ n → v ≠ 0 → decHi v = decDigits v
 | 0, v, h, h0 => by omega
 | n + 1, v, h, h0 => by
  rw [decHi_pos h0, decDigits]
  by_cases h10 : v < 10
  ·rw [dif_pos h10, show v / 10 = 0 by omega, decHi_zero, show v % 10 = v by omega]; rfl
  ·rw [dif_neg h10, dec_digits n (v / 10) (by omega) (by omega)]
theorem itoa_dec {v : Int} (h : 0 < v) : Lib.itoa v = decHi v.toNat := by
 unfold Lib.itoa
 rw [if_neg (by omega), dec_digits _ _ (Nat.le_refl _) (by omega)]
theorem parse_digits : ∀ (l : Str) (acc : Nat), (∀ c ∈ l, 48 ≤ c.toNat ∧ c.toNat ≤ 57) → l.length ≤ 18 → acc < 10 ^ (18 - l.length) → parseUint10 acc l = .ok (l.foldl (fun a c => a * 10 + (c.toNat - 48)) acc)
 | [], acc, _, _, _ => rfl
 | c :: l, acc, hd, hl, ha => by
  have hc := hd c (List.mem_cons_self ..)
  simp only [List.length_cons] at hl ha
  have hp : 10 ^ (18 - l.length) = 10 * 10 ^ (18 - (l.length + 1)) := by
   rw [show 18 - l.length = (18 - (l.length + 1)) + 1 by omega, Nat.pow_succ, Nat.mul_comm]
  have hle : 10 ^ (18 - (l.length + 1)) ≤ 10 ^ 17 := Nat.pow_le_pow_right (by decide) (by omega)
  have hle2 : (10 : Nat) ^ 17 = 100000000000000000 := by decide
  unfold parseUint10
  rw [if_pos hc, if_neg (by omega), if_neg (by omega), parse_digits l _ (fun x hx => hd x (List.mem_cons_of_mem _ hx)) (by omega) (by rw [hp]; omega)]
  rfl
theorem atoi_digits {l : Str} (h0 : l ≠ []) (hd : ∀ c ∈ l, 48 ≤ c.toNat ∧ c.toNat ≤ 57) (hl : l.length ≤ 18) : atoiAll l = .ok ((decV l : Nat) : Int) := by
 cases l with
 | nil => exact absurd rfl h0
 | cons c r =>
  have hc := hd c (List.mem_cons_self ..)
  have hm : parseMag (c :: r) = .ok (decV (c :: r)) := by
   unfold parseMag
   rw [if_neg (by simp), parse_digits _ _ hd hl (Nat.pow_pos (by decide))]
   rfl
  have hb : decV (c :: r) < 9223372036854775808 := by
   have key : ∀ (l : Str) (acc : Nat), (∀ c ∈ l, 48 ≤ c.toNat ∧ c.toNat ≤ 57) → l.length ≤ 18 → acc < 10 ^ (18 - l.length) → l.foldl (fun a c => a * 10 + (c.toNat - 48)) acc < 10 ^ 18 := by
    intro l
    induction l with
    | nil => intro acc _ _ ha; simpa using ha
    | cons c l ih =>
     intro acc hd hl ha
     have hc := hd c (List.mem_cons_self ..)
     simp only [List.length_cons] at hl ha
     have hp : 10 ^ (18 - l.length) = 10 * 10 ^ (18 - (l.length + 1)) := by
      rw [show 18 - l.length = (18 - (l.length + 1)) + 1 by omega, Nat.pow_succ, Nat.mul_comm]
     exact ih _ (fun x hx => hd x (List.mem_cons_of_mem _ hx)) (by omega) (by rw [hp]; show acc * 10 + (c.toNat - 48) < _; omega)
   have := key (c :: r) 0 hd hl (Nat.pow_pos (by decide))
   have e : (10 : Nat) ^ 18 = 1000000000000000000 := by decide
   unfold decV
   omega
  unfold atoiAll
  simp only
  rw [if_neg (by omega), hm]
  simp only
  rw [if_neg (by omega), if_neg (by omega), if_neg (by omega)]
end Go.Proofs.YtgmghopcppniaaaGreatDoor

/- Chapter 4's examples, in plain words (no program). -/
namespace Go.Proofs.YtgmghopcppniaaaGreatDoor

def b3 : BaseD := ⟨3, 1, [1, 2, 3], [97, 98, 99]⟩
def b7 : BaseD := ⟨7, 1, [1, 2, 3], [97, 98, 99]⟩
def frame3 : Str := frameL [6, 2, 6, 2, 4, 6, 6] ++ (frameL [97, 98, 99] ++ [])
def frame7 : Str := frameL [14, 2, 6, 2, 4, 6, 6] ++ (frameL [97, 98, 99] ++ [])
def disk3 : DiskD := ⟨[⟨[112, 51], frame3, frame3.length⟩], 10000, -1, false⟩
def disk7 : DiskD := ⟨[⟨[112, 55], frame7, frame7.length⟩], 10000, -1, false⟩
def disk37 : DiskD := ⟨[⟨[112, 51], frame3, frame3.length⟩, ⟨[112, 55], frame7, frame7.length⟩], 10000, -1, false⟩
end Go.Proofs.YtgmghopcppniaaaGreatDoor
