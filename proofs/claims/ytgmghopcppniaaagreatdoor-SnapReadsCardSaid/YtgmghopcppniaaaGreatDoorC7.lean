/- The number that a file's name tells, in the library's words (no program). -/
import Derived.Test.YtgmghopcppniaaaGreatDoorC4
import Derived.Lib.AtoiAll
import Derived.Lib.ItoaNum
namespace Go.Proofs.YtgmghopcppniaaaGreatDoor
open Go.Lib

theorem dec_digits : ∀ (n v : Nat), v ≤ n → v ≠ 0 → decHi v = decDigits v
  | 0, v, h, h0 => by omega
  | n + 1, v, h, h0 => by
    rw [decHi_pos h0, decDigits]
    by_cases h10 : v < 10
    · rw [dif_pos h10, show v / 10 = 0 by omega, decHi_zero, show v % 10 = v by omega]; rfl
    · rw [dif_neg h10, dec_digits n (v / 10) (by omega) (by omega)]
theorem itoa_dec {v : Int} (h : 0 < v) : Lib.itoa v = decHi v.toNat := by
  unfold Lib.itoa
  rw [if_neg (by omega), dec_digits _ _ (Nat.le_refl _) (by omega)]
theorem parse_digits : ∀ (l : Str) (acc : Nat), (∀ c ∈ l, 48 ≤ c.toNat ∧ c.toNat ≤ 57) → l.length ≤ 18 → acc < 10 ^ (18 - l.length) → parseUint10 acc l = .ok (l.foldl (fun a c => a * 10 + (c.toNat - 48)) acc)
  | [], acc, _, _, _ => rfl
  | c :: l, acc, hd, hl, ha => by
    have hc := hd c (List.mem_cons_self ..)
    simp only [List.length_cons] at hl ha
    have hp : 10 ^ (18 - l.length) = 10 * 10 ^ (18 - (l.length + 1)) := by
      rw [show 18 - l.length = (18 - (l.length + 1)) + 1 by omega, Nat.pow_succ, Nat.mul_comm]
    have hle : 10 ^ (18 - (l.length + 1)) ≤ 10 ^ 17 := Nat.pow_le_pow_right (by decide) (by omega)
    have hle2 : (10 : Nat) ^ 17 = 100000000000000000 := by decide
    unfold parseUint10
    rw [if_pos hc, if_neg (by omega), if_neg (by omega), parse_digits l _ (fun x hx => hd x (List.mem_cons_of_mem _ hx)) (by omega) (by rw [hp]; omega)]
    rfl
theorem atoi_digits {l : Str} (h0 : l ≠ []) (hd : ∀ c ∈ l, 48 ≤ c.toNat ∧ c.toNat ≤ 57) (hl : l.length ≤ 18) : atoiAll l = .ok ((decV l : Nat) : Int) := by
  cases l with
  | nil => exact absurd rfl h0
  | cons c r =>
    have hc := hd c (List.mem_cons_self ..)
    have hm : parseMag (c :: r) = .ok (decV (c :: r)) := by
      unfold parseMag
      rw [if_neg (by simp), parse_digits _ _ hd hl (Nat.pow_pos (by decide))]
      rfl
    have hb : decV (c :: r) < 9223372036854775808 := by
      have key : ∀ (l : Str) (acc : Nat), (∀ c ∈ l, 48 ≤ c.toNat ∧ c.toNat ≤ 57) → l.length ≤ 18 → acc < 10 ^ (18 - l.length) → l.foldl (fun a c => a * 10 + (c.toNat - 48)) acc < 10 ^ 18 := by
        intro l
        induction l with
        | nil => intro acc _ _ ha; simpa using ha
        | cons c l ih =>
          intro acc hd hl ha
          have hc := hd c (List.mem_cons_self ..)
          simp only [List.length_cons] at hl ha
          have hp : 10 ^ (18 - l.length) = 10 * 10 ^ (18 - (l.length + 1)) := by
            rw [show 18 - l.length = (18 - (l.length + 1)) + 1 by omega, Nat.pow_succ, Nat.mul_comm]
          exact ih _ (fun x hx => hd x (List.mem_cons_of_mem _ hx)) (by omega) (by rw [hp]; show acc * 10 + (c.toNat - 48) < _; omega)
      have := key (c :: r) 0 hd hl (Nat.pow_pos (by decide))
      have e : (10 : Nat) ^ 18 = 1000000000000000000 := by decide
      unfold decV
      omega
    unfold atoiAll
    simp only
    rw [if_neg (by omega), hm]
    simp only
    rw [if_neg (by omega), if_neg (by omega), if_neg (by omega)]
/-- a name that is no 'p..' -/
theorem idx_other {s : Str} (h : ∀ t, s ≠ 112 :: t) : idxD s = 0 := by
  unfold idxD
  split
  · rename_i t; exact absurd rfl (h t)
  · rfl
theorem idx_cons (t : Str) : idxD (112 :: t) = if t.length ≤ 18 ∧ 0 < decV t ∧ decHi (decV t) = t then (decV t : Int) else 0 := rfl
theorem idx_hit {t : Str} {v : Int} (h1 : 1 ≤ v) (h2 : t.length ≤ 18) (h3 : Lib.itoa v = t) : idxD (112 :: t) = v := by
  rw [itoa_dec (by omega)] at h3
  have h4 : decV t = v.toNat := by rw [← h3]; exact decV_hi _ _ (Nat.le_refl _)
  rw [idx_cons, h4, if_pos ⟨h2, by omega, h3⟩]; omega
theorem idx_miss {t : Str} (h : idxD (112 :: t) ≠ 0) : ∃ v : Int, atoiAll t = .ok v ∧ 1 ≤ v ∧ t.length ≤ 18 ∧ Lib.itoa v = t := by
  rw [idx_cons] at h
  split at h
  · rename_i h1
    obtain ⟨h2, h3, h4⟩ := h1
    have hne : t ≠ [] := by rintro rfl; exact absurd h3 (by decide)
    have hd : ∀ c ∈ t, 48 ≤ c.toNat ∧ c.toNat ≤ 57 := by rw [← h4]; exact decHi_digit _ _ (Nat.le_refl _)
    exact ⟨_, atoi_digits hne hd h2, by omega, h2, by rw [itoa_dec (by omega), Int.toNat_natCast, h4]⟩
  · exact absurd rfl h
end Go.Proofs.YtgmghopcppniaaaGreatDoor

/- Chapter 4's examples, in plain words (no program). -/
namespace Go.Proofs.YtgmghopcppniaaaGreatDoor

def b3 : BaseD := ⟨3, 1, [1, 2, 3], [97, 98, 99]⟩
def b7 : BaseD := ⟨7, 1, [1, 2, 3], [97, 98, 99]⟩
theorem natL_small {v : Nat} (h : v < 128) : natL v = [UInt8.ofNat v] := by
  unfold natL
  rw [show v / 128 = 0 by omega, natHi_zero, show v % 128 = v by omega]; rfl
theorem pays3 : payloadsL b3 = [[6, 2, 6, 2, 4, 6, 6], [97, 98, 99]] := by
  unfold payloadsL headL headI b3
  simp only [intsL, intL, List.flatMap_cons, List.flatMap_nil, List.length_cons, List.length_nil, List.cons_append, List.nil_append]
  rw [show natL (zig 3) = [6] from natL_small (by decide), show natL (zig 1) = [2] from natL_small (by decide), show natL (zig 2) = [4] from natL_small (by decide), show natL (zig ((0 + 1 + 1 + 1 : Nat) : Int)) = [6] from natL_small (by decide)]
  rfl
theorem pays7 : payloadsL b7 = [[14, 2, 6, 2, 4, 6, 6], [97, 98, 99]] := by
  unfold payloadsL headL headI b7
  simp only [intsL, intL, List.flatMap_cons, List.flatMap_nil, List.length_cons, List.length_nil, List.cons_append, List.nil_append]
  rw [show natL (zig 3) = [6] from natL_small (by decide), show natL (zig 7) = [14] from natL_small (by decide), show natL (zig 1) = [2] from natL_small (by decide), show natL (zig 2) = [4] from natL_small (by decide), show natL (zig ((0 + 1 + 1 + 1 : Nat) : Int)) = [6] from natL_small (by decide)]
  rfl
theorem name3 : nameS 3 = [112, 51] := by
  unfold nameS
  rw [decHi_pos (by decide), show ((3 : Int).toNat / 10) = 0 from rfl, decHi_zero]; rfl
theorem name7 : nameS 7 = [112, 55] := by
  unfold nameS
  rw [decHi_pos (by decide), show ((7 : Int).toNat / 10) = 0 from rfl, decHi_zero]; rfl
theorem idx3 : idxD [112, 51] = 3 := by rw [← name3]; exact idx_name (by decide) (by decide)
theorem idx7 : idxD [112, 55] = 7 := by rw [← name7]; exact idx_name (by decide) (by decide)
def frame3 : Str := frameL [6, 2, 6, 2, 4, 6, 6] ++ (frameL [97, 98, 99] ++ [])
def frame7 : Str := frameL [14, 2, 6, 2, 4, 6, 6] ++ (frameL [97, 98, 99] ++ [])
theorem pack3 : packL b3 = frame3 := by unfold packL; rw [pays3]; rfl
theorem pack7 : packL b7 = frame7 := by unfold packL; rw [pays7]; rfl
def disk3 : DiskD := ⟨[⟨[112, 51], frame3, frame3.length⟩], 10000, -1, false⟩
def disk7 : DiskD := ⟨[⟨[112, 55], frame7, frame7.length⟩], 10000, -1, false⟩
theorem file3 : fileS b3 = ⟨[112, 51], frame3, frame3.length⟩ := by unfold fileS; rw [pack3, show b3.index = 3 from rfl, name3]
theorem file7 : fileS b7 = ⟨[112, 55], frame7, frame7.length⟩ := by unfold fileS; rw [pack7, show b7.index = 7 from rfl, name7]
theorem right3 : rightB b3 = true := by decide
theorem right7 : rightB b7 = true := by decide
theorem del3 : deleteD (newD 10000) freshN = (4, newD 10000) := by kernel_rfl
theorem write3 : writeD (newD 10000) b3 = (0, disk3) := by
  unfold writeD
  rw [pays3, show b3.index = 3 from rfl, name3]
  kernel_rfl
theorem wipe3 : wipeD 3 [[112, 51]] disk3 = (0, disk3) := by
  show (if 0 < idxD [112, 51] ∧ idxD [112, 51] ≠ 3 then _ else _) = _
  rw [idx3, if_neg (by decide)]
  rfl
theorem save3 : saveD (newD 10000) b3 = (0, disk3) := by
  unfold saveD
  rw [right3, del3, if_neg (by decide), if_neg (by decide), write3, if_neg (by decide)]
  exact wipe3
theorem del7 : deleteD disk3 freshN = (4, disk3) := by kernel_rfl
def disk37 : DiskD := ⟨[⟨[112, 51], frame3, frame3.length⟩, ⟨[112, 55], frame7, frame7.length⟩], 10000, -1, false⟩
theorem write7 : writeD disk3 b7 = (0, disk37) := by
  unfold writeD
  rw [pays7, show b7.index = 7 from rfl, name7]
  kernel_rfl
theorem del37 : deleteD disk37 [112, 51] = (0, disk7) := by kernel_rfl
theorem wipe7 : wipeD 7 [[112, 51], [112, 55]] disk37 = (0, disk7) := by
  show (if 0 < idxD [112, 51] ∧ idxD [112, 51] ≠ 7 then (if (deleteD disk37 [112, 51]).1 ≠ 0 then deleteD disk37 [112, 51] else (if 0 < idxD [112, 55] ∧ idxD [112, 55] ≠ 7 then _ else _)) else _) = _
  rw [idx3, idx7, if_pos (by decide), del37, if_neg (by decide), if_neg (by decide)]
  rfl
theorem save7 : saveD disk3 b7 = (0, disk7) := by
  unfold saveD
  rw [right7, del7, if_neg (by decide), if_neg (by decide), write7, if_neg (by decide)]
  exact wipe7
theorem sorted3 : Sorted disk3.files := List.pairwise_singleton _ _
theorem load3 : loadD disk3 = ((b3, true), 0) := by
  have hm : fileS b3 ∈ disk3.files := by rw [file3]; exact List.mem_singleton.2 rfl
  have h := better_file (best := zeroB) (D := disk3) rfl sorted3 hm right3
  have hb : bestD disk3 = b3 := by
    have e : (fileS b3).name = [112, 51] := by rw [file3]
    rw [e] at h
    unfold bestD
    rw [show namesL disk3.files = [[112, 51]] from rfl, List.foldl_cons, List.foldl_nil, h, if_neg (by decide)]
  unfold loadD
  rw [if_neg (by decide), hb]; rfl
theorem wrong1 : rightB ⟨1, 0, [2, 1], []⟩ = false := by decide
theorem save_wrong {D : DiskD} {b : BaseD} (h : rightB b = false) : saveD D b = (1, D) := by unfold saveD; rw [if_pos h]
end Go.Proofs.YtgmghopcppniaaaGreatDoor
