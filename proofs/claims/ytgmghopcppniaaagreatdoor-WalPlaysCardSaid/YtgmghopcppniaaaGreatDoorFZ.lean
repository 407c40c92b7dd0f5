/- Texts as bytes; how the machine joins bits (chapters 3 and 4). -/
import Derived.Test.YtgmghopcppniaaaGreatDoorFA
import Derived.Test.YtgmghopcppniaaaGreatDoorProg
import Derived.Test.YtgmghopcppniaaaGreatDoorFB
import Derived.Deep.QuietTactic
import Derived.BigQuiet
import Derived.WalkLawsBesides
import Derived.IntWalk
import Derived.Deep.LoopGhost
import Derived.Lib.VarintBits
import Derived.Lib.Strings
namespace Go.Proofs.YtgmghopcppniaaaGreatDoor
open Go.RowKit Go.Lib

def bs (l : List UInt8) : ByteArray := ⟨l.toArray⟩
theorem bs_of (s : ByteArray) : ∃ l, s = bs l := ⟨s.data.toList, rfl⟩
theorem bs_data (l : List UInt8) : (bs l).data.toList = l := rfl
theorem bs_inj {a b : List UInt8} (h : bs a = bs b) : a = b := by rw [← bs_data a, h, bs_data]
theorem bs_size (l : List UInt8) : (bs l).size = l.length := rfl
theorem bs_append (a b : List UInt8) : bs a ++ bs b = bs (a ++ b) := by
 apply ByteArray.ext; apply Array.ext'; simp [bs]
theorem bs_toList (l : List UInt8) : (bs l).toList = l := by rw [Lib.toList_data]; rfl
theorem bs_at (l : List UInt8) (q : Nat) (h : q < (bs l).size) : (bs l)[q] = l.getD q 0 := by
 have h2 : q < l.length := h
 rw [List.getD_eq_getElem?_getD, List.getElem?_eq_getElem h2]
 rfl
theorem bs_mid (l : List UInt8) (i j : Nat) : (bs l).extract i j = bs ((l.take j).drop i) := by
 rw [extract_eq, List.drop_take]; rfl
theorem sum_at (w : World) {a b c : Str} (h : a ++ b = c) (hl : c.length ≤ 100000000) : (Op.stringOp .add (bs a) (bs b)).run Tryz.prog w = .ok (.string (bs c)) w := by
 rw [← h, ← bs_append]
 refine run_string_add_sum w _ _ ?_
 rw [← h, List.length_append] at hl
 rw [bs_size, bs_size]; omega

/-! ### bits -/
theorem xor_u32 (a b : Nat) (ha : a < 4294967296) (hb : b < 4294967296) : bits .xor .u32 (a : Int) (b : Int) = ((a ^^^ b : Nat) : Int) := by
 have hx : a ^^^ b < 2 ^ 32 := Nat.xor_lt_two_pow (by omega) (by omega)
 have h1 : (BitVec.ofInt 32 (a : Int)).toNat = a := by
  rw [BitVec.ofInt_natCast, BitVec.toNat_ofNat]; exact Nat.mod_eq_of_lt (by omega)
 have h2 : (BitVec.ofInt 32 (b : Int)).toNat = b := by
  rw [BitVec.ofInt_natCast, BitVec.toNat_ofNat]; exact Nat.mod_eq_of_lt (by omega)
 show IntKind.u32.wrap ((BitVec.ofInt 32 (a : Int) ^^^ BitVec.ofInt 32 (b : Int)).toNat : Int) = _
 rw [BitVec.toNat_xor, h1, h2, IntKind.wrap_u32]
 omega
theorem and1_u32 (a : Nat) (ha : a < 4294967296) : bits .and .u32 (a : Int) 1 = ((a % 2 : Nat) : Int) := by
 have h1 : (BitVec.ofInt 32 (a : Int)).toNat = a := by
  rw [BitVec.ofInt_natCast, BitVec.toNat_ofNat]; exact Nat.mod_eq_of_lt (by omega)
 show IntKind.u32.wrap ((BitVec.ofInt 32 (a : Int) &&& BitVec.ofInt 32 1).toNat : Int) = _
 rw [BitVec.toNat_and, h1, show (BitVec.ofInt 32 1).toNat = 1 from rfl, Nat.and_one_is_mod, IntKind.wrap_u32]
 omega
/-- one turn of the sum -/
theorem crc_odd {c : Nat} (h : c % 2 = 1) : crcB c = (c / 2) ^^^ 2197175160 := by unfold crcB; rw [if_pos h]
theorem crc_even {c : Nat} (h : c % 2 = 0) : crcB c = c / 2 := by unfold crcB; rw [if_neg (by omega)]
end Go.Proofs.YtgmghopcppniaaaGreatDoor
