/- natural's two loops, in plain words. -/
import Derived.Test.YtgmghopcppniaaaGreatDoorC3
import Derived.Lib.VarintBits
namespace Go.Proofs.YtgmghopcppniaaaGreatDoor

/-- the first loop, behind j rounds: k is what is still to be counted -/
structure CountAt (v j k : Nat) : Prop where
  k : k = v / 128 ^ (j + 1)
  nz : j = 0 ∨ v / 128 ^ j ≠ 0
  le : j ≤ 9
theorem CountAt.start (v : Nat) : CountAt v 0 (v / 128) := ⟨by rw [Nat.zero_add, Nat.pow_one], Or.inl rfl, by omega⟩
theorem CountAt.lt {v j k : Nat} (h : CountAt v j k) (hv : v < 18446744073709551616) (hk : k ≠ 0) : j < 9 := by
  have h1 := h.le
  rcases Nat.lt_or_ge j 9 with h2 | h2
  · exact h2
  · have : j = 9 := by omega
    subst this
    exact absurd (h.k.trans (Nat.div_eq_of_lt (by omega))) hk
theorem CountAt.step {v j k : Nat} (h : CountAt v j k) (hv : v < 18446744073709551616) (hk : k ≠ 0) : CountAt v (j + 1) (k / 128) :=
  ⟨by rw [h.k, Nat.div_div_eq_div_mul, ← Nat.pow_succ], Or.inr (by rw [← h.k]; exact hk), by have := h.lt hv hk; omega⟩
/-- the second loop, ahead of place j: what was written -/
structure WriteAt (v j : Nat) (o : Str) : Prop where
  o : o = natHi (v / 128 ^ (j + 1))
  nz : j = 0 ∨ v / 128 ^ j ≠ 0
  le : j ≤ 9
theorem CountAt.write {v j : Nat} (h : CountAt v j 0) : WriteAt v j [] := ⟨by rw [← h.k, natHi_zero], h.nz, h.le⟩
theorem WriteAt.step {v j : Nat} {o : Str} (h : WriteAt v (j + 1) o) : WriteAt v j (o ++ [UInt8.ofNat (128 + v / 128 ^ (j + 1) % 128)]) := by
  have hz : v / 128 ^ (j + 1) ≠ 0 := h.nz.resolve_left (Nat.succ_ne_zero j)
  refine ⟨?_, Or.inr fun e => hz ?_, by have := h.le; omega⟩
  · rw [natHi_pos hz, h.o, Nat.div_div_eq_div_mul, ← Nat.pow_succ]
  · rw [Nat.pow_succ, ← Nat.div_div_eq_div_mul, e, Nat.zero_div]
theorem WriteAt.done {v : Nat} {o : Str} (h : WriteAt v 0 o) : o ++ [UInt8.ofNat (v % 128)] = natL v := by
  rw [h.o, Nat.zero_add, Nat.pow_one]; rfl
/-- the values that the walk meets -/
theorem shrn (v j : Nat) (h : j ≤ 9) : Op.shift .shr .u64 (v : Int) .i64 ((7 * j : Nat) : Int) = pure (.int .u64 ((v / 128 ^ j : Nat) : Int)) := by
  rw [shift_shr_u64 _ _ _ (by omega) (by omega), Int.toNat_natCast]
  have e : ((2 : Int) ^ (7 * j)) = ((128 ^ j : Nat) : Int) := by
    rw [show (128 : Nat) ^ j = 2 ^ (7 * j) by rw [Nat.pow_mul], Int.natCast_pow]; rfl
  rw [e, Int.natCast_ediv]
theorem shr7 (v : Nat) : Op.shift .shr .u64 (v : Int) .u64 7 = pure (.int .u64 ((v / 128 : Nat) : Int)) := by
  rw [shift_shr_u64 _ _ _ (by decide) (by decide)]; rfl
theorem or128_all : ∀ x : Fin 256, bits .or .u8 ((x.val : Nat) : Int) 128 = ((128 + x.val % 128 : Nat) : Int) := by decide +kernel
theorem or128 (x : Nat) (h : x < 256) : bits .or .u8 (x : Int) 128 = ((128 + x % 128 : Nat) : Int) := or128_all ⟨x, h⟩
theorem and127 (x : Nat) (h : x < 256) : bits .and .u8 (x : Int) 127 = ((x % 128 : Nat) : Int) := by
  rw [u8_and127 _ (by omega) (by omega)]; rfl
theorem wrap_byte (x : Nat) : IntKind.u8.wrap (x : Int) = ((x % 256 : Nat) : Int) := by rw [IntKind.wrap_u8]; rfl
end Go.Proofs.YtgmghopcppniaaaGreatDoor
