/- The reference's numbers, sum, four bytes: walked. -/
import Derived.Test.YtgmghopcppniaaaGreatDoorS5
namespace Go.Proofs.YtgmghopcppniaaaGreatDoor
open Go.RowKit Go.Lib

set_option maxRecDepth 100000 in
set_option maxHeartbeats 4000000 in
theorem rnat_h {w : World} {n : Int} (hn : I64 n) : Calls Tryz.prog 153 #[.int .i64 n] w fun e w' => e = .returned (.int .u64 ((zig n : Nat) : Int)) ∧ w = w' := by
  obtain ⟨h1, h2⟩ := hn
  by_cases h : 0 ≤ n
  · have hw1 : IntKind.u64.wrap n = n := by rw [IntKind.wrap_u64]; omega
    have hw2 : IntKind.u64.wrap (2 * n) = 2 * n := by rw [IntKind.wrap_u64]; omega
    have HZ := Lib.hid (show ((zig n : Nat) : Int) = 2 * n by unfold zig; rw [if_pos h]; omega)
    go_enter Tryz.func153, Tryz.ntmps153
    go_wp2_with fail
    go_ret
    exact ⟨by rw [HZ.out] <;> rfl, rfl⟩
  · have hw0 : IntKind.i64.wrap (n + 1) = n + 1 := IntWalk.i64_in _ (by omega)
    have hw1 : IntKind.i64.wrap (-(n + 1)) = -(n + 1) := IntWalk.i64_in _ (by omega)
    have hw2 : IntKind.u64.wrap (-(n + 1)) = -(n + 1) := by rw [IntKind.wrap_u64]; omega
    have hw3 : IntKind.u64.wrap (2 * -(n + 1)) = 2 * -(n + 1) := by rw [IntKind.wrap_u64]; omega
    have hw4 : IntKind.u64.wrap (2 * -(n + 1) + 1) = 2 * -(n + 1) + 1 := by rw [IntKind.wrap_u64]; omega
    have HZ := Lib.hid (show ((zig n : Nat) : Int) = 2 * -(n + 1) + 1 by unfold zig; rw [if_neg h]; omega)
    go_enter Tryz.func153, Tryz.ntmps153
    go_wp2_with fail
    go_ret
    exact ⟨by rw [HZ.out] <;> rfl, rfl⟩
set_option maxRecDepth 100000 in
set_option maxHeartbeats 4000000 in
theorem rfour_h {w : World} (v : Nat) (_hv : v < 4294967296) : Calls Tryz.prog 151 #[.int .u32 (v : Int)] w fun e w' => e = .returned (.string (bs (fourL v))) ∧ Fr (fun _ => False) w w' := by
  have hcv : Sem.run Tryz.prog (convert 33 9 (.slice (some ⟨w.heap.size, 0, none⟩) 4 4)) (w.alloc (.cells #[.int .u8 ((v : Int) / 16777216 % 256), .int .u8 ((v : Int) / 65536 % 256), .int .u8 ((v : Int) / 256 % 256), .int .u8 ((v : Int) % 256)] 5)) = .ok (.string (bs (fourL v))) (w.alloc (.cells #[.int .u8 ((v : Int) / 16777216 % 256), .int .u8 ((v : Int) / 65536 % 256), .int .u8 ((v : Int) / 256 % 256), .int .u8 ((v : Int) % 256)] 5)) := by
    have f0 := u8_at (v / 16777216) ((v : Int) / 16777216) (by omega)
    have f1 := u8_at (v / 65536) ((v : Int) / 65536) (by omega)
    have f2 := u8_at (v / 256) ((v : Int) / 256) (by omega)
    have f3 := u8_at v (v : Int) rfl
    rw [f0, f1, f2, f3]
    exact run_convert_bytes_back _ 33 9 5 ⟨w.heap.size, 0, none⟩ 4 (fourL v) Tryz.underlying33 Tryz.underlying5 Tryz.underlying9 fun j hj => by
      rw [Addr.add_lit, Nat.zero_add]
      refine cell_of (block_new w _) ?_
      match j, hj with
      | 0, _ => rfl
      | 1, _ => rfl
      | 2, _ => rfl
      | 3, _ => rfl
      | k + 4, hj => exact absurd (show k + 4 < 4 from hj) (by omega)
  clear _hv
  go_enter Tryz.func151, Tryz.ntmps151
  go_wp2_with fail
  go_ret
  exact ⟨rfl, (Fr.refl _ _).alloc _⟩
set_option maxRecDepth 100000 in
set_option maxHeartbeats 8000000 in
theorem rcrc_h {w : World} (s : Str) (hs : s.length ≤ 1000000) : Calls Tryz.prog 152 #[.string (bs s)] w fun e w' => e = .returned (.int .u32 ((crcL s : Nat) : Int)) ∧ w = w' := by
  have hsz : (bs s).size = s.length := rfl
  go_enter Tryz.func152, Tryz.ntmps152
  go_wp2_with fail
  go_loopg [3, 4] s.length (fun j v3 v4 wr => (∃ i : Nat, i + j = s.length ∧ v3 = .int .u32 ((sumL 4294967295 (s.take i) : Nat) : Int) ∧ v4 = .int .i64 i) ∧ w = wr)
  case atStart => exact ⟨⟨0, by omega, rfl, rfl⟩, rfl⟩
  case round =>
    obtain ⟨⟨i, hi, rfl, rfl⟩, rfl⟩ := hrel
    have hc0 : (4294967295 : Nat) < 4294967296 := by decide
    by_cases hlt : i < s.length
    · have hz : i < (bs s).size := hlt
      have hg := bs_at s i hz
      have hlt2 := sum_lt (s.take i) hc0
      have hsn := sum_snoc (c := 4294967295) (s := s) (k := i) (b := s.getD i 0) (by rw [List.getD_eq_getElem?_getD, List.getElem?_eq_getElem hlt]; rfl)
      obtain ⟨b, hb⟩ : ∃ b, s.getD i 0 = b := ⟨_, rfl⟩
      rw [hb] at hg hsn
      obtain ⟨c, hc⟩ : ∃ c, sumL 4294967295 (s.take i) = c := ⟨_, rfl⟩
      rw [hc] at hsn hlt2 ⊢
      have hbl := b.toNat_lt
      have hx := xor_u32 c b.toNat hlt2 (by omega)
      have hxl : c ^^^ b.toNat < 4294967296 := Nat.xor_lt_two_pow (n := 32) hlt2 (by omega)
      have HN := Lib.hid (And.intro hsn hi)
      obtain ⟨x, hxe⟩ : ∃ x, c ^^^ b.toNat = x := ⟨_, rfl⟩
      rw [hxe] at hx hxl HN
      clear hsn hi hb hc hxe hlt2 hc0
      go_wp2_with fail
      go_loopg [3, 5] 8 (fun j v3 v5 wr => (∃ k : Nat, k + j = 8 ∧ v3 = .int .u32 ((crcN k x : Nat) : Int) ∧ v5 = .int .i64 k) ∧ w = wr)
      case atStart => exact ⟨⟨0, by omega, rfl, rfl⟩, rfl⟩
      case round =>
        obtain ⟨⟨k, hk, rfl, rfl⟩, rfl⟩ := hrel
        by_cases hk8 : k < 8
        · have hcl := crcN_lt k hxl
          have hcs := crcN_snoc k x
          obtain ⟨y, hy⟩ : ∃ y, crcN k x = y := ⟨_, rfl⟩
          rw [hy] at hcl hcs ⊢
          have HK := Lib.hid (And.intro hk hcs)
          clear hk hcs hy
          rcases Nat.mod_two_eq_zero_or_one y with h2 | h2
          · have HE := Lib.hid (crc_even h2)
            have h3 : (y : Int) % 2 = 0 := by omega
            clear h2
            go_wp2_with fail
            go_roundg (8 - (k + 1))
            case measure => have := HK.out.1; omega
            case rel =>
              refine ⟨⟨k + 1, by have := HK.out.1; omega, ?_, by go_num⟩, rfl⟩
              rw [HK.out.2, HE.out]
              rfl
          · have HE := Lib.hid (crc_odd h2)
            have h3 : (y : Int) % 2 = 1 := by omega
            have HX := Lib.hid (xor_u32 (y / 2) 2197175160 (by omega) (by decide))
            clear h2
            go_wp2_with fail
            go_roundg (8 - (k + 1))
            case measure => have := HK.out.1; omega
            case rel =>
              refine ⟨⟨k + 1, by have := HK.out.1; omega, ?_, by go_num⟩, rfl⟩
              rw [HK.out.2, HE.out, ← HX.out]
              rfl
        · obtain rfl : k = 8 := by omega
          clear hk hk8
          go_wp2_with fail
          go_roundg (s.length - (i + 1))
          case measure => have := HN.out.2; omega
          case rel => exact ⟨⟨i + 1, by have := HN.out.2; omega, by rw [HN.out.1], by go_num⟩, rfl⟩
    · obtain rfl : i = s.length := by omega
      rw [List.take_length]
      have HX := Lib.hid (show bits .xor .u32 ((sumL 4294967295 s : Nat) : Int) 4294967295 = ((crcL s : Nat) : Int) by
        have h1 := xor_u32 (sumL 4294967295 s) 4294967295 (sum_lt s hc0) (by decide)
        rw [show ((4294967295 : Nat) : Int) = 4294967295 from rfl] at h1
        rw [h1]; unfold crcL; rw [Nat.xor_comm])
      clear hi hlt hc0
      generalize sumL 4294967295 s = q at *
      go_wp2_with fail
      go_ret
      exact ⟨by rw [← HX.out] <;> rfl, rfl⟩
end Go.Proofs.YtgmghopcppniaaaGreatDoor
