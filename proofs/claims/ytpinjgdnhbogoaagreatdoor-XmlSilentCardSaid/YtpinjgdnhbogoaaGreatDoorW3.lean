/- strconv.ParseUint at base 16 and 32 bits. -/
import Derived.Test.YtpinjgdnhbogoaaGreatDoorW2
import Derived.Test.YtpinjgdnhbogoaaGreatDoorShelf
import Derived.Lib.ConvBytes
import Derived.Lib.AtoiErrMem
import Derived.Laws.Strings3
import Derived.Laws.Closers25
import Derived.Laws.Closers25b
import Derived.BigCall
import Derived.BigGuard
namespace Go.Proofs.YtpinjgdnhbogoaaGreatDoor
open Go.RowKit Go.Lib

inductive NumE where
  | ok (n : Nat)
  | bad
  | over
def parU : Nat → Str → NumE
  | acc, [] => .ok acc
  | acc, c :: r => if digV c < 16 then (if 4294967295 < acc * 16 + digV c then .over else parU (acc * 16 + digV c) r) else .bad
def lowN (n : Nat) : Nat := if 65 ≤ n ∧ n ≤ 90 then n + 32 else if (64 ≤ n ∧ n ≤ 95) ∨ (192 ≤ n ∧ n ≤ 223) ∨ (0 ≤ n ∧ n ≤ 31) ∨ (128 ≤ n ∧ n ≤ 159) then n + 32 else n
theorem low_n : ∀ n : Fin 256, bits .or .u8 (n.val : Int) 32 = ((lowN n.val : Nat) : Int) := by decide +kernel
theorem low_facts : ∀ n : Fin 256, ((97 ≤ lowN n.val ∧ lowN n.val ≤ 122) ↔ ((97 ≤ n.val ∧ n.val ≤ 122) ∨ (65 ≤ n.val ∧ n.val ≤ 90))) ∧ (97 ≤ n.val ∧ n.val ≤ 122 → lowN n.val = n.val) ∧ (65 ≤ n.val ∧ n.val ≤ 90 → lowN n.val = n.val + 32) ∧ lowN n.val < 256 := by decide +kernel
theorem lower_h {w : World} (c : UInt8) : Calls Tryz.prog 180 #[.int .u8 (c.toNat : Int)] w fun e w' => e = .returned (.int .u8 ((lowN c.toNat : Nat) : Int)) ∧ w = w' := by
  have h := low_n ⟨c.toNat, c.toNat_lt⟩
  have H := Lib.hid h
  clear h
  go_enter Tryz.func180, Tryz.ntmps180
  go_wp2
  go_ret
  exact ⟨by rw [H.out] <;> rfl, rfl⟩
def NumE.tuple : NumE → Value
  | .ok n => .tuple #[.int .u64 n, .nilIface]
  | .bad => .tuple #[.int .u64 0, .iface 232 (.int .i64 2)]
  | .over => .tuple #[.int .u64 4294967295, .iface 232 (.int .i64 1)]
set_option maxHeartbeats 32000000 in
set_option maxRecDepth 100000 in
theorem iparse_h (t : ByteArray) (hne : t.size ≠ 0) (hmax : t.size ≤ 9223372036854775806) (w : World) :
    Calls Tryz.prog 163 #[.string t, .int .i64 16, .int .i64 32] w fun e w' => e = .returned (parU 0 t.data.toList).tuple ∧ w' = Lib.bytesWorld w 5 t := by
  have hemp : t.toList.isEmpty = false := by
    rw [← decide_eq_emptyBytes]
    exact decide_eq_false (fun h => hne (by rw [h]; rfl))
  have hcv := Lib.run_convert_string_bytes (P := Tryz.prog) w 9 113 5 t (u := .string) Tryz.underlying9 Tryz.underlying113 Tryz.underlying5
  have hB : ∀ j, j < t.size → (Lib.bytesWorld w 5 t).cell? ⟨w.heap.size, j, none⟩ = some (.int .u8 (t.data.toList.getD j 0).toNat) := fun j hj => Lib.bytesWorld_cell w 5 t j hj
  obtain ⟨W1, hW1⟩ : ∃ W1, W1 = Lib.bytesWorld w 5 t := ⟨_, rfl⟩
  rw [← hW1] at hcv hB ⊢
  clear hW1
  obtain ⟨bs, hL⟩ : ∃ bs, bs = t.data.toList := ⟨_, rfl⟩
  have hLn : bs.length = t.size := by rw [hL, Lib.size_eq]
  rw [← hL] at hB ⊢
  clear hL
  have hmv : IntKind.u64.wrap (IntKind.u64.wrap 4294967296 - 1) = 4294967295 := by
    rw [IntKind.wrap_u64, IntKind.wrap_u64]
    decide
  go_enter Tryz.func163, Tryz.ntmps163
  go_wp2
  go_loop [12, 13, 101] (fun vu vn vi => ∃ (k acc : Nat) (a : Int), vu = .bool false ∧ vn = .int .u64 a ∧ vi = .int .i64 k ∧ k ≤ t.size ∧ Hid (a = (acc : Int) ∧ acc ≤ 4294967295 ∧ parU 0 bs = parU acc (bs.drop k)))
    (fun _ _ vi => t.size - (intOf vi).toNat)
  case atStart => exact ⟨0, 0, 0, rfl, rfl, rfl, by omega, rfl, by omega, rfl⟩
  case round =>
    obtain ⟨k, acc, a, rfl, rfl, rfl, hk, hh⟩ := hrel
    obtain ⟨ha, hacc, hdec⟩ := hh.out
    clear hh
    have a0 : 0 ≤ a := by omega
    have a1 : a ≤ 4294967295 := by omega
    by_cases hkn : k < t.size
    · have hc := hB k hkn
      have hdrop : bs.drop k = bs[k]'(by omega) :: bs.drop (k + 1) := List.drop_eq_getElem_cons (by omega)
      have hget : bs.getD k 0 = bs[k]'(by omega) := by simp [List.getD, List.getElem?_eq_getElem (show k < bs.length by omega)]
      rw [hdrop] at hdec
      rw [hget] at hc
      generalize bs[k]'(by omega) = c at hc hdec
      have hc256 : c.toNat < 256 := c.toNat_lt
      have HLOW := Lib.hid (fun (W : World) => lower_h (w := W) c)
      clear hB hdrop hget
      obtain ⟨n, hn⟩ : ∃ n, c.toNat = n := ⟨_, rfl⟩
      obtain ⟨x, hx⟩ : ∃ x, lowN n = x := ⟨_, rfl⟩
      have hdv : digV c = (if 48 ≤ n ∧ n ≤ 57 then n - 48 else if 97 ≤ n ∧ n ≤ 122 then n - 87 else if 65 ≤ n ∧ n ≤ 90 then n - 55 else 99) := by unfold digV; rw [hn]
      rw [hn] at hc hc256 HLOW
      rw [hx] at HLOW
      obtain ⟨hx3, hx4, hx5, hx0⟩ : ((97 ≤ x ∧ x ≤ 122) ↔ ((97 ≤ n ∧ n ≤ 122) ∨ (65 ≤ n ∧ n ≤ 90))) ∧ (97 ≤ n ∧ n ≤ 122 → x = n) ∧ (65 ≤ n ∧ n ≤ 90 → x = n + 32) ∧ x < 256 := by
        rw [← hx]; exact low_facts ⟨n, hc256⟩
      clear hn hx
      by_cases hdig : 48 ≤ n ∧ n ≤ 57
      · have hd : digV c = n - 48 := by rw [hdv, if_pos hdig]
        have hd0 := hdig.1
        have hd1 := hdig.2
        have h95 : ((n : Int) == 95) = false := by rw [beq_eq_false_iff_ne]; omega
        clear hx3 hx4 hx5 hdig hx0
        · by_cases hov : 4294967295 < acc * 16 + (n - 48)
          · have hF : parU acc (c :: bs.drop (k + 1)) = .over := by rw [parU, if_pos (by omega), if_pos (by omega)]
            rw [hF] at hdec
            have HD := Lib.hid hdec
            have iov : 4294967295 < a * 16 + ((n : Int) - 48) := by omega
            have icut : a < 1152921504606846976 := by omega
            clear hacc hF hov ha hdec hdv
            go_wp2_with (go_at_call 180; refine (HLOW.out _).mono ?_; rintro e w' ⟨rfl, rfl⟩)
            go_ret2
            exact ⟨by rw [HD.out]; rfl, rfl⟩
          · have hF : parU acc (c :: bs.drop (k + 1)) = parU (acc * 16 + (n - 48)) (bs.drop (k + 1)) := by rw [parU, if_pos (by omega), if_neg (by omega), show digV c = (n - 48) by omega]
            have HN : Hid (a * 16 + ((n : Int) - 48) = ((acc * 16 + (n - 48) : Nat) : Int) ∧ acc * 16 + (n - 48) ≤ 4294967295 ∧ parU 0 bs = parU (acc * 16 + (n - 48)) (bs.drop (k + 1))) := Lib.hid ⟨by omega, by omega, hdec.trans hF⟩
            have iov : a * 16 + ((n : Int) - 48) ≤ 4294967295 := by omega
            have icut : a < 1152921504606846976 := by omega
            clear hacc hF hov hdec ha hdv
            go_wp2_with (go_at_call 180; refine (HLOW.out _).mono ?_; rintro e w' ⟨rfl, rfl⟩)
            refine ⟨⟨k + 1, acc * 16 + (n - 48), a * 16 + ((n : Int) - 48), rfl, (by first | rfl | (congr 1; omega)), (by first | rfl | (congr 1; omega)), by omega, HN⟩, by simp [intOf]; omega⟩
      · by_cases hhex : 97 ≤ x ∧ x ≤ 102
        · have hd : digV c = x - 87 := by
            rw [hdv, if_neg hdig]
            rcases hx3.1 ⟨hhex.1, by omega⟩ with h | h
            · rw [if_pos h, hx4 h]
            · rw [if_neg (by omega), if_pos h, hx5 h]; omega
          have hnd : decide ((48 : Int) ≤ (n : Int)) = false ∨ (decide ((48 : Int) ≤ (n : Int)) = true ∧ decide ((n : Int) ≤ 57) = false) := by
            by_cases h : 48 ≤ n
            · right; exact ⟨by rw [decide_eq_true_iff]; omega, by rw [decide_eq_false_iff_not]; omega⟩
            · left; rw [decide_eq_false_iff_not]; omega
          have h95 : ((n : Int) == 95) = false := by
            rw [beq_eq_false_iff_ne]
            rcases hx3.1 ⟨hhex.1, by omega⟩ with h | h <;> omega
          have hd0 := hhex.1
          have hd1 := hhex.2
          have hn57 : 57 < n := by rcases hx3.1 ⟨hhex.1, by omega⟩ with h | h <;> omega
          clear hx3 hx4 hx5 hdig hhex hnd hx0
          by_cases hov : 4294967295 < acc * 16 + (x - 87)
          · have hF : parU acc (c :: bs.drop (k + 1)) = .over := by rw [parU, if_pos (by omega), if_pos (by omega)]
            rw [hF] at hdec
            have HD := Lib.hid hdec
            have iov : 4294967295 < a * 16 + ((x : Int) - 87) := by omega
            have icut : a < 1152921504606846976 := by omega
            clear hacc hF hov ha hdec hdv
            go_wp2_with (go_at_call 180; refine (HLOW.out _).mono ?_; rintro e w' ⟨rfl, rfl⟩)
            go_ret2
            exact ⟨by rw [HD.out]; rfl, rfl⟩
          · have hF : parU acc (c :: bs.drop (k + 1)) = parU (acc * 16 + (x - 87)) (bs.drop (k + 1)) := by rw [parU, if_pos (by omega), if_neg (by omega), show digV c = (x - 87) by omega]
            have HN : Hid (a * 16 + ((x : Int) - 87) = ((acc * 16 + (x - 87) : Nat) : Int) ∧ acc * 16 + (x - 87) ≤ 4294967295 ∧ parU 0 bs = parU (acc * 16 + (x - 87)) (bs.drop (k + 1))) := Lib.hid ⟨by omega, by omega, hdec.trans hF⟩
            have iov : a * 16 + ((x : Int) - 87) ≤ 4294967295 := by omega
            have icut : a < 1152921504606846976 := by omega
            clear hacc hF hov hdec ha hdv
            go_wp2_with (go_at_call 180; refine (HLOW.out _).mono ?_; rintro e w' ⟨rfl, rfl⟩)
            refine ⟨⟨k + 1, acc * 16 + (x - 87), a * 16 + ((x : Int) - 87), rfl, (by first | rfl | (congr 1; omega)), (by first | rfl | (congr 1; omega)), by omega, HN⟩, by simp [intOf]; omega⟩
        · have hF : parU acc (c :: bs.drop (k + 1)) = .bad := by
            rw [parU, if_neg]
            rw [hdv, if_neg hdig]
            intro h
            by_cases h1 : 97 ≤ n ∧ n ≤ 122
            · have := hx4 h1; rw [if_pos h1] at h; omega
            · rw [if_neg h1] at h
              by_cases h2 : 65 ≤ n ∧ n ≤ 90
              · have := hx5 h2; rw [if_pos h2] at h; omega
              · rw [if_neg h2] at h; omega
          rw [hF] at hdec
          have HD := Lib.hid hdec
          clear hF hdec hdv hacc ha
          have hcl : (n < 48 ∨ 57 < n) := by omega
          have hcx : x < 97 ∨ (102 < x ∧ x ≤ 122) ∨ 122 < x := by omega
          have h95 : ((n : Int) == 95) = true ∨ ((n : Int) == 95) = false := by cases ((n : Int) == 95) <;> simp
          clear hx3 hx4 hx5 hdig hhex
          rcases hcl with hcl | hcl <;> rcases hcx with hcx | hcx | hcx <;> rcases h95 with h95 | h95
          all_goals
            first
            | (exfalso; have := beq_iff_eq.1 h95; omega)
            | skip
          all_goals
            go_wp2_with (go_at_call 180; refine (HLOW.out _).mono ?_; rintro e w' ⟨rfl, rfl⟩)
            go_ret2
            exact ⟨by rw [HD.out]; rfl, rfl⟩
    · have hkk : k = t.size := by omega
      subst hkk
      have hF : parU acc (bs.drop t.size) = .ok acc := by rw [List.drop_eq_nil_of_le (by omega)]; rfl
      rw [hF] at hdec
      subst ha
      clear hacc hF a0 a1
      go_wp2
      go_ret2
      exact ⟨rfl, rfl⟩
end Go.Proofs.YtpinjgdnhbogoaaGreatDoor
