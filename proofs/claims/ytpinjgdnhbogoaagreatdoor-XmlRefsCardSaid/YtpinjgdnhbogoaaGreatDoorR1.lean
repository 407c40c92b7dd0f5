/- decimal, hex, value. -/
import Derived.Test.YtpinjgdnhbogoaaGreatDoorG2
namespace Go.Proofs.YtpinjgdnhbogoaaGreatDoor
open Go.RowKit Go.Lib

def decT : Str := [48, 49, 50, 51, 52, 53, 54, 55, 56, 57]
def hexT : Str := [48, 49, 50, 51, 52, 53, 54, 55, 56, 57, 97, 98, 99, 100, 101, 102]
theorem dec_cut : ∀ n, n < 10 → (bs decT).extract n (n + 1) = bs [decC n] := by decide +kernel
theorem hex_cut : ∀ n, n < 16 → (bs hexT).extract n (n + 1) = bs [hexC n] := by decide +kernel
theorem digF_small {base : Nat} {d : Nat → UInt8} {n : Nat} (h : n < base) : ∀ k, digF base d k n = [d n]
  | 0 => rfl
  | k + 1 => by rw [digF, if_pos h]
theorem digF_len8 {base : Nat} {d : Nat → UInt8} : ∀ (k n : Nat), (digF base d k n).length ≤ k + 1
  | 0, _ => by simp [digF]
  | k + 1, n => by
    rw [digF]
    split
    · simp
    · rw [List.length_append]; have := digF_len8 (base := base) (d := d) k (n / base); simp; omega
set_option maxHeartbeats 4000000 in
theorem decimal_h : ∀ (k n : Nat) {w : World}, k ≤ 7 → n < 10 ^ (k + 1) → Calls Tryz.prog 40 #[.int .i64 (n : Int)] w fun e w' => e = .returned (.string (bs (digF 10 decC k n))) ∧ w = w' := by
  intro k
  induction k with
  | zero =>
    intro n w hk hn
    have hlt : (n : Int) < 10 := by omega
    have HR := Lib.hid (dec_cut n (by omega))
    have hx : (⟨#[48, 49, 50, 51, 52, 53, 54, 55, 56, 57]⟩ : ByteArray).extract n (n + 1) = bs [decC n] := HR.out
    clear hn
    go_enter Tryz.func40, Tryz.ntmps40
    go_wp2_with fail
    go_ret
    exact ⟨rfl, rfl⟩
  | succ k ih =>
    intro n w hk hn
    by_cases hs : n < 10
    · have hlt : (n : Int) < 10 := by omega
      have HR := Lib.hid (dec_cut n (by omega))
      have hx : (⟨#[48, 49, 50, 51, 52, 53, 54, 55, 56, 57]⟩ : ByteArray).extract n (n + 1) = bs [decC n] := HR.out
      rw [digF_small hs]
      clear hn
      go_enter Tryz.func40, Tryz.ntmps40
      go_wp2_with fail
      go_ret
      exact ⟨rfl, rfl⟩
    · have hp : 10 ^ (k + 1 + 1) = 10 ^ (k + 1) * 10 := Nat.pow_succ _ _
      obtain ⟨m, hm⟩ : ∃ m, n / 10 = m := ⟨_, rfl⟩
      obtain ⟨r, hr⟩ : ∃ r, n % 10 = r := ⟨_, rfl⟩
      have hn8 : n < 10 ^ 9 := Nat.lt_of_lt_of_le hn (Nat.pow_le_pow_right (by decide) (by omega))
      have H1 := Lib.hid (ih m (w := w) (by omega) (by rw [← hm]; omega))
      have H2 := Lib.hid (ih r (w := w) (by omega) (by rw [← hr]; exact Nat.lt_of_lt_of_le (Nat.mod_lt _ (by decide)) (by have := Nat.pow_le_pow_right (n := 10) (by decide) (show 1 ≤ k + 1 by omega); simpa using this)))
      have hD : digF 10 decC (k + 1) n = digF 10 decC k m ++ digF 10 decC k r := by
        rw [digF, if_neg hs, hm, hr, digF_small (show r < 10 by rw [← hr]; exact Nat.mod_lt _ (by decide))]
      have HD := Lib.hid hD
      have q1 : (n : Int) / 10 = (m : Int) := by omega
      have q2 : (n : Int) % 10 = (r : Int) := by omega
      have q3 : (n : Int).tdiv 10 = (m : Int) := by rw [Int.tdiv_eq_ediv_of_nonneg (by omega)]; exact q1
      have q4 : (n : Int).tmod 10 = (r : Int) := by rw [Int.tmod_eq_emod_of_nonneg (by omega)]; exact q2
      have hge : ¬ (n : Int) < 10 := by omega
      have z1 : (bs (digF 10 decC k m)).size = (digF 10 decC k m).length := rfl
      have z2 : (bs (digF 10 decC k r)).size = (digF 10 decC k r).length := rfl
      have l1 := digF_len8 (base := 10) (d := decC) k m
      have l2 := digF_len8 (base := 10) (d := decC) k r
      have hn9 : n < 1000000000 := by simpa using hn8
      clear hD hn hp hs hm hr hn8 ih
      go_enter Tryz.func40, Tryz.ntmps40
      go_wp2_with fail
      refine Calls.mono H1.out ?_
      rintro e w1 ⟨rfl, rfl⟩
      go_wp2_with fail
      refine Calls.mono H2.out ?_
      rintro e w1 ⟨rfl, rfl⟩
      go_wp2_with fail
      go_ret
      exact ⟨by rw [HD.out, ← bs_append] <;> rfl, rfl⟩
set_option maxHeartbeats 4000000 in
theorem hex_h : ∀ (k n : Nat) {w : World}, k ≤ 7 → n < 16 ^ (k + 1) → Calls Tryz.prog 41 #[.int .i64 (n : Int)] w fun e w' => e = .returned (.string (bs (digF 16 hexC k n))) ∧ w = w' := by
  intro k
  induction k with
  | zero =>
    intro n w hk hn
    have hlt : (n : Int) < 16 := by omega
    have HR := Lib.hid (hex_cut n (by omega))
    have hx : (⟨#[48, 49, 50, 51, 52, 53, 54, 55, 56, 57, 97, 98, 99, 100, 101, 102]⟩ : ByteArray).extract n (n + 1) = bs [hexC n] := HR.out
    clear hn
    go_enter Tryz.func41, Tryz.ntmps41
    go_wp2_with fail
    go_ret
    exact ⟨rfl, rfl⟩
  | succ k ih =>
    intro n w hk hn
    by_cases hs : n < 16
    · have hlt : (n : Int) < 16 := by omega
      have HR := Lib.hid (hex_cut n (by omega))
      have hx : (⟨#[48, 49, 50, 51, 52, 53, 54, 55, 56, 57, 97, 98, 99, 100, 101, 102]⟩ : ByteArray).extract n (n + 1) = bs [hexC n] := HR.out
      rw [digF_small hs]
      clear hn
      go_enter Tryz.func41, Tryz.ntmps41
      go_wp2_with fail
      go_ret
      exact ⟨rfl, rfl⟩
    · have hp : 16 ^ (k + 1 + 1) = 16 ^ (k + 1) * 16 := Nat.pow_succ _ _
      obtain ⟨m, hm⟩ : ∃ m, n / 16 = m := ⟨_, rfl⟩
      obtain ⟨r, hr⟩ : ∃ r, n % 16 = r := ⟨_, rfl⟩
      have hn8 : n < 16 ^ 8 := Nat.lt_of_lt_of_le hn (Nat.pow_le_pow_right (by decide) (by omega))
      have H1 := Lib.hid (ih m (w := w) (by omega) (by rw [← hm]; omega))
      have H2 := Lib.hid (ih r (w := w) (by omega) (by rw [← hr]; exact Nat.lt_of_lt_of_le (Nat.mod_lt _ (by decide)) (by have := Nat.pow_le_pow_right (n := 16) (by decide) (show 1 ≤ k + 1 by omega); simpa using this)))
      have hD : digF 16 hexC (k + 1) n = digF 16 hexC k m ++ digF 16 hexC k r := by
        rw [digF, if_neg hs, hm, hr, digF_small (show r < 16 by rw [← hr]; exact Nat.mod_lt _ (by decide))]
      have HD := Lib.hid hD
      have q1 : (n : Int) / 16 = (m : Int) := by omega
      have q2 : (n : Int) % 16 = (r : Int) := by omega
      have q3 : (n : Int).tdiv 16 = (m : Int) := by rw [Int.tdiv_eq_ediv_of_nonneg (by omega)]; exact q1
      have q4 : (n : Int).tmod 16 = (r : Int) := by rw [Int.tmod_eq_emod_of_nonneg (by omega)]; exact q2
      have hge : ¬ (n : Int) < 16 := by omega
      have z1 : (bs (digF 16 hexC k m)).size = (digF 16 hexC k m).length := rfl
      have z2 : (bs (digF 16 hexC k r)).size = (digF 16 hexC k r).length := rfl
      have l1 := digF_len8 (base := 16) (d := hexC) k m
      have l2 := digF_len8 (base := 16) (d := hexC) k r
      have hn9 : n < 4294967296 := by simpa using hn8
      clear hD hn hp hs hm hr hn8 ih
      go_enter Tryz.func41, Tryz.ntmps41
      go_wp2_with fail
      refine Calls.mono H1.out ?_
      rintro e w1 ⟨rfl, rfl⟩
      go_wp2_with fail
      refine Calls.mono H2.out ?_
      rintro e w1 ⟨rfl, rfl⟩
      go_wp2_with fail
      go_ret
      exact ⟨by rw [HD.out, ← bs_append] <;> rfl, rfl⟩
theorem valL_snoc {l : Str} (hl : l ≠ []) (c : UInt8) : valL (l ++ [c]) = 64 * valL l + c.toNat % 64 := by
  cases l with
  | nil => exact absurd rfl hl
  | cons a t => unfold valL; simp [List.foldl_append]
theorem valL_one (c : UInt8) : valL [c] = headV c := rfl
theorem headV_le (c : UInt8) : headV c ≤ 255 := by have := c.toNat_lt; unfold headV; split; omega; split; omega; split <;> omega
theorem valL_le : ∀ (l : Str), l.length ≤ 4 → valL l ≤ 100000000
  | [], _ => Nat.zero_le _
  | [a], _ => by have := headV_le a; rw [valL_one]; omega
  | [a, b], _ => by have := headV_le a; unfold valL; simp only [List.foldl_cons, List.foldl_nil]; omega
  | [a, b, c], _ => by have := headV_le a; unfold valL; simp only [List.foldl_cons, List.foldl_nil]; omega
  | [a, b, c, d], _ => by have := headV_le a; unfold valL; simp only [List.foldl_cons, List.foldl_nil]; omega
  | a :: b :: c :: d :: e :: r, h => by simp at h
set_option maxHeartbeats 8000000 in
theorem value_h {w : World} (s : Str) (hs : s.length ≤ 4) (hfirst : (s.getD 0 0).toNat < 128 ∨ 192 ≤ (s.getD 0 0).toNat) : Calls Tryz.prog 42 #[.string (bs s)] w fun e w' => e = .returned (.int .i64 (valL s : Nat)) ∧ w = w' := by
  have hsz : (bs s).size = s.length := rfl
  have HFst := Lib.hid hfirst
  clear hfirst
  go_enter Tryz.func42, Tryz.ntmps42
  go_wp2_with fail
  go_loopg [3, 4] s.length (fun j v3 v4 wr => ∃ i q : Nat, i + j = s.length ∧ v4 = .int .i64 i ∧ v3 = .int .i64 q ∧ Hid (q = valL (s.take i)) ∧ w = wr)
  case atStart => exact ⟨0, 0, by omega, rfl, rfl, rfl, rfl⟩
  case round =>
    obtain ⟨i, q, hi, rfl, rfl, HQ, rfl⟩ := hrel
    by_cases hlt : i < s.length
    · have hz : i < (bs s).size := by rw [hsz]; exact hlt
      have hg := bs_at s i hz
      have htk := take_more s i hlt
      obtain ⟨c, hc⟩ : ∃ c, s.getD i 0 = c := ⟨_, rfl⟩
      rw [hc] at hg htk
      have HTk := Lib.hid htk
      have hlt8 := c.toNat_lt
      obtain ⟨N, hN⟩ : ∃ N, c.toNat = N := ⟨_, rfl⟩
      have hq4 : q ≤ 100000000 := by rw [HQ.out]; exact valL_le _ (by rw [List.length_take]; omega)
      have hlen4 : (s.take i).length = i := by rw [List.length_take]; omega
      have HI := Lib.hid (And.intro hi (And.intro hN hlen4))
      by_cases h0 : 0 < i
      · have e1 : Hid (64 * q + N % 64 = valL (s.take (i + 1))) := by
          rw [HTk.out, valL_snoc (fun e => by rw [e] at hlen4; simp at hlen4; omega), HQ.out, hN]; rfl
        have h0i : (0 : Int) < (i : Int) := by omega
        obtain ⟨r, hr⟩ : ∃ r, N % 64 = r := ⟨_, rfl⟩
        have q1 : (N : Int) % 64 = (r : Int) := by omega
        have q2 : (N : Int).tmod 64 = (r : Int) := by rw [Int.tmod_eq_emod_of_nonneg (by omega)]; exact q1
        have hr64 : r < 64 := by omega
        rw [hN] at hlt8
        have HN := Lib.hid hr
        rw [hr] at e1
        clear hi htk hc hr hlen4
        go_wp2_with fail
        go_roundg (s.length - (i + 1))
        case measure => have := HI.out.1; omega
        case rel => exact ⟨i + 1, 64 * q + r, by have := HI.out.1; omega, by go_num, by first | go_num | (congr 1; omega), e1, rfl⟩
      · have hi0 : i = 0 := by omega
        subst hi0
        have e1 : Hid (headV c = valL (s.take (0 + 1))) := by rw [HTk.out]; rfl
        have hh : headV c = if N < 128 then N else if N < 224 then N - 192 else if N < 240 then N - 224 else N - 240 := by unfold headV; rw [hN]
        rw [hN] at hlt8
        have hfi : N < 128 ∨ 192 ≤ N := by have h := HFst.out; rw [hc, hN] at h; exact h
        clear hi htk hc hlen4
        by_cases c1 : N < 128
        · have c1i : (N : Int) < 128 := by omega
          clear hfi
          rw [if_pos c1] at hh
          have HH := Lib.hid hh
          clear hh
          go_wp2_with fail
          go_roundg (s.length - 1)
          case measure => have := HI.out.1; omega
          case rel => exact ⟨1, N, by have := HI.out.1; omega, by go_num, by go_num, by rw [← HH.out]; exact e1, rfl⟩
        have c192 : 192 ≤ N := by omega
        clear hfi
        by_cases c2 : N < 224
        · have c2i : (N : Int) < 224 := by omega
          have c1i : ¬ (N : Int) < 128 := by omega
          rw [if_neg c1, if_pos c2] at hh
          have HH := Lib.hid hh
          clear hh
          go_wp2_with fail
          go_roundg (s.length - 1)
          case measure => have := HI.out.1; omega
          case rel => exact ⟨1, N - 192, by have := HI.out.1; omega, by go_num, by congr 1; omega, by rw [← HH.out]; exact e1, rfl⟩
        by_cases c3 : N < 240
        · have c3i : (N : Int) < 240 := by omega
          have c2i : ¬ (N : Int) < 224 := by omega
          have c1i : ¬ (N : Int) < 128 := by omega
          rw [if_neg c1, if_neg c2, if_pos c3] at hh
          have HH := Lib.hid hh
          clear hh
          go_wp2_with fail
          go_roundg (s.length - 1)
          case measure => have := HI.out.1; omega
          case rel => exact ⟨1, N - 224, by have := HI.out.1; omega, by go_num, by congr 1; omega, by rw [← HH.out]; exact e1, rfl⟩
        · have c3i : ¬ (N : Int) < 240 := by omega
          have c2i : ¬ (N : Int) < 224 := by omega
          have c1i : ¬ (N : Int) < 128 := by omega
          rw [if_neg c1, if_neg c2, if_neg c3] at hh
          have HH := Lib.hid hh
          clear hh
          go_wp2_with fail
          go_roundg (s.length - 1)
          case measure => have := HI.out.1; omega
          case rel => exact ⟨1, N - 240, by have := HI.out.1; omega, by go_num, by congr 1; omega, by rw [← HH.out]; exact e1, rfl⟩
    · have hi5 : i = s.length := by omega
      subst hi5
      have HV : Hid (q = valL s) := by have h := HQ.out; rw [List.take_length] at h; exact h
      clear HQ hlt hi
      go_wp2_with fail
      go_ret
      exact ⟨by rw [← HV.out] <;> rfl, rfl⟩
end Go.Proofs.YtpinjgdnhbogoaaGreatDoor
