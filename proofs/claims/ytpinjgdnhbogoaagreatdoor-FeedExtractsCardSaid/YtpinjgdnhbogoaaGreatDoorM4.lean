/- strconv.ParseUint at base 16 and 32 bits. -/
import Derived.Test.YtpinjgdnhbogoaaGreatDoorM3
import Derived.Test.YtpinjgdnhbogoaaGreatDoorShelf
import Derived.Lib.ConvBytes
import Derived.Lib.AtoiErrMem
import Derived.Laws.Strings3
import Derived.Laws.Closers25
import Derived.Laws.Closers25b
import Derived.BigCall
import Derived.BigGuard
import Derived.Test.YtpinjgdnhbogoaaGreatDoorXX
namespace Go.Proofs.YtpinjgdnhbogoaaGreatDoor
open Go.RowKit Go.Lib

inductive NumE where
  | ok (n : Nat)
  | bad
  | over
def parU : Nat → Str → NumE
  | acc, [] => .ok acc
  | acc, c :: r => if digV c < 16 then (if 4294967295 < acc * 16 + digV c then .over else parU (acc * 16 + digV c) r) else .bad
def lowN (n : Nat) : Nat := if 65 ≤ n ∧ n ≤ 90 then n + 32 else if (64 ≤ n ∧ n ≤ 95) ∨ (192 ≤ n ∧ n ≤ 223) ∨ (0 ≤ n ∧ n ≤ 31) ∨ (128 ≤ n ∧ n ≤ 159) then n + 32 else n
theorem low_n : ∀ n : Fin 256, bits .or .u8 (n.val : Int) 32 = ((lowN n.val : Nat) : Int) := by decide +kernel
theorem low_facts : ∀ n : Fin 256, ((97 ≤ lowN n.val ∧ lowN n.val ≤ 122) ↔ ((97 ≤ n.val ∧ n.val ≤ 122) ∨ (65 ≤ n.val ∧ n.val ≤ 90))) ∧ (97 ≤ n.val ∧ n.val ≤ 122 → lowN n.val = n.val) ∧ (65 ≤ n.val ∧ n.val ≤ 90 → lowN n.val = n.val + 32) ∧ lowN n.val < 256 := by decide +kernel
theorem lower_h {w : World} (c : UInt8) : Calls Tryz.prog 180 #[.int .u8 (c.toNat : Int)] w fun e w' => e = .returned (.int .u8 ((lowN c.toNat : Nat) : Int)) ∧ w = w' := by
  have h := low_n ⟨c.toNat, c.toNat_lt⟩
  have H := Lib.hid h
  clear h
  go_enter Tryz.func180, Tryz.ntmps180
  go_wp2
  go_ret
  exact ⟨by rw [H.out] <;> rfl, rfl⟩
def NumE.tuple : NumE → Value
  | .ok n => .tuple #[.int .u64 n, .nilIface]
  | .bad => .tuple #[.int .u64 0, .iface 232 (.int .i64 2)]
  | .over => .tuple #[.int .u64 4294967295, .iface 232 (.int .i64 1)]
set_option maxHeartbeats 32000000 in
set_option maxRecDepth 100000 in
theorem iparse_h (t : ByteArray) (hne : t.size ≠ 0) (hmax : t.size ≤ 9223372036854775806) (w : World) :
    Calls Tryz.prog 163 #[.string t, .int .i64 16, .int .i64 32] w fun e w' => e = .returned (parU 0 t.data.toList).tuple ∧ w' = Lib.bytesWorld w 5 t := by
  have hemp : t.toList.isEmpty = false := by
    rw [← decide_eq_emptyBytes]
    exact decide_eq_false (fun h => hne (by rw [h]; rfl))
  have hcv := Lib.run_convert_string_bytes (P := Tryz.prog) w 9 113 5 t (u := .string) Tryz.underlying9 Tryz.underlying113 Tryz.underlying5
  have hB : ∀ j, j < t.size → (Lib.bytesWorld w 5 t).cell? ⟨w.heap.size, j, none⟩ = some (.int .u8 (t.data.toList.getD j 0).toNat) := fun j hj => Lib.bytesWorld_cell w 5 t j hj
  obtain ⟨W1, hW1⟩ : ∃ W1, W1 = Lib.bytesWorld w 5 t := ⟨_, rfl⟩
  rw [← hW1] at hcv hB ⊢
  clear hW1
  obtain ⟨bs, hL⟩ : ∃ bs, bs = t.data.toList := ⟨_, rfl⟩
  have hLn : bs.length = t.size := by rw [hL, Lib.size_eq]
  rw [← hL] at hB ⊢
  clear hL
  have hmv : IntKind.u64.wrap (IntKind.u64.wrap 4294967296 - 1) = 4294967295 := by
    rw [IntKind.wrap_u64, IntKind.wrap_u64]
    decide
  go_enter Tryz.func163, Tryz.ntmps163
  go_wp2
  go_loop [12, 13, 101] (fun vu vn vi => ∃ (k acc : Nat) (a : Int), vu = .bool false ∧ vn = .int .u64 a ∧ vi = .int .i64 k ∧ k ≤ t.size ∧ Hid (a = (acc : Int) ∧ acc ≤ 4294967295 ∧ parU 0 bs = parU acc (bs.drop k)))
    (fun _ _ vi => t.size - (intOf vi).toNat)
  case atStart => exact ⟨0, 0, 0, rfl, rfl, rfl, by omega, rfl, by omega, rfl⟩
  case round =>
    obtain ⟨k, acc, a, rfl, rfl, rfl, hk, hh⟩ := hrel
    obtain ⟨ha, hacc, hdec⟩ := hh.out
    clear hh
    have a0 : 0 ≤ a := by omega
    have a1 : a ≤ 4294967295 := by omega
    by_cases hkn : k < t.size
    · have hc := hB k hkn
      have hdrop : bs.drop k = bs[k]'(by omega) :: bs.drop (k + 1) := List.drop_eq_getElem_cons (by omega)
      have hget : bs.getD k 0 = bs[k]'(by omega) := by simp [List.getD, List.getElem?_eq_getElem (show k < bs.length by omega)]
      rw [hdrop] at hdec
      rw [hget] at hc
      generalize bs[k]'(by omega) = c at hc hdec
      have hc256 : c.toNat < 256 := c.toNat_lt
      have HLOW := Lib.hid (fun (W : World) => lower_h (w := W) c)
      clear hB hdrop hget
      obtain ⟨n, hn⟩ : ∃ n, c.toNat = n := ⟨_, rfl⟩
      obtain ⟨x, hx⟩ : ∃ x, lowN n = x := ⟨_, rfl⟩
      have hdv : digV c = (if 48 ≤ n ∧ n ≤ 57 then n - 48 else if 97 ≤ n ∧ n ≤ 122 then n - 87 else if 65 ≤ n ∧ n ≤ 90 then n - 55 else 99) := by unfold digV; rw [hn]
      rw [hn] at hc hc256 HLOW
      rw [hx] at HLOW
      obtain ⟨hx3, hx4, hx5, hx0⟩ : ((97 ≤ x ∧ x ≤ 122) ↔ ((97 ≤ n ∧ n ≤ 122) ∨ (65 ≤ n ∧ n ≤ 90))) ∧ (97 ≤ n ∧ n ≤ 122 → x = n) ∧ (65 ≤ n ∧ n ≤ 90 → x = n + 32) ∧ x < 256 := by
        rw [← hx]; exact low_facts ⟨n, hc256⟩
      clear hn hx
      by_cases hdig : 48 ≤ n ∧ n ≤ 57
      · have hd : digV c = n - 48 := by rw [hdv, if_pos hdig]
        have hd0 := hdig.1
        have hd1 := hdig.2
        have h95 : ((n : Int) == 95) = false := by rw [beq_eq_false_iff_ne]; omega
        clear hx3 hx4 hx5 hdig hx0
        · by_cases hov : 4294967295 < acc * 16 + (n - 48)
          · have hF : parU acc (c :: bs.drop (k + 1)) = .over := by rw [parU, if_pos (by omega), if_pos (by omega)]
            rw [hF] at hdec
            have HD := Lib.hid hdec
            have iov : 4294967295 < a * 16 + ((n : Int) - 48) := by omega
            have icut : a < 1152921504606846976 := by omega
            clear hacc hF hov ha hdec hdv
            go_wp2_with (go_at_call 180; refine (HLOW.out _).mono ?_; rintro e w' ⟨rfl, rfl⟩)
            go_ret2
            exact ⟨by rw [HD.out]; rfl, rfl⟩
          · have hF : parU acc (c :: bs.drop (k + 1)) = parU (acc * 16 + (n - 48)) (bs.drop (k + 1)) := by rw [parU, if_pos (by omega), if_neg (by omega), show digV c = (n - 48) by omega]
            have HN : Hid (a * 16 + ((n : Int) - 48) = ((acc * 16 + (n - 48) : Nat) : Int) ∧ acc * 16 + (n - 48) ≤ 4294967295 ∧ parU 0 bs = parU (acc * 16 + (n - 48)) (bs.drop (k + 1))) := Lib.hid ⟨by omega, by omega, hdec.trans hF⟩
            have iov : a * 16 + ((n : Int) - 48) ≤ 4294967295 := by omega
            have icut : a < 1152921504606846976 := by omega
            clear hacc hF hov hdec ha hdv
            go_wp2_with (go_at_call 180; refine (HLOW.out _).mono ?_; rintro e w' ⟨rfl, rfl⟩)
            refine ⟨⟨k + 1, acc * 16 + (n - 48), a * 16 + ((n : Int) - 48), rfl, (by first | rfl | (congr 1; omega)), (by first | rfl | (congr 1; omega)), by omega, HN⟩, by simp [intOf]; omega⟩
      · by_cases hhex : 97 ≤ x ∧ x ≤ 102
        · have hd : digV c = x - 87 := by
            rw [hdv, if_neg hdig]
            rcases hx3.1 ⟨hhex.1, by omega⟩ with h | h
            · rw [if_pos h, hx4 h]
            · rw [if_neg (by omega), if_pos h, hx5 h]; omega
          have hnd : decide ((48 : Int) ≤ (n : Int)) = false ∨ (decide ((48 : Int) ≤ (n : Int)) = true ∧ decide ((n : Int) ≤ 57) = false) := by
            by_cases h : 48 ≤ n
            · right; exact ⟨by rw [decide_eq_true_iff]; omega, by rw [decide_eq_false_iff_not]; omega⟩
            · left; rw [decide_eq_false_iff_not]; omega
          have h95 : ((n : Int) == 95) = false := by
            rw [beq_eq_false_iff_ne]
            rcases hx3.1 ⟨hhex.1, by omega⟩ with h | h <;> omega
          have hd0 := hhex.1
          have hd1 := hhex.2
          have hn57 : 57 < n := by rcases hx3.1 ⟨hhex.1, by omega⟩ with h | h <;> omega
          clear hx3 hx4 hx5 hdig hhex hnd hx0
          by_cases hov : 4294967295 < acc * 16 + (x - 87)
          · have hF : parU acc (c :: bs.drop (k + 1)) = .over := by rw [parU, if_pos (by omega), if_pos (by omega)]
            rw [hF] at hdec
            have HD := Lib.hid hdec
            have iov : 4294967295 < a * 16 + ((x : Int) - 87) := by omega
            have icut : a < 1152921504606846976 := by omega
            clear hacc hF hov ha hdec hdv
            go_wp2_with (go_at_call 180; refine (HLOW.out _).mono ?_; rintro e w' ⟨rfl, rfl⟩)
            go_ret2
            exact ⟨by rw [HD.out]; rfl, rfl⟩
          · have hF : parU acc (c :: bs.drop (k + 1)) = parU (acc * 16 + (x - 87)) (bs.drop (k + 1)) := by rw [parU, if_pos (by omega), if_neg (by omega), show digV c = (x - 87) by omega]
            have HN : Hid (a * 16 + ((x : Int) - 87) = ((acc * 16 + (x - 87) : Nat) : Int) ∧ acc * 16 + (x - 87) ≤ 4294967295 ∧ parU 0 bs = parU (acc * 16 + (x - 87)) (bs.drop (k + 1))) := Lib.hid ⟨by omega, by omega, hdec.trans hF⟩
            have iov : a * 16 + ((x : Int) - 87) ≤ 4294967295 := by omega
            have icut : a < 1152921504606846976 := by omega
            clear hacc hF hov hdec ha hdv
            go_wp2_with (go_at_call 180; refine (HLOW.out _).mono ?_; rintro e w' ⟨rfl, rfl⟩)
            refine ⟨⟨k + 1, acc * 16 + (x - 87), a * 16 + ((x : Int) - 87), rfl, (by first | rfl | (congr 1; omega)), (by first | rfl | (congr 1; omega)), by omega, HN⟩, by simp [intOf]; omega⟩
        · have hF : parU acc (c :: bs.drop (k + 1)) = .bad := by
            rw [parU, if_neg]
            rw [hdv, if_neg hdig]
            intro h
            by_cases h1 : 97 ≤ n ∧ n ≤ 122
            · have := hx4 h1; rw [if_pos h1] at h; omega
            · rw [if_neg h1] at h
              by_cases h2 : 65 ≤ n ∧ n ≤ 90
              · have := hx5 h2; rw [if_pos h2] at h; omega
              · rw [if_neg h2] at h; omega
          rw [hF] at hdec
          have HD := Lib.hid hdec
          clear hF hdec hdv hacc ha
          have hcl : (n < 48 ∨ 57 < n) := by omega
          have hcx : x < 97 ∨ (102 < x ∧ x ≤ 122) ∨ 122 < x := by omega
          have h95 : ((n : Int) == 95) = true ∨ ((n : Int) == 95) = false := by cases ((n : Int) == 95) <;> simp
          clear hx3 hx4 hx5 hdig hhex
          rcases hcl with hcl | hcl <;> rcases hcx with hcx | hcx | hcx <;> rcases h95 with h95 | h95
          all_goals
            first
            | (exfalso; have := beq_iff_eq.1 h95; omega)
            | skip
          all_goals
            go_wp2_with (go_at_call 180; refine (HLOW.out _).mono ?_; rintro e w' ⟨rfl, rfl⟩)
            go_ret2
            exact ⟨by rw [HD.out]; rfl, rfl⟩
    · have hkk : k = t.size := by omega
      subst hkk
      have hF : parU acc (bs.drop t.size) = .ok acc := by rw [List.drop_eq_nil_of_le (by omega)]; rfl
      rw [hF] at hdec
      subst ha
      clear hacc hF a0 a1
      go_wp2
      go_ret2
      exact ⟨rfl, rfl⟩
end Go.Proofs.YtpinjgdnhbogoaaGreatDoor

/- strconv.ParseUint at base 10 and 16, 32 bits: one contract; the library's variables. -/
namespace Go.Proofs.YtpinjgdnhbogoaaGreatDoor
open Go.RowKit Go.Lib

theorem fr_new {w w' : World} (h : Below w.heap.size w w') : Fr (fun _ => False) w w' :=
  (Fr.of_below h).mono fun _k hk h1 => absurd hk (Nat.not_lt.2 h1)
/-- the library's variables that are read -/
structure Env (w : World) : Prop where
  maxLen : ∃ m, w.cell? ⟨0, 0, none⟩ = some (.int .i64 m)
  syn : ∃ T p, w.cell? ⟨3, 0, none⟩ = some (.iface T p)
  rng : ∃ T p, w.cell? ⟨4, 0, none⟩ = some (.iface T p)
theorem Env.fr {o : Nat → Prop} {w w' : World} (h : Env w) (hf : Fr o w w') (ho : ∀ k, k < 8 → ¬ o k) : Env w' := by
  obtain ⟨⟨m, h1⟩, ⟨T, p, h2⟩, ⟨T', p', h3⟩⟩ := h
  exact ⟨⟨m, hf.cell h1 (ho 0 (by omega))⟩, ⟨T, p, hf.cell h2 (ho 3 (by omega))⟩, ⟨T', p', hf.cell h3 (ho 4 (by omega))⟩⟩
theorem Env.grow {w w' : World} (h : Env w) (hf : Fr (fun _ => False) w w') : Env w' := h.fr hf fun _ _ h => h
theorem Env.size {w : World} (h : Env w) : 4 < w.heap.size := by
  obtain ⟨T, p, h3⟩ := h.rng
  exact World.block_lt_of_cell? w _ h3
theorem Env.below {w w' : World} {B : Nat} (h : Env w) (hf : Below B w w') (hB : 4 < B) : Env w' := by
  obtain ⟨⟨m, h1⟩, ⟨T, p, h2⟩, ⟨T', p', h3⟩⟩ := h
  have hF := Fr.of_below hf
  exact ⟨⟨m, hF.cell h1 (by show ¬ B ≤ 0; omega)⟩, ⟨T, p, hF.cell h2 (by show ¬ B ≤ 3; omega)⟩, ⟨T', p', hF.cell h3 (by show ¬ B ≤ 4; omega)⟩⟩

def parB (b : Nat) : Nat → Str → NumE
  | acc, [] => .ok acc
  | acc, c :: r => if digV c < b then (if 4294967295 < acc * b + digV c then .over else parB b (acc * b + digV c) r) else .bad
theorem parU_eq : ∀ (l : Str) (acc : Nat), parU acc l = parB 16 acc l
  | [], _ => rfl
  | c :: r, acc => by rw [parU, parB, parU_eq r]
theorem parM_eq : ∀ (l : Str) (acc : Nat), acc ≤ 4294967295 → Lib.parseUintM 4294967295 acc l = (match parB 10 acc l with | .ok n => .ok n | .bad => Lib.parseUintB 0 [] | .over => .range)
  | [], _, _ => rfl
  | c :: r, acc, h => by
    rw [Lib.parseUintM, parB]
    by_cases hd : 48 ≤ c.toNat ∧ c.toNat ≤ 57
    · have hv : digV c = c.toNat - 48 := by unfold digV; rw [if_pos hd]
      rw [if_pos hd, if_neg (by omega), hv, if_pos (show c.toNat - 48 < 10 by omega)]
      by_cases ho : 4294967295 < acc * 10 + (c.toNat - 48)
      · rw [if_pos ho, if_pos ho]
      · rw [if_neg ho, if_neg ho]
        exact parM_eq r _ (by omega)
    · have hv : ¬ digV c < 10 := by
        unfold digV
        rw [if_neg hd]
        split
        · omega
        · split <;> omega
      rw [if_neg hd, if_neg hv]
      rfl
theorem parB_ok (b : Nat) : ∀ (l : Str) (acc n : Nat), acc ≤ 4294967295 → parB b acc l = .ok n → l.all (fun c => decide (digV c < b)) = true ∧ n = l.foldl (fun v c => b * v + digV c) acc ∧ n ≤ 4294967295
  | [], acc, n, h0, h => by
    rw [parB] at h; cases h; exact ⟨rfl, rfl, h0⟩
  | c :: r, acc, n, h0, h => by
    rw [parB] at h
    split at h
    · rename_i hd
      split at h
      · cases h
      · obtain ⟨h1, h2, h3⟩ := parB_ok b r _ n (by omega) h
        refine ⟨by rw [List.all_cons, h1]; simp [hd], ?_, h3⟩
        rw [List.foldl_cons, h2, Nat.mul_comm b acc]
    · cases h
theorem parB_bad (b : Nat) : ∀ (l : Str) (acc : Nat), parB b acc l = .bad → l.all (fun c => decide (digV c < b)) = false
  | [], acc, h => by rw [parB] at h; cases h
  | c :: r, acc, h => by
    rw [parB] at h
    split at h
    · split at h
      · cases h
      · rw [List.all_cons, parB_bad b r _ h]; simp
    · rename_i hd
      rw [List.all_cons]; simp [hd]
theorem parB_over (b : Nat) : ∀ (l : Str) (acc : Nat), parB b acc l = .over → 4294967295 < (acc + 1) * b ^ l.length
  | [], acc, h => by rw [parB] at h; cases h
  | c :: r, acc, h => by
    rw [parB] at h
    split at h
    · rename_i hd
      have e : (acc + 1) * b ^ (c :: r).length = ((acc + 1) * b) * b ^ r.length := by rw [List.length_cons, Nat.pow_succ, Nat.mul_assoc, Nat.mul_comm b]
      have hb : acc * b + digV c + 1 ≤ (acc + 1) * b := by rw [Nat.add_mul]; omega
      have hp : 0 < b ^ r.length := Nat.pow_pos (by omega)
      rw [e]
      split at h
      · have h1 : (acc + 1) * b ≤ ((acc + 1) * b) * b ^ r.length := Nat.le_mul_of_pos_right _ hp
        omega
      · have h2 := parB_over b r _ h
        have h3 := Nat.mul_le_mul_right (b ^ r.length) hb
        omega
    · cases h
def okB (b : Nat) (s : Str) : Bool := !s.isEmpty && s.all (fun c => decide (digV c < b))
/-- what ParseUint tells -/
def PU (b : Nat) (s : Str) (v : Nat) (er : Value) : Prop :=
  (er = .nilIface ∧ okB b s = true ∧ v = numV b s ∧ v ≤ 4294967295) ∨ ((∃ T p, er = .iface T p) ∧ (okB b s = false ∨ 7 < s.length) ∧ v ≤ 4294967295)
theorem pu_of {b : Nat} (hb : b = 10 ∨ b = 16) {s : Str} (hs : s ≠ []) {T : TypeId} {p : Value} : (∀ n, parB b 0 s = .ok n → PU b s n .nilIface) ∧ (parB b 0 s = .bad → PU b s 0 (.iface T p)) ∧ (parB b 0 s = .over → PU b s 4294967295 (.iface T p)) := by
  have he : s.isEmpty = false := by simpa using hs
  refine ⟨fun n h => .inl ?_, fun h => .inr ⟨⟨_, _, rfl⟩, .inl ?_, by omega⟩, fun h => .inr ⟨⟨_, _, rfl⟩, .inr ?_, by omega⟩⟩
  · obtain ⟨h1, h2, h3⟩ := parB_ok b s 0 n (by omega) h
    exact ⟨rfl, by unfold okB; rw [he, h1]; rfl, h2, h3⟩
  · unfold okB; rw [parB_bad b s 0 h]; simp
  · have h1 := parB_over b s 0 h
    by_cases hl : s.length ≤ 7
    · exfalso
      rw [Nat.zero_add, Nat.one_mul] at h1
      have h2 : b ^ s.length ≤ 16 ^ 7 := Nat.le_trans (Nat.pow_le_pow_left (by omega) _) (Nat.pow_le_pow_right (by omega) hl)
      have h3 : (16 : Nat) ^ 7 = 268435456 := by decide
      omega
    · omega
def PUPost (b : Nat) (s : Str) (w : World) (e : Ending) (w' : World) : Prop :=
  ∃ (v : Nat) (er : Value), e = .returned (.tuple #[.int .u64 v, er]) ∧ PU b s v er ∧ Fr (fun _ => False) w w'
theorem uparse10_h {w : World} (hE : Env w) (s : Str) (hs : s.length ≤ 1000000) : Calls Tryz.prog 135 #[.string (bs s), .int .i64 10, .int .i64 32] w (PUPost 10 s w) := by
  have hsz : (bs s).size = s.length := rfl
  obtain ⟨T, p, h3⟩ := hE.syn
  obtain ⟨T', p', h4⟩ := hE.rng
  by_cases hne : s = []
  · subst hne
    refine (Tryz.strconv_ParseUint_10_at32_syntax (bs []) (by rw [hsz]; simp) rfl _ w h3 (.inr ⟨_, _, rfl⟩)).mono ?_
    rintro e w' ⟨N, rfl, _, _, h5⟩
    exact ⟨0, _, rfl, .inr ⟨⟨_, _, rfl⟩, .inl rfl, by omega⟩, fr_new h5⟩
  obtain ⟨p1, p2, p3⟩ := pu_of (T := 234) (p := .nilIface) (.inl rfl : (10 : Nat) = 10 ∨ (10 : Nat) = 16) hne
  have hM : Lib.parseUintB 32 (bs s).data.toList = (match parB 10 0 s with | .ok n => .ok n | .bad => Lib.parseUintB 0 [] | .over => .range) := by
    unfold Lib.parseUintB
    rw [bs_data, if_neg hne]
    exact parM_eq s 0 (by omega)
  cases hp : parB 10 0 s with
  | ok n =>
    rw [hp] at hM
    refine (Tryz.strconv_ParseUint_10_at32_ok (bs s) (by rw [hsz]; omega) n hM w).mono ?_
    rintro e w' ⟨rfl, h5⟩
    refine ⟨n, _, rfl, p1 n hp, ?_⟩
    rcases h5 with rfl | rfl
    · exact Fr.refl _ _
    · exact fr_new (Lib.bytesWorld_below _ _ _)
  | bad =>
    rw [hp] at hM
    refine (Tryz.strconv_ParseUint_10_at32_syntax (bs s) (by rw [hsz]; omega) hM _ w h3 (.inr ⟨_, _, rfl⟩)).mono ?_
    rintro e w' ⟨N, rfl, _, _, h5⟩
    rcases p2 hp with h | h
    · exact absurd h.1 (by simp)
    · exact ⟨0, _, rfl, .inr ⟨⟨_, _, rfl⟩, h.2.1, by omega⟩, fr_new h5⟩
  | over =>
    rw [hp] at hM
    refine (Tryz.strconv_ParseUint_10_at32_range (bs s) (by rw [hsz]; omega) hM _ w h4 (.inr ⟨_, _, rfl⟩)).mono ?_
    rintro e w' ⟨N, rfl, _, _, h5⟩
    rcases p3 hp with h | h
    · exact absurd h.1 (by simp)
    · exact ⟨4294967295, _, rfl, .inr ⟨⟨_, _, rfl⟩, h.2.1, by omega⟩, fr_new h5⟩
def fnU : ByteArray := ⟨#[80, 97, 114, 115, 101, 85, 105, 110, 116]⟩
set_option maxHeartbeats 4000000 in
set_option maxRecDepth 100000 in
theorem iparse_none {w : World} : Calls Tryz.prog 163 #[.string ⟨#[]⟩, .int .i64 16, .int .i64 32] w fun e w' => e = .returned (.tuple #[.int .u64 0, .iface 232 (.int .i64 2)]) ∧ w' = w := by
  go_enter Tryz.func163, Tryz.ntmps163
  go_wp2
  go_ret2
  exact ⟨rfl, rfl⟩
set_option maxHeartbeats 1000000 in
theorem uparse16_h {w : World} (hE : Env w) (s : Str) (hs : s.length ≤ 1000000) : Calls Tryz.prog 135 #[.string (bs s), .int .i64 16, .int .i64 32] w (PUPost 16 s w) := by
  have hsz : (bs s).size = s.length := rfl
  by_cases hne : s = []
  · subst hne
    obtain ⟨T, p, h3⟩ := hE.syn
    go_enter Tryz.func135, Tryz.ntmps135
    go_wp2_with (go_at_call 163; refine iparse_none.mono ?_; rintro e w1 ⟨rfl, rfl⟩)
    refine (Tryz.strconv_toError_syntax fnU (bs []) 16 32 _ _ (by rw [hsz]; simp) h3 (.inr ⟨_, _, rfl⟩)).mono ?_
    rintro e w1 ⟨N, rfl, _, _, h5⟩
    go_wp2
    go_ret2
    exact ⟨0, _, rfl, .inr ⟨⟨_, _, rfl⟩, .inl rfl, by omega⟩, fr_new h5⟩
  obtain ⟨p1, p2, p3⟩ := pu_of (T := 234) (p := .nilIface) (.inr rfl : (16 : Nat) = 10 ∨ (16 : Nat) = 16) hne
  have hI := iparse_h (bs s) (by rw [hsz]; simpa using hne) (by rw [hsz]; omega) w
  rw [bs_data, parU_eq] at hI
  have hF : Fr (fun _ => False) w (Lib.bytesWorld w 5 (bs s)) := fr_new (Lib.bytesWorld_below _ _ _)
  obtain ⟨W, hW⟩ : ∃ W, Lib.bytesWorld w 5 (bs s) = W := ⟨_, rfl⟩
  rw [hW] at hI hF
  have hE1 := hE.grow hF
  obtain ⟨T, p, h3⟩ := hE1.syn
  obtain ⟨T', p', h4⟩ := hE1.rng
  clear hW
  cases hp : parB 16 0 s with
  | ok n =>
    rw [hp] at hI
    have P1 := Lib.hid (p1 n hp)
    clear hp p1 p2 p3
    go_enter Tryz.func135, Tryz.ntmps135
    go_wp2_with fail
    refine hI.mono ?_
    rintro e w1 ⟨rfl, rfl⟩
    unfold NumE.tuple
    go_wp2
    go_ret2
    exact ⟨n, _, rfl, P1.out, hF⟩
  | bad =>
    rw [hp] at hI
    have P2 := Lib.hid (p2 hp)
    clear hp p1 p2 p3
    go_enter Tryz.func135, Tryz.ntmps135
    go_wp2_with fail
    refine hI.mono ?_
    rintro e w1 ⟨rfl, rfl⟩
    unfold NumE.tuple
    go_wp2_with fail
    refine (Tryz.strconv_toError_syntax fnU (bs s) 16 32 _ _ (by rw [hsz]; omega) h3 (.inr ⟨_, _, rfl⟩)).mono ?_
    rintro e w2 ⟨N, rfl, _, _, h5⟩
    go_wp2
    go_ret2
    rcases P2.out with h | h
    · exact absurd h.1 (by simp)
    · exact ⟨0, _, rfl, .inr ⟨⟨_, _, rfl⟩, h.2.1, by omega⟩, hF.next (fr_new h5)⟩
  | over =>
    rw [hp] at hI
    have P3 := Lib.hid (p3 hp)
    clear hp p1 p2 p3
    go_enter Tryz.func135, Tryz.ntmps135
    go_wp2_with fail
    refine hI.mono ?_
    rintro e w1 ⟨rfl, rfl⟩
    unfold NumE.tuple
    go_wp2_with fail
    refine (Tryz.strconv_toError_range fnU (bs s) 16 32 _ _ (by rw [hsz]; omega) h4 (.inr ⟨_, _, rfl⟩)).mono ?_
    rintro e w2 ⟨N, rfl, _, _, h5⟩
    go_wp2
    go_ret2
    rcases P3.out with h | h
    · exact absurd h.1 (by simp)
    · exact ⟨4294967295, _, rfl, .inr ⟨⟨_, _, rfl⟩, h.2.1, by omega⟩, hF.next (fr_new h5)⟩
end Go.Proofs.YtpinjgdnhbogoaaGreatDoor
