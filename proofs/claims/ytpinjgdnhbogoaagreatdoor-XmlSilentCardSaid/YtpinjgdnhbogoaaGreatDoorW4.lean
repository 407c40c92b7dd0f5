/- strconv.ParseUint at base 10 and 16, 32 bits: one contract; the library's variables. -/
import Derived.Test.YtpinjgdnhbogoaaGreatDoorW3
import Derived.Test.YtpinjgdnhbogoaaGreatDoorXX
namespace Go.Proofs.YtpinjgdnhbogoaaGreatDoor
open Go.RowKit Go.Lib

theorem fr_new {w w' : World} (h : Below w.heap.size w w') : Fr (fun _ => False) w w' :=
  (Fr.of_below h).mono fun k hk h1 => absurd hk (Nat.not_lt.2 h1)
/-- the library's variables that are read -/
structure Env (w : World) : Prop where
  maxLen : ∃ m, w.cell? ⟨0, 0, none⟩ = some (.int .i64 m)
  syn : ∃ T p, w.cell? ⟨3, 0, none⟩ = some (.iface T p)
  rng : ∃ T p, w.cell? ⟨4, 0, none⟩ = some (.iface T p)
theorem Env.fr {o : Nat → Prop} {w w' : World} (h : Env w) (hf : Fr o w w') (ho : ∀ k, k < 8 → ¬ o k) : Env w' := by
  obtain ⟨⟨m, h1⟩, ⟨T, p, h2⟩, ⟨T', p', h3⟩⟩ := h
  exact ⟨⟨m, hf.cell h1 (ho 0 (by omega))⟩, ⟨T, p, hf.cell h2 (ho 3 (by omega))⟩, ⟨T', p', hf.cell h3 (ho 4 (by omega))⟩⟩
theorem Env.grow {w w' : World} (h : Env w) (hf : Fr (fun _ => False) w w') : Env w' := h.fr hf fun _ _ h => h
theorem Env.size {w : World} (h : Env w) : 4 < w.heap.size := by
  obtain ⟨T, p, h3⟩ := h.rng
  exact World.block_lt_of_cell? w _ h3
theorem Env.below {w w' : World} {B : Nat} (h : Env w) (hf : Below B w w') (hB : 4 < B) : Env w' := by
  obtain ⟨⟨m, h1⟩, ⟨T, p, h2⟩, ⟨T', p', h3⟩⟩ := h
  have hF := Fr.of_below hf
  exact ⟨⟨m, hF.cell h1 (by show ¬ B ≤ 0; omega)⟩, ⟨T, p, hF.cell h2 (by show ¬ B ≤ 3; omega)⟩, ⟨T', p', hF.cell h3 (by show ¬ B ≤ 4; omega)⟩⟩

def parB (b : Nat) : Nat → Str → NumE
  | acc, [] => .ok acc
  | acc, c :: r => if digV c < b then (if 4294967295 < acc * b + digV c then .over else parB b (acc * b + digV c) r) else .bad
theorem parU_eq : ∀ (l : Str) (acc : Nat), parU acc l = parB 16 acc l
  | [], _ => rfl
  | c :: r, acc => by rw [parU, parB, parU_eq r]
theorem parM_eq : ∀ (l : Str) (acc : Nat), acc ≤ 4294967295 → Lib.parseUintM 4294967295 acc l = (match parB 10 acc l with | .ok n => .ok n | .bad => Lib.parseUintB 0 [] | .over => .range)
  | [], _, _ => rfl
  | c :: r, acc, h => by
    rw [Lib.parseUintM, parB]
    by_cases hd : 48 ≤ c.toNat ∧ c.toNat ≤ 57
    · have hv : digV c = c.toNat - 48 := by unfold digV; rw [if_pos hd]
      rw [if_pos hd, if_neg (by omega), hv, if_pos (show c.toNat - 48 < 10 by omega)]
      by_cases ho : 4294967295 < acc * 10 + (c.toNat - 48)
      · rw [if_pos ho, if_pos ho]
      · rw [if_neg ho, if_neg ho]
        exact parM_eq r _ (by omega)
    · have hv : ¬ digV c < 10 := by
        unfold digV
        rw [if_neg hd]
        split
        · omega
        · split <;> omega
      rw [if_neg hd, if_neg hv]
      rfl
theorem parB_ok (b : Nat) : ∀ (l : Str) (acc n : Nat), acc ≤ 4294967295 → parB b acc l = .ok n → l.all (fun c => decide (digV c < b)) = true ∧ n = l.foldl (fun v c => b * v + digV c) acc ∧ n ≤ 4294967295
  | [], acc, n, h0, h => by
    rw [parB] at h; cases h; exact ⟨rfl, rfl, h0⟩
  | c :: r, acc, n, h0, h => by
    rw [parB] at h
    split at h
    · rename_i hd
      split at h
      · cases h
      · obtain ⟨h1, h2, h3⟩ := parB_ok b r _ n (by omega) h
        refine ⟨by rw [List.all_cons, h1]; simp [hd], ?_, h3⟩
        rw [List.foldl_cons, h2, Nat.mul_comm b acc]
    · cases h
theorem parB_bad (b : Nat) : ∀ (l : Str) (acc : Nat), parB b acc l = .bad → l.all (fun c => decide (digV c < b)) = false
  | [], acc, h => by rw [parB] at h; cases h
  | c :: r, acc, h => by
    rw [parB] at h
    split at h
    · split at h
      · cases h
      · rw [List.all_cons, parB_bad b r _ h]; simp
    · rename_i hd
      rw [List.all_cons]; simp [hd]
theorem parB_over (b : Nat) : ∀ (l : Str) (acc : Nat), parB b acc l = .over → 4294967295 < (acc + 1) * b ^ l.length
  | [], acc, h => by rw [parB] at h; cases h
  | c :: r, acc, h => by
    rw [parB] at h
    split at h
    · rename_i hd
      have e : (acc + 1) * b ^ (c :: r).length = ((acc + 1) * b) * b ^ r.length := by rw [List.length_cons, Nat.pow_succ, Nat.mul_assoc, Nat.mul_comm b]
      have hb : acc * b + digV c + 1 ≤ (acc + 1) * b := by rw [Nat.add_mul]; omega
      have hp : 0 < b ^ r.length := Nat.pow_pos (by omega)
      rw [e]
      split at h
      · have h1 : (acc + 1) * b ≤ ((acc + 1) * b) * b ^ r.length := Nat.le_mul_of_pos_right _ hp
        omega
      · have h2 := parB_over b r _ h
        have h3 := Nat.mul_le_mul_right (b ^ r.length) hb
        omega
    · cases h
def okB (b : Nat) (s : Str) : Bool := !s.isEmpty && s.all (fun c => decide (digV c < b))
/-- what ParseUint tells -/
def PU (b : Nat) (s : Str) (v : Nat) (er : Value) : Prop :=
  (er = .nilIface ∧ okB b s = true ∧ v = numV b s ∧ v ≤ 4294967295) ∨ ((∃ T p, er = .iface T p) ∧ (okB b s = false ∨ 7 < s.length) ∧ v ≤ 4294967295)
theorem pu_of {b : Nat} (hb : b = 10 ∨ b = 16) {s : Str} (hs : s ≠ []) {T : TypeId} {p : Value} : (∀ n, parB b 0 s = .ok n → PU b s n .nilIface) ∧ (parB b 0 s = .bad → PU b s 0 (.iface T p)) ∧ (parB b 0 s = .over → PU b s 4294967295 (.iface T p)) := by
  have he : s.isEmpty = false := by simpa using hs
  refine ⟨fun n h => .inl ?_, fun h => .inr ⟨⟨_, _, rfl⟩, .inl ?_, by omega⟩, fun h => .inr ⟨⟨_, _, rfl⟩, .inr ?_, by omega⟩⟩
  · obtain ⟨h1, h2, h3⟩ := parB_ok b s 0 n (by omega) h
    exact ⟨rfl, by unfold okB; rw [he, h1]; rfl, h2, h3⟩
  · unfold okB; rw [parB_bad b s 0 h]; simp
  · have h1 := parB_over b s 0 h
    by_cases hl : s.length ≤ 7
    · exfalso
      rw [Nat.zero_add, Nat.one_mul] at h1
      have h2 : b ^ s.length ≤ 16 ^ 7 := Nat.le_trans (Nat.pow_le_pow_left (by omega) _) (Nat.pow_le_pow_right (by omega) hl)
      have h3 : (16 : Nat) ^ 7 = 268435456 := by decide
      omega
    · omega
def PUPost (b : Nat) (s : Str) (w : World) (e : Ending) (w' : World) : Prop :=
  ∃ (v : Nat) (er : Value), e = .returned (.tuple #[.int .u64 v, er]) ∧ PU b s v er ∧ Fr (fun _ => False) w w'
theorem uparse10_h {w : World} (hE : Env w) (s : Str) (hs : s.length ≤ 1000000) : Calls Tryz.prog 135 #[.string (bs s), .int .i64 10, .int .i64 32] w (PUPost 10 s w) := by
  have hsz : (bs s).size = s.length := rfl
  obtain ⟨T, p, h3⟩ := hE.syn
  obtain ⟨T', p', h4⟩ := hE.rng
  by_cases hne : s = []
  · subst hne
    refine (Tryz.strconv_ParseUint_10_at32_syntax (bs []) (by rw [hsz]; simp) rfl _ w h3 (.inr ⟨_, _, rfl⟩)).mono ?_
    rintro e w' ⟨N, rfl, _, _, h5⟩
    exact ⟨0, _, rfl, .inr ⟨⟨_, _, rfl⟩, .inl rfl, by omega⟩, fr_new h5⟩
  obtain ⟨p1, p2, p3⟩ := pu_of (T := 234) (p := .nilIface) (.inl rfl : (10 : Nat) = 10 ∨ (10 : Nat) = 16) hne
  have hM : Lib.parseUintB 32 (bs s).data.toList = (match parB 10 0 s with | .ok n => .ok n | .bad => Lib.parseUintB 0 [] | .over => .range) := by
    unfold Lib.parseUintB
    rw [bs_data, if_neg hne]
    exact parM_eq s 0 (by omega)
  cases hp : parB 10 0 s with
  | ok n =>
    rw [hp] at hM
    refine (Tryz.strconv_ParseUint_10_at32_ok (bs s) (by rw [hsz]; omega) n hM w).mono ?_
    rintro e w' ⟨rfl, h5⟩
    refine ⟨n, _, rfl, p1 n hp, ?_⟩
    rcases h5 with rfl | rfl
    · exact Fr.refl _ _
    · exact fr_new (Lib.bytesWorld_below _ _ _)
  | bad =>
    rw [hp] at hM
    refine (Tryz.strconv_ParseUint_10_at32_syntax (bs s) (by rw [hsz]; omega) hM _ w h3 (.inr ⟨_, _, rfl⟩)).mono ?_
    rintro e w' ⟨N, rfl, _, _, h5⟩
    rcases p2 hp with h | h
    · exact absurd h.1 (by simp)
    · exact ⟨0, _, rfl, .inr ⟨⟨_, _, rfl⟩, h.2.1, by omega⟩, fr_new h5⟩
  | over =>
    rw [hp] at hM
    refine (Tryz.strconv_ParseUint_10_at32_range (bs s) (by rw [hsz]; omega) hM _ w h4 (.inr ⟨_, _, rfl⟩)).mono ?_
    rintro e w' ⟨N, rfl, _, _, h5⟩
    rcases p3 hp with h | h
    · exact absurd h.1 (by simp)
    · exact ⟨4294967295, _, rfl, .inr ⟨⟨_, _, rfl⟩, h.2.1, by omega⟩, fr_new h5⟩
def fnU : ByteArray := ⟨#[80, 97, 114, 115, 101, 85, 105, 110, 116]⟩
set_option maxHeartbeats 4000000 in
set_option maxRecDepth 100000 in
theorem iparse_none {w : World} : Calls Tryz.prog 163 #[.string ⟨#[]⟩, .int .i64 16, .int .i64 32] w fun e w' => e = .returned (.tuple #[.int .u64 0, .iface 232 (.int .i64 2)]) ∧ w' = w := by
  go_enter Tryz.func163, Tryz.ntmps163
  go_wp2
  go_ret2
  exact ⟨rfl, rfl⟩
set_option maxHeartbeats 1000000 in
theorem uparse16_h {w : World} (hE : Env w) (s : Str) (hs : s.length ≤ 1000000) : Calls Tryz.prog 135 #[.string (bs s), .int .i64 16, .int .i64 32] w (PUPost 16 s w) := by
  have hsz : (bs s).size = s.length := rfl
  by_cases hne : s = []
  · subst hne
    obtain ⟨T, p, h3⟩ := hE.syn
    go_enter Tryz.func135, Tryz.ntmps135
    go_wp2_with (go_at_call 163; refine iparse_none.mono ?_; rintro e w1 ⟨rfl, rfl⟩)
    refine (Tryz.strconv_toError_syntax fnU (bs []) 16 32 _ _ (by rw [hsz]; simp) h3 (.inr ⟨_, _, rfl⟩)).mono ?_
    rintro e w1 ⟨N, rfl, _, _, h5⟩
    go_wp2
    go_ret2
    exact ⟨0, _, rfl, .inr ⟨⟨_, _, rfl⟩, .inl rfl, by omega⟩, fr_new h5⟩
  obtain ⟨p1, p2, p3⟩ := pu_of (T := 234) (p := .nilIface) (.inr rfl : (16 : Nat) = 10 ∨ (16 : Nat) = 16) hne
  have hI := iparse_h (bs s) (by rw [hsz]; simpa using hne) (by rw [hsz]; omega) w
  rw [bs_data, parU_eq] at hI
  have hF : Fr (fun _ => False) w (Lib.bytesWorld w 5 (bs s)) := fr_new (Lib.bytesWorld_below _ _ _)
  obtain ⟨W, hW⟩ : ∃ W, Lib.bytesWorld w 5 (bs s) = W := ⟨_, rfl⟩
  rw [hW] at hI hF
  have hE1 := hE.grow hF
  obtain ⟨T, p, h3⟩ := hE1.syn
  obtain ⟨T', p', h4⟩ := hE1.rng
  clear hW
  cases hp : parB 16 0 s with
  | ok n =>
    rw [hp] at hI
    have P1 := Lib.hid (p1 n hp)
    clear hp p1 p2 p3
    go_enter Tryz.func135, Tryz.ntmps135
    go_wp2_with fail
    refine hI.mono ?_
    rintro e w1 ⟨rfl, rfl⟩
    unfold NumE.tuple
    go_wp2
    go_ret2
    exact ⟨n, _, rfl, P1.out, hF⟩
  | bad =>
    rw [hp] at hI
    have P2 := Lib.hid (p2 hp)
    clear hp p1 p2 p3
    go_enter Tryz.func135, Tryz.ntmps135
    go_wp2_with fail
    refine hI.mono ?_
    rintro e w1 ⟨rfl, rfl⟩
    unfold NumE.tuple
    go_wp2_with fail
    refine (Tryz.strconv_toError_syntax fnU (bs s) 16 32 _ _ (by rw [hsz]; omega) h3 (.inr ⟨_, _, rfl⟩)).mono ?_
    rintro e w2 ⟨N, rfl, _, _, h5⟩
    go_wp2
    go_ret2
    rcases P2.out with h | h
    · exact absurd h.1 (by simp)
    · exact ⟨0, _, rfl, .inr ⟨⟨_, _, rfl⟩, h.2.1, by omega⟩, hF.next (fr_new h5)⟩
  | over =>
    rw [hp] at hI
    have P3 := Lib.hid (p3 hp)
    clear hp p1 p2 p3
    go_enter Tryz.func135, Tryz.ntmps135
    go_wp2_with fail
    refine hI.mono ?_
    rintro e w1 ⟨rfl, rfl⟩
    unfold NumE.tuple
    go_wp2_with fail
    refine (Tryz.strconv_toError_range fnU (bs s) 16 32 _ _ (by rw [hsz]; omega) h4 (.inr ⟨_, _, rfl⟩)).mono ?_
    rintro e w2 ⟨N, rfl, _, _, h5⟩
    go_wp2
    go_ret2
    rcases P3.out with h | h
    · exact absurd h.1 (by simp)
    · exact ⟨4294967295, _, rfl, .inr ⟨⟨_, _, rfl⟩, h.2.1, by omega⟩, hF.next (fr_new h5)⟩
end Go.Proofs.YtpinjgdnhbogoaaGreatDoor
