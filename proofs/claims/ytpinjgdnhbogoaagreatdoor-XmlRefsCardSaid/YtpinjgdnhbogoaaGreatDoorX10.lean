/- Numbers of runes (no program). -/
import Derived.Test.YtpinjgdnhbogoaaGreatDoorX9
namespace Go.Proofs.YtpinjgdnhbogoaaGreatDoor

/-- digits of a number, to a base, as the law writes them -/
def digF (base : Nat) (d : Nat → UInt8) : Nat → Nat → Str
  | 0, n => [d n]
  | k + 1, n => if n < base then [d n] else digF base d k (n / base) ++ [d (n % base)]
def decC (n : Nat) : UInt8 := UInt8.ofNat (48 + n)
def hexC (n : Nat) : UInt8 := if n < 10 then UInt8.ofNat (48 + n) else UInt8.ofNat (87 + n)
def decL (n : Nat) : Str := digF 10 decC 7 n
def hexL (n : Nat) : Str := digF 16 hexC 7 n
theorem numV_snoc (base : Nat) (l : Str) (c : UInt8) : numV base (l ++ [c]) = base * numV base l + digV c := by unfold numV; rw [List.foldl_append]; rfl
theorem digF_num {base : Nat} {d : Nat → UInt8} (hb : 2 ≤ base) (hd : ∀ n, n < base → digV (d n) = n) : ∀ (k n : Nat), n < base ^ (k + 1) → numV base (digF base d k n) = n
  | 0, n, h => by
    have : n < base := by simpa using h
    show base * 0 + digV (d n) = n
    rw [hd n this]; omega
  | k + 1, n, h => by
    unfold digF
    by_cases hn : n < base
    · rw [if_pos hn]
      show base * 0 + digV (d n) = n
      rw [hd n hn]; omega
    · rw [if_neg hn, numV_snoc, digF_num hb hd k _ (Nat.div_lt_of_lt_mul (by rw [Nat.pow_succ, Nat.mul_comm] at h; exact h)), hd _ (Nat.mod_lt _ (by omega))]
      exact Nat.div_add_mod n base
theorem digF_all {base : Nat} {d : Nat → UInt8} {P : UInt8 → Prop} (hb : 2 ≤ base) (hd : ∀ n, n < base → P (d n)) : ∀ (k n : Nat), n < base ^ (k + 1) → ∀ c ∈ digF base d k n, P c
  | 0, n, h, c, hc => by
    rw [List.mem_singleton.1 hc]; exact hd n (by simpa using h)
  | k + 1, n, h, c, hc => by
    unfold digF at hc
    by_cases hn : n < base
    · rw [if_pos hn] at hc; rw [List.mem_singleton.1 hc]; exact hd n hn
    · rw [if_neg hn] at hc
      rcases List.mem_append.1 hc with hc | hc
      · exact digF_all hb hd k _ (Nat.div_lt_of_lt_mul (by rw [Nat.pow_succ, Nat.mul_comm] at h; exact h)) c hc
      · rw [List.mem_singleton.1 hc]; exact hd _ (Nat.mod_lt _ (by omega))
theorem digF_len {base : Nat} {d : Nat → UInt8} (hb : 2 ≤ base) : ∀ (k n m : Nat), n < base ^ m → 0 < m → m ≤ k + 1 → (digF base d k n).length ≤ m
  | 0, n, m, _, h1, h2 => by simp [digF]; omega
  | k + 1, n, m, h, h1, h2 => by
    unfold digF
    by_cases hn : n < base
    · rw [if_pos hn]; simp; omega
    · rw [if_neg hn]
      obtain ⟨j, rfl⟩ : ∃ j, m = j + 1 := ⟨m - 1, by omega⟩
      have hj : 0 < j := by
        rcases Nat.eq_zero_or_pos j with rfl | h
        · simp at h; omega
        · exact h
      have := digF_len (d := d) hb k (n / base) j (Nat.div_lt_of_lt_mul (by rw [Nat.pow_succ, Nat.mul_comm] at h; exact h)) hj (by omega)
      rw [List.length_append]; simp; omega
theorem digF_ne {base : Nat} {d : Nat → UInt8} (k n : Nat) : digF base d k n ≠ [] := by
  cases k with
  | zero => simp [digF]
  | succ k => unfold digF; split <;> simp
theorem dec_dig : ∀ n, n < 10 → digV (decC n) = n := by decide
theorem hex_dig : ∀ n, n < 16 → digV (hexC n) = n := by decide
theorem dec_plain : ∀ n, n < 10 → decC n ≠ 59 ∧ decC n ≠ 120 ∧ digV (decC n) < 10 := by decide
theorem hex_plain : ∀ n, n < 16 → hexC n ≠ 59 ∧ digV (hexC n) < 16 := by decide
theorem numL_dec {r : Nat} (h : r ≤ 9999999) : numL 10 7 (decL r) = if runeOK r then some (utf8L r) else none := by
  have h1 := digF_num (base := 10) (d := decC) (by decide) dec_dig 7 r (by omega)
  have h2 := digF_all (base := 10) (d := decC) (P := fun c => decC 0 ≠ 59 ∧ digV c < 10) (by decide) (fun n hn => ⟨by decide, (dec_plain n hn).2.2⟩) 7 r (by omega)
  have h3 := digF_len (base := 10) (d := decC) (by decide) 7 r 7 (by omega) (by decide) (by decide)
  have h4 : (decL r).isEmpty = false := by
    cases hh : decL r with
    | nil => exact absurd hh (digF_ne (base := 10) (d := decC) 7 r)
    | cons _ _ => rfl
  have h5 : (decL r).all (fun c => decide (digV c < 10)) = true := by rw [List.all_eq_true]; intro c hc; exact decide_eq_true (h2 c hc).2
  have h6 : decide ((decL r).length ≤ 7) = true := decide_eq_true h3
  have h7 : numV 10 (decL r) = r := h1
  unfold numL
  rw [h4, h5, h6, h7]
  simp
theorem numL_hex {r : Nat} (h : r ≤ 9999999) : numL 16 6 (hexL r) = if runeOK r then some (utf8L r) else none := by
  have h1 := digF_num (base := 16) (d := hexC) (by decide) hex_dig 7 r (by omega)
  have h2 := digF_all (base := 16) (d := hexC) (P := fun c => digV c < 16) (by decide) (fun n hn => (hex_plain n hn).2) 7 r (by omega)
  have h3 := digF_len (base := 16) (d := hexC) (by decide) 7 r 6 (by omega) (by decide) (by decide)
  have h4 : (hexL r).isEmpty = false := by
    cases hh : hexL r with
    | nil => exact absurd hh (digF_ne (base := 16) (d := hexC) 7 r)
    | cons _ _ => rfl
  have h5 : (hexL r).all (fun c => decide (digV c < 16)) = true := by rw [List.all_eq_true]; intro c hc; exact decide_eq_true (h2 c hc)
  have h6 : decide ((hexL r).length ≤ 6) = true := decide_eq_true h3
  have h7 : numV 16 (hexL r) = r := h1
  unfold numL
  rw [h4, h5, h6, h7]
  simp
theorem dec_semi {r : Nat} (h : r ≤ 9999999) : (59 : UInt8) ∉ decL r := fun k => (digF_all (base := 10) (d := decC) (P := fun c => c ≠ 59) (by decide) (fun n hn => (dec_plain n hn).1) 7 r (by omega) 59 k) rfl
theorem dec_x {r : Nat} (h : r ≤ 9999999) : (120 : UInt8) ∉ decL r := fun k => (digF_all (base := 10) (d := decC) (P := fun c => c ≠ 120) (by decide) (fun n hn => (dec_plain n hn).2.1) 7 r (by omega) 120 k) rfl
theorem hex_semi {r : Nat} (h : r ≤ 9999999) : (59 : UInt8) ∉ hexL r := fun k => (digF_all (base := 16) (d := hexC) (P := fun c => c ≠ 59) (by decide) (fun n hn => (hex_plain n hn).1) 7 r (by omega) 59 k) rfl
theorem body_dec {ds : Str} (h : (120 : UInt8) ∉ ds) (hne : ds ≠ []) : bodyL (35 :: ds) = numL 10 7 ds := by
  obtain ⟨c, t, rfl⟩ := List.exists_cons_of_ne_nil hne
  have hc : c ≠ 120 := fun e => h (by rw [e]; exact List.mem_cons_self ..)
  unfold bodyL
  rw [if_neg (by simp), if_neg (by simp), if_neg (by simp), if_neg (by simp), if_neg (by simp)]
  split
  · rename_i e; exact absurd (List.cons.inj (List.cons.inj e).2).1 hc
  · rename_i ds' _ e; rw [(List.cons.inj e).2]
  · rename_i e1 e2; exact absurd rfl (e2 (c :: t))
theorem body_hex (ds : Str) : bodyL (35 :: 120 :: ds) = numL 16 6 ds := by
  unfold bodyL
  rw [if_neg (by simp), if_neg (by simp), if_neg (by simp), if_neg (by simp), if_neg (by simp)]
  rfl
def refT (r : Nat) : Str := 38 :: 35 :: (decL r ++ [59])
def refX (r : Nat) : Str := 38 :: 35 :: 120 :: (hexL r ++ [59])
theorem cut_last {c : UInt8} {v : Str} (h : c ∉ v) : cutL [c] (v ++ [c]) = some (v, []) := cut_at [] h
theorem ref_dec {r : Nat} (h : r ≤ 9999999) : refL (35 :: (decL r ++ [59])) = if runeOK r then some (utf8L r, []) else none := by
  unfold refL
  have hc : cutL [59] (35 :: (decL r ++ [59])) = some (35 :: decL r, []) := by
    rw [cut1_cons, if_neg (by decide), cut_last (dec_semi h)]; rfl
  rw [hc]
  dsimp only
  rw [body_dec (dec_x h) (digF_ne _ _), numL_dec h]
  split <;> rfl
theorem ref_hex {r : Nat} (h : r ≤ 9999999) : refL (35 :: 120 :: (hexL r ++ [59])) = if runeOK r then some (utf8L r, []) else none := by
  unfold refL
  have hc : cutL [59] (35 :: 120 :: (hexL r ++ [59])) = some (35 :: 120 :: hexL r, []) := by
    rw [cut1_cons, if_neg (by decide), cut1_cons, if_neg (by decide), cut_last (hex_semi h)]; rfl
  rw [hc]
  dsimp only
  rw [body_hex, numL_hex h]
  split <;> rfl
theorem utf8_ne (r : Nat) : utf8L r ≠ [] := by
  unfold utf8L
  by_cases a1 : r < 128
  · rw [if_pos a1]; simp
  rw [if_neg a1]
  by_cases a2 : r < 2048
  · rw [if_pos a2]; simp
  rw [if_neg a2]
  by_cases a3 : r < 65536
  · rw [if_pos a3]; simp
  · rw [if_neg a3]; simp
theorem read_ref {t : Str} {r : Nat} (h60 : 60 ∉ 38 :: t) (h : refL t = if runeOK r then some (utf8L r, []) else none) : readL (38 :: t) = if runeOK r then .ok [⟨3, [], [], utf8L r⟩] else .error 0 := by
  have := readG_text (k := 0) (l := []) (w := []) (rest := []) (seg := 38 :: t) (by simp) h60 (.inl rfl)
  rw [List.append_nil] at this
  show readG 0 [] [] (38 :: t) = _
  rw [this]
  by_cases hr : runeOK r = true
  · rw [if_pos hr] at h ⊢
    rw [saidL_amp h]
    show readG _ _ _ [] = _
    rw [readG_nil, flush_words _ (by simpa using utf8_ne r)]
    simp
  · rw [if_neg hr] at h ⊢
    rw [saidL_none h]
theorem dec_mark {r : Nat} (h : r ≤ 9999999) : (60 : UInt8) ∉ 38 :: (35 :: (decL r ++ [59])) := by
  intro k
  have h2 := digF_all (base := 10) (d := decC) (P := fun c => c ≠ 60) (by decide) (by decide) 7 r (by omega)
  rcases List.mem_cons.1 k with e | k; exact absurd e (by decide)
  rcases List.mem_cons.1 k with e | k; exact absurd e (by decide)
  rcases List.mem_append.1 k with k | k
  · exact h2 60 k rfl
  · exact absurd (List.mem_singleton.1 k) (by decide)
theorem hex_mark {r : Nat} (h : r ≤ 9999999) : (60 : UInt8) ∉ 38 :: (35 :: 120 :: (hexL r ++ [59])) := by
  intro k
  have h2 := digF_all (base := 16) (d := hexC) (P := fun c => c ≠ 60) (by decide) (by decide) 7 r (by omega)
  rcases List.mem_cons.1 k with e | k; exact absurd e (by decide)
  rcases List.mem_cons.1 k with e | k; exact absurd e (by decide)
  rcases List.mem_cons.1 k with e | k; exact absurd e (by decide)
  rcases List.mem_append.1 k with k | k
  · exact h2 60 k rfl
  · exact absurd (List.mem_singleton.1 k) (by decide)
theorem read_dec {r : Nat} (h : r ≤ 9999999) : readL (refT r) = if runeOK r then .ok [⟨3, [], [], utf8L r⟩] else .error 0 := read_ref (dec_mark h) (ref_dec h)
theorem read_hex {r : Nat} (h : r ≤ 9999999) : readL (refX r) = if runeOK r then .ok [⟨3, [], [], utf8L r⟩] else .error 0 := read_ref (hex_mark h) (ref_hex h)

/-! ### what a character's bytes say -/
def headV (c : UInt8) : Nat := if c.toNat < 128 then c.toNat else if c.toNat < 224 then c.toNat - 192 else if c.toNat < 240 then c.toNat - 224 else c.toNat - 240
def valL : Str → Nat
  | [] => 0
  | c :: t => t.foldl (fun n x => 64 * n + x.toNat % 64) (headV c)
theorem val_utf8 {r : Nat} (h : runeOK r = true) : valL (utf8L r) = r ∧ 1 ≤ (utf8L r).length ∧ (utf8L r).length ≤ 4 ∧ (decide ((utf8L r).length = 1) = decide (r < 128)) := by
  unfold runeOK at h
  simp only [Bool.and_eq_true, decide_eq_true_eq] at h
  obtain ⟨⟨h1, h2⟩, _⟩ := h
  unfold utf8L
  by_cases a1 : r < 128
  · rw [if_pos a1]
    refine ⟨?_, by simp, by simp, by simp [a1]⟩
    show headV (UInt8.ofNat r) = r
    have e : (UInt8.ofNat r).toNat = r := by rw [UInt8.toNat_ofNat']; omega
    unfold headV; rw [e, if_pos a1]
  rw [if_neg a1]
  by_cases a2 : r < 2048
  · rw [if_pos a2]
    refine ⟨?_, by simp, by simp, by simp [a1]⟩
    have e0 : (UInt8.ofNat (192 + r / 64)).toNat = 192 + r / 64 := by rw [UInt8.toNat_ofNat']; omega
    have e1 : (UInt8.ofNat (128 + r % 64)).toNat = 128 + r % 64 := by rw [UInt8.toNat_ofNat']; omega
    show 64 * headV (UInt8.ofNat (192 + r / 64)) + (UInt8.ofNat (128 + r % 64)).toNat % 64 = r
    unfold headV
    rw [e0, e1, if_neg (by omega), if_pos (by omega)]; omega
  rw [if_neg a2]
  by_cases a3 : r < 65536
  · rw [if_pos a3]
    refine ⟨?_, by simp, by simp, by simp [a1]⟩
    have e0 : (UInt8.ofNat (224 + r / 4096)).toNat = 224 + r / 4096 := by rw [UInt8.toNat_ofNat']; omega
    have e1 : (UInt8.ofNat (128 + r / 64 % 64)).toNat = 128 + r / 64 % 64 := by rw [UInt8.toNat_ofNat']; omega
    have e2 : (UInt8.ofNat (128 + r % 64)).toNat = 128 + r % 64 := by rw [UInt8.toNat_ofNat']; omega
    show 64 * (64 * headV (UInt8.ofNat (224 + r / 4096)) + (UInt8.ofNat (128 + r / 64 % 64)).toNat % 64) + (UInt8.ofNat (128 + r % 64)).toNat % 64 = r
    unfold headV
    rw [e0, e1, e2, if_neg (by omega), if_neg (by omega), if_pos (by omega)]; omega
  · rw [if_neg a3]
    refine ⟨?_, by simp, by simp, by simp [a1]⟩
    have e0 : (UInt8.ofNat (240 + r / 262144)).toNat = 240 + r / 262144 := by rw [UInt8.toNat_ofNat']; omega
    have e1 : (UInt8.ofNat (128 + r / 4096 % 64)).toNat = 128 + r / 4096 % 64 := by rw [UInt8.toNat_ofNat']; omega
    have e2 : (UInt8.ofNat (128 + r / 64 % 64)).toNat = 128 + r / 64 % 64 := by rw [UInt8.toNat_ofNat']; omega
    have e3 : (UInt8.ofNat (128 + r % 64)).toNat = 128 + r % 64 := by rw [UInt8.toNat_ofNat']; omega
    show 64 * (64 * (64 * headV (UInt8.ofNat (240 + r / 262144)) + (UInt8.ofNat (128 + r / 4096 % 64)).toNat % 64) + (UInt8.ofNat (128 + r / 64 % 64)).toNat % 64) + (UInt8.ofNat (128 + r % 64)).toNat % 64 = r
    unfold headV
    rw [e0, e1, e2, e3, if_neg (by omega), if_neg (by omega), if_neg (by omega)]; omega
end Go.Proofs.YtpinjgdnhbogoaaGreatDoor
