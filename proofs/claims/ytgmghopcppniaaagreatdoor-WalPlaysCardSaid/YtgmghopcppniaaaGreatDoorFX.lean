/- The reference's log: texts, digits, names: walked. -/
import Derived.Test.YtgmghopcppniaaaGreatDoorFR
import Derived.Test.YtgmghopcppniaaaGreatDoorFC
import Derived.Test.YtgmghopcppniaaaGreatDoorFG
import Derived.Test.YtgmghopcppniaaaGreatDoorFM
import Derived.Test.YtgmghopcppniaaaGreatDoorFQ
import Derived.Deep.RegionHeld3
import Derived.Deep.CutBlock
namespace Go.Proofs.YtgmghopcppniaaaGreatDoor
open Go.RowKit Go.Lib

set_option maxHeartbeats 4000000 in
theorem rtext_h {w : World} (s : Str) (hs : s.length ≤ 1000000) : Calls Tryz.prog 185 #[.string (bs s)] w fun e w' => e = .returned (.string (bs (textL s))) ∧ Fr (fun _ => False) w w' := by
 have hsz : (bs s).size = s.length := rfl
 have hI : I64 (s.length : Int) := by unfold I64; omega
 obtain ⟨t, ht⟩ : ∃ t, intL (s.length : Int) = t := ⟨_, rfl⟩
 have HN := Lib.hid (rint_at (w := w) hI ht)
 have hil := intL_len hI
 rw [ht] at hil
 have htz : (bs t).size = t.length := rfl
 have hcc : bs t ++ bs s = bs (t ++ s) := bs_append t s
 have HE := Lib.hid (show textL s = t ++ s by unfold textL; rw [ht])
 clear ht hI
 go_enter Tryz.func185, Tryz.ntmps185
 go_wp2_with fail
 refine Calls.mono HN.out ?_
 rintro e w2 ⟨rfl, hf2⟩
 have HF2 := Lib.hid hf2
 clear hf2 HN
 go_wp2_with fail
 go_ret
 exact ⟨by rw [HE.out] <;> rfl, HF2.out⟩
/-- digits -/
def digL (n : Nat) : Str := if n = 0 then [48] else decHi n
theorem digL_small {n : Nat} (h : n < 10) : digL n = [UInt8.ofNat (48 + n)] := by
 unfold digL
 by_cases h0 : n = 0
 ·rw [if_pos h0, h0]; rfl
 ·rw [if_neg h0, decHi_pos h0, show n / 10 = 0 by omega, decHi_zero, show n % 10 = n by omega]; rfl
theorem digL_big {n : Nat} (h : 10 ≤ n) : digL n = digL (n / 10) ++ digL (n % 10) := by
 rw [digL_small (n := n % 10) (by omega)]
 unfold digL
 rw [if_neg (by omega), if_neg (by omega), decHi_pos (by omega)]
theorem digL_len : ∀ (k n : Nat), n < 10 ^ k → (digL n).length ≤ k + 1 := by
 intro k n h
 unfold digL
 split
 ·simp
 ·have := decHi_len k n h; omega
def digT : Str := [48, 49, 50, 51, 52, 53, 54, 55, 56, 57]
theorem dig_pick {n : Nat} (h : n < 10) : (digT.take (n + 1)).drop n = [UInt8.ofNat (48 + n)] := by
 match n, h with
 | 0, _ => rfl
 | 1, _ => rfl
 | 2, _ => rfl
 | 3, _ => rfl
 | 4, _ => rfl
 | 5, _ => rfl
 | 6, _ => rfl
 | 7, _ => rfl
 | 8, _ => rfl
 | 9, _ => rfl
 | n + 10, h => omega
theorem dig_slice {w : World} {n : Nat} (h : n < 10) : (Instr.slice 9 (.string ⟨#[48, 49, 50, 51, 52, 53, 54, 55, 56, 57]⟩) (some (.int .i64 (n : Int))) (some (.int .i64 ((n : Int) + 1))) none).run Tryz.prog w = .ok (.string (bs (digL n))) w := by
 have h1 := slice_run (w := w) digT (i := (n : Int)) (j := (n : Int) + 1) (a := n) (b := n + 1) rfl (by omega) (by omega) (by show n + 1 ≤ 10; omega)
 rw [dig_pick h, ← digL_small h] at h1
 exact h1
set_option maxRecDepth 100000 in
set_option maxHeartbeats 4000000 in
theorem rdigits_h : ∀ (k n : Nat), n ≤ k → n < 10000000000 → ∀ (w : World), Calls Tryz.prog 47 #[.int .i64 (n : Int)] w fun e w' => e = .returned (.string (bs (digL n))) ∧ Fr (fun _ => False) w w' := by
 intro k
 induction k with
 | zero =>
  intro n hn _ w
  obtain rfl : n = 0 := by omega
  have hsl := dig_slice (w := w) (n := 0) (by decide)
  go_enter Tryz.func47, Tryz.ntmps47
  go_wp2_with fail
  go_ret
  exact ⟨rfl, Fr.refl _ _⟩
 | succ k ih =>
  intro n hn hb w
  by_cases h10 : n < 10
  ·have hi : (n : Int) < 10 := by omega
   have hsl := fun w : World => dig_slice (w := w) (n := n) h10
   have i1 : IntKind.i64.wrap ((n : Int) + 1) = (n : Int) + 1 := IntWalk.i64_in _ (by omega)
   clear ih hn
   go_enter Tryz.func47, Tryz.ntmps47
   go_wp2_with fail
   go_ret
   exact ⟨rfl, Fr.refl _ _⟩
  ·have hi : ¬ (n : Int) < 10 := by omega
   obtain ⟨q, hq⟩ : ∃ q, n / 10 = q := ⟨_, rfl⟩
   obtain ⟨r, hr⟩ : ∃ r, n % 10 = r := ⟨_, rfl⟩
   have hqi : (n : Int).tdiv 10 = (q : Int) := by rw [Int.tdiv_eq_ediv_of_nonneg (by omega)]; omega
   have hri : (n : Int).tmod 10 = (r : Int) := by rw [Int.tmod_eq_emod_of_nonneg (by omega)]; omega
   have hqi2 : (n : Int) / 10 = (q : Int) := by omega
   have hri2 : (n : Int) % 10 = (r : Int) := by omega
   have HQ := Lib.hid (fun W => ih q (by omega) (by omega) W)
   have HR := Lib.hid (fun W => ih r (by omega) (by omega) W)
   have HE := Lib.hid (show digL n = digL q ++ digL r by rw [digL_big (by omega), hq, hr])
   have l1 := digL_len 10 q (by omega)
   have l2 := digL_len 10 r (by omega)
   obtain ⟨a, ha⟩ : ∃ a, digL q = a := ⟨_, rfl⟩
   obtain ⟨b, hb2⟩ : ∃ b, digL r = b := ⟨_, rfl⟩
   rw [ha] at HQ HE l1
   rw [hb2] at HR HE l2
   have hza : (bs a).size = a.length := rfl
   have hzb : (bs b).size = b.length := rfl
   have hcc : bs a ++ bs b = bs (a ++ b) := bs_append a b
   clear ih hn hq hr ha hb2 h10
   go_enter Tryz.func47, Tryz.ntmps47
   go_wp2_with fail
   refine Calls.mono (HQ.out _) ?_
   rintro e w2 ⟨rfl, hf2⟩
   have HF2 := Lib.hid hf2
   clear hf2
   go_wp2_with fail
   refine Calls.mono (HR.out _) ?_
   rintro e w3 ⟨rfl, hf3⟩
   have HF3 := Lib.hid (HF2.out.next hf3)
   clear hf3
   go_wp2_with fail
   go_ret
   exact ⟨by rw [HE.out] <;> rfl, HF3.out⟩
/-! ### names -/
def nameX (n : Nat) : Str := 119 :: digL n
theorem nameX_is {n : Nat} (h : 0 < n) : nameX n = nameW n := by unfold nameX digL nameW; rw [if_neg (by omega)]
theorem w_app (l : Str) : (⟨#[119]⟩ : ByteArray) ++ bs l = bs (119 :: l) := bs_append [119] l
set_option maxHeartbeats 4000000 in
theorem rwname_h {w : World} {n : Nat} (hb : n < 10000000000) : Calls Tryz.prog 89 #[.int .i64 (n : Int)] w fun e w' => e = .returned (.string (bs (nameX n))) ∧ Fr (fun _ => False) w w' := by
 have HD := Lib.hid (fun W => rdigits_h n n (Nat.le_refl _) hb W)
 obtain ⟨a, ha⟩ : ∃ a, digL n = a := ⟨_, rfl⟩
 have hla := digL_len 10 n (by omega)
 have HE := Lib.hid (show nameX n = 119 :: a by unfold nameX; rw [ha])
 rw [ha] at HD hla
 have hza : (bs a).size = a.length := rfl
 have hcc := w_app a
 clear ha
 go_enter Tryz.func89, Tryz.ntmps89
 go_wp2_with fail
 refine Calls.mono (HD.out _) ?_
 rintro e w2 ⟨rfl, hf2⟩
 have HF2 := Lib.hid hf2
 clear hf2
 go_wp2_with fail
 go_ret
 exact ⟨by rw [HE.out] <;> rfl, HF2.out⟩
theorem rtoInt_some {w : World} {s t : Str} {n : Int} (hs : s.length ≤ 1000000) (h : toIntL s = some (n, t)) : Calls Tryz.prog 116 #[.string (bs s)] w fun e w' => e = .returned (.tuple #[.int .i64 n, .string (bs t), .bool true]) ∧ Fr (fun _ => False) w w' := by
 refine (rtoInt_h s hs).mono ?_
 rintro e w' ⟨rfl, hf⟩
 exact ⟨by unfold toIntD; rw [h], hf⟩
theorem rtoInt_none {w : World} {s : Str} (hs : s.length ≤ 1000000) (h : toIntL s = none) : Calls Tryz.prog 116 #[.string (bs s)] w fun e w' => e = .returned (.tuple #[.int .i64 0, .string (bs []), .bool false]) ∧ Fr (fun _ => False) w w' := by
 refine (rtoInt_h s hs).mono ?_
 rintro e w' ⟨rfl, hf⟩
 exact ⟨by unfold toIntD; rw [h], hf⟩
set_option maxRecDepth 100000 in
set_option maxHeartbeats 8000000 in
theorem rtotext_h {w : World} (s : Str) (hs : s.length ≤ 1000000) : Calls Tryz.prog 186 #[.string (bs s)] w fun e w' => e = .returned (.tuple #[.string (bs (toTextD s).1.1), .string (bs (toTextD s).1.2), .bool (toTextD s).2]) ∧ Fr (fun _ => False) w w' := by
 cases ht : toIntL s with
 | none =>
  have HT := Lib.hid (rtoInt_none (w := w) hs ht)
  have HE : Hid (toTextD s = (([], []), false)) := by show _ = _; unfold toTextD toTextL; rw [ht]
  clear ht
  go_enter Tryz.func186, Tryz.ntmps186
  go_wp2_with fail
  refine Calls.mono HT.out ?_
  rintro e w2 ⟨rfl, hf2⟩
  have HF2 := Lib.hid hf2
  clear hf2
  go_wp2_with fail
  go_ret3
  exact ⟨by rw [HE.out]; rfl, HF2.out⟩
 | some q =>
  obtain ⟨n, r⟩ := q
  have hrl : r.length ≤ s.length := by have := (toInt_back ht).1; rw [this, List.length_append]; omega
  have hrs : (bs r).size = r.length := rfl
  have HT := Lib.hid (rtoInt_some (w := w) hs ht)
  by_cases hn : n < 0
  ·have HE : Hid (toTextD s = (([], []), false)) := by show _ = _; unfold toTextD toTextL; rw [ht]; dsimp only; rw [if_pos (.inl hn)]
   clear ht
   go_enter Tryz.func186, Tryz.ntmps186
   go_wp2_with fail
   refine Calls.mono HT.out ?_
   rintro e w2 ⟨rfl, hf2⟩
   have HF2 := Lib.hid hf2
   clear hf2
   go_wp2_with fail
   go_ret3
   exact ⟨by rw [HE.out]; rfl, HF2.out⟩
  ·by_cases hl : (r.length : Int) < n
   ·have HE : Hid (toTextD s = (([], []), false)) := by show _ = _; unfold toTextD toTextL; rw [ht]; dsimp only; rw [if_pos (.inr hl)]
    clear ht
    go_enter Tryz.func186, Tryz.ntmps186
    go_wp2_with fail
    refine Calls.mono HT.out ?_
    rintro e w2 ⟨rfl, hf2⟩
    have HF2 := Lib.hid hf2
    clear hf2
    go_wp2_with fail
    go_ret3
    exact ⟨by rw [HE.out]; rfl, HF2.out⟩
   ·obtain ⟨k, rfl⟩ : ∃ k : Nat, n = (k : Int) := ⟨n.toNat, by omega⟩
    have hk : k ≤ r.length := by omega
    have HE : Hid (toTextD s = ((r.take k, r.drop k), true)) := by show _ = _; unfold toTextD toTextL; rw [ht]; dsimp only; rw [if_neg (by omega), Int.toNat_natCast]
    have e1 := fun (W : World) => xslice_to (w := W) r hk rfl
    have e2 := fun (W : World) => xslice_from (w := W) r hk rfl
    clear ht
    go_enter Tryz.func186, Tryz.ntmps186
    go_wp2_with fail
    refine Calls.mono HT.out ?_
    rintro e w2 ⟨rfl, hf2⟩
    have HF2 := Lib.hid hf2
    clear hf2
    go_wp2_with fail
    go_big_quiet (fail)
    go_wp2_with fail
    go_ret3
    exact ⟨by rw [HE.out] <;> rfl, by first | exact HF2.out | exact HF2.out.drewN _⟩
/-! ### the number of a name -/
theorem take_one {s : Str} {k : Nat} (h : k < s.length) : s.take (k + 1) = s.take k ++ [s.getD k 0] := by
 rw [List.take_succ_eq_append_getElem h, List.getD_eq_getElem?_getD, List.getElem?_eq_getElem h]; rfl
/-- ahead of place i (behind the first byte): the digits so far, their value -/
structure NumAt (s : Str) (i n : Nat) : Prop where
 le : i ≤ (s.drop 1).length
 dig : ∀ c ∈ (s.drop 1).take i, 48 ≤ c.toNat ∧ c.toNat ≤ 57
 val : n = decV ((s.drop 1).take i)
theorem NumAt.start (s : Str) : NumAt s 0 0 := ⟨Nat.zero_le _, fun c hc => by simp at hc, by simp [decV]⟩
theorem NumAt.next {s : Str} {i n d : Nat} (h : NumAt s i n) {c : UInt8} (hi : i < (s.drop 1).length) (hc : (s.drop 1).getD i 0 = c) (hd : c.toNat = 48 + d) (hd9 : d ≤ 9) : NumAt s (i + 1) (10 * n + d) := by
 refine ⟨hi, fun x hx => ?_, ?_⟩
 ·rw [take_one hi] at hx
  rcases List.mem_append.1 hx with hx | hx
  ·exact h.dig x hx
  ·rw [List.mem_singleton.1 hx, hc]; omega
 ·rw [take_one hi, decV_snoc, hc, ← h.val]; omega
theorem numW_digits {s : Str} (h : numW s ≠ 0) : ∃ t, s = 119 :: t ∧ t.length ≤ 6 ∧ (∀ c ∈ t, 48 ≤ c.toNat ∧ c.toNat ≤ 57) ∧ numW s = decV t ∧ 0 < decV t ∧ decHi (decV t) = t := by
 unfold numW at h ⊢
 split at h
 ·rename_i t
  split at h
  ·rename_i h1
   refine ⟨t, rfl, h1.1, fun c hc => ?_, if_pos h1, h1.2.1, h1.2.2⟩
   have := decHi_digit (decV t) (decV t) (Nat.le_refl _)
   rw [h1.2.2] at this
   exact this c hc
  ·exact absurd rfl h
 ·exact absurd rfl h
/-- a byte that is no digit -/
theorem num_bad {s : Str} {i : Nat} {c : UInt8} (hi : i < (s.drop 1).length) (hc : (s.drop 1).getD i 0 = c) (hb : ¬ (48 ≤ c.toNat ∧ c.toNat ≤ 57)) : numW s = 0 := by
 refine Classical.byContradiction fun h => ?_
 obtain ⟨t, rfl, _, h2, _⟩ := numW_digits h
 refine hb (h2 c ?_)
 rw [List.getD_eq_getElem?_getD] at hc
 have h3 : (119 :: t).drop 1 = t := rfl
 rw [h3] at hi hc
 rw [List.getElem?_eq_getElem hi] at hc
 rw [← hc]
 exact List.getElem_mem hi
/-- too large -/
theorem num_big {s : Str} {i n : Nat} (h : NumAt s i n) (hn : 1000000 ≤ n) : numW s = 0 := by
 refine Classical.byContradiction fun h0 => ?_
 obtain ⟨t, rfl, h1, h2, _⟩ := numW_digits h0
 have h3 : (119 :: t).drop 1 = t := rfl
 have h4 := h.val
 rw [h3] at h4
 have := decV_lt 6 (t.take i) (by rw [List.length_take]; omega) (fun c hc => h2 c (List.mem_of_mem_take hc))
 omega
theorem num_short {s : Str} (h : s.length < 2) : numW s = 0 := by
 refine Classical.byContradiction fun h0 => ?_
 obtain ⟨t, rfl, _, _, _, h5, _⟩ := numW_digits h0
 have : t = [] := List.eq_nil_of_length_eq_zero (by simp at h; omega)
 rw [this] at h5
 exact absurd h5 (by decide)
theorem num_other {s : Str} (h : s.getD 0 0 ≠ 119) : numW s = 0 := by
 refine Classical.byContradiction fun h0 => ?_
 obtain ⟨t, rfl, _⟩ := numW_digits h0
 exact h rfl
/-- all of it read -/
theorem num_end {s : Str} {n : Nat} (h : NumAt s (s.drop 1).length n) (hn : n < 1000000) : numW s = if s = nameX n then n else 0 := by
 have hv := h.val
 rw [List.take_length] at hv
 by_cases he : s = nameX n
 ·rw [if_pos he]
  by_cases h0 : n = 0
  ·rw [he, h0]; rfl
  ·rw [he, nameX_is (by omega)]; exact numW_name (by omega) hn
 ·rw [if_neg he]
  refine Classical.byContradiction fun h1 => he ?_
  obtain ⟨t, rfl, _, _, _, h5, h6⟩ := numW_digits h1
  have h3 : (119 :: t).drop 1 = t := rfl
  rw [h3] at hv
  rw [nameX_is (by omega), hv]
  unfold nameW
  rw [h6]
end Go.Proofs.YtgmghopcppniaaaGreatDoor

/- The reference's log: the number of a name; records: walked. -/
namespace Go.Proofs.YtgmghopcppniaaaGreatDoor
open Go.RowKit Go.Lib

set_option maxRecDepth 100000 in
set_option maxHeartbeats 8000000 in
theorem rnumber_h {w : World} (s : Str) (hs : s.length ≤ 1000000) : Calls Tryz.prog 100 #[.string (bs s)] w fun e w' => e = .returned (.int .i64 ((numW s : Nat) : Int)) ∧ Fr (fun _ => False) w w' := by
 have hsz : (bs s).size = s.length := rfl
 go_enter Tryz.func100, Tryz.ntmps100
 go_wp2_with fail
 go_loopg [3, 4] (s.length) (fun j v3 v4 wr => ∃ k n : Nat, (k + j = s.length + 1 ∧ 1 ≤ k) ∧ (v3 = .int .i64 (n : Int) ∧ v4 = .int .i64 (k : Int)) ∧ n < 10000000 ∧ Hid (NumAt s (k - 1) n ∨ (s.length = 0 ∧ k = 1 ∧ n = 0)) ∧ wr = w)
 case atStart => exact ⟨1, 0, ⟨by omega, Nat.le_refl _⟩, ⟨rfl, rfl⟩, by decide, Lib.hid (.inl (NumAt.start s)), rfl⟩
 case round =>
  obtain ⟨k, n, hk, ⟨rfl, rfl⟩, hn7, HA, rfl⟩ := hrel
  have HK := Lib.hid hk
  clear hk
  by_cases hlt : k < s.length
  ·have hlti : (k : Int) < (s.length : Int) := by omega
   have HNA : Hid (NumAt s (k - 1) n) := by
    rcases HA.out with h | h
    ·exact h
    ·omega
   by_cases hbig : n < 1000000
   ·have hbi : (n : Int) < 1000000 := by omega
    have hz : k < (bs s).size := by rw [hsz]; exact hlt
    have hg := bs_at s k hz
    have hgd : (s.drop 1).getD (k - 1) 0 = s.getD k 0 := by
     rw [List.getD_eq_getElem?_getD, List.getD_eq_getElem?_getD, List.getElem?_drop]
     congr 2; have := HK.out; omega
    have hil : k - 1 < (s.drop 1).length := by rw [List.length_drop]; have := HK.out; omega
    generalize hc : s.getD k 0 = c at *
    have HC := Lib.hid hgd
    have HIL := Lib.hid hil
    clear hc hgd hil
    by_cases hd : 48 ≤ c.toNat ∧ c.toNat ≤ 57
    ·obtain ⟨d, hd1⟩ : ∃ d, c.toNat = 48 + d := ⟨c.toNat - 48, by omega⟩
     have hd9 : d ≤ 9 := by omega
     have hgn : ((bs s)[k].toNat : Int) = 48 + (d : Int) := by rw [hg, hd1]; simp
     have HN := Lib.hid (HNA.out.next HIL.out HC.out hd1 hd9)
     have d1 : ¬ (48 : Int) + (d : Int) < 48 := by omega
     have d2 : ¬ (57 : Int) < 48 + (d : Int) := by omega
     have w1 : IntKind.u8.wrap (48 + (d : Int) - 48) = (d : Int) := by rw [IntKind.wrap_u8]; omega
     have w2 : IntKind.i64.wrap (10 * (n : Int)) = 10 * (n : Int) := IntWalk.i64_in _ (by omega)
     have w3 : IntKind.i64.wrap (10 * (n : Int) + (d : Int)) = ((10 * n + d : Nat) : Int) := by rw [IntWalk.i64_in _ (by omega)]; omega
     clear hd hg hd1
     go_wp2_with fail
     go_roundg (s.length - k)
     case measure => have := HK.out; omega
     case rel => exact ⟨k + 1, 10 * n + d, ⟨by omega, by omega⟩, ⟨by go_num, by go_num⟩, by omega, Lib.hid (.inl (by rw [show k + 1 - 1 = k - 1 + 1 by have := HK.out; omega]; exact HN.out)), rfl⟩
    ·have HZ := Lib.hid (num_bad HIL.out HC.out hd)
     have hgn : ((bs s)[k].toNat : Int) = (c.toNat : Int) := by rw [hg]
     by_cases h1 : c.toNat < 48
     ·have d1 : (c.toNat : Int) < 48 := by omega
      clear hd hg h1
      go_wp2_with fail
      go_ret
      exact ⟨by rw [HZ.out] <;> rfl, Fr.refl _ _⟩
     ·have d1 : ¬ (c.toNat : Int) < 48 := by omega
      have d2 : (57 : Int) < (c.toNat : Int) := by omega
      clear hd hg h1
      go_wp2_with fail
      go_ret
      exact ⟨by rw [HZ.out] <;> rfl, Fr.refl _ _⟩
   ·have hbi : ¬ (n : Int) < 1000000 := by omega
    have HZ := Lib.hid (num_big HNA.out (by omega))
    have hl2 : ¬ (s.length : Int) < 2 := by have := HK.out; omega
    have hz : 0 < (bs s).size := by rw [hsz]; omega
    have hg := bs_at s 0 hz
    have hbi2 : (1000000 : Int) ≤ (n : Int) := by omega
    clear hbig
    by_cases h119 : s.getD 0 0 = 119
    ·have hgn : ((bs s)[0].toNat : Int) = 119 := by rw [hg, h119]; rfl
     clear hg h119
     go_wp2_with fail
     go_ret
     exact ⟨by rw [HZ.out] <;> rfl, Fr.refl _ _⟩
    ·generalize hc : s.getD 0 0 = c at *
     have hgn : ((bs s)[0].toNat : Int) = (c.toNat : Int) := by rw [hg]
     have hcn : ¬ (c.toNat : Int) = 119 := fun h => h119 (byte_eq (by have : (119 : UInt8).toNat = 119 := rfl; omega))
     clear hg h119 hc
     go_wp2_with fail
     go_ret
     exact ⟨by rw [HZ.out] <;> rfl, Fr.refl _ _⟩
  ·have hlti : ¬ (k : Int) < (s.length : Int) := by omega
   by_cases hl2 : s.length < 2
   ·have HZ := Lib.hid (num_short hl2)
    have hl2i : (s.length : Int) < 2 := by omega
    clear hl2
    go_wp2_with fail
    go_ret
    exact ⟨by rw [HZ.out] <;> rfl, Fr.refl _ _⟩
   ·have hl2i : ¬ (s.length : Int) < 2 := by omega
    have HNA : Hid (NumAt s (s.drop 1).length n) := by
     rcases HA.out with h | h
     ·have h1 := h.le
      have : k - 1 = (s.drop 1).length := by rw [List.length_drop] at h1 ⊢; omega
      rw [← this]; exact h
     ·omega
    have hz : 0 < (bs s).size := by rw [hsz]; omega
    have hg := bs_at s 0 hz
    by_cases h119 : s.getD 0 0 = 119
    ·have hgn : ((bs s)[0].toNat : Int) = 119 := by rw [hg, h119]; rfl
     clear hg h119
     by_cases hbig : 1000000 ≤ n
     ·have HZ := Lib.hid (num_big HNA.out hbig)
      have hbi : (1000000 : Int) ≤ (n : Int) := by omega
      clear hbig
      go_wp2_with fail
      go_ret
      exact ⟨by rw [HZ.out] <;> rfl, Fr.refl _ _⟩
     ·have hbi : ¬ (1000000 : Int) ≤ (n : Int) := by omega
      have HZ := Lib.hid (num_end HNA.out (by omega))
      have HD := Lib.hid (fun W => rdigits_h n n (Nat.le_refl _) (by omega) W)
      obtain ⟨a, ha⟩ : ∃ a, digL n = a := ⟨_, rfl⟩
      have hla := digL_len 10 n (by omega)
      unfold nameX at HZ
      rw [ha] at HD HZ hla
      have hza : (bs a).size = a.length := rfl
      have hcc := w_app a
      obtain ⟨b, hb⟩ : ∃ b, 119 :: a = b := ⟨_, rfl⟩
      rw [hb] at hcc HZ
      clear ha hbig hb
      by_cases he : s = b
      ·have he2 : (bs s).toList = (bs b).toList := by rw [he]
       have HE := Lib.hid (HZ.out.trans (if_pos he))
       clear he
       go_wp2_with fail
       refine Calls.mono (HD.out _) ?_
       rintro e w2 ⟨rfl, hf2⟩
       have HF2 := Lib.hid hf2
       clear hf2
       go_wp2_with fail
       go_ret
       exact ⟨by rw [HE.out] <;> rfl, HF2.out⟩
      ·have he3 : ((bs s).toList == (bs b).toList) = false := by rw [bs_toList, bs_toList]; exact beq_eq_false_iff_ne.2 he
       have HE := Lib.hid (HZ.out.trans (if_neg he))
       clear he
       go_wp2_with fail
       refine Calls.mono (HD.out _) ?_
       rintro e w2 ⟨rfl, hf2⟩
       have HF2 := Lib.hid hf2
       clear hf2
       go_wp2_with fail
       go_ret
       exact ⟨by rw [HE.out] <;> rfl, HF2.out⟩
    ·have HZ := Lib.hid (num_other h119)
     generalize hc : s.getD 0 0 = c at *
     have hgn : ((bs s)[0].toNat : Int) = (c.toNat : Int) := by rw [hg]
     have hcn : ¬ (c.toNat : Int) = 119 := fun h => h119 (byte_eq (by have : (119 : UInt8).toNat = 119 := rfl; omega))
     clear hg h119 hc
     go_wp2_with fail
     go_ret
     exact ⟨by rw [HZ.out] <;> rfl, Fr.refl _ _⟩
end Go.Proofs.YtgmghopcppniaaaGreatDoor

/- The reference's log: payloads, frames, laying down: walked. -/
namespace Go.Proofs.YtgmghopcppniaaaGreatDoor
open Go.RowKit Go.Lib

def recX (k t v : Int) (e : EntD) : List Value := [.int .i64 k, .int .i64 t, .int .i64 v, .int .i64 e.index, .int .i64 e.term, .int .i64 e.kind, .string (bs e.data)]
def recV (k t v : Int) (e : EntD) : Value := .agg #[.int .i64 k, .int .i64 t, .int .i64 v, .int .i64 e.index, .int .i64 e.term, .int .i64 e.kind, .string (bs e.data)]
def payX (k t v : Int) (e : EntD) : Str := if k = 1 then hardTx t v else if k = 2 then entTx e else intL 3
set_option maxRecDepth 100000 in
set_option maxHeartbeats 16000000 in
theorem rpayload_h {w : World} {k t v : Int} {e : EntD} (ht : I64 t) (hv : I64 v) (hi : I64 e.index) (hte : I64 e.term) (hk : I64 e.kind) (hd : e.data.length ≤ 1000000) :
  Calls Tryz.prog 138 #[recV k t v e] w fun r w' => r = .returned (.string (bs (payX k t v e))) ∧ Fr (fun _ => False) w w' := by
 obtain ⟨w1, hw1⟩ : ∃ w1, w1 = w.alloc (.cells #[.int .i64 k, .int .i64 t, .int .i64 v, .int .i64 e.index, .int .i64 e.term, .int .i64 e.kind, .string (bs e.data)] 148) := ⟨_, rfl⟩
 have HF1 : Hid (Fr (fun _ => False) w w1) := by show Fr _ _ _; rw [hw1]; exact (Fr.refl _ _).alloc _
 have hb : w1.heap[w.heap.size]? = some (.cells #[.int .i64 k, .int .i64 t, .int .i64 v, .int .i64 e.index, .int .i64 e.term, .int .i64 e.kind, .string (bs e.data)] 148 (0, 0)) := by rw [hw1]; exact block_new _ _
 have HB := Lib.hid hb
 have x0 := cell_of hb (i := 0) (v := .int .i64 k) rfl
 have x1 := cell_of hb (i := 1) (v := .int .i64 t) rfl
 have x2 := cell_of hb (i := 2) (v := .int .i64 v) rfl
 have x3 := cell_of hb (i := 3) (v := .int .i64 e.index) rfl
 have x4 := cell_of hb (i := 4) (v := .int .i64 e.term) rfl
 have x5 := cell_of hb (i := 5) (v := .int .i64 e.kind) rfl
 have x6 := cell_of hb (i := 6) (v := .string (bs e.data)) rfl
 have hlt := lt_of_block hb
 unfold recV
 clear hb
 go_enter Tryz.func138, Tryz.ntmps138
 go_upto_region 1 with fail
 rw [← hw1]
 clear hw1
 by_cases k1 : k = 1
 ·subst k1
  have HE : Hid (payX 1 t v e = hardTx t v) := by show _ = _; unfold payX; rw [if_pos rfl]
  obtain ⟨T1, h1⟩ : ∃ T, intL 1 = T := ⟨_, rfl⟩
  obtain ⟨TT, h2⟩ : ∃ T, intL t = T := ⟨_, rfl⟩
  obtain ⟨TV, h3⟩ : ∃ T, intL v = T := ⟨_, rfl⟩
  have HH : Hid (hardTx t v = T1 ++ (TT ++ TV)) := by show _ = _; unfold hardTx; rw [← h1, ← h2, ← h3]; simp [intsL]
  have H1 := Lib.hid (fun W => rint_at (w := W) (n := 1) (i64_small (by decide) (by decide)) h1)
  have H2 := Lib.hid (fun W => rint_at (w := W) ht h2)
  have H3 := Lib.hid (fun W => rint_at (w := W) hv h3)
  have l1 := intL_len (n := 1) (i64_small (by decide) (by decide))
  have l2 := intL_len ht
  have l3 := intL_len hv
  rw [h1] at l1
  rw [h2] at l2
  rw [h3] at l3
  have z1 : (bs T1).size = T1.length := rfl
  have z2 : (bs TT).size = TT.length := rfl
  have z3 : (bs TV).size = TV.length := rfl
  have z4 : (bs (T1 ++ TT)).size = T1.length + TT.length := List.length_append
  have hc1 : bs T1 ++ bs TT = bs (T1 ++ TT) := bs_append T1 TT
  have hc2 : bs (T1 ++ TT) ++ bs TV = bs (T1 ++ TT ++ TV) := bs_append (T1 ++ TT) TV
  clear h1 h2 h3 ht hv hi hte hk hd x3 x4 x5 x6
  go_upto_region 3 with fail
  go_region_held (fun w' => w'.cell? ⟨w.heap.size, 1, none⟩ = some (.int .i64 t) ∧ w'.cell? ⟨w.heap.size, 2, none⟩ = some (.int .i64 v))
   (first | go_keep | (with_reducible exact ⟨a5, b5⟩) | (with_reducible exact ⟨a4, b4⟩) | (with_reducible exact ⟨a3, b3⟩) | fail)
   (first
    | (go_at_call 117; (with_reducible refine Calls.mono (H1.out _) ?_); clear H1; rintro r w3 ⟨rfl, hq⟩; have f3 := (show Fr (fun _ => False) w1 _ by repeat (first | exact Fr.refl _ _ | refine Fr.drew ?_)).next hq; have a3 := f3.cell x1 (fun h => h); have b3 := f3.cell x2 (fun h => h); clear hq)
    | (have tok := a3; clear tok; go_at_call 117; (with_reducible refine Calls.mono (H2.out _) ?_); clear H2; rintro r w4 ⟨rfl, hq⟩; have f4 := (show Fr (fun _ => False) w1 _ by repeat (first | exact f3 | refine Fr.drew ?_)).next hq; have a4 := f4.cell x1 (fun h => h); have b4 := f4.cell x2 (fun h => h); clear hq)
    | (have tok := a4; clear tok; go_at_call 117; (with_reducible refine Calls.mono (H3.out _) ?_); clear H3; rintro r w5 ⟨rfl, hq⟩; have f5 := (show Fr (fun _ => False) w1 _ by repeat (first | exact f4 | refine Fr.drew ?_)).next hq; have a5 := f5.cell x1 (fun h => h); have b5 := f5.cell x2 (fun h => h); clear hq)
    | fail)
  all_goals
   go_wp2_with fail
   go_ret
   exact ⟨by rw [HE.out, HH.out] <;> rfl, by first | exact HF1.out.next f5 | exact HF1.out.next f5.drew⟩
 ·by_cases k2 : k = 2
  ·subst k2
   have HE : Hid (payX 2 t v e = entTx e) := by show _ = _; unfold payX; rw [if_neg (by decide), if_pos rfl]
   have q2 : ((2 : Int) == 1) = false := rfl
   obtain ⟨T1, h1⟩ : ∃ T, intL 2 = T := ⟨_, rfl⟩
   obtain ⟨T2, h2⟩ : ∃ T, intL e.index = T := ⟨_, rfl⟩
   obtain ⟨T3, h3⟩ : ∃ T, intL e.term = T := ⟨_, rfl⟩
   obtain ⟨T4, h4⟩ : ∃ T, intL e.kind = T := ⟨_, rfl⟩
   obtain ⟨T5, h5⟩ : ∃ T, textL e.data = T := ⟨_, rfl⟩
   have HH : Hid (entTx e = T1 ++ (T2 ++ (T3 ++ (T4 ++ T5)))) := by show _ = _; unfold entTx; rw [← h1, ← h2, ← h3, ← h4, ← h5]; simp [intsL]
   have H1 := Lib.hid (fun W => rint_at (w := W) (n := 2) (i64_small (by decide) (by decide)) h1)
   have H2 := Lib.hid (fun W => rint_at (w := W) hi h2)
   have H3 := Lib.hid (fun W => rint_at (w := W) hte h3)
   have H4 := Lib.hid (fun W => rint_at (w := W) hk h4)
   have H5 := Lib.hid (fun W => rtext_h (w := W) e.data hd)
   rw [h5] at H5
   have l1 := intL_len (n := 2) (i64_small (by decide) (by decide))
   have l2 := intL_len hi
   have l3 := intL_len hte
   have l4 := intL_len hk
   have l5 : (textL e.data).length ≤ 1000010 := by
    unfold textL
    have := intL_len (n := (e.data.length : Int)) (by unfold I64; omega)
    rw [List.length_append]; omega
   rw [h1] at l1
   rw [h2] at l2
   rw [h3] at l3
   rw [h4] at l4
   rw [h5] at l5
   have z1 : (bs T1).size = T1.length := rfl
   have z2 : (bs T2).size = T2.length := rfl
   have z3 : (bs T3).size = T3.length := rfl
   have z4 : (bs T4).size = T4.length := rfl
   have z5 : (bs T5).size = T5.length := rfl
   have z12 : (bs (T1 ++ T2)).size = T1.length + T2.length := List.length_append
   have z13 : (bs (T1 ++ (T2 ++ T3))).size = T1.length + (T2.length + T3.length) := by show (T1 ++ (T2 ++ T3)).length = _; simp
   have z14 : (bs (T1 ++ (T2 ++ (T3 ++ T4)))).size = T1.length + (T2.length + (T3.length + T4.length)) := by show (T1 ++ (T2 ++ (T3 ++ T4))).length = _; simp
   have hc1 : bs T1 ++ bs T2 = bs (T1 ++ T2) := bs_append _ _
   have hc2 : bs (T1 ++ T2) ++ bs T3 = bs (T1 ++ (T2 ++ T3)) := by rw [bs_append, List.append_assoc]
   have hc3 : bs (T1 ++ (T2 ++ T3)) ++ bs T4 = bs (T1 ++ (T2 ++ (T3 ++ T4))) := by rw [bs_append]; simp
   have hc4 : bs (T1 ++ (T2 ++ (T3 ++ T4))) ++ bs T5 = bs (T1 ++ (T2 ++ (T3 ++ (T4 ++ T5)))) := by rw [bs_append]; simp
   clear h1 h2 h3 h4 h5 ht hv hi hte hk hd x1 x2
   go_upto_region 5 with fail
   obtain ⟨w2, hw2⟩ : ∃ w2, w2 = w1.alloc (.cells #[.int .i64 e.index, .int .i64 e.term, .int .i64 e.kind, .string (bs e.data)] 95) := ⟨_, rfl⟩
   have HF2 : Hid (Fr (fun _ => False) w w2) := by show Fr _ _ _; rw [hw2]; exact HF1.out.alloc _
   have hb2 : w2.heap[w1.heap.size]? = some (.cells #[.int .i64 e.index, .int .i64 e.term, .int .i64 e.kind, .string (bs e.data)] 95 (0, 0)) := by rw [hw2]; exact block_new _ _
   go_upto_region 6 with fail
   rw [← hw2]
   clear hw2 x0 x3 x4 x5 x6 hlt
   have y0 := cell_of hb2 (i := 0) (v := .int .i64 e.index) rfl
   have y1 := cell_of hb2 (i := 1) (v := .int .i64 e.term) rfl
   have y2 := cell_of hb2 (i := 2) (v := .int .i64 e.kind) rfl
   have y3 := cell_of hb2 (i := 3) (v := .string (bs e.data)) rfl
   have hlt2 := lt_of_block hb2
   clear hb2
   go_region_held (fun w' => w'.cell? ⟨w1.heap.size, 0, none⟩ = some (.int .i64 e.index) ∧ w'.cell? ⟨w1.heap.size, 1, none⟩ = some (.int .i64 e.term) ∧ w'.cell? ⟨w1.heap.size, 2, none⟩ = some (.int .i64 e.kind) ∧ w'.cell? ⟨w1.heap.size, 3, none⟩ = some (.string (bs e.data)))
    (first | go_keep | (with_reducible exact p7) | (with_reducible exact p6) | (with_reducible exact p5) | (with_reducible exact p4) | (with_reducible exact p3) | fail)
    (first
     | (go_at_call 117; (with_reducible refine Calls.mono (H1.out _) ?_); clear H1; rintro r w3 ⟨rfl, hq⟩; have f3 := (show Fr (fun _ => False) w2 _ by repeat (first | exact Fr.refl _ _ | refine Fr.drew ?_)).next hq; have p3 := And.intro (f3.cell y0 (fun h => h)) (And.intro (f3.cell y1 (fun h => h)) (And.intro (f3.cell y2 (fun h => h)) (f3.cell y3 (fun h => h)))); clear hq)
     | (have tok := p3; clear tok; go_at_call 117; (with_reducible refine Calls.mono (H2.out _) ?_); clear H2; rintro r w4 ⟨rfl, hq⟩; have f4 := (show Fr (fun _ => False) w2 _ by repeat (first | exact f3 | refine Fr.drew ?_)).next hq; have p4 := And.intro (f4.cell y0 (fun h => h)) (And.intro (f4.cell y1 (fun h => h)) (And.intro (f4.cell y2 (fun h => h)) (f4.cell y3 (fun h => h)))); clear hq)
     | (have tok := p4; clear tok; go_at_call 117; (with_reducible refine Calls.mono (H3.out _) ?_); clear H3; rintro r w5 ⟨rfl, hq⟩; have f5 := (show Fr (fun _ => False) w2 _ by repeat (first | exact f4 | refine Fr.drew ?_)).next hq; have p5 := And.intro (f5.cell y0 (fun h => h)) (And.intro (f5.cell y1 (fun h => h)) (And.intro (f5.cell y2 (fun h => h)) (f5.cell y3 (fun h => h)))); clear hq)
     | (have tok := p5; clear tok; go_at_call 117; (with_reducible refine Calls.mono (H4.out _) ?_); clear H4; rintro r w6 ⟨rfl, hq⟩; have f6 := (show Fr (fun _ => False) w2 _ by repeat (first | exact f5 | refine Fr.drew ?_)).next hq; have p6 := And.intro (f6.cell y0 (fun h => h)) (And.intro (f6.cell y1 (fun h => h)) (And.intro (f6.cell y2 (fun h => h)) (f6.cell y3 (fun h => h)))); clear hq)
     | (have tok := p6; clear tok; go_at_call 185; (with_reducible refine Calls.mono (H5.out _) ?_); clear H5; rintro r w7 ⟨rfl, hq⟩; have f7 := (show Fr (fun _ => False) w2 _ by repeat (first | exact f6 | refine Fr.drew ?_)).next hq; have p7 := And.intro (f7.cell y0 (fun h => h)) (And.intro (f7.cell y1 (fun h => h)) (And.intro (f7.cell y2 (fun h => h)) (f7.cell y3 (fun h => h)))); clear hq)
     | fail)
   all_goals
    go_wp2_with fail
    go_ret
    exact ⟨by rw [HE.out, HH.out] <;> rfl, by first | exact HF2.out.next f7 | exact HF2.out.next f7.drew⟩
  ·have HE : Hid (payX k t v e = intL 3) := by show _ = _; unfold payX; rw [if_neg k1, if_neg k2]
   have q1 : (k == 1) = false := by simpa using k1
   have q2 : (k == 2) = false := by simpa using k2
   have H3 := Lib.hid (fun W => rint_h (w := W) (n := 3) (i64_small (by decide) (by decide)))
   clear ht hv hi hte hk hd x1 x2 x3 x4 x5 x6 hlt
   go_wp2_with fail
   refine Calls.mono (H3.out _) ?_
   rintro r w2 ⟨rfl, hf2⟩
   have HF2 := Lib.hid (HF1.out.next hf2)
   clear hf2
   go_wp2_with fail
   go_ret
   exact ⟨by rw [HE.out] <;> rfl, HF2.out⟩
end Go.Proofs.YtgmghopcppniaaaGreatDoor

/- The reference's log in memory; frames, laying down: walked. -/
namespace Go.Proofs.YtgmghopcppniaaaGreatDoor
open Go.RowKit Go.Lib

set_option maxRecDepth 100000 in
set_option maxHeartbeats 4000000 in
theorem rfr_h {w : World} {k t v : Int} {e : EntD} {f : Str} (ht : I64 t) (hv : I64 v) (hi : I64 e.index) (hte : I64 e.term) (hk : I64 e.kind) (hd : e.data.length ≤ 1000000) (hl : (payX k t v e).length ≤ 65536) (hf : frameL (payX k t v e) = f) :
  Calls Tryz.prog 87 #[recV k t v e] w fun r w' => r = .returned (.string (bs f)) ∧ Fr (fun _ => False) w w' := by
 have HP := Lib.hid (fun W => rpayload_h (w := W) (k := k) ht hv hi hte hk hd)
 obtain ⟨p, hp⟩ : ∃ p, payX k t v e = p := ⟨_, rfl⟩
 rw [hp] at HP hl hf
 have HFR := Lib.hid (fun W => rframe_at (w := W) hl hf)
 unfold recV at HP ⊢
 obtain ⟨w1, hw1⟩ : ∃ w1, w1 = w.alloc (.cells #[.int .i64 k, .int .i64 t, .int .i64 v, .int .i64 e.index, .int .i64 e.term, .int .i64 e.kind, .string (bs e.data)] 148) := ⟨_, rfl⟩
 have HF1 : Hid (Fr (fun _ => False) w w1) := by show Fr _ _ _; rw [hw1]; exact (Fr.refl _ _).alloc _
 have hb : w1.heap[w.heap.size]? = some (.cells #[.int .i64 k, .int .i64 t, .int .i64 v, .int .i64 e.index, .int .i64 e.term, .int .i64 e.kind, .string (bs e.data)] 148 (0, 0)) := by rw [hw1]; exact block_new _ _
 have x0 := cell_of hb (i := 0) (v := .int .i64 k) rfl
 have x1 := cell_of hb (i := 1) (v := .int .i64 t) rfl
 have x2 := cell_of hb (i := 2) (v := .int .i64 v) rfl
 have x3 := cell_of hb (i := 3) (v := .int .i64 e.index) rfl
 have x4 := cell_of hb (i := 4) (v := .int .i64 e.term) rfl
 have x5 := cell_of hb (i := 5) (v := .int .i64 e.kind) rfl
 have x6 := cell_of hb (i := 6) (v := .string (bs e.data)) rfl
 clear hb ht hv hi hte hk hd hl hf hp
 go_enter Tryz.func87, Tryz.ntmps87
 go_upto_region 1 with fail
 rw [← hw1]
 clear hw1
 go_wp2_with fail
 refine Calls.mono (HP.out _) ?_
 rintro r w2 ⟨rfl, hf2⟩
 have HF2 := Lib.hid (HF1.out.next hf2)
 clear hf2
 go_wp2_with fail
 refine Calls.mono (HFR.out _) ?_
 rintro r w3 ⟨rfl, hf3⟩
 have HF3 := Lib.hid (HF2.out.next hf3)
 clear hf3
 go_wp2_with fail
 go_ret
 exact ⟨rfl, HF3.out⟩
/-- the reference's log in memory: its struct, its disk, its entries; S: the blocks that it has -/
structure RWal (w : World) (S : Nat → Prop) (rl rb : Nat) (lv le : Value) (st : StD) (D : DiskD) : Prop where
 head : w.heap[rl]? = some (.cells #[.pointer (some ⟨rb, 0, none⟩), .int .i64 st.t, .int .i64 st.v, le] 65 (0, 0))
 ents : SRow w (fun k => S k ∧ k ≠ rl ∧ ¬ OwnR rb lv k) 4 le st.ents.length (entsC st.ents)
 disk : RefAt w rb lv D
 srl : S rl
 srb : ∀ k, OwnR rb lv k → S k
 ne : ¬ OwnR rb lv rl
 lt : ∀ k, S k → k < w.heap.size
def RAll (rl rb : Nat) (lv : Value) : Nat → Prop := fun k => k = rl ∨ OwnR rb lv k
section
variable {w w' : World} {S : Nat → Prop} {rl rb : Nat} {lv lv' le : Value} {st : StD} {D D' : DiskD}
theorem RWal.fr {o : Nat → Prop} (h : RWal w S rl rb lv le st D) (hf : Fr o w w') (ho : ∀ k, S k → ¬ o k) : RWal w' S rl rb lv le st D :=
 ⟨hf.keep h.head (ho _ h.srl), h.ents.fr hf (fun k hk => ho k hk.1), h.disk.fr hf (fun k hk => ho k (h.srb k hk)), h.srl, h.srb, h.ne, fun k hk => Nat.lt_of_lt_of_le (h.lt k hk) hf.size⟩
theorem RWal.quiet (h : RWal w S rl rb lv le st D) (hf : Fr (fun _ => False) w w') : RWal w' S rl rb lv le st D := h.fr hf fun _ _ h => h
theorem RWal.mono {S' : Nat → Prop} (h : RWal w S rl rb lv le st D) (hS : ∀ k, S k → S' k) (hl : ∀ k, S' k → k < w.heap.size) : RWal w S' rl rb lv le st D :=
 ⟨h.head, h.ents.mono fun k hk => ⟨hS k hk.1, hk.2⟩, h.disk, hS _ h.srl, fun k hk => hS k (h.srb k hk), h.ne, hl⟩
/-- the disk did something -/
theorem RWal.done (h : RWal w S rl rb lv le st D) (hd : RefAt w' rb lv' D') (hf : Fr (OwnR rb lv) w w') (hv : ∀ k, lv'.ownBlock = some k → lv.ownBlock = some k ∨ w.heap.size ≤ k) : RWal w' (Plus S w w') rl rb lv' le st D' := by
 have hown : ∀ k, OwnR rb lv' k → OwnR rb lv k ∨ (w.heap.size ≤ k ∧ k < w'.heap.size) := fun k hk => by
  have hlt := hd.lt hk
  rcases hk with hk | hk
  ·exact .inl (.inl hk)
  ·rcases hv k hk with e | e
   ·exact .inl (.inr e)
   ·exact .inr ⟨e, hlt⟩
 refine ⟨hf.keep h.head h.ne, ?_, hd, .inl h.srl, fun k hk => ?_, fun hk => ?_, Plus.lt h.lt hf.size⟩
 ·refine (h.ents.fr hf (fun k hk => hk.2.2)).mono fun k hk => ⟨.inl hk.1, hk.2.1, fun e => ?_⟩
  rcases hown k e with e | ⟨e, _⟩
  ·exact hk.2.2 e
  ·have := h.lt k hk.1; omega
 ·rcases hown k hk with e | e
  ·exact .inl (h.srb k e)
  ·exact .inr e
 ·rcases hown rl hk with e | ⟨e, _⟩
  ·exact h.ne e
  ·have := h.lt rl h.srl; omega
theorem RWal.cells (h : RWal w S rl rb lv le st D) : w.cell? ⟨rl, 0, none⟩ = some (.pointer (some ⟨rb, 0, none⟩)) ∧ w.cell? ⟨rl, 1, none⟩ = some (.int .i64 st.t) ∧ w.cell? ⟨rl, 2, none⟩ = some (.int .i64 st.v) ∧ w.cell? ⟨rl, 3, none⟩ = some le :=
 ⟨cell_of h.head rfl, cell_of h.head rfl, cell_of h.head rfl, cell_of h.head rfl⟩
/-- what a call leaves that laid down something -/
def RPost (p : Int × (StD × DiskD)) (S : Nat → Prop) (rl rb : Nat) (lv : Value) (w : World) (e : Ending) (w' : World) : Prop :=
 e = .returned (.int .i64 p.1) ∧ (∃ lv' le', RWal w' (Plus S w w') rl rb lv' le' p.2.1 p.2.2) ∧ Fr (RAll rl rb lv) w w'
def RLayPost (p : Int × DiskD) (S : Nat → Prop) (rl rb : Nat) (lv le : Value) (st : StD) (w : World) (e : Ending) (w' : World) : Prop :=
 e = .returned (.int .i64 p.1) ∧ (∃ lv', RWal w' (Plus S w w') rl rb lv' le st p.2) ∧ Fr (OwnR rb lv) w w'
theorem Plus.two {w1 : World} {S : Nat → Prop} (h1 : w.heap.size ≤ w1.heap.size) {k : Nat} (h : Plus (Plus S w w1) w1 w' k) (h2 : w1.heap.size ≤ w'.heap.size) : Plus S w w' k := by
 rcases h with (h | ⟨h, h3⟩) | ⟨h, h3⟩
 ·exact .inl h
 ·exact .inr ⟨h, by omega⟩
 ·exact .inr ⟨by omega, h3⟩
set_option maxRecDepth 100000 in
set_option maxHeartbeats 4000000 in
theorem rlay_h (h : RWal w S rl rb lv le st D) (n x : Str) (hn : n.length ≤ 1000000) (hx : x.length ≤ 1000000) :
  Calls Tryz.prog 86 #[.pointer (some ⟨rl, 0, none⟩), .string (bs n), .string (bs x)] w (RLayPost (layD D n x) S rl rb lv le st w) := by
 obtain ⟨c0, _, _, _⟩ := h.cells
 have HW := Lib.hid h
 have HA := Lib.hid (rappend_h h.disk n x hn hx)
 obtain ⟨p, hp⟩ : ∃ p, appendD D n x = p := ⟨_, rfl⟩
 have HE := Lib.hid (show layD D n x = if p.1 ≠ 0 then p else syncD p.2 n by unfold layD; rw [hp])
 rw [hp] at HA
 unfold RDoes at HA
 clear h hp
 go_enter Tryz.func86, Tryz.ntmps86
 go_wp2_with fail
 refine Calls.mono HA.out ?_
 rintro e w2 ⟨lv2, rfl, hd2, hf2, hv2⟩
 have HW2 := Lib.hid (HW.out.done hd2 hf2 hv2)
 have HF2 := Lib.hid hf2
 have HV2 := Lib.hid hv2
 have hs2 := hf2.size
 clear hd2 hf2 hv2 HA c0
 by_cases h0 : p.1 = 0
 ·have r1 : (p.1 == 0) = true := by simpa using h0
  have HE2 := Lib.hid (HE.out.trans (if_neg (by simpa using h0)))
  have HS := Lib.hid (rsync_h HW2.out.disk n)
  obtain ⟨q, hq⟩ : ∃ q, syncD p.2 n = q := ⟨_, rfl⟩
  rw [hq] at HS HE2
  obtain ⟨d0, _, _, _⟩ := HW2.out.cells
  unfold RDoes at HS
  clear h0 hq
  go_wp2_with fail
  refine Calls.mono HS.out ?_
  rintro e w3 ⟨lv3, rfl, hd3, hf3, hv3⟩
  have HW3 := Lib.hid (HW2.out.done hd3 hf3 hv3)
  have HF3 := Lib.hid hf3
  have hs3 := hf3.size
  clear hd3 hf3 hv3 HS d0
  go_wp2_with fail
  go_ret
  refine ⟨by rw [HE2.out] <;> rfl, ⟨lv3, ?_⟩, ?_⟩
  ·rw [HE2.out]
   exact HW3.out.mono (fun k hk => Plus.two hs2 hk hs3) (Plus.lt HW.out.lt (by omega))
  ·refine HF2.out.trans HF3.out fun k hk => ?_
   rcases hk with hk | hk
   ·exact .inl (.inl hk)
   ·rcases HV2.out k hk with e | e
    ·exact .inl (.inr e)
    ·exact .inr e
 ·have r1 : (p.1 == 0) = false := by simpa using h0
  have HE2 := Lib.hid (HE.out.trans (if_pos h0))
  clear h0
  go_wp2_with fail
  go_ret
  exact ⟨by rw [HE2.out] <;> rfl, ⟨lv2, by rw [HE2.out]; exact HW2.out⟩, HF2.out⟩
end
end Go.Proofs.YtgmghopcppniaaaGreatDoor

/- The reference's log: the numbers of its segments: walked. -/
namespace Go.Proofs.YtgmghopcppniaaaGreatDoor
open Go.RowKit Go.Lib

/-- the numbers of the first files -/
def numsB (l : List FileD) : List Int := (l.map fun f => ((numW f.name : Nat) : Int)).filter fun n => decide (0 < n)
theorem numsB_snoc {l : List FileD} {i : Nat} {f : FileD} (h : l[i]? = some f) : numsB (l.take (i + 1)) = if 0 < numW f.name then numsB (l.take i) ++ [((numW f.name : Nat) : Int)] else numsB (l.take i) := by
 obtain ⟨h1, h2⟩ := List.getElem?_eq_some_iff.1 h
 rw [List.take_succ_eq_append_getElem h1, h2]
 unfold numsB
 rw [List.map_append, List.filter_append]
 by_cases h3 : 0 < numW f.name
 ·rw [if_pos h3]; simp [h3]
 ·rw [if_neg h3]; simp; omega
theorem numsB_len (l : List FileD) : (numsB l).length ≤ l.length := by
 have := List.length_filter_le (fun n : Int => decide (0 < n)) (l.map fun f => ((numW f.name : Nat) : Int))
 rw [List.length_map] at this
 exact this
/-- a number put where it belongs -/
def insAt (l : List Int) (k : Nat) (n : Int) : List Int := l.take k ++ n :: l.drop k
theorem ins_perm (l : List Int) (k : Nat) (n : Int) : (insAt l k n).Perm (l ++ [n]) := by
 unfold insAt
 refine List.perm_middle.trans ?_
 rw [List.take_append_drop]
 exact List.perm_append_comm (l₁ := [n])
theorem ins_sorted {l : List Int} {k : Nat} {n : Int} (h : l.Pairwise (· ≤ ·)) (h1 : ∀ x ∈ l.take k, x < n) (h2 : ∀ x, l[k]? = some x → n ≤ x) : (insAt l k n).Pairwise (· ≤ ·) := by
 unfold insAt
 have hd : ∀ x ∈ l.drop k, n ≤ x := by
  intro x hx
  cases hk : l.drop k with
  | nil => rw [hk] at hx; cases hx
  | cons y t =>
   have hy : l[k]? = some y := by
    have := congrArg (fun l => l[0]?) hk
    simpa using this
   have hp : (l.drop k).Pairwise (· ≤ ·) := h.sublist (List.drop_sublist _ _)
   rw [hk] at hp hx
   have h3 := h2 y hy
   rcases List.mem_cons.1 hx with rfl | hx
   ·exact h3
   ·have := (List.pairwise_cons.1 hp).1 x hx; omega
 refine List.pairwise_append.2 ⟨h.sublist (List.take_sublist _ _), List.pairwise_cons.2 ⟨hd, h.sublist (List.drop_sublist _ _)⟩, fun a ha b hb => ?_⟩
 have := h1 a ha
 rcases List.mem_cons.1 hb with rfl | hb
 ·omega
 ·have := hd b hb; omega
theorem nums_same {l : List FileD} {out : List Int} (h : out.Perm (numsB l)) (hs : out.Pairwise (· ≤ ·)) : out = numsD l := by
 have h1 : (numsD l).Pairwise (· ≤ ·) := (List.pairwise_mergeSort (le := fun x y => decide (x ≤ y)) (by intro a b c; simp; omega) (by intro a b; simp; omega) _).imp (by intro a b h; simpa using h)
 refine List.Perm.eq_of_pairwise (le := (· ≤ ·)) (fun a b _ _ h k => by omega) hs h1 ?_
 exact h.trans (List.mergeSort_perm _ _).symm
structure NRel (w : World) (l : List FileD) (i : Nat) (out : List Int) (v : Value) (wr : World) : Prop where
 row : wr.ownsRow w.heap.size 3 1 v out.length (out.map (Value.int .i64))
 fr : Fr (fun _ => False) w wr
 perm : out.Perm (numsB (l.take i))
 rise : out.Pairwise (· ≤ ·)
def NumbPost (l : List FileD) (w : World) (e : Ending) (w' : World) : Prop := ∃ v, e = .returned v ∧ w'.ownsRow w.heap.size 3 1 v (numsD l).length ((numsD l).map (Value.int .i64)) ∧ Fr (fun _ => False) w w'
section
variable {w : World} {S : Nat → Prop} {rl rb : Nat} {lv le : Value} {st : StD} {D : DiskD}
set_option maxRecDepth 100000 in
set_option maxHeartbeats 16000000 in
theorem rnumbers_h (h : RWal w S rl rb lv le st D) : Calls Tryz.prog 45 #[.pointer (some ⟨rl, 0, none⟩)] w (NumbPost D.files w) := by
 obtain ⟨i0, hinf, hz0, hz1, hz2⟩ := info_parts info3
 have HW := Lib.hid h
 have hl40 := h.disk.inv.many
 have HR0 : Hid (NRel w D.files 0 [] (.slice none 0 0) w) := ⟨by simpa using World.ownsRow_nil w _ _ _, Fr.refl _ _, by simp [numsB], List.Pairwise.nil⟩
 clear h
 go_enter Tryz.func45, Tryz.ntmps45
 go_wp2_with fail
 go_loopg [3, 4] D.files.length (fun j v3 v4 wr => ∃ (i : Nat) (out : List Int), i + j = D.files.length ∧ v4 = .int .i64 (i : Int) ∧ Hid (NRel w D.files i out v3 wr))
 case atStart => exact ⟨0, [], by omega, rfl, HR0⟩
 case round =>
  obtain ⟨i, out, hi, rfl, HK⟩ := hrel
  have HI := Lib.hid hi
  clear hi HR0
  obtain ⟨sa, sc, rfl⟩ : ∃ a c, u3 = .slice a out.length c := ownsRow_shape HK.out.row
  have hw := HW.out.quiet HK.out.fr
  obtain ⟨c0, _, _, _⟩ := hw.cells
  obtain ⟨d0, _, _, _⟩ := hw.disk.cells
  obtain ⟨fa, fcap, rfl, hn1, hn2, hfc⟩ := hw.disk.slice
  have hol : out.length ≤ i := by
   have h1 := HK.out.perm.length_eq
   have h2 := numsB_len (D.files.take i)
   rw [List.length_take] at h2
   omega
  by_cases hlt : i < D.files.length
  ·have hlti : (i : Int) < (D.files.length : Int) := by omega
   obtain ⟨f, hf⟩ : ∃ f, D.files[i]? = some f := ⟨_, List.getElem?_eq_getElem hlt⟩
   obtain ⟨g, rfl, hgr, e0, _, _⟩ := hfc i f hf
   have HSN := Lib.hid (numsB_snoc hf)
   have hnm : f.name.length ≤ 24 := by
    have := hw.disk.inv.names f (List.mem_of_getElem? hf)
    unfold nameOK at this
    simp only [Bool.and_eq_true, decide_eq_true_eq] at this
    exact this.1.2
   have HNU := Lib.hid (fun W => rnumber_h (w := W) f.name (by omega))
   obtain ⟨n, hn⟩ : ∃ n, numW f.name = n := ⟨_, rfl⟩
   rw [hn] at HNU HSN
   clear hw hf hfc hn hnm
   go_wp2_with fail
   refine Calls.mono (HNU.out _) ?_
   rintro e w3 ⟨rfl, hf3⟩
   have HF3 := Lib.hid (HK.out.fr.next hf3)
   have HOWN : Hid (w3.ownsRow w.heap.size 3 1 (.slice sa out.length sc) out.length (out.map (Value.int .i64))) := ownsRow_keep HK.out.row fun k hk => hf3.block k (HK.out.row.lt k hk).2 (fun h => h)
   clear hf3 HNU c0 d0 e0
   by_cases h0 : n = 0
   ·have q0 : ((n : Int) == 0) = true := by rw [h0]; rfl
    have HR3 : Hid (NRel w D.files (i + 1) out (.slice sa out.length sc) w3) := ⟨HOWN.out, HF3.out, by rw [HSN.out, if_neg (by omega)]; exact HK.out.perm, HK.out.rise⟩
    clear h0
    go_wp2_with fail
    go_roundg (D.files.length - (i + 1))
    case measure => have := HI.out; omega
    case rel => exact ⟨i + 1, out, by omega, by go_num, HR3⟩
   ·have q0 : ((n : Int) == 0) = false := by simp; exact h0
    have HST : Hid (numsB (D.files.take (i + 1)) = numsB (D.files.take i) ++ [((n : Nat) : Int)]) := by show _ = _; rw [HSN.out, if_pos (by omega)]
    clear h0
    go_upto_block 2 with fail
    go_cut [6] (fun s6 wx => ∃ k : Nat, s6 = .int .i64 (k : Int) ∧ k ≤ out.length ∧ Hid ((∀ x ∈ out.take k, x < ((n : Nat) : Int)) ∧ ∀ x, out[k]? = some x → ((n : Nat) : Int) ≤ x) ∧ wx = w3)
    case first =>
     go_wp2_with fail
     go_loopg [6] out.length (fun j v6 wx => ∃ k : Nat, k + j = out.length ∧ v6 = .int .i64 (k : Int) ∧ Hid (∀ x ∈ out.take k, x < ((n : Nat) : Int)) ∧ wx = w3)
     case atStart => exact ⟨0, by omega, rfl, Lib.hid (fun x hx => by simp at hx), rfl⟩
     case round =>
      obtain ⟨k, hk, rfl, HL, hwx⟩ := hrel
      subst hwx
      have HKK := Lib.hid hk
      clear hk
      by_cases hkl : k < out.length
      ·have hkli : (k : Int) < (out.length : Int) := by omega
       obtain ⟨x, hx⟩ : ∃ x, out[k]? = some x := ⟨_, List.getElem?_eq_getElem hkl⟩
       obtain ⟨go, gc, hva, _, hc1, hc2⟩ := ownsRow_form HOWN.out (by omega)
       injection hva with hva1 hva2 hva3
       subst hva1
       have z0 := HOWN.out.cells (g := go) rfl k (.int .i64 x) (by rw [List.getElem?_map, hx]; rfl)
       rw [Addr.add_lit, Nat.zero_add] at z0
       have HX := Lib.hid hx
       clear hx hva2 hva3
       by_cases hxn : x < (n : Int)
       ·have HN : Hid (∀ y ∈ out.take (k + 1), y < ((n : Nat) : Int)) := by
         obtain ⟨k1, k2⟩ := List.getElem?_eq_some_iff.1 HX.out
         intro y hy
         rw [List.take_succ_eq_append_getElem k1, k2] at hy
         rcases List.mem_append.1 hy with hy | hy
         ·exact HL.out y hy
         ·rw [List.mem_singleton.1 hy]; exact hxn
        go_wp2_with fail
        go_roundg (out.length - (k + 1))
        case measure => have := HKK.out; omega
        case rel => exact ⟨k + 1, by omega, by go_num, HN, rfl⟩
       ·have HN : Hid ((∀ y ∈ out.take k, y < ((n : Nat) : Int)) ∧ ∀ y, out[k]? = some y → ((n : Nat) : Int) ≤ y) := ⟨HL.out, fun y hy => by rw [HX.out] at hy; obtain rfl := Option.some.inj hy; omega⟩
        go_wp2_with fail
        go_meet
        exact ⟨k, rfl, by omega, HN, rfl⟩
      ·have hkli : ¬ (k : Int) < (out.length : Int) := by omega
       have HN : Hid ((∀ y ∈ out.take k, y < ((n : Nat) : Int)) ∧ ∀ y, out[k]? = some y → ((n : Nat) : Int) ≤ y) := ⟨HL.out, fun y hy => by rw [List.getElem?_eq_none (by omega)] at hy; cases hy⟩
       go_wp2_with fail
       go_meet
       exact ⟨k, rfl, by have := HKK.out; omega, HN, rfl⟩
    case rest =>
    obtain ⟨k, rfl, hkl, HN, hwx⟩ := hcut
    subst hwx
    go_upto_region 10 with fail
    obtain ⟨we, hwe⟩ : ∃ we, we = wc := ⟨_, rfl⟩
    have hrow := HOWN.out
    rw [← hwe] at hrow
    rw [← hwe]
    have HFE : Hid (Fr (fun _ => False) w we) := by show Fr _ _ _; rw [hwe]; exact HF3.out
    clear hwe
    have hlen : (out.map (Value.int .i64)).length = out.length := List.length_map _
    have hSR := (SRow.of_owns hrow).mono (S' := fun k => k < we.heap.size) fun k hk => (hrow.lt k hk).2
    have hcs1 : out.length ≤ sc := by
     obtain ⟨_, a', c', h1, h2, _⟩ := hSR
     injection h1 with _ _ e
     omega
    have hhead := SRow.head hSR hkl
    have htail := SRow.tail hSR hkl
    rw [Nat.mul_one, ← List.map_take] at hhead
    rw [Nat.mul_one, ← List.map_drop] at htail
    have hkc : k ≤ sc := by omega
    have HH := Lib.hid (And.intro hhead htail)
    have H1 : Hid (∀ l : List Int, ∀ u ∈ l.map (Value.int .i64), u.oneCell' = true) := by intro l u hu; obtain ⟨z, _, rfl⟩ := List.mem_map.1 hu; rfl
    have hwz := HFE.out.size
    clear hhead htail hSR hrow hlen
    go_region_law (first
     | (refine step_append_row rfl (.tmp 47) (.tmp 50) 22 rfl we.heap.size 3 i0 (.int .i64 0) 1 8 Tryz.underlying22 hinf hz0 hz1 hz2 rfl (by decide) (.slice (some ⟨_, 0, none⟩) 0 0) 0 [] rfl (ownsRow_empty (by first | exact block_new_at (by simp) | exact block_old (block_new_at (by simp)) _) (by omega)) _ _ k ((out.take k).map (Value.int .i64)) rfl (HH.out.1.fr (o := fun k => we.heap.size ≤ k) (by repeat (first | exact Fr.refl _ _ | refine Fr.drew ?_ | refine Fr.alloc ?_ _)) (fun _ h h2 => by omega)) (H1.out _) (by unfold maxLen; omega) (by omega) (by simp <;> omega) ?_; intro b1 cap1 w2 hrow1 hgrow1 hat1; have hF1 : Fr (fun k => we.heap.size ≤ k) we w2 := Fr.next (by repeat (first | exact Fr.refl _ _ | refine Fr.drew ?_ | refine Fr.alloc ?_ _)) hat1; simp only [Nat.zero_add, List.nil_append] at hrow1)
     | (refine step_append_row rfl (.tmp 51) (.tmp 53) 22 rfl we.heap.size 3 i0 (.int .i64 0) 1 8 Tryz.underlying22 hinf hz0 hz1 hz2 rfl (by decide) (.slice b1 k cap1) k _ rfl (by first | exact hrow1 | exact hrow1.alloc _) (fun _ => True) _ 1 [.int .i64 (n : Int)] rfl (SRow.of_block (e := 3) (f := (0, 0)) (by first | exact block_new_at (by simp) | (refine block_grown ?_ hgrow1 (by simp [Value.ownBlock]); first | exact block_new_drew (by simp) | exact block_old_drew (block_new_at rfl) _)) rfl (by decide) trivial) (H1.out [(n : Int)]) (by unfold maxLen; omega) (by omega) (by have := hF1.size; simp <;> omega) ?_; intro b2 cap2 w4 hrow2 hgrow2 hat2; have hF2 : Fr (fun k => we.heap.size ≤ k) we w4 := Fr.next (by repeat (first | exact hF1 | refine Fr.drew ?_ | refine Fr.alloc ?_ _)) hat2)
     | (refine step_append_row rfl (.tmp 54) (.tmp 57) 22 rfl we.heap.size 3 i0 (.int .i64 0) 1 8 Tryz.underlying22 hinf hz0 hz1 hz2 rfl (by decide) (.slice b2 (k + 1) cap2) (k + 1) _ rfl hrow2 _ _ (out.length - k) ((out.drop k).map (Value.int .i64)) rfl (HH.out.2.fr hF2 (fun _ h h2 => by omega)) (H1.out _) (by unfold maxLen; omega) (by omega) hF2.size ?_; intro b3 cap3 w5 hrow3 hgrow3 hat3; have hF3 : Fr (fun k => we.heap.size ≤ k) we w5 := Fr.next hF2 hat3))
    all_goals (go_wp2_with fail)
    all_goals
     have HIL : Hid ((insAt out k (n : Int)).length = k + 1 + (out.length - k)) := by show _ = _; unfold insAt; rw [List.length_append, List.length_cons, List.length_take, List.length_drop]; omega
     have HR5 : Hid (NRel w D.files (i + 1) (insAt out k (n : Int)) (.slice b3 (k + 1 + (out.length - k)) cap3) w5) := by
      refine ⟨?_, HFE.out.trans hF3 fun k hk => .inr (Nat.le_trans hwz hk), ?_, ins_sorted HK.out.rise HN.out.1 HN.out.2⟩
      ·rw [HIL.out]
       have e1 : (insAt out k (n : Int)).map (Value.int .i64) = (out.take k).map (Value.int .i64) ++ [.int .i64 (n : Int)] ++ (out.drop k).map (Value.int .i64) := by unfold insAt; simp
       rw [e1]
       exact ownsRow_base hrow3 hwz
      ·rw [HST.out]
       exact (ins_perm _ _ _).trans (HK.out.perm.append_right _)
     go_roundg (D.files.length - (i + 1))
     case measure => have := HI.out; omega
     case rel => exact ⟨i + 1, insAt out k (n : Int), by omega, by go_num, HR5⟩
  ·obtain rfl : i = D.files.length := by have := HI.out; omega
   have hlti : ¬ (D.files.length : Int) < (D.files.length : Int) := by omega
   have HE : Hid (out = numsD D.files) := by
    have hp := HK.out.perm
    rw [List.take_length] at hp
    exact nums_same hp HK.out.rise
   clear hw hfc
   go_wp2_with fail
   go_ret
   refine ⟨_, rfl, ?_, HK.out.fr⟩
   rw [← HE.out]; exact HK.out.row
end
end Go.Proofs.YtgmghopcppniaaaGreatDoor

/- The reference's Open of a disk without segments: walked. -/
namespace Go.Proofs.YtgmghopcppniaaaGreatDoor
open Go.RowKit Go.Lib

theorem name_one : nameW 1 = [119, 49] := by
 unfold nameW
 rw [decHi_pos (by decide), show 1 / 10 = 0 from rfl, decHi_zero]; rfl
/-- what the reference's Open leaves: c: its answer, st: what it has read, D': the disk behind it -/
def ROpenPost (c : Int) (st : StD) (D' : DiskD) (rb : Nat) (lv : Value) (w : World) (e : Ending) (w' : World) : Prop :=
 ∃ (rl : Nat) (lv' : Value), e = .returned (.tuple #[if c = 0 then .pointer (some ⟨rl, 0, none⟩) else .pointer none, .int .i64 c]) ∧ RefAt w' rb lv' D' ∧ (∀ k, lv'.ownBlock = some k → lv.ownBlock = some k ∨ w.heap.size ≤ k) ∧
  (c = 0 → ∃ le', RWal w' (Plus (OwnR rb lv) w w') rl rb lv' le' st D') ∧ Fr (OwnR rb lv) w w'
section
variable {w : World} {rb : Nat} {lv : Value} {D : DiskD}
theorem rwal_first (h : RefAt w rb lv D) : RWal (w.alloc (.cells #[.pointer (some ⟨rb, 0, none⟩), .int .i64 0, .int .i64 0, .slice none 0 0] 65)) (fun k => OwnR rb lv k ∨ k = w.heap.size) w.heap.size rb lv (.slice none 0 0) zeroS D := by
 have hlt : ∀ k, OwnR rb lv k → k < w.heap.size := fun k hk => h.lt hk
 refine ⟨block_new _ _, SRow.nil _ _ _, h.grow ((Fr.refl _ _).alloc _), .inr rfl, fun k hk => .inl hk, fun hk => by have := hlt _ hk; omega, fun k hk => ?_⟩
 rcases hk with hk | hk
 ·have := hlt k hk; simp; omega
 ·rw [hk]; simp
set_option maxRecDepth 100000 in
set_option maxHeartbeats 8000000 in
theorem ropen_none_h (h : RefAt w rb lv D) (hd : D.dead = false) (hn : numsD D.files = []) : Calls Tryz.prog 35 #[.pointer (some ⟨rb, 0, none⟩)] w (ROpenPost (layD D (nameW 1) (recsL [.hard 0 0])).1 zeroS (layD D (nameW 1) (recsL [.hard 0 0])).2 rb lv w) := by
 obtain ⟨_, _, _, c3⟩ := h.cells
 rw [hd] at c3
 have hlt : ∀ k, OwnR rb lv k → k < w.heap.size := fun k hk => h.lt hk
 obtain ⟨w1, hw1⟩ : ∃ w1, w1 = w.alloc (.cells #[.pointer (some ⟨rb, 0, none⟩), .int .i64 0, .int .i64 0, .slice none 0 0] 65) := ⟨_, rfl⟩
 have hrw := rwal_first h
 rw [← hw1] at hrw
 have hf1 : Fr (fun _ => False) w w1 := by rw [hw1]; exact (Fr.refl _ _).alloc _
 have HF1 := Lib.hid hf1
 have hsz : w.heap.size < w1.heap.size := by rw [hw1]; simp
 have HLT := Lib.hid hlt
 have e3 := hf1.cell c3 (fun h => h)
 have HRW := Lib.hid hrw
 have HNU := Lib.hid (rnumbers_h hrw)
 unfold NumbPost at HNU
 rw [hn] at HNU
 obtain ⟨T, hT⟩ : ∃ T, recsL [.hard 0 0] = T := ⟨_, rfl⟩
 have hTl : T.length ≤ 38 := by rw [← hT]; exact begin_len
 have hfr : frameL (payX 1 0 0 zeroE) = T := by
  rw [← hT, recsL_cons]
  show frameL (hardTx 0 0) = frameL (hardTx 0 0) ++ []
  rw [List.append_nil]
 have hpl : (payX 1 0 0 zeroE).length ≤ 65536 := first_good.2
 have HFR := Lib.hid (fun W => rfr_h (w := W) (k := 1) (t := 0) (v := 0) (e := zeroE) (f := T) (i64_small (by decide) (by decide)) (i64_small (by decide) (by decide)) (i64_small (by decide) (by decide)) (i64_small (by decide) (by decide)) (i64_small (by decide) (by decide)) (by decide) hpl hfr)
 have HLY := Lib.hid (fun (W : World) (hq : Fr (fun _ => False) w1 W) => (rlay_h (hrw.quiet hq) [119, 49] T (by decide) (by omega) : Calls Tryz.prog 86 #[.pointer (some ⟨w.heap.size, 0, none⟩), .string ⟨#[119, 49]⟩, .string (bs T)] W _))
 rw [name_one, hT]
 obtain ⟨p, hp⟩ : ∃ p, layD D [119, 49] T = p := ⟨_, rfl⟩
 unfold RLayPost at HLY
 rw [hp] at HLY ⊢
 unfold recV zeroE at HFR
 clear h hd hn c3 hrw hT hfr hpl hp hlt hf1
 go_enter Tryz.func35, Tryz.ntmps35
 go_upto_region 2 with fail
 rw [← hw1]
 clear hw1
 go_wp2_with fail
 refine Calls.mono HNU.out ?_
 rintro e w2 ⟨v2, rfl, hrow2, hf2⟩
 obtain ⟨na, nc, rfl⟩ : ∃ a c, v2 = .slice a 0 c := ownsRow_shape hrow2
 have HF2 := Lib.hid hf2
 clear hrow2 hf2 HNU
 go_wp2_with fail
 refine Calls.mono (HFR.out _) ?_
 rintro e w3 ⟨rfl, hf3⟩
 have HF3 := Lib.hid (HF2.out.next hf3)
 clear hf3
 go_wp2_with fail
 refine Calls.mono (HLY.out _ HF3.out) ?_
 rintro e w4 ⟨rfl, ⟨lv4, hw4⟩, hf4⟩
 have HW4 := Lib.hid hw4
 have HF4 := Lib.hid hf4
 have hs3 := HF3.out.size
 have hs4 := hf4.size
 clear hw4 hf4 HLY
 have HFA : Hid (Fr (OwnR rb lv) w w4) := ((HF1.out.next HF3.out).mono (o2 := OwnR rb lv) fun _ _ h => h.elim).next HF4.out
 have HR4 : Hid (RWal w4 (Plus (OwnR rb lv) w w4) w.heap.size rb lv4 (.slice none 0 0) zeroS p.2) := by
  refine HW4.out.mono (fun k hk => ?_) (Plus.lt HLT.out (by omega))
  rcases hk with (hk | hk) | ⟨hk, hk2⟩
  ·exact .inl hk
  ·exact .inr ⟨by omega, by omega⟩
  ·exact .inr ⟨by omega, hk2⟩
 have HOW : Hid (∀ k, lv4.ownBlock = some k → lv.ownBlock = some k ∨ w.heap.size ≤ k) := fun k hk => by
  have h1 := HR4.out.srb k (.inr hk)
  rcases h1 with (h1 | h1) | ⟨h1, _⟩
  ·exfalso
   have h2 := HR4.out.disk.ne
   rw [hk, h1] at h2
   exact h2 rfl
  ·exact .inl h1
  ·exact .inr h1
 by_cases h0 : p.1 = 0
 ·have r1 : (p.1 == 0) = true := by simpa using h0
  have H0 := Lib.hid h0
  clear h0
  go_wp2_with fail
  go_ret2
  exact ⟨w.heap.size, lv4, by rw [if_pos H0.out, H0.out] <;> rfl, HR4.out.disk, HOW.out, fun _ => ⟨_, HR4.out⟩, HFA.out⟩
 ·have r1 : (p.1 == 0) = false := by simpa using h0
  have H0 := Lib.hid h0
  clear h0
  go_wp2_with fail
  go_ret2
  exact ⟨w.heap.size, lv4, by rw [if_neg H0.out] <;> rfl, HR4.out.disk, HOW.out, fun h => absurd h H0.out, HFA.out⟩
end
end Go.Proofs.YtgmghopcppniaaaGreatDoor
