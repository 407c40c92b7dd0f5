/- ToInt: walked. -/
import Derived.Test.YtgmghopcppniaaaGreatDoorS4
import Derived.Lib.VarintBits
namespace Go.Proofs.YtgmghopcppniaaaGreatDoor
open Go.RowKit Go.Lib

theorem or_u64 (a b : Nat) (hb : b < 128) (hl : a * 128 + b < 18446744073709551616) : bits .or .u64 ((a : Int) * 128) (b : Int) = ((a * 128 + b : Nat) : Int) := by
  have h1 : (BitVec.ofInt 64 ((a : Int) * 128)).toNat = a * 128 := by
    rw [show (a : Int) * 128 = ((a * 128 : Nat) : Int) by omega, BitVec.ofInt_natCast, BitVec.toNat_ofNat]; exact Nat.mod_eq_of_lt (by omega)
  have h2 : (BitVec.ofInt 64 (b : Int)).toNat = b := by
    rw [BitVec.ofInt_natCast, BitVec.toNat_ofNat]; exact Nat.mod_eq_of_lt (by omega)
  show IntKind.u64.wrap ((BitVec.ofInt 64 ((a : Int) * 128) ||| BitVec.ofInt 64 (b : Int)).toNat : Int) = _
  rw [BitVec.toNat_or, h1, h2, show a * 128 = 2 ^ 7 * a by omega, ← Nat.two_pow_add_eq_or_of_lt (i := 7) hb, IntKind.wrap_u64]
  omega
theorem and1_u64 (a : Nat) (ha : a < 18446744073709551616) : bits .and .u64 (a : Int) 1 = ((a % 2 : Nat) : Int) := by
  have h1 : (BitVec.ofInt 64 (a : Int)).toNat = a := by
    rw [BitVec.ofInt_natCast, BitVec.toNat_ofNat]; exact Nat.mod_eq_of_lt (by omega)
  show IntKind.u64.wrap ((BitVec.ofInt 64 (a : Int) &&& BitVec.ofInt 64 1).toNat : Int) = _
  rw [BitVec.toNat_and, h1, show (BitVec.ofInt 64 1).toNat = 1 from rfl, Nat.and_one_is_mod, IntKind.wrap_u64]
  omega
theorem xor0_i64 (a : Nat) (ha : a < 9223372036854775808) : bits .xor .i64 (a : Int) 0 = (a : Int) := by
  have h1 : (BitVec.ofInt 64 (a : Int)).toNat = a := by
    rw [BitVec.ofInt_natCast, BitVec.toNat_ofNat]; exact Nat.mod_eq_of_lt (by omega)
  show IntKind.i64.wrap ((BitVec.ofInt 64 (a : Int) ^^^ BitVec.ofInt 64 0).toNat : Int) = _
  rw [BitVec.toNat_xor, h1, show (BitVec.ofInt 64 0).toNat = 0 from rfl, Nat.xor_zero, IntWalk.i64_in _ (by omega)]
theorem wrap_i64_hi (y : Int) (h1 : 9223372036854775808 ≤ y) (h2 : y < 18446744073709551616) : IntKind.i64.wrap y = y - 18446744073709551616 := by
  rw [IntKind.wrap_i64]; omega
theorem xorm_i64 (a : Nat) (ha : a < 9223372036854775808) : bits .xor .i64 (a : Int) (-1) = -(a : Int) - 1 := by
  have h1 : (BitVec.ofInt 64 (a : Int)).toNat = a := by
    rw [BitVec.ofInt_natCast, BitVec.toNat_ofNat]; exact Nat.mod_eq_of_lt (by omega)
  have h3 : (BitVec.ofInt 64 (a : Int) ^^^ BitVec.ofInt 64 (-1)) = ~~~ (BitVec.ofInt 64 (a : Int)) := by
    rw [show BitVec.ofInt 64 (-1) = BitVec.allOnes 64 from by decide, BitVec.xor_allOnes]
  show IntKind.i64.wrap ((BitVec.ofInt 64 (a : Int) ^^^ BitVec.ofInt 64 (-1)).toNat : Int) = _
  have h4 : (((~~~ (BitVec.ofInt 64 (a : Int))).toNat : Nat) : Int) = 18446744073709551615 - (a : Int) := by
    rw [BitVec.toNat_not, h1]
    have : (2 : Nat) ^ 64 - 1 - a + a = 18446744073709551615 := Nat.sub_add_cancel (by omega)
    generalize (2 : Nat) ^ 64 - 1 - a = y at this ⊢
    omega
  rw [h3, h4, wrap_i64_hi _ (by omega) (by omega)]
  omega
theorem shr57 (v : Nat) : Op.shift .shr .u64 (v : Int) .u64 57 = pure (.int .u64 ((v / 144115188075855872 : Nat) : Int)) := by
  rw [shift_shr_u64 _ _ _ (by decide) (by decide)]; rfl
theorem shr1 (v : Nat) : Op.shift .shr .u64 (v : Int) .u64 1 = pure (.int .u64 ((v / 2 : Nat) : Int)) := by
  rw [shift_shr_u64 _ _ _ (by decide) (by decide)]; rfl
theorem shl7 (v : Nat) (h : v < 144115188075855872) : Op.shift .shl .u64 (v : Int) .u64 7 = pure (.int .u64 ((v : Int) * 128)) := by
  rw [shift_shl_u64 _ _ _ (by decide) (by decide), IntKind.wrap_u64, show (2 : Int) ^ (7 : Int).toNat = 128 by decide]; congr 2; omega
theorem and127_u8 (c : UInt8) : bits .and .u8 (c.toNat : Int) 127 = ((c.toNat % 128 : Nat) : Int) := by
  have := c.toNat_lt
  rw [u8_and127 _ (by omega) (by omega)]; rfl
/-- what ToInt answers -/
def toIntD (s : Str) : (Int × Str) × Bool := match toIntL s with | some p => (p, true) | none => ((0, []), false)
def ToIntPost (s : Str) (w : World) (e : Ending) (w' : World) : Prop := e = .returned (.tuple #[.int .i64 (toIntD s).1.1, .string (bs (toIntD s).1.2), .bool (toIntD s).2]) ∧ ∃ p, w' = w.drewN p
theorem toInt_no {s : Str} (h : toNatF 10 true 0 s = none) : toIntD s = ((0, []), false) := by unfold toIntD toIntL; rw [h]
theorem toInt_yes {s t : Str} {v : Nat} (h : toNatF 10 true 0 s = some (v, t)) : toIntD s = ((unzig v, t), true) := by unfold toIntD toIntL; rw [h]
theorem toInt_post {s t : Str} {n : Int} {ok : Bool} {w w' : World} (h : toIntD s = ((n, t), ok)) (hf : ∃ p, w' = w.drewN p) : ToIntPost s w (.returned (.tuple #[.int .i64 n, .string (bs t), .bool ok])) w' := by
  unfold ToIntPost; rw [h]; exact ⟨rfl, hf⟩
theorem toInt_nil {s : Str} {w w' : World} (h : toIntD s = ((0, []), false)) (hf : ∃ p, w' = w.drewN p) : ToIntPost s w (.returned (.tuple #[.int .i64 0, .string ⟨#[]⟩, .bool false])) w' := toInt_post h hf
theorem toInt_hit {s t : Str} {v : Nat} {n : Int} {b : ByteArray} {w w' : World} (h : toNatF 10 true 0 s = some (v, t)) (hn : unzig v = n) (hb : bs t = b) (hf : ∃ p, w' = w.drewN p) : ToIntPost s w (.returned (.tuple #[.int .i64 n, .string b, .bool true])) w' := by
  rw [← hb, ← hn]; exact toInt_post (toInt_yes h) hf
theorem bs_drop_ex (s : Str) (i : Nat) : bs (s.drop i) = (bs s).extract i s.length := by
  rw [bs_mid, List.take_length]
/-- behind i bytes -/
structure NatAt (s : Str) (i v : Nat) : Prop where
  eq : toNatF 10 true 0 s = toNatF (10 - i) (decide (i = 0)) v (s.drop i)
  v : v < 18446744073709551616
  i : i ≤ 10 ∧ i ≤ s.length
theorem NatAt.start (s : Str) : NatAt s 0 0 := ⟨rfl, by decide, by omega, Nat.zero_le _⟩
section
variable {s : Str} {i v : Nat} {c : UInt8}
theorem NatAt.at (h : NatAt s i v) (h10 : i < 10) (hl : i < s.length) (hc : s.getD i 0 = c) : toNatF 10 true 0 s = if (decide (i = 0) && c == 128) || decide (144115188075855872 ≤ v) then none else if c.toNat < 128 then some (v * 128 + c.toNat, s.drop (i + 1)) else toNatF (10 - (i + 1)) false (v * 128 + c.toNat % 128) (s.drop (i + 1)) := by
  have e : s.drop i = c :: s.drop (i + 1) := by
    rw [List.drop_eq_getElem_cons hl, ← hc, List.getD_eq_getElem?_getD, List.getElem?_eq_getElem hl]; rfl
  rw [h.eq, e, show 10 - i = (10 - (i + 1)) + 1 by omega, toNat_cons]
theorem NatAt.step (h : NatAt s i v) (h10 : i < 10) (hl : i < s.length) (hc : s.getD i 0 = c) (h1 : ¬ (i = 0 ∧ c = 128)) (h2 : v < 144115188075855872) (h3 : ¬ c.toNat < 128) : NatAt s (i + 1) (v * 128 + c.toNat % 128) := by
  refine ⟨?_, by omega, by omega, by omega⟩
  rw [h.at h10 hl hc, if_neg (by simp only [Bool.or_eq_true, Bool.and_eq_true, decide_eq_true_eq, beq_iff_eq, not_or]; exact ⟨h1, by omega⟩), if_neg h3, decide_eq_false (Nat.succ_ne_zero i)]
theorem NatAt.hit (h : NatAt s i v) (h10 : i < 10) (hl : i < s.length) (hc : s.getD i 0 = c) (h1 : ¬ (i = 0 ∧ c = 128)) (h2 : v < 144115188075855872) (h3 : c.toNat < 128) : toNatF 10 true 0 s = some (v * 128 + c.toNat, s.drop (i + 1)) := by
  rw [h.at h10 hl hc, if_neg (by simp only [Bool.or_eq_true, Bool.and_eq_true, decide_eq_true_eq, beq_iff_eq, not_or]; exact ⟨h1, by omega⟩), if_pos h3]
theorem NatAt.bad (h : NatAt s i v) (h10 : i < 10) (hl : i < s.length) (hc : s.getD i 0 = c) (h1 : (i = 0 ∧ c = 128) ∨ 144115188075855872 ≤ v) : toNatF 10 true 0 s = none := by
  rw [h.at h10 hl hc, if_pos (by simp only [Bool.or_eq_true, Bool.and_eq_true, decide_eq_true_eq, beq_iff_eq]; exact h1)]
theorem NatAt.out (h : NatAt s i v) (he : i = 10 ∨ i = s.length) : toNatF 10 true 0 s = none := by
  rw [h.eq]
  rcases he with rfl | rfl
  · rfl
  · rw [List.drop_length]
    cases 10 - s.length <;> rfl
end
set_option maxRecDepth 100000 in
set_option maxHeartbeats 8000000 in
theorem toInt_h {w : World} (s : Str) (hs : s.length ≤ 10000000) : Calls Tryz.prog 113 #[.string (bs s)] w (ToIntPost s w) := by
  have hsz : (bs s).size = s.length := rfl
  obtain ⟨m, hm, hmi⟩ : ∃ m : Nat, m = min s.length 10 ∧ min (s.length : Int) 10 = (m : Int) := ⟨_, rfl, by omega⟩
  have HM := Lib.hid hm
  have hm10 : m ≤ 10 := by omega
  clear hm
  have hmm : (s.length : Int) ≤ 10 ∨ (10 : Int) < s.length := by omega
  obtain h10 | h10 := hmm
  all_goals
    go_enter Tryz.func113, Tryz.ntmps113
    go_wp2_with fail
    go_loopg [5, 11] m (fun j v5 v11 wr => (∃ i v : Nat, i + j = m ∧ v5 = .int .u64 (v : Int) ∧ v11 = .int .i64 i ∧ Hid (NatAt s i v)) ∧ w = wr)
    case atStart => exact ⟨⟨0, 0, by omega, rfl, rfl, NatAt.start s⟩, rfl⟩
    case round =>
      obtain ⟨⟨i, v, hi, rfl, rfl, HI⟩, rfl⟩ := hrel
      have hvl := HI.out.v
      by_cases hlt : i < m
      · have hls : i < s.length := by have := HI.out.i.2; omega
        have hi10 : i < 10 := by omega
        have hz : i < (bs s).size := hls
        have hg := bs_at s i hz
        obtain ⟨c, hc⟩ : ∃ c, s.getD i 0 = c := ⟨_, rfl⟩
        rw [hc] at hg
        have hcl := c.toNat_lt
        have HC := Lib.hid (And.intro hi (And.intro hc (And.intro hi10 hls)))
        have hvz : (v : Int) / 144115188075855872 = ((v / 144115188075855872 : Nat) : Int) := by omega
        clear hi hc hls
        have h3 : (i = 0 ∧ c.toNat = 128) ∨ 144115188075855872 ≤ v ∨ (¬ (i = 0 ∧ c.toNat = 128) ∧ v < 144115188075855872) := by omega
        obtain h1 | h1 | ⟨h1, h2⟩ := h3
        · obtain ⟨rfl, h128⟩ := h1
          go_wp2_with fail
          go_ret3
          have HB := HC.out
          exact toInt_nil (toInt_no (HI.out.bad hi10 HB.2.2.2 HB.2.1 (Or.inl ⟨rfl, UInt8.toNat_inj.1 h128⟩))) ⟨0, rfl⟩
        · obtain ⟨q, hq⟩ : ∃ q, v / 144115188075855872 = q := ⟨_, rfl⟩
          have hq0 : 0 < q := by omega
          have hsh := shr57 v
          rw [hq] at hsh
          have HQ := Lib.hid (And.intro hq h1)
          clear hq hvz h1
          by_cases hi0 : i = 0
          · subst hi0
            by_cases hc128 : c.toNat = 128
            all_goals
              go_wp2_with fail
              go_ret3
              have HB := HC.out
              exact toInt_nil (toInt_no (HI.out.bad hi10 HB.2.2.2 HB.2.1 (Or.inr HQ.out.2))) ⟨0, rfl⟩
          · go_wp2_with fail
            go_ret3
            have HB := HC.out
            exact toInt_nil (toInt_no (HI.out.bad hi10 HB.2.2.2 HB.2.1 (Or.inr HQ.out.2))) ⟨0, rfl⟩
        · have hsh := shr57 v
          have hq0 : v / 144115188075855872 = 0 := by omega
          have hsl := shl7 v h2
          obtain ⟨b, hb⟩ : ∃ b, c.toNat % 128 = b := ⟨_, rfl⟩
          have han := and127_u8 c
          have hbl : b < 128 := by omega
          obtain ⟨n, hn⟩ : ∃ n, v * 128 + b = n := ⟨_, rfl⟩
          have hnl : n < 18446744073709551616 := by omega
          have hor := or_u64 v b hbl (by omega)
          rw [hq0] at hsh
          rw [hb] at han
          rw [hn] at hor
          have HQ := Lib.hid (And.intro h1 (And.intro h2 (And.intro hb hn)))
          clear hq0 hvz hb hn h2
          by_cases h3 : c.toNat < 128
          · have hs1 := shr1 n
            have ha1 := and1_u64 n hnl
            obtain ⟨r, hr⟩ : ∃ r, n % 2 = r := ⟨_, rfl⟩
            obtain ⟨a, ha⟩ : ∃ a, n / 2 = a := ⟨_, rfl⟩
            have hal : a < 9223372036854775808 := by omega
            have hr2 : r = 0 ∨ r = 1 := by omega
            rw [hr] at ha1
            rw [ha] at hs1
            have HR := Lib.hid (And.intro hr ha)
            have hx0 := xor0_i64 a hal
            have hx1 := xorm_i64 a hal
            clear hr ha
            have HV := Lib.hid (HI.out.hit hi10 HC.out.2.2.2 HC.out.2.1 (fun e => HQ.out.1 ⟨e.1, by rw [e.2]; rfl⟩) HQ.out.2.1 h3)
            have hex := bs_drop_ex s (i + 1)
            by_cases hi0 : i = 0
            · subst hi0
              have hc128 : ¬ c.toNat = 128 := by omega
              obtain rfl | rfl := hr2
              · go_wp2_with fail
                go_big_quiet (fail)
                go_wp2_with fail
                go_ret3
                exact toInt_hit (by rw [HV.out, (Nat.mod_eq_of_lt h3).symm.trans HQ.out.2.2.1, HQ.out.2.2.2]) (by unfold unzig; rw [HR.out.1, HR.out.2]; first | done | rfl) hex ⟨_, rfl⟩
              · go_wp2_with fail
                go_big_quiet (fail)
                go_wp2_with fail
                go_ret3
                exact toInt_hit (by rw [HV.out, (Nat.mod_eq_of_lt h3).symm.trans HQ.out.2.2.1, HQ.out.2.2.2]) (by unfold unzig; rw [HR.out.1, HR.out.2]; first | done | rfl) hex ⟨_, rfl⟩
            · obtain rfl | rfl := hr2
              · go_wp2_with fail
                go_big_quiet (fail)
                go_wp2_with fail
                go_ret3
                exact toInt_hit (by rw [HV.out, (Nat.mod_eq_of_lt h3).symm.trans HQ.out.2.2.1, HQ.out.2.2.2]) (by unfold unzig; rw [HR.out.1, HR.out.2]; first | done | rfl) hex ⟨_, rfl⟩
              · go_wp2_with fail
                go_big_quiet (fail)
                go_wp2_with fail
                go_ret3
                exact toInt_hit (by rw [HV.out, (Nat.mod_eq_of_lt h3).symm.trans HQ.out.2.2.1, HQ.out.2.2.2]) (by unfold unzig; rw [HR.out.1, HR.out.2]; first | done | rfl) hex ⟨_, rfl⟩
          · have HW := HC.out
            have HS := Lib.hid (HI.out.step hi10 HW.2.2.2 HW.2.1 (fun e => HQ.out.1 ⟨e.1, by rw [e.2]; rfl⟩) HQ.out.2.1 h3)
            rw [HQ.out.2.2.1, HQ.out.2.2.2] at HS
            by_cases hi0 : i = 0
            · subst hi0
              by_cases hc128 : c.toNat = 128
              · exact absurd ⟨rfl, hc128⟩ h1
              · go_wp2_with fail
                go_roundg (m - 1)
                case measure => have := HC.out; omega
                case rel => exact ⟨⟨1, n, by omega, rfl, by go_num, HS⟩, rfl⟩
            · go_wp2_with fail
              go_roundg (m - (i + 1))
              case measure => have := HC.out; omega
              case rel => exact ⟨⟨i + 1, n, by omega, rfl, by go_num, HS⟩, rfl⟩
      · have HO := Lib.hid (HI.out.out (by have := HM.out; have := HI.out.i; omega))
        go_wp2_with fail
        go_ret3
        exact toInt_nil (toInt_no HO.out) ⟨0, rfl⟩
end Go.Proofs.YtgmghopcppniaaaGreatDoor
