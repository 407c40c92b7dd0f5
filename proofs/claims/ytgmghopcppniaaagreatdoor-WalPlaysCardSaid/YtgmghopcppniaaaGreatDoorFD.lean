/- The sum, four bytes, frames: walked. -/
import Derived.Test.YtgmghopcppniaaaGreatDoorFZ
import Derived.Laws.IdiomStrings
import Derived.Lib.VarintBits
import Derived.Test.YtgmghopcppniaaaGreatDoorFBb
import Derived.Shelf.Strings.BuilderK
import Derived.ChangeAlike
import Derived.StillTailTactics
import Derived.Deep.RegionHeld3
import Derived.Deep.DeepMust
import Derived.RangeFuncNested
import Derived.RangeFuncLeaves
import Derived.RangeFuncBound
import Derived.RangeFuncCalls
import Derived.Shelf.Abstract
import Derived.Shelf.RegionOpen
import Derived.OwnWalkIn
import Derived.TacticsInMore
import Derived.LoopNIn
import Derived.LoopIn
import Derived.Sort.LoopGhostIn
import Derived.Deep.DeepCutAuto
namespace Go.Proofs.YtgmghopcppniaaaGreatDoor
open Go.RowKit Go.Lib

set_option maxRecDepth 100000 in
set_option maxHeartbeats 8000000 in
theorem sum_h {w : World} (c0 : Nat) (hc0 : c0 < 4294967296) (s : Str) (hs : s.length ≤ 1000000) : Calls Tryz.prog 122 #[.int .u32 (c0 : Int), .string (bs s)] w fun e w' => e = .returned (.int .u32 ((sumL c0 s : Nat) : Int)) ∧ w = w' := by
 have hsz : (bs s).size = s.length := rfl
 go_enter Tryz.func122, Tryz.ntmps122
 go_wp2_with fail
 go_loopg [0, 8] s.length (fun j v0 v8 wr => (∃ i : Nat, i + j = s.length ∧ v0 = .int .u32 ((sumL c0 (s.take i) : Nat) : Int) ∧ v8 = .int .i64 i) ∧ w = wr)
 case atStart => exact ⟨⟨0, by omega, rfl, rfl⟩, rfl⟩
 case round =>
  obtain ⟨⟨i, hi, rfl, rfl⟩, rfl⟩ := hrel
  by_cases hlt : i < s.length
  ·have hz : i < (bs s).size := hlt
   have hg := bs_at s i hz
   have hlt2 := sum_lt (s.take i) hc0
   have hsn := sum_snoc (c := c0) (s := s) (k := i) (b := s.getD i 0) (by rw [List.getD_eq_getElem?_getD, List.getElem?_eq_getElem hlt]; rfl)
   obtain ⟨b, hb⟩ : ∃ b, s.getD i 0 = b := ⟨_, rfl⟩
   rw [hb] at hg hsn
   obtain ⟨c, hc⟩ : ∃ c, sumL c0 (s.take i) = c := ⟨_, rfl⟩
   rw [hc] at hsn hlt2 ⊢
   have hbl := b.toNat_lt
   have hx := xor_u32 c b.toNat hlt2 (by omega)
   have hxl : c ^^^ b.toNat < 4294967296 := Nat.xor_lt_two_pow (n := 32) hlt2 (by omega)
   have HN := Lib.hid (And.intro hsn hi)
   obtain ⟨x, hxe⟩ : ∃ x, c ^^^ b.toNat = x := ⟨_, rfl⟩
   rw [hxe] at hx hxl HN
   clear hsn hi hb hc hxe hlt2
   go_wp2_with fail
   go_loopg [0, 17] 8 (fun j v0 v17 wr => (∃ k : Nat, k + j = 8 ∧ v0 = .int .u32 ((crcN k x : Nat) : Int) ∧ v17 = .int .i64 k) ∧ w = wr)
   case atStart => exact ⟨⟨0, by omega, rfl, rfl⟩, rfl⟩
   case round =>
    obtain ⟨⟨k, hk, rfl, rfl⟩, rfl⟩ := hrel
    by_cases hk8 : k < 8
    ·have hcl := crcN_lt k hxl
     have hcs := crcN_snoc k x
     obtain ⟨y, hy⟩ : ∃ y, crcN k x = y := ⟨_, rfl⟩
     rw [hy] at hcl hcs ⊢
     have ha := and1_u32 y hcl
     have HK := Lib.hid (And.intro hk hcs)
     clear hk hcs hy
     rcases Nat.mod_two_eq_zero_or_one y with h2 | h2
     ·have HE := Lib.hid (crc_even h2)
      rw [h2] at ha
      have hx0 := xor_u32 (y / 2) 0 (by omega) (by decide)
      rw [Nat.xor_zero] at hx0
      have HX := Lib.hid hx0
      clear h2 hx0
      go_wp2_with fail
      go_roundg (8 - (k + 1))
      case measure => have := HK.out.1; omega
      case rel =>
       refine ⟨⟨k + 1, by have := HK.out.1; omega, ?_, by go_num⟩, rfl⟩
       rw [HK.out.2, HE.out, ← HX.out, show bits BinOp.and IntKind.u32 2197175160 0 = 0 from by decide]
       rfl
     ·have HE := Lib.hid (crc_odd h2)
      rw [h2] at ha
      have HX := Lib.hid (xor_u32 (y / 2) 2197175160 (by omega) (by decide))
      clear h2
      go_wp2_with fail
      go_roundg (8 - (k + 1))
      case measure => have := HK.out.1; omega
      case rel =>
       refine ⟨⟨k + 1, by have := HK.out.1; omega, ?_, by go_num⟩, rfl⟩
       rw [HK.out.2, HE.out, ← HX.out, show bits BinOp.and IntKind.u32 2197175160 4294967295 = 2197175160 from by decide]
       rfl
    ·obtain rfl : k = 8 := by omega
     clear hk hk8
     go_wp2_with fail
     go_roundg (s.length - (i + 1))
     case measure => have := HN.out.2; omega
     case rel => exact ⟨⟨i + 1, by have := HN.out.2; omega, by rw [HN.out.1], by go_num⟩, rfl⟩
  ·obtain rfl : i = s.length := by omega
   rw [List.take_length]
   clear hi hlt
   go_wp2_with fail
   go_ret
   exact ⟨rfl, rfl⟩
end Go.Proofs.YtgmghopcppniaaaGreatDoor

/- Four bytes, frames: walked. -/
namespace Go.Proofs.YtgmghopcppniaaaGreatDoor
open Go.RowKit Go.Lib

theorem u8_at (n : Nat) (z : Int) (hz : z = (n : Int)) : z % 256 = ((UInt8.ofNat n).toNat : Int) := by
 subst hz
 rw [UInt8.toNat_ofNat']
 omega
set_option maxRecDepth 100000 in
set_option maxHeartbeats 4000000 in
theorem four_h {w : World} (v : Nat) (_hv : v < 4294967296) : Calls Tryz.prog 121 #[.int .u32 (v : Int)] w fun e w' => e = .returned (.string (bs (fourL v))) ∧ Fr (fun _ => False) w w' := by
 have hcv : Sem.run Tryz.prog (convert 33 9 (.slice (some ⟨w.heap.size, 0, none⟩) 4 4)) (w.alloc (.cells #[.int .u8 ((v : Int) / 16777216 % 256), .int .u8 ((v : Int) / 65536 % 256), .int .u8 ((v : Int) / 256 % 256), .int .u8 ((v : Int) % 256)] 5)) = .ok (.string (bs (fourL v))) (w.alloc (.cells #[.int .u8 ((v : Int) / 16777216 % 256), .int .u8 ((v : Int) / 65536 % 256), .int .u8 ((v : Int) / 256 % 256), .int .u8 ((v : Int) % 256)] 5)) := by
  have f0 := u8_at (v / 16777216) ((v : Int) / 16777216) (by omega)
  have f1 := u8_at (v / 65536) ((v : Int) / 65536) (by omega)
  have f2 := u8_at (v / 256) ((v : Int) / 256) (by omega)
  have f3 := u8_at v (v : Int) rfl
  rw [f0, f1, f2, f3]
  exact run_convert_bytes_back _ 33 9 5 ⟨w.heap.size, 0, none⟩ 4 (fourL v) Tryz.underlying33 Tryz.underlying5 Tryz.underlying9 fun j hj => by
   rw [Addr.add_lit, Nat.zero_add]
   refine cell_of (block_new w _) ?_
   match j, hj with
   | 0, _ => rfl
   | 1, _ => rfl
   | 2, _ => rfl
   | 3, _ => rfl
   | k + 4, hj => exact absurd (show k + 4 < 4 from hj) (by omega)
 clear _hv
 go_enter Tryz.func121, Tryz.ntmps121
 go_wp2_with fail
 go_ret
 exact ⟨rfl, (Fr.refl _ _).alloc _⟩
end Go.Proofs.YtgmghopcppniaaaGreatDoor

/- Frames: walked. -/
namespace Go.Proofs.YtgmghopcppniaaaGreatDoor
open Go.RowKit Go.Lib

/-- what Frame answers -/
def frameD (s : Str) : Str × Int := if s.length ≤ 65536 then (frameL s, 0) else ([], 10)
set_option maxRecDepth 100000 in
set_option maxHeartbeats 4000000 in
theorem frame_h {w : World} (s : Str) (hs : s.length ≤ 1000000) : Calls Tryz.prog 67 #[.string (bs s)] w fun e w' => e = .returned (.tuple #[.string (bs (frameD s).1), .int .i64 (frameD s).2]) ∧ Fr (fun _ => False) w w' := by
 have hsz : (bs s).size = s.length := rfl
 by_cases hl : 65536 < s.length
 ·have hli : (65536 : Int) < (s.length : Int) := by omega
  have HE := Lib.hid (show frameD s = ([], 10) from if_neg (by omega))
  clear hl
  go_enter Tryz.func67, Tryz.ntmps67
  go_wp2_with fail
  go_ret2
  exact ⟨by rw [HE.out] <;> rfl, Fr.refl _ _⟩
 have hli : ¬ (65536 : Int) < (s.length : Int) := by omega
 have HE := Lib.hid (show frameD s = (frameL s, 0) from if_pos (by omega))
 have hw : IntKind.u32.wrap (s.length : Int) = (s.length : Int) := by rw [IntKind.wrap_u32]; omega
 have H1 := Lib.hid (four_h (w := w) s.length (by omega))
 have h4 : (fourL s.length).length = 4 := rfl
 have hc1 := sum_lt (fourL s.length) (c := 4294967295) (by decide)
 have hc2 := sum_lt s hc1
 have H2 := Lib.hid (fun (W : World) => sum_h (w := W) 4294967295 (by decide) (fourL s.length) (by rw [h4]; decide))
 have H3 := Lib.hid (fun (W : World) => sum_h (w := W) (sumL 4294967295 (fourL s.length)) hc1 s hs)
 have hcrc : crcL (fourL s.length ++ s) = 4294967295 ^^^ sumL (sumL 4294967295 (fourL s.length)) s := by unfold crcL; rw [sum_app]
 have hfr : frameL s = (fourL s.length ++ fourL (crcL (fourL s.length ++ s))) ++ s := rfl
 obtain ⟨n4, hn4⟩ : ∃ n4, fourL s.length = n4 := ⟨_, rfl⟩
 rw [hn4] at H1 H2 H3 h4 hc1 hc2 hcrc hfr
 obtain ⟨x1, hx1⟩ : ∃ x1, sumL 4294967295 n4 = x1 := ⟨_, rfl⟩
 rw [hx1] at H2 H3 hc2 hcrc
 obtain ⟨x2, hx2⟩ : ∃ x2, sumL x1 s = x2 := ⟨_, rfl⟩
 rw [hx2] at H3 hc2 hcrc
 have hxr : bits .xor .u32 IntKind.u32.max (x2 : Int) = ((4294967295 ^^^ x2 : Nat) : Int) := xor_u32 4294967295 x2 (by decide) hc2
 have hcl := crc_lt (n4 ++ s)
 rw [← hcrc] at hxr
 obtain ⟨cr, hcr⟩ : ∃ cr, crcL (n4 ++ s) = cr := ⟨_, rfl⟩
 rw [hcr] at hxr hcl hfr
 have H4 := Lib.hid (fun (W : World) => four_h (w := W) cr hcl)
 have hc4 : (fourL cr).length = 4 := rfl
 obtain ⟨c4, hc⟩ : ∃ c4, fourL cr = c4 := ⟨_, rfl⟩
 rw [hc] at H4 hfr hc4
 obtain ⟨p, hp⟩ : ∃ p, n4 ++ c4 = p := ⟨_, rfl⟩
 rw [hp] at hfr
 obtain ⟨q, hq⟩ : ∃ q, p ++ s = q := ⟨_, rfl⟩
 rw [hq] at hfr
 have hpl : p.length = 8 := by rw [← hp, List.length_append, h4, hc4]
 have hql : q.length = p.length + s.length := by rw [← hq, List.length_append]
 have s1 : ∀ w : World, (Op.stringOp .add (bs n4) (bs c4)).run Tryz.prog w = .ok (.string (bs p)) w := fun w => sum_at w hp (by omega)
 have s2 : ∀ w : World, (Op.stringOp .add (bs p) (bs s)).run Tryz.prog w = .ok (.string (bs q)) w := fun w => sum_at w hq (by omega)
 have HFr := Lib.hid hfr
 clear hl hn4 hx1 hx2 hcr hc hp hq hfr hcrc hc1 hc2 hcl h4 hc4 hpl hql
 go_enter Tryz.func67, Tryz.ntmps67
 go_wp2_with fail
 refine Calls.mono H1.out ?_
 rintro e w1 ⟨rfl, hF⟩
 have HF1 := Lib.hid hF
 clear hF
 go_wp2_with fail
 refine Calls.mono (H2.out _) ?_
 rintro e w2 ⟨rfl, rfl⟩
 go_wp2_with fail
 refine Calls.mono (H3.out _) ?_
 rintro e w2 ⟨rfl, rfl⟩
 go_wp2_with fail
 refine Calls.mono (H4.out _) ?_
 rintro e w2 ⟨rfl, hF⟩
 have HF2 := Lib.hid (HF1.out.next hF)
 clear hF
 go_wp2_with fail
 go_ret2
 exact ⟨by rw [HE.out, HFr.out] <;> rfl, HF2.out⟩
end Go.Proofs.YtgmghopcppniaaaGreatDoor

/- Unframe: walked. -/
namespace Go.Proofs.YtgmghopcppniaaaGreatDoor
open Go.RowKit Go.Lib

theorem or_i64 (a b : Nat) (ha : a < 4611686018427387904) (hb : b < 4611686018427387904) : bits .or .i64 (a : Int) (b : Int) = ((a ||| b : Nat) : Int) := by
 have hx : a ||| b < 2 ^ 62 := Nat.or_lt_two_pow (by omega) (by omega)
 have h1 : (BitVec.ofInt 64 (a : Int)).toNat = a := by
  rw [BitVec.ofInt_natCast, BitVec.toNat_ofNat]; exact Nat.mod_eq_of_lt (by omega)
 have h2 : (BitVec.ofInt 64 (b : Int)).toNat = b := by
  rw [BitVec.ofInt_natCast, BitVec.toNat_ofNat]; exact Nat.mod_eq_of_lt (by omega)
 show IntKind.i64.wrap ((BitVec.ofInt 64 (a : Int) ||| BitVec.ofInt 64 (b : Int)).toNat : Int) = _
 rw [BitVec.toNat_or, h1, h2, IntWalk.i64_in _ (by omega)]
theorem or_add (k a b : Nat) (hb : b < 2 ^ k) (hl : 2 ^ k * a + b < 4611686018427387904) : bits .or .i64 ((2 ^ k * a : Nat) : Int) (b : Int) = ((2 ^ k * a + b : Nat) : Int) := by
 rw [or_i64 _ _ (by omega) (by omega), Nat.two_pow_add_eq_or_of_lt hb]
/-- what Unframe answers -/
def unfD (s : Str) : (Str × Int) × Int := match unframeL s with | .ok (t, n) => ((t, (n : Int)), 0) | .error e => (([], 0), e)
theorem unf_err {s : Str} {e : Int} (h : unframeL s = .error e) : unfD s = (([], 0), e) := by unfold unfD; rw [h]
theorem unf_ok {s t : Str} {n : Nat} (h : unframeL s = .ok (t, n)) : unfD s = ((t, (n : Int)), 0) := by unfold unfD; rw [h]
def UnfPost (s : Str) (w : World) (e : Ending) (w' : World) : Prop := e = .returned (.tuple #[.string (bs (unfD s).1.1), .int .i64 (unfD s).1.2, .int .i64 (unfD s).2]) ∧ Fr (fun _ => False) w w'
theorem unf_post {s t : Str} {n er : Int} {w w' : World} (h : unfD s = ((t, n), er)) (hf : Fr (fun _ => False) w w') : UnfPost s w (.returned (.tuple #[.string (bs t), .int .i64 n, .int .i64 er])) w' := by
 unfold UnfPost; rw [h]; exact ⟨rfl, hf⟩
theorem unf_empty {s : Str} {er : Int} {w w' : World} (h : unfD s = (([], 0), er)) (hf : Fr (fun _ => False) w w') : UnfPost s w (.returned (.tuple #[.string ⟨#[]⟩, .int .i64 0, .int .i64 er])) w' := unf_post h hf
theorem un_long {s : Str} (h4 : ¬ s.length < 4) (h : 65536 < fourN s) : unframeL s = .error 10 := by unfold unframeL; rw [if_neg h4, if_pos h]
theorem un_cut {s : Str} (h4 : ¬ s.length < 4) (h : ¬ 65536 < fourN s) (h2 : s.length < 8 + fourN s) : unframeL s = .error 8 := by unfold unframeL; rw [if_neg h4, if_neg h, if_pos h2]
theorem un_sum {s t : Str} (h4 : ¬ s.length < 4) (h : ¬ 65536 < fourN s) (h2 : ¬ s.length < 8 + fourN s) (ht : (s.take (8 + fourN s)).drop 8 = t) (h3 : frameL t ≠ s.take (8 + fourN s)) : unframeL s = .error 9 := by
 have e : (s.drop 8).take (fourN s) = t := by rw [← ht, List.drop_take, Nat.add_sub_cancel_left]
 unfold unframeL; rw [if_neg h4, if_neg h, if_neg h2, e, if_neg h3]
theorem un_done {s t : Str} (h4 : ¬ s.length < 4) (h : ¬ 65536 < fourN s) (h2 : ¬ s.length < 8 + fourN s) (ht : (s.take (8 + fourN s)).drop 8 = t) (h3 : frameL t = s.take (8 + fourN s)) : unframeL s = .ok (t, 8 + fourN s) := by
 have e : (s.drop 8).take (fourN s) = t := by rw [← ht, List.drop_take, Nat.add_sub_cancel_left]
 unfold unframeL; rw [if_neg h4, if_neg h, if_neg h2, e, if_pos h3]
theorem four_val {s : Str} {b0 b1 b2 b3 : UInt8} (h0 : s.getD 0 0 = b0) (h1 : s.getD 1 0 = b1) (h2 : s.getD 2 0 = b2) (h3 : s.getD 3 0 = b3) : fourN s = b0.toNat * 16777216 + b1.toNat * 65536 + b2.toNat * 256 + b3.toNat := by
 unfold fourN; rw [h0, h1, h2, h3]
theorem or_at (k : Nat) {a b c : Nat} {x y : Int} (hx : x = ((2 ^ k * a : Nat) : Int)) (hy : y = (b : Int)) (hb : b < 2 ^ k) (hl : 2 ^ k * a + b < 4611686018427387904) (hc : 2 ^ k * a + b = c) : bits .or .i64 x y = (c : Int) := by
 rw [hx, hy, or_add k a b hb hl, hc]
theorem slice_run {w : World} (s : Str) {i j : Int} {a b : Nat} (hi : i = (a : Int)) (hj : j = (b : Int)) (hab : a ≤ b) (hb : b ≤ s.length) :
  (Instr.slice 9 (.string (bs s)) (some (.int .i64 i)) (some (.int .i64 j)) none).run Tryz.prog w = .ok (.string (bs ((s.take b).drop a))) w := by
 subst hi; subst hj
 rw [run_slice_string w 9 (bs s) .i64 .i64 a b Tryz.underlying9 (by omega) (by omega) (by rw [bs_size]; omega), bs_mid]
 rfl
set_option maxRecDepth 100000 in
set_option maxHeartbeats 4000000 in
theorem unframe_h {w : World} (s : Str) (hs : s.length ≤ 1000000) : Calls Tryz.prog 112 #[.string (bs s)] w (UnfPost s w) := by
 have hsz : (bs s).size = s.length := rfl
 by_cases h4 : s.length < 4
 ·have h4i : (s.length : Int) < 4 := by omega
  have HE := Lib.hid (unf_err (show unframeL s = .error 8 from if_pos h4))
  clear h4
  go_enter Tryz.func112, Tryz.ntmps112
  go_wp2_with fail
  go_ret3
  exact unf_empty HE.out (Fr.refl _ _)
 have h4i : ¬ (s.length : Int) < 4 := by omega
 have z0 : 0 < (bs s).size := by rw [hsz]; omega
 have z1 : 1 < (bs s).size := by rw [hsz]; omega
 have z2 : 2 < (bs s).size := by rw [hsz]; omega
 have z3 : 3 < (bs s).size := by rw [hsz]; omega
 have g0 := bs_at s 0 z0
 have g1 := bs_at s 1 z1
 have g2 := bs_at s 2 z2
 have g3 := bs_at s 3 z3
 obtain ⟨b0, hb0⟩ : ∃ b, s.getD 0 0 = b := ⟨_, rfl⟩
 obtain ⟨b1, hb1⟩ : ∃ b, s.getD 1 0 = b := ⟨_, rfl⟩
 obtain ⟨b2, hb2⟩ : ∃ b, s.getD 2 0 = b := ⟨_, rfl⟩
 obtain ⟨b3, hb3⟩ : ∃ b, s.getD 3 0 = b := ⟨_, rfl⟩
 have hfn := four_val hb0 hb1 hb2 hb3
 rw [hb0] at g0
 rw [hb1] at g1
 rw [hb2] at g2
 rw [hb3] at g3
 have l0 := b0.toNat_lt
 have l1 := b1.toNat_lt
 have l2 := b2.toNat_lt
 have l3 := b3.toNat_lt
 obtain ⟨m1, hm1⟩ : ∃ m, 2 ^ 24 * b0.toNat + b1.toNat * 65536 = m := ⟨_, rfl⟩
 obtain ⟨m2, hm2⟩ : ∃ m, 2 ^ 16 * (b0.toNat * 256 + b1.toNat) + b2.toNat * 256 = m := ⟨_, rfl⟩
 obtain ⟨N, hN⟩ : ∃ m, 2 ^ 8 * (b0.toNat * 65536 + b1.toNat * 256 + b2.toNat) + b3.toNat = m := ⟨_, rfl⟩
 have e1 : bits .or .i64 ((b0.toNat : Int) * 16777216) ((b1.toNat : Int) * 65536) = (m1 : Int) := or_at 24 (a := b0.toNat) (b := b1.toNat * 65536) (by omega) (by omega) (by omega) (by omega) hm1
 have e2 : bits .or .i64 (m1 : Int) ((b2.toNat : Int) * 256) = (m2 : Int) := or_at 16 (a := b0.toNat * 256 + b1.toNat) (b := b2.toNat * 256) (by omega) (by omega) (by omega) (by omega) hm2
 have e3 : bits .or .i64 (m2 : Int) (b3.toNat : Int) = (N : Int) := or_at 8 (a := b0.toNat * 65536 + b1.toNat * 256 + b2.toNat) (b := b3.toNat) (by omega) rfl (by omega) (by omega) hN
 have hfN : fourN s = N := by rw [hfn]; omega
 have H4 := Lib.hid h4
 clear hb0 hb1 hb2 hb3 hfn hm1 hm2 hN h4
 by_cases hb : 65536 < N
 ·have hbi : (65536 : Int) < (N : Int) := by omega
  have HE := Lib.hid (unf_err (un_long H4.out (by rw [hfN]; exact hb)))
  clear hb hfN
  go_enter Tryz.func112, Tryz.ntmps112
  go_wp2_with fail
  go_big_quiet (fail)
  go_wp2_with fail
  go_ret3
  exact unf_empty HE.out ((Fr.refl _ _).drewN _)
 have hbi : ¬ (65536 : Int) < (N : Int) := by omega
 have hw : IntKind.i64.wrap (8 + (N : Int)) = 8 + (N : Int) := IntWalk.i64_in _ (by omega)
 by_cases hc : s.length < 8 + N
 ·have hci : (s.length : Int) < 8 + (N : Int) := by omega
  have HE := Lib.hid (unf_err (un_cut H4.out (by rw [hfN]; exact hb) (by rw [hfN]; exact hc)))
  clear hb hfN hc
  go_enter Tryz.func112, Tryz.ntmps112
  go_wp2_with fail
  go_big_quiet (fail)
  go_wp2_with fail
  go_ret3
  exact unf_empty HE.out ((Fr.refl _ _).drewN _)
 have hci : ¬ (s.length : Int) < 8 + (N : Int) := by omega
 have hx1 : (bs s).extract 8 (8 + N) = bs ((s.take (8 + N)).drop 8) := bs_mid s 8 (8 + N)
 have hx2 : (bs s).extract 0 (8 + N) = bs (s.take (8 + N)) := by rw [bs_mid, List.drop_zero]
 obtain ⟨t, ht⟩ : ∃ t, (s.take (8 + N)).drop 8 = t := ⟨_, rfl⟩
 obtain ⟨u, hu⟩ : ∃ u, s.take (8 + N) = u := ⟨_, rfl⟩
 have htl : t.length = N := by rw [← ht, List.length_drop, List.length_take]; omega
 have HFr := Lib.hid (fun (W : World) => frame_h (w := W) t (by omega))
 have hfd : frameD t = (frameL t, 0) := if_pos (by omega)
 rw [hfd] at HFr
 rw [ht] at hx1
 rw [hu] at hx2
 have hsl : ∀ w : World, (Instr.slice 9 (.string (bs s)) (some (.int .i64 8)) (some (.int .i64 (8 + (N : Int)))) none).run Tryz.prog w = .ok (.string (bs t)) w := fun w => by
  have h := slice_run (w := w) s (i := 8) (j := 8 + (N : Int)) (a := 8) (b := 8 + N) rfl (by omega) (by omega) (by omega)
  rw [ht] at h; exact h
 have hul : u.length = 8 + N := by rw [← hu, List.length_take]; omega
 by_cases he : frameL t = u
 ·have he2 : frameL t = s.take (8 + N) := he.trans hu.symm
  have HE := Lib.hid (unf_ok (un_done (t := t) H4.out (by rw [hfN]; exact hb) (by rw [hfN]; exact hc) (by rw [hfN]; exact ht) (by rw [hfN]; exact he2)))
  rw [hfN] at HE
  rw [he] at HFr
  clear he2
  have t1 : ((bs u).toList != (bs u).toList) = false := by simp
  have hwz : ((8 + N : Nat) : Int) = 8 + (N : Int) := by omega
  have HZ := Lib.hid hwz
  clear hb hfN hc ht hu hfd he htl hul hwz
  go_enter Tryz.func112, Tryz.ntmps112
  go_wp2_with fail
  go_big_quiet (fail)
  go_wp2_with fail
  refine Calls.mono (HFr.out _) ?_
  rintro e w1 ⟨rfl, hF⟩
  have HF := Lib.hid (((Fr.refl (fun _ => False) w).drewN _).next hF)
  clear hF
  go_wp2_with fail
  go_ret3
  exact unf_post (by rw [HE.out, HZ.out]) HF.out
 ·have he2 : frameL t ≠ s.take (8 + N) := fun e => he (e.trans hu)
  have HE := Lib.hid (unf_err (un_sum (t := t) H4.out (by rw [hfN]; exact hb) (by rw [hfN]; exact hc) (by rw [hfN]; exact ht) (by rw [hfN]; exact he2)))
  obtain ⟨fu, hfu⟩ : ∃ fu, frameL t = fu := ⟨_, rfl⟩
  rw [hfu] at HFr he
  clear he2
  have t0 : ((bs fu).toList == (bs u).toList) = false := by rw [bs_toList, bs_toList]; exact beq_eq_false_iff_ne.2 he
  have t1 : ((bs fu).toList != (bs u).toList) = true := by rw [bne, t0]; rfl
  have t2 : decide (bs fu = bs u) = false := decide_eq_false fun e => he (bs_inj e)
  clear hb hfN hc ht hu hfd he htl hul hfu
  go_enter Tryz.func112, Tryz.ntmps112
  go_wp2_with fail
  go_big_quiet (fail)
  go_wp2_with fail
  refine Calls.mono (HFr.out _) ?_
  rintro e w1 ⟨rfl, hF⟩
  have HF := Lib.hid (((Fr.refl (fun _ => False) w).drewN _).next hF)
  clear hF
  go_wp2_with fail
  go_ret3
  exact unf_empty HE.out HF.out
end Go.Proofs.YtgmghopcppniaaaGreatDoor

/- ToInt: walked. -/
namespace Go.Proofs.YtgmghopcppniaaaGreatDoor
open Go.RowKit Go.Lib

theorem or_u64 (a b : Nat) (hb : b < 128) (hl : a * 128 + b < 18446744073709551616) : bits .or .u64 ((a : Int) * 128) (b : Int) = ((a * 128 + b : Nat) : Int) := by
 have h1 : (BitVec.ofInt 64 ((a : Int) * 128)).toNat = a * 128 := by
  rw [show (a : Int) * 128 = ((a * 128 : Nat) : Int) by omega, BitVec.ofInt_natCast, BitVec.toNat_ofNat]; exact Nat.mod_eq_of_lt (by omega)
 have h2 : (BitVec.ofInt 64 (b : Int)).toNat = b := by
  rw [BitVec.ofInt_natCast, BitVec.toNat_ofNat]; exact Nat.mod_eq_of_lt (by omega)
 show IntKind.u64.wrap ((BitVec.ofInt 64 ((a : Int) * 128) ||| BitVec.ofInt 64 (b : Int)).toNat : Int) = _
 rw [BitVec.toNat_or, h1, h2, show a * 128 = 2 ^ 7 * a by omega, ← Nat.two_pow_add_eq_or_of_lt (i := 7) hb, IntKind.wrap_u64]
 omega
theorem and1_u64 (a : Nat) (ha : a < 18446744073709551616) : bits .and .u64 (a : Int) 1 = ((a % 2 : Nat) : Int) := by
 have h1 : (BitVec.ofInt 64 (a : Int)).toNat = a := by
  rw [BitVec.ofInt_natCast, BitVec.toNat_ofNat]; exact Nat.mod_eq_of_lt (by omega)
 show IntKind.u64.wrap ((BitVec.ofInt 64 (a : Int) &&& BitVec.ofInt 64 1).toNat : Int) = _
 rw [BitVec.toNat_and, h1, show (BitVec.ofInt 64 1).toNat = 1 from rfl, Nat.and_one_is_mod, IntKind.wrap_u64]
 omega
theorem xor0_i64 (a : Nat) (ha : a < 9223372036854775808) : bits .xor .i64 (a : Int) 0 = (a : Int) := by
 have h1 : (BitVec.ofInt 64 (a : Int)).toNat = a := by
  rw [BitVec.ofInt_natCast, BitVec.toNat_ofNat]; exact Nat.mod_eq_of_lt (by omega)
 show IntKind.i64.wrap ((BitVec.ofInt 64 (a : Int) ^^^ BitVec.ofInt 64 0).toNat : Int) = _
 rw [BitVec.toNat_xor, h1, show (BitVec.ofInt 64 0).toNat = 0 from rfl, Nat.xor_zero, IntWalk.i64_in _ (by omega)]
theorem wrap_i64_hi (y : Int) (h1 : 9223372036854775808 ≤ y) (h2 : y < 18446744073709551616) : IntKind.i64.wrap y = y - 18446744073709551616 := by
 rw [IntKind.wrap_i64]; omega
theorem xorm_i64 (a : Nat) (ha : a < 9223372036854775808) : bits .xor .i64 (a : Int) (-1) = -(a : Int) - 1 := by
 have h1 : (BitVec.ofInt 64 (a : Int)).toNat = a := by
  rw [BitVec.ofInt_natCast, BitVec.toNat_ofNat]; exact Nat.mod_eq_of_lt (by omega)
 have h3 : (BitVec.ofInt 64 (a : Int) ^^^ BitVec.ofInt 64 (-1)) = ~~~ (BitVec.ofInt 64 (a : Int)) := by
  rw [show BitVec.ofInt 64 (-1) = BitVec.allOnes 64 from by decide, BitVec.xor_allOnes]
 show IntKind.i64.wrap ((BitVec.ofInt 64 (a : Int) ^^^ BitVec.ofInt 64 (-1)).toNat : Int) = _
 have h4 : (((~~~ (BitVec.ofInt 64 (a : Int))).toNat : Nat) : Int) = 18446744073709551615 - (a : Int) := by
  rw [BitVec.toNat_not, h1]
  have : (2 : Nat) ^ 64 - 1 - a + a = 18446744073709551615 := Nat.sub_add_cancel (by omega)
  generalize (2 : Nat) ^ 64 - 1 - a = y at this ⊢
  omega
 rw [h3, h4, wrap_i64_hi _ (by omega) (by omega)]
 omega
theorem shr57 (v : Nat) : Op.shift .shr .u64 (v : Int) .u64 57 = pure (.int .u64 ((v / 144115188075855872 : Nat) : Int)) := by
 rw [shift_shr_u64 _ _ _ (by decide) (by decide)]; rfl
theorem shr1 (v : Nat) : Op.shift .shr .u64 (v : Int) .u64 1 = pure (.int .u64 ((v / 2 : Nat) : Int)) := by
 rw [shift_shr_u64 _ _ _ (by decide) (by decide)]; rfl
theorem shl7 (v : Nat) (h : v < 144115188075855872) : Op.shift .shl .u64 (v : Int) .u64 7 = pure (.int .u64 ((v : Int) * 128)) := by
 rw [shift_shl_u64 _ _ _ (by decide) (by decide), IntKind.wrap_u64, show (2 : Int) ^ (7 : Int).toNat = 128 by decide]; congr 2; omega
theorem and127_u8 (c : UInt8) : bits .and .u8 (c.toNat : Int) 127 = ((c.toNat % 128 : Nat) : Int) := by
 have := c.toNat_lt
 rw [u8_and127 _ (by omega) (by omega)]; rfl
/-- what ToInt answers -/
def toIntD (s : Str) : (Int × Str) × Bool := match toIntL s with | some p => (p, true) | none => ((0, []), false)
def ToIntPost (s : Str) (w : World) (e : Ending) (w' : World) : Prop := e = .returned (.tuple #[.int .i64 (toIntD s).1.1, .string (bs (toIntD s).1.2), .bool (toIntD s).2]) ∧ ∃ p, w' = w.drewN p
theorem toInt_no {s : Str} (h : toNatF 10 true 0 s = none) : toIntD s = ((0, []), false) := by unfold toIntD toIntL; rw [h]
theorem toInt_yes {s t : Str} {v : Nat} (h : toNatF 10 true 0 s = some (v, t)) : toIntD s = ((unzig v, t), true) := by unfold toIntD toIntL; rw [h]
theorem toInt_post {s t : Str} {n : Int} {ok : Bool} {w w' : World} (h : toIntD s = ((n, t), ok)) (hf : ∃ p, w' = w.drewN p) : ToIntPost s w (.returned (.tuple #[.int .i64 n, .string (bs t), .bool ok])) w' := by
 unfold ToIntPost; rw [h]; exact ⟨rfl, hf⟩
theorem toInt_nil {s : Str} {w w' : World} (h : toIntD s = ((0, []), false)) (hf : ∃ p, w' = w.drewN p) : ToIntPost s w (.returned (.tuple #[.int .i64 0, .string ⟨#[]⟩, .bool false])) w' := toInt_post h hf
theorem toInt_hit {s t : Str} {v : Nat} {n : Int} {b : ByteArray} {w w' : World} (h : toNatF 10 true 0 s = some (v, t)) (hn : unzig v = n) (hb : bs t = b) (hf : ∃ p, w' = w.drewN p) : ToIntPost s w (.returned (.tuple #[.int .i64 n, .string b, .bool true])) w' := by
 rw [← hb, ← hn]; exact toInt_post (toInt_yes h) hf
theorem bs_drop_ex (s : Str) (i : Nat) : bs (s.drop i) = (bs s).extract i s.length := by
 rw [bs_mid, List.take_length]
/-- behind i bytes -/
structure NatAt (s : Str) (i v : Nat) : Prop where
 eq : toNatF 10 true 0 s = toNatF (10 - i) (decide (i = 0)) v (s.drop i)
 v : v < 18446744073709551616
 i : i ≤ 10 ∧ i ≤ s.length
theorem NatAt.start (s : Str) : NatAt s 0 0 := ⟨rfl, by decide, by omega, Nat.zero_le _⟩
section
variable {s : Str} {i v : Nat} {c : UInt8}
theorem NatAt.at (h : NatAt s i v) (h10 : i < 10) (hl : i < s.length) (hc : s.getD i 0 = c) : toNatF 10 true 0 s = if (decide (i = 0) && c == 128) || decide (144115188075855872 ≤ v) then none else if c.toNat < 128 then some (v * 128 + c.toNat, s.drop (i + 1)) else toNatF (10 - (i + 1)) false (v * 128 + c.toNat % 128) (s.drop (i + 1)) := by
 have e : s.drop i = c :: s.drop (i + 1) := by
  rw [List.drop_eq_getElem_cons hl, ← hc, List.getD_eq_getElem?_getD, List.getElem?_eq_getElem hl]; rfl
 rw [h.eq, e, show 10 - i = (10 - (i + 1)) + 1 by omega, toNat_cons]
theorem NatAt.step (h : NatAt s i v) (h10 : i < 10) (hl : i < s.length) (hc : s.getD i 0 = c) (h1 : ¬ (i = 0 ∧ c = 128)) (h2 : v < 144115188075855872) (h3 : ¬ c.toNat < 128) : NatAt s (i + 1) (v * 128 + c.toNat % 128) := by
 refine ⟨?_, by omega, by omega, by omega⟩
 rw [h.at h10 hl hc, if_neg (by simp only [Bool.or_eq_true, Bool.and_eq_true, decide_eq_true_eq, beq_iff_eq, not_or]; exact ⟨h1, by omega⟩), if_neg h3, decide_eq_false (Nat.succ_ne_zero i)]
theorem NatAt.hit (h : NatAt s i v) (h10 : i < 10) (hl : i < s.length) (hc : s.getD i 0 = c) (h1 : ¬ (i = 0 ∧ c = 128)) (h2 : v < 144115188075855872) (h3 : c.toNat < 128) : toNatF 10 true 0 s = some (v * 128 + c.toNat, s.drop (i + 1)) := by
 rw [h.at h10 hl hc, if_neg (by simp only [Bool.or_eq_true, Bool.and_eq_true, decide_eq_true_eq, beq_iff_eq, not_or]; exact ⟨h1, by omega⟩), if_pos h3]
theorem NatAt.bad (h : NatAt s i v) (h10 : i < 10) (hl : i < s.length) (hc : s.getD i 0 = c) (h1 : (i = 0 ∧ c = 128) ∨ 144115188075855872 ≤ v) : toNatF 10 true 0 s = none := by
 rw [h.at h10 hl hc, if_pos (by simp only [Bool.or_eq_true, Bool.and_eq_true, decide_eq_true_eq, beq_iff_eq]; exact h1)]
theorem NatAt.out (h : NatAt s i v) (he : i = 10 ∨ i = s.length) : toNatF 10 true 0 s = none := by
 rw [h.eq]
 rcases he with rfl | rfl
 ·rfl
 ·rw [List.drop_length]
  cases 10 - s.length <;> rfl
end
set_option maxRecDepth 100000 in
set_option maxHeartbeats 8000000 in
theorem toInt_h {w : World} (s : Str) (hs : s.length ≤ 10000000) : Calls Tryz.prog 113 #[.string (bs s)] w (ToIntPost s w) := by
 have hsz : (bs s).size = s.length := rfl
 obtain ⟨m, hm, hmi⟩ : ∃ m : Nat, m = min s.length 10 ∧ min (s.length : Int) 10 = (m : Int) := ⟨_, rfl, by omega⟩
 have HM := Lib.hid hm
 have hm10 : m ≤ 10 := by omega
 clear hm
 have hmm : (s.length : Int) ≤ 10 ∨ (10 : Int) < s.length := by omega
 obtain h10 | h10 := hmm
 all_goals
  go_enter Tryz.func113, Tryz.ntmps113
  go_wp2_with fail
  go_loopg [5, 11] m (fun j v5 v11 wr => (∃ i v : Nat, i + j = m ∧ v5 = .int .u64 (v : Int) ∧ v11 = .int .i64 i ∧ Hid (NatAt s i v)) ∧ w = wr)
  case atStart => exact ⟨⟨0, 0, by omega, rfl, rfl, NatAt.start s⟩, rfl⟩
  case round =>
   obtain ⟨⟨i, v, hi, rfl, rfl, HI⟩, rfl⟩ := hrel
   have hvl := HI.out.v
   by_cases hlt : i < m
   ·have hls : i < s.length := by have := HI.out.i.2; omega
    have hi10 : i < 10 := by omega
    have hz : i < (bs s).size := hls
    have hg := bs_at s i hz
    obtain ⟨c, hc⟩ : ∃ c, s.getD i 0 = c := ⟨_, rfl⟩
    rw [hc] at hg
    have hcl := c.toNat_lt
    have HC := Lib.hid (And.intro hi (And.intro hc (And.intro hi10 hls)))
    have hvz : (v : Int) / 144115188075855872 = ((v / 144115188075855872 : Nat) : Int) := by omega
    clear hi hc hls
    have h3 : (i = 0 ∧ c.toNat = 128) ∨ 144115188075855872 ≤ v ∨ (¬ (i = 0 ∧ c.toNat = 128) ∧ v < 144115188075855872) := by omega
    obtain h1 | h1 | ⟨h1, h2⟩ := h3
    ·obtain ⟨rfl, h128⟩ := h1
     go_wp2_with fail
     go_ret3
     have HB := HC.out
     exact toInt_nil (toInt_no (HI.out.bad hi10 HB.2.2.2 HB.2.1 (Or.inl ⟨rfl, UInt8.toNat_inj.1 h128⟩))) ⟨0, rfl⟩
    ·obtain ⟨q, hq⟩ : ∃ q, v / 144115188075855872 = q := ⟨_, rfl⟩
     have hq0 : 0 < q := by omega
     have hsh := shr57 v
     rw [hq] at hsh
     have HQ := Lib.hid (And.intro hq h1)
     clear hq hvz h1
     by_cases hi0 : i = 0
     ·subst hi0
      by_cases hc128 : c.toNat = 128
      all_goals
       go_wp2_with fail
       go_ret3
       have HB := HC.out
       exact toInt_nil (toInt_no (HI.out.bad hi10 HB.2.2.2 HB.2.1 (Or.inr HQ.out.2))) ⟨0, rfl⟩
     ·go_wp2_with fail
      go_ret3
      have HB := HC.out
      exact toInt_nil (toInt_no (HI.out.bad hi10 HB.2.2.2 HB.2.1 (Or.inr HQ.out.2))) ⟨0, rfl⟩
    ·have hsh := shr57 v
     have hq0 : v / 144115188075855872 = 0 := by omega
     have hsl := shl7 v h2
     obtain ⟨b, hb⟩ : ∃ b, c.toNat % 128 = b := ⟨_, rfl⟩
     have han := and127_u8 c
     have hbl : b < 128 := by omega
     obtain ⟨n, hn⟩ : ∃ n, v * 128 + b = n := ⟨_, rfl⟩
     have hnl : n < 18446744073709551616 := by omega
     have hor := or_u64 v b hbl (by omega)
     rw [hq0] at hsh
     rw [hb] at han
     rw [hn] at hor
     have HQ := Lib.hid (And.intro h1 (And.intro h2 (And.intro hb hn)))
     clear hq0 hvz hb hn h2
     by_cases h3 : c.toNat < 128
     ·have hs1 := shr1 n
      have ha1 := and1_u64 n hnl
      obtain ⟨r, hr⟩ : ∃ r, n % 2 = r := ⟨_, rfl⟩
      obtain ⟨a, ha⟩ : ∃ a, n / 2 = a := ⟨_, rfl⟩
      have hal : a < 9223372036854775808 := by omega
      have hr2 : r = 0 ∨ r = 1 := by omega
      rw [hr] at ha1
      rw [ha] at hs1
      have HR := Lib.hid (And.intro hr ha)
      have hx0 := xor0_i64 a hal
      have hx1 := xorm_i64 a hal
      clear hr ha
      have HV := Lib.hid (HI.out.hit hi10 HC.out.2.2.2 HC.out.2.1 (fun e => HQ.out.1 ⟨e.1, by rw [e.2]; rfl⟩) HQ.out.2.1 h3)
      have hex := bs_drop_ex s (i + 1)
      by_cases hi0 : i = 0
      ·subst hi0
       have hc128 : ¬ c.toNat = 128 := by omega
       obtain rfl | rfl := hr2
       ·go_wp2_with fail
        go_big_quiet (fail)
        go_wp2_with fail
        go_ret3
        exact toInt_hit (by rw [HV.out, (Nat.mod_eq_of_lt h3).symm.trans HQ.out.2.2.1, HQ.out.2.2.2]) (by unfold unzig; rw [HR.out.1, HR.out.2]; first | done | rfl) hex ⟨_, rfl⟩
       ·go_wp2_with fail
        go_big_quiet (fail)
        go_wp2_with fail
        go_ret3
        exact toInt_hit (by rw [HV.out, (Nat.mod_eq_of_lt h3).symm.trans HQ.out.2.2.1, HQ.out.2.2.2]) (by unfold unzig; rw [HR.out.1, HR.out.2]; first | done | rfl) hex ⟨_, rfl⟩
      ·obtain rfl | rfl := hr2
       ·go_wp2_with fail
        go_big_quiet (fail)
        go_wp2_with fail
        go_ret3
        exact toInt_hit (by rw [HV.out, (Nat.mod_eq_of_lt h3).symm.trans HQ.out.2.2.1, HQ.out.2.2.2]) (by unfold unzig; rw [HR.out.1, HR.out.2]; first | done | rfl) hex ⟨_, rfl⟩
       ·go_wp2_with fail
        go_big_quiet (fail)
        go_wp2_with fail
        go_ret3
        exact toInt_hit (by rw [HV.out, (Nat.mod_eq_of_lt h3).symm.trans HQ.out.2.2.1, HQ.out.2.2.2]) (by unfold unzig; rw [HR.out.1, HR.out.2]; first | done | rfl) hex ⟨_, rfl⟩
     ·have HW := HC.out
      have HS := Lib.hid (HI.out.step hi10 HW.2.2.2 HW.2.1 (fun e => HQ.out.1 ⟨e.1, by rw [e.2]; rfl⟩) HQ.out.2.1 h3)
      rw [HQ.out.2.2.1, HQ.out.2.2.2] at HS
      by_cases hi0 : i = 0
      ·subst hi0
       by_cases hc128 : c.toNat = 128
       ·exact absurd ⟨rfl, hc128⟩ h1
       ·go_wp2_with fail
        go_roundg (m - 1)
        case measure => have := HC.out; omega
        case rel => exact ⟨⟨1, n, by omega, rfl, by go_num, HS⟩, rfl⟩
      ·go_wp2_with fail
       go_roundg (m - (i + 1))
       case measure => have := HC.out; omega
       case rel => exact ⟨⟨i + 1, n, by omega, rfl, by go_num, HS⟩, rfl⟩
   ·have HO := Lib.hid (HI.out.out (by have := HM.out; have := HI.out.i; omega))
    go_wp2_with fail
    go_ret3
    exact toInt_nil (toInt_no HO.out) ⟨0, rfl⟩
end Go.Proofs.YtgmghopcppniaaaGreatDoor

/- strings.Builder at this program: copyCheck, WriteByte: walked. -/
namespace Go.Proofs.YtgmghopcppniaaaGreatDoor
open Go.RowKit Go.Lib

theorem info5 : (Tryz.prog.info? 5).map (fun i => (i.zero, i.size, i.bytes)) = some (some (.int .u8 0), 1, 1) := by kernel_rfl
theorem info108 : (Tryz.prog.info? 108).map (fun j => j.size) = some 2 := by kernel_rfl
theorem lies108 : liesAt Tryz.prog Tryz.prog.depth 197 (2 / Tryz.prog.cellsOf 197) 0 108 1 = true := by kernel_rfl
set_option maxHeartbeats 1000000 in
set_option maxRecDepth 100000 in
theorem bcheck_fresh (b : Nat) (w : World) (h0 : w.cell? ⟨b, 0, none⟩ = some (.pointer none)) (hsh : w.shape? b = some (197, 2)) (hfz : w.frozen? ⟨b, 0, none⟩ = false) :
  Calls Tryz.prog 114 #[.pointer (some ⟨b, 0, none⟩)] w fun e w' => e = .returned (.tuple #[]) ∧ w' = w.setCell ⟨b, 0, none⟩ (.pointer (some ⟨b, 0, none⟩)) := by
 obtain ⟨j, hj, hjs⟩ := Option.map_eq_some_iff.1 info108
 go_enter Tryz.func114, Tryz.ntmps114
 go_wp2
 rw [Lib.run_to_unsafe w ⟨b, 0, none⟩ Tryz.underlying106 Tryz.underlying191 hj (by rw [hjs]; decide) hsh (Nat.zero_lt_succ 1)]
 simp only [Result.andThen]
 rw [Oper.upon_value]
 go_wp2
 rw [run_callFunc_extern Tryz.func150 (by kernel_rfl) (by kernel_rfl) (by kernel_rfl) (e := Extern.AbiNoEscape.same) (by kernel_rfl)]
 rw [Lib.run_noEscape]
 simp only [Result.andThen]
 rw [Oper.upon_value]
 go_wp2
 rw [Lib.run_from_unsafe w ⟨b, 0, none⟩ Tryz.underlying191 Tryz.underlying106 hj hsh lies108]
 simp only [Result.andThen]
 rw [Oper.upon_value]
 go_wp2
 go_end0
 exact ⟨rfl, rfl⟩
set_option maxHeartbeats 1000000 in
set_option maxRecDepth 100000 in
theorem bcheck_used (b : Nat) (w : World) (h0 : w.cell? ⟨b, 0, none⟩ = some (.pointer (some ⟨b, 0, none⟩))) :
  Calls Tryz.prog 114 #[.pointer (some ⟨b, 0, none⟩)] w fun e w' => e = .returned (.tuple #[]) ∧ w' = w := by
 obtain ⟨j, hj, _⟩ := Option.map_eq_some_iff.1 info108
 go_enter Tryz.func114, Tryz.ntmps114
 go_wp2
 rw [Lib.run_neq_ptr_same w _ Tryz.underlying106 hj]
 go_wp2
 go_end0
 exact ⟨rfl, rfl⟩
theorem bcheck_h (B b : Nat) (bs : List Value) (w : World) (h : Lib.IsBuilderF 197 5 B b bs w) :
  Calls Tryz.prog 114 #[.pointer (some ⟨b, 0, none⟩)] w fun e w' => e = .returned (.tuple #[]) ∧ Lib.BuilderAtF 197 5 B b (.pointer (some ⟨b, 0, none⟩)) bs w' ∧ Below B w w' ∧ Lib.OthersKept 5 (some b) w w' := by
 rcases h with h | h
 ·refine (bcheck_fresh b w h.cell0 h.shape h.frozen0).mono ?_
  rintro e w' ⟨rfl, rfl⟩
  exact ⟨rfl, h.used _, (Below.refl B w).setCell (p := ⟨b, 0, none⟩) h.1 _, (Lib.OthersKept.refl _ _ w).setCell ⟨b, 0, none⟩ rfl _⟩
 ·refine (bcheck_used b w h.cell0).mono ?_
  rintro e w' ⟨rfl, rfl⟩
  exact ⟨rfl, h, Below.refl B _, Lib.OthersKept.refl _ _ _⟩
set_option maxHeartbeats 2000000 in
set_option maxRecDepth 100000 in
theorem bbyte_h (B b : Nat) (bs : List Value) (c : Int) (w : World) (h : Lib.IsBuilderF 197 5 B b bs w) (hlen : bs.length + 1 ≤ 140737488355328) (hBw : B ≤ w.heap.size) :
  Calls Tryz.prog 220 #[.pointer (some ⟨b, 0, none⟩), .int .u8 c] w fun e w' => e = .returned .nilIface ∧ Lib.BuilderAtF 197 5 B b (.pointer (some ⟨b, 0, none⟩)) (bs ++ [.int .u8 c]) w' ∧ Below B w w' ∧ Lib.OthersKept 5 (some b) w w' := by
 obtain ⟨i0, hi, hz0, hz1, hz2⟩ := info_parts info5
 go_enter Tryz.func220, Tryz.ntmps220
 go_wp2_with (go_at_call 114; refine (bcheck_h B b bs _ h).mono ?_)
 rintro e w1 ⟨rfl, h1, hb1, hk1⟩
 obtain ⟨hB, v, hbk, hown, hne⟩ := h1
 have c0 : w1.cell? ⟨b, 0, none⟩ = some (.pointer (some ⟨b, 0, none⟩)) := by rw [Lib.cell_of_heap hbk]; rfl
 have c1 : w1.cell? ⟨b, 1, none⟩ = some v := by rw [Lib.cell_of_heap hbk]; rfl
 go_wp2_with (at_builtin; refine wpList_append_ownF _ rfl _ _ 33 rfl B 5 i0 (.int .u8 0) 1 1 Tryz.underlying33 hi hz0 hz1 hz2 rfl (by decide) _ _ _ rfl (hown.alloc _) ⟨w1.heap.size, 0, none⟩ 1 1 [.int .u8 c] rfl rfl ?c1 ?c2 ?c3 ?c4 ?c5 ?_)
 case c1 =>
  intro j u hj
  match j, hj with
  | 0, hj => simp at hj; subst hj; simp [Addr.add]
 case c2 => intro u hu; simp at hu; subst hu; rfl
 case c3 => unfold maxLen; omega
 case c4 => omega
 case c5 => have := hb1.size; simp; omega
 intro v' w2 hown' hgrow _
 have hlt : b < w1.heap.size := by
  rcases Nat.lt_or_ge b w1.heap.size with h' | h'
  ·exact h'
  ·simp [Array.getElem?_eq_none h'] at hbk
 have hb2 : w2.heap[b]? = some (.cells #[.pointer (some ⟨b, 0, none⟩), v] 197 (0, 0)) := by
  rw [hgrow.block b (by simp; omega) (fun e => hne e.symm), Lib.alloc_old w1 _ b hlt]
  exact hbk
 have d0 : w2.cell? ⟨b, 0, none⟩ = some (.pointer (some ⟨b, 0, none⟩)) := by rw [Lib.cell_of_heap hb2]; rfl
 have d1 : w2.cell? ⟨b, 1, none⟩ = some v := by rw [Lib.cell_of_heap hb2]; rfl
 have f1 : w2.frozen? ⟨b, 1, none⟩ = false := Lib.frozen_of_heap hb2 1
 obtain ⟨g, cap, rfl⟩ : ∃ g cap, v' = .slice (some ⟨g, 0, none⟩) (bs.length + 1) cap := by
  rcases hown'.2 with ⟨_, h0⟩ | ⟨g, cap, cur, fz, hv, _⟩
  ·omega
  ·exact ⟨g, cap, hv⟩
 go_wp2
 go_ret
 refine ⟨rfl, ?_, ?_, ((hk1.alloc _).grown hgrow (Lib.ownsRowF_kind (hown.alloc _))).setCell ⟨b, 1, none⟩ rfl _⟩
 ·exact Lib.BuilderAtF.put (T := 197) (e := 5) hB hb2 (bs' := bs ++ [.int .u8 c]) (by simpa using hown') (by decide)
 ·exact ((hb1.alloc (by have := hb1.size; omega) _).grown hgrow (by have := hb1.size; simp; omega) (fun k hk => (hown.lt k hk).1)).setCell (p := ⟨b, 1, none⟩) hB _
end Go.Proofs.YtgmghopcppniaaaGreatDoor

/- writer.natural: walked. -/
namespace Go.Proofs.YtgmghopcppniaaaGreatDoor
open Go.RowKit Go.Lib

/-- a writer that holds these bytes -/
def Wr (B b : Nat) (o : Str) (w : World) : Prop := Lib.IsBuilderF 197 5 B b (Lib.byteCells o) w
/-- what a writing call leaves -/
def WrPost (B b : Nat) (o : Str) (w w' : World) : Prop := Wr B b o w' ∧ Below B w w' ∧ Lib.OthersKept 5 (some b) w w'
theorem wbyte_h {B b : Nat} {o : Str} {w : World} (c : UInt8) (h : Wr B b o w) (hl : o.length ≤ 100000000) (hB : B ≤ w.heap.size) :
  Calls Tryz.prog 220 #[.pointer (some ⟨b, 0, none⟩), .int .u8 (c.toNat : Int)] w fun e w' => e = .returned .nilIface ∧ WrPost B b (o ++ [c]) w w' := by
 refine (bbyte_h B b _ (c.toNat : Int) w h (by rw [Lib.byteCells_length]; omega) hB).mono ?_
 rintro e w' ⟨rfl, h1, h2, h3⟩
 refine ⟨rfl, Or.inr ?_, h2, h3⟩
 have e : Lib.byteCells (o ++ [c]) = Lib.byteCells o ++ [.int .u8 (c.toNat : Int)] := by simp [Lib.byteCells]
 rw [e]; exact h1
theorem wbyte_n {B b : Nat} {o : Str} {w : World} {k n : Nat} (h : Wr B b o w) (hl : o.length ≤ 100000000) (hB : B ≤ w.heap.size) (hn : n < 256) :
  Calls Tryz.prog 220 #[.pointer (some ⟨b, 0, none⟩), .int .u8 (n : Int)] (w.drewN k) fun e w' => e = .returned .nilIface ∧ WrPost B b (o ++ [UInt8.ofNat n]) w w' := by
 have e : (n : Int) = ((UInt8.ofNat n).toNat : Int) := by rw [UInt8.toNat_ofNat', Nat.mod_eq_of_lt (by omega)]
 rw [e]
 refine (wbyte_h (w := w.drewN k) (UInt8.ofNat n) h hl hB).mono ?_
 rintro e w' ⟨rfl, h1, h2, h3⟩
 exact ⟨rfl, h1, ⟨h2.os, h2.tape, h2.output, h2.size, h2.block⟩, fun i x hi => h3 i x hi⟩
theorem shr_val (v j : Nat) : (v : Int) / 2 ^ (7 * (j : Int)).toNat = ((v / 128 ^ j : Nat) : Int) := by
 have e0 : (7 * (j : Int)).toNat = 7 * j := by omega
 have e : ((2 : Int) ^ (7 * j)) = ((128 ^ j : Nat) : Int) := by
  rw [show (128 : Nat) ^ j = 2 ^ (7 * j) by rw [Nat.pow_mul], Int.natCast_pow]; rfl
 rw [e0, e, Int.natCast_ediv]
theorem WrPost.next {B b : Nat} {o o2 : Str} {w w1 w2 : World} (h : WrPost B b o w w1) (k : WrPost B b o2 w1 w2) : WrPost B b o2 w w2 := ⟨k.1, h.2.1.trans k.2.1, h.2.2.trans k.2.2⟩
set_option maxRecDepth 100000 in
set_option maxHeartbeats 8000000 in
theorem natural_h {w : World} {B b : Nat} {o : Str} (v : Nat) (hv : v < 18446744073709551616) (h : Wr B b o w) (hl : o.length ≤ 10000000) (hB : B ≤ w.heap.size) :
  Calls Tryz.prog 193 #[.pointer (some ⟨b, 0, none⟩), .int .u64 (v : Int)] w fun e w' => e = .returned (.tuple #[]) ∧ WrPost B b (o ++ natL v) w w' := by
 have H := Lib.hid h
 clear h
 have h7 := shr7 v
 go_enter Tryz.func193, Tryz.ntmps193
 go_wp2_with fail
 go_loopg [4, 5] 9 (fun j v4 v5 wr => (∃ i k : Nat, i + j = 9 ∧ v4 = .int .i64 ((7 * i : Nat) : Int) ∧ v5 = .int .u64 (k : Int) ∧ Hid (CountAt v i k)) ∧ w = wr)
 case atStart => exact ⟨⟨0, v / 128, by omega, rfl, rfl, CountAt.start v⟩, rfl⟩
 case round =>
  obtain ⟨⟨i, k, hi, rfl, rfl, HC⟩, rfl⟩ := hrel
  have HI := Lib.hid hi
  clear hi
  by_cases hk : k = 0
  ·subst hk
   have HW := Lib.hid HC.out.write
   have hi9 := HC.out.le
   go_wp2_with fail
   go_loopg [4] i (fun j v4 wr => ∃ o' : Str, v4 = .int .i64 ((7 * j : Nat) : Int) ∧ Hid (WriteAt v j o') ∧ Hid (WrPost B b (o ++ o') w wr) ∧ o'.length + j ≤ 10 ∧ j ≤ 9)
   case atStart => exact ⟨[], rfl, HW.out, ⟨by rw [List.append_nil]; exact H.out, Below.refl _ _, Lib.OthersKept.refl _ _ _⟩, by simp; omega, hi9⟩
   case round =>
    obtain ⟨o', rfl, HA, HP, hol, hj9⟩ := hrel
    have hB2 := HP.out.2.1.size
    obtain rfl | ⟨m, rfl⟩ : gk = 0 ∨ ∃ m, gk = m + 1 := by cases gk; exact .inl rfl; exact .inr ⟨_, rfl⟩
    ·have hb2 : bits .and .u8 ((v : Int) % 256) 127 = ((v % 128 : Nat) : Int) := by
      have := and127 (v % 256) (by omega)
      rw [show v % 256 % 128 = v % 128 by omega] at this
      exact this
     go_wp2_with fail
     rw [show (v : Int) % 128 = ((v % 128 : Nat) : Int) from rfl]
     refine Calls.mono (wbyte_n (k := 0) HP.out.1 (by simp; omega) (by omega) (n := v % 128) (by omega)) ?_
     rintro e w2 ⟨rfl, hW2⟩
     have HW2 := Lib.hid (HP.out.next hW2)
     clear hW2
     go_wp2_with fail
     go_end0
     exact ⟨rfl, by rw [← HA.out.done, ← List.append_assoc]; exact HW2.out⟩
    ·have hs := shr_val v (m + 1)
     obtain ⟨q, hq⟩ : ∃ q, v / 128 ^ (m + 1) = q := ⟨_, rfl⟩
     rw [hq] at hs
     have hs2 : (v : Int) / 2 ^ (7 * ((m : Int) + 1)).toNat = (q : Int) := hs
     have hb1 := wrap_byte q
     have hb2 := or128 (q % 256) (by omega)
     have hmm : 128 + q % 256 % 128 = 128 + q % 128 := by omega
     rw [hmm] at hb2
     have HQ := Lib.hid hq
     clear hq hmm
     go_wp2_with fail
     go_still_tail 8, (by kernel_rfl)
     go_wp2_with fail
     rw [show (q : Int) % 256 = ((q % 256 : Nat) : Int) from rfl, hb2]
     refine Calls.mono (wbyte_n (k := 1) HP.out.1 (by simp; omega) (by omega) (n := 128 + q % 128) (by omega)) ?_
     rintro e w2 ⟨rfl, hW2⟩
     have HW2 := Lib.hid (HP.out.next hW2)
     clear hW2
     have HA2 := HA.out.step
     rw [HQ.out] at HA2
     have HA3 := Lib.hid HA2
     clear HA2
     go_wp2_with fail
     go_roundg m
     case measure => omega
     case rel => exact ⟨o' ++ [UInt8.ofNat (128 + q % 128)], by go_num, HA3.out, by rw [← List.append_assoc]; exact HW2.out, by simp; omega, by omega⟩
  ·have hk7 := shr7 k
   have hi9 := HC.out.lt hv hk
   have hkp : (0 : Int) < k := by omega
   go_wp2_with fail
   go_roundg (9 - (i + 1))
   case measure => have := HI.out; omega
   case rel => exact ⟨⟨i + 1, k / 128, by omega, by go_num, rfl, HC.out.step hv hk⟩, rfl⟩
end Go.Proofs.YtgmghopcppniaaaGreatDoor

/- writer.int: walked. -/
namespace Go.Proofs.YtgmghopcppniaaaGreatDoor
open Go.RowKit Go.Lib

theorem xor0_u64 (a : Nat) (ha : a < 18446744073709551616) : bits .xor .u64 (a : Int) 0 = (a : Int) := by
 have h1 : (BitVec.ofInt 64 (a : Int)).toNat = a := by
  rw [BitVec.ofInt_natCast, BitVec.toNat_ofNat]; exact Nat.mod_eq_of_lt (by omega)
 show IntKind.u64.wrap ((BitVec.ofInt 64 (a : Int) ^^^ BitVec.ofInt 64 0).toNat : Int) = _
 rw [BitVec.toNat_xor, h1, show (BitVec.ofInt 64 0).toNat = 0 from rfl, Nat.xor_zero, IntKind.wrap_u64]
 omega
theorem xorm_u64 (a : Nat) (ha : a < 18446744073709551616) : bits .xor .u64 (a : Int) 18446744073709551615 = ((18446744073709551615 - a : Nat) : Int) := by
 have h1 : (BitVec.ofInt 64 (a : Int)).toNat = a := by
  rw [BitVec.ofInt_natCast, BitVec.toNat_ofNat]; exact Nat.mod_eq_of_lt (by omega)
 have h3 : (BitVec.ofInt 64 (a : Int) ^^^ BitVec.ofInt 64 18446744073709551615) = ~~~ (BitVec.ofInt 64 (a : Int)) := by
  rw [show BitVec.ofInt 64 18446744073709551615 = BitVec.allOnes 64 from by decide, BitVec.xor_allOnes]
 show IntKind.u64.wrap ((BitVec.ofInt 64 (a : Int) ^^^ BitVec.ofInt 64 18446744073709551615).toNat : Int) = _
 have h4 : (((~~~ (BitVec.ofInt 64 (a : Int))).toNat : Nat) : Int) = 18446744073709551615 - (a : Int) := by
  rw [BitVec.toNat_not, h1]
  have : (2 : Nat) ^ 64 - 1 - a + a = 18446744073709551615 := Nat.sub_add_cancel (by omega)
  generalize (2 : Nat) ^ 64 - 1 - a = y at this ⊢
  omega
 rw [h3, h4, IntKind.wrap_u64]
 omega
set_option maxRecDepth 100000 in
set_option maxHeartbeats 8000000 in
theorem wint_h {w : World} {B b : Nat} {o : Str} (n : Int) (hn : I64 n) (h : Wr B b o w) (hl : o.length ≤ 10000000) (hB : B ≤ w.heap.size) :
  Calls Tryz.prog 155 #[.pointer (some ⟨b, 0, none⟩), .int .i64 n] w fun e w' => e = .returned (.tuple #[]) ∧ WrPost B b (o ++ intL n) w w' := by
 obtain ⟨hn1, hn2⟩ := hn
 have H := Lib.hid h
 clear h
 have hz := zig_lt (n := n) ⟨hn1, hn2⟩
 have HN := Lib.hid (natural_h (zig n) hz H.out hl hB)
 obtain ⟨z, hzz⟩ : ∃ z, zig n = z := ⟨_, rfl⟩
 have hil : intL n = natL z := by unfold intL; rw [hzz]
 rw [hzz] at HN hz
 rw [hil]
 have HZ := Lib.hid hzz
 rcases Int.lt_or_le n 0 with hneg | hpos
 ·have hw : n % 18446744073709551616 = n + 18446744073709551616 := by omega
  have hd : n / 9223372036854775808 = -1 := by omega
  clear hzz hil
  have hv : bits .xor .u64 (IntKind.u64.wrap (IntKind.u64.wrap n * 2)) (IntKind.u64.wrap (-1)) = (z : Int) := by
   have h1 : IntKind.u64.wrap (IntKind.u64.wrap n * 2) = ((18446744073709551615 - z : Nat) : Int) := by
    have h9 := HZ.out
    unfold zig at h9
    rw [if_neg (by omega)] at h9
    rw [IntKind.wrap_u64, IntKind.wrap_u64]
    omega
   rw [h1, show IntKind.u64.wrap (-1) = 18446744073709551615 from by decide, xorm_u64 _ (by omega), Nat.sub_sub_self (by omega)]
  have HV := Lib.hid hv
  clear hv
  go_enter Tryz.func155, Tryz.ntmps155
  go_wp2_with fail
  rw [HV.out]
  refine Calls.mono HN.out ?_
  rintro e w2 ⟨rfl, hW⟩
  have HW := Lib.hid hW
  clear hW
  go_wp2_with fail
  go_end0
  exact ⟨rfl, HW.out⟩
 ·have hd : n / 9223372036854775808 = 0 := by omega
  clear hzz hil
  have hv : bits .xor .u64 (n * 2) 0 = (z : Int) := by
   have h9 := HZ.out
   unfold zig at h9
   rw [if_pos hpos] at h9
   rw [show n * 2 = (z : Int) by omega, xor0_u64 _ hz]
  have HV := Lib.hid hv
  clear hv
  go_enter Tryz.func155, Tryz.ntmps155
  go_wp2_with fail
  rw [HV.out]
  refine Calls.mono HN.out ?_
  rintro e w2 ⟨rfl, hW⟩
  have HW := Lib.hid hW
  clear hW
  go_wp2_with fail
  go_end0
  exact ⟨rfl, HW.out⟩
end Go.Proofs.YtgmghopcppniaaaGreatDoor

/- each, over numbers, with the writer's int: walked. -/
namespace Go.Proofs.YtgmghopcppniaaaGreatDoor
open Go.RowKit Go.Lib

theorem intsL_snoc {l : List Int} {i : Nat} {n : Int} (h : l[i]? = some n) : intsL (l.take (i + 1)) = intsL (l.take i) ++ intL n := by
 rw [List.take_add_one, h, intsL_app]; simp [intsL]
set_option maxRecDepth 100000 in
set_option maxHeartbeats 8000000 in
theorem each_h {w : World} {B b cap : Nat} {a : Option Addr} {o : Str} (l : List Int) (hI : ∀ n ∈ l, I64 n) (hr : IR w (fun k => k < B) (.slice a l.length cap) l) (h : Wr B b o w) (hl : o.length + 10 * l.length ≤ 10000000) (hB : B ≤ w.heap.size) :
  Calls Tryz.prog 154 #[.slice a l.length cap, .func (.func 155) #[.pointer (some ⟨b, 0, none⟩)] #[]] w fun e w' => e = .returned (.tuple #[]) ∧ WrPost B b (o ++ intsL l) w w' := by
 have H := Lib.hid h
 have HR := Lib.hid hr
 have HII := Lib.hid hI
 clear h hr hI
 go_enter Tryz.func154, Tryz.ntmps154
 go_wp2_with fail
 go_loopg [8] (l.length) (fun j v8 wr => ∃ i : Nat, i + j = l.length ∧ v8 = .int .i64 (i : Int) ∧ Hid (WrPost B b (o ++ intsL (l.take i)) w wr) ∧ (intsL (l.take i)).length ≤ 10 * i)
 case atStart => exact ⟨0, by omega, rfl, ⟨by rw [List.take_zero, show intsL [] = [] from rfl, List.append_nil]; exact H.out, Below.refl _ _, Lib.OthersKept.refl _ _ _⟩, by rw [List.take_zero]; exact Nat.zero_le _⟩
 case round =>
  obtain ⟨i, hi, rfl, HP, hln⟩ := hrel
  have HX := Lib.hid hi
  clear hi
  by_cases hlt : i < l.length
  ·obtain ⟨n, hn⟩ : ∃ n, l[i]? = some n := ⟨_, List.getElem?_eq_getElem hlt⟩
   have HR2 : IR wr (fun k => k < B) (.slice a l.length cap) l := HR.out.fr (Fr.of_below HP.out.2.1) (fun k h1 h2 => by omega)
   obtain ⟨g, off, rfl, hc⟩ := HR2.cells (by omega)
   have c0 := hc i n hn
   clear HR2 hc
   have HN := Lib.hid (HII.out n (List.mem_of_getElem? hn))
   have hB2 := HP.out.2.1.size
   have hlen := HP.out.1
   have HC := Lib.hid (wint_h n HN.out HP.out.1 (by rw [List.length_append]; omega) (by omega))
   have HE := Lib.hid (intsL_snoc hn)
   have HL := Lib.hid (intL_len HN.out)
   clear hlen
   go_wp2_with fail
   refine Calls.mono HC.out ?_
   rintro e w2 ⟨rfl, hW2⟩
   have HW2 := Lib.hid (HP.out.next hW2)
   clear hW2
   go_wp2_with fail
   go_roundg (l.length - (i + 1))
   case measure => have := HX.out; omega
   case rel => exact ⟨i + 1, by omega, by go_num, by rw [HE.out, ← List.append_assoc]; exact HW2.out, by rw [HE.out, List.length_append]; have := HL.out; omega⟩
  ·obtain rfl : i = l.length := by have := HX.out; omega
   rw [List.take_length] at HP
   go_wp2_with fail
   go_end0
   exact ⟨rfl, HP.out⟩
end Go.Proofs.YtgmghopcppniaaaGreatDoor

/- strings.Builder.String over the writer. -/
namespace Go.Proofs.YtgmghopcppniaaaGreatDoor
open Go.RowKit Go.Lib

theorem cells5 : Tryz.prog.cellsOf 5 = 1 := by kernel_rfl
theorem unsafeString_none5 (W : World) (q : Option Addr) : (Builtin.unsafeString_ #[165, 3] 9 #[.pointer q, .int .i64 0]).run Tryz.prog W = .ok (.string .empty) W := Lib.run_unsafeString_none W _ _ _ q
set_option maxHeartbeats 2000000 in
set_option maxRecDepth 100000 in
theorem bstring_k (B b : Nat) (l : List UInt8) (w : World) (h : Lib.IsBuilderF 197 5 B b (Lib.byteCells l) w) (h0 : l ≠ []) :
  Calls Tryz.prog 62 #[.pointer (some ⟨b, 0, none⟩)] w fun e w' => e = .returned (.string ⟨l.toArray⟩) ∧ (Lib.IsBuilderF 197 5 B b (Lib.byteCells l) w' ∧ Below B w w' ∧ Lib.OthersKept 5 (some b) w w') := by
 obtain ⟨p, hp, hAt⟩ : ∃ p, (p = .pointer none ∨ p = .pointer (some ⟨b, 0, none⟩)) ∧ Lib.BuilderAtF 197 5 B b p (Lib.byteCells l) w := by
  rcases h with h | h
  ·exact ⟨_, .inl rfl, h⟩
  ·exact ⟨_, .inr rfl, h⟩
 obtain ⟨hB, v, hbk, hown, hne⟩ := hAt
 have hl0 : l.length ≠ 0 := by simpa using h0
 rw [Lib.byteCells_length] at hown
 obtain ⟨g, cap, cur, fz, rfl, hbg, hg, hfz, hnc, hcm, hcs, htake⟩ : ∃ g cap cur fz, v = .slice (some ⟨g, 0, none⟩) l.length cap ∧ B ≤ g ∧ w.heap[g]? = some (.cells cur 5 fz) ∧ fz.2 ≤ l.length * 1 ∧ l.length ≤ cap ∧ cap ≤ maxLen ∧ cur.size = cap * 1 ∧ cur.toList.take (l.length * 1) = Lib.byteCells l := by
  rcases hown.2 with ⟨_, hz⟩ | ⟨g, cap, cur, fz, hv, r⟩
  ·exact absurd hz hl0
  ·exact ⟨g, cap, cur, fz, hv, r⟩
 have c1 : w.drew.cell? ⟨b, 1, none⟩ = some (.slice (some ⟨g, 0, none⟩) l.length cap) := by
  have : w.drew.heap[b]? = some (.cells #[p, .slice (some ⟨g, 0, none⟩) l.length cap] 197 (0, 0)) := hbk
  rw [Lib.cell_of_heap this]; rfl
 have hSD : (Builtin.unsafeSliceData_ #[33] 165 #[.slice (some ⟨g, 0, none⟩) l.length cap]).run Tryz.prog w.drew = .ok (.pointer (some ⟨g, 0, none⟩)) w.drew :=
  Lib.run_unsafeSliceData_row _ _ _ _ _ _ (by omega)
 have hUS : (Builtin.unsafeString_ #[165, 3] 9 #[.pointer (some ⟨g, 0, none⟩), .int .i64 l.length]).run Tryz.prog w.drew = .ok (.string ⟨l.toArray⟩) (w.drew.freeze ⟨g, 0, none⟩ l.length) := by
  refine Lib.run_unsafeString_row w.drew 165 3 9 5 Tryz.underlying165 cells5 g cur.size (by have hg' : w.drew.heap[g]? = some (.cells cur 5 fz) := hg; simp [World.shape?, hg']) l h0 (by omega) (by unfold maxLen at hcm; omega) ?_
  intro j x hx
  have := hown.cells (g := g) rfl j (.int .u8 x.toNat) (by simp [Lib.byteCells, hx])
  exact this
 -- the builder behind the call: its bytes frozen; a builder still
 have hkeep : Lib.IsBuilderF 197 5 B b (Lib.byteCells l) (w.drew.freeze ⟨g, 0, none⟩ l.length) := by
  have hA : Lib.BuilderAtF 197 5 B b p (Lib.byteCells l) w.drew := ⟨hB, _, hbk, by rw [Lib.byteCells_length]; exact hown, hne⟩
  have hF := hA.froze (g := g) (cap := cap) (by rw [Lib.byteCells_length]; exact c1)
  rw [Lib.byteCells_length] at hF
  rcases hp with rfl | rfl
  ·exact .inl hF
  ·exact .inr hF
 go_enter Tryz.func62, Tryz.ntmps62
 go_wp2
 go_region
 all_goals (go_wp2; go_ret; exact ⟨rfl, hkeep, Lib.below_freeze (Below.drew (Below.refl B w)) (p := ⟨g, 0, none⟩) hbg _, ((Lib.OthersKept.refl _ _ w).drew).freeze ⟨g, 0, none⟩ _ ⟨cur, fz, hg⟩⟩)

set_option maxHeartbeats 2000000 in
set_option maxRecDepth 100000 in
theorem bstring_nil_k (B b : Nat) (p : Value) (w : World) (hbk : w.heap[b]? = some (.cells #[p, .slice none 0 0] 197 (0, 0))) (hA : Lib.BuilderAtF 197 5 B b p [] w) :
  Calls Tryz.prog 62 #[.pointer (some ⟨b, 0, none⟩)] w fun e w' => e = .returned (.string ⟨#[]⟩) ∧ (Lib.BuilderAtF 197 5 B b p [] w' ∧ Below B w w' ∧ Lib.OthersKept 5 (some b) w w') := by
 have hUS := unsafeString_none5
 have c1 : w.drew.cell? ⟨b, 1, none⟩ = some (.slice none 0 0) := by
  have : w.drew.heap[b]? = some (.cells #[p, .slice none 0 0] 197 (0, 0)) := hbk
  rw [Lib.cell_of_heap this]; rfl
 have hSD : (Builtin.unsafeSliceData_ #[33] 165 #[.slice none 0 0]).run Tryz.prog w.drew = .ok (.pointer none) w.drew := rfl
 go_enter Tryz.func62, Tryz.ntmps62
 go_wp2
 go_region
 all_goals (go_wp2; go_ret; exact ⟨rfl, hA.drew, Below.drew (Below.refl B w), (Lib.OthersKept.refl _ _ w).drew⟩)

set_option maxHeartbeats 2000000 in
set_option maxRecDepth 100000 in
theorem bstring_noroom_k (B b g : Nat) (p : Value) (cur : Array Value) (w : World) (hBw : B ≤ w.heap.size) (hbk : w.heap[b]? = some (.cells #[p, .slice (some ⟨g, 0, none⟩) 0 0] 197 (0, 0))) (fz : Nat × Nat) (hg : w.heap[g]? = some (.cells cur 5 fz)) (hA : Lib.BuilderAtF 197 5 B b p [] w) :
  Calls Tryz.prog 62 #[.pointer (some ⟨b, 0, none⟩)] w fun e w' => e = .returned (.string ⟨#[]⟩) ∧ (Lib.BuilderAtF 197 5 B b p [] w' ∧ Below B w w' ∧ Lib.OthersKept 5 (some b) w w') := by
 have hUS := unsafeString_none5
 have hlt : b < w.heap.size := by
  rcases Nat.lt_or_ge b w.heap.size with h' | h'
  ·exact h'
  ·simp [Array.getElem?_eq_none h'] at hbk
 have c1 : w.drew.cell? ⟨b, 1, none⟩ = some (.slice (some ⟨g, 0, none⟩) 0 0) := by
  have : w.drew.heap[b]? = some (.cells #[p, .slice (some ⟨g, 0, none⟩) 0 0] 197 (0, 0)) := hbk
  rw [Lib.cell_of_heap this]; rfl
 have hSD : (Builtin.unsafeSliceData_ #[33] 165 #[.slice (some ⟨g, 0, none⟩) 0 0]).run Tryz.prog w.drew = .ok (.pointer (some ⟨w.drew.heap.size, 0, none⟩)) (w.drew.alloc (.view ⟨g, 0, none⟩ 5)) :=
  Lib.run_unsafeSliceData_zero w.drew _ _ 5 Tryz.underlying165 ⟨g, 0, none⟩ 0 (5, cur.size) (by have hg' : w.drew.heap[g]? = some (.cells cur 5 fz) := hg; simp [World.shape?, hg'])
 have c2 : (w.drew.alloc (.view ⟨g, 0, none⟩ 5)).cell? ⟨b, 1, none⟩ = some (.slice (some ⟨g, 0, none⟩) 0 0) := by
  have : (w.drew.alloc (.view ⟨g, 0, none⟩ 5)).heap[b]? = _ := (Lib.alloc_old w.drew _ b hlt).trans hbk
  rw [Lib.cell_of_heap this]; rfl
 -- (the same fact as the how-to's newer walk spells the world; and of w itself, to which the elder walk comes down)
 have c3 : (w.alloc (.view ⟨g, 0, none⟩ 5)).drew.cell? ⟨b, 1, none⟩ = some (.slice (some ⟨g, 0, none⟩) 0 0) := c2
 have c0 : w.cell? ⟨b, 1, none⟩ = some (.slice (some ⟨g, 0, none⟩) 0 0) := c1
 go_enter Tryz.func62, Tryz.ntmps62
 go_wp2
 go_region
 all_goals (go_wp2; go_ret; exact ⟨rfl, hA.drew.alloc _, (Below.drew (Below.refl B w)).alloc hBw _, ((Lib.OthersKept.refl _ _ w).drew).alloc _⟩)

set_option maxHeartbeats 2000000 in
set_option maxRecDepth 100000 in
theorem bstring_room_k (B b g cap : Nat) (p : Value) (w : World) (hc0 : cap ≠ 0) (hbk : w.heap[b]? = some (.cells #[p, .slice (some ⟨g, 0, none⟩) 0 cap] 197 (0, 0))) (hA : Lib.BuilderAtF 197 5 B b p [] w) :
  Calls Tryz.prog 62 #[.pointer (some ⟨b, 0, none⟩)] w fun e w' => e = .returned (.string ⟨#[]⟩) ∧ (Lib.BuilderAtF 197 5 B b p [] w' ∧ Below B w w' ∧ Lib.OthersKept 5 (some b) w w') := by
 have hUS := unsafeString_none5
 have c1 : w.drew.cell? ⟨b, 1, none⟩ = some (.slice (some ⟨g, 0, none⟩) 0 cap) := by
  have : w.drew.heap[b]? = some (.cells #[p, .slice (some ⟨g, 0, none⟩) 0 cap] 197 (0, 0)) := hbk
  rw [Lib.cell_of_heap this]; rfl
 have hSD : (Builtin.unsafeSliceData_ #[33] 165 #[.slice (some ⟨g, 0, none⟩) 0 cap]).run Tryz.prog w.drew = .ok (.pointer (some ⟨g, 0, none⟩)) w.drew :=
  Lib.run_unsafeSliceData_row _ _ _ _ _ _ hc0
 clear hc0
 go_enter Tryz.func62, Tryz.ntmps62
 go_wp2
 go_region
 all_goals (go_wp2; go_ret; exact ⟨rfl, hA.drew, Below.drew (Below.refl B w), (Lib.OthersKept.refl _ _ w).drew⟩)

theorem bstring_empty_k (B b : Nat) (w : World) (h : Lib.IsBuilderF 197 5 B b [] w) (hBw : B ≤ w.heap.size) :
  Calls Tryz.prog 62 #[.pointer (some ⟨b, 0, none⟩)] w fun e w' => e = .returned (.string ⟨#[]⟩) ∧ (Lib.IsBuilderF 197 5 B b [] w' ∧ Below B w w' ∧ Lib.OthersKept 5 (some b) w w') := by
 obtain ⟨p, hp, hA⟩ : ∃ p, (p = .pointer none ∨ p = .pointer (some ⟨b, 0, none⟩)) ∧ Lib.BuilderAtF 197 5 B b p [] w := by
  rcases h with h | h
  ·exact ⟨_, .inl rfl, h⟩
  ·exact ⟨_, .inr rfl, h⟩
 have fin : ∀ (e : Ending) (w' : World), (e = .returned (.string ⟨#[]⟩) ∧ (Lib.BuilderAtF 197 5 B b p [] w' ∧ Below B w w' ∧ Lib.OthersKept 5 (some b) w w')) → e = .returned (.string ⟨#[]⟩) ∧ (Lib.IsBuilderF 197 5 B b [] w' ∧ Below B w w' ∧ Lib.OthersKept 5 (some b) w w') := by
  rintro e w' ⟨he, hk, hb, ho⟩
  rcases hp with rfl | rfl
  ·exact ⟨he, .inl hk, hb, ho⟩
  ·exact ⟨he, .inr hk, hb, ho⟩
 have hA' := hA
 obtain ⟨hB, v, hbk, hown, hne⟩ := hA
 rcases hown.2 with ⟨rfl, _⟩ | ⟨g, cap, cur, fz, rfl, hbg, hg, _, _, _, _, _⟩
 ·exact (bstring_nil_k B b p w hbk hA').mono fin
 ·by_cases hc0 : cap = 0
  ·subst hc0
   exact (bstring_noroom_k B b g p cur w hBw hbk fz hg hA').mono fin
  ·exact (bstring_room_k B b g cap p w hc0 hbk hA').mono fin

theorem bstring_any_k (B b : Nat) (l : List UInt8) (w : World) (h : Lib.IsBuilderF 197 5 B b (Lib.byteCells l) w) (hBw : B ≤ w.heap.size) :
  Calls Tryz.prog 62 #[.pointer (some ⟨b, 0, none⟩)] w fun e w' => e = .returned (.string ⟨l.toArray⟩) ∧ (Lib.IsBuilderF 197 5 B b (Lib.byteCells l) w' ∧ Below B w w' ∧ Lib.OthersKept 5 (some b) w w') := by
 cases l with
 | nil => exact bstring_empty_k B b w h hBw
 | cons x r => exact bstring_k B b (x :: r) w h (by simp)
end Go.Proofs.YtgmghopcppniaaaGreatDoor

/- Int: walked. -/
namespace Go.Proofs.YtgmghopcppniaaaGreatDoor
open Go.RowKit Go.Lib

theorem Fr.next' {w w1 w2 : World} (h : Fr (fun _ => False) w w1) (k : Below w.heap.size w1 w2) : Fr (fun _ => False) w w2 :=
 ⟨k.os.trans h.os, k.tape.trans h.tape, k.output.trans h.output, Nat.le_trans h.size k.size, fun i hi hn => (k.block i hi).trans (h.block i hi hn)⟩
set_option maxRecDepth 100000 in
set_option maxHeartbeats 8000000 in
theorem int_h {w : World} {cap : Nat} {a : Option Addr} (l : List Int) (hI : ∀ n ∈ l, I64 n) (hr : IR w (fun k => k < w.heap.size) (.slice a l.length cap) l) (hl : 10 * l.length ≤ 10000000) :
  Calls Tryz.prog 120 #[.slice a l.length cap] w fun e w' => e = .returned (.string (bs (intsL l))) ∧ Fr (fun _ => False) w w' := by
 have HR := Lib.hid hr
 have HII := Lib.hid hI
 clear hr hI
 have hmf : ∀ (fn : Fn) (first cap : Array Value) (w : World), (Instr.makeFunc fn first cap).run Tryz.prog w = .ok (.func fn first cap) w := fun _ _ _ _ => rfl
 go_enter Tryz.func120, Tryz.ntmps120
 go_wp2_with fail
 obtain ⟨w1, hw1⟩ : ∃ w1, w.alloc (.cells #[.pointer none, .slice none 0 0] 197) = w1 := ⟨_, rfl⟩
 rw [hw1]
 have hf1 : Fr (fun _ => False) w w1 := by rw [← hw1]; exact (Fr.refl _ w).alloc _
 have hbk : w1.heap[w.heap.size]? = some (.cells #[.pointer none, .slice none 0 0] 197 (0, 0)) := by rw [← hw1]; exact Array.getElem?_push_size
 have hW : Wr w.heap.size w.heap.size [] w1 := Or.inl ⟨Nat.le_refl _, _, hbk, World.ownsRowF_nil _ _ _ _, by simp [Value.ownBlock]⟩
 have HE := Lib.hid (each_h l HII.out (HR.out.grow hf1) hW (by rw [List.length_nil]; omega) hf1.size)
 have HF1 := Lib.hid hf1
 clear hw1 hbk hf1 hW
 refine Calls.mono HE.out ?_
 rintro e w2 ⟨rfl, hW2⟩
 rw [List.nil_append] at hW2
 have HS := Lib.hid (bstring_any_k w.heap.size w.heap.size (intsL l) w2 hW2.1 (Nat.le_trans HF1.out.size hW2.2.1.size))
 have HF2 := Lib.hid (show Fr (fun _ => False) w w2 from HF1.out.next' hW2.2.1)
 clear hW2
 go_wp2_with fail
 refine Calls.mono HS.out ?_
 rintro e w3 ⟨rfl, _, hb, _⟩
 have HF3 := Lib.hid (show Fr (fun _ => False) w w3 from HF2.out.next' hb)
 clear hb
 go_wp2_with fail
 go_ret
 exact ⟨rfl, HF3.out⟩
end Go.Proofs.YtgmghopcppniaaaGreatDoor

/- snap.Right: walked. -/
namespace Go.Proofs.YtgmghopcppniaaaGreatDoor
open Go.RowKit Go.Lib

/-- a base as a value: v is its voters' slice -/
def baseV (b : BaseD) (v : Value) : Value := .agg #[.int .i64 b.index, .int .i64 b.term, v, .string (bs b.data)]
/-- its numbers are a machine's -/
structure BaseIn (w : World) (S : Nat → Prop) (b : BaseD) (v : Value) : Prop where
 row : IR w S v b.voters
 nums : ∀ n ∈ b.voters, I64 n
 index : I64 b.index
 term : I64 b.term
 data : b.data.length ≤ 1000000
/-- what comes behind the voters -/
def restB (b : BaseD) : Bool := (decide (0 < b.index) && (decide (b.index ≤ 1099511627776) && (decide (0 ≤ b.term) && (decide (b.term ≤ 1099511627776) && (decide (0 < b.voters.length) && decide (b.data.length ≤ 4000000))))))
def RightPost (b : BaseD) (w : World) (e : Ending) (w' : World) : Prop := e = .returned (.bool (rightB b)) ∧ Fr (fun _ => False) w w'
end Go.Proofs.YtgmghopcppniaaaGreatDoor

/- snap.payloads: what the loops over it are handed. -/
namespace Go.Proofs.YtgmghopcppniaaaGreatDoor
open Go.RowKit Go.Lib Go.Shelf

attribute [local go_sem] Oper.semAt_some
/-- three numbers, one number, in a block of their own -/
theorem int3_h {w : World} {k : Nat} {x y z : Int} (hx : I64 x) (hy : I64 y) (hz : I64 z) (hb : w.heap[k]? = some (.cells #[.int .i64 x, .int .i64 y, .int .i64 z] 3 (0, 0))) :
  Calls Tryz.prog 120 #[.slice (some ⟨k, 0, none⟩) 3 3] w fun e w' => e = .returned (.string (bs (intsL [x, y, z]))) ∧ Fr (fun _ => False) w w' := by
 have hr : IR w (fun k => k < w.heap.size) (.slice (some ⟨k, 0, none⟩) [x, y, z].length [x, y, z].length) [x, y, z] := IR.lit (e := 3) (f := (0, 0)) hb (by simp [maxLen]) (lt_of_block hb)
 exact int_h [x, y, z] (by intro n hn; simp at hn; rcases hn with rfl | rfl | rfl <;> assumption) hr (by simp)
theorem int1_h {w : World} {k : Nat} {x : Int} (hx : I64 x) (hb : w.heap[k]? = some (.cells #[.int .i64 x] 3 (0, 0))) :
  Calls Tryz.prog 120 #[.slice (some ⟨k, 0, none⟩) 1 1] w fun e w' => e = .returned (.string (bs (intsL [x]))) ∧ Fr (fun _ => False) w w' := by
 have hr : IR w (fun k => k < w.heap.size) (.slice (some ⟨k, 0, none⟩) [x].length [x].length) [x] := IR.lit (e := 3) (f := (0, 0)) hb (by simp [maxLen]) (lt_of_block hb)
 exact int_h [x] (by intro n hn; simp at hn; subst hn; assumption) hr (by simp)
def HeadAt (b : BaseD) (w : World) (v : Value) (w' : World) : Prop := v = .string (bs (headL b)) ∧ Fr (fun _ => False) w w'

/-- a block is as it was, where it holds that -/
def KeepB (k : Nat) (o : Obj) (W W' : World) : Prop := W.heap[k]? = some o → W'.heap[k]? = some o
abbrev Chunk := { s : Str // s.length ≤ 1000 }
def vals (l : List Chunk) : List Str := l.map (·.1)
def PayPost (b : BaseD) (J Jx : List Chunk → World → Prop) (e : Ending) (W' : World) : Prop := (∃ v, e = .returned v) ∧ ((∃ xs, vals xs = payloadsL b ∧ J xs W') ∨ (∃ pre, vals pre <+: payloadsL b ∧ Jx pre W'))
end Go.Proofs.YtgmghopcppniaaaGreatDoor
