/- The sum, four bytes, frames: walked. -/
import Derived.Test.YtgmghopcppniaaaGreatDoorS0
import Derived.Laws.IdiomStrings
namespace Go.Proofs.YtgmghopcppniaaaGreatDoor
open Go.RowKit Go.Lib

set_option maxRecDepth 100000 in
set_option maxHeartbeats 8000000 in
theorem sum_h {w : World} (c0 : Nat) (hc0 : c0 < 4294967296) (s : Str) (hs : s.length ≤ 1000000) : Calls Tryz.prog 122 #[.int .u32 (c0 : Int), .string (bs s)] w fun e w' => e = .returned (.int .u32 ((sumL c0 s : Nat) : Int)) ∧ w = w' := by
  have hsz : (bs s).size = s.length := rfl
  go_enter Tryz.func122, Tryz.ntmps122
  go_wp2_with fail
  go_loopg [0, 8] s.length (fun j v0 v8 wr => (∃ i : Nat, i + j = s.length ∧ v0 = .int .u32 ((sumL c0 (s.take i) : Nat) : Int) ∧ v8 = .int .i64 i) ∧ w = wr)
  case atStart => exact ⟨⟨0, by omega, rfl, rfl⟩, rfl⟩
  case round =>
    obtain ⟨⟨i, hi, rfl, rfl⟩, rfl⟩ := hrel
    by_cases hlt : i < s.length
    · have hz : i < (bs s).size := hlt
      have hg := bs_at s i hz
      have hlt2 := sum_lt (s.take i) hc0
      have hsn := sum_snoc (c := c0) (s := s) (k := i) (b := s.getD i 0) (by rw [List.getD_eq_getElem?_getD, List.getElem?_eq_getElem hlt]; rfl)
      obtain ⟨b, hb⟩ : ∃ b, s.getD i 0 = b := ⟨_, rfl⟩
      rw [hb] at hg hsn
      obtain ⟨c, hc⟩ : ∃ c, sumL c0 (s.take i) = c := ⟨_, rfl⟩
      rw [hc] at hsn hlt2 ⊢
      have hbl := b.toNat_lt
      have hx := xor_u32 c b.toNat hlt2 (by omega)
      have hxl : c ^^^ b.toNat < 4294967296 := Nat.xor_lt_two_pow (n := 32) hlt2 (by omega)
      have HN := Lib.hid (And.intro hsn hi)
      obtain ⟨x, hxe⟩ : ∃ x, c ^^^ b.toNat = x := ⟨_, rfl⟩
      rw [hxe] at hx hxl HN
      clear hsn hi hb hc hxe hlt2
      go_wp2_with fail
      go_loopg [0, 17] 8 (fun j v0 v17 wr => (∃ k : Nat, k + j = 8 ∧ v0 = .int .u32 ((crcN k x : Nat) : Int) ∧ v17 = .int .i64 k) ∧ w = wr)
      case atStart => exact ⟨⟨0, by omega, rfl, rfl⟩, rfl⟩
      case round =>
        obtain ⟨⟨k, hk, rfl, rfl⟩, rfl⟩ := hrel
        by_cases hk8 : k < 8
        · have hcl := crcN_lt k hxl
          have hcs := crcN_snoc k x
          obtain ⟨y, hy⟩ : ∃ y, crcN k x = y := ⟨_, rfl⟩
          rw [hy] at hcl hcs ⊢
          have ha := and1_u32 y hcl
          have HK := Lib.hid (And.intro hk hcs)
          clear hk hcs hy
          rcases Nat.mod_two_eq_zero_or_one y with h2 | h2
          · have HE := Lib.hid (crc_even h2)
            rw [h2] at ha
            have hx0 := xor_u32 (y / 2) 0 (by omega) (by decide)
            rw [Nat.xor_zero] at hx0
            have HX := Lib.hid hx0
            clear h2 hx0
            go_wp2_with fail
            go_roundg (8 - (k + 1))
            case measure => have := HK.out.1; omega
            case rel =>
              refine ⟨⟨k + 1, by have := HK.out.1; omega, ?_, by go_num⟩, rfl⟩
              rw [HK.out.2, HE.out, ← HX.out, show bits BinOp.and IntKind.u32 2197175160 0 = 0 from by decide]
              rfl
          · have HE := Lib.hid (crc_odd h2)
            rw [h2] at ha
            have HX := Lib.hid (xor_u32 (y / 2) 2197175160 (by omega) (by decide))
            clear h2
            go_wp2_with fail
            go_roundg (8 - (k + 1))
            case measure => have := HK.out.1; omega
            case rel =>
              refine ⟨⟨k + 1, by have := HK.out.1; omega, ?_, by go_num⟩, rfl⟩
              rw [HK.out.2, HE.out, ← HX.out, show bits BinOp.and IntKind.u32 2197175160 4294967295 = 2197175160 from by decide]
              rfl
        · obtain rfl : k = 8 := by omega
          clear hk hk8
          go_wp2_with fail
          go_roundg (s.length - (i + 1))
          case measure => have := HN.out.2; omega
          case rel => exact ⟨⟨i + 1, by have := HN.out.2; omega, by rw [HN.out.1], by go_num⟩, rfl⟩
    · obtain rfl : i = s.length := by omega
      rw [List.take_length]
      clear hi hlt
      go_wp2_with fail
      go_ret
      exact ⟨rfl, rfl⟩
end Go.Proofs.YtgmghopcppniaaaGreatDoor

/- Four bytes, frames: walked. -/
namespace Go.Proofs.YtgmghopcppniaaaGreatDoor
open Go.RowKit Go.Lib

theorem u8_at (n : Nat) (z : Int) (hz : z = (n : Int)) : z % 256 = ((UInt8.ofNat n).toNat : Int) := by
  subst hz
  rw [UInt8.toNat_ofNat']
  omega
set_option maxRecDepth 100000 in
set_option maxHeartbeats 4000000 in
theorem four_h {w : World} (v : Nat) (_hv : v < 4294967296) : Calls Tryz.prog 121 #[.int .u32 (v : Int)] w fun e w' => e = .returned (.string (bs (fourL v))) ∧ Fr (fun _ => False) w w' := by
  have hcv : Sem.run Tryz.prog (convert 33 9 (.slice (some ⟨w.heap.size, 0, none⟩) 4 4)) (w.alloc (.cells #[.int .u8 ((v : Int) / 16777216 % 256), .int .u8 ((v : Int) / 65536 % 256), .int .u8 ((v : Int) / 256 % 256), .int .u8 ((v : Int) % 256)] 5)) = .ok (.string (bs (fourL v))) (w.alloc (.cells #[.int .u8 ((v : Int) / 16777216 % 256), .int .u8 ((v : Int) / 65536 % 256), .int .u8 ((v : Int) / 256 % 256), .int .u8 ((v : Int) % 256)] 5)) := by
    have f0 := u8_at (v / 16777216) ((v : Int) / 16777216) (by omega)
    have f1 := u8_at (v / 65536) ((v : Int) / 65536) (by omega)
    have f2 := u8_at (v / 256) ((v : Int) / 256) (by omega)
    have f3 := u8_at v (v : Int) rfl
    rw [f0, f1, f2, f3]
    exact run_convert_bytes_back _ 33 9 5 ⟨w.heap.size, 0, none⟩ 4 (fourL v) Tryz.underlying33 Tryz.underlying5 Tryz.underlying9 fun j hj => by
      rw [Addr.add_lit, Nat.zero_add]
      refine cell_of (block_new w _) ?_
      match j, hj with
      | 0, _ => rfl
      | 1, _ => rfl
      | 2, _ => rfl
      | 3, _ => rfl
      | k + 4, hj => exact absurd (show k + 4 < 4 from hj) (by omega)
  clear _hv
  go_enter Tryz.func121, Tryz.ntmps121
  go_wp2_with fail
  go_ret
  exact ⟨rfl, (Fr.refl _ _).alloc _⟩
end Go.Proofs.YtgmghopcppniaaaGreatDoor

/- Frames: walked. -/
namespace Go.Proofs.YtgmghopcppniaaaGreatDoor
open Go.RowKit Go.Lib

/-- what Frame answers -/
def frameD (s : Str) : Str × Int := if s.length ≤ 65536 then (frameL s, 0) else ([], 10)
set_option maxRecDepth 100000 in
set_option maxHeartbeats 4000000 in
theorem frame_h {w : World} (s : Str) (hs : s.length ≤ 1000000) : Calls Tryz.prog 67 #[.string (bs s)] w fun e w' => e = .returned (.tuple #[.string (bs (frameD s).1), .int .i64 (frameD s).2]) ∧ Fr (fun _ => False) w w' := by
  have hsz : (bs s).size = s.length := rfl
  by_cases hl : 65536 < s.length
  · have hli : (65536 : Int) < (s.length : Int) := by omega
    have HE := Lib.hid (show frameD s = ([], 10) from if_neg (by omega))
    clear hl
    go_enter Tryz.func67, Tryz.ntmps67
    go_wp2_with fail
    go_ret2
    exact ⟨by rw [HE.out] <;> rfl, Fr.refl _ _⟩
  have hli : ¬ (65536 : Int) < (s.length : Int) := by omega
  have HE := Lib.hid (show frameD s = (frameL s, 0) from if_pos (by omega))
  have hw : IntKind.u32.wrap (s.length : Int) = (s.length : Int) := by rw [IntKind.wrap_u32]; omega
  have H1 := Lib.hid (four_h (w := w) s.length (by omega))
  have h4 : (fourL s.length).length = 4 := rfl
  have hc1 := sum_lt (fourL s.length) (c := 4294967295) (by decide)
  have hc2 := sum_lt s hc1
  have H2 := Lib.hid (fun (W : World) => sum_h (w := W) 4294967295 (by decide) (fourL s.length) (by rw [h4]; decide))
  have H3 := Lib.hid (fun (W : World) => sum_h (w := W) (sumL 4294967295 (fourL s.length)) hc1 s hs)
  have hcrc : crcL (fourL s.length ++ s) = 4294967295 ^^^ sumL (sumL 4294967295 (fourL s.length)) s := by unfold crcL; rw [sum_app]
  have hfr : frameL s = (fourL s.length ++ fourL (crcL (fourL s.length ++ s))) ++ s := rfl
  obtain ⟨n4, hn4⟩ : ∃ n4, fourL s.length = n4 := ⟨_, rfl⟩
  rw [hn4] at H1 H2 H3 h4 hc1 hc2 hcrc hfr
  obtain ⟨x1, hx1⟩ : ∃ x1, sumL 4294967295 n4 = x1 := ⟨_, rfl⟩
  rw [hx1] at H2 H3 hc2 hcrc
  obtain ⟨x2, hx2⟩ : ∃ x2, sumL x1 s = x2 := ⟨_, rfl⟩
  rw [hx2] at H3 hc2 hcrc
  have hxr : bits .xor .u32 IntKind.u32.max (x2 : Int) = ((4294967295 ^^^ x2 : Nat) : Int) := xor_u32 4294967295 x2 (by decide) hc2
  have hcl := crc_lt (n4 ++ s)
  rw [← hcrc] at hxr
  obtain ⟨cr, hcr⟩ : ∃ cr, crcL (n4 ++ s) = cr := ⟨_, rfl⟩
  rw [hcr] at hxr hcl hfr
  have H4 := Lib.hid (fun (W : World) => four_h (w := W) cr hcl)
  have hc4 : (fourL cr).length = 4 := rfl
  obtain ⟨c4, hc⟩ : ∃ c4, fourL cr = c4 := ⟨_, rfl⟩
  rw [hc] at H4 hfr hc4
  obtain ⟨p, hp⟩ : ∃ p, n4 ++ c4 = p := ⟨_, rfl⟩
  rw [hp] at hfr
  obtain ⟨q, hq⟩ : ∃ q, p ++ s = q := ⟨_, rfl⟩
  rw [hq] at hfr
  have hpl : p.length = 8 := by rw [← hp, List.length_append, h4, hc4]
  have hql : q.length = p.length + s.length := by rw [← hq, List.length_append]
  have s1 : ∀ w : World, (Op.stringOp .add (bs n4) (bs c4)).run Tryz.prog w = .ok (.string (bs p)) w := fun w => sum_at w hp (by omega)
  have s2 : ∀ w : World, (Op.stringOp .add (bs p) (bs s)).run Tryz.prog w = .ok (.string (bs q)) w := fun w => sum_at w hq (by omega)
  have HFr := Lib.hid hfr
  clear hl hn4 hx1 hx2 hcr hc hp hq hfr hcrc hc1 hc2 hcl h4 hc4 hpl hql
  go_enter Tryz.func67, Tryz.ntmps67
  go_wp2_with fail
  refine Calls.mono H1.out ?_
  rintro e w1 ⟨rfl, hF⟩
  have HF1 := Lib.hid hF
  clear hF
  go_wp2_with fail
  refine Calls.mono (H2.out _) ?_
  rintro e w2 ⟨rfl, rfl⟩
  go_wp2_with fail
  refine Calls.mono (H3.out _) ?_
  rintro e w2 ⟨rfl, rfl⟩
  go_wp2_with fail
  refine Calls.mono (H4.out _) ?_
  rintro e w2 ⟨rfl, hF⟩
  have HF2 := Lib.hid (HF1.out.next hF)
  clear hF
  go_wp2_with fail
  go_ret2
  exact ⟨by rw [HE.out, HFr.out] <;> rfl, HF2.out⟩
end Go.Proofs.YtgmghopcppniaaaGreatDoor

/- Unframe: walked. -/
namespace Go.Proofs.YtgmghopcppniaaaGreatDoor
open Go.RowKit Go.Lib

theorem or_i64 (a b : Nat) (ha : a < 4611686018427387904) (hb : b < 4611686018427387904) : bits .or .i64 (a : Int) (b : Int) = ((a ||| b : Nat) : Int) := by
  have hx : a ||| b < 2 ^ 62 := Nat.or_lt_two_pow (by omega) (by omega)
  have h1 : (BitVec.ofInt 64 (a : Int)).toNat = a := by
    rw [BitVec.ofInt_natCast, BitVec.toNat_ofNat]; exact Nat.mod_eq_of_lt (by omega)
  have h2 : (BitVec.ofInt 64 (b : Int)).toNat = b := by
    rw [BitVec.ofInt_natCast, BitVec.toNat_ofNat]; exact Nat.mod_eq_of_lt (by omega)
  show IntKind.i64.wrap ((BitVec.ofInt 64 (a : Int) ||| BitVec.ofInt 64 (b : Int)).toNat : Int) = _
  rw [BitVec.toNat_or, h1, h2, IntWalk.i64_in _ (by omega)]
theorem or_add (k a b : Nat) (hb : b < 2 ^ k) (hl : 2 ^ k * a + b < 4611686018427387904) : bits .or .i64 ((2 ^ k * a : Nat) : Int) (b : Int) = ((2 ^ k * a + b : Nat) : Int) := by
  rw [or_i64 _ _ (by omega) (by omega), Nat.two_pow_add_eq_or_of_lt hb]
/-- what Unframe answers -/
def unfD (s : Str) : (Str × Int) × Int := match unframeL s with | .ok (t, n) => ((t, (n : Int)), 0) | .error e => (([], 0), e)
theorem unf_err {s : Str} {e : Int} (h : unframeL s = .error e) : unfD s = (([], 0), e) := by unfold unfD; rw [h]
theorem unf_ok {s t : Str} {n : Nat} (h : unframeL s = .ok (t, n)) : unfD s = ((t, (n : Int)), 0) := by unfold unfD; rw [h]
def UnfPost (s : Str) (w : World) (e : Ending) (w' : World) : Prop := e = .returned (.tuple #[.string (bs (unfD s).1.1), .int .i64 (unfD s).1.2, .int .i64 (unfD s).2]) ∧ Fr (fun _ => False) w w'
theorem unf_post {s t : Str} {n er : Int} {w w' : World} (h : unfD s = ((t, n), er)) (hf : Fr (fun _ => False) w w') : UnfPost s w (.returned (.tuple #[.string (bs t), .int .i64 n, .int .i64 er])) w' := by
  unfold UnfPost; rw [h]; exact ⟨rfl, hf⟩
theorem unf_empty {s : Str} {er : Int} {w w' : World} (h : unfD s = (([], 0), er)) (hf : Fr (fun _ => False) w w') : UnfPost s w (.returned (.tuple #[.string ⟨#[]⟩, .int .i64 0, .int .i64 er])) w' := unf_post h hf
theorem un_long {s : Str} (h4 : ¬ s.length < 4) (h : 65536 < fourN s) : unframeL s = .error 10 := by unfold unframeL; rw [if_neg h4, if_pos h]
theorem un_cut {s : Str} (h4 : ¬ s.length < 4) (h : ¬ 65536 < fourN s) (h2 : s.length < 8 + fourN s) : unframeL s = .error 8 := by unfold unframeL; rw [if_neg h4, if_neg h, if_pos h2]
theorem un_sum {s t : Str} (h4 : ¬ s.length < 4) (h : ¬ 65536 < fourN s) (h2 : ¬ s.length < 8 + fourN s) (ht : (s.take (8 + fourN s)).drop 8 = t) (h3 : frameL t ≠ s.take (8 + fourN s)) : unframeL s = .error 9 := by
  have e : (s.drop 8).take (fourN s) = t := by rw [← ht, List.drop_take, Nat.add_sub_cancel_left]
  unfold unframeL; rw [if_neg h4, if_neg h, if_neg h2, e, if_neg h3]
theorem un_done {s t : Str} (h4 : ¬ s.length < 4) (h : ¬ 65536 < fourN s) (h2 : ¬ s.length < 8 + fourN s) (ht : (s.take (8 + fourN s)).drop 8 = t) (h3 : frameL t = s.take (8 + fourN s)) : unframeL s = .ok (t, 8 + fourN s) := by
  have e : (s.drop 8).take (fourN s) = t := by rw [← ht, List.drop_take, Nat.add_sub_cancel_left]
  unfold unframeL; rw [if_neg h4, if_neg h, if_neg h2, e, if_pos h3]
theorem four_val {s : Str} {b0 b1 b2 b3 : UInt8} (h0 : s.getD 0 0 = b0) (h1 : s.getD 1 0 = b1) (h2 : s.getD 2 0 = b2) (h3 : s.getD 3 0 = b3) : fourN s = b0.toNat * 16777216 + b1.toNat * 65536 + b2.toNat * 256 + b3.toNat := by
  unfold fourN; rw [h0, h1, h2, h3]
theorem or_at (k : Nat) {a b c : Nat} {x y : Int} (hx : x = ((2 ^ k * a : Nat) : Int)) (hy : y = (b : Int)) (hb : b < 2 ^ k) (hl : 2 ^ k * a + b < 4611686018427387904) (hc : 2 ^ k * a + b = c) : bits .or .i64 x y = (c : Int) := by
  rw [hx, hy, or_add k a b hb hl, hc]
theorem slice_run {w : World} (s : Str) {i j : Int} {a b : Nat} (hi : i = (a : Int)) (hj : j = (b : Int)) (hab : a ≤ b) (hb : b ≤ s.length) :
    (Instr.slice 9 (.string (bs s)) (some (.int .i64 i)) (some (.int .i64 j)) none).run Tryz.prog w = .ok (.string (bs ((s.take b).drop a))) w := by
  subst hi; subst hj
  rw [run_slice_string w 9 (bs s) .i64 .i64 a b Tryz.underlying9 (by omega) (by omega) (by rw [bs_size]; omega), bs_mid]
  rfl
set_option maxRecDepth 100000 in
set_option maxHeartbeats 4000000 in
theorem unframe_h {w : World} (s : Str) (hs : s.length ≤ 1000000) : Calls Tryz.prog 112 #[.string (bs s)] w (UnfPost s w) := by
  have hsz : (bs s).size = s.length := rfl
  by_cases h4 : s.length < 4
  · have h4i : (s.length : Int) < 4 := by omega
    have HE := Lib.hid (unf_err (show unframeL s = .error 8 from if_pos h4))
    clear h4
    go_enter Tryz.func112, Tryz.ntmps112
    go_wp2_with fail
    go_ret3
    exact unf_empty HE.out (Fr.refl _ _)
  have h4i : ¬ (s.length : Int) < 4 := by omega
  have z0 : 0 < (bs s).size := by rw [hsz]; omega
  have z1 : 1 < (bs s).size := by rw [hsz]; omega
  have z2 : 2 < (bs s).size := by rw [hsz]; omega
  have z3 : 3 < (bs s).size := by rw [hsz]; omega
  have g0 := bs_at s 0 z0
  have g1 := bs_at s 1 z1
  have g2 := bs_at s 2 z2
  have g3 := bs_at s 3 z3
  obtain ⟨b0, hb0⟩ : ∃ b, s.getD 0 0 = b := ⟨_, rfl⟩
  obtain ⟨b1, hb1⟩ : ∃ b, s.getD 1 0 = b := ⟨_, rfl⟩
  obtain ⟨b2, hb2⟩ : ∃ b, s.getD 2 0 = b := ⟨_, rfl⟩
  obtain ⟨b3, hb3⟩ : ∃ b, s.getD 3 0 = b := ⟨_, rfl⟩
  have hfn := four_val hb0 hb1 hb2 hb3
  rw [hb0] at g0
  rw [hb1] at g1
  rw [hb2] at g2
  rw [hb3] at g3
  have l0 := b0.toNat_lt
  have l1 := b1.toNat_lt
  have l2 := b2.toNat_lt
  have l3 := b3.toNat_lt
  obtain ⟨m1, hm1⟩ : ∃ m, 2 ^ 24 * b0.toNat + b1.toNat * 65536 = m := ⟨_, rfl⟩
  obtain ⟨m2, hm2⟩ : ∃ m, 2 ^ 16 * (b0.toNat * 256 + b1.toNat) + b2.toNat * 256 = m := ⟨_, rfl⟩
  obtain ⟨N, hN⟩ : ∃ m, 2 ^ 8 * (b0.toNat * 65536 + b1.toNat * 256 + b2.toNat) + b3.toNat = m := ⟨_, rfl⟩
  have e1 : bits .or .i64 ((b0.toNat : Int) * 16777216) ((b1.toNat : Int) * 65536) = (m1 : Int) := or_at 24 (a := b0.toNat) (b := b1.toNat * 65536) (by omega) (by omega) (by omega) (by omega) hm1
  have e2 : bits .or .i64 (m1 : Int) ((b2.toNat : Int) * 256) = (m2 : Int) := or_at 16 (a := b0.toNat * 256 + b1.toNat) (b := b2.toNat * 256) (by omega) (by omega) (by omega) (by omega) hm2
  have e3 : bits .or .i64 (m2 : Int) (b3.toNat : Int) = (N : Int) := or_at 8 (a := b0.toNat * 65536 + b1.toNat * 256 + b2.toNat) (b := b3.toNat) (by omega) rfl (by omega) (by omega) hN
  have hfN : fourN s = N := by rw [hfn]; omega
  have H4 := Lib.hid h4
  clear hb0 hb1 hb2 hb3 hfn hm1 hm2 hN h4
  by_cases hb : 65536 < N
  · have hbi : (65536 : Int) < (N : Int) := by omega
    have HE := Lib.hid (unf_err (un_long H4.out (by rw [hfN]; exact hb)))
    clear hb hfN
    go_enter Tryz.func112, Tryz.ntmps112
    go_wp2_with fail
    go_big_quiet (fail)
    go_wp2_with fail
    go_ret3
    exact unf_empty HE.out ((Fr.refl _ _).drewN _)
  have hbi : ¬ (65536 : Int) < (N : Int) := by omega
  have hw : IntKind.i64.wrap (8 + (N : Int)) = 8 + (N : Int) := IntWalk.i64_in _ (by omega)
  by_cases hc : s.length < 8 + N
  · have hci : (s.length : Int) < 8 + (N : Int) := by omega
    have HE := Lib.hid (unf_err (un_cut H4.out (by rw [hfN]; exact hb) (by rw [hfN]; exact hc)))
    clear hb hfN hc
    go_enter Tryz.func112, Tryz.ntmps112
    go_wp2_with fail
    go_big_quiet (fail)
    go_wp2_with fail
    go_ret3
    exact unf_empty HE.out ((Fr.refl _ _).drewN _)
  have hci : ¬ (s.length : Int) < 8 + (N : Int) := by omega
  have hx1 : (bs s).extract 8 (8 + N) = bs ((s.take (8 + N)).drop 8) := bs_mid s 8 (8 + N)
  have hx2 : (bs s).extract 0 (8 + N) = bs (s.take (8 + N)) := by rw [bs_mid, List.drop_zero]
  obtain ⟨t, ht⟩ : ∃ t, (s.take (8 + N)).drop 8 = t := ⟨_, rfl⟩
  obtain ⟨u, hu⟩ : ∃ u, s.take (8 + N) = u := ⟨_, rfl⟩
  have htl : t.length = N := by rw [← ht, List.length_drop, List.length_take]; omega
  have HFr := Lib.hid (fun (W : World) => frame_h (w := W) t (by omega))
  have hfd : frameD t = (frameL t, 0) := if_pos (by omega)
  rw [hfd] at HFr
  rw [ht] at hx1
  rw [hu] at hx2
  have hsl : ∀ w : World, (Instr.slice 9 (.string (bs s)) (some (.int .i64 8)) (some (.int .i64 (8 + (N : Int)))) none).run Tryz.prog w = .ok (.string (bs t)) w := fun w => by
    have h := slice_run (w := w) s (i := 8) (j := 8 + (N : Int)) (a := 8) (b := 8 + N) rfl (by omega) (by omega) (by omega)
    rw [ht] at h; exact h
  have hul : u.length = 8 + N := by rw [← hu, List.length_take]; omega
  by_cases he : frameL t = u
  · have he2 : frameL t = s.take (8 + N) := he.trans hu.symm
    have HE := Lib.hid (unf_ok (un_done (t := t) H4.out (by rw [hfN]; exact hb) (by rw [hfN]; exact hc) (by rw [hfN]; exact ht) (by rw [hfN]; exact he2)))
    rw [hfN] at HE
    rw [he] at HFr
    clear he2
    have t1 : ((bs u).toList != (bs u).toList) = false := by simp
    have hwz : ((8 + N : Nat) : Int) = 8 + (N : Int) := by omega
    have HZ := Lib.hid hwz
    clear hb hfN hc ht hu hfd he htl hul hwz
    go_enter Tryz.func112, Tryz.ntmps112
    go_wp2_with fail
    go_big_quiet (fail)
    go_wp2_with fail
    refine Calls.mono (HFr.out _) ?_
    rintro e w1 ⟨rfl, hF⟩
    have HF := Lib.hid (((Fr.refl (fun _ => False) w).drewN _).next hF)
    clear hF
    go_wp2_with fail
    go_ret3
    exact unf_post (by rw [HE.out, HZ.out]) HF.out
  · have he2 : frameL t ≠ s.take (8 + N) := fun e => he (e.trans hu)
    have HE := Lib.hid (unf_err (un_sum (t := t) H4.out (by rw [hfN]; exact hb) (by rw [hfN]; exact hc) (by rw [hfN]; exact ht) (by rw [hfN]; exact he2)))
    obtain ⟨fu, hfu⟩ : ∃ fu, frameL t = fu := ⟨_, rfl⟩
    rw [hfu] at HFr he
    clear he2
    have t0 : ((bs fu).toList == (bs u).toList) = false := by rw [bs_toList, bs_toList]; exact beq_eq_false_iff_ne.2 he
    have t1 : ((bs fu).toList != (bs u).toList) = true := by rw [bne, t0]; rfl
    have t2 : decide (bs fu = bs u) = false := decide_eq_false fun e => he (bs_inj e)
    clear hb hfN hc ht hu hfd he htl hul hfu
    go_enter Tryz.func112, Tryz.ntmps112
    go_wp2_with fail
    go_big_quiet (fail)
    go_wp2_with fail
    refine Calls.mono (HFr.out _) ?_
    rintro e w1 ⟨rfl, hF⟩
    have HF := Lib.hid (((Fr.refl (fun _ => False) w).drewN _).next hF)
    clear hF
    go_wp2_with fail
    go_ret3
    exact unf_empty HE.out HF.out
end Go.Proofs.YtgmghopcppniaaaGreatDoor
