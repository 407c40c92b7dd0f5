/- The reference's numbers, sum, four bytes: walked. -/
import Derived.Test.YtgmghopcppniaaaGreatDoorS5
import Derived.Test.YtgmghopcppniaaaGreatDoorS9
import Derived.Test.YtgmghopcppniaaaGreatDoorS13
import Derived.Lib.AppendStr
namespace Go.Proofs.YtgmghopcppniaaaGreatDoor
open Go.RowKit Go.Lib

set_option maxRecDepth 100000 in
set_option maxHeartbeats 4000000 in
theorem rnat_h {w : World} {n : Int} (hn : I64 n) : Calls Tryz.prog 153 #[.int .i64 n] w fun e w' => e = .returned (.int .u64 ((zig n : Nat) : Int)) ∧ w = w' := by
  obtain ⟨h1, h2⟩ := hn
  by_cases h : 0 ≤ n
  · have hw1 : IntKind.u64.wrap n = n := by rw [IntKind.wrap_u64]; omega
    have hw2 : IntKind.u64.wrap (2 * n) = 2 * n := by rw [IntKind.wrap_u64]; omega
    have HZ := Lib.hid (show ((zig n : Nat) : Int) = 2 * n by unfold zig; rw [if_pos h]; omega)
    go_enter Tryz.func153, Tryz.ntmps153
    go_wp2_with fail
    go_ret
    exact ⟨by rw [HZ.out] <;> rfl, rfl⟩
  · have hw0 : IntKind.i64.wrap (n + 1) = n + 1 := IntWalk.i64_in _ (by omega)
    have hw1 : IntKind.i64.wrap (-(n + 1)) = -(n + 1) := IntWalk.i64_in _ (by omega)
    have hw2 : IntKind.u64.wrap (-(n + 1)) = -(n + 1) := by rw [IntKind.wrap_u64]; omega
    have hw3 : IntKind.u64.wrap (2 * -(n + 1)) = 2 * -(n + 1) := by rw [IntKind.wrap_u64]; omega
    have hw4 : IntKind.u64.wrap (2 * -(n + 1) + 1) = 2 * -(n + 1) + 1 := by rw [IntKind.wrap_u64]; omega
    have HZ := Lib.hid (show ((zig n : Nat) : Int) = 2 * -(n + 1) + 1 by unfold zig; rw [if_neg h]; omega)
    go_enter Tryz.func153, Tryz.ntmps153
    go_wp2_with fail
    go_ret
    exact ⟨by rw [HZ.out] <;> rfl, rfl⟩
set_option maxRecDepth 100000 in
set_option maxHeartbeats 4000000 in
theorem rfour_h {w : World} (v : Nat) (_hv : v < 4294967296) : Calls Tryz.prog 151 #[.int .u32 (v : Int)] w fun e w' => e = .returned (.string (bs (fourL v))) ∧ Fr (fun _ => False) w w' := by
  have hcv : Sem.run Tryz.prog (convert 33 9 (.slice (some ⟨w.heap.size, 0, none⟩) 4 4)) (w.alloc (.cells #[.int .u8 ((v : Int) / 16777216 % 256), .int .u8 ((v : Int) / 65536 % 256), .int .u8 ((v : Int) / 256 % 256), .int .u8 ((v : Int) % 256)] 5)) = .ok (.string (bs (fourL v))) (w.alloc (.cells #[.int .u8 ((v : Int) / 16777216 % 256), .int .u8 ((v : Int) / 65536 % 256), .int .u8 ((v : Int) / 256 % 256), .int .u8 ((v : Int) % 256)] 5)) := by
    have f0 := u8_at (v / 16777216) ((v : Int) / 16777216) (by omega)
    have f1 := u8_at (v / 65536) ((v : Int) / 65536) (by omega)
    have f2 := u8_at (v / 256) ((v : Int) / 256) (by omega)
    have f3 := u8_at v (v : Int) rfl
    rw [f0, f1, f2, f3]
    exact run_convert_bytes_back _ 33 9 5 ⟨w.heap.size, 0, none⟩ 4 (fourL v) Tryz.underlying33 Tryz.underlying5 Tryz.underlying9 fun j hj => by
      rw [Addr.add_lit, Nat.zero_add]
      refine cell_of (block_new w _) ?_
      match j, hj with
      | 0, _ => rfl
      | 1, _ => rfl
      | 2, _ => rfl
      | 3, _ => rfl
      | k + 4, hj => exact absurd (show k + 4 < 4 from hj) (by omega)
  clear _hv
  go_enter Tryz.func151, Tryz.ntmps151
  go_wp2_with fail
  go_ret
  exact ⟨rfl, (Fr.refl _ _).alloc _⟩
set_option maxRecDepth 100000 in
set_option maxHeartbeats 8000000 in
theorem rcrc_h {w : World} (s : Str) (hs : s.length ≤ 1000000) : Calls Tryz.prog 152 #[.string (bs s)] w fun e w' => e = .returned (.int .u32 ((crcL s : Nat) : Int)) ∧ w = w' := by
  have hsz : (bs s).size = s.length := rfl
  go_enter Tryz.func152, Tryz.ntmps152
  go_wp2_with fail
  go_loopg [3, 4] s.length (fun j v3 v4 wr => (∃ i : Nat, i + j = s.length ∧ v3 = .int .u32 ((sumL 4294967295 (s.take i) : Nat) : Int) ∧ v4 = .int .i64 i) ∧ w = wr)
  case atStart => exact ⟨⟨0, by omega, rfl, rfl⟩, rfl⟩
  case round =>
    obtain ⟨⟨i, hi, rfl, rfl⟩, rfl⟩ := hrel
    have hc0 : (4294967295 : Nat) < 4294967296 := by decide
    by_cases hlt : i < s.length
    · have hz : i < (bs s).size := hlt
      have hg := bs_at s i hz
      have hlt2 := sum_lt (s.take i) hc0
      have hsn := sum_snoc (c := 4294967295) (s := s) (k := i) (b := s.getD i 0) (by rw [List.getD_eq_getElem?_getD, List.getElem?_eq_getElem hlt]; rfl)
      obtain ⟨b, hb⟩ : ∃ b, s.getD i 0 = b := ⟨_, rfl⟩
      rw [hb] at hg hsn
      obtain ⟨c, hc⟩ : ∃ c, sumL 4294967295 (s.take i) = c := ⟨_, rfl⟩
      rw [hc] at hsn hlt2 ⊢
      have hbl := b.toNat_lt
      have hx := xor_u32 c b.toNat hlt2 (by omega)
      have hxl : c ^^^ b.toNat < 4294967296 := Nat.xor_lt_two_pow (n := 32) hlt2 (by omega)
      have HN := Lib.hid (And.intro hsn hi)
      obtain ⟨x, hxe⟩ : ∃ x, c ^^^ b.toNat = x := ⟨_, rfl⟩
      rw [hxe] at hx hxl HN
      clear hsn hi hb hc hxe hlt2 hc0
      go_wp2_with fail
      go_loopg [3, 5] 8 (fun j v3 v5 wr => (∃ k : Nat, k + j = 8 ∧ v3 = .int .u32 ((crcN k x : Nat) : Int) ∧ v5 = .int .i64 k) ∧ w = wr)
      case atStart => exact ⟨⟨0, by omega, rfl, rfl⟩, rfl⟩
      case round =>
        obtain ⟨⟨k, hk, rfl, rfl⟩, rfl⟩ := hrel
        by_cases hk8 : k < 8
        · have hcl := crcN_lt k hxl
          have hcs := crcN_snoc k x
          obtain ⟨y, hy⟩ : ∃ y, crcN k x = y := ⟨_, rfl⟩
          rw [hy] at hcl hcs ⊢
          have HK := Lib.hid (And.intro hk hcs)
          clear hk hcs hy
          rcases Nat.mod_two_eq_zero_or_one y with h2 | h2
          · have HE := Lib.hid (crc_even h2)
            have h3 : (y : Int) % 2 = 0 := by omega
            clear h2
            go_wp2_with fail
            go_roundg (8 - (k + 1))
            case measure => have := HK.out.1; omega
            case rel =>
              refine ⟨⟨k + 1, by have := HK.out.1; omega, ?_, by go_num⟩, rfl⟩
              rw [HK.out.2, HE.out]
              rfl
          · have HE := Lib.hid (crc_odd h2)
            have h3 : (y : Int) % 2 = 1 := by omega
            have HX := Lib.hid (xor_u32 (y / 2) 2197175160 (by omega) (by decide))
            clear h2
            go_wp2_with fail
            go_roundg (8 - (k + 1))
            case measure => have := HK.out.1; omega
            case rel =>
              refine ⟨⟨k + 1, by have := HK.out.1; omega, ?_, by go_num⟩, rfl⟩
              rw [HK.out.2, HE.out, ← HX.out]
              rfl
        · obtain rfl : k = 8 := by omega
          clear hk hk8
          go_wp2_with fail
          go_roundg (s.length - (i + 1))
          case measure => have := HN.out.2; omega
          case rel => exact ⟨⟨i + 1, by have := HN.out.2; omega, by rw [HN.out.1], by go_num⟩, rfl⟩
    · obtain rfl : i = s.length := by omega
      rw [List.take_length]
      have HX := Lib.hid (show bits .xor .u32 ((sumL 4294967295 s : Nat) : Int) 4294967295 = ((crcL s : Nat) : Int) by
        have h1 := xor_u32 (sumL 4294967295 s) 4294967295 (sum_lt s hc0) (by decide)
        rw [show ((4294967295 : Nat) : Int) = 4294967295 from rfl] at h1
        rw [h1]; unfold crcL; rw [Nat.xor_comm])
      clear hi hlt hc0
      generalize sumL 4294967295 s = q at *
      go_wp2_with fail
      go_ret
      exact ⟨by rw [← HX.out] <;> rfl, rfl⟩
end Go.Proofs.YtgmghopcppniaaaGreatDoor

/- The reference's Int and Frame: walked. -/
namespace Go.Proofs.YtgmghopcppniaaaGreatDoor
open Go.RowKit Go.Lib

def encB (c : UInt8) : Value := .int .u8 (c.toNat : Int)
structure IRel (w : World) (n : Int) (q : Nat) (l : Str) (m : Nat) (v : Value) (wr : World) : Prop where
  eq : natHi q ++ l = intL n
  len : m = l.length
  pos : 0 < m
  row : wr.ownsRow w.heap.size 5 1 v m (l.map encB)
  fr : Fr (fun _ => False) w wr
theorem row_one {w : World} {base g e : Nat} {c : Value} (h : w.heap[g]? = some (.cells #[c] e (0, 0))) (hb : base ≤ g) : w.ownsRow base e 1 (.slice (some ⟨g, 0, none⟩) 1 1) 1 [c] :=
  ⟨rfl, .inr ⟨g, 1, #[c], rfl, hb, h, Nat.le_refl _, by decide, by simp, by simp⟩⟩
theorem IRel.next {w wr w' : World} {n : Int} {q m : Nat} {l : Str} {v u : Value} (h : IRel w n q l m v wr) (hq : q ≠ 0) (hr : w'.ownsRow w.heap.size 5 1 u (1 + m) (.int .u8 (128 + ((q % 128 : Nat) : Int)) :: l.map encB)) (hf : Fr (fun _ => False) w w') :
    IRel w n (q / 128) (UInt8.ofNat (128 + q % 128) :: l) (1 + m) u w' := by
  refine ⟨?_, ?_, by omega, ?_, hf⟩
  · rw [← h.eq, natHi_pos hq, List.append_assoc]; rfl
  · rw [List.length_cons, h.len]; omega
  · have e : encB (UInt8.ofNat (128 + q % 128)) = .int .u8 (128 + ((q % 128 : Nat) : Int)) := by unfold encB; rw [byte_hi]; rfl
    rw [List.map_cons, e]; exact hr
theorem bytes_string {w : World} {base g m cap : Nat} {l : Str} (h : w.ownsRow base 5 1 (.slice (some ⟨g, 0, none⟩) m cap) m (l.map encB)) (hm : m = l.length) : Sem.run Tryz.prog (convert 33 9 (.slice (some ⟨g, 0, none⟩) m cap)) w = .ok (.string (bs l)) w := by
  subst hm
  refine run_convert_bytes_back _ 33 9 5 ⟨g, 0, none⟩ cap l Tryz.underlying33 Tryz.underlying5 Tryz.underlying9 fun j hj => ?_
  refine h.cells (g := g) rfl j _ ?_
  rw [List.getElem?_map, List.getElem?_eq_getElem hj]; rfl
set_option maxRecDepth 100000 in
set_option maxHeartbeats 8000000 in
theorem rint_h {w : World} {n : Int} (hn : I64 n) : Calls Tryz.prog 117 #[.int .i64 n] w fun e w' => e = .returned (.string (bs (intL n))) ∧ Fr (fun _ => False) w w' := by
  have HN := Lib.hid (rnat_h (w := w) hn)
  have hz := zig_lt hn
  have hl10 := intL_len hn
  obtain ⟨i0, hi, hz0, hz1, hz2⟩ := info_parts info5
  obtain ⟨z, hzz⟩ : ∃ z, zig n = z := ⟨_, rfl⟩
  rw [hzz] at HN hz
  have hst : natHi (z / 128) ++ [UInt8.ofNat (z % 128)] = intL n := by unfold intL; rw [hzz]; rfl
  obtain ⟨r, hr⟩ : ∃ r, z % 128 = r := ⟨_, rfl⟩
  have hrl : r < 128 := by omega
  have hmr : (z : Int) % 128 = (r : Int) := by omega
  have hwr : IntKind.u8.wrap (r : Int) = (r : Int) := by rw [IntKind.wrap_u8]; omega
  have HRL : Hid (IRel w n (z / 128) [UInt8.ofNat r] 1 (.slice (some ⟨w.heap.size, 0, none⟩) 1 1) (w.alloc (.cells #[.int .u8 (r : Int)] 5))) := by
    refine ⟨by rw [← hr]; exact hst, rfl, by decide, ?_, (Fr.refl _ _).alloc _⟩
    have e : encB (UInt8.ofNat r) = .int .u8 (r : Int) := by unfold encB; rw [← hr, byte_lo]
    rw [List.map_cons, List.map_nil, e]
    exact row_one (block_new _ _) (Nat.le_refl _)
  have hz128 : z / 128 < 18446744073709551616 := by omega
  clear hst hr hn hzz
  go_enter Tryz.func117, Tryz.ntmps117
  go_wp2_with fail
  refine Calls.mono HN.out ?_
  rintro e w1 ⟨rfl, hw1⟩
  subst hw1
  clear HN
  go_wp2_with fail
  clear hmr hwr
  go_loopg [3, 4] (z / 128) (fun j v3 v4 wr => ∃ (l : Str) (m : Nat), v3 = .int .u64 (j : Int) ∧ j < 18446744073709551616 ∧ Hid (IRel w n j l m v4 wr))
  case atStart => exact ⟨_, _, by go_num, hz128, HRL.out⟩
  case round =>
    obtain ⟨l, m, rfl, hjl, HI⟩ := hrel
    clear hz hrl hz128 HRL
    have hm10 : m ≤ 10 := by
      have h1 := congrArg List.length HI.out.eq
      rw [List.length_append] at h1
      have h2 := HI.out.len
      omega
    have hmp := HI.out.pos
    obtain ⟨g, gc, rfl, hgb, hnc, hcm⟩ := ownsRow_form HI.out.row hmp
    have hgl := (HI.out.row.lt g rfl).2
    by_cases hq : 0 < gk
    · obtain ⟨r, hr⟩ : ∃ r, gk % 128 = r := ⟨_, rfl⟩
      have hrl : r < 128 := by omega
      have hmr : (gk : Int) % 128 = (r : Int) := by omega
      have hw1 : IntKind.u64.wrap (128 + (r : Int)) = 128 + (r : Int) := by rw [IntKind.wrap_u64]; omega
      have hw2 : IntKind.u8.wrap (128 + (r : Int)) = 128 + (r : Int) := by rw [IntKind.wrap_u8]; omega
      have HR := Lib.hid hr
      have hqi : (0 : Int) < (gk : Int) := by omega
      clear hr
      go_wp2_with (at_builtin; refine wpList_append_shape rfl _ _ 33 rfl w.heap.size 5 i0 (.int .u8 0) 1 1 Tryz.underlying33 hi hz0 hz1 hz2 rfl (by decide) _ 1 [.int .u8 (128 + (r : Int))] rfl (row_one (block_new _ _) (HI.out.fr.size)) ⟨g, 0, none⟩ m gc (l.map encB) rfl (by rw [List.length_map, HI.out.len, Nat.mul_one]) ?c2 ?c3 ?c4 ?c5 ?c6 (by omega) ?_)
      case c2 =>
        intro j u hu
        exact (HI.out.row.alloc _).cells (g := g) rfl j u hu
      case c3 => intro u hu; obtain ⟨c, _, rfl⟩ := List.mem_map.1 hu; rfl
      case c4 => unfold maxLen; omega
      case c5 => omega
      case c6 => have := HI.out.fr.size; simp; omega
      intro g2 cap w3 hown3 hg3 _
      have hgk : ∀ k, (Value.slice (some ⟨wr.heap.size, 0, none⟩) 1 1).ownBlock = some k → w.heap.size ≤ k := by
        intro k hk
        obtain rfl : wr.heap.size = k := by simpa [Value.ownBlock] using hk
        exact HI.out.fr.size
      have hfr3 : Fr (fun _ => False) w w3 := (HI.out.fr.alloc (.cells #[.int .u8 (128 + (r : Int))] 5)).grown hg3 fun k hk => .inr (hgk k hk)
      have HI3 := Lib.hid (HI.out.next (by omega) (by rw [HR.out]; exact hown3) hfr3)
      clear hown3 hg3 hfr3
      go_wp2_with fail
      go_roundg (gk / 128)
      case measure => omega
      case rel => exact ⟨_, _, by go_num, by omega, HI3.out⟩
    · obtain rfl : gk = 0 := by omega
      have hle : l = intL n := by
        have h := HI.out.eq
        rwa [natHi_zero, List.nil_append] at h
      have hcv := bytes_string HI.out.row HI.out.len
      rw [hle] at hcv
      have HF := Lib.hid HI.out.fr
      clear hle hq HI
      go_wp2_with fail
      go_ret
      exact ⟨rfl, HF.out⟩
set_option maxRecDepth 100000 in
set_option maxHeartbeats 4000000 in
theorem rframe_h {w : World} (s : Str) (hs : s.length ≤ 1000000) : Calls Tryz.prog 118 #[.string (bs s)] w fun e w' => e = .returned (.tuple #[.string (bs (frameD s).1), .int .i64 (frameD s).2]) ∧ Fr (fun _ => False) w w' := by
  have hsz : (bs s).size = s.length := rfl
  by_cases hl : 65536 < s.length
  · have hli : (65536 : Int) < (s.length : Int) := by omega
    have HE := Lib.hid (show frameD s = ([], 10) from if_neg (by omega))
    clear hl
    go_enter Tryz.func118, Tryz.ntmps118
    go_wp2_with fail
    go_ret2
    exact ⟨by rw [HE.out] <;> rfl, Fr.refl _ _⟩
  have hli : ¬ (65536 : Int) < (s.length : Int) := by omega
  have HE := Lib.hid (show frameD s = (frameL s, 0) from if_pos (by omega))
  have hw : IntKind.u32.wrap (s.length : Int) = (s.length : Int) := by rw [IntKind.wrap_u32]; omega
  have H1 := Lib.hid (rfour_h (w := w) s.length (by omega))
  have h4 : (fourL s.length).length = 4 := rfl
  have hfr : frameL s = (fourL s.length ++ fourL (crcL (fourL s.length ++ s))) ++ s := rfl
  obtain ⟨n4, hn4⟩ : ∃ n4, fourL s.length = n4 := ⟨_, rfl⟩
  rw [hn4] at H1 h4 hfr
  obtain ⟨x, hx⟩ : ∃ x, n4 ++ s = x := ⟨_, rfl⟩
  have hxl : x.length = 4 + s.length := by rw [← hx, List.length_append, h4]
  rw [hx] at hfr
  have H2 := Lib.hid (fun (W : World) => rcrc_h (w := W) x (by omega))
  have hcl := crc_lt x
  obtain ⟨cr, hcr⟩ : ∃ cr, crcL x = cr := ⟨_, rfl⟩
  rw [hcr] at H2 hcl hfr
  have H4 := Lib.hid (fun (W : World) => rfour_h (w := W) cr hcl)
  have hc4 : (fourL cr).length = 4 := rfl
  obtain ⟨c4, hc⟩ : ∃ c4, fourL cr = c4 := ⟨_, rfl⟩
  rw [hc] at H4 hfr hc4
  obtain ⟨p, hp⟩ : ∃ p, n4 ++ c4 = p := ⟨_, rfl⟩
  rw [hp] at hfr
  obtain ⟨q, hq⟩ : ∃ q, p ++ s = q := ⟨_, rfl⟩
  rw [hq] at hfr
  have hpl : p.length = 8 := by rw [← hp, List.length_append, h4, hc4]
  have hql : q.length = p.length + s.length := by rw [← hq, List.length_append]
  have s0 : ∀ w : World, (Op.stringOp .add (bs n4) (bs s)).run Tryz.prog w = .ok (.string (bs x)) w := fun w => sum_at w hx (by omega)
  have s1 : ∀ w : World, (Op.stringOp .add (bs n4) (bs c4)).run Tryz.prog w = .ok (.string (bs p)) w := fun w => sum_at w hp (by omega)
  have s2 : ∀ w : World, (Op.stringOp .add (bs p) (bs s)).run Tryz.prog w = .ok (.string (bs q)) w := fun w => sum_at w hq (by omega)
  have HFr := Lib.hid hfr
  clear hl hn4 hx hxl hcr hc hp hq hfr hcl h4 hc4 hpl hql
  go_enter Tryz.func118, Tryz.ntmps118
  go_wp2_with fail
  refine Calls.mono H1.out ?_
  rintro e w1 ⟨rfl, hF⟩
  have HF1 := Lib.hid hF
  clear hF
  go_wp2_with fail
  refine Calls.mono (H2.out _) ?_
  rintro e w2 ⟨rfl, hw2⟩
  subst hw2
  go_wp2_with fail
  refine Calls.mono (H4.out _) ?_
  rintro e w2 ⟨rfl, hF⟩
  have HF2 := Lib.hid (HF1.out.next hF)
  clear hF
  go_wp2_with fail
  go_ret2
  exact ⟨by rw [HE.out, HFr.out] <;> rfl, HF2.out⟩
end Go.Proofs.YtgmghopcppniaaaGreatDoor

/- The reference's Right: walked. -/
namespace Go.Proofs.YtgmghopcppniaaaGreatDoor
open Go.RowKit Go.Lib

set_option maxRecDepth 100000 in
set_option maxHeartbeats 8000000 in
theorem rright_h {w : World} {S : Nat → Prop} {b : BaseD} {v : Value} (h : BaseIn w S b v) : Calls Tryz.prog 23 #[baseV b v] w (RightPost b w) := by
  obtain ⟨hrow, hnums, hidx, htrm, hdat⟩ := h
  obtain ⟨a, cap, rfl, hcap, hcap2⟩ := hrow.form
  unfold baseV
  obtain ⟨w1, hw1⟩ : ∃ w1, w1 = w.alloc (.cells #[.int .i64 b.index, .int .i64 b.term, .slice a b.voters.length cap, .string (bs b.data)] 24) := ⟨_, rfl⟩
  have HF : Hid (Fr (fun _ => False) w w1) := by show Fr _ _ _; rw [hw1]; exact (Fr.refl _ _).alloc _
  have hB : w1.heap[w.heap.size]? = some (.cells #[.int .i64 b.index, .int .i64 b.term, .slice a b.voters.length cap, .string (bs b.data)] 24 (0, 0)) := by rw [hw1]; exact block_new _ _
  have x0 := cell_of hB (i := 0) (v := .int .i64 b.index) rfl
  have x1 := cell_of hB (i := 1) (v := .int .i64 b.term) rfl
  have x2 := cell_of hB (i := 2) (v := .slice a b.voters.length cap) rfl
  have x3 := cell_of hB (i := 3) (v := .string (bs b.data)) rfl
  have HR := Lib.hid (hrow.grow HF.out)
  have HN := Lib.hid hnums
  have hln : (bs b.data).size = b.data.length := rfl
  clear hrow hnums hB
  go_enter Tryz.func23, Tryz.ntmps23
  go_wp2_with fail
  rw [← hw1]
  clear hw1
  go_loopg [3] (b.voters.length) (fun j v3 wr => ∃ (i p : Nat) (last : Int), i + j = b.voters.length ∧ v3 = .int .i64 (i : Int) ∧ w1.drewN p = wr ∧ Hid (upL 0 b.voters = upL last (b.voters.drop i)) ∧ 0 ≤ last ∧ last ≤ 9 ∧ Hid ((i = 0 ∧ last = 0) ∨ (0 < i ∧ b.voters[i - 1]? = some last)))
  case atStart => exact ⟨0, 0, 0, by omega, rfl, rfl, rfl, by omega, by omega, Or.inl ⟨rfl, rfl⟩⟩
  case round =>
    obtain ⟨i, p, last, hi, rfl, rfl, HU, hl0, hl9, HP⟩ := hrel
    have HX := Lib.hid hi
    clear hi
    by_cases hlt : i < b.voters.length
    · obtain ⟨n, hn⟩ : ∃ n, b.voters[i]? = some n := ⟨_, List.getElem?_eq_getElem hlt⟩
      obtain ⟨g, off, rfl, hc⟩ := HR.out.cells (by omega)
      have c0 := hc i n hn
      have HC := Lib.hid (upL_at last hn)
      have hnI := HN.out n (List.mem_of_getElem? hn)
      unfold I64 at hnI
      have HNN := Lib.hid hn
      have HNO : Hid (¬ (last < n ∧ n ≤ 9) → rightB b = false) := by
        intro hv
        have e1 : upL last (b.voters.drop i) = false := by
          rw [HC.out]
          rcases Decidable.not_and_iff_not_or_not.1 hv with h1 | h1
          · rw [decide_eq_false h1]; rfl
          · rw [decide_eq_false h1, Bool.and_false]; rfl
        rw [right_rest, HU.out, e1]; rfl
      have HGO : Hid (last < n ∧ n ≤ 9 → upL 0 b.voters = upL n (b.voters.drop (i + 1))) := by
        intro hv
        rw [HU.out, HC.out, decide_eq_true hv.1, decide_eq_true hv.2]; rfl
      have HCC := Lib.hid hc
      clear hc hn HC
      by_cases q1 : n < 1
      · have d1 : decide (n < 1) = true := decide_eq_true q1
        have HE := Lib.hid (HNO.out (by omega))
        go_wp2_with fail
        go_big_quiet (fail)
        go_wp2_with fail
        go_ret
        exact right_no HE.out ((HF.out.drewN _).drewN _)
      · have d1 : decide (n < 1) = false := decide_eq_false q1
        by_cases q2 : 9 < n
        · have d2 : decide (9 < n) = true := decide_eq_true q2
          have HE := Lib.hid (HNO.out (by omega))
          go_wp2_with fail
          go_big_quiet (fail)
          go_wp2_with fail
          go_ret
          exact right_no HE.out ((HF.out.drewN _).drewN _)
        · have d2 : decide (9 < n) = false := decide_eq_false q2
          by_cases q3 : i = 0
          · have hl00 : last = 0 := by rcases HP.out with h | h; exact h.2; omega
            have d3 : decide ((0 : Int) < (i : Int)) = false := by rw [decide_eq_false_iff_not]; omega
            have d4 : decide (0 < i) = false := by rw [decide_eq_false_iff_not]; omega
            have HU2 := Lib.hid (HGO.out ⟨by omega, by omega⟩)
            have HP2 : Hid ((i + 1 = 0 ∧ n = 0) ∨ (0 < i + 1 ∧ b.voters[i + 1 - 1]? = some n)) := .inr ⟨by omega, HNN.out⟩
            clear q3 hl00
            go_wp2_with fail
            go_big_quiet (fail)
            go_wp2_with fail
            go_roundg (b.voters.length - (i + 1))
            case measure => have := HX.out; omega
            case rel => exact ⟨i + 1, p + nq, n, by omega, by go_num, rfl, HU2.out, by omega, by omega, HP2.out⟩
          · have d3 : decide ((0 : Int) < (i : Int)) = true := by rw [decide_eq_true_eq]; omega
            have d4 : decide (0 < i) = true := by rw [decide_eq_true_eq]; omega
            have hpr : b.voters[i - 1]? = some last := by rcases HP.out with h | h; exact absurd h.1 q3; exact h.2
            have c1 := HCC.out (i - 1) last hpr
            have hw1 : IntKind.i64.wrap ((i : Int) - 1) = (i : Int) - 1 := IntWalk.i64_in _ (by omega)
            have hti : ((i : Int) - 1).toNat = i - 1 := by omega
            have hge : (0 : Int) ≤ (i : Int) - 1 := by omega
            have hl1 : (i : Int) - 1 < b.voters.length := by omega
            clear hpr q3
            by_cases q4 : n ≤ last
            · have d5 : decide (n ≤ last) = true := decide_eq_true q4
              have HE := Lib.hid (HNO.out (by omega))
              go_wp2_with fail
              go_big_quiet (fail)
              go_wp2_with fail
              go_ret
              exact right_no HE.out ((HF.out.drewN _).drewN _)
            · have d5 : decide (n ≤ last) = false := decide_eq_false q4
              have HU2 := Lib.hid (HGO.out ⟨by omega, by omega⟩)
              have HP2 : Hid ((i + 1 = 0 ∧ n = 0) ∨ (0 < i + 1 ∧ b.voters[i + 1 - 1]? = some n)) := .inr ⟨by omega, HNN.out⟩
              go_wp2_with fail
              go_big_quiet (fail)
              go_wp2_with fail
              go_roundg (b.voters.length - (i + 1))
              case measure => have := HX.out; omega
              case rel => exact ⟨i + 1, p + nq, n, by omega, by go_num, rfl, HU2.out, by omega, by omega, HP2.out⟩
    · have hge : ¬ i < b.voters.length := hlt
      have e1 : rightB b = restB b := by
        rw [right_rest, HU.out, List.drop_eq_nil_of_le (by omega)]; rfl
      have HE := Lib.hid e1
      clear e1
      unfold I64 at hidx htrm
      have hI2 : ¬ (i : Int) < b.voters.length := by omega
      by_cases r1 : 1 ≤ b.index
      · by_cases r2 : b.index ≤ 1099511627776
        · by_cases r3 : 0 ≤ b.term
          · by_cases r4 : b.term ≤ 1099511627776
            · by_cases r5 : (1 : Int) ≤ b.voters.length
              · have r6 : (b.data.length : Int) ≤ 4000000 := by omega
                have r7 : (b.voters.length : Int) ≤ 9 := by
                  have h1 : upL 0 b.voters = true := by rw [HU.out, List.drop_eq_nil_of_le (by omega)]; rfl
                  have := up_len b.voters 0 h1 (by omega) (by omega)
                  omega
                go_wp2_with fail
                go_ret
                exact right_is (by rw [HE.out]; unfold restB; simp <;> omega) (HF.out.drewN _)
              · go_wp2_with fail
                go_ret
                exact right_is (by rw [HE.out]; unfold restB; simp <;> omega) (HF.out.drewN _)
            · go_wp2_with fail
              go_ret
              exact right_is (by rw [HE.out]; unfold restB; simp <;> omega) (HF.out.drewN _)
          · go_wp2_with fail
            go_ret
            exact right_is (by rw [HE.out]; unfold restB; simp <;> omega) (HF.out.drewN _)
        · go_wp2_with fail
          go_ret
          exact right_is (by rw [HE.out]; unfold restB; simp <;> omega) (HF.out.drewN _)
      · go_wp2_with fail
        go_ret
        exact right_is (by rw [HE.out]; unfold restB; simp <;> omega) (HF.out.drewN _)
end Go.Proofs.YtgmghopcppniaaaGreatDoor

/- The reference's frames of a base: walked. -/
namespace Go.Proofs.YtgmghopcppniaaaGreatDoor
open Go.RowKit Go.Lib

theorem rint_at {w : World} {n : Int} (hn : I64 n) {t : Str} (ht : intL n = t) : Calls Tryz.prog 117 #[.int .i64 n] w fun e w' => e = .returned (.string (bs t)) ∧ Fr (fun _ => False) w w' := by
  rw [← ht]; exact rint_h hn
theorem rframe_at {w : World} {s t : Str} (hs : s.length ≤ 65536) (ht : frameL s = t) : Calls Tryz.prog 118 #[.string (bs s)] w fun e w' => e = .returned (.tuple #[.string (bs t), .int .i64 0]) ∧ Fr (fun _ => False) w w' := by
  have h := rframe_h (w := w) s (by omega)
  rw [show frameD s = (frameL s, 0) from if_pos hs, ht] at h
  exact h
def FrPost (b : BaseD) (w : World) (e : Ending) (w' : World) : Prop := ∃ v, e = .returned v ∧ w'.ownsRow w.heap.size 9 1 v (payloadsL b).length (((payloadsL b).map frameL).map fun s => .string (bs s)) ∧ Fr (fun _ => False) w w'
theorem info9 : (Tryz.prog.info? 9).map (fun i => (i.zero, i.size, i.bytes)) = some (some (.string ⟨#[]⟩), 1, 16) := by kernel_rfl
/-- while the chunks are framed -/
structure FRel (w1 : World) (b : BaseD) (at' : Nat) (pre : List Str) (m : Nat) (v : Value) (wr : World) : Prop where
  all : pre ++ (chunksL (b.data.drop at')).map frameL = (payloadsL b).map frameL
  len : m = pre.length
  pos : 0 < m
  row : wr.ownsRow w1.heap.size 9 1 v m (pre.map fun s => .string (bs s))
  fr : Fr (fun _ => False) w1 wr
set_option maxRecDepth 100000 in
set_option maxHeartbeats 16000000 in
theorem rframes_h {w : World} {S : Nat → Prop} {b : BaseD} {v : Value} (h : BaseIn w S b v) (hr : rightB b = true) : Calls Tryz.prog 65 #[baseV b v] w (FrPost b w) := by
  obtain ⟨hrow, hnums, hidx, htrm, hdat⟩ := h
  obtain ⟨a, cap, rfl, hcap, hcap2⟩ := hrow.form
  unfold baseV
  have hvl := (right_voters hr).1
  obtain ⟨w1, hw1⟩ : ∃ w1, w1 = w.alloc (.cells #[.int .i64 b.index, .int .i64 b.term, .slice a b.voters.length cap, .string (bs b.data)] 24) := ⟨_, rfl⟩
  have HF : Hid (Fr (fun _ => False) w w1) := by show Fr _ _ _; rw [hw1]; exact (Fr.refl _ _).alloc _
  have hB : w1.heap[w.heap.size]? = some (.cells #[.int .i64 b.index, .int .i64 b.term, .slice a b.voters.length cap, .string (bs b.data)] 24 (0, 0)) := by rw [hw1]; exact block_new _ _
  have x0 := cell_of hB (i := 0) (v := .int .i64 b.index) rfl
  have x1 := cell_of hB (i := 1) (v := .int .i64 b.term) rfl
  have x2 := cell_of hB (i := 2) (v := .slice a b.voters.length cap) rfl
  have HB := Lib.hid hB
  have HR := Lib.hid (hrow.grow HF.out)
  have HN := Lib.hid hnums
  have hln : (bs b.data).size = b.data.length := rfl
  obtain ⟨A, hA⟩ : ∃ A, intL b.index = A := ⟨_, rfl⟩
  obtain ⟨B, hB2⟩ : ∃ A, intL b.term = A := ⟨_, rfl⟩
  obtain ⟨C, hC⟩ : ∃ A, intL (b.voters.length : Int) = A := ⟨_, rfl⟩
  have HI1 := Lib.hid (fun (W : World) => rint_at (w := W) hidx hA)
  have HI2 := Lib.hid (fun (W : World) => rint_at (w := W) htrm hB2)
  have HI3 := Lib.hid (fun (W : World) => rint_at (w := W) (show I64 (b.voters.length : Int) by unfold I64; omega) hC)
  have hAl : A.length ≤ 10 := by rw [← hA]; exact intL_len hidx
  have hBl : B.length ≤ 10 := by rw [← hB2]; exact intL_len htrm
  have hCl : C.length ≤ 10 := by rw [← hC]; exact intL_len (show I64 (b.voters.length : Int) by unfold I64; omega)
  have s1 := fun (W : World) => sum_at W (a := A) (b := B) rfl (by simp; omega)
  have s2 := fun (W : World) => sum_at W (a := A ++ B) (b := C) rfl (by simp; omega)
  have HL3 : Hid ((A ++ B ++ C).length ≤ 30) := by show _ ≤ _; rw [List.length_append, List.length_append]; omega
  have HABC : Hid (intsL [b.index, b.term, (b.voters.length : Int)] = A ++ B ++ C) := by
    show _ = _
    rw [intsL_cons, intsL_cons, intsL_cons, hA, hB2, hC]; simp [intsL]
  clear hrow hnums hB hA hB2 hC hAl hBl hCl
  go_enter Tryz.func65, Tryz.ntmps65
  go_upto_region 1 with fail
  rw [← hw1]
  clear hw1
  go_cut [3] (fun s3 wx => Hid (s3 = .string (bs (A ++ B ++ C)) ∧ Fr (fun _ => False) w1 wx))
  case first =>
    go_region_held (fun w' => w'.cell? ⟨w.heap.size, 0, none⟩ = some (.int .i64 b.index) ∧ w'.cell? ⟨w.heap.size, 1, none⟩ = some (.int .i64 b.term) ∧ w'.cell? ⟨w.heap.size, 2, none⟩ = some (.slice a b.voters.length cap))
      (first | go_keep | (with_reducible exact ⟨s0_fC, s1_fC, s2_fC⟩) | (with_reducible exact ⟨s0_fB, s1_fB, s2_fB⟩) | (with_reducible exact ⟨s0_fA, s1_fA, s2_fA⟩) | fail)
      (first
        | (go_at_call 117; (with_reducible refine Calls.mono (HI1.out _) ?_); clear HI1; rintro e wA ⟨rfl, hq⟩; have fA := (show Fr (fun _ => False) w1 _ by repeat (first | exact Fr.refl _ _ | refine Fr.drew ?_)).next hq; have s0_fA := fA.cell x0 (fun h => h); have s1_fA := fA.cell x1 (fun h => h); have s2_fA := fA.cell x2 (fun h => h); clear hq)
        | (have tok := s0_fA; clear tok; go_at_call 117; (with_reducible refine Calls.mono (HI2.out _) ?_); clear HI2; rintro e wB ⟨rfl, hq⟩; have fB := (show Fr (fun _ => False) w1 _ by repeat (first | exact fA | refine Fr.drew ?_)).next hq; have s0_fB := fB.cell x0 (fun h => h); have s1_fB := fB.cell x1 (fun h => h); have s2_fB := fB.cell x2 (fun h => h); clear hq)
        | (have tok := s0_fB; clear tok; go_at_call 117; (with_reducible refine Calls.mono (HI3.out _) ?_); clear HI3; rintro e wC ⟨rfl, hq⟩; have fC := (show Fr (fun _ => False) w1 _ by repeat (first | exact fB | refine Fr.drew ?_)).next hq; have s0_fC := fC.cell x0 (fun h => h); have s1_fC := fC.cell x1 (fun h => h); have s2_fC := fC.cell x2 (fun h => h); clear hq)
        | fail)
    all_goals
      go_wp2_with fail
      go_meet
      exact ⟨by first | rfl | rw [List.append_assoc], fC⟩
  case rest =>
    obtain ⟨rfl, hf⟩ := hcut.out
    obtain ⟨t0, ht0⟩ : ∃ t0, A ++ B ++ C = t0 := ⟨_, rfl⟩
    rw [ht0] at HABC ⊢
    have h30 : t0.length ≤ 30 := by rw [← ht0]; exact HL3.out
    have HF2 := Lib.hid hf
    clear hf hcut ht0 HI1 HI2 HI3 s1 s2 x0 x1 x2 HL3
    go_wp2_with fail
    go_loopg [3, 4] (b.voters.length) (fun j v3 v4 wr => ∃ (i : Nat) (t : Str), i + j = b.voters.length ∧ v4 = .int .i64 (i : Int) ∧ v3 = .string (bs t) ∧ Hid (t = t0 ++ intsL (b.voters.take i)) ∧ t.length ≤ 30 + 10 * i ∧ Hid (Fr (fun _ => False) w1 wr))
    case atStart => exact ⟨0, t0, by omega, rfl, rfl, by show _ = _; simp [intsL], by omega, HF2.out⟩
    case round =>
      obtain ⟨i, t, hi, rfl, rfl, HT, htl, HFr⟩ := hrel
      have hb := HFr.out.keep HB.out (fun h => h)
      have x2 := cell_of hb (i := 2) (v := .slice a b.voters.length cap) rfl
      have x3 := cell_of hb (i := 3) (v := .string (bs b.data)) rfl
      have HX := Lib.hid hi
      clear hi hb
      by_cases hlt : i < b.voters.length
      · obtain ⟨n, hn⟩ : ∃ n, b.voters[i]? = some n := ⟨_, List.getElem?_eq_getElem hlt⟩
        obtain ⟨g, off, rfl, hc⟩ := HR.out.cells (by omega)
        have c0 := HFr.out.cell (hc i n hn) (fun h => h)
        have hnI := HN.out n (List.mem_of_getElem? hn)
        obtain ⟨u, hu⟩ : ∃ u, intL n = u := ⟨_, rfl⟩
        have HI := Lib.hid (fun (W : World) => rint_at (w := W) hnI hu)
        have hul : u.length ≤ 10 := by rw [← hu]; exact intL_len hnI
        obtain ⟨t2, ht2⟩ : ∃ t2, t ++ u = t2 := ⟨_, rfl⟩
        have s1 := fun (W : World) => sum_at W (a := t) (b := u) ht2 (by rw [← ht2, List.length_append]; omega)
        have HT2 : Hid (t2 = t0 ++ intsL (b.voters.take (i + 1))) := by show _ = _; rw [intsL_snoc hn, hu, ← List.append_assoc, ← HT.out, ht2]
        have ht2l : t2.length ≤ 30 + 10 * (i + 1) := by rw [← ht2, List.length_append]; omega
        clear hc hn hu hul ht2 hnI
        go_wp2_with fail
        refine Calls.mono (HI.out _) ?_
        rintro e w3 ⟨rfl, hf3⟩
        have HF3 := Lib.hid (HFr.out.next hf3)
        clear hf3
        go_wp2_with fail
        go_roundg (b.voters.length - (i + 1))
        case measure => have := HX.out; omega
        case rel => exact ⟨i + 1, t2, by omega, by go_num, rfl, HT2, ht2l, HF3⟩
      · obtain rfl : i = b.voters.length := by have := HX.out; omega
        rw [List.take_length] at HT
        obtain ⟨u, hu⟩ : ∃ u, intL (b.data.length : Int) = u := ⟨_, rfl⟩
        have hdI : I64 (b.data.length : Int) := by unfold I64; omega
        have HI := Lib.hid (fun (W : World) => rint_at (w := W) hdI hu)
        have HHD : t ++ u = headL b := by
          rw [HT.out, ← HABC.out, ← hu]
          unfold headL headI
          rw [intsL_cons, intsL_cons, intsL_cons, intsL_cons, intsL_cons, intsL_cons, intsL_app, intsL_cons]
          simp [intsL]
        have hhl := head_len hr
        obtain ⟨hd, hhd⟩ : ∃ x, headL b = x := ⟨_, rfl⟩
        rw [hhd] at HHD hhl
        have s1 := fun (W : World) => sum_at W (a := t) (b := u) HHD (by omega)
        obtain ⟨F0, hF0⟩ : ∃ x, frameL hd = x := ⟨_, rfl⟩
        have HFR := Lib.hid (fun (W : World) => rframe_at (w := W) (show hd.length ≤ 65536 by omega) hF0)
        have HPA : Hid ([F0] ++ (chunksL (b.data.drop 0)).map frameL = (payloadsL b).map frameL) := by
          show _ = _
          unfold payloadsL
          rw [List.map_cons, hhd, hF0]; rfl
        have hpl := chunk_pays (b := b)
        have HIV : ¬ (b.voters.length : Int) < b.voters.length := by omega
        clear hlt htl hu hhd hF0 hhl HHD hdI
        go_wp2_with fail
        refine Calls.mono (HI.out _) ?_
        rintro e w3 ⟨rfl, hf3⟩
        have HF3 := Lib.hid (HFr.out.next hf3)
        clear hf3 x2 x3
        go_wp2_with fail
        refine Calls.mono (HFR.out _) ?_
        rintro e w4 ⟨rfl, hf4⟩
        have HF4 := Lib.hid (HF3.out.next hf4)
        clear hf4 s1
        have HRL : Hid (FRel w1 b 0 [F0] 1 (.slice (some ⟨w4.heap.size, 0, none⟩) 1 1) (w4.alloc (.cells #[.string (bs F0)] 9))) :=
          ⟨HPA.out, rfl, by decide, row_one (block_new _ _) HF4.out.size, HF4.out.alloc _⟩
        obtain ⟨i9, hi9, hz0, hz1, hz2⟩ := info_parts info9
        go_wp2_with fail
        go_loopg [7, 8] (b.data.length) (fun j v7 v8 wr => ∃ (at' : Nat) (pre : List Str) (m : Nat), j = b.data.length - at' ∧ v8 = .int .i64 (at' : Int) ∧ at' ≤ 2000000 ∧ Hid (FRel w1 b at' pre m v7 wr))
        case atStart => exact ⟨0, [F0], 1, by omega, rfl, by omega, HRL.out⟩
        case round =>
          obtain ⟨at', pre, m, hj, rfl, hat, HQ⟩ := hrel
          have HJ := Lib.hid hj
          clear hj HRL
          have hb := HQ.out.fr.keep HB.out (fun h => h)
          have x3 := cell_of hb (i := 3) (v := .string (bs b.data)) rfl
          have hmp := HQ.out.pos
          obtain ⟨g, gc, rfl, hgb, hnc, hcm⟩ := ownsRow_form HQ.out.row hmp
          clear hb
          by_cases hlt : at' < b.data.length
          · have hml : m ≤ 2000000 := by
              have h1 := congrArg List.length HQ.out.all
              rw [List.length_append, List.length_map, List.length_map] at h1
              have h2 := HQ.out.len
              omega
            obtain ⟨e, hm, he1, he2, he3⟩ : ∃ e : Nat, min (b.data.length : Int) ((at' : Int) + 1000) = (e : Int) ∧ at' ≤ e ∧ e ≤ b.data.length ∧ (b.data.take e).drop at' = (b.data.drop at').take 1000 := by
              rcases Nat.lt_or_ge b.data.length (at' + 1000) with h | h
              · exact ⟨b.data.length, by omega, by omega, Nat.le_refl _, by rw [List.take_length, List.take_of_length_le (by rw [List.length_drop]; omega)]⟩
              · exact ⟨at' + 1000, by omega, by omega, h, by rw [List.drop_take, Nat.add_sub_cancel_left]⟩
            have hd0 : b.data.drop at' ≠ [] := fun h => by have := List.drop_eq_nil_iff.1 h; omega
            have hcc := chunks_cons hd0
            rw [List.drop_drop] at hcc
            obtain ⟨c, hc⟩ : ∃ c, (b.data.drop at').take 1000 = c := ⟨_, rfl⟩
            have hcl : c.length ≤ 1000 := by rw [← hc, List.length_take]; omega
            rw [hc] at he3 hcc
            obtain ⟨F, hF⟩ : ∃ F, frameL c = F := ⟨_, rfl⟩
            have HFR := Lib.hid (fun (W : World) => rframe_at (w := W) (show c.length ≤ 65536 by omega) hF)
            have hall : (pre ++ [F]) ++ (chunksL (b.data.drop (at' + 1000))).map frameL = (payloadsL b).map frameL := by
              rw [← HQ.out.all, hcc, List.map_cons, hF, List.append_assoc]; rfl
            have hsl : ∀ W : World, (Instr.slice 9 (.string (bs b.data)) (some (.int .i64 (at' : Int))) (some (.int .i64 (e : Int))) none).run Tryz.prog W = .ok (.string (bs c)) W := fun W => by rw [slice_run (w := W) b.data rfl rfl he1 he2, he3]
            have hw : IntKind.i64.wrap ((at' : Int) + 1000) = (at' : Int) + 1000 := IntWalk.i64_in _ (by omega)
            have HALL := Lib.hid hall
            clear hd0 hcc hc hcl hF hall he3
            go_wp2_with fail
            refine Calls.mono (HFR.out _) ?_
            rintro e w6 ⟨rfl, hf6⟩
            have HF6 := Lib.hid (HQ.out.fr.next hf6)
            have hown : w6.ownsRow w1.heap.size 9 1 (.slice (some ⟨g, 0, none⟩) m gc) m (pre.map fun s => .string (bs s)) := ownsRow_keep HQ.out.row (fun k hk => hf6.block k (HQ.out.row.lt k hk).2 (fun h => h))
            clear hf6 x3 hsl
            go_wp2_with (at_builtin; refine wpList_append_shape rfl _ _ 48 rfl w1.heap.size 9 i9 (.string ⟨#[]⟩) 1 16 Tryz.underlying48 hi9 hz0 hz1 hz2 rfl (by decide) _ _ _ rfl (hown.alloc _) ⟨w6.heap.size, 0, none⟩ 1 1 [.string (bs F)] rfl rfl ?c1 ?c2 ?c3 ?c4 ?c5 (by omega) ?_)
            case c1 =>
              intro j u hj
              match j, hj with
              | 0, hj => simp at hj; subst hj; simp [Addr.add]
            case c2 => intro u hu; simp at hu; subst hu; rfl
            case c3 => unfold maxLen; omega
            case c4 => omega
            case c5 => have := HF6.out.size; simp; omega
            intro g2 cap2 w7 hown7 hg7 hx7
            have hfr7 : Fr (fun _ => False) w1 w7 := (HF6.out.alloc (.cells #[.string (bs F)] 9)).grown hg7 fun k hk => .inr (HQ.out.row.lt k hk).1
            have HQ7 : Hid (FRel w1 b (at' + 1000) (pre ++ [F]) (m + 1) (.slice (some ⟨g2, 0, none⟩) (m + 1) cap2) w7) := ⟨HALL.out, by rw [List.length_append, ← HQ.out.len]; rfl, by omega, by rw [List.map_append]; exact hown7, hfr7⟩
            clear hown7 hg7 hfr7 hx7 hown
            go_wp2_with fail
            go_roundg (b.data.length - (at' + 1000))
            case measure => have := HJ.out; omega
            case rel => exact ⟨at' + 1000, pre ++ [F], m + 1, rfl, by go_num, by omega, HQ7⟩
          · have hle : b.data.length ≤ at' := by omega
            have hpre : pre = (payloadsL b).map frameL := by
              have h := HQ.out.all
              rwa [List.drop_eq_nil_of_le hle, chunks_nil, List.map_nil, List.append_nil] at h
            have HOUT : Hid (FrPost b w (.returned (.slice (some ⟨g, 0, none⟩) m gc)) wr) := by
              refine ⟨_, rfl, ?_, HF.out.next HQ.out.fr⟩
              have h1 := HQ.out.row
              rw [hpre] at h1
              have h2 : m = (payloadsL b).length := by rw [HQ.out.len, hpre, List.length_map]
              rw [h2] at h1 ⊢
              exact ownsRow_base h1 HF.out.size
            have hnlt : ¬ (at' : Int) < b.data.length := by omega
            go_wp2_with fail
            go_ret
            exact HOUT.out
end Go.Proofs.YtgmghopcppniaaaGreatDoor

/- The reference's Pack: walked. -/
namespace Go.Proofs.YtgmghopcppniaaaGreatDoor
open Go.RowKit Go.Lib

theorem strCells_bs (l : Str) : strCells (bs l) = l.map encB := by first | rfl | (unfold strCells encB; rw [bs_data]; rfl) | (unfold strCells encB; simp [bs])
/-- while the frames are put together -/
structure PkRel (w4 : World) (b : BaseD) (i : Nat) (l : Str) (v : Value) (wr : World) : Prop where
  all : l = ((payloadsL b).take i).flatMap frameL
  row : wr.ownsRow w4.heap.size 5 1 v l.length (l.map encB)
  fr : Fr (fun _ => False) w4 wr
theorem pk_len {b : BaseD} {i : Nat} {l : Str} (h : l = ((payloadsL b).take i).flatMap frameL) (hr : rightB b = true) (hd : b.data.length ≤ 1000000) : l.length ≤ 2000000 := by
  have h1 := congrArg List.length (List.take_append_drop i (payloadsL b)) 
  have h2 : packL b = l ++ ((payloadsL b).drop i).flatMap frameL := by
    rw [h, ← List.flatMap_append, List.take_append_drop]; rfl
  have h3 := pack_bytes b
  have h4 := head_len hr
  rw [h2, List.length_append] at h3
  omega
theorem pk_next {b : BaseD} {i : Nat} {l s : Str} (h : l = ((payloadsL b).take i).flatMap frameL) (hs : (payloadsL b)[i]? = some s) : l ++ frameL s = ((payloadsL b).take (i + 1)).flatMap frameL := by
  rw [List.take_add_one, hs, List.flatMap_append, h]; simp
def RPackPost (b : BaseD) (w : World) (e : Ending) (w' : World) : Prop := e = .returned (.tuple #[.string (bs (packD b).1), .int .i64 (packD b).2]) ∧ Fr (fun _ => False) w w'
theorem rpack_post {b : BaseD} {w w' : World} {t : Str} {er : Int} (h : packD b = (t, er)) (hf : Fr (fun _ => False) w w') : RPackPost b w (.returned (.tuple #[.string (bs t), .int .i64 er])) w' := by
  unfold RPackPost; rw [h]; exact ⟨rfl, hf⟩
set_option maxRecDepth 100000 in
set_option maxHeartbeats 16000000 in
theorem rpack_h {w : World} {b : BaseD} {v : Value} (h : BaseIn w (fun k => k < w.heap.size) b v) : Calls Tryz.prog 19 #[baseV b v] w (RPackPost b w) := by
  have hdat := h.data
  obtain ⟨a, cap, rfl, hcap, hcap2⟩ := h.row.form
  have HA : baseV b (.slice a b.voters.length cap) = .agg #[.int .i64 b.index, .int .i64 b.term, .slice a b.voters.length cap, .string (bs b.data)] := rfl
  rw [HA]
  obtain ⟨w1, hw1⟩ : ∃ w1, w1 = w.alloc (.cells #[.int .i64 b.index, .int .i64 b.term, .slice a b.voters.length cap, .string (bs b.data)] 24) := ⟨_, rfl⟩
  have HF : Hid (Fr (fun _ => False) w w1) := by show Fr _ _ _; rw [hw1]; exact (Fr.refl _ _).alloc _
  have hB : w1.heap[w.heap.size]? = some (.cells #[.int .i64 b.index, .int .i64 b.term, .slice a b.voters.length cap, .string (bs b.data)] 24 (0, 0)) := by rw [hw1]; exact block_new _ _
  have x0 := cell_of hB (i := 0) (v := .int .i64 b.index) rfl
  have x1 := cell_of hB (i := 1) (v := .int .i64 b.term) rfl
  have x2 := cell_of hB (i := 2) (v := .slice a b.voters.length cap) rfl
  have x3 := cell_of hB (i := 3) (v := .string (bs b.data)) rfl
  have HB := Lib.hid hB
  have HH := Lib.hid h
  have HRI := Lib.hid (rright_h (h.grow HF.out))
  rw [HA] at HRI
  clear h hB
  go_enter Tryz.func19, Tryz.ntmps19
  go_upto_region 1 with fail
  rw [← hw1]
  clear hw1
  go_wp2_with fail
  refine Calls.mono HRI.out ?_
  rintro e w2 ⟨rfl, hf2⟩
  have HF2 := Lib.hid (HF.out.next hf2)
  have hb2 := hf2.keep HB.out (fun h => h)
  clear x0 x1 x2 x3 hf2 HRI
  cases hr : rightB b with
  | false =>
    have HP := Lib.hid (show packD b = ([], 1) by unfold packD; rw [hr]; rfl)
    clear hr HA
    go_wp2_with fail
    go_ret2
    exact rpack_post HP.out HF2.out
  | true =>
    have HP := Lib.hid (show packD b = (packL b, 0) by unfold packD; rw [if_pos hr])
    have HFM := Lib.hid (rframes_h (HH.out.grow HF2.out) hr)
    rw [HA] at HFM
    have HRR := Lib.hid hr
    have x0 := cell_of hb2 (i := 0) (v := .int .i64 b.index) rfl
    have x1 := cell_of hb2 (i := 1) (v := .int .i64 b.term) rfl
    have x2 := cell_of hb2 (i := 2) (v := .slice a b.voters.length cap) rfl
    have x3 := cell_of hb2 (i := 3) (v := .string (bs b.data)) rfl
    clear hr HA hb2
    go_wp2_with fail
    refine Calls.mono HFM.out ?_
    rintro e w4 ⟨fv, rfl, hrow, hf4⟩
    obtain ⟨fa, fc, rfl⟩ := ownsRow_shape hrow
    have HF4 := Lib.hid (HF2.out.next hf4)
    have HRW := Lib.hid hrow
    have hpl := chunk_pays (b := b)
    have hpp : 0 < (payloadsL b).length := by unfold payloadsL; simp
    obtain ⟨i0, hi, hz0, hz1, hz2⟩ := info_parts info5
    have HR0 : Hid (PkRel w4 b 0 [] (.slice none 0 0) w4) := ⟨rfl, ⟨rfl, .inl ⟨rfl, rfl⟩⟩, Fr.refl _ _⟩
    clear hrow hf4 x0 x1 x2 x3 HFM
    go_wp2_with fail
    go_loopg [6, 7] ((payloadsL b).length) (fun j v6 v7 wr => ∃ (i : Nat) (l : Str), i + j = (payloadsL b).length ∧ v7 = .int .i64 (i : Int) ∧ Hid (PkRel w4 b i l v6 wr))
    case atStart => exact ⟨0, [], by omega, rfl, HR0.out⟩
    case round =>
      obtain ⟨i, l, hij, rfl, HQ⟩ := hrel
      have HX := Lib.hid hij
      have hll := pk_len HQ.out.all HRR.out hdat
      obtain ⟨la, lc, rfl⟩ := ownsRow_shape HQ.out.row
      clear hij HR0
      by_cases hlt : i < (payloadsL b).length
      · obtain ⟨s, hs⟩ : ∃ s, (payloadsL b)[i]? = some s := ⟨_, List.getElem?_eq_getElem hlt⟩
        obtain ⟨g, gc, hv, hgB, hnc, hcm⟩ := ownsRow_form HRW.out hpp
        injection hv with hv1 _ hv2
        subst hv1; subst hv2
        have c0 := HQ.out.fr.cell (ownsRow_cell HRW.out (i := i) (v := .string (bs (frameL s))) (by rw [List.getElem?_map, List.getElem?_map, hs]; rfl)) (fun h => h)
        have HN := Lib.hid (pk_next HQ.out.all hs)
        have hn2 := pk_len HN.out HRR.out hdat
        obtain ⟨F, hF⟩ : ∃ F, frameL s = F := ⟨_, rfl⟩
        rw [hF] at c0 HN hn2
        rw [List.length_append] at hn2
        have hFs : (bs F).size = F.length := rfl
        clear hs hF
        go_wp2_with (at_builtin; refine Lib.wpList_append_own_string _ rfl _ _ 33 9 rfl w4.heap.size 5 i0 Tryz.underlying33 Tryz.underlying9 hi hz0 hz1 hz2 _ _ _ rfl HQ.out.row (bs F) rfl ?c3 ?c4 ?c5 ?_)
        case c3 => unfold maxLen; omega
        case c4 => omega
        case c5 => exact HQ.out.fr.size
        intro v' w5 hown5 hg5 _
        have HQ5 : Hid (PkRel w4 b (i + 1) (l ++ F) v' w5) := ⟨HN.out, by rw [List.length_append, List.map_append, ← strCells_bs F]; exact hown5, HQ.out.fr.grown hg5 fun k hk => .inr (HQ.out.row.lt k hk).1⟩
        clear hown5 hg5
        go_wp2_with fail
        go_roundg ((payloadsL b).length - (i + 1))
        case measure => have := HX.out; omega
        case rel => exact ⟨i + 1, l ++ F, by omega, by go_num, HQ5⟩
      · obtain rfl : i = (payloadsL b).length := by have := HX.out; omega
        have hl : l = packL b := by rw [HQ.out.all, List.take_length]; rfl
        have hl8 : 0 < l.length := by rw [hl, pack_bytes]; omega
        obtain ⟨g, gc, hv, hgB, hnc, hcm⟩ := ownsRow_form HQ.out.row hl8
        injection hv with hv1 _ hv2
        subst hv1; subst hv2
        have hcv := bytes_string HQ.out.row rfl
        have HL := Lib.hid hl
        have HFQ := Lib.hid (HF4.out.next HQ.out.fr)
        clear hl hl8 hlt
        go_wp2_with fail
        go_ret2
        rw [HL.out]
        exact rpack_post HP.out HFQ.out
end Go.Proofs.YtgmghopcppniaaaGreatDoor
