/- The reference's numbers, sum, four bytes: walked. -/
import Derived.Test.YtgmghopcppniaaaGreatDoorFD
import Derived.Lib.AppendStr
import Derived.Test.YtgmghopcppniaaaGreatDoorFE
import Derived.Lib.BufferRead
namespace Go.Proofs.YtgmghopcppniaaaGreatDoor
open Go.RowKit Go.Lib

set_option maxRecDepth 100000 in
set_option maxHeartbeats 4000000 in
theorem rnat_h {w : World} {n : Int} (hn : I64 n) : Calls Tryz.prog 153 #[.int .i64 n] w fun e w' => e = .returned (.int .u64 ((zig n : Nat) : Int)) ∧ w = w' := by
 obtain ⟨h1, h2⟩ := hn
 by_cases h : 0 ≤ n
 ·have hw1 : IntKind.u64.wrap n = n := by rw [IntKind.wrap_u64]; omega
  have hw2 : IntKind.u64.wrap (2 * n) = 2 * n := by rw [IntKind.wrap_u64]; omega
  have HZ := Lib.hid (show ((zig n : Nat) : Int) = 2 * n by unfold zig; rw [if_pos h]; omega)
  go_enter Tryz.func153, Tryz.ntmps153
  go_wp2_with fail
  go_ret
  exact ⟨by rw [HZ.out] <;> rfl, rfl⟩
 ·have hw0 : IntKind.i64.wrap (n + 1) = n + 1 := IntWalk.i64_in _ (by omega)
  have hw1 : IntKind.i64.wrap (-(n + 1)) = -(n + 1) := IntWalk.i64_in _ (by omega)
  have hw2 : IntKind.u64.wrap (-(n + 1)) = -(n + 1) := by rw [IntKind.wrap_u64]; omega
  have hw3 : IntKind.u64.wrap (2 * -(n + 1)) = 2 * -(n + 1) := by rw [IntKind.wrap_u64]; omega
  have hw4 : IntKind.u64.wrap (2 * -(n + 1) + 1) = 2 * -(n + 1) + 1 := by rw [IntKind.wrap_u64]; omega
  have HZ := Lib.hid (show ((zig n : Nat) : Int) = 2 * -(n + 1) + 1 by unfold zig; rw [if_neg h]; omega)
  go_enter Tryz.func153, Tryz.ntmps153
  go_wp2_with fail
  go_ret
  exact ⟨by rw [HZ.out] <;> rfl, rfl⟩
set_option maxRecDepth 100000 in
set_option maxHeartbeats 4000000 in
theorem rfour_h {w : World} (v : Nat) (_hv : v < 4294967296) : Calls Tryz.prog 151 #[.int .u32 (v : Int)] w fun e w' => e = .returned (.string (bs (fourL v))) ∧ Fr (fun _ => False) w w' := by
 have hcv : Sem.run Tryz.prog (convert 33 9 (.slice (some ⟨w.heap.size, 0, none⟩) 4 4)) (w.alloc (.cells #[.int .u8 ((v : Int) / 16777216 % 256), .int .u8 ((v : Int) / 65536 % 256), .int .u8 ((v : Int) / 256 % 256), .int .u8 ((v : Int) % 256)] 5)) = .ok (.string (bs (fourL v))) (w.alloc (.cells #[.int .u8 ((v : Int) / 16777216 % 256), .int .u8 ((v : Int) / 65536 % 256), .int .u8 ((v : Int) / 256 % 256), .int .u8 ((v : Int) % 256)] 5)) := by
  have f0 := u8_at (v / 16777216) ((v : Int) / 16777216) (by omega)
  have f1 := u8_at (v / 65536) ((v : Int) / 65536) (by omega)
  have f2 := u8_at (v / 256) ((v : Int) / 256) (by omega)
  have f3 := u8_at v (v : Int) rfl
  rw [f0, f1, f2, f3]
  exact run_convert_bytes_back _ 33 9 5 ⟨w.heap.size, 0, none⟩ 4 (fourL v) Tryz.underlying33 Tryz.underlying5 Tryz.underlying9 fun j hj => by
   rw [Addr.add_lit, Nat.zero_add]
   refine cell_of (block_new w _) ?_
   match j, hj with
   | 0, _ => rfl
   | 1, _ => rfl
   | 2, _ => rfl
   | 3, _ => rfl
   | k + 4, hj => exact absurd (show k + 4 < 4 from hj) (by omega)
 clear _hv
 go_enter Tryz.func151, Tryz.ntmps151
 go_wp2_with fail
 go_ret
 exact ⟨rfl, (Fr.refl _ _).alloc _⟩
set_option maxRecDepth 100000 in
set_option maxHeartbeats 8000000 in
theorem rcrc_h {w : World} (s : Str) (hs : s.length ≤ 1000000) : Calls Tryz.prog 152 #[.string (bs s)] w fun e w' => e = .returned (.int .u32 ((crcL s : Nat) : Int)) ∧ w = w' := by
 have hsz : (bs s).size = s.length := rfl
 go_enter Tryz.func152, Tryz.ntmps152
 go_wp2_with fail
 go_loopg [3, 4] s.length (fun j v3 v4 wr => (∃ i : Nat, i + j = s.length ∧ v3 = .int .u32 ((sumL 4294967295 (s.take i) : Nat) : Int) ∧ v4 = .int .i64 i) ∧ w = wr)
 case atStart => exact ⟨⟨0, by omega, rfl, rfl⟩, rfl⟩
 case round =>
  obtain ⟨⟨i, hi, rfl, rfl⟩, rfl⟩ := hrel
  have hc0 : (4294967295 : Nat) < 4294967296 := by decide
  by_cases hlt : i < s.length
  ·have hz : i < (bs s).size := hlt
   have hg := bs_at s i hz
   have hlt2 := sum_lt (s.take i) hc0
   have hsn := sum_snoc (c := 4294967295) (s := s) (k := i) (b := s.getD i 0) (by rw [List.getD_eq_getElem?_getD, List.getElem?_eq_getElem hlt]; rfl)
   obtain ⟨b, hb⟩ : ∃ b, s.getD i 0 = b := ⟨_, rfl⟩
   rw [hb] at hg hsn
   obtain ⟨c, hc⟩ : ∃ c, sumL 4294967295 (s.take i) = c := ⟨_, rfl⟩
   rw [hc] at hsn hlt2 ⊢
   have hbl := b.toNat_lt
   have hx := xor_u32 c b.toNat hlt2 (by omega)
   have hxl : c ^^^ b.toNat < 4294967296 := Nat.xor_lt_two_pow (n := 32) hlt2 (by omega)
   have HN := Lib.hid (And.intro hsn hi)
   obtain ⟨x, hxe⟩ : ∃ x, c ^^^ b.toNat = x := ⟨_, rfl⟩
   rw [hxe] at hx hxl HN
   clear hsn hi hb hc hxe hlt2 hc0
   go_wp2_with fail
   go_loopg [3, 5] 8 (fun j v3 v5 wr => (∃ k : Nat, k + j = 8 ∧ v3 = .int .u32 ((crcN k x : Nat) : Int) ∧ v5 = .int .i64 k) ∧ w = wr)
   case atStart => exact ⟨⟨0, by omega, rfl, rfl⟩, rfl⟩
   case round =>
    obtain ⟨⟨k, hk, rfl, rfl⟩, rfl⟩ := hrel
    by_cases hk8 : k < 8
    ·have hcl := crcN_lt k hxl
     have hcs := crcN_snoc k x
     obtain ⟨y, hy⟩ : ∃ y, crcN k x = y := ⟨_, rfl⟩
     rw [hy] at hcl hcs ⊢
     have HK := Lib.hid (And.intro hk hcs)
     clear hk hcs hy
     rcases Nat.mod_two_eq_zero_or_one y with h2 | h2
     ·have HE := Lib.hid (crc_even h2)
      have h3 : (y : Int) % 2 = 0 := by omega
      clear h2
      go_wp2_with fail
      go_roundg (8 - (k + 1))
      case measure => have := HK.out.1; omega
      case rel =>
       refine ⟨⟨k + 1, by have := HK.out.1; omega, ?_, by go_num⟩, rfl⟩
       rw [HK.out.2, HE.out]
       rfl
     ·have HE := Lib.hid (crc_odd h2)
      have h3 : (y : Int) % 2 = 1 := by omega
      have HX := Lib.hid (xor_u32 (y / 2) 2197175160 (by omega) (by decide))
      clear h2
      go_wp2_with fail
      go_roundg (8 - (k + 1))
      case measure => have := HK.out.1; omega
      case rel =>
       refine ⟨⟨k + 1, by have := HK.out.1; omega, ?_, by go_num⟩, rfl⟩
       rw [HK.out.2, HE.out, ← HX.out]
       rfl
    ·obtain rfl : k = 8 := by omega
     clear hk hk8
     go_wp2_with fail
     go_roundg (s.length - (i + 1))
     case measure => have := HN.out.2; omega
     case rel => exact ⟨⟨i + 1, by have := HN.out.2; omega, by rw [HN.out.1], by go_num⟩, rfl⟩
  ·obtain rfl : i = s.length := by omega
   rw [List.take_length]
   have HX := Lib.hid (show bits .xor .u32 ((sumL 4294967295 s : Nat) : Int) 4294967295 = ((crcL s : Nat) : Int) by
    have h1 := xor_u32 (sumL 4294967295 s) 4294967295 (sum_lt s hc0) (by decide)
    rw [show ((4294967295 : Nat) : Int) = 4294967295 from rfl] at h1
    rw [h1]; unfold crcL; rw [Nat.xor_comm])
   clear hi hlt hc0
   generalize sumL 4294967295 s = q at *
   go_wp2_with fail
   go_ret
   exact ⟨by rw [← HX.out] <;> rfl, rfl⟩
end Go.Proofs.YtgmghopcppniaaaGreatDoor

/- The reference's Int and Frame: walked. -/
namespace Go.Proofs.YtgmghopcppniaaaGreatDoor
open Go.RowKit Go.Lib

def encB (c : UInt8) : Value := .int .u8 (c.toNat : Int)
structure IRel (w : World) (n : Int) (q : Nat) (l : Str) (m : Nat) (v : Value) (wr : World) : Prop where
 eq : natHi q ++ l = intL n
 len : m = l.length
 pos : 0 < m
 row : wr.ownsRow w.heap.size 5 1 v m (l.map encB)
 fr : Fr (fun _ => False) w wr
theorem row_one {w : World} {base g e : Nat} {c : Value} (h : w.heap[g]? = some (.cells #[c] e (0, 0))) (hb : base ≤ g) : w.ownsRow base e 1 (.slice (some ⟨g, 0, none⟩) 1 1) 1 [c] :=
 ⟨rfl, .inr ⟨g, 1, #[c], rfl, hb, h, Nat.le_refl _, by decide, by simp, by simp⟩⟩
theorem IRel.next {w wr w' : World} {n : Int} {q m : Nat} {l : Str} {v u : Value} (h : IRel w n q l m v wr) (hq : q ≠ 0) (hr : w'.ownsRow w.heap.size 5 1 u (1 + m) (.int .u8 (128 + ((q % 128 : Nat) : Int)) :: l.map encB)) (hf : Fr (fun _ => False) w w') :
  IRel w n (q / 128) (UInt8.ofNat (128 + q % 128) :: l) (1 + m) u w' := by
 refine ⟨?_, ?_, by omega, ?_, hf⟩
 ·rw [← h.eq, natHi_pos hq, List.append_assoc]; rfl
 ·rw [List.length_cons, h.len]; omega
 ·have e : encB (UInt8.ofNat (128 + q % 128)) = .int .u8 (128 + ((q % 128 : Nat) : Int)) := by unfold encB; rw [byte_hi]; rfl
  rw [List.map_cons, e]; exact hr
theorem bytes_string {w : World} {base g m cap : Nat} {l : Str} (h : w.ownsRow base 5 1 (.slice (some ⟨g, 0, none⟩) m cap) m (l.map encB)) (hm : m = l.length) : Sem.run Tryz.prog (convert 33 9 (.slice (some ⟨g, 0, none⟩) m cap)) w = .ok (.string (bs l)) w := by
 subst hm
 refine run_convert_bytes_back _ 33 9 5 ⟨g, 0, none⟩ cap l Tryz.underlying33 Tryz.underlying5 Tryz.underlying9 fun j hj => ?_
 refine h.cells (g := g) rfl j _ ?_
 rw [List.getElem?_map, List.getElem?_eq_getElem hj]; rfl
set_option maxRecDepth 100000 in
set_option maxHeartbeats 8000000 in
theorem rint_h {w : World} {n : Int} (hn : I64 n) : Calls Tryz.prog 117 #[.int .i64 n] w fun e w' => e = .returned (.string (bs (intL n))) ∧ Fr (fun _ => False) w w' := by
 have HN := Lib.hid (rnat_h (w := w) hn)
 have hz := zig_lt hn
 have hl10 := intL_len hn
 obtain ⟨i0, hi, hz0, hz1, hz2⟩ := info_parts info5
 obtain ⟨z, hzz⟩ : ∃ z, zig n = z := ⟨_, rfl⟩
 rw [hzz] at HN hz
 have hst : natHi (z / 128) ++ [UInt8.ofNat (z % 128)] = intL n := by unfold intL; rw [hzz]; rfl
 obtain ⟨r, hr⟩ : ∃ r, z % 128 = r := ⟨_, rfl⟩
 have hrl : r < 128 := by omega
 have hmr : (z : Int) % 128 = (r : Int) := by omega
 have hwr : IntKind.u8.wrap (r : Int) = (r : Int) := by rw [IntKind.wrap_u8]; omega
 have HRL : Hid (IRel w n (z / 128) [UInt8.ofNat r] 1 (.slice (some ⟨w.heap.size, 0, none⟩) 1 1) (w.alloc (.cells #[.int .u8 (r : Int)] 5))) := by
  refine ⟨by rw [← hr]; exact hst, rfl, by decide, ?_, (Fr.refl _ _).alloc _⟩
  have e : encB (UInt8.ofNat r) = .int .u8 (r : Int) := by unfold encB; rw [← hr, byte_lo]
  rw [List.map_cons, List.map_nil, e]
  exact row_one (block_new _ _) (Nat.le_refl _)
 have hz128 : z / 128 < 18446744073709551616 := by omega
 clear hst hr hn hzz
 go_enter Tryz.func117, Tryz.ntmps117
 go_wp2_with fail
 refine Calls.mono HN.out ?_
 rintro e w1 ⟨rfl, hw1⟩
 subst hw1
 clear HN
 go_wp2_with fail
 clear hmr hwr
 go_loopg [3, 4] (z / 128) (fun j v3 v4 wr => ∃ (l : Str) (m : Nat), v3 = .int .u64 (j : Int) ∧ j < 18446744073709551616 ∧ Hid (IRel w n j l m v4 wr))
 case atStart => exact ⟨_, _, by go_num, hz128, HRL.out⟩
 case round =>
  obtain ⟨l, m, rfl, hjl, HI⟩ := hrel
  clear hz hrl hz128 HRL
  have hm10 : m ≤ 10 := by
   have h1 := congrArg List.length HI.out.eq
   rw [List.length_append] at h1
   have h2 := HI.out.len
   omega
  have hmp := HI.out.pos
  obtain ⟨g, gc, rfl, hgb, hnc, hcm⟩ := ownsRow_form HI.out.row hmp
  have hgl := (HI.out.row.lt g rfl).2
  by_cases hq : 0 < gk
  ·obtain ⟨r, hr⟩ : ∃ r, gk % 128 = r := ⟨_, rfl⟩
   have hrl : r < 128 := by omega
   have hmr : (gk : Int) % 128 = (r : Int) := by omega
   have hw1 : IntKind.u64.wrap (128 + (r : Int)) = 128 + (r : Int) := by rw [IntKind.wrap_u64]; omega
   have hw2 : IntKind.u8.wrap (128 + (r : Int)) = 128 + (r : Int) := by rw [IntKind.wrap_u8]; omega
   have HR := Lib.hid hr
   have hqi : (0 : Int) < (gk : Int) := by omega
   clear hr
   go_wp2_with (at_builtin; refine wpList_append_shape rfl _ _ 33 rfl w.heap.size 5 i0 (.int .u8 0) 1 1 Tryz.underlying33 hi hz0 hz1 hz2 rfl (by decide) _ 1 [.int .u8 (128 + (r : Int))] rfl (row_one (block_new _ _) (HI.out.fr.size)) ⟨g, 0, none⟩ m gc (l.map encB) rfl (by rw [List.length_map, HI.out.len, Nat.mul_one]) ?c2 ?c3 ?c4 ?c5 ?c6 (by omega) ?_)
   case c2 =>
    intro j u hu
    exact (HI.out.row.alloc _).cells (g := g) rfl j u hu
   case c3 => intro u hu; obtain ⟨c, _, rfl⟩ := List.mem_map.1 hu; rfl
   case c4 => unfold maxLen; omega
   case c5 => omega
   case c6 => have := HI.out.fr.size; simp; omega
   intro g2 cap w3 hown3 hg3 _
   have hgk : ∀ k, (Value.slice (some ⟨wr.heap.size, 0, none⟩) 1 1).ownBlock = some k → w.heap.size ≤ k := by
    intro k hk
    obtain rfl : wr.heap.size = k := by simpa [Value.ownBlock] using hk
    exact HI.out.fr.size
   have hfr3 : Fr (fun _ => False) w w3 := (HI.out.fr.alloc (.cells #[.int .u8 (128 + (r : Int))] 5)).grown hg3 fun k hk => .inr (hgk k hk)
   have HI3 := Lib.hid (HI.out.next (by omega) (by rw [HR.out]; exact hown3) hfr3)
   clear hown3 hg3 hfr3
   go_wp2_with fail
   go_roundg (gk / 128)
   case measure => omega
   case rel => exact ⟨_, _, by go_num, by omega, HI3.out⟩
  ·obtain rfl : gk = 0 := by omega
   have hle : l = intL n := by
    have h := HI.out.eq
    rwa [natHi_zero, List.nil_append] at h
   have hcv := bytes_string HI.out.row HI.out.len
   rw [hle] at hcv
   have HF := Lib.hid HI.out.fr
   clear hle hq HI
   go_wp2_with fail
   go_ret
   exact ⟨rfl, HF.out⟩
set_option maxRecDepth 100000 in
set_option maxHeartbeats 4000000 in
theorem rframe_h {w : World} (s : Str) (hs : s.length ≤ 1000000) : Calls Tryz.prog 118 #[.string (bs s)] w fun e w' => e = .returned (.tuple #[.string (bs (frameD s).1), .int .i64 (frameD s).2]) ∧ Fr (fun _ => False) w w' := by
 have hsz : (bs s).size = s.length := rfl
 by_cases hl : 65536 < s.length
 ·have hli : (65536 : Int) < (s.length : Int) := by omega
  have HE := Lib.hid (show frameD s = ([], 10) from if_neg (by omega))
  clear hl
  go_enter Tryz.func118, Tryz.ntmps118
  go_wp2_with fail
  go_ret2
  exact ⟨by rw [HE.out] <;> rfl, Fr.refl _ _⟩
 have hli : ¬ (65536 : Int) < (s.length : Int) := by omega
 have HE := Lib.hid (show frameD s = (frameL s, 0) from if_pos (by omega))
 have hw : IntKind.u32.wrap (s.length : Int) = (s.length : Int) := by rw [IntKind.wrap_u32]; omega
 have H1 := Lib.hid (rfour_h (w := w) s.length (by omega))
 have h4 : (fourL s.length).length = 4 := rfl
 have hfr : frameL s = (fourL s.length ++ fourL (crcL (fourL s.length ++ s))) ++ s := rfl
 obtain ⟨n4, hn4⟩ : ∃ n4, fourL s.length = n4 := ⟨_, rfl⟩
 rw [hn4] at H1 h4 hfr
 obtain ⟨x, hx⟩ : ∃ x, n4 ++ s = x := ⟨_, rfl⟩
 have hxl : x.length = 4 + s.length := by rw [← hx, List.length_append, h4]
 rw [hx] at hfr
 have H2 := Lib.hid (fun (W : World) => rcrc_h (w := W) x (by omega))
 have hcl := crc_lt x
 obtain ⟨cr, hcr⟩ : ∃ cr, crcL x = cr := ⟨_, rfl⟩
 rw [hcr] at H2 hcl hfr
 have H4 := Lib.hid (fun (W : World) => rfour_h (w := W) cr hcl)
 have hc4 : (fourL cr).length = 4 := rfl
 obtain ⟨c4, hc⟩ : ∃ c4, fourL cr = c4 := ⟨_, rfl⟩
 rw [hc] at H4 hfr hc4
 obtain ⟨p, hp⟩ : ∃ p, n4 ++ c4 = p := ⟨_, rfl⟩
 rw [hp] at hfr
 obtain ⟨q, hq⟩ : ∃ q, p ++ s = q := ⟨_, rfl⟩
 rw [hq] at hfr
 have hpl : p.length = 8 := by rw [← hp, List.length_append, h4, hc4]
 have hql : q.length = p.length + s.length := by rw [← hq, List.length_append]
 have s0 : ∀ w : World, (Op.stringOp .add (bs n4) (bs s)).run Tryz.prog w = .ok (.string (bs x)) w := fun w => sum_at w hx (by omega)
 have s1 : ∀ w : World, (Op.stringOp .add (bs n4) (bs c4)).run Tryz.prog w = .ok (.string (bs p)) w := fun w => sum_at w hp (by omega)
 have s2 : ∀ w : World, (Op.stringOp .add (bs p) (bs s)).run Tryz.prog w = .ok (.string (bs q)) w := fun w => sum_at w hq (by omega)
 have HFr := Lib.hid hfr
 clear hl hn4 hx hxl hcr hc hp hq hfr hcl h4 hc4 hpl hql
 go_enter Tryz.func118, Tryz.ntmps118
 go_wp2_with fail
 refine Calls.mono H1.out ?_
 rintro e w1 ⟨rfl, hF⟩
 have HF1 := Lib.hid hF
 clear hF
 go_wp2_with fail
 refine Calls.mono (H2.out _) ?_
 rintro e w2 ⟨rfl, hw2⟩
 subst hw2
 go_wp2_with fail
 refine Calls.mono (H4.out _) ?_
 rintro e w2 ⟨rfl, hF⟩
 have HF2 := Lib.hid (HF1.out.next hF)
 clear hF
 go_wp2_with fail
 go_ret2
 exact ⟨by rw [HE.out, HFr.out] <;> rfl, HF2.out⟩
end Go.Proofs.YtgmghopcppniaaaGreatDoor

/- The reference's Right: walked. -/
namespace Go.Proofs.YtgmghopcppniaaaGreatDoor
open Go.RowKit Go.Lib

end Go.Proofs.YtgmghopcppniaaaGreatDoor

/- The reference's frames of a base: walked. -/
namespace Go.Proofs.YtgmghopcppniaaaGreatDoor
open Go.RowKit Go.Lib

theorem rint_at {w : World} {n : Int} (hn : I64 n) {t : Str} (ht : intL n = t) : Calls Tryz.prog 117 #[.int .i64 n] w fun e w' => e = .returned (.string (bs t)) ∧ Fr (fun _ => False) w w' := by
 rw [← ht]; exact rint_h hn
theorem rframe_at {w : World} {s t : Str} (hs : s.length ≤ 65536) (ht : frameL s = t) : Calls Tryz.prog 118 #[.string (bs s)] w fun e w' => e = .returned (.tuple #[.string (bs t), .int .i64 0]) ∧ Fr (fun _ => False) w w' := by
 have h := rframe_h (w := w) s (by omega)
 rw [show frameD s = (frameL s, 0) from if_pos hs, ht] at h
 exact h
def FrPost (b : BaseD) (w : World) (e : Ending) (w' : World) : Prop := ∃ v, e = .returned v ∧ w'.ownsRow w.heap.size 9 1 v (payloadsL b).length (((payloadsL b).map frameL).map fun s => .string (bs s)) ∧ Fr (fun _ => False) w w'
/-- while the chunks are framed -/
structure FRel (w1 : World) (b : BaseD) (at' : Nat) (pre : List Str) (m : Nat) (v : Value) (wr : World) : Prop where
 all : pre ++ (chunksL (b.data.drop at')).map frameL = (payloadsL b).map frameL
 len : m = pre.length
 pos : 0 < m
 row : wr.ownsRow w1.heap.size 9 1 v m (pre.map fun s => .string (bs s))
 fr : Fr (fun _ => False) w1 wr
end Go.Proofs.YtgmghopcppniaaaGreatDoor

/- The reference's Pack: walked. -/
namespace Go.Proofs.YtgmghopcppniaaaGreatDoor
open Go.RowKit Go.Lib

/-- while the frames are put together -/
structure PkRel (w4 : World) (b : BaseD) (i : Nat) (l : Str) (v : Value) (wr : World) : Prop where
 all : l = ((payloadsL b).take i).flatMap frameL
 row : wr.ownsRow w4.heap.size 5 1 v l.length (l.map encB)
 fr : Fr (fun _ => False) w4 wr
def RPackPost (b : BaseD) (w : World) (e : Ending) (w' : World) : Prop := e = .returned (.tuple #[.string (bs (packD b).1), .int .i64 (packD b).2]) ∧ Fr (fun _ => False) w w'
end Go.Proofs.YtgmghopcppniaaaGreatDoor

/- The reference's ToInt: walked. -/
namespace Go.Proofs.YtgmghopcppniaaaGreatDoor
open Go.RowKit Go.Lib

def RToInt (s : Str) (w : World) (e : Ending) (w' : World) : Prop := e = .returned (.tuple #[.int .i64 (toIntD s).1.1, .string (bs (toIntD s).1.2), .bool (toIntD s).2]) ∧ Fr (fun _ => False) w w'
theorem rtoInt_no {s : Str} {w w' : World} (h : toIntL s = none) (hf : Fr (fun _ => False) w w') : RToInt s w (.returned (.tuple #[.int .i64 0, .string ⟨#[]⟩, .bool false])) w' := by
 unfold RToInt toIntD; rw [h]; exact ⟨rfl, hf⟩
theorem rtoInt_yes {s t : Str} {n : Int} {w w' : World} (h : toIntL s = some (n, t)) (hf : Fr (fun _ => False) w w') : RToInt s w (.returned (.tuple #[.int .i64 n, .string (bs t), .bool true])) w' := by
 unfold RToInt toIntD; rw [h]; exact ⟨rfl, hf⟩
theorem slice_from {w : World} (s : Str) {k : Nat} (hk : k ≤ s.length) {i : Int} (hi : i = (k : Int)) :
  (Instr.slice 9 (.string (bs s)) (some (.int .i64 i)) none none).run Tryz.prog w = .ok (.string (bs (s.drop k))) w := by
 subst hi
 rw [run_slice_string_from_if w 9 (bs s) .i64 (k : Int) Tryz.underlying9, if_pos ⟨by omega, by rw [bs_size]; omega⟩]
 have := bs_mid s k s.length
 rw [List.take_length] at this
 rw [← this]; rfl
theorem slice_to' {w : World} (s : Str) {k : Nat} (hk : k ≤ s.length) {i : Int} (hi : i = (k : Int)) :
  (Instr.slice 9 (.string (bs s)) none (some (.int .i64 i)) none).run Tryz.prog w = .ok (.string (bs (s.take k))) w := by
 subst hi
 rw [run_slice_string_to_if w 9 (bs s) .i64 (k : Int) Tryz.underlying9, if_pos ⟨by omega, by rw [bs_size]; omega⟩]
 have := bs_mid s 0 k
 simp only [List.drop_zero] at this
 rw [← this]; rfl
set_option maxRecDepth 100000 in
set_option maxHeartbeats 16000000 in
theorem rtoInt_h {w : World} (s : Str) (_hs : s.length ≤ 1000000) : Calls Tryz.prog 116 #[.string (bs s)] w (RToInt s w) := by
 have hsz : (bs s).size = s.length := rfl
 go_enter Tryz.func116, Tryz.ntmps116
 go_wp2_with fail
 go_loopg [5, 6] 10 (fun j v5 v6 wr => ∃ i v : Nat, i + j = 10 ∧ v5 = .int .u64 (v : Int) ∧ v6 = .int .i64 (i : Int) ∧ v < 18446744073709551616 ∧ Hid (RAt s i v) ∧ w = wr)
 case atStart => exact ⟨0, 0, by omega, rfl, rfl, by omega, RAt.start s, rfl⟩
 case round =>
  obtain ⟨i, v, hij, rfl, rfl, hv, HR, hw⟩ := hrel
  subst hw
  have HX := Lib.hid hij
  have hi10 : i ≤ 10 := by omega
  clear hij
  by_cases hlt : i < s.length
  ·have hli : (i : Int) < s.length := by omega
   by_cases ht : i < 10
   ·have hti : (i : Int) < 10 := by omega
    have hz : i < (bs s).size := hlt
    have hg := bs_at s i hz
    obtain ⟨c, hc⟩ : ∃ c, s.getD i 0 = c := ⟨_, rfl⟩
    rw [hc] at hg
    have hcl := c.toNat_lt
    obtain ⟨r, hr⟩ : ∃ r, c.toNat % 128 = r := ⟨_, rfl⟩
    have hri : (c.toNat : Int) % 128 = (r : Int) := by omega
    have hrl : r < 128 := by omega
    obtain ⟨a, ha⟩ : ∃ a, (128 * v) % 18446744073709551616 = a := ⟨_, rfl⟩
    have hw1 : IntKind.u64.wrap (128 * (v : Int)) = (a : Int) := by rw [IntKind.wrap_u64]; omega
    obtain ⟨v2, hv2⟩ : ∃ v2, (128 * v + r) % 18446744073709551616 = v2 := ⟨_, rfl⟩
    have hw2 : IntKind.u64.wrap ((a : Int) + (r : Int)) = (v2 : Int) := by rw [IntKind.wrap_u64]; omega
    have hwr : IntKind.u64.wrap (r : Int) = (r : Int) := by rw [IntKind.wrap_u64]; omega
    have hv2l : v2 < 18446744073709551616 := by omega
    by_cases hbig : 128 ≤ c.toNat
    ·have HM := HR.out.more hlt ht hc hbig
     rw [hr, hv2] at HM
     have HM2 := Lib.hid HM
     have hbi : (128 : Int) ≤ (c.toNat : Int) := by omega
     clear hc hr ha hv2 HM
     go_wp2_with fail
     go_roundg (10 - (i + 1))
     case measure => have := HX.out; omega
     case rel => exact ⟨i + 1, v2, by omega, rfl, by go_num, hv2l, HM2, rfl⟩
    ·have hbi : ¬ (128 : Int) ≤ (c.toNat : Int) := by omega
     have hv3 : (128 * v + c.toNat) % 18446744073709551616 = v2 := by rw [← hv2, ← hr]; omega
     have hn : unzig v2 = unzig v2 := rfl
     have HNO := Lib.hid (show intL (unzig v2) ≠ s.take (i + 1) → toIntL s = none from fun hne => HR.out.no hlt hc (by omega) (by rw [hv3]; exact hne))
     have HYES := Lib.hid (HR.out.yes (unzig_in hv2l))
     have HC := Lib.hid hc
     have hvd : v2 / 2 < 9223372036854775808 := by omega
     obtain ⟨q, hq⟩ : ∃ q, v2 / 2 = q := ⟨_, rfl⟩
     have hqi : (v2 : Int) / 2 = (q : Int) := by omega
     have hwq : IntKind.i64.wrap (q : Int) = (q : Int) := IntWalk.i64_in _ (by omega)
     have hw3 : IntKind.i64.wrap ((i : Int) + 1) = (i : Int) + 1 := IntWalk.i64_in _ (by omega)
     have st := fun (W : World) => slice_to' (w := W) s (k := i + 1) hlt (i := (i : Int) + 1) (by omega)
     have sf := fun (W : World) => slice_from (w := W) s (k := i + 1) hlt (i := (i : Int) + 1) (by omega)
     have hnI := unzig_in hv2l
     rcases Nat.mod_two_eq_zero_or_one v2 with h2 | h2
     ·have hm2 : (v2 : Int) % 2 = 0 := by omega
      have hun : unzig v2 = (q : Int) := by unfold unzig; rw [if_pos h2, hq]
      rw [hun] at HNO HYES hnI
      have HNI := Lib.hid hnI
      clear hc hr ha hv2 hv3 hn h2 hq hun hnI
      go_wp2_with fail
      obtain ⟨t, htt⟩ : ∃ t, s.take (i + 1) = t := ⟨_, rfl⟩
      rw [htt] at HNO HYES st
      by_cases he : intL ((q : Int)) = t
      ·have HI := Lib.hid (fun (W : World) => rint_at (w := W) HNI.out he)
       have HY := Lib.hid (HYES.out he)
       clear htt he
       go_cut [45] (fun s45 wx => Hid (s45 = .bool false ∧ Fr (fun _ => False) w wx))
       case first =>
        go_region_held (fun _ => True)
         (trivial)
         (first
          | (go_at_call 117; (with_reducible refine Calls.mono (HI.out _) ?_); rintro e wA ⟨rfl, hq⟩; have fA := (show Fr (fun _ => False) w _ by repeat (first | exact Fr.refl _ _ | refine Fr.drew ?_)).next hq; clear hq)
          | fail)
        all_goals
         go_wp2_with fail
         go_meet
         exact ⟨by first | rfl | simp, by first | exact fA | exact fA.drew⟩
       case rest =>
        obtain ⟨rfl, hf⟩ := hcut.out
        have HF := Lib.hid hf
        clear hf hcut
        go_wp2_with fail
        go_big_quiet (fail)
        go_wp2_with fail
        go_ret3
        exact rtoInt_yes HY.out (HF.out.drewN _)
      ·have hne : ¬ intL ((q : Int)) = t := he
       have HE := Lib.hid (HNO.out he)
       obtain ⟨u, hu⟩ : ∃ u, intL ((q : Int)) = u := ⟨_, rfl⟩
       have HI := Lib.hid (fun (W : World) => rint_at (w := W) HNI.out hu)
       rw [hu] at hne
       have n1 : ((bs u).toList != (bs t).toList) = true := by rw [bs_toList, bs_toList]; simpa using hne
       have n2 : ¬ (bs u).toList = (bs t).toList := by rw [bs_toList, bs_toList]; exact hne
       have n3 : decide (bs u = bs t) = false := decide_eq_false fun e => hne (bs_inj e)
       clear htt he hne hu
       go_cut [45] (fun s45 wx => Hid (s45 = .bool true ∧ Fr (fun _ => False) w wx))
       case first =>
        go_region_held (fun _ => True)
         (trivial)
         (first
          | (go_at_call 117; (with_reducible refine Calls.mono (HI.out _) ?_); rintro e wA ⟨rfl, hq⟩; have fA := (show Fr (fun _ => False) w _ by repeat (first | exact Fr.refl _ _ | refine Fr.drew ?_)).next hq; clear hq)
          | fail)
        all_goals
         go_wp2_with fail
         go_meet
         exact ⟨by first | rfl | simp [*], by first | exact fA | exact fA.drew⟩
       case rest =>
        obtain ⟨rfl, hf⟩ := hcut.out
        have HF := Lib.hid hf
        clear hf hcut
        go_wp2_with fail
        go_ret3
        exact rtoInt_no HE.out HF.out
     ·have hm2 : (v2 : Int) % 2 = 1 := by omega
      have hun : unzig v2 = -(q : Int) - 1 := by unfold unzig; rw [if_neg (by omega), hq]
      have hwn : IntKind.i64.wrap (-(q : Int)) = -(q : Int) := IntWalk.i64_in _ (by omega)
      obtain ⟨n, hnn⟩ : ∃ n, -(q : Int) - 1 = n := ⟨_, rfl⟩
      have hwn2 : IntKind.i64.wrap (-(q : Int) - 1) = n := by rw [← hnn]; exact IntWalk.i64_in _ (by omega)
      rw [hun, hnn] at HNO HYES hnI
      clear hnn
      have HNI := Lib.hid hnI
      clear hc hr ha hv2 hv3 hn h2 hq hun hnI
      go_wp2_with fail
      obtain ⟨t, htt⟩ : ∃ t, s.take (i + 1) = t := ⟨_, rfl⟩
      rw [htt] at HNO HYES st
      by_cases he : intL (n) = t
      ·have HI := Lib.hid (fun (W : World) => rint_at (w := W) HNI.out he)
       have HY := Lib.hid (HYES.out he)
       clear htt he
       go_cut [45] (fun s45 wx => Hid (s45 = .bool false ∧ Fr (fun _ => False) w wx))
       case first =>
        go_region_held (fun _ => True)
         (trivial)
         (first
          | (go_at_call 117; (with_reducible refine Calls.mono (HI.out _) ?_); rintro e wA ⟨rfl, hq⟩; have fA := (show Fr (fun _ => False) w _ by repeat (first | exact Fr.refl _ _ | refine Fr.drew ?_)).next hq; clear hq)
          | fail)
        all_goals
         go_wp2_with fail
         go_meet
         exact ⟨by first | rfl | simp, by first | exact fA | exact fA.drew⟩
       case rest =>
        obtain ⟨rfl, hf⟩ := hcut.out
        have HF := Lib.hid hf
        clear hf hcut
        go_wp2_with fail
        go_big_quiet (fail)
        go_wp2_with fail
        go_ret3
        exact rtoInt_yes HY.out (HF.out.drewN _)
      ·have hne : ¬ intL (n) = t := he
       have HE := Lib.hid (HNO.out he)
       obtain ⟨u, hu⟩ : ∃ u, intL (n) = u := ⟨_, rfl⟩
       have HI := Lib.hid (fun (W : World) => rint_at (w := W) HNI.out hu)
       rw [hu] at hne
       have n1 : ((bs u).toList != (bs t).toList) = true := by rw [bs_toList, bs_toList]; simpa using hne
       have n2 : ¬ (bs u).toList = (bs t).toList := by rw [bs_toList, bs_toList]; exact hne
       have n3 : decide (bs u = bs t) = false := decide_eq_false fun e => hne (bs_inj e)
       clear htt he hne hu
       go_cut [45] (fun s45 wx => Hid (s45 = .bool true ∧ Fr (fun _ => False) w wx))
       case first =>
        go_region_held (fun _ => True)
         (trivial)
         (first
          | (go_at_call 117; (with_reducible refine Calls.mono (HI.out _) ?_); rintro e wA ⟨rfl, hq⟩; have fA := (show Fr (fun _ => False) w _ by repeat (first | exact Fr.refl _ _ | refine Fr.drew ?_)).next hq; clear hq)
          | fail)
        all_goals
         go_wp2_with fail
         go_meet
         exact ⟨by first | rfl | simp [*], by first | exact fA | exact fA.drew⟩
       case rest =>
        obtain ⟨rfl, hf⟩ := hcut.out
        have HF := Lib.hid hf
        clear hf hcut
        go_wp2_with fail
        go_ret3
        exact rtoInt_no HE.out HF.out
   ·have hti : ¬ (i : Int) < 10 := by omega
    have HE := Lib.hid (HR.out.out (.inl (by omega)))
    go_wp2_with fail
    go_ret3
    exact rtoInt_no HE.out (Fr.refl _ _)
  ·have hli : ¬ (i : Int) < s.length := by omega
   have HE := Lib.hid (HR.out.out (.inr (by have := HR.out.le; omega)))
   go_wp2_with fail
   go_ret3
   exact rtoInt_no HE.out (Fr.refl _ _)
end Go.Proofs.YtgmghopcppniaaaGreatDoor

/- The reference's Unframe: walked. -/
namespace Go.Proofs.YtgmghopcppniaaaGreatDoor
open Go.RowKit Go.Lib

def fold4 (s : Str) : Nat := s.foldl (fun a c => 256 * a + c.toNat) 0
theorem fold4_snoc (s : Str) (c : UInt8) : fold4 (s ++ [c]) = 256 * fold4 s + c.toNat := by unfold fold4; rw [List.foldl_append]; rfl
theorem fold4_lt (s : Str) : ∀ i, i ≤ 4 → fold4 (s.take i) < 4294967296 := by
 intro i hi
 match s, i, hi with
 | _, 0, _ => simp [fold4]
 | [], _, _ => simp [fold4]
 | [a], 1, _ => have := a.toNat_lt; simp [fold4]; omega
 | [a], n + 2, _ => have := a.toNat_lt; simp [fold4]; omega
 | a :: b :: s, 1, _ => have := a.toNat_lt; simp [fold4]; omega
 | [a, b], n + 2, _ => have := a.toNat_lt; have := b.toNat_lt; simp [fold4]; omega
 | a :: b :: c :: s, 2, _ => have := a.toNat_lt; have := b.toNat_lt; simp [fold4]; omega
 | [a, b, c], n + 3, _ => have := a.toNat_lt; have := b.toNat_lt; have := c.toNat_lt; simp [fold4]; omega
 | a :: b :: c :: d :: s, 3, _ => have := a.toNat_lt; have := b.toNat_lt; have := c.toNat_lt; simp [fold4]; omega
 | a :: b :: c :: d :: s, 4, _ => have := a.toNat_lt; have := b.toNat_lt; have := c.toNat_lt; have := d.toNat_lt; simp [fold4]; omega
theorem fold4_four {s : Str} (h : 4 ≤ s.length) : fold4 (s.take 4) = fourN s := by
 match s, h with
 | a :: b :: c :: d :: s, _ => simp [fold4, fourN]; omega
theorem four_is {s : Str} (h : 4 ≤ s.length) : fourL (fourN s) = s.take 4 := by
 match s, h with
 | a :: b :: c :: d :: s, _ => rw [four_of]; rfl
theorem frame_mid {s t : Str} (h4 : 4 ≤ s.length) (h2 : 8 + fourN s ≤ s.length) (ht : (s.take (8 + fourN s)).drop 8 = t) : frameL t = s.take (8 + fourN s) ↔ fourL (crcL (s.take 4 ++ t)) = (s.take 8).drop 4 := by
 have hl : t.length = fourN s := by rw [← ht, List.length_drop, List.length_take]; omega
 have e : s.take (8 + fourN s) = (s.take 4 ++ (s.take 8).drop 4) ++ t := by
  rw [← ht]
  have h1 : s.take 4 ++ (s.take 8).drop 4 = s.take 8 := by
   have := List.take_append_drop 4 (s.take 8)
   rwa [List.take_take, show min 4 8 = 4 from rfl] at this
  have h3 := List.take_append_drop 8 (s.take (8 + fourN s))
  rw [List.take_take, show min 8 (8 + fourN s) = 8 by omega] at h3
  rw [h1, h3]
 have ef : frameL t = (s.take 4 ++ fourL (crcL (s.take 4 ++ t))) ++ t := by
  show (fourL t.length ++ fourL (crcL (fourL t.length ++ t))) ++ t = _
  rw [hl, four_is h4]
 rw [e, ef]
 constructor
 ·intro h
  exact List.append_cancel_left (List.append_cancel_right h)
 ·intro h; rw [h]
set_option maxRecDepth 100000 in
set_option maxHeartbeats 16000000 in
theorem runframe_h {w : World} (s : Str) (hs : s.length ≤ 1000000) : Calls Tryz.prog 115 #[.string (bs s)] w (UnfPost s w) := by
 have hsz : (bs s).size = s.length := rfl
 by_cases h4 : s.length < 4
 ·have h4i : (s.length : Int) < 4 := by omega
  have HE := Lib.hid (unf_err (show unframeL s = .error 8 from if_pos h4))
  clear h4
  go_enter Tryz.func115, Tryz.ntmps115
  go_wp2_with fail
  go_ret3
  exact unf_empty HE.out (Fr.refl _ _)
 ·have h4i : ¬ (s.length : Int) < 4 := by omega
  have H4 := Lib.hid h4
  clear h4
  go_enter Tryz.func115, Tryz.ntmps115
  go_wp2_with fail
  go_loopg [5, 6] 4 (fun j v5 v6 wr => ∃ (i m : Nat), i + j = 4 ∧ v6 = .int .i64 (i : Int) ∧ v5 = .int .i64 (m : Int) ∧ Hid (m = fold4 (s.take i)) ∧ m < 4294967296 ∧ w = wr)
  case atStart => exact ⟨0, 0, by omega, rfl, rfl, by show _ = _; simp [fold4], by omega, rfl⟩
  case round =>
   obtain ⟨i, m, hij, rfl, rfl, HM, hml, hw⟩ := hrel
   subst hw
   have HX := Lib.hid hij
   by_cases hi : i < 4
   ·have hii : (i : Int) < 4 := by omega
    have hlt : i < s.length := by have := H4.out; omega
    have hz : i < (bs s).size := hlt
    have hg := bs_at s i hz
    have hli : (i : Int) < s.length := by omega
    obtain ⟨c, hc⟩ : ∃ c, s.getD i 0 = c := ⟨_, rfl⟩
    rw [hc] at hg
    have hcl := c.toNat_lt
    have hM2 : 256 * m + c.toNat = fold4 (s.take (i + 1)) := by rw [take_snoc hlt hc, fold4_snoc, HM.out]
    have hM3 := fold4_lt s (i + 1) (by omega)
    rw [← hM2] at hM3
    have HM2 := Lib.hid hM2
    have hw1 : IntKind.i64.wrap (256 * (m : Int)) = 256 * (m : Int) := IntWalk.i64_in _ (by omega)
    have hw2 : IntKind.i64.wrap (256 * (m : Int) + (c.toNat : Int)) = 256 * (m : Int) + (c.toNat : Int) := IntWalk.i64_in _ (by omega)
    have hw3 : IntKind.i64.wrap (c.toNat : Int) = (c.toNat : Int) := IntWalk.i64_in _ (by omega)
    clear hc hM2 hij
    go_wp2_with fail
    go_roundg (4 - (i + 1))
    case measure => have := HX.out; omega
    case rel => exact ⟨i + 1, 256 * m + c.toNat, by omega, by go_num, by go_num, HM2, hM3, rfl⟩
   ·obtain rfl : i = 4 := by omega
    have hm : m = fourN s := by rw [HM.out, fold4_four (by have := H4.out; omega)]
    have HN := Lib.hid hm
    clear hm hij hi
    by_cases hb : 65536 < m
    ·have hbi : (65536 : Int) < (m : Int) := by omega
     have HE := Lib.hid (unf_err (un_long H4.out (by rw [← HN.out]; exact hb)))
     clear hb
     go_wp2_with fail
     go_ret3
     exact unf_empty HE.out (Fr.refl _ _)
    ·have hbi : ¬ (65536 : Int) < (m : Int) := by omega
     have hw1 : IntKind.i64.wrap (8 + (m : Int)) = 8 + (m : Int) := IntWalk.i64_in _ (by omega)
     by_cases hc : s.length < 8 + m
     ·have hci : (s.length : Int) < 8 + (m : Int) := by omega
      have HE := Lib.hid (unf_err (un_cut H4.out (by rw [← HN.out]; exact hb) (by rw [← HN.out]; exact hc)))
      clear hb hc
      go_wp2_with fail
      go_ret3
      exact unf_empty HE.out (Fr.refl _ _)
     ·have hci : ¬ (s.length : Int) < 8 + (m : Int) := by omega
      obtain ⟨t, ht⟩ : ∃ t, (s.take (8 + m)).drop 8 = t := ⟨_, rfl⟩
      obtain ⟨h, hh⟩ : ∃ h, s.take 4 = h := ⟨_, rfl⟩
      obtain ⟨md, hmd⟩ : ∃ x, (s.take 8).drop 4 = x := ⟨_, rfl⟩
      obtain ⟨x, hx⟩ : ∃ x, h ++ t = x := ⟨_, rfl⟩
      have hxl : x.length ≤ 100000 := by rw [← hx, ← hh, ← ht, List.length_append, List.length_take, List.length_drop, List.length_take]; omega
      obtain ⟨cr, hcr⟩ : ∃ x', crcL x = x' := ⟨_, rfl⟩
      obtain ⟨c4, hc4⟩ : ∃ x', fourL cr = x' := ⟨_, rfl⟩
      have HMID := frame_mid (s := s) (t := t) (by have := H4.out; omega) (by rw [← HN.out]; omega) (by rw [← HN.out]; exact ht)
      rw [hh, hmd, hx, hcr, hc4] at HMID
      have HMD := Lib.hid HMID
      have HUS := Lib.hid (fun hne => unf_err (un_sum (t := t) H4.out (by rw [← HN.out]; exact hb) (by rw [← HN.out]; exact hc) (by rw [← HN.out]; exact ht) hne))
      have HUD := Lib.hid (fun heq => unf_ok (un_done (t := t) H4.out (by rw [← HN.out]; exact hb) (by rw [← HN.out]; exact hc) (by rw [← HN.out]; exact ht) heq))
      have hcl : cr < 4294967296 := by rw [← hcr]; exact crc_lt x
      have HC := Lib.hid (fun (W : World) => (rcrc_h (w := W) x (by omega)).mono (R' := fun e w' => e = .returned (.int .u32 (cr : Int)) ∧ W = w') (by rintro e w' ⟨rfl, h⟩; exact ⟨by rw [hcr], h⟩))
      have HF := Lib.hid (fun (W : World) => (rfour_h (w := W) cr hcl).mono (R' := fun e w' => e = .returned (.string (bs c4)) ∧ Fr (fun _ => False) W w') (by rintro e w' ⟨rfl, h⟩; exact ⟨by rw [hc4], h⟩))
      have e1 := fun (W : World) => slice_run (w := W) s (i := 4) (j := 8) (a := 4) (b := 8) rfl rfl (by omega) (by omega)
      have e2 := fun (W : World) => slice_to' (w := W) s (k := 4) (by omega) (i := 4) rfl
      have e3 := fun (W : World) => slice_run (w := W) s (i := 8) (j := 8 + (m : Int)) (a := 8) (b := 8 + m) rfl (by omega) (by omega) (by omega)
      rw [hmd] at e1
      rw [hh] at e2
      rw [ht] at e3
      have e4 := fun (W : World) => sum_at W (a := h) (b := t) hx (by omega)
      clear hb hc ht hh hmd hx hxl hcr hc4 HMID
      go_upto_region 12 with fail
      by_cases he : c4 = md
      ·subst he
       have HOK := Lib.hid (HUD.out (HMD.out.2 rfl))
       rw [← HN.out] at HOK
       go_cut [39] (fun s39 wx => Hid (s39 = .bool false ∧ Fr (fun _ => False) w wx))
       case first =>
        go_region_held (fun _ => True)
         (trivial)
         (first
          | (go_at_call 152; (with_reducible refine Calls.mono (HC.out _) ?_); clear HC; rintro e wA ⟨rfl, hq⟩; subst hq)
          | (go_at_call 151; (with_reducible refine Calls.mono (HF.out _) ?_); clear HF; rintro e wB ⟨rfl, hq⟩; have fB := (show Fr (fun _ => False) w _ by repeat (first | exact Fr.refl _ _ | refine Fr.drew ?_)).next hq; clear hq)
          | fail)
        all_goals
         go_wp2_with fail
         go_meet
         exact ⟨by first | rfl | simp [*], by first | exact fB | exact fB.drew⟩
       case rest =>
        obtain ⟨rfl, hf⟩ := hcut.out
        have HF := Lib.hid hf
        clear hf hcut e1 e2 e4
        go_wp2_with fail
        go_ret3
        exact unf_post (by rw [HOK.out]; first | rfl | (congr 1)) HF.out
      ·have HE := Lib.hid (HUS.out (fun h => he (HMD.out.1 h)))
       have n1 : ((bs md).toList != (bs c4).toList) = true := by rw [bs_toList, bs_toList]; simpa using fun h : md = c4 => he h.symm
       have n2 : ¬ (bs md).toList = (bs c4).toList := by rw [bs_toList, bs_toList]; exact fun h => he h.symm
       clear he
       go_cut [39] (fun s39 wx => Hid (s39 = .bool true ∧ Fr (fun _ => False) w wx))
       case first =>
        go_region_held (fun _ => True)
         (trivial)
         (first
          | (go_at_call 152; (with_reducible refine Calls.mono (HC.out _) ?_); clear HC; rintro e wA ⟨rfl, hq⟩; subst hq)
          | (go_at_call 151; (with_reducible refine Calls.mono (HF.out _) ?_); clear HF; rintro e wB ⟨rfl, hq⟩; have fB := (show Fr (fun _ => False) w _ by repeat (first | exact Fr.refl _ _ | refine Fr.drew ?_)).next hq; clear hq)
          | fail)
        all_goals
         go_wp2_with fail
         go_meet
         exact ⟨by first | rfl | simp [*], by first | exact fB | exact fB.drew⟩
       case rest =>
        obtain ⟨rfl, hf⟩ := hcut.out
        have HF := Lib.hid hf
        clear hf hcut
        go_wp2_with fail
        go_ret3
        exact unf_empty HE.out HF.out
end Go.Proofs.YtgmghopcppniaaaGreatDoor

/- The reference's unframe (the long frames' error told as a form's): walked. -/
namespace Go.Proofs.YtgmghopcppniaaaGreatDoor
open Go.RowKit Go.Lib

def unf3D (s : Str) : (Str × Int) × Int := ((unfD s).1, if (unfD s).2 = 10 then 8 else (unfD s).2)
def Unf3Post (s : Str) (w : World) (e : Ending) (w' : World) : Prop := e = .returned (.tuple #[.string (bs (unf3D s).1.1), .int .i64 (unf3D s).1.2, .int .i64 (unf3D s).2]) ∧ Fr (fun _ => False) w w'
end Go.Proofs.YtgmghopcppniaaaGreatDoor

/- The reference's head: walked. -/
namespace Go.Proofs.YtgmghopcppniaaaGreatDoor
open Go.RowKit Go.Lib

end Go.Proofs.YtgmghopcppniaaaGreatDoor

/- The reference's Unpack: walked. -/
namespace Go.Proofs.YtgmghopcppniaaaGreatDoor
open Go.RowKit Go.Lib

/-- while the data are read -/
structure RVRel (w4 : World) (r : Str) (long : Int) (j : Nat) (d rest : Str) (v : Value) (wr : World) : Prop where
 data : dataF (r.length + 1) long [] r = dataF j long d rest
 row : wr.ownsRow w4.heap.size 5 1 v d.length (d.map encB)
 fr : Fr (fun _ => False) w4 wr
end Go.Proofs.YtgmghopcppniaaaGreatDoor
