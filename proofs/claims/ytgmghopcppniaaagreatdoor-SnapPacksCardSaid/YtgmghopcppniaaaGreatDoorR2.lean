/- The reference's Int and Frame: walked. -/
import Derived.Test.YtgmghopcppniaaaGreatDoorR1
import Derived.Test.YtgmghopcppniaaaGreatDoorS9
namespace Go.Proofs.YtgmghopcppniaaaGreatDoor
open Go.RowKit Go.Lib

def encB (c : UInt8) : Value := .int .u8 (c.toNat : Int)
structure IRel (w : World) (n : Int) (q : Nat) (l : Str) (m : Nat) (v : Value) (wr : World) : Prop where
  eq : natHi q ++ l = intL n
  len : m = l.length
  pos : 0 < m
  row : wr.ownsRow w.heap.size 5 1 v m (l.map encB)
  fr : Fr (fun _ => False) w wr
theorem row_one {w : World} {base g e : Nat} {c : Value} (h : w.heap[g]? = some (.cells #[c] e (0, 0))) (hb : base ≤ g) : w.ownsRow base e 1 (.slice (some ⟨g, 0, none⟩) 1 1) 1 [c] :=
  ⟨rfl, .inr ⟨g, 1, #[c], rfl, hb, h, Nat.le_refl _, by decide, by simp, by simp⟩⟩
theorem IRel.next {w wr w' : World} {n : Int} {q m : Nat} {l : Str} {v u : Value} (h : IRel w n q l m v wr) (hq : q ≠ 0) (hr : w'.ownsRow w.heap.size 5 1 u (1 + m) (.int .u8 (128 + ((q % 128 : Nat) : Int)) :: l.map encB)) (hf : Fr (fun _ => False) w w') :
    IRel w n (q / 128) (UInt8.ofNat (128 + q % 128) :: l) (1 + m) u w' := by
  refine ⟨?_, ?_, by omega, ?_, hf⟩
  · rw [← h.eq, natHi_pos hq, List.append_assoc]; rfl
  · rw [List.length_cons, h.len]; omega
  · have e : encB (UInt8.ofNat (128 + q % 128)) = .int .u8 (128 + ((q % 128 : Nat) : Int)) := by unfold encB; rw [byte_hi]; rfl
    rw [List.map_cons, e]; exact hr
theorem bytes_string {w : World} {base g m cap : Nat} {l : Str} (h : w.ownsRow base 5 1 (.slice (some ⟨g, 0, none⟩) m cap) m (l.map encB)) (hm : m = l.length) : Sem.run Tryz.prog (convert 33 9 (.slice (some ⟨g, 0, none⟩) m cap)) w = .ok (.string (bs l)) w := by
  subst hm
  refine run_convert_bytes_back _ 33 9 5 ⟨g, 0, none⟩ cap l Tryz.underlying33 Tryz.underlying5 Tryz.underlying9 fun j hj => ?_
  refine h.cells (g := g) rfl j _ ?_
  rw [List.getElem?_map, List.getElem?_eq_getElem hj]; rfl
set_option maxRecDepth 100000 in
set_option maxHeartbeats 8000000 in
theorem rint_h {w : World} {n : Int} (hn : I64 n) : Calls Tryz.prog 117 #[.int .i64 n] w fun e w' => e = .returned (.string (bs (intL n))) ∧ Fr (fun _ => False) w w' := by
  have HN := Lib.hid (rnat_h (w := w) hn)
  have hz := zig_lt hn
  have hl10 := intL_len hn
  obtain ⟨i0, hi, hz0, hz1, hz2⟩ := info_parts info5
  obtain ⟨z, hzz⟩ : ∃ z, zig n = z := ⟨_, rfl⟩
  rw [hzz] at HN hz
  have hst : natHi (z / 128) ++ [UInt8.ofNat (z % 128)] = intL n := by unfold intL; rw [hzz]; rfl
  obtain ⟨r, hr⟩ : ∃ r, z % 128 = r := ⟨_, rfl⟩
  have hrl : r < 128 := by omega
  have hmr : (z : Int) % 128 = (r : Int) := by omega
  have hwr : IntKind.u8.wrap (r : Int) = (r : Int) := by rw [IntKind.wrap_u8]; omega
  have HRL : Hid (IRel w n (z / 128) [UInt8.ofNat r] 1 (.slice (some ⟨w.heap.size, 0, none⟩) 1 1) (w.alloc (.cells #[.int .u8 (r : Int)] 5))) := by
    refine ⟨by rw [← hr]; exact hst, rfl, by decide, ?_, (Fr.refl _ _).alloc _⟩
    have e : encB (UInt8.ofNat r) = .int .u8 (r : Int) := by unfold encB; rw [← hr, byte_lo]
    rw [List.map_cons, List.map_nil, e]
    exact row_one (block_new _ _) (Nat.le_refl _)
  have hz128 : z / 128 < 18446744073709551616 := by omega
  clear hst hr hn hzz
  go_enter Tryz.func117, Tryz.ntmps117
  go_wp2_with fail
  refine Calls.mono HN.out ?_
  rintro e w1 ⟨rfl, hw1⟩
  subst hw1
  clear HN
  go_wp2_with fail
  clear hmr hwr
  go_loopg [3, 4] (z / 128) (fun j v3 v4 wr => ∃ (l : Str) (m : Nat), v3 = .int .u64 (j : Int) ∧ j < 18446744073709551616 ∧ Hid (IRel w n j l m v4 wr))
  case atStart => exact ⟨_, _, by go_num, hz128, HRL.out⟩
  case round =>
    obtain ⟨l, m, rfl, hjl, HI⟩ := hrel
    clear hz hrl hz128 HRL
    have hm10 : m ≤ 10 := by
      have h1 := congrArg List.length HI.out.eq
      rw [List.length_append] at h1
      have h2 := HI.out.len
      omega
    have hmp := HI.out.pos
    obtain ⟨g, gc, rfl, hgb, hnc, hcm⟩ := ownsRow_form HI.out.row hmp
    have hgl := (HI.out.row.lt g rfl).2
    by_cases hq : 0 < gk
    · obtain ⟨r, hr⟩ : ∃ r, gk % 128 = r := ⟨_, rfl⟩
      have hrl : r < 128 := by omega
      have hmr : (gk : Int) % 128 = (r : Int) := by omega
      have hw1 : IntKind.u64.wrap (128 + (r : Int)) = 128 + (r : Int) := by rw [IntKind.wrap_u64]; omega
      have hw2 : IntKind.u8.wrap (128 + (r : Int)) = 128 + (r : Int) := by rw [IntKind.wrap_u8]; omega
      have HR := Lib.hid hr
      have hqi : (0 : Int) < (gk : Int) := by omega
      clear hr
      go_wp2_with (at_builtin; refine wpList_append_shape rfl _ _ 33 rfl w.heap.size 5 i0 (.int .u8 0) 1 1 Tryz.underlying33 hi hz0 hz1 hz2 rfl (by decide) _ 1 [.int .u8 (128 + (r : Int))] rfl (row_one (block_new _ _) (HI.out.fr.size)) ⟨g, 0, none⟩ m gc (l.map encB) rfl (by rw [List.length_map, HI.out.len, Nat.mul_one]) ?c2 ?c3 ?c4 ?c5 ?c6 (by omega) ?_)
      case c2 =>
        intro j u hu
        exact (HI.out.row.alloc _).cells (g := g) rfl j u hu
      case c3 => intro u hu; obtain ⟨c, _, rfl⟩ := List.mem_map.1 hu; rfl
      case c4 => unfold maxLen; omega
      case c5 => omega
      case c6 => have := HI.out.fr.size; simp; omega
      intro g2 cap w3 hown3 hg3 _
      have hgk : ∀ k, (Value.slice (some ⟨wr.heap.size, 0, none⟩) 1 1).ownBlock = some k → w.heap.size ≤ k := by
        intro k hk
        obtain rfl : wr.heap.size = k := by simpa [Value.ownBlock] using hk
        exact HI.out.fr.size
      have hfr3 : Fr (fun _ => False) w w3 := (HI.out.fr.alloc (.cells #[.int .u8 (128 + (r : Int))] 5)).grown hg3 fun k hk => .inr (hgk k hk)
      have HI3 := Lib.hid (HI.out.next (by omega) (by rw [HR.out]; exact hown3) hfr3)
      clear hown3 hg3 hfr3
      go_wp2_with fail
      go_roundg (gk / 128)
      case measure => omega
      case rel => exact ⟨_, _, by go_num, by omega, HI3.out⟩
    · obtain rfl : gk = 0 := by omega
      have hle : l = intL n := by
        have h := HI.out.eq
        rwa [natHi_zero, List.nil_append] at h
      have hcv := bytes_string HI.out.row HI.out.len
      rw [hle] at hcv
      have HF := Lib.hid HI.out.fr
      clear hle hq HI
      go_wp2_with fail
      go_ret
      exact ⟨rfl, HF.out⟩
set_option maxRecDepth 100000 in
set_option maxHeartbeats 4000000 in
theorem rframe_h {w : World} (s : Str) (hs : s.length ≤ 1000000) : Calls Tryz.prog 118 #[.string (bs s)] w fun e w' => e = .returned (.tuple #[.string (bs (frameD s).1), .int .i64 (frameD s).2]) ∧ Fr (fun _ => False) w w' := by
  have hsz : (bs s).size = s.length := rfl
  by_cases hl : 65536 < s.length
  · have hli : (65536 : Int) < (s.length : Int) := by omega
    have HE := Lib.hid (show frameD s = ([], 10) from if_neg (by omega))
    clear hl
    go_enter Tryz.func118, Tryz.ntmps118
    go_wp2_with fail
    go_ret2
    exact ⟨by rw [HE.out] <;> rfl, Fr.refl _ _⟩
  have hli : ¬ (65536 : Int) < (s.length : Int) := by omega
  have HE := Lib.hid (show frameD s = (frameL s, 0) from if_pos (by omega))
  have hw : IntKind.u32.wrap (s.length : Int) = (s.length : Int) := by rw [IntKind.wrap_u32]; omega
  have H1 := Lib.hid (rfour_h (w := w) s.length (by omega))
  have h4 : (fourL s.length).length = 4 := rfl
  have hfr : frameL s = (fourL s.length ++ fourL (crcL (fourL s.length ++ s))) ++ s := rfl
  obtain ⟨n4, hn4⟩ : ∃ n4, fourL s.length = n4 := ⟨_, rfl⟩
  rw [hn4] at H1 h4 hfr
  obtain ⟨x, hx⟩ : ∃ x, n4 ++ s = x := ⟨_, rfl⟩
  have hxl : x.length = 4 + s.length := by rw [← hx, List.length_append, h4]
  rw [hx] at hfr
  have H2 := Lib.hid (fun (W : World) => rcrc_h (w := W) x (by omega))
  have hcl := crc_lt x
  obtain ⟨cr, hcr⟩ : ∃ cr, crcL x = cr := ⟨_, rfl⟩
  rw [hcr] at H2 hcl hfr
  have H4 := Lib.hid (fun (W : World) => rfour_h (w := W) cr hcl)
  have hc4 : (fourL cr).length = 4 := rfl
  obtain ⟨c4, hc⟩ : ∃ c4, fourL cr = c4 := ⟨_, rfl⟩
  rw [hc] at H4 hfr hc4
  obtain ⟨p, hp⟩ : ∃ p, n4 ++ c4 = p := ⟨_, rfl⟩
  rw [hp] at hfr
  obtain ⟨q, hq⟩ : ∃ q, p ++ s = q := ⟨_, rfl⟩
  rw [hq] at hfr
  have hpl : p.length = 8 := by rw [← hp, List.length_append, h4, hc4]
  have hql : q.length = p.length + s.length := by rw [← hq, List.length_append]
  have s0 : ∀ w : World, (Op.stringOp .add (bs n4) (bs s)).run Tryz.prog w = .ok (.string (bs x)) w := fun w => sum_at w hx (by omega)
  have s1 : ∀ w : World, (Op.stringOp .add (bs n4) (bs c4)).run Tryz.prog w = .ok (.string (bs p)) w := fun w => sum_at w hp (by omega)
  have s2 : ∀ w : World, (Op.stringOp .add (bs p) (bs s)).run Tryz.prog w = .ok (.string (bs q)) w := fun w => sum_at w hq (by omega)
  have HFr := Lib.hid hfr
  clear hl hn4 hx hxl hcr hc hp hq hfr hcl h4 hc4 hpl hql
  go_enter Tryz.func118, Tryz.ntmps118
  go_wp2_with fail
  refine Calls.mono H1.out ?_
  rintro e w1 ⟨rfl, hF⟩
  have HF1 := Lib.hid hF
  clear hF
  go_wp2_with fail
  refine Calls.mono (H2.out _) ?_
  rintro e w2 ⟨rfl, hw2⟩
  subst hw2
  go_wp2_with fail
  refine Calls.mono (H4.out _) ?_
  rintro e w2 ⟨rfl, hF⟩
  have HF2 := Lib.hid (HF1.out.next hF)
  clear hF
  go_wp2_with fail
  go_ret2
  exact ⟨by rw [HE.out, HFr.out] <;> rfl, HF2.out⟩
end Go.Proofs.YtgmghopcppniaaaGreatDoor
