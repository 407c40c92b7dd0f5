/- The reference's Squeeze. -/
import Derived.Test.YtpinjgdnhbogoaaGreatDoorNE
import Derived.Test.YtpinjgdnhbogoaaGreatDoorQ1
import Derived.Laws.IdiomStrings
import Derived.Lib.BufferRead
namespace Go.Proofs.YtpinjgdnhbogoaaGreatDoor
open Go.RowKit Go.Lib

set_option maxHeartbeats 2000000 in
theorem tblank_n {w : World} (n : Nat) : Calls Tryz.prog 92 #[.int .u8 (n : Int)] w fun e w' => e = .returned (.bool (blankN n)) ∧ w = w' := by
  have hcl : n = 9 ∨ n = 10 ∨ n = 13 ∨ n = 32 ∨ (n ≠ 9 ∧ n ≠ 10 ∧ n ≠ 13 ∧ n ≠ 32) := by omega
  rcases hcl with h | h | h | h | h
  all_goals
    rcases Bool.eq_false_or_eq_true (blankN n) with hr | hr <;> (try (exfalso; first | (simp only [blankN, Bool.or_eq_true, decide_eq_true_eq] at hr; omega) | (simp only [blankN, Bool.or_eq_false_iff, decide_eq_false_iff_not] at hr; omega)))
    have HB := Lib.hid hr
    rcases Bool.eq_false_or_eq_true ((n : Int) == 32) with d0 | d0 <;> (try (exfalso; first | (have := beq_iff_eq.1 d0; omega) | (have := beq_eq_false_iff_ne.1 d0; omega)))
    rcases Bool.eq_false_or_eq_true ((n : Int) == 9) with d1 | d1 <;> (try (exfalso; first | (have := beq_iff_eq.1 d1; omega) | (have := beq_eq_false_iff_ne.1 d1; omega)))
    rcases Bool.eq_false_or_eq_true ((n : Int) == 10) with d2 | d2 <;> (try (exfalso; first | (have := beq_iff_eq.1 d2; omega) | (have := beq_eq_false_iff_ne.1 d2; omega)))
    rcases Bool.eq_false_or_eq_true ((n : Int) == 13) with d3 | d3 <;> (try (exfalso; first | (have := beq_iff_eq.1 d3; omega) | (have := beq_eq_false_iff_ne.1 d3; omega)))
    clear hr h
    go_enter Tryz.func92, Tryz.ntmps92
    go_wp2_with fail
    go_ret
    exact ⟨by rw [HB.out] <;> rfl, rfl⟩
theorem tblank_h {w : World} (c : UInt8) : Calls Tryz.prog 92 #[.int .u8 (c.toNat : Int)] w fun e w' => e = .returned (.bool (blankC c)) ∧ w = w' := by
  rw [blank_nat]; exact tblank_n _
def bytesV (l : Str) : List Value := l.map fun c => .int .u8 (c.toNat : Int)
theorem conv_row {w : World} {base cv : Nat} {l : Str} {bv : Option Addr} (h : w.ownsRow base 5 1 (.slice bv l.length cv) l.length (bytesV l)) : Sem.run Tryz.prog (convert 113 9 (.slice bv l.length cv)) w = .ok (.string (bs l)) w := by
  by_cases h0 : 0 < l.length
  · obtain ⟨g, off, hb, hc⟩ := (SRow.of_owns h).cell h0
    subst hb
    exact run_convert_bytes_back _ 113 9 5 ⟨g, off, none⟩ cv l Tryz.underlying113 Tryz.underlying5 Tryz.underlying9 fun j hj => by rw [Addr.add_lit]; exact hc j _ (by simp [bytesV, hj])
  · have e : l = [] := by cases l with | nil => rfl | cons a l => simp at h0
    subst e
    cases bv with
    | none => exact run_convert_nil_bytes _ 113 9 5 cv Tryz.underlying113 Tryz.underlying5 Tryz.underlying9
    | some a => exact run_convert_bytes_back _ 113 9 5 a cv [] Tryz.underlying113 Tryz.underlying5 Tryz.underlying9 fun j hj => by simp at hj
structure SqIn (w : World) (b : Str) (v : Value) (W : World) : Prop where
  row : W.ownsRow w.heap.size 5 1 v b.length (bytesV b)
  fr : Fr (fun _ => False) w W
theorem SqIn.push {w W W2 w7 : World} {b : Str} {v v7 : Value} (h : SqIn w b v W) (c : UInt8) (hf : Fr (fun _ => False) W W2) (hg : W2.grownBy w7 v.ownBlock) (hr : w7.ownsRow w.heap.size 5 1 v7 (b.length + 1) (bytesV b ++ [.int .u8 (c.toNat : Int)])) : SqIn w (b ++ [c]) v7 w7 := by
  have h7 : Fr (fun k => v.ownBlock = some k) W2 w7 := (Fr.refl _ _).grown hg fun k hk => .inl hk
  refine ⟨?_, (h.fr.next hf).trans h7 fun k hk => .inr (h.row.lt k hk).1⟩
  rw [List.length_append]
  have e : bytesV (b ++ [c]) = bytesV b ++ [.int .u8 (c.toNat : Int)] := by simp [bytesV]
  rw [e]; exact hr
theorem info5o : (Tryz.prog.info? 5).map (fun i => (i.zero, i.size, i.bytes)) = some (some (.int .u8 0), 1, 1) := by kernel_rfl
set_option maxRecDepth 100000 in
set_option maxHeartbeats 8000000 in
theorem rsqueeze_h {w : World} (s : Str) (hs : s.length ≤ 1000000) : Calls Tryz.prog 50 #[.string (bs s)] w fun e w' => e = .returned (.string (bs (squeezeL s))) ∧ Fr (fun _ => False) w w' := by
  obtain ⟨i0, hi0, hz0, hz1, hz2⟩ := info_parts info5o
  have hsz : (bs s).size = s.length := rfl
  go_enter Tryz.func50, Tryz.ntmps50
  go_wp2_with fail
  go_loopg [3, 4, 5] s.length (fun j v3 v4 v5 w' => ∃ W v, W = w' ∧ v = v3 ∧ ∃ (i : Nat) (b : Str) (gap : Bool), i + j = s.length ∧ v5 = .int .i64 i ∧ v4 = .bool gap ∧ Hid (SqAt s i b gap ∧ SqIn w b v W))
  case atStart => exact ⟨_, _, rfl, rfl, 0, [], false, by omega, rfl, rfl, SqAt.start s, World.ownsRow_nil _ _ _ _, Fr.refl _ _⟩
  case round =>
    obtain ⟨W, v, rfl, rfl, i, b, gap, hi, rfl, rfl, HI⟩ := hrel
    obtain ⟨bv, cv, rfl⟩ := ownsRow_shape HI.out.2.row
    by_cases hlt : i < s.length
    · have hz : i < (bs s).size := hlt
      have hg := bs_at s i hz
      obtain ⟨c, hc⟩ : ∃ c, s.getD i 0 = c := ⟨_, rfl⟩
      rw [hc] at hg
      have HB := Lib.hid (tblank_h (w := W) c)
      have HK := Lib.hid (And.intro hi (And.intro hlt hc))
      obtain ⟨bl, hbl⟩ : ∃ bl, b.length = bl := ⟨_, rfl⟩
      have hbl2 : bl + gap.toNat ≤ 1000000 := by have := HI.out.1.len; omega
      have HBL := Lib.hid hbl
      rw [hbl]
      cases hb : blankC c with
      | true =>
        have HN := Lib.hid (HI.out.1.blank hlt (by rw [hc]; exact hb))
        have hgt : (!b.isEmpty) = decide (0 < bl) := by
          rw [← hbl]; cases b with | nil => rfl | cons x l => simp
        rw [hgt] at HN
        rw [hb] at HB
        clear hb hc hi hbl hgt
        go_wp2_with fail
        refine Calls.mono HB.out ?_
        rintro e w1 ⟨rfl, rfl⟩
        go_wp2_with fail
        go_roundg (s.length - (i + 1))
        case measure => have := HK.out.1; omega
        case rel => exact ⟨_, _, rfl, by rw [HBL.out], i + 1, b, _, by have := HK.out.1; omega, by go_num, rfl, HN.out, HI.out.2⟩
      | false =>
        rw [hb] at HB
        cases gap with
        | true =>
          have HN := Lib.hid (HI.out.1.gap hlt (by rw [hc]; exact hb))
          rw [hc] at HN
          have HF1 : Hid (Fr (fun _ => False) W (W.alloc (.cells #[.int .u8 32] 5))) := (Fr.refl _ _).alloc _
          have HO := Lib.hid HI.out.2.row
          rw [hbl] at HO
          clear hb hc hi hbl
          go_wp2_with fail
          refine Calls.mono HB.out ?_
          rintro e w1 ⟨rfl, rfl⟩
          go_wp2_with (first
            | (at_builtin; refine wpList_append_row rfl (.tmp 20) (.tmp 21) 113 rfl w.heap.size 5 i0 (.int .u8 0) 1 1 Tryz.underlying113 hi0 hz0 hz1 hz2 rfl (by decide) (.slice bv bl cv) bl (bytesV b) rfl (ownsRow_fr HO.out HF1.out) (fun _ => True) _ 1 [.int .u8 32] rfl (SRow.of_block (block_new_at rfl) rfl (by decide) trivial) (by intro u hu; simp at hu; subst hu; rfl) (by unfold maxLen; simp at hbl2; omega) (by simp at hbl2; omega) (by simp; have := HI.out.2.fr.size; omega) ?_; intro b7 cap7 w7 hown7 hgrow7 hfr7; have HN7 := Lib.hid (HI.out.2.push 32 HF1.out (by rw [HBL.out]; exact hgrow7) (by rw [HBL.out]; exact hown7)); have HL7 := Lib.hid (show (b ++ [32]).length = bl + 1 by rw [List.length_append, HBL.out]; rfl); clear hown7 hgrow7 hfr7; have HF2 : Hid (Fr (fun _ => False) w7 (w7.alloc (.cells #[.int .u8 (c.toNat : Int)] 5))) := (Fr.refl _ _).alloc _)
            | (at_builtin; refine wpList_append_row rfl (.tmp 23) (.tmp 27) 113 rfl w.heap.size 5 i0 (.int .u8 0) 1 1 Tryz.underlying113 hi0 hz0 hz1 hz2 rfl (by decide) (.slice b7 (bl + 1) cap7) (bl + 1) (bytesV (b ++ [32])) rfl (by have h := ownsRow_fr HN7.out.row HF2.out; rw [HL7.out] at h; exact h) (fun _ => True) _ 1 [.int .u8 (c.toNat : Int)] rfl (SRow.of_block (block_new_at rfl) rfl (by decide) trivial) (by intro u hu; simp at hu; subst hu; rfl) (by unfold maxLen; simp at hbl2; omega) (by simp at hbl2; omega) (by simp; have := HN7.out.fr.size; omega) ?_; intro b8 cap8 w8 hown8 hgrow8 hfr8; have HN8 := Lib.hid (HN7.out.push c HF2.out hgrow8 (by rw [HL7.out]; exact hown8)); have HL8 := Lib.hid (show (b ++ [32] ++ [c]).length = bl + 1 + 1 by rw [List.length_append, HL7.out]; rfl); clear hown8 hgrow8 hfr8))
          go_roundg (s.length - (i + 1))
          case measure => have := HK.out.1; omega
          case rel => exact ⟨_, _, rfl, rfl, i + 1, b ++ [32] ++ [c], _, by have := HK.out.1; omega, by go_num, rfl, HN.out, HN8.out⟩
        | false =>
          have HN := Lib.hid (HI.out.1.plain hlt (by rw [hc]; exact hb))
          rw [hc] at HN
          have HF1 : Hid (Fr (fun _ => False) W (W.alloc (.cells #[.int .u8 (c.toNat : Int)] 5))) := (Fr.refl _ _).alloc _
          have HO := Lib.hid HI.out.2.row
          rw [hbl] at HO
          clear hb hc hi hbl
          go_wp2_with fail
          refine Calls.mono HB.out ?_
          rintro e w1 ⟨rfl, rfl⟩
          go_wp2_with (at_builtin; refine wpList_append_row rfl (.tmp 23) (.tmp 27) 113 rfl w.heap.size 5 i0 (.int .u8 0) 1 1 Tryz.underlying113 hi0 hz0 hz1 hz2 rfl (by decide) (.slice bv bl cv) bl (bytesV b) rfl (ownsRow_fr HO.out HF1.out) (fun _ => True) _ 1 [.int .u8 (c.toNat : Int)] rfl (SRow.of_block (block_new_at rfl) rfl (by decide) trivial) (by intro u hu; simp at hu; subst hu; rfl) (by unfold maxLen; simp at hbl2; omega) (by simp at hbl2; omega) (by simp; have := HI.out.2.fr.size; omega) ?_; intro b7 cap7 w7 hown7 hgrow7 hfr7; have HN7 := Lib.hid (HI.out.2.push c HF1.out (by rw [HBL.out]; exact hgrow7) (by rw [HBL.out]; exact hown7)); clear hown7 hgrow7 hfr7)
          go_roundg (s.length - (i + 1))
          case measure => have := HK.out.1; omega
          case rel => exact ⟨_, _, rfl, rfl, i + 1, b ++ [c], _, by have := HK.out.1; omega, by go_num, rfl, HN.out, HN7.out⟩
    · have hik : i = s.length := by omega
      subst hik
      have HE := Lib.hid (HI.out.1.done)
      have hcv := conv_row HI.out.2.row
      clear hi hlt
      go_wp2_with fail
      go_ret
      exact ⟨by rw [HE.out] <;> rfl, HI.out.2.fr⟩
end Go.Proofs.YtpinjgdnhbogoaaGreatDoor
