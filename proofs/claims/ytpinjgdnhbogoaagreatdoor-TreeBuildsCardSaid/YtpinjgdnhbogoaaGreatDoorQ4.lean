/- The reference's Escape and Write. -/
import Derived.Test.YtpinjgdnhbogoaaGreatDoorWR
import Derived.Test.YtpinjgdnhbogoaaGreatDoorQ2
import Derived.Lib.AppendStr
namespace Go.Proofs.YtpinjgdnhbogoaaGreatDoor
open Go.RowKit Go.Lib

/-- bytes in a row of one's own -/
def BRow (B : Nat) (w : World) (v : Value) (u : Str) : Prop := w.ownsRow B 5 1 v u.length (Lib.byteCells u)
theorem BRow.nil (B : Nat) (w : World) : BRow B w (.slice none 0 0) [] := World.ownsRow_nil _ _ _ _
theorem BRow.fr {B : Nat} {w w' : World} {v : Value} {u : Str} (h : BRow B w v u) (hf : Fr (fun _ => False) w w') : BRow B w' v u := ownsRow_fr h hf
theorem BRow.shape {B : Nat} {w : World} {v : Value} {u : Str} (h : BRow B w v u) : ∃ b cap, v = .slice b u.length cap := ownsRow_shape h
/-- string(b) -/
theorem BRow.text {B : Nat} {w : World} {v : Value} {u : Str} (h : BRow B w v u) : Sem.run Tryz.prog (convert 113 9 v) w = .ok (.string (bs u)) w := by
  have hc := fun g => h.cells (g := g)
  rcases h.2 with ⟨rfl, h2⟩ | ⟨g, cap, cur, rfl, _, hh, _⟩
  · obtain rfl := List.eq_nil_of_length_eq_zero h2
    exact run_convert_bytes_nil w 113 5 Tryz.underlying113 Tryz.underlying5 0 0 9 Tryz.underlying9
  · refine run_convert_bytes_back w 113 9 5 ⟨g, 0, none⟩ cap u Tryz.underlying113 Tryz.underlying5 Tryz.underlying9 fun j hj => ?_
    exact hc g rfl j _ (by unfold Lib.byteCells; simp [hj])
theorem BRow.more {B : Nat} {w w' : World} {v v' : Value} {u l : Str} (h : BRow B w v u) (hr : w'.ownsRow B 5 1 v' (u.length + l.length) (Lib.byteCells u ++ Lib.byteCells l)) : BRow B w' v' (u ++ l) := by
  unfold BRow
  rw [List.length_append, ← byteCells_app]; exact hr
theorem BRow.frg {B : Nat} {w w' w0 : World} {v : Value} {u : Str} (h : BRow B w v u) (hf : Fr (fun _ => False) w0 w) (hg : w.grownBy w' v.ownBlock) (hB : w0.heap.size ≤ B) : Fr (fun _ => False) w0 w' :=
  hf.grown hg fun k hk => .inr (Nat.le_trans hB (h.lt k hk).1)
theorem escC_38 : escC 38 = [38, 97, 109, 112, 59] := rfl
theorem escC_60 : escC 60 = [38, 108, 116, 59] := rfl
theorem escC_62 : escC 62 = [38, 103, 116, 59] := rfl
theorem escC_34 : escC 34 = [38, 113, 117, 111, 116, 59] := rfl
theorem escC_39 : escC 39 = [38, 97, 112, 111, 115, 59] := rfl
theorem escC_else {c : UInt8} (h1 : c ≠ 38) (h2 : c ≠ 60) (h3 : c ≠ 62) (h4 : c ≠ 34) (h5 : c ≠ 39) : escC c = [c] := by
  unfold escC; rw [if_neg h1, if_neg h2, if_neg h3, if_neg h4, if_neg h5]
theorem esc_snoc {s : Str} {k : Nat} (h : k < s.length) : escL (s.take (k + 1)) = escL (s.take k) ++ escC (s.getD k 0) := by
  rw [take_snoc' h, escL_append]; unfold escL; simp
theorem u8_ne {c : UInt8} {n : Nat} (hn : n < 256) (h : c ≠ UInt8.ofNat n) : ((c.toNat : Int) == (n : Int)) = false := by
  rw [beq_eq_false_iff_ne]; intro e
  refine h (UInt8.toNat.inj ?_)
  rw [UInt8.toNat_ofNat', Nat.mod_eq_of_lt hn]; omega
set_option maxRecDepth 100000 in
set_option maxHeartbeats 16000000 in
theorem rescape_h {w : World} (s : Str) (hs : s.length ≤ 1000000) : Calls Tryz.prog 53 #[.string (bs s)] w fun e w' => e = .returned (.string (bs (escL s))) ∧ Fr (fun _ => False) w w' := by
  have hsz : (bs s).size = s.length := rfl
  obtain ⟨i0, hi0, hz0, hz1, hz2⟩ := info_parts info5
  go_enter Tryz.func53, Tryz.ntmps53
  go_wp2_with fail
  go_loopg [3, 4] s.length (fun j v3 v4 w' => ∃ (k : Nat) (wr : World) (bv : Value), wr = w' ∧ bv = v3 ∧ k + j = s.length ∧ v4 = .int .i64 k ∧ Hid (BRow w.heap.size wr bv (escL (s.take k)) ∧ Fr (fun _ => False) w wr))
  case atStart => exact ⟨0, _, _, rfl, rfl, by omega, rfl, BRow.nil _ _, Fr.refl _ _⟩
  case round =>
    obtain ⟨k, wr, bv, rfl, rfl, hk, rfl, HR⟩ := hrel
    have hle := esc_le (s.take k)
    have htk : (s.take k).length ≤ s.length := by rw [List.length_take]; omega
    obtain ⟨u, hu⟩ : ∃ u, escL (s.take k) = u := ⟨_, rfl⟩
    rw [hu] at HR hle
    have hul : u.length ≤ 6000000 := by omega
    have hszr := HR.out.2.size
    by_cases hlt : k < s.length
    · have hz : k < (bs s).size := by rw [hsz]; exact hlt
      have hg := bs_at s k hz
      obtain ⟨c, hc⟩ : ∃ c, s.getD k 0 = c := ⟨_, rfl⟩
      rw [hc] at hg
      have HS := Lib.hid (show escL (s.take (k + 1)) = u ++ escC c by rw [esc_snoc hlt, hu, hc])
      have HK := Lib.hid hk
      clear hc hu hle htk hk
      by_cases h38 : c = 38
      · have t38 : ((c.toNat : Int) == 38) = true := by subst h38; rfl
        have HE := Lib.hid (show escC c = [38, 97, 109, 112, 59] by subst h38; rfl)
        clear h38
        go_wp2_with (at_builtin; refine Lib.wpList_append_own_string _ rfl (.tmp 22) (.const (.string ⟨#[38, 97, 109, 112, 59]⟩)) 113 9 rfl w.heap.size 5 i0 Tryz.underlying113 Tryz.underlying9 hi0 hz0 hz1 hz2 _ _ _ rfl HR.out.1 ⟨#[38, 97, 109, 112, 59]⟩ rfl (show u.length + 5 ≤ maxLen by unfold maxLen; omega) (show u.length + 5 ≤ _ by omega) hszr ?_; intro v1 w1 hown1 hgrow1 _; have HN := Lib.hid (HR.out.1.more (l := [38, 97, 109, 112, 59]) hown1); have HF := Lib.hid (HR.out.1.frg HR.out.2 hgrow1 (Nat.le_refl _)); clear hown1 hgrow1)
        go_roundg (s.length - (k + 1))
        case measure => have := HK.out; omega
        case rel => exact ⟨k + 1, _, _, rfl, rfl, by have := HK.out; omega, by go_num, by rw [HS.out, HE.out]; exact HN.out, HF.out⟩
      have t38 : ((c.toNat : Int) == 38) = false := u8_ne (by decide) h38
      by_cases h60 : c = 60
      · have t60 : ((c.toNat : Int) == 60) = true := by subst h60; rfl
        have HE := Lib.hid (show escC c = [38, 108, 116, 59] by subst h60; rfl)
        clear h38 h60
        go_wp2_with (at_builtin; refine Lib.wpList_append_own_string _ rfl (.tmp 26) (.const (.string ⟨#[38, 108, 116, 59]⟩)) 113 9 rfl w.heap.size 5 i0 Tryz.underlying113 Tryz.underlying9 hi0 hz0 hz1 hz2 _ _ _ rfl HR.out.1 ⟨#[38, 108, 116, 59]⟩ rfl (show u.length + 4 ≤ maxLen by unfold maxLen; omega) (show u.length + 4 ≤ _ by omega) hszr ?_; intro v1 w1 hown1 hgrow1 _; have HN := Lib.hid (HR.out.1.more (l := [38, 108, 116, 59]) hown1); have HF := Lib.hid (HR.out.1.frg HR.out.2 hgrow1 (Nat.le_refl _)); clear hown1 hgrow1)
        go_roundg (s.length - (k + 1))
        case measure => have := HK.out; omega
        case rel => exact ⟨k + 1, _, _, rfl, rfl, by have := HK.out; omega, by go_num, by rw [HS.out, HE.out]; exact HN.out, HF.out⟩
      have t60 : ((c.toNat : Int) == 60) = false := u8_ne (by decide) h60
      by_cases h62 : c = 62
      · have t62 : ((c.toNat : Int) == 62) = true := by subst h62; rfl
        have HE := Lib.hid (show escC c = [38, 103, 116, 59] by subst h62; rfl)
        clear h38 h60 h62
        go_wp2_with (at_builtin; refine Lib.wpList_append_own_string _ rfl (.tmp 30) (.const (.string ⟨#[38, 103, 116, 59]⟩)) 113 9 rfl w.heap.size 5 i0 Tryz.underlying113 Tryz.underlying9 hi0 hz0 hz1 hz2 _ _ _ rfl HR.out.1 ⟨#[38, 103, 116, 59]⟩ rfl (show u.length + 4 ≤ maxLen by unfold maxLen; omega) (show u.length + 4 ≤ _ by omega) hszr ?_; intro v1 w1 hown1 hgrow1 _; have HN := Lib.hid (HR.out.1.more (l := [38, 103, 116, 59]) hown1); have HF := Lib.hid (HR.out.1.frg HR.out.2 hgrow1 (Nat.le_refl _)); clear hown1 hgrow1)
        go_roundg (s.length - (k + 1))
        case measure => have := HK.out; omega
        case rel => exact ⟨k + 1, _, _, rfl, rfl, by have := HK.out; omega, by go_num, by rw [HS.out, HE.out]; exact HN.out, HF.out⟩
      have t62 : ((c.toNat : Int) == 62) = false := u8_ne (by decide) h62
      by_cases h34 : c = 34
      · have t34 : ((c.toNat : Int) == 34) = true := by subst h34; rfl
        have HE := Lib.hid (show escC c = [38, 113, 117, 111, 116, 59] by subst h34; rfl)
        clear h38 h60 h62 h34
        go_wp2_with (at_builtin; refine Lib.wpList_append_own_string _ rfl (.tmp 34) (.const (.string ⟨#[38, 113, 117, 111, 116, 59]⟩)) 113 9 rfl w.heap.size 5 i0 Tryz.underlying113 Tryz.underlying9 hi0 hz0 hz1 hz2 _ _ _ rfl HR.out.1 ⟨#[38, 113, 117, 111, 116, 59]⟩ rfl (show u.length + 6 ≤ maxLen by unfold maxLen; omega) (show u.length + 6 ≤ _ by omega) hszr ?_; intro v1 w1 hown1 hgrow1 _; have HN := Lib.hid (HR.out.1.more (l := [38, 113, 117, 111, 116, 59]) hown1); have HF := Lib.hid (HR.out.1.frg HR.out.2 hgrow1 (Nat.le_refl _)); clear hown1 hgrow1)
        go_roundg (s.length - (k + 1))
        case measure => have := HK.out; omega
        case rel => exact ⟨k + 1, _, _, rfl, rfl, by have := HK.out; omega, by go_num, by rw [HS.out, HE.out]; exact HN.out, HF.out⟩
      have t34 : ((c.toNat : Int) == 34) = false := u8_ne (by decide) h34
      by_cases h39 : c = 39
      · have t39 : ((c.toNat : Int) == 39) = true := by subst h39; rfl
        have HE := Lib.hid (show escC c = [38, 97, 112, 111, 115, 59] by subst h39; rfl)
        clear h38 h60 h62 h34 h39
        go_wp2_with (at_builtin; refine Lib.wpList_append_own_string _ rfl (.tmp 38) (.const (.string ⟨#[38, 97, 112, 111, 115, 59]⟩)) 113 9 rfl w.heap.size 5 i0 Tryz.underlying113 Tryz.underlying9 hi0 hz0 hz1 hz2 _ _ _ rfl HR.out.1 ⟨#[38, 97, 112, 111, 115, 59]⟩ rfl (show u.length + 6 ≤ maxLen by unfold maxLen; omega) (show u.length + 6 ≤ _ by omega) hszr ?_; intro v1 w1 hown1 hgrow1 _; have HN := Lib.hid (HR.out.1.more (l := [38, 97, 112, 111, 115, 59]) hown1); have HF := Lib.hid (HR.out.1.frg HR.out.2 hgrow1 (Nat.le_refl _)); clear hown1 hgrow1)
        go_roundg (s.length - (k + 1))
        case measure => have := HK.out; omega
        case rel => exact ⟨k + 1, _, _, rfl, rfl, by have := HK.out; omega, by go_num, by rw [HS.out, HE.out]; exact HN.out, HF.out⟩
      have t39 : ((c.toNat : Int) == 39) = false := u8_ne (by decide) h39
      have HE := Lib.hid (escC_else h38 h60 h62 h34 h39)
      clear h38 h60 h62 h34 h39
      have HA : Hid (Fr (fun _ => False) wr (wr.alloc (.cells #[.int .u8 (c.toNat : Int)] 5))) := (Fr.refl _ _).alloc _
      go_wp2_with (at_builtin; refine wpList_append_row rfl (.tmp 14) (.tmp 18) 113 rfl w.heap.size 5 i0 (.int .u8 0) 1 1 Tryz.underlying113 hi0 hz0 hz1 hz2 rfl (by decide) bv u.length (Lib.byteCells u) rfl (HR.out.1.fr HA.out) (fun _ => True) _ 1 [.int .u8 (c.toNat : Int)] rfl (SRow.of_block (e := 5) (f := (0, 0)) (block_new _ _) rfl (by decide) trivial) (by simp [Value.oneCell']) (by unfold maxLen; omega) (by omega) (by simp; omega) ?_; intro b7 cap7 w7 hown7 hgrow7 _; have HN := Lib.hid (HR.out.1.more (l := [c]) hown7); have HF := Lib.hid ((HR.out.1.fr HA.out).frg (HR.out.2.next HA.out) hgrow7 (Nat.le_refl _)); clear hown7 hgrow7)
      go_roundg (s.length - (k + 1))
      case measure => have := HK.out; omega
      case rel => exact ⟨k + 1, _, _, rfl, rfl, by have := HK.out; omega, by go_num, by rw [HS.out, HE.out]; exact HN.out, HF.out⟩
    · obtain rfl : k = s.length := by omega
      rw [List.take_length] at hu
      have hcv := HR.out.1.text
      have HU := Lib.hid hu
      clear hle htk hu
      go_wp2_with fail
      go_ret
      exact ⟨by rw [HU.out] <;> rfl, HR.out.2⟩
end Go.Proofs.YtpinjgdnhbogoaaGreatDoor
