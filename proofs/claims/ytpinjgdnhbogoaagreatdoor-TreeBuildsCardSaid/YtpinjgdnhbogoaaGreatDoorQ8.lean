/- The reference's said. -/
import Derived.Test.YtpinjgdnhbogoaaGreatDoorQ7
import Derived.Test.YtpinjgdnhbogoaaGreatDoorQ4
namespace Go.Proofs.YtpinjgdnhbogoaaGreatDoor
open Go.RowKit Go.Lib

def rsaidV (s : Str) : Value := match saidL s with | .ok u => .tuple #[.string (bs u), .int .i64 (-1)] | .error k => .tuple #[.string ⟨#[]⟩, .int .i64 (k : Int)]
theorem rsaid_ok {s u : Str} (h : saidL s = .ok u) : rsaidV s = .tuple #[.string (bs u), .int .i64 (-1)] := by unfold rsaidV; rw [h]
theorem rsaid_bad {s : Str} {k : Nat} (h : saidL s = .error k) : rsaidV s = .tuple #[.string ⟨#[]⟩, .int .i64 (k : Int)] := by unfold rsaidV; rw [h]
theorem rref_no {m : Str} (h : refL m = none) : rrefV m = .tuple #[.string ⟨#[]⟩, .int .i64 0] := by unfold rrefV; rw [h]
theorem rref_yes {m t left : Str} (h : refL m = some (t, left)) : rrefV m = .tuple #[.string (bs t), .int .i64 ((1 + (m.length - left.length) : Nat) : Int)] := by unfold rrefV; rw [h]
set_option maxRecDepth 100000 in
set_option maxHeartbeats 8000000 in
theorem rsaid_h {w : World} (s : Str) (hs : s.length ≤ 900000) : Calls Tryz.prog 84 #[.string (bs s)] w fun e w' => e = .returned (rsaidV s) ∧ Fr (fun _ => False) w w' := by
  have hsz : (bs s).size = s.length := rfl
  obtain ⟨i0, hi0, hz0, hz1, hz2⟩ := info_parts info5
  go_enter Tryz.func84, Tryz.ntmps84
  go_wp2_with fail
  go_loopg [4, 5] s.length (fun j v4 v5 w' => ∃ (k : Nat) (wr : World) (bv : Value) (u : Str), wr = w' ∧ bv = v4 ∧ k + j = s.length ∧ v5 = .int .i64 k ∧ u.length ≤ 4 * k ∧ Hid (SaidAt s k u ∧ BRow w.heap.size wr bv u ∧ Fr (fun _ => False) w wr))
  case atStart => exact ⟨0, _, _, [], rfl, rfl, by omega, rfl, by simp, SaidAt.start s, BRow.nil _ _, Fr.refl _ _⟩
  case round =>
    obtain ⟨k, wr, bv, u, rfl, rfl, hk, rfl, hu, HR⟩ := hrel
    have hul : u.length ≤ 4000000 := by omega
    have hszr := HR.out.2.2.size
    by_cases hlt : k < s.length
    · have hz : k < (bs s).size := by rw [hsz]; exact hlt
      have hg := bs_at s k hz
      obtain ⟨c, hc⟩ : ∃ c, s.getD k 0 = c := ⟨_, rfl⟩
      rw [hc] at hg
      have HK := Lib.hid (And.intro hk hu)
      have HLt := Lib.hid hlt
      by_cases h38 : c = 38
      · have t38 : ((c.toNat : Int) != 38) = false := by subst h38; rfl
        have t38b : ((c.toNat : Int) == 38) = true := by subst h38; rfl
        have hcc : s.getD k 0 = 38 := by rw [hc, h38]
        obtain ⟨more, hmore⟩ : ∃ more, s.drop (k + 1) = more := ⟨_, rfl⟩
        have hml : more.length ≤ 900000 := by rw [← hmore, List.length_drop]; omega
        have hml2 : more.length = s.length - (k + 1) := by rw [← hmore, List.length_drop]
        have hx : (bs s).extract k s.length = bs (38 :: more) := by rw [bs_drop, drop_getD hlt, hcc, hmore]
        have HRef := Lib.hid (fun (W : World) => rreference_h (w := W) more hml)
        cases hr : refL more with
        | none =>
          have HE := Lib.hid (rsaid_bad (HR.out.1.bad hlt hcc (by rw [hmore]; exact hr)))
          rw [rref_no hr] at HRef
          clear hr h38 hcc hmore hml hml2 hc hk hu
          go_wp2_with fail
          refine Calls.mono (HRef.out _) ?_
          rintro e w1 ⟨rfl, hF1⟩
          have HF1 := Lib.hid (HR.out.2.2.next hF1)
          clear hF1
          go_wp2_with fail
          go_ret2
          exact ⟨by rw [HE.out] <;> rfl, HF1.out⟩
        | some q =>
          obtain ⟨t, left⟩ := q
          have hrl := refL_len hr
          have htl := ref_out hr
          have HN := Lib.hid (HR.out.1.ref hlt hcc (by rw [hmore]; exact hr))
          rw [hmore] at HN
          rw [rref_yes hr] at HRef
          obtain ⟨n, hn⟩ : ∃ n, 1 + (more.length - left.length) = n := ⟨_, rfl⟩
          rw [hn] at HN HRef
          have hn1 : 2 ≤ n ∧ n ≤ 900002 := by omega
          have hn2 : k + n ≤ s.length := by omega
          have hn0 : ((n : Int) == 0) = false := by rw [beq_eq_false_iff_ne]; omega
          obtain ⟨hn3, hn4⟩ := hn1
          clear hr h38 hcc hmore hml hml2 hc hk hu hrl hn
          go_wp2_with fail
          refine Calls.mono (HRef.out _) ?_
          rintro e w1 ⟨rfl, hF1⟩
          have HF1 := Lib.hid hF1
          have HB1 := Lib.hid (HR.out.2.1.fr hF1)
          have hszr1 : w.heap.size ≤ w1.heap.size := Nat.le_trans hszr hF1.size
          clear hF1
          go_wp2_with (at_builtin; refine Lib.wpList_append_own_string _ rfl (.tmp 34) (.tmp 35) 113 9 rfl w.heap.size 5 i0 Tryz.underlying113 Tryz.underlying9 hi0 hz0 hz1 hz2 _ _ _ rfl HB1.out (bs t) rfl (show u.length + t.length ≤ maxLen by unfold maxLen; omega) (show u.length + t.length ≤ _ by omega) hszr1 ?_; intro v1 w2 hown1 hgrow1 _; have HN1 := Lib.hid (HB1.out.more (l := t) hown1); have HF := Lib.hid (HB1.out.frg (HR.out.2.2.next HF1.out) hgrow1 (Nat.le_refl _)); clear hown1 hgrow1)
          go_roundg (s.length - (k + n))
          case measure => have := HK.out.1; omega
          case rel => exact ⟨k + n, _, _, u ++ t, rfl, rfl, by have := HK.out.1; omega, by go_num, by have := HK.out.2; rw [List.length_append]; omega, HN.out, HN1.out, HF.out⟩
      · have t38 : ((c.toNat : Int) != 38) = true := by
          have h := u8_ne (n := 38) (by decide) h38
          rw [bne]; show (!((c.toNat : Int) == ((38 : Nat) : Int))) = true; rw [h]; rfl
        have t38b : ((c.toNat : Int) == 38) = false := u8_ne (n := 38) (by decide) h38
        have HN := Lib.hid (HR.out.1.plain hlt (by rw [hc]; exact h38))
        rw [hc] at HN
        have HA : Hid (Fr (fun _ => False) wr (wr.alloc (.cells #[.int .u8 (c.toNat : Int)] 5))) := (Fr.refl _ _).alloc _
        clear h38 hc hk hu
        go_wp2_with (at_builtin; refine wpList_append_row rfl (.tmp 16) (.tmp 20) 113 rfl w.heap.size 5 i0 (.int .u8 0) 1 1 Tryz.underlying113 hi0 hz0 hz1 hz2 rfl (by decide) bv u.length (Lib.byteCells u) rfl (HR.out.2.1.fr HA.out) (fun _ => True) _ 1 [.int .u8 (c.toNat : Int)] rfl (SRow.of_block (e := 5) (f := (0, 0)) (block_new _ _) rfl (by decide) trivial) (by simp [Value.oneCell']) (by unfold maxLen; omega) (by omega) (by simp; omega) ?_; intro b7 cap7 w7 hown7 hgrow7 _; have HN7 := Lib.hid (HR.out.2.1.more (l := [c]) hown7); have HF := Lib.hid ((HR.out.2.1.fr HA.out).frg (HR.out.2.2.next HA.out) hgrow7 (Nat.le_refl _)); clear hown7 hgrow7)
        go_roundg (s.length - (k + 1))
        case measure => have := HK.out.1; omega
        case rel => exact ⟨k + 1, _, _, u ++ [c], rfl, rfl, by have := HK.out.1; omega, by go_num, by have := HK.out.2; rw [List.length_append]; simp; omega, HN.out, HN7.out, HF.out⟩
    · obtain rfl : k = s.length := by omega
      have HE := Lib.hid (rsaid_ok HR.out.1.done)
      have hcv := HR.out.2.1.text
      clear hk hu
      go_wp2_with fail
      go_ret2
      exact ⟨by rw [HE.out] <;> rfl, HR.out.2.2⟩
end Go.Proofs.YtpinjgdnhbogoaaGreatDoor
