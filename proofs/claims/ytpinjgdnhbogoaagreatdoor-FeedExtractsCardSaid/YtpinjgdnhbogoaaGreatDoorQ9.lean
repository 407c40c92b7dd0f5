/- The reference's said. -/
import Derived.Test.YtpinjgdnhbogoaaGreatDoorQ7
import Derived.Test.YtpinjgdnhbogoaaGreatDoorQ4
namespace Go.Proofs.YtpinjgdnhbogoaaGreatDoor
open Go.RowKit Go.Lib

def rsaidV (s : Str) : Value := match saidL s with | .ok u => .tuple #[.string (bs u), .int .i64 (-1)] | .error k => .tuple #[.string ⟨#[]⟩, .int .i64 (k : Int)]
theorem rsaid_ok {s u : Str} (h : saidL s = .ok u) : rsaidV s = .tuple #[.string (bs u), .int .i64 (-1)] := by unfold rsaidV; rw [h]
theorem rsaid_bad {s : Str} {k : Nat} (h : saidL s = .error k) : rsaidV s = .tuple #[.string ⟨#[]⟩, .int .i64 (k : Int)] := by unfold rsaidV; rw [h]
theorem rref_no {m : Str} (h : refL m = none) : rrefV m = .tuple #[.string ⟨#[]⟩, .int .i64 0] := by unfold rrefV; rw [h]
theorem rref_yes {m t left : Str} (h : refL m = some (t, left)) : rrefV m = .tuple #[.string (bs t), .int .i64 ((1 + (m.length - left.length) : Nat) : Int)] := by unfold rrefV; rw [h]
set_option maxRecDepth 100000 in
set_option maxHeartbeats 8000000 in
theorem rsaid_h {w : World} (s : Str) (hs : s.length ≤ 900000) : Calls Tryz.prog 84 #[.string (bs s)] w fun e w' => e = .returned (rsaidV s) ∧ Fr (fun _ => False) w w' := by
  have hsz : (bs s).size = s.length := rfl
  obtain ⟨i0, hi0, hz0, hz1, hz2⟩ := info_parts info5
  go_enter Tryz.func84, Tryz.ntmps84
  go_wp2_with fail
  go_loopg [4, 5] s.length (fun j v4 v5 w' => ∃ (k : Nat) (wr : World) (bv : Value) (u : Str), wr = w' ∧ bv = v4 ∧ k + j = s.length ∧ v5 = .int .i64 k ∧ u.length ≤ 4 * k ∧ Hid (SaidAt s k u ∧ BRow w.heap.size wr bv u ∧ Fr (fun _ => False) w wr))
  case atStart => exact ⟨0, _, _, [], rfl, rfl, by omega, rfl, by simp, SaidAt.start s, BRow.nil _ _, Fr.refl _ _⟩
  case round =>
    obtain ⟨k, wr, bv, u, rfl, rfl, hk, rfl, hu, HR⟩ := hrel
    have hul : u.length ≤ 4000000 := by omega
    have hszr := HR.out.2.2.size
    by_cases hlt : k < s.length
    · have hz : k < (bs s).size := by rw [hsz]; exact hlt
      have hg := bs_at s k hz
      obtain ⟨c, hc⟩ : ∃ c, s.getD k 0 = c := ⟨_, rfl⟩
      rw [hc] at hg
      have HK := Lib.hid (And.intro hk hu)
      have HLt := Lib.hid hlt
      by_cases h38 : c = 38
      · have t38 : ((c.toNat : Int) != 38) = false := by subst h38; rfl
        have t38b : ((c.toNat : Int) == 38) = true := by subst h38; rfl
        have hcc : s.getD k 0 = 38 := by rw [hc, h38]
        obtain ⟨more, hmore⟩ : ∃ more, s.drop (k + 1) = more := ⟨_, rfl⟩
        have hml : more.length ≤ 900000 := by rw [← hmore, List.length_drop]; omega
        have hml2 : more.length = s.length - (k + 1) := by rw [← hmore, List.length_drop]
        have hx : (bs s).extract k s.length = bs (38 :: more) := by rw [bs_drop, drop_getD hlt, hcc, hmore]
        have HRef := Lib.hid (fun (W : World) => rreference_h (w := W) more hml)
        cases hr : refL more with
        | none =>
          have HE := Lib.hid (rsaid_bad (HR.out.1.bad hlt hcc (by rw [hmore]; exact hr)))
          rw [rref_no hr] at HRef
          clear hr h38 hcc hmore hml hml2 hc hk hu
          go_wp2_with fail
          refine Calls.mono (HRef.out _) ?_
          rintro e w1 ⟨rfl, hF1⟩
          have HF1 := Lib.hid (HR.out.2.2.next hF1)
          clear hF1
          go_wp2_with fail
          go_ret2
          exact ⟨by rw [HE.out] <;> rfl, HF1.out⟩
        | some q =>
          obtain ⟨t, left⟩ := q
          have hrl := refL_len hr
          have htl := ref_out hr
          have HN := Lib.hid (HR.out.1.ref hlt hcc (by rw [hmore]; exact hr))
          rw [hmore] at HN
          rw [rref_yes hr] at HRef
          obtain ⟨n, hn⟩ : ∃ n, 1 + (more.length - left.length) = n := ⟨_, rfl⟩
          rw [hn] at HN HRef
          have hn1 : 2 ≤ n ∧ n ≤ 900002 := by omega
          have hn2 : k + n ≤ s.length := by omega
          have hn0 : ((n : Int) == 0) = false := by rw [beq_eq_false_iff_ne]; omega
          obtain ⟨hn3, hn4⟩ := hn1
          clear hr h38 hcc hmore hml hml2 hc hk hu hrl hn
          go_wp2_with fail
          refine Calls.mono (HRef.out _) ?_
          rintro e w1 ⟨rfl, hF1⟩
          have HF1 := Lib.hid hF1
          have HB1 := Lib.hid (HR.out.2.1.fr hF1)
          have hszr1 : w.heap.size ≤ w1.heap.size := Nat.le_trans hszr hF1.size
          clear hF1
          go_wp2_with (at_builtin; refine Lib.wpList_append_own_string _ rfl (.tmp 34) (.tmp 35) 113 9 rfl w.heap.size 5 i0 Tryz.underlying113 Tryz.underlying9 hi0 hz0 hz1 hz2 _ _ _ rfl HB1.out (bs t) rfl (show u.length + t.length ≤ maxLen by unfold maxLen; omega) (show u.length + t.length ≤ _ by omega) hszr1 ?_; intro v1 w2 hown1 hgrow1 _; have HN1 := Lib.hid (HB1.out.more (l := t) hown1); have HF := Lib.hid (HB1.out.frg (HR.out.2.2.next HF1.out) hgrow1 (Nat.le_refl _)); clear hown1 hgrow1)
          go_roundg (s.length - (k + n))
          case measure => have := HK.out.1; omega
          case rel => exact ⟨k + n, _, _, u ++ t, rfl, rfl, by have := HK.out.1; omega, by go_num, by have := HK.out.2; rw [List.length_append]; omega, HN.out, HN1.out, HF.out⟩
      · have t38 : ((c.toNat : Int) != 38) = true := by
          have h := u8_ne (n := 38) (by decide) h38
          rw [bne]; show (!((c.toNat : Int) == ((38 : Nat) : Int))) = true; rw [h]; rfl
        have t38b : ((c.toNat : Int) == 38) = false := u8_ne (n := 38) (by decide) h38
        have HN := Lib.hid (HR.out.1.plain hlt (by rw [hc]; exact h38))
        rw [hc] at HN
        have HA : Hid (Fr (fun _ => False) wr (wr.alloc (.cells #[.int .u8 (c.toNat : Int)] 5))) := (Fr.refl _ _).alloc _
        clear h38 hc hk hu
        go_wp2_with (at_builtin; refine wpList_append_row rfl (.tmp 16) (.tmp 20) 113 rfl w.heap.size 5 i0 (.int .u8 0) 1 1 Tryz.underlying113 hi0 hz0 hz1 hz2 rfl (by decide) bv u.length (Lib.byteCells u) rfl (HR.out.2.1.fr HA.out) (fun _ => True) _ 1 [.int .u8 (c.toNat : Int)] rfl (SRow.of_block (e := 5) (f := (0, 0)) (block_new _ _) rfl (by decide) trivial) (by simp [Value.oneCell']) (by unfold maxLen; omega) (by omega) (by simp; omega) ?_; intro b7 cap7 w7 hown7 hgrow7 _; have HN7 := Lib.hid (HR.out.2.1.more (l := [c]) hown7); have HF := Lib.hid ((HR.out.2.1.fr HA.out).frg (HR.out.2.2.next HA.out) hgrow7 (Nat.le_refl _)); clear hown7 hgrow7)
        go_roundg (s.length - (k + 1))
        case measure => have := HK.out.1; omega
        case rel => exact ⟨k + 1, _, _, u ++ [c], rfl, rfl, by have := HK.out.1; omega, by go_num, by have := HK.out.2; rw [List.length_append]; simp; omega, HN.out, HN7.out, HF.out⟩
    · obtain rfl : k = s.length := by omega
      have HE := Lib.hid (rsaid_ok HR.out.1.done)
      have hcv := HR.out.2.1.text
      clear hk hu
      go_wp2_with fail
      go_ret2
      exact ⟨by rw [HE.out] <;> rfl, HR.out.2.2⟩
end Go.Proofs.YtpinjgdnhbogoaaGreatDoor

/- The reference's attr. -/
namespace Go.Proofs.YtpinjgdnhbogoaaGreatDoor
open Go.RowKit Go.Lib

def rattrV (s : Str) : Value := match attrL s with | none => .tuple #[.agg #[.string ⟨#[]⟩, .string ⟨#[]⟩], .int .i64 0] | some (a, v, left) => .tuple #[.agg #[.string (bs a), .string (bs v)], .int .i64 ((s.length - left.length : Nat) : Int)]
theorem rattr_no {s : Str} (h : attrL s = none) : rattrV s = .tuple #[.agg #[.string ⟨#[]⟩, .string ⟨#[]⟩], .int .i64 0] := by unfold rattrV; rw [h]
theorem rattr_yes {s a v left : Str} (h : attrL s = some (a, v, left)) : rattrV s = .tuple #[.agg #[.string (bs a), .string (bs v)], .int .i64 ((s.length - left.length : Nat) : Int)] := by unfold rattrV; rw [h]
theorem set2 {w W : World} {x y a b : Value} (hb : W.heap[w.heap.size]? = some (.cells #[x, y] 95 (0, 0))) (hf : Fr (fun _ => False) w W) :
    ((W.setCell ⟨w.heap.size, 0, none⟩ a).setCell ⟨w.heap.size, 1, none⟩ b).cell? ⟨w.heap.size, 0, none⟩ = some a ∧ ((W.setCell ⟨w.heap.size, 0, none⟩ a).setCell ⟨w.heap.size, 1, none⟩ b).cell? ⟨w.heap.size, 1, none⟩ = some b ∧
    Fr (fun _ => False) w ((W.setCell ⟨w.heap.size, 0, none⟩ a).setCell ⟨w.heap.size, 1, none⟩ b) := by
  have hz := block_set (block_set hb 0 a) 1 b
  exact ⟨cell_of hz (i := 0) rfl, cell_of hz (i := 1) rfl, (hf.setCell (p := ⟨w.heap.size, 0, none⟩) (.inr (Nat.le_refl _)) a).setCell (p := ⟨w.heap.size, 1, none⟩) (.inr (Nat.le_refl _)) b⟩
theorem u8_int {c : UInt8} {n : Nat} (hn : n < 256) (h : c ≠ UInt8.ofNat n) : ((c.toNat : Int) == (n : Int)) = false ∧ ((c.toNat : Int) != (n : Int)) = true := by
  have e := u8_ne hn h
  exact ⟨e, by rw [bne, e]; rfl⟩
set_option maxRecDepth 100000 in
set_option maxHeartbeats 2000000 in
theorem rattr_h {w : World} (s : Str) (hs : s.length ≤ 100000) : Calls Tryz.prog 151 #[.string (bs s)] w fun e w' => e = .returned (rattrV s) ∧ Fr (fun _ => False) w w' := by
  have hsz : (bs s).size = s.length := rfl
  have HB0 : Hid ((w.alloc (.cells #[.string ⟨#[]⟩, .string ⟨#[]⟩] 95)).heap[w.heap.size]? = some (.cells #[.string ⟨#[]⟩, .string ⟨#[]⟩] 95 (0, 0))) := block_new _ _
  have HF0 : Hid (Fr (fun _ => False) w (w.alloc (.cells #[.string ⟨#[]⟩, .string ⟨#[]⟩] 95))) := (Fr.refl _ _).alloc _
  have hl0 : w.heap.size < (w.alloc (.cells #[.string ⟨#[]⟩, .string ⟨#[]⟩] 95)).heap.size := by simp
  have f0 := free_of 0 HB0.out
  have f1 := free_of 1 HB0.out
  have c0 := cell_of HB0.out (i := 0) (v := .string ⟨#[]⟩) rfl
  have c1 := cell_of HB0.out (i := 1) (v := .string ⟨#[]⟩) rfl
  have HName := Lib.hid (fun (W : World) => rname_h (w := W) s (by omega))
  have hnl := name_le s
  obtain ⟨n, hn⟩ : ∃ n, nameL s = n := ⟨_, rfl⟩
  have HB1 := Lib.hid (fun (W : World) => rblanks_h (w := W) (s.drop n.length) (by rw [List.length_drop]; omega))
  have hx1 := bs_drop s n.length
  have hi1 : eqAt s = n.length + blanksN (s.drop n.length) := by unfold eqAt; rw [hn]
  have hle1 := eq_le s
  rw [hn] at HName hnl
  obtain ⟨d1, hd1⟩ : ∃ d1, s.drop n.length = d1 := ⟨_, rfl⟩
  rw [hd1] at HB1 hx1 hi1
  obtain ⟨k1, hk1⟩ : ∃ k1, blanksN d1 = k1 := ⟨_, rfl⟩
  rw [hk1] at HB1 hi1
  have HS := Lib.hid (And.intro hn hi1)
  have hnk : n.length + k1 ≤ s.length := by omega
  clear hi1 hle1 hd1 hk1
  by_cases hn0 : n = []
  · subst hn0
    have HR := Lib.hid (rattr_no (attr_noName HS.out.1))
    have hnb : bs ([] : Str) = ⟨#[]⟩ := rfl
    have hn00 : ([] : Str).length = 0 := rfl
    rw [hnb] at HName
    rw [hn00] at hx1 hnl hnk HS
    simp only [Nat.zero_add] at hnk
    clear hn hnb hn00 hnl
    go_enter Tryz.func151, Tryz.ntmps151
    go_wp2_with fail
    refine Calls.mono (HName.out _) ?_
    rintro e w1 ⟨rfl, rfl⟩
    go_wp2_with fail
    refine Calls.mono (HB1.out _) ?_
    rintro e w1 ⟨rfl, rfl⟩
    go_wp2_with fail
    refine bodyPost_ret (v := .tuple #[.agg #[.string ⟨#[]⟩, .string ⟨#[]⟩], .int .i64 0]) (by simp [results, Tryz.results151, go_sem, c0, c1] <;> rfl) rfl ?_
    exact ⟨by rw [HR.out] <;> rfl, HF0.out⟩
  have hnz : (bs n).size = n.length := rfl
  have tn : ((bs n).toList == []) = false := by rw [bs_toList]; exact beq_eq_false_iff_ne.2 hn0
  have tn2 : decide (bs n = ⟨#[]⟩) = false := decide_eq_false fun e => hn0 (bs_inj2 e)
  have HN0 := Lib.hid hn0
  clear hn0 hn
  by_cases h1 : n.length + k1 < s.length
  case neg =>
    have HR := Lib.hid (rattr_no (attr_noEq (.inl (by rw [HS.out.2]; omega))))
    have t1 : decide ((s.length : Int) ≤ (n.length : Int) + (k1 : Int)) = true := decide_eq_true (by omega)
    clear h1
    go_enter Tryz.func151, Tryz.ntmps151
    go_wp2_with fail
    refine Calls.mono (HName.out _) ?_
    rintro e w1 ⟨rfl, rfl⟩
    go_wp2_with fail
    refine Calls.mono (HB1.out _) ?_
    rintro e w1 ⟨rfl, rfl⟩
    go_wp2_with fail
    refine bodyPost_ret (v := .tuple #[.agg #[.string ⟨#[]⟩, .string ⟨#[]⟩], .int .i64 0]) (by simp [results, Tryz.results151, go_sem, c0, c1] <;> rfl) rfl ?_
    exact ⟨by rw [HR.out] <;> rfl, HF0.out⟩
  have t1 : decide ((s.length : Int) ≤ (n.length : Int) + (k1 : Int)) = false := decide_eq_false (by omega)
  have hz1 : n.length + k1 < (bs s).size := h1
  have hg1 := bs_at s (n.length + k1) hz1
  obtain ⟨q1, hq1⟩ : ∃ q1, s.getD (n.length + k1) 0 = q1 := ⟨_, rfl⟩
  rw [hq1] at hg1
  by_cases h61 : q1 = 61
  case neg =>
    obtain ⟨u1, u2⟩ := u8_int (n := 61) (by decide) h61
    have HR := Lib.hid (rattr_no (attr_noEq (.inr (by rw [HS.out.2, hq1]; exact h61))))
    clear hq1 h61
    go_enter Tryz.func151, Tryz.ntmps151
    go_wp2_with fail
    refine Calls.mono (HName.out _) ?_
    rintro e w1 ⟨rfl, rfl⟩
    go_wp2_with fail
    refine Calls.mono (HB1.out _) ?_
    rintro e w1 ⟨rfl, rfl⟩
    go_wp2_with fail
    refine bodyPost_ret (v := .tuple #[.agg #[.string ⟨#[]⟩, .string ⟨#[]⟩], .int .i64 0]) (by simp [results, Tryz.results151, go_sem, c0, c1] <;> rfl) rfl ?_
    exact ⟨by rw [HR.out] <;> rfl, HF0.out⟩
  have u1 : ((q1.toNat : Int) == 61) = true := by subst h61; rfl
  have u2 : ((q1.toNat : Int) != 61) = false := by subst h61; rfl
  have HQ1 : Hid (eqAt s < s.length ∧ s.getD (eqAt s) 0 = 61 ∧ nameL s ≠ []) := ⟨by rw [HS.out.2]; exact h1, by rw [HS.out.2, hq1]; exact h61, by rw [HS.out.1]; exact HN0.out⟩
  clear hq1 h61
  have hi2 : quoteAt s = n.length + k1 + 1 + blanksN (s.drop (n.length + k1 + 1)) := by unfold quoteAt; rw [HS.out.2]
  have hle2 := quote_le HQ1.out.1
  have HB2 := Lib.hid (fun (W : World) => rblanks_h (w := W) (s.drop (n.length + k1 + 1)) (by rw [List.length_drop]; omega))
  have hx2 := bs_drop s (n.length + k1 + 1)
  obtain ⟨d2, hd2⟩ : ∃ d2, s.drop (n.length + k1 + 1) = d2 := ⟨_, rfl⟩
  rw [hd2] at HB2 hx2 hi2
  obtain ⟨k2, hk2⟩ : ∃ k2, blanksN d2 = k2 := ⟨_, rfl⟩
  rw [hk2] at HB2 hi2
  have HS2 := Lib.hid hi2
  have hnk2 : n.length + k1 + 1 + k2 ≤ s.length := by omega
  clear hi2 hle2 hd2 hk2
  by_cases h2 : n.length + k1 + 1 + k2 < s.length
  case neg =>
    have HR := Lib.hid (rattr_no (attr_noQuote HQ1.out.1 (.inl (by rw [HS2.out]; omega))))
    have t2 : decide ((s.length : Int) ≤ (n.length : Int) + (k1 : Int) + 1 + (k2 : Int)) = true := decide_eq_true (by omega)
    clear h2
    go_enter Tryz.func151, Tryz.ntmps151
    go_wp2_with fail
    refine Calls.mono (HName.out _) ?_
    rintro e w1 ⟨rfl, rfl⟩
    go_wp2_with fail
    refine Calls.mono (HB1.out _) ?_
    rintro e w1 ⟨rfl, rfl⟩
    go_wp2_with fail
    refine Calls.mono (HB2.out _) ?_
    rintro e w1 ⟨rfl, rfl⟩
    go_wp2_with fail
    refine bodyPost_ret (v := .tuple #[.agg #[.string ⟨#[]⟩, .string ⟨#[]⟩], .int .i64 0]) (by simp [results, Tryz.results151, go_sem, c0, c1] <;> rfl) rfl ?_
    exact ⟨by rw [HR.out] <;> rfl, HF0.out⟩
  have t2 : decide ((s.length : Int) ≤ (n.length : Int) + (k1 : Int) + 1 + (k2 : Int)) = false := decide_eq_false (by omega)
  have ia : (0 : Int) ≤ (n.length : Int) + (k1 : Int) + 1 + (k2 : Int) := by omega
  have ib : (n.length : Int) + (k1 : Int) + 1 + (k2 : Int) < (s.length : Int) := by omega
  have hz2 : n.length + k1 + 1 + k2 < (bs s).size := h2
  have hg2 := bs_at s (n.length + k1 + 1 + k2) hz2
  obtain ⟨q, hq⟩ : ∃ q, s.getD (n.length + k1 + 1 + k2) 0 = q := ⟨_, rfl⟩
  rw [hq] at hg2
  by_cases hqq : q = 34 ∨ q = 39
  case neg =>
    have h34 : q ≠ 34 := fun e => hqq (.inl e)
    have h39 : q ≠ 39 := fun e => hqq (.inr e)
    obtain ⟨v1, v2⟩ := u8_int (n := 34) (by decide) h34
    obtain ⟨v3, v4⟩ := u8_int (n := 39) (by decide) h39
    have v7 : ((q.toNat : Int) != 34) = true := v2
    have v8 : ((q.toNat : Int) != 39) = true := v4
    have v5 : ¬ (q.toNat : Int) = 34 := by rw [beq_eq_false_iff_ne] at v1; exact v1
    have v6 : ¬ (q.toNat : Int) = 39 := by rw [beq_eq_false_iff_ne] at v3; exact v3
    have HR := Lib.hid (rattr_no (attr_noQuote HQ1.out.1 (.inr (by rw [HS2.out, hq]; exact ⟨h34, h39⟩))))
    clear hq h34 h39 hqq
    go_enter Tryz.func151, Tryz.ntmps151
    go_wp2_with fail
    refine Calls.mono (HName.out _) ?_
    rintro e w1 ⟨rfl, rfl⟩
    go_wp2_with fail
    refine Calls.mono (HB1.out _) ?_
    rintro e w1 ⟨rfl, rfl⟩
    go_wp2_with fail
    refine Calls.mono (HB2.out _) ?_
    rintro e w1 ⟨rfl, rfl⟩
    go_wp2_with fail
    refine bodyPost_ret (v := .tuple #[.agg #[.string ⟨#[]⟩, .string ⟨#[]⟩], .int .i64 0]) (by simp [results, Tryz.results151, go_sem, c0, c1] <;> rfl) rfl ?_
    exact ⟨by rw [HR.out] <;> rfl, HF0.out⟩
  have HQ2 : Hid (quoteAt s < s.length ∧ s.getD (quoteAt s) 0 = q ∧ (q = 34 ∨ q = 39)) := ⟨by rw [HS2.out]; exact h2, by rw [HS2.out, hq], hqq⟩
  have vq : (((q.toNat : Int) == 34) = true ∧ ((q.toNat : Int) != 34) = false ∧ (q.toNat : Int) = 34 ∧ True) ∨ (((q.toNat : Int) == 34) = false ∧ ((q.toNat : Int) != 34) = true ∧ (¬ (q.toNat : Int) = 34) ∧ ((q.toNat : Int) == 39) = true ∧ ((q.toNat : Int) != 39) = false ∧ (q.toNat : Int) = 39) := by
    rcases hqq with rfl | rfl
    · exact .inl ⟨rfl, rfl, rfl, trivial⟩
    · exact .inr ⟨rfl, rfl, by decide, rfl, rfl, rfl⟩
  clear hq hqq
  obtain ⟨i2, hi2⟩ : ∃ i2 : Nat, n.length + k1 + 1 + k2 = i2 := ⟨_, rfl⟩
  have hi2z : (n.length : Int) + (k1 : Int) + 1 + (k2 : Int) = (i2 : Int) := by omega
  have HI2 : Hid (quoteAt s = i2) := HS2.out.trans hi2
  have hsq : ∀ W : World, (Instr.slice 9 (.string (bs s)) (some (.int .i64 ((n.length : Int) + (k1 : Int) + 1 + (k2 : Int)))) (some (.int .i64 ((n.length : Int) + (k1 : Int) + 1 + (k2 : Int) + 1))) none).run Tryz.prog W = .ok (.string (bs [q])) W := by
    intro W
    have h := slice_run (w := W) s (i := (n.length : Int) + (k1 : Int) + 1 + (k2 : Int)) (j := (n.length : Int) + (k1 : Int) + 1 + (k2 : Int) + 1) (a := i2) (b := i2 + 1) hi2z (by omega) (by omega) (by omega)
    have e : (s.drop i2).take (i2 + 1 - i2) = [q] := by
      have h3 : i2 < s.length := by omega
      rw [drop_getD h3, ← HI2.out, HQ2.out.2.1]; simp
    rw [e] at h
    exact h
  have HFd := Lib.hid (fun (W : World) => show Calls Tryz.prog 83 #[.string (bs s), .int .i64 ((n.length : Int) + (k1 : Int) + 1 + (k2 : Int) + 1), .string (bs [q])] W fun e w' => e = .returned (.int .i64 (findZ [q] s (i2 + 1))) ∧ W = w' by
    have h := rfind_h (w := W) s [q] (i2 + 1) (by omega) (by simp) (by simp) (by omega)
    rw [show ((i2 + 1 : Nat) : Int) = (n.length : Int) + (k1 : Int) + 1 + (k2 : Int) + 1 by omega] at h
    exact h)
  have HAT : Hid (∀ x, (match cutL [q] (s.drop (i2 + 1)) with | none => none | some (value, rest) => match saidL value with | .error _ => none | .ok v => if value.contains 60 then none else some (n, v, rest)) = x → attrL s = x) := by
    intro x hx
    rw [attr_quote HQ1.out.2.2 HQ1.out.1 HQ1.out.2.1 HQ2.out.1 (by rw [HQ2.out.2.1]; exact HQ2.out.2.2), HQ2.out.2.1, HI2.out, HS.out.1]
    exact hx
  by_cases hfn : findZ [q] s (i2 + 1) < 0
  case pos =>
    have HR := Lib.hid (rattr_no (HAT.out none (by rw [find_none hfn])))
    obtain ⟨z, hz⟩ : ∃ z, findZ [q] s (i2 + 1) = z := ⟨_, rfl⟩
    rw [hz] at HFd hfn
    clear hz hi2 hi2z
    rcases vq with ⟨v1, v2, v5, -⟩ | ⟨v1, v2, v5, v3, v4, v6⟩
    all_goals
      go_enter Tryz.func151, Tryz.ntmps151
      go_wp2_with fail
      refine Calls.mono (HName.out _) ?_
      rintro e w1 ⟨rfl, rfl⟩
      go_wp2_with fail
      refine Calls.mono (HB1.out _) ?_
      rintro e w1 ⟨rfl, rfl⟩
      go_wp2_with fail
      refine Calls.mono (HB2.out _) ?_
      rintro e w1 ⟨rfl, rfl⟩
      go_wp2_with fail
      refine Calls.mono (HFd.out _) ?_
      rintro e w1 ⟨rfl, rfl⟩
      go_wp2_with fail
      refine bodyPost_ret (v := .tuple #[.agg #[.string ⟨#[]⟩, .string ⟨#[]⟩], .int .i64 0]) (by simp [results, Tryz.results151, go_sem, c0, c1] <;> rfl) rfl ?_
      exact ⟨by rw [HR.out] <;> rfl, HF0.out⟩
  obtain ⟨value, rest, hc, hfe, hsp⟩ := find_some hfn
  have hpl := cut_place hc (by omega)
  obtain ⟨e, he⟩ : ∃ e : Nat, i2 + 1 + value.length = e := ⟨_, rfl⟩
  rw [he] at hfe hpl
  rw [hfe] at HFd
  have hel : e + 1 ≤ s.length := hpl.2.1
  have HPl := Lib.hid hpl.1
  have hmid := take_mid hsp (by omega)
  rw [he] at hmid
  have hvl : value.length ≤ 100000 := by omega
  have hxe := bs_take s e
  have HF2 := Lib.hid (fun (W : World) => show Calls Tryz.prog 83 #[.string (bs (s.take e)), .int .i64 ((n.length : Int) + (k1 : Int) + 1 + (k2 : Int) + 1), .string ⟨#[60]⟩] W fun e2 w' => e2 = .returned (.int .i64 (findZ [60] (s.take e) (i2 + 1))) ∧ W = w' by
    have h := rfind_h (w := W) (s.take e) [60] (i2 + 1) (by rw [List.length_take]; omega) (by simp) (by simp) (by omega)
    rw [show ((i2 + 1 : Nat) : Int) = (n.length : Int) + (k1 : Int) + 1 + (k2 : Int) + 1 by omega] at h
    exact h)
  have hft := find_take (c := 60) (s := s) (i := i2 + 1) (e := e)
  rw [hmid] at hft
  obtain ⟨z, hz⟩ : ∃ z, findZ [60] (s.take e) (i2 + 1) = z := ⟨_, rfl⟩
  rw [hz] at hft HF2
  have hne : ¬ (e : Int) < 0 := by omega
  clear hz hfn hfe hpl hmid hsp
  by_cases h60 : 60 ∈ value
  case pos =>
    have hz0 : 0 ≤ z := hft.2 h60
    have HR := Lib.hid (rattr_no (HAT.out none (by rw [hc]; dsimp only; cases saidL value with | error k => rfl | ok v => (show (if value.contains 60 = true then none else some (n, v, rest)) = none); rw [if_pos (by simpa using h60)])))
    clear hft h60 hc hi2 hi2z he
    rcases vq with ⟨v1, v2, v5, -⟩ | ⟨v1, v2, v5, v3, v4, v6⟩
    all_goals
      go_enter Tryz.func151, Tryz.ntmps151
      go_wp2_with fail
      refine Calls.mono (HName.out _) ?_
      rintro e w1 ⟨rfl, rfl⟩
      go_wp2_with fail
      refine Calls.mono (HB1.out _) ?_
      rintro e w1 ⟨rfl, rfl⟩
      go_wp2_with fail
      refine Calls.mono (HB2.out _) ?_
      rintro e w1 ⟨rfl, rfl⟩
      go_wp2_with fail
      refine Calls.mono (HFd.out _) ?_
      rintro e w1 ⟨rfl, rfl⟩
      go_wp2_with fail
      refine Calls.mono (HF2.out _) ?_
      rintro e w1 ⟨rfl, rfl⟩
      go_wp2_with fail
      refine bodyPost_ret (v := .tuple #[.agg #[.string ⟨#[]⟩, .string ⟨#[]⟩], .int .i64 0]) (by simp [results, Tryz.results151, go_sem, c0, c1] <;> rfl) rfl ?_
      exact ⟨by rw [HR.out] <;> rfl, HF0.out⟩
  have hz0 : ¬ 0 ≤ z := fun h => h60 (hft.1 h)
  have hz1 : z < 0 := by omega
  have hsv : ∀ W : World, (Instr.slice 9 (.string (bs s)) (some (.int .i64 ((n.length : Int) + (k1 : Int) + 1 + (k2 : Int) + 1))) (some (.int .i64 (e : Int))) none).run Tryz.prog W = .ok (.string (bs value)) W := by
    intro W
    have h := slice_run (w := W) s (i := (n.length : Int) + (k1 : Int) + 1 + (k2 : Int) + 1) (j := (e : Int)) (a := i2 + 1) (b := e) (by omega) rfl (by omega) (by omega)
    have e3 : (s.drop (i2 + 1)).take (e - (i2 + 1)) = value := by
      rw [cutL_some hc, show e - (i2 + 1) = value.length by omega, List.take_left' rfl]
    rw [e3] at h
    exact h
  have HSd := Lib.hid (fun (W : World) => rsaid_h (w := W) value (by omega))
  cases hsd : saidL value with
  | error k =>
    have HR := Lib.hid (rattr_no (HAT.out none (by rw [hc]; dsimp only; rw [hsd])))
    rw [rsaid_bad hsd] at HSd
    clear hft h60 hc hi2 hi2z he hsd hz0
    rcases vq with ⟨v1, v2, v5, -⟩ | ⟨v1, v2, v5, v3, v4, v6⟩
    all_goals
      go_enter Tryz.func151, Tryz.ntmps151
      go_wp2_with fail
      refine Calls.mono (HName.out _) ?_
      rintro e w1 ⟨rfl, rfl⟩
      go_wp2_with fail
      refine Calls.mono (HB1.out _) ?_
      rintro e w1 ⟨rfl, rfl⟩
      go_wp2_with fail
      refine Calls.mono (HB2.out _) ?_
      rintro e w1 ⟨rfl, rfl⟩
      go_wp2_with fail
      refine Calls.mono (HFd.out _) ?_
      rintro e w1 ⟨rfl, rfl⟩
      go_wp2_with fail
      refine Calls.mono (HF2.out _) ?_
      rintro e w1 ⟨rfl, rfl⟩
      go_wp2_with fail
      refine Calls.mono (HSd.out _) ?_
      rintro e w5 ⟨rfl, hF5⟩
      have HF5 := Lib.hid (HF0.out.next hF5)
      have HB5 := Lib.hid (hF5.keep HB0.out (fun h => h))
      have d0 := cell_of HB5.out (i := 0) (v := .string ⟨#[]⟩) rfl
      have d1 := cell_of HB5.out (i := 1) (v := .string ⟨#[]⟩) rfl
      have g0 := free_of 0 HB5.out
      have g1 := free_of 1 HB5.out
      have hl5 : w.heap.size < w5.heap.size := lt_of_block HB5.out
      clear hF5
      go_wp2_with fail
      have HX := Lib.hid (set2 (a := .string ⟨#[]⟩) (b := .string ⟨#[]⟩) HB5.out HF5.out)
      have e0 := HX.out.1
      have e1 := HX.out.2.1
      refine bodyPost_ret (v := .tuple #[.agg #[.string ⟨#[]⟩, .string ⟨#[]⟩], .int .i64 0]) (by simp [results, Tryz.results151, go_sem, e0, e1] <;> rfl) rfl ?_
      exact ⟨by rw [HR.out] <;> rfl, HX.out.2.2⟩
  | ok v =>
    have HR := Lib.hid (rattr_yes (HAT.out (some (n, v, rest)) (by rw [hc]; dsimp only; rw [hsd]; dsimp only; rw [if_neg (by simpa using h60)])))
    rw [rsaid_ok hsd] at HSd
    rw [HPl.out] at HR
    clear hft h60 hc hi2 hi2z he hsd hz0
    rcases vq with ⟨v1, v2, v5, -⟩ | ⟨v1, v2, v5, v3, v4, v6⟩
    all_goals
      go_enter Tryz.func151, Tryz.ntmps151
      go_wp2_with fail
      refine Calls.mono (HName.out _) ?_
      rintro e w1 ⟨rfl, rfl⟩
      go_wp2_with fail
      refine Calls.mono (HB1.out _) ?_
      rintro e w1 ⟨rfl, rfl⟩
      go_wp2_with fail
      refine Calls.mono (HB2.out _) ?_
      rintro e w1 ⟨rfl, rfl⟩
      go_wp2_with fail
      refine Calls.mono (HFd.out _) ?_
      rintro e w1 ⟨rfl, rfl⟩
      go_wp2_with fail
      refine Calls.mono (HF2.out _) ?_
      rintro e w1 ⟨rfl, rfl⟩
      go_wp2_with fail
      refine Calls.mono (HSd.out _) ?_
      rintro e w5 ⟨rfl, hF5⟩
      have HF5 := Lib.hid (HF0.out.next hF5)
      have HB5 := Lib.hid (hF5.keep HB0.out (fun h => h))
      have d0 := cell_of HB5.out (i := 0) (v := .string ⟨#[]⟩) rfl
      have d1 := cell_of HB5.out (i := 1) (v := .string ⟨#[]⟩) rfl
      have g0 := free_of 0 HB5.out
      have g1 := free_of 1 HB5.out
      have hl5 : w.heap.size < w5.heap.size := lt_of_block HB5.out
      clear hF5
      go_wp2_with fail
      have HX := Lib.hid (set2 (a := .string (bs n)) (b := .string (bs v)) HB5.out HF5.out)
      have e0 := HX.out.1
      have e1 := HX.out.2.1
      refine bodyPost_ret (v := .tuple #[.agg #[.string (bs n), .string (bs v)], .int .i64 ((e : Int) + 1)]) (by simp [results, Tryz.results151, go_sem, e0, e1] <;> rfl) rfl ?_
      exact ⟨by rw [HR.out] <;> rfl, HX.out.2.2⟩
end Go.Proofs.YtpinjgdnhbogoaaGreatDoor
