/- The walk of the law DiskMoves. -/
import Derived.Test.YtfcnjbkoneinpaaDoorOne
namespace Go.Proofs.YtfcnjbkoneinpaaDoor
open Go.RowKit Go.Lib

section
variable {w w' : World} {pb mb : Nat} {D : DiskD} {v : Value} {l : List ActM}
theorem acts_new {w1 : World} (h : ActsAt w1 (fun k => k < w.heap.size) v l) (hf : w.heap.size ≤ w1.heap.size) : ActsAt w1 (fun k => k < w1.heap.size) v l :=
  ⟨by obtain ⟨a', cap', q1, q2, q3, q4⟩ := h.form; exact ⟨a', cap', q1, q2, q3, fun hh => by obtain ⟨g, off, r1, r2, r3⟩ := q4 hh; exact ⟨g, off, r1, Nat.lt_of_lt_of_le r2 hf, r3⟩⟩, fun m hm => ⟨(h.acts m hm).keep.mono fun k hk => Nat.lt_of_lt_of_le hk hf, (h.acts m hm).noise.mono fun k hk => Nat.lt_of_lt_of_le hk hf, (h.acts m hm).op, (h.acts m hm).num⟩⟩
set_option maxRecDepth 100000 in
set_option maxHeartbeats 8000000 in
theorem moves_h (hA : ActsAt w (fun k => k < w.heap.size) v l) (s t : List UInt8) (c : Int) : Calls Tryd.prog 7 #[v, .string (bs s), .string (bs t), .int .i64 c] w fun e w' => e = .returned (.bool true) ∧ Fr (fun _ => False) w w' := by
  have HA := Lib.hid hA
  obtain ⟨⟨a, cap, rfl, hc1, hc2, _⟩, _⟩ := hA
  have z1 : (bs s).size = s.length := rfl
  have z2 : (bs t).size = t.length := rfl
  have z3 : bs s ++ bs t = bs (s ++ t) := bs_append _ _
  go_enter Tryd.func7, Tryd.ntmps7
  go_wp2_with fail
  refine Calls.mono (shown_h w) ?_
  rintro e w1 ⟨rfl, hF1⟩
  have HF1 := Lib.hid hF1
  clear hF1
  go_wp2_with fail
  refine Calls.mono (small_h (HA.out.grow HF1.out)) ?_
  rintro e w1 ⟨r, rfl, hr, rfl⟩
  have HR := Lib.hid hr
  clear hr
  cases r with
  | false =>
    go_wp2_with fail
    go_ret
    exact ⟨rfl, HF1.out⟩
  | true =>
    have HS := Lib.hid (HR.out.1 rfl)
    clear HR
    by_cases b1 : 600 < s.length
    · have e1 : decide (600 < (s.length : Int)) = true := by rw [decide_eq_true_iff]; omega
      have e1' : decide (600 < s.length) = true := by simpa using b1
      clear b1
      go_wp2_with fail
      go_ret
      exact ⟨rfl, HF1.out⟩
    have e1 : decide (600 < (s.length : Int)) = false := by rw [decide_eq_false_iff_not]; omega
    have e1' : decide (600 < s.length) = false := by simpa using b1
    by_cases b2 : 600 < t.length
    · have e2 : decide (600 < (t.length : Int)) = true := by rw [decide_eq_true_iff]; omega
      have e2' : decide (600 < t.length) = true := by simpa using b2
      clear b1 b2
      go_wp2_with fail
      go_ret
      exact ⟨rfl, HF1.out⟩
    have e2 : decide (600 < (t.length : Int)) = false := by rw [decide_eq_false_iff_not]; omega
    have e2' : decide (600 < t.length) = false := by simpa using b2
    have hs6 : s.length ≤ 600 := by omega
    have ht6 : t.length ≤ 600 := by omega
    have HZ := Lib.hid (And.intro hs6 ht6)
    clear b1 b2 hs6 ht6
    go_wp2_with fail
    refine Calls.mono (made_h (acts_new (HA.out.grow HF1.out) HF1.out.size) HS.out (most := 2999) (by decide) (by decide)) ?_
    rintro e w3 ⟨pb, mb, rfl, hD3, hf3, hp3, hm3⟩
    obtain ⟨D, hDD⟩ : ∃ D, playM (newD (pickZ 2999 3000)) l = D := ⟨_, rfl⟩
    rw [hDD] at hD3
    have H3 := Lib.hid (show OneAt w w3 pb mb D from ⟨hD3, HF1.out.next hf3, by have := HF1.out.size; omega⟩)
    clear hD3 hf3 hp3 hm3 hDD HF1 HS
    go_wp2_with fail
    refine Calls.mono (crash_h (S := fun _ => False) (S' := fun _ => False) H3.out.disk (IR.nil _ _) (IR.nil _ _) (fun _ h => h.elim) (fun _ h => h.elim) (by decide) (by decide)) ?_
    rintro e w4 ⟨rfl, hD4, hf4⟩
    have HC4 := Lib.hid (calm_crash (xb := xbG) (keep := []) (noise := []) H3.out.disk.inv ownN)
    have H5 := Lib.hid (H3.out.turn hD4 hf4)
    clear hD4 hf4 H3
    generalize crashD xbG D [] [] = D4 at *
    go_wp2_with fail
    refine Calls.mono (delete_h H5.out.disk ownN) ?_
    rintro e w6 ⟨rfl, hD6, hf6⟩
    have HC6 := Lib.hid (HC4.out.delete ownN).1
    have HG6 := Lib.hid (show getF (deleteD D4 ownN).2.files ownN = none by rw [(HC4.out.delete ownN).2, get_del, if_pos rfl])
    have H6 := Lib.hid (H5.out.turn hD6 hf6)
    clear hD6 hf6 H5 HC4
    generalize (deleteD D4 ownN).2 = D6 at *
    generalize (deleteD D4 ownN).1 = e6 at *
    go_wp2_with fail
    refine Calls.mono (delete_h H6.out.disk otherN) ?_
    rintro e w6 ⟨rfl, hD7, hf7⟩
    have HC7 := Lib.hid (HC6.out.delete otherN).1
    have HG7 := Lib.hid (show getF (deleteD D6 otherN).2.files ownN = none by rw [(HC6.out.delete otherN).2, get_del, if_neg (by decide)]; exact HG6.out)
    have H7 := Lib.hid (H6.out.turn hD7 hf7)
    clear hD7 hf7 H6 HC6 HG6
    have HG6 := HG7
    have HC6 := HC7
    have H6 := H7
    clear HG7 HC7 H7
    generalize (deleteD D6 otherN).2 = D7 at *
    generalize (deleteD D6 otherN).1 = e6' at *
    go_wp2_with fail
    refine Calls.mono (append_h H6.out.disk ownN s (by decide) (by have := HZ.out.1; omega)) ?_
    rintro e w7 ⟨rfl, hD7, hf7⟩
    have H7 := Lib.hid (H6.out.turn hD7 hf7)
    have HP7 := Lib.hid (HC6.out.append own_ok s)
    clear hD7 hf7 H6 HC6
    obtain ⟨⟨e7, D8⟩, hA7⟩ : ∃ x, appendD D7 ownN s = x := ⟨_, rfl⟩
    rw [hA7] at H7 HP7 ⊢
    clear hA7
    by_cases h70 : e7 = 0
    · subst h70
      have HP := Lib.hid (show Calm ownN D8 ∧ getF D8.files ownN = some ⟨ownN, s, 0⟩ from by
        rcases HP7.out with ⟨_, h2, h3, _⟩ | h | h
        · rw [grown_none HG6.out] at h3; exact ⟨h2, h3⟩
        · cases h
        · cases h)
      clear HP7 HG6
      go_wp2_with fail
      refine Calls.mono (sync_h H7.out.disk ownN) ?_
      rintro e w8 ⟨rfl, hD8, hf8⟩
      have H8 := Lib.hid (H7.out.turn hD8 hf8)
      have HP8 := Lib.hid (HP.out.1.sync HP.out.2)
      clear hD8 hf8 H7 HP
      obtain ⟨⟨e8, D9⟩, hA8⟩ : ∃ x, syncD D8 ownN = x := ⟨_, rfl⟩
      rw [hA8] at H8 HP8 ⊢
      clear hA8
      obtain rfl : e8 = 0 := HP8.out.1
      go_wp2_with fail
      refine Calls.mono (append_h H8.out.disk ownN t (by decide) (by have := HZ.out.2; omega)) ?_
      rintro e w9 ⟨rfl, hD9, hf9⟩
      have H9 := Lib.hid (H8.out.turn hD9 hf9)
      have HP9 := Lib.hid (And.intro HP8.out.2.2.1 (HP8.out.2.1.append own_ok t))
      clear hD9 hf9 H8 HP8
      obtain ⟨⟨e9, D10⟩, hA9⟩ : ∃ x, appendD D9 ownN t = x := ⟨_, rfl⟩
      rw [hA9] at H9 HP9 ⊢
      clear hA9
      by_cases h90 : e9 = 0
      · subst h90
        have HP := Lib.hid (show Calm ownN D10 ∧ getF D10.files ownN = some ⟨ownN, s ++ t, s.length⟩ from by
          obtain ⟨h1, ⟨_, h2, h3, _⟩ | h | h⟩ := HP9.out
          · rw [grown_some h1] at h3; exact ⟨h2, h3⟩
          · cases h
          · cases h)
        clear HP9
        go_wp2_with fail
        refine Calls.mono (rename_h H9.out.disk ownN otherN (by decide)) ?_
        rintro e w10 ⟨rfl, hD10, hf10⟩
        have H10 := Lib.hid (H9.out.turn hD10 hf10)
        have HP10 := Lib.hid (HP.out.1.rename HP.out.2 other_ok (by decide))
        clear hD10 hf10 H9 HP
        obtain ⟨⟨e10, D11⟩, hA10⟩ : ∃ x, renameD D10 ownN otherN = x := ⟨_, rfl⟩
        rw [hA10] at H10 HP10 ⊢
        clear hA10
        obtain rfl : e10 = 0 := HP10.out.1
        go_wp2_with fail
        refine Calls.mono (read_h H10.out.disk ownN) ?_
        rw [HP10.out.2.1.free.read_none HP10.out.2.2.2]
        rintro e w11 ⟨rfl, hf11⟩
        have H11 := Lib.hid (H10.out.grow hf11)
        clear hf11 H10
        go_wp2_with fail
        refine Calls.mono (read_h H11.out.disk otherN) ?_
        rw [HP10.out.2.1.free.read HP10.out.2.2.1]
        rintro e w12 ⟨rfl, hf12⟩
        have H12 := Lib.hid (H11.out.grow hf12)
        clear hf12 H11
        go_wp2_with fail
        have hF : Fr (fun _ => False) w12 (w12.alloc (.cells #[.int .i64 c] 3)) := (Fr.refl _ _).alloc _
        have hbA : (w12.alloc (.cells #[.int .i64 c] 3)).heap[w12.heap.size]? = some (.cells #[.int .i64 c] 3) := block_new_at rfl
        have hpm : pb < w12.heap.size ∧ mb < w12.heap.size := ⟨lt_of_block H12.out.disk.head, H12.out.disk.map.lt⟩
        have hcr := crash_h (S := fun k => w12.heap.size ≤ k) (S' := fun _ => False) (H12.out.disk.grow hF) (IR.lit (l := [c]) hbA (show 1 ≤ maxLen by decide) (Nat.le_refl _)) (IR.nil _ _) (fun k hk ho => by rcases ho with h | h <;> omega) (fun _ h => h.elim) (by simp) (by decide)
        have HCR := Lib.hid hcr
        have H12' := Lib.hid (H12.out.grow hF)
        have hrd := HP10.out.2.1.crash (xb := xbG) (keep := [c]) (noise := []) HP10.out.2.2.1
        rw [crash1_quiet] at hrd
        have HRD := Lib.hid hrd
        clear hF hbA hpm hcr H12 hrd
        generalize w12.alloc (.cells #[.int .i64 c] 3) = W at *
        refine Calls.mono HCR.out ?_
        rintro e w13 ⟨rfl, hD13, hf13⟩
        have H13 := Lib.hid (H12'.out.turn hD13 hf13)
        clear hD13 hf13 H12' HCR HP10
        go_wp2_with fail
        refine Calls.mono (read_h H13.out.disk otherN) ?_
        rw [HRD.out]
        rintro e w14 ⟨rfl, hf14⟩
        have H14 := Lib.hid (H13.out.grow hf14)
        clear hf14 H13 HRD
        obtain ⟨n, hn⟩ : ∃ n, keptN c t = n := ⟨_, rfl⟩
        have hmin : min (max c 0) (t.length : Int) = (n : Int) := by unfold keptN at hn; omega
        have hnt : n ≤ t.length := by rw [← hn]; exact keptN_le c t
        rw [hn]
        clear hn
        obtain ⟨k, hk⟩ : ∃ k, s.length + n = k := ⟨_, rfl⟩
        have hk1 : k ≤ (s ++ t).length := by rw [List.length_append]; omega
        have hw1 : IntKind.i64.wrap ((s.length : Int) + (n : Int)) = (k : Int) := by have := HZ.out; rw [IntWalk.i64_in _ (by omega)]; omega
        have hst : s.length + t.length ≤ 9223372036854775807 := by have := HZ.out; omega
        rw [hk]
        obtain ⟨u, hu⟩ : ∃ u, s ++ t = u := ⟨_, rfl⟩
        rw [hu] at z3 hk1 ⊢
        have z4 : (bs u).size = u.length := rfl
        have hx : (bs u).extract 0 k = bs (u.take k) := bs_take _ _
        have tu := bs_toList u
        have tk := bs_toList (u.take k)
        have d1 : (u == u) = true := by simp
        have d2 : (u.take k == u.take k) = true := by simp
        clear hu hk hnt
        have hk0 : 0 ≤ (k : Int) := by omega
        have hk2 : (k : Int) ≤ (u.length : Int) := by omega
        go_wp2_with fail
        go_ret
        exact ⟨rfl, H14.out.fr⟩
      · have d9 : (e9 == 0) = false := by simpa using h90
        clear HP9 h90
        go_wp2_with fail
        go_ret
        exact ⟨rfl, H9.out.fr⟩
    · have d7 : (e7 == 0) = false := by simpa using h70
      rcases HP7.out with ⟨h, _⟩ | h | h
      · exact absurd h h70
      · obtain rfl : e7 = 6 := h
        clear HP7 h70
        go_wp2_with fail
        go_ret
        exact ⟨rfl, H7.out.fr⟩
      · obtain rfl : e7 = 11 := h
        clear HP7 h70
        go_wp2_with fail
        go_ret
        exact ⟨rfl, H7.out.fr⟩
end
end Go.Proofs.YtfcnjbkoneinpaaDoor
