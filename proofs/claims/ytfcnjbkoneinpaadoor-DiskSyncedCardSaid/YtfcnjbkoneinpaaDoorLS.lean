/- The walk of the law DiskSynced. -/
import Derived.Test.YtfcnjbkoneinpaaDoorOne
namespace Go.Proofs.YtfcnjbkoneinpaaDoor
open Go.RowKit Go.Lib

theorem w64_id {x : Int} (h1 : 0 ≤ x) (h2 : x ≤ 1000000) : wrap64 x = x := by unfold wrap64; omega
theorem wrap_id {x : Int} (h1 : 0 ≤ x) (h2 : x ≤ 1000000) : IntKind.i64.wrap x = x := IntWalk.i64_in _ (by omega)
theorem bs_sub (l : List UInt8) (i j : Nat) : (bs l).extract i j = bs ((l.take j).drop i) := by
  apply ByteArray.ext
  apply Array.ext'
  rw [ByteArray.data_extract, Array.toList_extract]
  show List.extract l i j = (l.take j).drop i
  rw [List.extract_eq_take_drop, List.drop_take]
section
variable {w w' : World} {pb mb : Nat} {D : DiskD} {v : Value} {l : List ActM}
set_option maxRecDepth 100000 in
set_option maxHeartbeats 2000000 in
theorem synced_h (hA : ActsAt w (fun k => k < w.heap.size) v l) (s t : List UInt8) (c y : Int) : Calls Tryd.prog 4 #[v, .string (bs s), .string (bs t), .int .i64 c, .int .i64 y] w fun e w' => e = .returned (.bool true) ∧ Fr (fun _ => False) w w' := by
  have HA := Lib.hid hA
  obtain ⟨⟨a, cap, rfl, hc1, hc2, _⟩, _⟩ := hA
  have z1 : (bs s).size = s.length := rfl
  have z2 : (bs t).size = t.length := rfl
  have t1 := bs_toList s
  go_enter Tryd.func4, Tryd.ntmps4
  go_wp2_with fail
  refine Calls.mono (shown_h w) ?_
  rintro e w1 ⟨rfl, hF1⟩
  have HF1 := Lib.hid hF1
  clear hF1
  go_wp2_with fail
  refine Calls.mono (small_h (HA.out.grow HF1.out)) ?_
  rintro e w1 ⟨r, rfl, hr, rfl⟩
  have HR := Lib.hid hr
  clear hr
  cases r with
  | false =>
    go_wp2_with fail
    go_ret
    exact ⟨rfl, HF1.out⟩
  | true =>
    have HS := Lib.hid (HR.out.1 rfl)
    clear HR
    by_cases b1 : 600 < s.length
    · have e1 : decide (600 < (s.length : Int)) = true := by rw [decide_eq_true_iff]; omega
      have e1' : decide (600 < s.length) = true := by simpa using b1
      clear b1
      go_wp2_with fail
      go_ret
      exact ⟨rfl, HF1.out⟩
    have e1 : decide (600 < (s.length : Int)) = false := by rw [decide_eq_false_iff_not]; omega
    have e1' : decide (600 < s.length) = false := by simpa using b1
    by_cases b2 : 600 < t.length
    · have e2 : decide (600 < (t.length : Int)) = true := by rw [decide_eq_true_iff]; omega
      have e2' : decide (600 < t.length) = true := by simpa using b2
      clear b1 b2
      go_wp2_with fail
      go_ret
      exact ⟨rfl, HF1.out⟩
    have e2 : decide (600 < (t.length : Int)) = false := by rw [decide_eq_false_iff_not]; omega
    have e2' : decide (600 < t.length) = false := by simpa using b2
    have hs6 : s.length ≤ 600 := by omega
    have ht6 : t.length ≤ 600 := by omega
    have HZ := Lib.hid (And.intro hs6 ht6)
    clear b1 b2 hs6 ht6
    go_wp2_with fail
    refine Calls.mono (made_h (HA.out.grow HF1.out |> fun h => ⟨by obtain ⟨a', cap', q1, q2, q3, q4⟩ := h.form; exact ⟨a', cap', q1, q2, q3, fun hh => by obtain ⟨g, off, r1, r2, r3⟩ := q4 hh; exact ⟨g, off, r1, Nat.lt_of_lt_of_le r2 HF1.out.size, r3⟩⟩, fun m hm => ⟨(h.acts m hm).keep.mono fun k hk => Nat.lt_of_lt_of_le hk HF1.out.size, (h.acts m hm).noise.mono fun k hk => Nat.lt_of_lt_of_le hk HF1.out.size, (h.acts m hm).op, (h.acts m hm).num⟩⟩) HS.out (most := 2999) (by decide) (by decide)) ?_
    rintro e w3 ⟨pb, mb, rfl, hD3, hf3, hp3, hm3⟩
    obtain ⟨D, hDD⟩ : ∃ D, playM (newD (pickZ 2999 3000)) l = D := ⟨_, rfl⟩
    rw [hDD] at hD3
    have H3 := Lib.hid (show OneAt w w3 pb mb D from ⟨hD3, HF1.out.next hf3, by have := HF1.out.size; omega⟩)
    clear hD3 hf3 hp3 hm3 hDD HF1 HS
    go_wp2_with fail
    refine Calls.mono (crash_h (S := fun _ => False) (S' := fun _ => False) H3.out.disk (IR.nil _ _) (IR.nil _ _) (fun _ h => h.elim) (fun _ h => h.elim) (by decide) (by decide)) ?_
    rintro e w4 ⟨rfl, hD4, hf4⟩
    have HC4 := Lib.hid (calm_crash (xb := xbG) (keep := []) (noise := []) H3.out.disk.inv ownN)
    have H4 := Lib.hid (H3.out.turn hD4 hf4)
    clear hD4 hf4 H3
    generalize crashD xbG D [] [] = D4 at *
    go_wp2_with fail
    refine Calls.mono (fuse_h H4.out.disk (k := -1) (by decide)) ?_
    rintro e w5 ⟨rfl, hD5, hf5⟩
    rw [fuse_free HC4.out.free] at hD5
    have H5 := Lib.hid (H4.out.turn hD5 hf5)
    clear hD5 hf5 H4
    go_wp2_with fail
    refine Calls.mono (delete_h H5.out.disk ownN) ?_
    rintro e w6 ⟨rfl, hD6, hf6⟩
    have HC6 := Lib.hid (HC4.out.delete ownN).1
    have HG6 := Lib.hid (show getF (deleteD D4 ownN).2.files ownN = none by rw [(HC4.out.delete ownN).2, get_del, if_pos rfl])
    have H6 := Lib.hid (H5.out.turn hD6 hf6)
    clear hD6 hf6 H5 HC4
    generalize (deleteD D4 ownN).2 = D6 at *
    generalize (deleteD D4 ownN).1 = e6 at *
    go_wp2_with fail
    refine Calls.mono (append_h H6.out.disk ownN s (by decide) (by have := HZ.out.1; omega)) ?_
    rintro e w7 ⟨rfl, hD7, hf7⟩
    have H7 := Lib.hid (H6.out.turn hD7 hf7)
    have HP7 := Lib.hid (HC6.out.append own_ok s)
    clear hD7 hf7 H6 HC6
    obtain ⟨⟨e7, D7⟩, hA7⟩ : ∃ x, appendD D6 ownN s = x := ⟨_, rfl⟩
    rw [hA7] at H7 HP7 ⊢
    clear hA7
    by_cases h70 : e7 = 0
    · subst h70
      have HP := Lib.hid (show Calm ownN D7 ∧ getF D7.files ownN = some ⟨ownN, s, 0⟩ from by
        rcases HP7.out with ⟨_, h2, h3, _⟩ | h | h
        · rw [grown_none HG6.out] at h3; exact ⟨h2, h3⟩
        · cases h
        · cases h)
      clear HP7 HG6
      go_wp2_with fail
      refine Calls.mono (sync_h H7.out.disk ownN) ?_
      rintro e w8 ⟨rfl, hD8, hf8⟩
      have H8 := Lib.hid (H7.out.turn hD8 hf8)
      have HP8 := Lib.hid (HP.out.1.sync HP.out.2)
      clear hD8 hf8 H7 HP
      obtain ⟨⟨e8, D8⟩, hA8⟩ : ∃ x, syncD D7 ownN = x := ⟨_, rfl⟩
      rw [hA8] at H8 HP8 ⊢
      clear hA8
      obtain rfl : e8 = 0 := HP8.out.1
      go_wp2_with fail
      refine Calls.mono (append_h H8.out.disk ownN t (by decide) (by have := HZ.out.2; omega)) ?_
      rintro e w9 ⟨rfl, hD9, hf9⟩
      have H9 := Lib.hid (H8.out.turn hD9 hf9)
      have HP9 := Lib.hid (And.intro HP8.out.2.2.1 (HP8.out.2.1.append own_ok t))
      clear hD9 hf9 H8 HP8
      obtain ⟨⟨e9, D9⟩, hA9⟩ : ∃ x, appendD D8 ownN t = x := ⟨_, rfl⟩
      rw [hA9] at H9 HP9 ⊢
      clear hA9
      by_cases h90 : e9 = 0
      · subst h90
        have HP := Lib.hid (show Calm ownN D9 ∧ getF D9.files ownN = some ⟨ownN, s ++ t, s.length⟩ from by
          obtain ⟨h1, ⟨_, h2, h3, _⟩ | h | h⟩ := HP9.out
          · rw [grown_some h1] at h3; exact ⟨h2, h3⟩
          · cases h
          · cases h)
        clear HP9
        go_wp2_with fail
        have hF : Fr (fun _ => False) w9 ((w9.alloc (.cells #[.int .i64 c] 3)).alloc (.cells #[.int .i64 y] 3)) := ((Fr.refl _ _).alloc _).alloc _
        have hbA : ((w9.alloc (.cells #[.int .i64 c] 3)).alloc (.cells #[.int .i64 y] 3)).heap[w9.heap.size]? = some (.cells #[.int .i64 c] 3) := block_old (block_new_at rfl) _
        have hbB : ((w9.alloc (.cells #[.int .i64 c] 3)).alloc (.cells #[.int .i64 y] 3)).heap[w9.heap.size + 1]? = some (.cells #[.int .i64 y] 3) := block_new_at (by show _ = (w9.heap.push _).size; rw [Array.size_push])
        have hpm : pb < w9.heap.size ∧ mb < w9.heap.size := ⟨lt_of_block H9.out.disk.head, H9.out.disk.map.lt⟩
        have hcr := crash_h (S := fun k => w9.heap.size ≤ k) (S' := fun k => w9.heap.size ≤ k) (H9.out.disk.grow hF) (IR.lit (l := [c]) hbA (show 1 ≤ maxLen by decide) (Nat.le_refl _)) (IR.lit (l := [y]) hbB (show 1 ≤ maxLen by decide) (Nat.le_succ _)) (fun k hk ho => by rcases ho with h | h <;> omega) (fun k hk ho => by rcases ho with h | h <;> omega) (by simp) (by simp)
        have HCR := Lib.hid hcr
        have H9' := Lib.hid (H9.out.grow hF)
        have hrd := HP.out.1.crash (xb := xbG) (keep := [c]) (noise := [y]) HP.out.2
        rw [crash1_bytes] at hrd
        have HRD := Lib.hid hrd
        clear hF hbA hbB hpm hcr H9 hrd
        generalize (w9.alloc (.cells #[.int .i64 c] 3)).alloc (.cells #[.int .i64 y] 3) = W at *
        refine Calls.mono HCR.out ?_
        rintro e w10 ⟨rfl, hD10, hf10⟩
        have H10 := Lib.hid (H9'.out.turn hD10 hf10)
        clear hD10 hf10 H9' HCR
        go_wp2_with fail
        refine Calls.mono (read_h H10.out.disk ownN) ?_
        rw [HRD.out]
        rintro e w11 ⟨rfl, hf11⟩
        have H11 := Lib.hid (H10.out.grow hf11)
        clear hf11 H10 HRD
        have hc0 : nthD [c] 0 = c := rfl
        have hy0 : nthD [y] 0 = y := rfl
        rw [hc0, hy0]
        obtain ⟨n, hn⟩ : ∃ n, keptN c t = n := ⟨_, rfl⟩
        have hmin : min (max c 0) (t.length : Int) = (n : Int) := by unfold keptN at hn; omega
        have hnt : n ≤ t.length := by rw [← hn]; exact keptN_le c t
        rw [hn]
        clear hn hc0 hy0
        rcases Nat.eq_zero_or_pos n with rfl | hpos
        · rw [if_pos rfl]
          have hmin0 : min (max c 0) (t.length : Int) = 0 := hmin
          have hw : wrap64 (s.length : Int) = (s.length : Int) := by have := HZ.out.1; unfold wrap64; omega
          have d1 : ((s.length : Int) == (s.length : Int)) = true := by simp
          have d2 : (s == s) = true := by simp
          clear hmin
          have hx := (bs_take s s.length).trans (by rw [List.take_length])
          go_wp2_with fail
          · go_quiet (fail)
            go_wp2_with fail
            go_ret
            exact ⟨rfl, H11.out.fr.drewN _⟩
        · rw [if_neg (by omega)]
          obtain ⟨m, hm⟩ : ∃ m : Nat, n = m + 1 := ⟨n - 1, by omega⟩
          have hn1 : n - 1 = m := by omega
          rw [hn1]
          obtain ⟨x, hx⟩ : ∃ x, xbG (t.getD m 0) y = x := ⟨_, rfl⟩
          rw [hx]
          have HX := Lib.hid hx
          have hmt : m < t.length := by omega
          have hlt : (t.take m).length = m := by rw [List.length_take]; omega
          obtain ⟨u, hu⟩ : ∃ u, s ++ (t.take m ++ [x]) = u := ⟨_, rfl⟩
          have hul : u.length = s.length + n := by rw [← hu, List.length_append, List.length_append, hlt, hm]; rfl
          have hu1 : u.take s.length = s := by rw [← hu, List.take_left]
          have hu2 : (u.take (s.length + m)).drop s.length = t.take m := by
            rw [← hu, List.drop_take, List.drop_left, Nat.add_sub_cancel_left, List.take_left' hlt]
          have hu3 : u.getD (s.length + m) 0 = x := by
            rw [← hu, List.getD_eq_getElem?_getD, List.getElem?_append_right (by omega), Nat.add_sub_cancel_left, List.getElem?_append_right (by omega), hlt, Nat.sub_self]; rfl
          rw [hu]
          have HU := Lib.hid (And.intro hul (And.intro hu2 hu3))
          have z3 : (bs u).size = u.length := rfl
          have hx1 : (bs u).extract 0 s.length = bs s := by rw [bs_take, hu1]
          have hx2 : (bs t).extract 0 m = bs (t.take m) := bs_take _ _
          have hs6 : u.length ≤ 1200 := by have := HZ.out; omega
          have hw1 : IntKind.i64.wrap ((s.length : Int) + (n : Int)) = (u.length : Int) := by rw [wrap_id (by omega) (by omega), hul]; rfl
          have d1 : ((u.length : Int) == (u.length : Int)) = true := by simp
          have d2 : (s == s) = true := by simp
          have hdn : ((n : Int) == 0) = false := by rw [beq_eq_false_iff_ne]; omega
          have hdn' : (n == 0) = false := by rw [beq_eq_false_iff_ne]; omega
          have hw2 : IntKind.i64.wrap ((u.length : Int) - 1) = ((s.length + m : Nat) : Int) := by rw [wrap_id (by omega) (by omega)]; omega
          have hw3 : IntKind.i64.wrap ((n : Int) - 1) = (m : Int) := by rw [wrap_id (by omega) (by omega)]; omega
          have hle : s.length ≤ u.length := by omega
          have hle2 : s.length + m < u.length := by omega
          obtain ⟨q, hq⟩ : ∃ q, s.length + m = q := ⟨_, rfl⟩
          have hx3 : (bs u).extract s.length q = bs (t.take m) := by rw [← hu2, ← hq]; exact bs_sub _ _ _
          have hq0 : 0 ≤ (q : Int) := by omega
          have hm0 : 0 ≤ (m : Int) := by omega
          have hqs : (s.length : Int) ≤ (q : Int) := by omega
          have hqu : (q : Int) < (u.length : Int) := by omega
          have hqu' : (q : Int) ≤ (u.length : Int) := by omega
          have hmtI : (m : Int) < (t.length : Int) := by omega
          have hmtI' : (m : Int) ≤ (t.length : Int) := by omega
          have hqN : q < u.length := by omega
          have t5 := bs_toList (t.take m)
          have d5 : (t.take m == t.take m) = true := by simp
          rw [hq] at hw2 hu2 hu3 hle2
          have HU3 := Lib.hid hu3
          have hqZ : q < (bs u).size := by rw [z3]; exact hqN
          have hmZ : m < (bs t).size := by rw [z2]; exact hmt
          clear hqN hmt
          clear hx hu hul hu1 hu2 hu3 hm hn1 hq hs6 hle2 hlt
          go_wp2_with fail
          · go_big_quiet (fail)
            have hfin : ((((bs u)[q].toNat : Nat) : Int) == bits .xor .u8 (((bs t)[m].toNat : Nat) : Int) (y % 256)) = true := by
              rw [bs_at u q hqZ, bs_at t m hmZ, HU3.out, ← IntKind.wrap_u8, xb_toNat, HX.out, beq_self_eq_true]
            rw [hfin]
            clear hfin
            go_wp2_with fail
            go_ret
            exact ⟨rfl, H11.out.fr.drewN _⟩
      · have d9 : (e9 == 0) = false := by simpa using h90
        clear HP9 h90
        go_wp2_with fail
        go_ret
        exact ⟨rfl, H9.out.fr⟩
    · have d7 : (e7 == 0) = false := by simpa using h70
      rcases HP7.out with ⟨h, _⟩ | h | h
      · exact absurd h h70
      · obtain rfl : e7 = 6 := h
        clear HP7 h70
        go_wp2_with fail
        go_ret
        exact ⟨rfl, H7.out.fr⟩
      · obtain rfl : e7 = 11 := h
        clear HP7 h70
        go_wp2_with fail
        go_ret
        exact ⟨rfl, H7.out.fr⟩
end
end Go.Proofs.YtfcnjbkoneinpaaDoor
