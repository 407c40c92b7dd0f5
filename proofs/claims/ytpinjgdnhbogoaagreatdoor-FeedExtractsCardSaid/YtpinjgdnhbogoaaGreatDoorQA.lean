/- The reference's tag, walked. -/
import Derived.Test.YtpinjgdnhbogoaaGreatDoorQC
namespace Go.Proofs.YtpinjgdnhbogoaaGreatDoor
open Go.RowKit Go.Lib

theorem str_two {s t : Str} (h : s ≠ t) : decide (bs s = bs t) = false ∧ ((bs s).toList == (bs t).toList) = false := ⟨decide_eq_false fun e => h (bs_inj e), by rw [bs_eqv]; exact beq_eq_false_iff_ne.2 h⟩
theorem rattr_shape (s : Str) : ∃ a v m, rattrV s = .tuple #[.agg #[.string a, .string v], .int .i64 m] := by
  cases h : attrL s with
  | none => exact ⟨_, _, _, rattr_no h⟩
  | some q => obtain ⟨a, v, left⟩ := q; exact ⟨_, _, _, rattr_yes h⟩
set_option maxRecDepth 100000 in
set_option maxHeartbeats 16000000 in
theorem rtag_h {w : World} (s : Str) (h1 : 1 ≤ s.length) (hs : s.length ≤ 100000) : Calls Tryz.prog 119 #[.string (bs s)] w (RTagPost s w) := by
  have hsz : (bs s).size = s.length := rfl
  have hnl := name_le (s.drop 1)
  rw [List.length_drop] at hnl
  have hx1 := bs_drop s 1
  have HName := Lib.hid (fun (W : World) => rname_h (w := W) (s.drop 1) (by rw [List.length_drop]; omega))
  obtain ⟨n, hn⟩ : ∃ n, nameL (s.drop 1) = n := ⟨_, rfl⟩
  rw [hn] at HName hnl
  have HNm := Lib.hid hn
  have H1 := Lib.hid h1
  clear hn
  obtain ⟨d1, hd1⟩ : ∃ d1, s.drop 1 = d1 := ⟨_, rfl⟩
  rw [hd1] at HName hx1
  clear hd1
  have hnz : (bs n).size = n.length := rfl
  have hn1 : 1 + n.length ≤ s.length := by omega
  have HF0 : Hid (Fr (fun _ => False) w (w.alloc (.cells #[.int .i64 1, .string (bs n), .slice none 0 0, .string ⟨#[]⟩] 97))) := (Fr.refl _ _).alloc _
  by_cases hn0 : n = []
  · have HR := Lib.hid (tag_no (HNm.out.trans hn0))
    subst hn0
    have hnb : bs ([] : Str) = ⟨#[]⟩ := rfl
    have hn00 : ([] : Str).length = 0 := rfl
    rw [hnb] at HName HF0
    rw [hn00] at hn1 hnl
    clear hnz hnb hn00
    go_enter Tryz.func119, Tryz.ntmps119
    go_wp2_with fail
    refine Calls.mono (HName.out _) ?_
    rintro e w1 ⟨rfl, rfl⟩
    go_wp2_with fail
    go_loopg [6] 0 (fun j v wr => j = 0 ∧ Hid (Fr (fun _ => False) w wr))
    case atStart => exact ⟨rfl, HF0.out⟩
    case round =>
      obtain ⟨rfl, HI⟩ := hrel
      go_wp2_with fail
      go_ret2
      exact rtag_bad HR.out HI.out
  have tn : ((bs n).toList == []) = false := by rw [bs_toList]; exact beq_eq_false_iff_ne.2 hn0
  have tn2 : decide (bs n = ⟨#[]⟩) = false := decide_eq_false fun e => hn0 (bs_inj2 e)
  have tn3 : ((bs n).toList != []) = true := by rw [bne, tn]; rfl
  have tn4 : (bs n).toList.isEmpty = false := by rw [bs_toList]; simpa using hn0
  have HI0 : Hid (RTagIn w w.heap.size s n (1 + n.length) [] (.slice none 0 0) (w.alloc (.cells #[.int .i64 1, .string (bs n), .slice none 0 0, .string ⟨#[]⟩] 97))) := ⟨TagAt.start h1 HNm.out hn0, block_new _ _, World.ownsRow_nil _ _ _ _, HF0.out, Nat.le_refl _⟩
  clear hn0
  go_enter Tryz.func119, Tryz.ntmps119
  go_wp2_with fail
  refine Calls.mono (HName.out _) ?_
  rintro e w1 ⟨rfl, rfl⟩
  go_wp2_with fail
  go_loopg [6] (s.length - (1 + n.length)) (fun j v wr => ∃ (i : Nat) (l : List (Str × Str)) (av : Value), i + j = s.length ∧ v = .int .i64 i ∧ Hid (RTagIn w w.heap.size s n i l av wr))
  case atStart => exact ⟨1 + n.length, [], _, by omega, by go_num, HI0.out⟩
  case round =>
    obtain ⟨i, l, av, hi, rfl, HI⟩ := hrel
    have hle := HI.out.at_.le
    have hll := HI.out.at_.len
    have hx := bs_drop s i
    have HBl := Lib.hid (fun (W : World) => rblanks_h (w := W) (s.drop i) (by rw [List.length_drop]; omega))
    have hbl := blanks_le (s.drop i)
    rw [List.length_drop] at hbl
    obtain ⟨k, hk⟩ : ∃ k, blanksN (s.drop i) = k := ⟨_, rfl⟩
    rw [hk] at HBl hbl
    have HK := Lib.hid hk
    clear hk
    obtain ⟨d, hd⟩ : ∃ d, s.drop i = d := ⟨_, rfl⟩
    rw [hd] at HBl hx
    clear hd
    have hik : i + k ≤ s.length := by omega
    have hx2 := bs_drop s (i + k)
    have hrl : (s.drop (i + k)).length = s.length - (i + k) := List.length_drop
    obtain ⟨r, hr⟩ : ∃ r, s.drop (i + k) = r := ⟨_, rfl⟩
    rw [hr] at hx2 hrl
    have hrl2 : r.length ≤ 100000 := by omega
    have HP1 := Lib.hid (fun (W : World) => rbegins_h (w := W) r [47, 62] (by omega) (by decide))
    have HP2 := Lib.hid (fun (W : World) => rbegins_h (w := W) r [62] (by omega) (by decide))
    have HAt := Lib.hid (fun (W : World) => rattr_h (w := W) r hrl2)
    have bk := HI.out.blk
    have c0 := cell_of bk (i := 0) (v := _) rfl
    have c1 := cell_of bk (i := 1) (v := _) rfl
    have c2 := cell_of bk (i := 2) (v := _) rfl
    have c3 := cell_of bk (i := 3) (v := _) rfl
    have HIm := Lib.hid hi
    clear bk hi hbl
    cases hp : ([47, 62] : Str).isPrefixOf r with
    | true =>
      have HT := Lib.hid (HI.out.at_.self HK.out (by rw [hr]; exact hp))
      have hb2 := HT.out.2
      rw [hp] at HP1
      clear hp hr hrl hrl2
      go_wp2_with fail
      refine Calls.mono (HBl.out _) ?_
      rintro e w1 ⟨rfl, rfl⟩
      go_wp2_with fail
      refine Calls.mono (HP1.out _) ?_
      rintro e w1 ⟨rfl, rfl⟩
      go_wp2_with fail
      go_ret2
      exact rtag_good HT.out (rrow_two HI.out.row HI.out.fr.size) (HI.out.fr.alloc _)
    | false =>
    cases hq : ([62] : Str).isPrefixOf r with
    | true =>
      have HT := Lib.hid (HI.out.at_.stop HK.out (by rw [hr]; exact hp) (by rw [hr]; exact hq))
      have hb2 := HT.out.2
      rw [hp] at HP1
      rw [hq] at HP2
      clear hp hq hr hrl hrl2
      go_wp2_with fail
      refine Calls.mono (HBl.out _) ?_
      rintro e w1 ⟨rfl, rfl⟩
      go_wp2_with fail
      refine Calls.mono (HP1.out _) ?_
      rintro e w1 ⟨rfl, rfl⟩
      go_wp2_with fail
      refine Calls.mono (HP2.out _) ?_
      rintro e w1 ⟨rfl, rfl⟩
      go_wp2_with fail
      go_ret2
      exact rtag_good HT.out (rrow_one (k := 1) (tx := []) HI.out.row HI.out.fr.size) (HI.out.fr.alloc _)
    | false =>
    by_cases hk0 : k = 0
    · have HT := Lib.hid (HI.out.at_.tight HK.out (by rw [hr]; exact hp) (by rw [hr]; exact hq) hk0)
      obtain ⟨ra, rv, rm, hV⟩ := rattr_shape r
      rw [hV] at HAt
      rw [hp] at HP1
      rw [hq] at HP2
      have tk : ((k : Int) == 0) = true := by rw [hk0]; rfl
      clear hp hq hr hrl hrl2 hV hk0
      go_wp2_with fail
      refine Calls.mono (HBl.out _) ?_
      rintro e w1 ⟨rfl, rfl⟩
      go_wp2_with fail
      refine Calls.mono (HP1.out _) ?_
      rintro e w1 ⟨rfl, rfl⟩
      go_wp2_with fail
      refine Calls.mono (HP2.out _) ?_
      rintro e w1 ⟨rfl, rfl⟩
      go_wp2_with fail
      refine Calls.mono (HAt.out _) ?_
      rintro e w4 ⟨rfl, hF4⟩
      have HF5 := Lib.hid ((HI.out.fr.next hF4).alloc (.cells #[.string ra, .string rv] 95))
      clear hF4 c0 c1 c2 c3
      go_wp2_with fail
      go_ret2
      exact rtag_bad HT.out HF5.out
    have tk : ((k : Int) == 0) = false := by rw [beq_eq_false_iff_ne]; omega
    cases ha : attrL r with
    | none =>
      have HT := Lib.hid (HI.out.at_.bad HK.out (by rw [hr]; exact hp) (by rw [hr]; exact hq) (by rw [hr]; exact ha))
      rw [rattr_no ha] at HAt
      rw [hp] at HP1
      rw [hq] at HP2
      clear hp hq hr hrl hrl2 ha hk0
      go_wp2_with fail
      refine Calls.mono (HBl.out _) ?_
      rintro e w1 ⟨rfl, rfl⟩
      go_wp2_with fail
      refine Calls.mono (HP1.out _) ?_
      rintro e w1 ⟨rfl, rfl⟩
      go_wp2_with fail
      refine Calls.mono (HP2.out _) ?_
      rintro e w1 ⟨rfl, rfl⟩
      go_wp2_with fail
      refine Calls.mono (HAt.out _) ?_
      rintro e w4 ⟨rfl, hF4⟩
      have HF5 := Lib.hid ((HI.out.fr.next hF4).alloc (.cells #[.string ⟨#[]⟩, .string ⟨#[]⟩] 95))
      clear hF4 c0 c1 c2 c3
      go_wp2_with fail
      go_ret2
      exact rtag_bad HT.out HF5.out
    | some avl =>
    obtain ⟨a, v, left⟩ := avl
    have hal := attrL_len ha
    obtain ⟨m, hm⟩ : ∃ m, r.length - left.length = m := ⟨_, rfl⟩
    have hm0 : 0 < m := by omega
    have hm1 : i + k + m ≤ s.length := by omega
    have tm : ((m : Int) == 0) = false := by rw [beq_eq_false_iff_ne]; omega
    have HNx := Lib.hid (fun hd => HI.out.at_.next HK.out (by rw [hr]; exact hp) (by rw [hr]; exact hq) hk0 (by rw [hr]; exact ha) hd (m := m) (by rw [hr]; exact hm))
    have HDu := Lib.hid (fun hd => HI.out.at_.dup HK.out (by rw [hr]; exact hp) (by rw [hr]; exact hq) (by rw [hr]; exact ha) hd)
    rw [rattr_yes ha, hm] at HAt
    rw [hp] at HP1
    rw [hq] at HP2
    clear hp hq hr hrl hrl2 ha hk0 hal hm
    go_wp2_with fail
    refine Calls.mono (HBl.out _) ?_
    rintro e w1 ⟨rfl, rfl⟩
    go_wp2_with fail
    refine Calls.mono (HP1.out _) ?_
    rintro e w1 ⟨rfl, rfl⟩
    go_wp2_with fail
    refine Calls.mono (HP2.out _) ?_
    rintro e w1 ⟨rfl, rfl⟩
    go_wp2_with fail
    refine Calls.mono (HAt.out _) ?_
    rintro e w4 ⟨rfl, hF4⟩
    have HI5 := Lib.hid ((HI.out.fr2 hF4).fr2 ((Fr.refl _ _).alloc (.cells #[.string (bs a), .string (bs v)] 95)))
    have HAB : Hid ((w4.alloc (.cells #[.string (bs a), .string (bs v)] 95)).heap[w4.heap.size]? = some (.cells #[.string (bs a), .string (bs v)] 95 (0, 0))) := block_new _ _
    obtain ⟨aa, acap, rfl⟩ := ownsRow_shape HI.out.row
    have HLm := Lib.hid (show l.length ≤ 100000 by omega)
    clear hF4 c0 c1 c2 c3
    go_wp2_with fail
    go_loopg [11] l.length (fun j v11 wr => ∃ (x p : Nat), x + j = l.length ∧ v11 = .int .i64 x ∧ Hid (FreshTo l a x) ∧ wr = (w4.alloc (.cells #[.string (bs a), .string (bs v)] 95)).drewN p)
    case atStart => exact ⟨0, 0, by omega, rfl, FreshTo.start l a, rfl⟩
    case round =>
      obtain ⟨x, p, hxl, rfl, HFr, rfl⟩ := hrel
      have HI6 := Lib.hid (HI5.out.fr2 ((Fr.refl _ _).drewN p))
      have HAB6 := Lib.hid (((Fr.refl (fun _ => False) _).drewN p).keep HAB.out (fun h => h))
      have hlm := HLm.out
      by_cases hlt : x < l.length
      · obtain ⟨q, hq⟩ : ∃ q, l[x]? = some q := ⟨_, List.getElem?_eq_getElem hlt⟩
        have d0 := cell_of HAB.out (i := 0) (v := _) rfl
        have d1 := cell_of HAB.out (i := 1) (v := _) rfl
        have dl := lt_of_block HAB.out
        obtain ⟨g, off, rfl, hc⟩ := (SRow.of_owns HI5.out.row).cell (by omega)
        have c2 := cell_of HI5.out.blk (i := 2) (v := _) rfl
        have cl := lt_of_block HI5.out.blk
        obtain ⟨m0, m1⟩ := acells_at hq
        have q0 := hc _ _ m0
        have q1 := hc _ _ m1
        rw [← Nat.add_assoc] at q1
        have HQ := Lib.hid (And.intro hq hxl)
        clear hq hxl hc m0 m1
        by_cases hqa : q.1 = a
        · have t1 : ((bs q.1).toList == (bs a).toList) = true := by rw [hqa]; simp
          have HT := Lib.hid (HDu.out (FreshTo.hit HQ.out.1 hqa))
          clear hqa
          go_wp2_with fail
          go_big_quiet (fail)
          go_wp2_with fail
          go_ret2
          exact rtag_bad HT.out (HI6.out.fr.drewN _)
        · obtain ⟨t1, t2⟩ := str_two hqa
          have HN := Lib.hid (HFr.out.step HQ.out.1 hqa)
          clear hqa
          go_wp2_with fail
          go_big_quiet (fail)
          go_wp2_with fail
          go_roundg (l.length - (x + 1))
          case measure => have := HQ.out.2; omega
          case rel => exact ⟨x + 1, _, by have := HQ.out.2; omega, by go_num, HN.out, by first | rfl | exact World.drewN_drewN _ _ _⟩
      · have HT := Lib.hid (HNx.out (HFr.out.done (by omega)))
        obtain rfl : x = l.length := by omega
        obtain ⟨i95, hi95, hz95, hs95, hb95⟩ := info_parts info95
        generalize (w4.alloc (.cells #[.string (bs a), .string (bs v)] 95)).drewN p = w6 at *
        have d0 := cell_of HAB6.out (i := 0) (v := _) rfl
        have d1 := cell_of HAB6.out (i := 1) (v := _) rfl
        have c2 := cell_of HI6.out.blk (i := 2) (v := _) rfl
        have f2 := free_of 2 HI6.out.blk
        have HI7 := Lib.hid (HI6.out.fr2 ((Fr.refl _ _).alloc (.cells #[.string (bs a), .string (bs v)] 95)))
        clear hxl hlt
        go_wp2_with (at_builtin; refine wpList_append_row rfl (.tmp 79) (.tmp 81) 34 rfl w.heap.size 95 i95 (.agg #[.string ⟨#[]⟩, .string ⟨#[]⟩]) 2 32 Tryz.underlying34 hi95 hz95 hs95 hb95 rfl (by decide) (.slice aa l.length acap) l.length (acells l) rfl HI7.out.row (fun k => k = w6.heap.size) (.slice (some ⟨w6.heap.size, 0, none⟩) 1 1) 1 [.string (bs a), .string (bs v)] rfl (SRow.of_block (block_new _ _) rfl (by unfold maxLen; omega) rfl) (by intro u hu; simp at hu; rcases hu with rfl | rfl <;> rfl) (by unfold maxLen; omega) (by omega) HI7.out.fr.size ?_; intro b7 cap7 w7 hown7 hgrow7 _; obtain ⟨hb7, hT7⟩ := HI7.out.next hgrow7 hown7 HT.out; have HT7 := Lib.hid hT7; have g2 := cell_of hb7 (i := 2) (v := _) rfl; have j2 := free_of 2 hb7; clear hown7 hgrow7 hT7 hb7 c2 f2 d0 d1)
        go_roundg (s.length - (i + k + m))
        case measure => have := HIm.out; omega
        case rel => exact ⟨i + k + m, l ++ [(a, v)], _, by omega, by go_num, HT7.out⟩
end Go.Proofs.YtpinjgdnhbogoaaGreatDoor
