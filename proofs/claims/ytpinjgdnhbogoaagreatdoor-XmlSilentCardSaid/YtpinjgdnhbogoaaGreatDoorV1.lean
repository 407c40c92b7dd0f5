/- strings.ContainsAny of a text and two marks, whatever the text's bytes. -/
import Derived.Test.YtpinjgdnhbogoaaGreatDoorW9
import Derived.Laws.RangeAny
import Derived.Lib.OthersKept
import Derived.Deep.QuietTactic
import Derived.BigQuiet
namespace Go.Proofs.YtpinjgdnhbogoaaGreatDoor
open Go.RowKit Go.Lib

theorem two_at (k : Nat) (h : k < (bs [60, 91]).size) : ((bs [60, 91])[k]'h).toNat < 128 := by
  rw [bs_at]
  have : k < 2 := h
  match k, this with
  | 0, _ => decide
  | 1, _ => decide
theorem decode_hi (s : ByteArray) (i : Nat) (hi : i < s.size) (h : 128 ≤ (s[i]).toNat) :
    128 ≤ (Utf8.decode s i).1 ∧ Utf8.valid ((Utf8.decode s i).1 : Int) = true ∧ 1 ≤ (Utf8.decode s i).2 ∧ i + (Utf8.decode s i).2 ≤ s.size ∧ ∀ j, i ≤ j → j < i + (Utf8.decode s i).2 → ∀ hj : j < s.size, 128 ≤ (s[j]).toNat := by
  have hget : ∀ k (hk : k < s.size), s.get! k = s[k] := by
    intro k hk
    show s.data[k]! = s.data[k]
    rw [getElem!_pos]
  have h0 : (s.get! (i + 0)).toNat = (s[i]).toNat := by rw [Nat.add_zero, hget i hi]
  unfold Utf8.decode
  simp only [h0]
  rw [if_neg (by omega)]
  have base : ∀ j, i ≤ j → j < i + 1 → ∀ hj : j < s.size, 128 ≤ (s[j]).toNat := by
    intro j h1 h2 hj
    obtain rfl : j = i := by omega
    exact h
  have cont : ∀ k, (decide (i + k < s.size) && (s.get! (i + k)).toNat / 64 == 2) = true → i + k < s.size ∧ ∀ hj : i + k < s.size, 128 ≤ (s[i + k]).toNat := by
    intro k hk
    simp only [Bool.and_eq_true, decide_eq_true_eq, beq_iff_eq] at hk
    refine ⟨hk.1, fun hj => ?_⟩
    have := hk.2
    rw [hget (i + k) hj] at this
    omega
  have err : 128 ≤ Utf8.runeError ∧ Utf8.valid (Utf8.runeError : Int) = true ∧ 1 ≤ 1 ∧ i + 1 ≤ s.size ∧ ∀ j, i ≤ j → j < i + 1 → ∀ hj : j < s.size, 128 ≤ (s[j]).toNat := ⟨by decide, by decide, Nat.le_refl _, by omega, base⟩
  split
  · rename_i hc
    simp only [Bool.and_eq_true] at hc
    have c1 := cont 1 (by simpa [Bool.and_eq_true] using hc.2)
    split
    · rename_i hge
      have hlt : ((s[i]).toNat % 32) * 64 + (s.get! (i + 1)).toNat % 64 < 2048 := by omega
      refine ⟨by simpa using hge, ?_, by simp, by have := c1.1; omega, ?_⟩
      · unfold Utf8.valid
        simp only [Bool.or_eq_true, Bool.and_eq_true, decide_eq_true_eq]
        left; constructor <;> simp at hge ⊢ <;> omega
      · intro j h1 h2 hj
        by_cases e : j = i
        · subst e; exact h
        · obtain rfl : j = i + 1 := by simp at h2; omega
          exact c1.2 hj
    · exact err
  · split
    · rename_i hc
      simp only [Bool.and_eq_true] at hc
      have c1 := cont 1 (by simpa [Bool.and_eq_true] using hc.1.2)
      have c2 := cont 2 (by simpa [Bool.and_eq_true] using hc.2)
      split
      · rename_i hge
        simp only [Bool.and_eq_true, decide_eq_true_eq] at hge
        refine ⟨by simp; omega, hge.2, by simp, by have := c2.1; omega, ?_⟩
        intro j h1 h2 hj
        by_cases e : j = i
        · subst e; exact h
        by_cases e1 : j = i + 1
        · subst e1; exact c1.2 hj
        · obtain rfl : j = i + 2 := by simp at h2; omega
          exact c2.2 hj
      · exact err
    · split
      · rename_i hc
        simp only [Bool.and_eq_true] at hc
        have c1 := cont 1 (by simpa [Bool.and_eq_true] using hc.1.1.2)
        have c2 := cont 2 (by simpa [Bool.and_eq_true] using hc.1.2)
        have c3 := cont 3 (by simpa [Bool.and_eq_true] using hc.2)
        split
        · rename_i hge
          simp only [Bool.and_eq_true, decide_eq_true_eq] at hge
          refine ⟨by simp; omega, hge.2, by simp, by have := c3.1; omega, ?_⟩
          intro j h1 h2 hj
          by_cases e : j = i
          · subst e; exact h
          by_cases e1 : j = i + 1
          · subst e1; exact c1.2 hj
          by_cases e2 : j = i + 2
          · subst e2; exact c2.2 hj
          · obtain rfl : j = i + 3 := by simp at h2; omega
            exact c3.2 hj
        · exact err
      · exact err
set_option maxRecDepth 100000 in
set_option maxHeartbeats 4000000 in
theorem idxrune_h {w : World} (c : Int) (hc : 128 ≤ c) (hv : Utf8.valid c = true) : Calls Tryz.prog 160 #[.string (bs [60, 91]), .int .i32 c] w fun e w' => e = .returned (.int .i64 (-1)) ∧ Fr (fun _ => False) w w' := by
  have hEF := encode_facts c hv hc
  have HV := Lib.hid hv
  have hz2 : (bs [60, 91]).size = 2 := rfl
  clear hv
  by_cases hr : c = 65533
  · subst hr
    clear hEF
    have hz0 : 0 < (bs [60, 91]).size := by rw [hz2]; omega
    have hz1 : 1 < (bs [60, 91]).size := by rw [hz2]; omega
    have n0 := fun ty => run_next_ascii (P := Tryz.prog) w (bs [60, 91]) 0 ty hz0 (two_at 0 hz0)
    have n1 := fun ty => run_next_ascii (P := Tryz.prog) w (bs [60, 91]) 1 ty hz1 (two_at 1 hz1)
    have n2 := fun ty => run_next_end (P := Tryz.prog) w (bs [60, 91]) 2 ty (by rw [hz2]; omega)
    have g0 : (bs [60, 91])[0] = 60 := rfl
    have g1 : (bs [60, 91])[1] = 91 := rfl
    rw [g0] at n0
    rw [g1] at n1
    clear g0 g1
    go_enter Tryz.func160, Tryz.ntmps160
    go_wp2_with fail
    refine wp_loop_rounds 3 ?_
    rw [rounds_succ]
    go_wp2_with fail
    rw [rounds_succ]
    go_wp2_with fail
    rw [rounds_succ]
    go_wp2_with fail
    go_ret
    exact ⟨rfl, (Fr.refl _ _).alloc _⟩
  · have h65 : ((c : Int) == 65533) = false := by rw [beq_eq_false_iff_ne]; exact hr
    clear hr
    have HVR := Lib.hid (Tryz.utf8_ValidRune c w)
    have hvr : Lib.validRune c = true := by
      have := HV.out
      unfold Utf8.valid at this
      unfold Lib.validRune
      simp only [Bool.or_eq_true, Bool.and_eq_true, decide_eq_true_eq] at this ⊢
      omega
    rw [hvr] at HVR
    clear hvr
    obtain ⟨rs, hrs⟩ : ∃ rs, Utf8.encode c = rs := ⟨_, rfl⟩
    rw [hrs] at hEF
    obtain ⟨hs2, hs4, hlast⟩ := hEF
    have HL := Lib.hid hlast
    have hsz : rs.size = 2 ∨ rs.size = 3 ∨ rs.size = 4 := by omega
    clear hlast
    rcases hsz with hsz | hsz | hsz
    · obtain ⟨b, hb⟩ : ∃ b, rs[rs.size - 1]'(by omega) = b := ⟨_, rfl⟩
      have hb128 : 128 ≤ b.toNat := by rw [← hb]; exact HL.out _
      have hg1 : rs[1]'(by omega) = b := by rw [← hb]; simp [hsz]
      have hg2 : (bs [60, 91])[1]'(by rw [hz2]; omega) = 91 := rfl
      have hne : ((91 : Int) == (b.toNat : Int)) = false := by rw [beq_eq_false_iff_ne]; omega
      have hne' : ((91 : Int) != (b.toNat : Int)) = true := by rw [bne, hne]; rfl
      have hx : (bs [60, 91]).extract 2 2 = bs [] := bs_drop [60, 91] 2
      have HI := Lib.hid (fun (W : World) => Tryz.strings_IndexByte (bs []) (b.toNat : Int) W)
      have hrun : IntKind.i64.wrap ((2 : Int) - 1) = 1 := by decide
      clear hb
      go_enter Tryz.func160, Tryz.ntmps160
      go_wp2_with fail
      refine HVR.out.mono ?_
      rintro e w1 ⟨rfl, rfl⟩
      go_wp2_with fail
      go_step3
      go_wp2_with fail
      refine wp_loop_rounds 1 ?_
      rw [rounds_succ]
      go_wp2_with fail
      go_step3
      go_wp2_with fail
      go_quiet (fail)
      go_wp2_with fail
      generalize hW : World.drewN w1 _ = W
      have hFW : Fr (fun _ => False) w1 W := by rw [← hW]; exact (Fr.refl _ _).drewN _
      clear hW
      go_quiet ((go_at_call 79; exact Calls.quiet_of_same (HI.out _)))
      go_wp2_with fail
      rw [Exit.noGoto_ret]
      go_wp2_with fail
      rw [Exit.noGoto_ret]
      go_ret
      exact ⟨rfl, hFW.drewN _⟩
    · have hrun : IntKind.i64.wrap ((3 : Int) - 1) = 2 := by decide
      go_enter Tryz.func160, Tryz.ntmps160
      go_wp2_with fail
      refine HVR.out.mono ?_
      rintro e w1 ⟨rfl, rfl⟩
      go_wp2_with fail
      go_step3
      go_wp2_with fail
      refine wp_loop_rounds 1 ?_
      rw [rounds_succ]
      go_wp2_with fail
      rw [Exit.noGoto_ret]
      go_ret
      exact ⟨rfl, Fr.refl _ _⟩
    · have hrun : IntKind.i64.wrap ((4 : Int) - 1) = 3 := by decide
      go_enter Tryz.func160, Tryz.ntmps160
      go_wp2_with fail
      refine HVR.out.mono ?_
      rintro e w1 ⟨rfl, rfl⟩
      go_wp2_with fail
      go_step3
      go_wp2_with fail
      refine wp_loop_rounds 1 ?_
      rw [rounds_succ]
      go_wp2_with fail
      rw [Exit.noGoto_ret]
      go_ret
      exact ⟨rfl, Fr.refl _ _⟩
theorem any_two : ∀ l : Str, decide (0 ≤ Lib.indexAny l [60, 91]) = (l.contains 60 || l.contains 91)
  | [] => rfl
  | b :: l => by
    have ih := any_two l
    have hge := Lib.indexAny_ge [60, 91] l
    rw [Lib.indexAny]
    by_cases h : ([60, 91] : Str).contains b = true
    · rw [if_pos h]
      have : b = 60 ∨ b = 91 := by simpa using h
      rcases this with rfl | rfl <;> simp
    · rw [if_neg h]
      have h2 : ¬ b = 60 ∧ ¬ b = 91 := by simpa using h
      have e1 : (b :: l).contains 60 = l.contains 60 := by simp; intro e; exact absurd e.symm h2.1
      have e2 : (b :: l).contains 91 = l.contains 91 := by simp; intro e; exact absurd e.symm h2.2
      rw [e1, e2, ← ih]
      by_cases h3 : Lib.indexAny l [60, 91] = -1
      · rw [if_pos (by rw [h3]; rfl), h3]
      · rw [if_neg (by simpa using h3)]
        have h4 : 0 ≤ Lib.indexAny l [60, 91] := by omega
        rw [decide_eq_true h4, decide_eq_true (by omega)]
theorem two_bytes {s : Str} {i : Nat} {x : UInt8} (hx : s[i]? = some x) (h : 128 ≤ x.toNat) : ([60, 91] : Str).contains x = false := by
  have h1 : ¬ x = 60 := by rintro rfl; exact absurd h (by decide)
  have h2 : ¬ x = 91 := by rintro rfl; exact absurd h (by decide)
  simp [h1, h2]
theorem bs_get (s : Str) (i : Nat) (h : i < (bs s).size) : s[i]? = some ((bs s)[i]) := List.getElem?_eq_getElem (l := s) h
theorem zero143 : ∀ w, (zeroValue 143).run Tryz.prog w = .ok (.agg (Array.replicate 256 (.bool false))) w := (zero_of_info (P := Tryz.prog) (t := 143) (n := 256) (by kernel_rfl)).1
/-- the iterator at a place; nothing else has turned -/
def ItAt (w1 : World) (s : Str) (i : Nat) (W : World) : Prop := W.heap[w1.heap.size]? = some (.stringIter (bs s) i) ∧ Below w1.heap.size w1 W
theorem ItAt.fr {w1 W W2 : World} {s : Str} {i : Nat} (h : ItAt w1 s i W) (hf : Fr (fun _ => False) W W2) : ItAt w1 s i W2 :=
  ⟨hf.keep h.1 (fun h => h), h.2.trans (hf.below h.2.size (fun _ h => h.elim))⟩
theorem ItAt.on {w1 W : World} {s : Str} {i : Nat} (h : ItAt w1 s i W) (j : Nat) : ItAt w1 s j (W.iterAt w1.heap.size (bs s) j) :=
  ⟨Lib.iterAt_heap W _ _ i j h.1, Lib.below_iterAt h.2 (Nat.le_refl _) _ _⟩
set_option maxHeartbeats 4000000 in
theorem idxany_short {w : World} (s : Str) (hs : s.length ≤ 8) : Calls Tryz.prog 139 #[.string (bs s), .string (bs [60, 91])] w fun e w' => e = .returned (.int .i64 (Lib.indexAny s [60, 91])) ∧ Fr (fun _ => False) w w' := by
  have hemp : (bs [60, 91]).toList.isEmpty = false := by rw [bs_toList]; rfl
  have hz2 : (bs [60, 91]).size = 2 := rfl
  have hsz : (bs s).size = s.length := rfl
  have h8z : decide ((8 : Int) < (s.length : Int)) = false := decide_eq_false (by omega)
  have HSH := Lib.hid (fun (W : World) => Tryz.strings_shouldUseASCIISet (s.length : Int) W)
  rw [h8z] at HSH
  clear h8z
  go_enter Tryz.func139, Tryz.ntmps139
  go_wp2_with fail
  refine (HSH.out _).mono ?_
  rintro e w1 ⟨rfl, rfl⟩
  go_wp2_with fail
  have H0 := Lib.hid (show ItAt w1 s 0 (w1.iter (bs s) 0) from ⟨World.iter_heap _ _ _, (Below.refl _ _).alloc (Nat.le_refl _) _⟩)
  go_loopg [9, 10] s.length (fun g _ _ wx => ∃ i : Nat, i + g = s.length ∧ ItAt w1 s i wx ∧ Lib.NoAny s [60, 91] i)
  case atStart => exact ⟨0, by omega, H0.out, Lib.NoAny.zero _ _⟩
  case round =>
    obtain ⟨i, hig, hit, hno⟩ := hrel
    have HN := Lib.hid (And.intro hig (And.intro hit hno))
    clear hig hno H0
    obtain ⟨hit1, _⟩ := hit
    by_cases hi : i < s.length
    · have hi2 : i < (bs s).size := hi
      obtain ⟨x, hx⟩ : ∃ x : UInt8, (bs s)[i]'hi2 = x := ⟨_, rfl⟩
      have HX := Lib.hid (show s[i]? = some x by rw [bs_get s i hi2, hx])
      by_cases hx128 : x.toNat < 128
      · have hnx := fun ty => Lib.run_next_ascii_at (P := Tryz.prog) wr w1.heap.size (bs s) i ty hit1 hi2 (by rw [hx]; exact hx128)
        rw [hx] at hnx
        have HT1 := Lib.hid (HN.out.2.1.on (i + 1))
        obtain ⟨W1, hW1⟩ : ∃ W1, wr.iterAt w1.heap.size (bs s) (i + 1) = W1 := ⟨_, rfl⟩
        rw [hW1] at hnx HT1
        clear hx hW1 hit1
        have HI := Lib.hid (fun (W : World) => Tryz.strings_IndexRune_ascii (bs [60, 91]) (x.toNat : Int) W (by omega) (by omega))
        have hback : ((x.toNat : Int)).toNat.toUInt8 = x := by simp
        rw [hback, bs_data] at HI
        clear hback
        have hcon := Lib.contains_iff_indexByte [60, 91] x
        cases hin : ([60, 91] : Str).contains x with
        | false =>
          rw [hin] at hcon
          have hlt : ¬ ((0 : Int) ≤ Lib.indexByte [60, 91] x) := of_decide_eq_false hcon.symm
          have HIN := Lib.hid hin
          clear hcon hin
          obtain ⟨r, hr⟩ : ∃ r, Lib.indexByte [60, 91] x = r := ⟨_, rfl⟩
          rw [hr] at HI hlt
          clear hr
          go_wp2_with fail
          refine (HI.out _).mono ?_
          rintro e w3 ⟨rfl, hw3⟩
          subst hw3
          go_wp2_with fail
          go_roundg (s.length - (i + 1))
          case measure => have := HN.out.1; omega
          case rel => exact ⟨i + 1, by omega, HT1.out, HN.out.2.2.succ HX.out HIN.out⟩
        | true =>
          rw [hin] at hcon
          have hlt : ((0 : Int) ≤ Lib.indexByte [60, 91] x) := of_decide_eq_true hcon.symm
          have HIN := Lib.hid hin
          clear hcon hin
          obtain ⟨r, hr⟩ : ∃ r, Lib.indexByte [60, 91] x = r := ⟨_, rfl⟩
          rw [hr] at HI hlt
          clear hr
          go_wp2_with fail
          refine (HI.out _).mono ?_
          rintro e w3 ⟨rfl, hw3⟩
          subst hw3
          go_wp2_with fail
          go_ret
          exact ⟨by rw [Lib.indexAny_hit HN.out.2.2 HX.out HIN.out] <;> rfl, fr_new HT1.out.2⟩
      · obtain ⟨h1, h2, h3, h4, h5⟩ := decode_hi (bs s) i hi2 (by rw [hx]; omega)
        have hnx := fun ty => Lib.run_next_any_at (P := Tryz.prog) wr w1.heap.size (bs s) i ty hit1 hi2
        obtain ⟨p, hp⟩ : ∃ p, Utf8.decode (bs s) i = p := ⟨_, rfl⟩
        obtain ⟨c, k⟩ := p
        rw [hp] at hnx h1 h2 h3 h4 h5
        dsimp only at hnx h1 h2 h3 h4 h5
        have HT1 := Lib.hid (HN.out.2.1.on (i + k))
        obtain ⟨W1, hW1⟩ : ∃ W1, wr.iterAt w1.heap.size (bs s) (i + k) = W1 := ⟨_, rfl⟩
        rw [hW1] at hnx HT1
        clear hp hx hW1 hit1
        have HI := Lib.hid (fun (W : World) => idxrune_h (w := W) (c : Int) (by omega) h2)
        have HNN := Lib.hid (show Lib.NoAny s [60, 91] (i + k) from fun j b hj hb => by
          by_cases hji : j < i
          · exact HN.out.2.2 j b hji hb
          · have hjs : j < (bs s).size := (List.getElem?_eq_some_iff.1 hb).1
            have e1 := bs_get s j hjs
            rw [hb] at e1
            have h6 := h5 j (by omega) hj hjs
            rw [← Option.some.inj e1] at h6
            exact two_bytes hb h6)
        have hk : i + k ≤ s.length := h4
        have hk1 : 1 ≤ k := h3
        clear h2 h4 h5 h3
        go_wp2_with fail
        refine (HI.out _).mono ?_
        rintro e w3 ⟨rfl, hF3⟩
        have HT3 := Lib.hid (HT1.out.fr hF3)
        clear hF3
        go_wp2_with fail
        go_roundg (s.length - (i + k))
        case measure => have := HN.out.1; omega
        case rel => exact ⟨i + k, by omega, HT3.out, HNN.out⟩
    · have hie : i = s.length := by have := HN.out.1; omega
      have hnx := fun ty => Lib.run_next_end_at (P := Tryz.prog) wr w1.heap.size (bs s) i ty hit1 (by rw [hsz]; omega)
      have HE := Lib.hid (show Lib.NoAny s [60, 91] s.length from by rw [← hie]; exact HN.out.2.2)
      clear hie hit1
      go_wp2_with fail
      go_ret
      exact ⟨by rw [Lib.indexAny_none HE.out] <;> rfl, fr_new HN.out.2.1.2⟩
theorem two_ascii : ∀ (j : Nat) b, (bs [60, 91]).data.toList[j]? = some b → b.toNat < 128 := by
  intro j b h
  rw [bs_data] at h
  have := List.mem_of_getElem? h
  simp at this
  rcases this with rfl | rfl <;> decide
theorem idxany_h {w : World} (s : Str) (hs : s.length ≤ 1000000) : Calls Tryz.prog 139 #[.string (bs s), .string (bs [60, 91])] w fun e w' => e = .returned (.int .i64 (Lib.indexAny s [60, 91])) ∧ Fr (fun _ => False) w w' := by
  by_cases h : s.length ≤ 8
  · exact idxany_short s h
  · refine (Tryz.strings_IndexAny_long zero143 (bs s) (bs [60, 91]) w (by decide) (by show 8 < s.length; omega) (by show s.length < _; omega) (by decide) two_ascii).mono ?_
    rintro e w' ⟨rfl, rfl⟩
    exact ⟨rfl, ((Fr.refl _ _).alloc _).alloc _⟩
theorem hasany_h {w : World} (s : Str) (hs : s.length ≤ 1000000) : Calls Tryz.prog 110 #[.string (bs s), .string (bs [60, 91])] w fun e w' => e = .returned (.bool (s.contains 60 || s.contains 91)) ∧ Fr (fun _ => False) w w' := by
  have H := Lib.hid (idxany_h (w := w) s hs)
  have HT := Lib.hid (any_two s)
  obtain ⟨r, hr⟩ : ∃ r, Lib.indexAny s [60, 91] = r := ⟨_, rfl⟩
  rw [hr] at H HT
  clear hr
  go_enter Tryz.func110, Tryz.ntmps110
  go_wp2_with fail
  refine H.out.mono ?_
  rintro e w1 ⟨rfl, hF⟩
  have HF := Lib.hid hF
  clear hF
  go_wp2_with fail
  go_ret
  exact ⟨by rw [← HT.out] <;> rfl, HF.out⟩
end Go.Proofs.YtpinjgdnhbogoaaGreatDoor
