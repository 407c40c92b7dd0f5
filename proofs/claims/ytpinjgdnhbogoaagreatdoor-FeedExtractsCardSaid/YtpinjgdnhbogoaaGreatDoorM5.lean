/- strings.ContainsAny of a text and two marks, whatever the text's bytes. -/
import Derived.Test.YtpinjgdnhbogoaaGreatDoorM9
import Derived.Laws.RangeAny
import Derived.Lib.OthersKept
import Derived.Deep.QuietTactic
import Derived.BigQuiet
import Derived.Deep.RegionLaw
import Derived.BigCall
import Derived.Outline
namespace Go.Proofs.YtpinjgdnhbogoaaGreatDoor
open Go.RowKit Go.Lib

theorem two_at (k : Nat) (h : k < (bs [60, 91]).size) : ((bs [60, 91])[k]'h).toNat < 128 := by
  rw [bs_at]
  have : k < 2 := h
  match k, this with
  | 0, _ => decide
  | 1, _ => decide
theorem decode_hi (s : ByteArray) (i : Nat) (hi : i < s.size) (h : 128 ≤ (s[i]).toNat) :
    128 ≤ (Utf8.decode s i).1 ∧ Utf8.valid ((Utf8.decode s i).1 : Int) = true ∧ 1 ≤ (Utf8.decode s i).2 ∧ i + (Utf8.decode s i).2 ≤ s.size ∧ ∀ j, i ≤ j → j < i + (Utf8.decode s i).2 → ∀ hj : j < s.size, 128 ≤ (s[j]).toNat := by
  have hget : ∀ k (hk : k < s.size), s.get! k = s[k] := by
    intro k hk
    show s.data[k]! = s.data[k]
    rw [getElem!_pos]
  have h0 : (s.get! (i + 0)).toNat = (s[i]).toNat := by rw [Nat.add_zero, hget i hi]
  unfold Utf8.decode
  simp only [h0]
  rw [if_neg (by omega)]
  have base : ∀ j, i ≤ j → j < i + 1 → ∀ hj : j < s.size, 128 ≤ (s[j]).toNat := by
    intro j h1 h2 hj
    obtain rfl : j = i := by omega
    exact h
  have cont : ∀ k, (decide (i + k < s.size) && (s.get! (i + k)).toNat / 64 == 2) = true → i + k < s.size ∧ ∀ hj : i + k < s.size, 128 ≤ (s[i + k]).toNat := by
    intro k hk
    simp only [Bool.and_eq_true, decide_eq_true_eq, beq_iff_eq] at hk
    refine ⟨hk.1, fun hj => ?_⟩
    have := hk.2
    rw [hget (i + k) hj] at this
    omega
  have err : 128 ≤ Utf8.runeError ∧ Utf8.valid (Utf8.runeError : Int) = true ∧ 1 ≤ 1 ∧ i + 1 ≤ s.size ∧ ∀ j, i ≤ j → j < i + 1 → ∀ hj : j < s.size, 128 ≤ (s[j]).toNat := ⟨by decide, by decide, Nat.le_refl _, by omega, base⟩
  split
  · rename_i hc
    simp only [Bool.and_eq_true] at hc
    have c1 := cont 1 (by simpa [Bool.and_eq_true] using hc.2)
    split
    · rename_i hge
      have hlt : ((s[i]).toNat % 32) * 64 + (s.get! (i + 1)).toNat % 64 < 2048 := by omega
      refine ⟨by simpa using hge, ?_, by simp, by have := c1.1; omega, ?_⟩
      · unfold Utf8.valid
        simp only [Bool.or_eq_true, Bool.and_eq_true, decide_eq_true_eq]
        left; constructor <;> simp at hge ⊢ <;> omega
      · intro j h1 h2 hj
        by_cases e : j = i
        · subst e; exact h
        · obtain rfl : j = i + 1 := by simp at h2; omega
          exact c1.2 hj
    · exact err
  · split
    · rename_i hc
      simp only [Bool.and_eq_true] at hc
      have c1 := cont 1 (by simpa [Bool.and_eq_true] using hc.1.2)
      have c2 := cont 2 (by simpa [Bool.and_eq_true] using hc.2)
      split
      · rename_i hge
        simp only [Bool.and_eq_true, decide_eq_true_eq] at hge
        refine ⟨by simp; omega, hge.2, by simp, by have := c2.1; omega, ?_⟩
        intro j h1 h2 hj
        by_cases e : j = i
        · subst e; exact h
        by_cases e1 : j = i + 1
        · subst e1; exact c1.2 hj
        · obtain rfl : j = i + 2 := by simp at h2; omega
          exact c2.2 hj
      · exact err
    · split
      · rename_i hc
        simp only [Bool.and_eq_true] at hc
        have c1 := cont 1 (by simpa [Bool.and_eq_true] using hc.1.1.2)
        have c2 := cont 2 (by simpa [Bool.and_eq_true] using hc.1.2)
        have c3 := cont 3 (by simpa [Bool.and_eq_true] using hc.2)
        split
        · rename_i hge
          simp only [Bool.and_eq_true, decide_eq_true_eq] at hge
          refine ⟨by simp; omega, hge.2, by simp, by have := c3.1; omega, ?_⟩
          intro j h1 h2 hj
          by_cases e : j = i
          · subst e; exact h
          by_cases e1 : j = i + 1
          · subst e1; exact c1.2 hj
          by_cases e2 : j = i + 2
          · subst e2; exact c2.2 hj
          · obtain rfl : j = i + 3 := by simp at h2; omega
            exact c3.2 hj
        · exact err
      · exact err
set_option maxRecDepth 100000 in
set_option maxHeartbeats 4000000 in
theorem idxrune_h {w : World} (c : Int) (hc : 128 ≤ c) (hv : Utf8.valid c = true) : Calls Tryz.prog 160 #[.string (bs [60, 91]), .int .i32 c] w fun e w' => e = .returned (.int .i64 (-1)) ∧ Fr (fun _ => False) w w' := by
  have hEF := encode_facts c hv hc
  have HV := Lib.hid hv
  have hz2 : (bs [60, 91]).size = 2 := rfl
  clear hv
  by_cases hr : c = 65533
  · subst hr
    clear hEF
    have hz0 : 0 < (bs [60, 91]).size := by rw [hz2]; omega
    have hz1 : 1 < (bs [60, 91]).size := by rw [hz2]; omega
    have n0 := fun ty => run_next_ascii (P := Tryz.prog) w (bs [60, 91]) 0 ty hz0 (two_at 0 hz0)
    have n1 := fun ty => run_next_ascii (P := Tryz.prog) w (bs [60, 91]) 1 ty hz1 (two_at 1 hz1)
    have n2 := fun ty => run_next_end (P := Tryz.prog) w (bs [60, 91]) 2 ty (by rw [hz2]; omega)
    have g0 : (bs [60, 91])[0] = 60 := rfl
    have g1 : (bs [60, 91])[1] = 91 := rfl
    rw [g0] at n0
    rw [g1] at n1
    clear g0 g1
    go_enter Tryz.func160, Tryz.ntmps160
    go_wp2_with fail
    refine wp_loop_rounds 3 ?_
    rw [rounds_succ]
    go_wp2_with fail
    rw [rounds_succ]
    go_wp2_with fail
    rw [rounds_succ]
    go_wp2_with fail
    go_ret
    exact ⟨rfl, (Fr.refl _ _).alloc _⟩
  · have h65 : ((c : Int) == 65533) = false := by rw [beq_eq_false_iff_ne]; exact hr
    clear hr
    have HVR := Lib.hid (Tryz.utf8_ValidRune c w)
    have hvr : Lib.validRune c = true := by
      have := HV.out
      unfold Utf8.valid at this
      unfold Lib.validRune
      simp only [Bool.or_eq_true, Bool.and_eq_true, decide_eq_true_eq] at this ⊢
      omega
    rw [hvr] at HVR
    clear hvr
    obtain ⟨rs, hrs⟩ : ∃ rs, Utf8.encode c = rs := ⟨_, rfl⟩
    rw [hrs] at hEF
    obtain ⟨hs2, hs4, hlast⟩ := hEF
    have HL := Lib.hid hlast
    have hsz : rs.size = 2 ∨ rs.size = 3 ∨ rs.size = 4 := by omega
    clear hlast
    rcases hsz with hsz | hsz | hsz
    · obtain ⟨b, hb⟩ : ∃ b, rs[rs.size - 1]'(by omega) = b := ⟨_, rfl⟩
      have hb128 : 128 ≤ b.toNat := by rw [← hb]; exact HL.out _
      have hg1 : rs[1]'(by omega) = b := by rw [← hb]; simp [hsz]
      have hg2 : (bs [60, 91])[1]'(by rw [hz2]; omega) = 91 := rfl
      have hne : ((91 : Int) == (b.toNat : Int)) = false := by rw [beq_eq_false_iff_ne]; omega
      have hne' : ((91 : Int) != (b.toNat : Int)) = true := by rw [bne, hne]; rfl
      have hx : (bs [60, 91]).extract 2 2 = bs [] := bs_drop [60, 91] 2
      have HI := Lib.hid (fun (W : World) => Tryz.strings_IndexByte (bs []) (b.toNat : Int) W)
      have hrun : IntKind.i64.wrap ((2 : Int) - 1) = 1 := by decide
      clear hb
      go_enter Tryz.func160, Tryz.ntmps160
      go_wp2_with fail
      refine HVR.out.mono ?_
      rintro e w1 ⟨rfl, rfl⟩
      go_wp2_with fail
      go_step3
      go_wp2_with fail
      refine wp_loop_rounds 1 ?_
      rw [rounds_succ]
      go_wp2_with fail
      go_step3
      go_wp2_with fail
      go_quiet (fail)
      go_wp2_with fail
      generalize hW : World.drewN w1 _ = W
      have hFW : Fr (fun _ => False) w1 W := by rw [← hW]; exact (Fr.refl _ _).drewN _
      clear hW
      go_quiet ((go_at_call 79; exact Calls.quiet_of_same (HI.out _)))
      go_wp2_with fail
      rw [Exit.noGoto_ret]
      go_wp2_with fail
      rw [Exit.noGoto_ret]
      go_ret
      exact ⟨rfl, hFW.drewN _⟩
    · have hrun : IntKind.i64.wrap ((3 : Int) - 1) = 2 := by decide
      go_enter Tryz.func160, Tryz.ntmps160
      go_wp2_with fail
      refine HVR.out.mono ?_
      rintro e w1 ⟨rfl, rfl⟩
      go_wp2_with fail
      go_step3
      go_wp2_with fail
      refine wp_loop_rounds 1 ?_
      rw [rounds_succ]
      go_wp2_with fail
      rw [Exit.noGoto_ret]
      go_ret
      exact ⟨rfl, Fr.refl _ _⟩
    · have hrun : IntKind.i64.wrap ((4 : Int) - 1) = 3 := by decide
      go_enter Tryz.func160, Tryz.ntmps160
      go_wp2_with fail
      refine HVR.out.mono ?_
      rintro e w1 ⟨rfl, rfl⟩
      go_wp2_with fail
      go_step3
      go_wp2_with fail
      refine wp_loop_rounds 1 ?_
      rw [rounds_succ]
      go_wp2_with fail
      rw [Exit.noGoto_ret]
      go_ret
      exact ⟨rfl, Fr.refl _ _⟩
theorem any_two : ∀ l : Str, decide (0 ≤ Lib.indexAny l [60, 91]) = (l.contains 60 || l.contains 91)
  | [] => rfl
  | b :: l => by
    have ih := any_two l
    have hge := Lib.indexAny_ge [60, 91] l
    rw [Lib.indexAny]
    by_cases h : ([60, 91] : Str).contains b = true
    · rw [if_pos h]
      have : b = 60 ∨ b = 91 := by simpa using h
      rcases this with rfl | rfl <;> simp
    · rw [if_neg h]
      have h2 : ¬ b = 60 ∧ ¬ b = 91 := by simpa using h
      have e1 : (b :: l).contains 60 = l.contains 60 := by simp; intro e; exact absurd e.symm h2.1
      have e2 : (b :: l).contains 91 = l.contains 91 := by simp; intro e; exact absurd e.symm h2.2
      rw [e1, e2, ← ih]
      by_cases h3 : Lib.indexAny l [60, 91] = -1
      · rw [if_pos (by rw [h3]; rfl), h3]
      · rw [if_neg (by simpa using h3)]
        have h4 : 0 ≤ Lib.indexAny l [60, 91] := by omega
        rw [decide_eq_true h4, decide_eq_true (by omega)]
theorem two_bytes {s : Str} {i : Nat} {x : UInt8} (hx : s[i]? = some x) (h : 128 ≤ x.toNat) : ([60, 91] : Str).contains x = false := by
  have h1 : ¬ x = 60 := by rintro rfl; exact absurd h (by decide)
  have h2 : ¬ x = 91 := by rintro rfl; exact absurd h (by decide)
  simp [h1, h2]
theorem bs_get (s : Str) (i : Nat) (h : i < (bs s).size) : s[i]? = some ((bs s)[i]) := List.getElem?_eq_getElem (l := s) h
theorem zero143 : ∀ w, (zeroValue 143).run Tryz.prog w = .ok (.agg (Array.replicate 256 (.bool false))) w := (zero_of_info (P := Tryz.prog) (t := 143) (n := 256) (by kernel_rfl)).1
/-- the iterator at a place; nothing else has turned -/
def ItAt (w1 : World) (s : Str) (i : Nat) (W : World) : Prop := W.heap[w1.heap.size]? = some (.stringIter (bs s) i) ∧ Below w1.heap.size w1 W
theorem ItAt.fr {w1 W W2 : World} {s : Str} {i : Nat} (h : ItAt w1 s i W) (hf : Fr (fun _ => False) W W2) : ItAt w1 s i W2 :=
  ⟨hf.keep h.1 (fun h => h), h.2.trans (hf.below h.2.size (fun _ h => h.elim))⟩
theorem ItAt.on {w1 W : World} {s : Str} {i : Nat} (h : ItAt w1 s i W) (j : Nat) : ItAt w1 s j (W.iterAt w1.heap.size (bs s) j) :=
  ⟨Lib.iterAt_heap W _ _ i j h.1, Lib.below_iterAt h.2 (Nat.le_refl _) _ _⟩
set_option maxHeartbeats 4000000 in
theorem idxany_short {w : World} (s : Str) (hs : s.length ≤ 8) : Calls Tryz.prog 139 #[.string (bs s), .string (bs [60, 91])] w fun e w' => e = .returned (.int .i64 (Lib.indexAny s [60, 91])) ∧ Fr (fun _ => False) w w' := by
  have hemp : (bs [60, 91]).toList.isEmpty = false := by rw [bs_toList]; rfl
  have hz2 : (bs [60, 91]).size = 2 := rfl
  have hsz : (bs s).size = s.length := rfl
  have h8z : decide ((8 : Int) < (s.length : Int)) = false := decide_eq_false (by omega)
  have HSH := Lib.hid (fun (W : World) => Tryz.strings_shouldUseASCIISet (s.length : Int) W)
  rw [h8z] at HSH
  clear h8z
  go_enter Tryz.func139, Tryz.ntmps139
  go_wp2_with fail
  refine (HSH.out _).mono ?_
  rintro e w1 ⟨rfl, rfl⟩
  go_wp2_with fail
  have H0 := Lib.hid (show ItAt w1 s 0 (w1.iter (bs s) 0) from ⟨World.iter_heap _ _ _, (Below.refl _ _).alloc (Nat.le_refl _) _⟩)
  go_loopg [9, 10] s.length (fun g _ _ wx => ∃ i : Nat, i + g = s.length ∧ ItAt w1 s i wx ∧ Lib.NoAny s [60, 91] i)
  case atStart => exact ⟨0, by omega, H0.out, Lib.NoAny.zero _ _⟩
  case round =>
    obtain ⟨i, hig, hit, hno⟩ := hrel
    have HN := Lib.hid (And.intro hig (And.intro hit hno))
    clear hig hno H0
    obtain ⟨hit1, _⟩ := hit
    by_cases hi : i < s.length
    · have hi2 : i < (bs s).size := hi
      obtain ⟨x, hx⟩ : ∃ x : UInt8, (bs s)[i]'hi2 = x := ⟨_, rfl⟩
      have HX := Lib.hid (show s[i]? = some x by rw [bs_get s i hi2, hx])
      by_cases hx128 : x.toNat < 128
      · have hnx := fun ty => Lib.run_next_ascii_at (P := Tryz.prog) wr w1.heap.size (bs s) i ty hit1 hi2 (by rw [hx]; exact hx128)
        rw [hx] at hnx
        have HT1 := Lib.hid (HN.out.2.1.on (i + 1))
        obtain ⟨W1, hW1⟩ : ∃ W1, wr.iterAt w1.heap.size (bs s) (i + 1) = W1 := ⟨_, rfl⟩
        rw [hW1] at hnx HT1
        clear hx hW1 hit1
        have HI := Lib.hid (fun (W : World) => Tryz.strings_IndexRune_ascii (bs [60, 91]) (x.toNat : Int) W (by omega) (by omega))
        have hback : ((x.toNat : Int)).toNat.toUInt8 = x := by simp
        rw [hback, bs_data] at HI
        clear hback
        have hcon := Lib.contains_iff_indexByte [60, 91] x
        cases hin : ([60, 91] : Str).contains x with
        | false =>
          rw [hin] at hcon
          have hlt : ¬ ((0 : Int) ≤ Lib.indexByte [60, 91] x) := of_decide_eq_false hcon.symm
          have HIN := Lib.hid hin
          clear hcon hin
          obtain ⟨r, hr⟩ : ∃ r, Lib.indexByte [60, 91] x = r := ⟨_, rfl⟩
          rw [hr] at HI hlt
          clear hr
          go_wp2_with fail
          refine (HI.out _).mono ?_
          rintro e w3 ⟨rfl, hw3⟩
          subst hw3
          go_wp2_with fail
          go_roundg (s.length - (i + 1))
          case measure => have := HN.out.1; omega
          case rel => exact ⟨i + 1, by omega, HT1.out, HN.out.2.2.succ HX.out HIN.out⟩
        | true =>
          rw [hin] at hcon
          have hlt : ((0 : Int) ≤ Lib.indexByte [60, 91] x) := of_decide_eq_true hcon.symm
          have HIN := Lib.hid hin
          clear hcon hin
          obtain ⟨r, hr⟩ : ∃ r, Lib.indexByte [60, 91] x = r := ⟨_, rfl⟩
          rw [hr] at HI hlt
          clear hr
          go_wp2_with fail
          refine (HI.out _).mono ?_
          rintro e w3 ⟨rfl, hw3⟩
          subst hw3
          go_wp2_with fail
          go_ret
          exact ⟨by rw [Lib.indexAny_hit HN.out.2.2 HX.out HIN.out] <;> rfl, fr_new HT1.out.2⟩
      · obtain ⟨h1, h2, h3, h4, h5⟩ := decode_hi (bs s) i hi2 (by rw [hx]; omega)
        have hnx := fun ty => Lib.run_next_any_at (P := Tryz.prog) wr w1.heap.size (bs s) i ty hit1 hi2
        obtain ⟨p, hp⟩ : ∃ p, Utf8.decode (bs s) i = p := ⟨_, rfl⟩
        obtain ⟨c, k⟩ := p
        rw [hp] at hnx h1 h2 h3 h4 h5
        dsimp only at hnx h1 h2 h3 h4 h5
        have HT1 := Lib.hid (HN.out.2.1.on (i + k))
        obtain ⟨W1, hW1⟩ : ∃ W1, wr.iterAt w1.heap.size (bs s) (i + k) = W1 := ⟨_, rfl⟩
        rw [hW1] at hnx HT1
        clear hp hx hW1 hit1
        have HI := Lib.hid (fun (W : World) => idxrune_h (w := W) (c : Int) (by omega) h2)
        have HNN := Lib.hid (show Lib.NoAny s [60, 91] (i + k) from fun j b hj hb => by
          by_cases hji : j < i
          · exact HN.out.2.2 j b hji hb
          · have hjs : j < (bs s).size := (List.getElem?_eq_some_iff.1 hb).1
            have e1 := bs_get s j hjs
            rw [hb] at e1
            have h6 := h5 j (by omega) hj hjs
            rw [← Option.some.inj e1] at h6
            exact two_bytes hb h6)
        have hk : i + k ≤ s.length := h4
        have hk1 : 1 ≤ k := h3
        clear h2 h4 h5 h3
        go_wp2_with fail
        refine (HI.out _).mono ?_
        rintro e w3 ⟨rfl, hF3⟩
        have HT3 := Lib.hid (HT1.out.fr hF3)
        clear hF3
        go_wp2_with fail
        go_roundg (s.length - (i + k))
        case measure => have := HN.out.1; omega
        case rel => exact ⟨i + k, by omega, HT3.out, HNN.out⟩
    · have hie : i = s.length := by have := HN.out.1; omega
      have hnx := fun ty => Lib.run_next_end_at (P := Tryz.prog) wr w1.heap.size (bs s) i ty hit1 (by rw [hsz]; omega)
      have HE := Lib.hid (show Lib.NoAny s [60, 91] s.length from by rw [← hie]; exact HN.out.2.2)
      clear hie hit1
      go_wp2_with fail
      go_ret
      exact ⟨by rw [Lib.indexAny_none HE.out] <;> rfl, fr_new HN.out.2.1.2⟩
theorem two_ascii : ∀ (j : Nat) b, (bs [60, 91]).data.toList[j]? = some b → b.toNat < 128 := by
  intro j b h
  rw [bs_data] at h
  have := List.mem_of_getElem? h
  simp at this
  rcases this with rfl | rfl <;> decide
theorem idxany_h {w : World} (s : Str) (hs : s.length ≤ 1000000) : Calls Tryz.prog 139 #[.string (bs s), .string (bs [60, 91])] w fun e w' => e = .returned (.int .i64 (Lib.indexAny s [60, 91])) ∧ Fr (fun _ => False) w w' := by
  by_cases h : s.length ≤ 8
  · exact idxany_short s h
  · refine (Tryz.strings_IndexAny_long zero143 (bs s) (bs [60, 91]) w (by decide) (by show 8 < s.length; omega) (by show s.length < _; omega) (by decide) two_ascii).mono ?_
    rintro e w' ⟨rfl, rfl⟩
    exact ⟨rfl, ((Fr.refl _ _).alloc _).alloc _⟩
theorem hasany_h {w : World} (s : Str) (hs : s.length ≤ 1000000) : Calls Tryz.prog 110 #[.string (bs s), .string (bs [60, 91])] w fun e w' => e = .returned (.bool (s.contains 60 || s.contains 91)) ∧ Fr (fun _ => False) w w' := by
  have H := Lib.hid (idxany_h (w := w) s hs)
  have HT := Lib.hid (any_two s)
  obtain ⟨r, hr⟩ : ∃ r, Lib.indexAny s [60, 91] = r := ⟨_, rfl⟩
  rw [hr] at H HT
  clear hr
  go_enter Tryz.func110, Tryz.ntmps110
  go_wp2_with fail
  refine H.out.mono ?_
  rintro e w1 ⟨rfl, hF⟩
  have HF := Lib.hid hF
  clear hF
  go_wp2_with fail
  go_ret
  exact ⟨by rw [← HT.out] <;> rfl, HF.out⟩
end Go.Proofs.YtpinjgdnhbogoaaGreatDoor

/- part: what begins with a mark taken off. -/
namespace Go.Proofs.YtpinjgdnhbogoaaGreatDoor
open Go.RowKit Go.Lib

def PartPost (s : Str) (w : World) (e : Ending) (w' : World) : Prop :=
  (match partL s with
    | some (u, l, rest) => ∃ v, e = .returned (.tuple #[.string (bs u), v, .string (bs rest), .bool true]) ∧ Toks w.heap.size w' v l
    | none => ∃ u v r, e = .returned (.tuple #[.string u, v, .string r, .bool false])) ∧ Fr (fun _ => False) w w'
theorem part_post_some {s u r : Str} {l : List TokD} {v : Value} {w w' : World} (h : partL s = some (u, l, r)) (ht : Toks w.heap.size w' v l) (hf : Fr (fun _ => False) w w') : PartPost s w (.returned (.tuple #[.string (bs u), v, .string (bs r), .bool true])) w' := by
  unfold PartPost; rw [h]; exact ⟨⟨v, rfl, ht⟩, hf⟩
theorem part_post_none {s : Str} {u r : ByteArray} {v : Value} {w w' : World} (h : partL s = none) (hf : Fr (fun _ => False) w w') : PartPost s w (.returned (.tuple #[.string u, v, .string r, .bool false])) w' := by
  unfold PartPost; rw [h]; exact ⟨⟨u, v, r, rfl⟩, hf⟩
def pC : Str := [60, 33, 45, 45]
def pI : Str := [60, 63]
def pD : Str := [60, 33, 91, 67, 68, 65, 84, 65, 91]
def pT : Str := [60, 33, 68, 79, 67, 84, 89, 80, 69]
def pE : Str := [60, 47]
theorem part_c {s r : Str} (h : stripL pC s = some r) : partL s = (cutL [45, 45, 62] r).map fun q => ([], [], q.2) := by
  unfold partL; rw [show stripL [60, 33, 45, 45] s = some r from h]
theorem part_i {s r : Str} (h1 : stripL pC s = none) (h : stripL pI s = some r) : partL s = (cutL [63, 62] r).map fun q => ([], [], q.2) := by
  unfold partL; rw [show stripL [60, 33, 45, 45] s = none from h1, show stripL [60, 63] s = some r from h]
theorem part_d {s r : Str} (h1 : stripL pC s = none) (h2 : stripL pI s = none) (h : stripL pD s = some r) : partL s = (cutL [93, 93, 62] r).map fun q => (q.1, [], q.2) := by
  unfold partL; rw [show stripL [60, 33, 45, 45] s = none from h1, show stripL [60, 63] s = none from h2, show stripL [60, 33, 91, 67, 68, 65, 84, 65, 91] s = some r from h]
def docT (r : Str) : Option (Str × List TokD × Str) := match cutL [62] r with
  | none => none
  | some (t, rest) => if t.contains 60 || t.contains 91 then none else some ([], [], rest)
theorem part_t {s r : Str} (h1 : stripL pC s = none) (h2 : stripL pI s = none) (h3 : stripL pD s = none) (h : stripL pT s = some r) : partL s = docT r := by
  unfold partL docT; rw [show stripL [60, 33, 45, 45] s = none from h1, show stripL [60, 63] s = none from h2, show stripL [60, 33, 91, 67, 68, 65, 84, 65, 91] s = none from h3, show stripL [60, 33, 68, 79, 67, 84, 89, 80, 69] s = some r from h]; rfl
theorem part_e {s r : Str} (h1 : stripL pC s = none) (h2 : stripL pI s = none) (h3 : stripL pD s = none) (h4 : stripL pT s = none) (h : stripL pE s = some r) : partL s = (closeL r).map fun q => ([], q.1, q.2) := by
  unfold partL; rw [show stripL [60, 33, 45, 45] s = none from h1, show stripL [60, 63] s = none from h2, show stripL [60, 33, 91, 67, 68, 65, 84, 65, 91] s = none from h3, show stripL [60, 33, 68, 79, 67, 84, 89, 80, 69] s = none from h4, show stripL [60, 47] s = some r from h]
theorem part_o {s : Str} (h1 : stripL pC s = none) (h2 : stripL pI s = none) (h3 : stripL pD s = none) (h4 : stripL pT s = none) (h5 : stripL pE s = none) : partL s = (tagL (s.drop 1)).map fun q => ([], q.1, q.2) := by
  unfold partL; rw [show stripL [60, 33, 45, 45] s = none from h1, show stripL [60, 63] s = none from h2, show stripL [60, 33, 91, 67, 68, 65, 84, 65, 91] s = none from h3, show stripL [60, 33, 68, 79, 67, 84, 89, 80, 69] s = none from h4, show stripL [60, 47] s = none from h5]
theorem close_some {r n x : Str} (hn : nameL r = n) (h0 : ¬ n = []) (h : stripL [62] (trimL (r.drop n.length)) = some x) : closeL r = some ([⟨2, n, [], []⟩], x) := by
  unfold closeL; rw [hn, if_neg (by simpa using h0), stripL_some h]; rfl
theorem close_none {r n : Str} (hn : nameL r = n) (h : n = [] ∨ stripL [62] (trimL (r.drop n.length)) = none) : closeL r = none := by
  unfold closeL
  rw [hn]
  by_cases h0 : n = []
  · rw [if_pos (by simpa using h0)]
  · rw [if_neg (by simpa using h0)]
    rcases h with h | h
    · exact absurd h h0
    · split
      · rename_i h2; rw [h2] at h; simp [stripL, List.isPrefixOf] at h
      · rfl
theorem strip_lenle {p s r : Str} (h : stripL p s = some r) : r.length ≤ s.length := by
  have := congrArg List.length (stripL_some h); rw [List.length_append] at this; omega
set_option maxHeartbeats 4000000 in
theorem part1 {w : World} (hE : Env w) (s r : Str) (hs : s.length ≤ 1000000) (h : stripL pC s = some r) : Calls Tryz.prog 82 #[.string (bs s)] w (PartPost s w) := by
  have HP := Lib.hid (part_c  h)
  have CS := Lib.hid (fun (W : World) => cutp_some (w := W) h)
  have hrl : r.length ≤ 1000000 := by have := strip_lenle h; omega
  clear h 
  cases hc : cutL [45, 45, 62] r with
  | none =>
    have HR := Lib.hid (show partL s = none from by rw [HP.out, hc]; rfl)
    have HC := Lib.hid (cut_none hE hrl hc)
    clear hc
    go_enter Tryz.func82, Tryz.ntmps82

    go_wp2_with fail
    refine (CS.out _).mono ?_
    rintro e w1 ⟨rfl, rfl⟩
    go_wp2_with fail
    refine HC.out.mono ?_
    rintro e w1 ⟨rfl, k, rfl⟩
    go_wp2_with fail
    refine bodyPost_ret (v := .tuple #[.string (bs []), .slice none 0 0, .string (bs []), .bool false]) (by simp [results, Tryz.results82, go_sem] <;> rfl) rfl (part_post_none HR.out ((Fr.refl _ _).drewN k))
  | some q =>
    obtain ⟨a, b⟩ := q
    have HR := Lib.hid (show partL s = some ([], [], b) from by rw [HP.out, hc]; rfl)
    have HC := Lib.hid (cut_some hE hrl hc)
    clear hc
    go_enter Tryz.func82, Tryz.ntmps82

    go_wp2_with fail
    refine (CS.out _).mono ?_
    rintro e w1 ⟨rfl, rfl⟩
    go_wp2_with fail
    refine HC.out.mono ?_
    rintro e w1 ⟨rfl, k, rfl⟩
    go_wp2_with fail
    refine bodyPost_ret (v := .tuple #[.string (bs []), .slice none 0 0, .string (bs b), .bool true]) (by simp [results, Tryz.results82, go_sem] <;> rfl) rfl (part_post_some HR.out (Toks.nil _ _) ((Fr.refl _ _).drewN k))
set_option maxHeartbeats 4000000 in
theorem part2 {w : World} (hE : Env w) (s r : Str) (hs : s.length ≤ 1000000) (h1 : stripL pC s = none) (h : stripL pI s = some r) : Calls Tryz.prog 82 #[.string (bs s)] w (PartPost s w) := by
  have HP := Lib.hid (part_i h1 h)
  have C0 := Lib.hid (fun (W : World) => cutp_none (w := W) h1)
  have CS := Lib.hid (fun (W : World) => cutp_some (w := W) h)
  have hrl : r.length ≤ 1000000 := by have := strip_lenle h; omega
  clear h h1
  cases hc : cutL [63, 62] r with
  | none =>
    have HR := Lib.hid (show partL s = none from by rw [HP.out, hc]; rfl)
    have HC := Lib.hid (cut_none hE hrl hc)
    clear hc
    go_enter Tryz.func82, Tryz.ntmps82
    go_wp2_with fail
    refine (C0.out _).mono ?_
    rintro e w1 ⟨rfl, rfl⟩
    go_wp2_with fail
    refine (CS.out _).mono ?_
    rintro e w1 ⟨rfl, rfl⟩
    go_wp2_with fail
    refine HC.out.mono ?_
    rintro e w1 ⟨rfl, k, rfl⟩
    go_wp2_with fail
    refine bodyPost_ret (v := .tuple #[.string (bs []), .slice none 0 0, .string (bs []), .bool false]) (by simp [results, Tryz.results82, go_sem] <;> rfl) rfl (part_post_none HR.out ((Fr.refl _ _).drewN k))
  | some q =>
    obtain ⟨a, b⟩ := q
    have HR := Lib.hid (show partL s = some ([], [], b) from by rw [HP.out, hc]; rfl)
    have HC := Lib.hid (cut_some hE hrl hc)
    clear hc
    go_enter Tryz.func82, Tryz.ntmps82
    go_wp2_with fail
    refine (C0.out _).mono ?_
    rintro e w1 ⟨rfl, rfl⟩
    go_wp2_with fail
    refine (CS.out _).mono ?_
    rintro e w1 ⟨rfl, rfl⟩
    go_wp2_with fail
    refine HC.out.mono ?_
    rintro e w1 ⟨rfl, k, rfl⟩
    go_wp2_with fail
    refine bodyPost_ret (v := .tuple #[.string (bs []), .slice none 0 0, .string (bs b), .bool true]) (by simp [results, Tryz.results82, go_sem] <;> rfl) rfl (part_post_some HR.out (Toks.nil _ _) ((Fr.refl _ _).drewN k))
set_option maxHeartbeats 4000000 in
theorem part3 {w : World} (hE : Env w) (s r : Str) (hs : s.length ≤ 1000000) (h1 : stripL pC s = none) (h2 : stripL pI s = none) (h : stripL pD s = some r) : Calls Tryz.prog 82 #[.string (bs s)] w (PartPost s w) := by
  have HP := Lib.hid (part_d h1 h2 h)
  have C0 := Lib.hid (fun (W : World) => cutp_none (w := W) h1)
  have C1 := Lib.hid (fun (W : World) => cutp_none (w := W) h2)
  have CS := Lib.hid (fun (W : World) => cutp_some (w := W) h)
  have hrl : r.length ≤ 1000000 := by have := strip_lenle h; omega
  clear h h1 h2
  cases hc : cutL [93, 93, 62] r with
  | none =>
    have HR := Lib.hid (show partL s = none from by rw [HP.out, hc]; rfl)
    have HC := Lib.hid (cut_none hE hrl hc)
    clear hc
    go_enter Tryz.func82, Tryz.ntmps82
    go_wp2_with fail
    refine (C0.out _).mono ?_
    rintro e w1 ⟨rfl, rfl⟩
    go_wp2_with fail
    refine (C1.out _).mono ?_
    rintro e w1 ⟨rfl, rfl⟩
    go_wp2_with fail
    refine (CS.out _).mono ?_
    rintro e w1 ⟨rfl, rfl⟩
    go_wp2_with fail
    refine HC.out.mono ?_
    rintro e w1 ⟨rfl, k, rfl⟩
    go_wp2_with fail
    refine bodyPost_ret (v := .tuple #[.string (bs r), .slice none 0 0, .string (bs []), .bool false]) (by simp [results, Tryz.results82, go_sem] <;> rfl) rfl (part_post_none HR.out ((Fr.refl _ _).drewN k))
  | some q =>
    obtain ⟨a, b⟩ := q
    have HR := Lib.hid (show partL s = some (a, [], b) from by rw [HP.out, hc]; rfl)
    have HC := Lib.hid (cut_some hE hrl hc)
    clear hc
    go_enter Tryz.func82, Tryz.ntmps82
    go_wp2_with fail
    refine (C0.out _).mono ?_
    rintro e w1 ⟨rfl, rfl⟩
    go_wp2_with fail
    refine (C1.out _).mono ?_
    rintro e w1 ⟨rfl, rfl⟩
    go_wp2_with fail
    refine (CS.out _).mono ?_
    rintro e w1 ⟨rfl, rfl⟩
    go_wp2_with fail
    refine HC.out.mono ?_
    rintro e w1 ⟨rfl, k, rfl⟩
    go_wp2_with fail
    refine bodyPost_ret (v := .tuple #[.string (bs a), .slice none 0 0, .string (bs b), .bool true]) (by simp [results, Tryz.results82, go_sem] <;> rfl) rfl (part_post_some HR.out (Toks.nil _ _) ((Fr.refl _ _).drewN k))
set_option maxHeartbeats 4000000 in
theorem part4 {w : World} (hE : Env w) (s r : Str) (hs : s.length ≤ 1000000) (h1 : stripL pC s = none) (h2 : stripL pI s = none) (h3 : stripL pD s = none) (h : stripL pT s = some r) : Calls Tryz.prog 82 #[.string (bs s)] w (PartPost s w) := by
  have HP := Lib.hid (part_t h1 h2 h3 h)
  have C0 := Lib.hid (fun (W : World) => cutp_none (w := W) h1)
  have C1 := Lib.hid (fun (W : World) => cutp_none (w := W) h2)
  have C2 := Lib.hid (fun (W : World) => cutp_none (w := W) h3)
  have CS := Lib.hid (fun (W : World) => cutp_some (w := W) h)
  have hrl : r.length ≤ 1000000 := by have := strip_lenle h; omega
  clear h h1 h2 h3
  cases hc : cutL [62] r with
  | none =>
    have HR := Lib.hid (show partL s = none from by rw [HP.out]; unfold docT; rw [hc])
    have HC := Lib.hid (cut_none hE hrl hc)
    clear hc
    go_enter Tryz.func82, Tryz.ntmps82
    go_wp2_with fail
    refine (C0.out _).mono ?_
    rintro e w1 ⟨rfl, rfl⟩
    go_wp2_with fail
    refine (C1.out _).mono ?_
    rintro e w1 ⟨rfl, rfl⟩
    go_wp2_with fail
    refine (C2.out _).mono ?_
    rintro e w1 ⟨rfl, rfl⟩
    go_wp2_with fail
    refine (CS.out _).mono ?_
    rintro e w1 ⟨rfl, rfl⟩
    go_wp2_with fail
    refine HC.out.mono ?_
    rintro e w1 ⟨rfl, k, rfl⟩
    go_wp2_with fail
    refine bodyPost_ret (v := .tuple #[.string (bs []), .slice none 0 0, .string (bs []), .bool false]) (by simp [results, Tryz.results82, go_sem] <;> rfl) rfl (part_post_none HR.out ((Fr.refl _ _).drewN k))
  | some q =>
    obtain ⟨a, b⟩ := q
    have HC := Lib.hid (cut_some hE hrl hc)
    have hal : a.length ≤ 1000000 := by have := cutL_lens hc; omega
    have HA := Lib.hid (fun (W : World) => hasany_h (w := W) a hal)
    have HR := Lib.hid (show partL s = if a.contains 60 || a.contains 91 then none else some ([], [], b) from by rw [HP.out]; unfold docT; rw [hc])
    clear hc
    cases hb : (a.contains 60 || a.contains 91) with
    | true =>
      have HR2 := Lib.hid (show partL s = none from by rw [HR.out, if_pos hb])
      rw [hb] at HA
      clear hb
      go_enter Tryz.func82, Tryz.ntmps82
      go_wp2_with fail
      refine (C0.out _).mono ?_
      rintro e w1 ⟨rfl, rfl⟩
      go_wp2_with fail
      refine (C1.out _).mono ?_
      rintro e w1 ⟨rfl, rfl⟩
      go_wp2_with fail
      refine (C2.out _).mono ?_
      rintro e w1 ⟨rfl, rfl⟩
      go_wp2_with fail
      refine (CS.out _).mono ?_
      rintro e w1 ⟨rfl, rfl⟩
      go_wp2_with fail
      refine HC.out.mono ?_
      rintro e w1 ⟨rfl, k, rfl⟩
      go_wp2_with fail
      refine (HA.out _).mono ?_
      rintro e w2 ⟨rfl, hF⟩
      go_wp2_with fail
      refine bodyPost_ret (v := .tuple #[.string (bs []), .slice none 0 0, .string (bs b), .bool false]) (by simp [results, Tryz.results82, go_sem] <;> rfl) rfl (part_post_none HR2.out hF.of_start)
    | false =>
      have HR2 := Lib.hid (show partL s = some ([], [], b) from by rw [HR.out, if_neg (by rw [hb]; simp)])
      rw [hb] at HA
      clear hb
      go_enter Tryz.func82, Tryz.ntmps82
      go_wp2_with fail
      refine (C0.out _).mono ?_
      rintro e w1 ⟨rfl, rfl⟩
      go_wp2_with fail
      refine (C1.out _).mono ?_
      rintro e w1 ⟨rfl, rfl⟩
      go_wp2_with fail
      refine (C2.out _).mono ?_
      rintro e w1 ⟨rfl, rfl⟩
      go_wp2_with fail
      refine (CS.out _).mono ?_
      rintro e w1 ⟨rfl, rfl⟩
      go_wp2_with fail
      refine HC.out.mono ?_
      rintro e w1 ⟨rfl, k, rfl⟩
      go_wp2_with fail
      refine (HA.out _).mono ?_
      rintro e w2 ⟨rfl, hF⟩
      go_wp2_with fail
      refine bodyPost_ret (v := .tuple #[.string (bs []), .slice none 0 0, .string (bs b), .bool true]) (by simp [results, Tryz.results82, go_sem] <;> rfl) rfl (part_post_some HR2.out (Toks.nil _ _) hF.of_start)
set_option maxHeartbeats 4000000 in
theorem part5 {w : World} (s r : Str) (hs : s.length ≤ 1000000) (h1 : stripL pC s = none) (h2 : stripL pI s = none) (h3 : stripL pD s = none) (h4 : stripL pT s = none) (h : stripL pE s = some r) : Calls Tryz.prog 82 #[.string (bs s)] w (PartPost s w) := by
  have HP := Lib.hid (part_e h1 h2 h3 h4 h)
  have C0 := Lib.hid (fun (W : World) => cutp_none (w := W) h1)
  have C1 := Lib.hid (fun (W : World) => cutp_none (w := W) h2)
  have C2 := Lib.hid (fun (W : World) => cutp_none (w := W) h3)
  have C3 := Lib.hid (fun (W : World) => cutp_none (w := W) h4)
  have CS := Lib.hid (fun (W : World) => cutp_some (w := W) h)
  have hrl : r.length ≤ 1000000 := by have := strip_lenle h; omega
  clear h h1 h2 h3 h4
  have HN := Lib.hid (name_h (w := w) r (by omega))
  obtain ⟨n, hn⟩ : ∃ n, nameL r = n := ⟨_, rfl⟩
  have HCS := Lib.hid (fun x => close_some (x := x) hn)
  have HCN := Lib.hid (close_none hn)
  obtain ⟨r1, hr1⟩ : ∃ r1, r.drop n.length = r1 := ⟨_, rfl⟩
  rw [hn] at HN
  rw [hr1] at HN HCS HCN
  clear hn hr1
  cases hx : stripL [62] (trimL r1) with
  | none =>
    have HR := Lib.hid (show partL s = none from by rw [HP.out, HCN.out (.inr hx)]; rfl)
    have CT := Lib.hid (fun (W : World) => cutp_none (w := W) hx)
    clear hx
    go_enter Tryz.func82, Tryz.ntmps82
    go_wp2_with fail
    refine (C0.out _).mono ?_
    rintro e w1 ⟨rfl, rfl⟩
    go_wp2_with fail
    refine (C1.out _).mono ?_
    rintro e w1 ⟨rfl, rfl⟩
    go_wp2_with fail
    refine (C2.out _).mono ?_
    rintro e w1 ⟨rfl, rfl⟩
    go_wp2_with fail
    refine (C3.out _).mono ?_
    rintro e w1 ⟨rfl, rfl⟩
    go_wp2_with fail
    refine (CS.out _).mono ?_
    rintro e w1 ⟨rfl, rfl⟩
    go_wp2_with fail
    refine HN.out.mono ?_
    rintro e w1 ⟨rfl, k, rfl⟩
    go_wp2_with fail
    refine (trim_h (s := r1)).mono ?_
    rintro e w3 ⟨rfl, hF3⟩
    have HF3 := Lib.hid hF3.of_start
    clear hF3
    go_wp2_with fail
    refine (CT.out _).mono ?_
    rintro e w4 ⟨rfl, rfl⟩
    go_wp2_with fail
    refine bodyPost_ret (v := .tuple #[.string (bs []), .slice (some ⟨w3.heap.size, 0, none⟩) 1 1, .string (bs (trimL r1)), .bool false]) (by simp [results, Tryz.results82, go_sem] <;> rfl) rfl (part_post_none HR.out (HF3.out.alloc _))
  | some x =>
    have CT := Lib.hid (fun (W : World) => cutp_some (w := W) hx)
    by_cases h0 : n = []
    · have HR := Lib.hid (show partL s = none from by rw [HP.out, HCN.out (.inl h0)]; rfl)
      have htn : (bs n).toList = [] := by rw [bs_toList]; exact h0
      have htn2 : (bs n).toList.isEmpty = true := by rw [bs_toList, h0]; rfl
      clear hx h0
      go_enter Tryz.func82, Tryz.ntmps82
      go_wp2_with fail
      refine (C0.out _).mono ?_
      rintro e w1 ⟨rfl, rfl⟩
      go_wp2_with fail
      refine (C1.out _).mono ?_
      rintro e w1 ⟨rfl, rfl⟩
      go_wp2_with fail
      refine (C2.out _).mono ?_
      rintro e w1 ⟨rfl, rfl⟩
      go_wp2_with fail
      refine (C3.out _).mono ?_
      rintro e w1 ⟨rfl, rfl⟩
      go_wp2_with fail
      refine (CS.out _).mono ?_
      rintro e w1 ⟨rfl, rfl⟩
      go_wp2_with fail
      refine HN.out.mono ?_
      rintro e w1 ⟨rfl, k, rfl⟩
      go_wp2_with fail
      refine (trim_h (s := r1)).mono ?_
      rintro e w3 ⟨rfl, hF3⟩
      have HF3 := Lib.hid hF3.of_start
      clear hF3
      go_wp2_with fail
      refine (CT.out _).mono ?_
      rintro e w4 ⟨rfl, rfl⟩
      go_wp2_with fail
      refine bodyPost_ret (v := .tuple #[.string (bs []), .slice (some ⟨w3.heap.size, 0, none⟩) 1 1, .string (bs x), .bool false]) (by simp [results, Tryz.results82, go_sem] <;> rfl) rfl (part_post_none HR.out (HF3.out.alloc _))
    · have HR := Lib.hid (show partL s = some ([], [⟨2, n, [], []⟩], x) from by rw [HP.out, HCS.out x h0 hx]; rfl)
      have htn : ¬ (bs n).toList = [] := by rw [bs_toList]; exact h0
      have htn2 : (bs n).toList.isEmpty = false := by rw [bs_toList]; simpa using h0
      clear hx h0
      go_enter Tryz.func82, Tryz.ntmps82
      go_wp2_with fail
      refine (C0.out _).mono ?_
      rintro e w1 ⟨rfl, rfl⟩
      go_wp2_with fail
      refine (C1.out _).mono ?_
      rintro e w1 ⟨rfl, rfl⟩
      go_wp2_with fail
      refine (C2.out _).mono ?_
      rintro e w1 ⟨rfl, rfl⟩
      go_wp2_with fail
      refine (C3.out _).mono ?_
      rintro e w1 ⟨rfl, rfl⟩
      go_wp2_with fail
      refine (CS.out _).mono ?_
      rintro e w1 ⟨rfl, rfl⟩
      go_wp2_with fail
      refine HN.out.mono ?_
      rintro e w1 ⟨rfl, k, rfl⟩
      go_wp2_with fail
      refine (trim_h (s := r1)).mono ?_
      rintro e w3 ⟨rfl, hF3⟩
      have HF3 := Lib.hid hF3.of_start
      clear hF3
      go_wp2_with fail
      refine (CT.out _).mono ?_
      rintro e w4 ⟨rfl, rfl⟩
      go_wp2_with fail
      refine bodyPost_ret (v := .tuple #[.string (bs []), .slice (some ⟨w3.heap.size, 0, none⟩) 1 1, .string (bs x), .bool true]) (by simp [results, Tryz.results82, go_sem] <;> rfl) rfl (part_post_some HR.out (row_one (k := 2) (n := n) (tx := []) (l := []) (World.ownsRow_nil _ _ _ _) HF3.out.size) (HF3.out.alloc _))
set_option maxHeartbeats 4000000 in
theorem part6 {w : World} (hE : Env w) (s : Str) (hs : s.length ≤ 1000000) (h0 : 1 ≤ s.length) (h1 : stripL pC s = none) (h2 : stripL pI s = none) (h3 : stripL pD s = none) (h4 : stripL pT s = none) (h5 : stripL pE s = none) : Calls Tryz.prog 82 #[.string (bs s)] w (PartPost s w) := by
  have HP := Lib.hid (part_o h1 h2 h3 h4 h5)
  have C0 := Lib.hid (fun (W : World) => cutp_none (w := W) h1)
  have C1 := Lib.hid (fun (W : World) => cutp_none (w := W) h2)
  have C2 := Lib.hid (fun (W : World) => cutp_none (w := W) h3)
  have C3 := Lib.hid (fun (W : World) => cutp_none (w := W) h4)
  have C4 := Lib.hid (fun (W : World) => cutp_none (w := W) h5)
  clear h1 h2 h3 h4 h5
  have hsz : (bs s).size = s.length := rfl
  have hx := bs_drop s 1
  rw [List.drop_one] at hx HP
  have HT := Lib.hid (tag_h hE s.tail (by rw [List.length_tail]; omega))
  cases hg : tagL s.tail with
  | none =>
    have HR := Lib.hid (show partL s = none from by rw [HP.out, hg]; rfl)
    have HG := Lib.hid hg
    clear hg
    go_enter Tryz.func82, Tryz.ntmps82
    go_wp2_with fail
    refine (C0.out _).mono ?_
    rintro e w1 ⟨rfl, rfl⟩
    go_wp2_with fail
    refine (C1.out _).mono ?_
    rintro e w1 ⟨rfl, rfl⟩
    go_wp2_with fail
    refine (C2.out _).mono ?_
    rintro e w1 ⟨rfl, rfl⟩
    go_wp2_with fail
    refine (C3.out _).mono ?_
    rintro e w1 ⟨rfl, rfl⟩
    go_wp2_with fail
    refine (C4.out _).mono ?_
    rintro e w1 ⟨rfl, rfl⟩
    go_wp2_with fail
    refine HT.out.mono ?_
    rintro e w1 ⟨he, hF⟩
    rw [HG.out] at he
    subst he
    go_wp2_with fail
    refine bodyPost_ret (v := .tuple #[.string (bs []), .slice none 0 0, .string (bs []), .bool false]) (by simp [results, Tryz.results82, go_sem] <;> rfl) rfl (part_post_none HR.out hF)
  | some q =>
    obtain ⟨l, rest⟩ := q
    have HR := Lib.hid (show partL s = some ([], l, rest) from by rw [HP.out, hg]; rfl)
    have HG := Lib.hid hg
    clear hg
    go_enter Tryz.func82, Tryz.ntmps82
    go_wp2_with fail
    refine (C0.out _).mono ?_
    rintro e w1 ⟨rfl, rfl⟩
    go_wp2_with fail
    refine (C1.out _).mono ?_
    rintro e w1 ⟨rfl, rfl⟩
    go_wp2_with fail
    refine (C2.out _).mono ?_
    rintro e w1 ⟨rfl, rfl⟩
    go_wp2_with fail
    refine (C3.out _).mono ?_
    rintro e w1 ⟨rfl, rfl⟩
    go_wp2_with fail
    refine (C4.out _).mono ?_
    rintro e w1 ⟨rfl, rfl⟩
    go_wp2_with fail
    refine HT.out.mono ?_
    rintro e w1 ⟨he, hF⟩
    rw [HG.out] at he
    obtain ⟨v, rfl, hT⟩ := he
    have HT2 := Lib.hid hT
    clear hT
    go_wp2_with fail
    refine bodyPost_ret (v := .tuple #[.string (bs []), v, .string (bs rest), .bool true]) (by simp [results, Tryz.results82, go_sem] <;> rfl) rfl (part_post_some HR.out HT2.out hF)
theorem part_h {w : World} (hE : Env w) (s : Str) (hs : s.length ≤ 1000000) (h0 : 1 ≤ s.length) : Calls Tryz.prog 82 #[.string (bs s)] w (PartPost s w) := by
  cases h1 : stripL pC s with
  | some r => exact part1 hE s r hs h1
  | none =>
    cases h2 : stripL pI s with
    | some r => exact part2 hE s r hs h1 h2
    | none =>
      cases h3 : stripL pD s with
      | some r => exact part3 hE s r hs h1 h2 h3
      | none =>
        cases h4 : stripL pT s with
        | some r => exact part4 hE s r hs h1 h2 h3 h4
        | none =>
          cases h5 : stripL pE s with
          | some r => exact part5 s r hs h1 h2 h3 h4 h5
          | none => exact part6 hE s hs h0 h1 h2 h3 h4 h5
end Go.Proofs.YtpinjgdnhbogoaaGreatDoor

/- flush: the words gathered so far become a token. -/
namespace Go.Proofs.YtpinjgdnhbogoaaGreatDoor
open Go.RowKit Go.Lib

/-- a call of a Go function, as one step of a region that draws -/
theorem step_call {P : Program} {w : World} {ops : Array Oper} {o : Oper} {a : Act} {K : Act → World → Prop} {Q : Exit → Act → World → Prop} {E : Prop} (hgd : o.guard = none) (f : FuncId) (xs : Array Operand) (ats : Array TypeId)
    (ho : o.op = .call { callee := .value (.func f), args := xs, argTypes := ats }) (vs : List Value) (hv : xs.toList.map a.eval = vs) (hen : ∀ args w, (callFunc f args).run P w = .ok (.enter f args) w)
    (R : Ending → World → Prop) (hC : Calls P f vs.toArray w R) (h : ∀ e w', R e w' → ∃ v, e = .returned v ∧ K (a.put o.dst v) w') :
    if Region.wanted o (yielded ops a.tmps) = true then Oper.wp P o a w K Q else E := by
  rw [if_pos (by simp [Region.wanted, hgd])]
  obtain ⟨dst, op, ty, pos, after, guard⟩ := o
  simp only at ho h
  subst ho
  unfold Oper.wp
  have hv2 : xs.map a.eval = vs.toArray := by rw [← hv]; apply Array.ext'; simp
  rw [execOp_call_go, hen, Oper.upon_enter, hv2]
  have e : #[] ++ vs.toArray ++ #[] = vs.toArray := by simp
  rw [e]
  refine hC.mono fun e w' hR => ?_
  obtain ⟨v, rfl, hK⟩ := h e w' hR
  exact hK
theorem ent77 : ∀ args w, (callFunc 77 args).run Tryz.prog w = .ok (.enter 77 args) w := enters_of Tryz.func77 (by kernel_rfl) rfl
structure RIn (w : World) (lv : Value) (l : List TokD) (words : Str) (wr : World) : Prop where
  blk : wr.heap[w.heap.size]? = some (.cells #[lv] 22 (0, 0))
  tok : Toks w.heap.size wr lv l
  bld : Lib.IsBuilderF 115 5 (w.heap.size + 1) (w.heap.size + 1) (Lib.byteCells words) wr
  low : Below w.heap.size w wr
  big : w.heap.size + 1 < wr.heap.size
theorem isB_block {B b : Nat} {l : List Value} {w : World} (h : Lib.IsBuilderF 115 5 B b l w) : ∃ c f, w.heap[b]? = some (.cells c 115 f) := by
  rcases h with ⟨_, v, hb, _⟩ | ⟨_, v, hb, _⟩ <;> exact ⟨_, _, hb⟩
theorem RIn.fr {w wr w2 : World} {lv : Value} {l : List TokD} {words : Str} (h : RIn w lv l words wr) (hf : Fr (fun _ => False) wr w2) : RIn w lv l words w2 := by
  obtain ⟨h1, h2, h3, h4, h5⟩ := h
  exact ⟨hf.keep h1 (fun h => h), h2.fr hf, isB_fr h3 hf, h4.trans (hf.below h4.size (fun _ h => h.elim)), Nat.lt_of_lt_of_le h5 hf.size⟩
/-- behind a call that writes the builder alone -/
theorem RIn.bw {w wr w2 : World} {lv : Value} {l : List TokD} {words words2 : Str} (h : RIn w lv l words wr) (hb : Lib.IsBuilderF 115 5 (w.heap.size + 1) (w.heap.size + 1) (Lib.byteCells words2) w2) (hlo : Below (w.heap.size + 1) wr w2) (hk : Lib.OthersKept 5 (some (w.heap.size + 1)) wr w2) : RIn w lv l words2 w2 := by
  obtain ⟨h1, h2, h3, h4, h5⟩ := h
  exact ⟨hk _ _ h1 (by simp) (fun c fz e => by injection e with _ e; exact absurd e (by decide)), h2.others hk hlo.size (isB_block h3), hb, h4.trans (hlo.mono (by omega)), Nat.lt_of_lt_of_le h5 hlo.size⟩
theorem isB_own {B b B2 : Nat} {l : List Value} {w w' : World} {e size n : Nat} {v : Value} {xs : List Value} (h : Lib.IsBuilderF 115 5 B b l w) (hg : w.grownBy w' v.ownBlock) (hv : w.ownsRow B2 e size v n xs) (he : e ≠ 5) (he2 : e ≠ 115) : Lib.IsBuilderF 115 5 B b l w' := by
  have key : ∀ p, Lib.BuilderAtF 115 5 B b p l w → Lib.BuilderAtF 115 5 B b p l w' := by
    rintro p ⟨hB, u, hb, hown, hne⟩
    refine ⟨hB, u, block_grown hb hg (fun e1 => own_ne hv hb (fun e2 => he2 e2.symm) e1.symm), ⟨hown.1, ?_⟩, hne⟩
    rcases hown.2 with h2 | ⟨g, cap, cur, fz, hv2, hgB, hh, r⟩
    · exact .inl h2
    · exact .inr ⟨g, cap, cur, fz, hv2, hgB, block_grown hh hg (fun e1 => own_ne hv hh (fun e2 => he e2.symm) e1.symm), r⟩
  exact h.imp (key _) (key _)
/-- the tokens' row has grown, and its slice is stored -/
theorem RIn.push {w wr w7 : World} {lv lv2 : Value} {l : List TokD} {ps qs : List (TokD × Value)} {words : Str} (h : RIn w lv l words wr) (hps : ps.map Prod.fst = l) (hrow : wr.ownsRow w.heap.size 54 4 lv ps.length (tcells ps)) (hatt : ∀ p ∈ ps, wr.ownsRow w.heap.size 64 2 p.2 p.1.attrs.length (acells p.1.attrs)) (hqs : ∀ p ∈ qs, wr.ownsRow w.heap.size 64 2 p.2 p.1.attrs.length (acells p.1.attrs))
    (hg : wr.grownBy w7 lv.ownBlock) (hr : w7.ownsRow w.heap.size 54 4 lv2 (ps.length + qs.length) (tcells ps ++ tcells qs)) :
    w7.heap[w.heap.size]? = some (.cells #[lv] 22 (0, 0)) ∧ RIn w lv2 (l ++ qs.map Prod.fst) words (w7.setCell ⟨w.heap.size, 0, none⟩ lv2) := by
  obtain ⟨h1, h2, h3, h4, h5⟩ := h
  have hb7 := block_grown h1 hg (fun e => own_ne hrow h1 (by decide) e.symm)
  have hne := own_ne hr hb7 (by decide)
  have hB7 := isB_own h3 hg hrow (by decide) (by decide)
  have hsz := hg.size
  have hlow : Below w.heap.size w w7 := h4.grown hg h4.size (fun k hk => (hrow.lt k hk).1)
  have hatt2 : ∀ p ∈ ps ++ qs, w7.ownsRow w.heap.size 64 2 p.2 p.1.attrs.length (acells p.1.attrs) := by
    intro p hp
    have h6 : wr.ownsRow w.heap.size 64 2 p.2 p.1.attrs.length (acells p.1.attrs) := by
      rcases List.mem_append.1 hp with h | h
      · exact hatt p h
      · exact hqs p h
    refine ownsRow_keep h6 fun k hk => hg.block k (h6.lt k hk).2 fun e => ?_
    obtain ⟨c, f, hc⟩ : ∃ c f, wr.heap[k]? = some (.cells c 64 f) := by
      rcases h6.2 with ⟨h7, _⟩ | ⟨g, cap, cur, h7, _, h8, _⟩
      · rw [h7] at hk; simp [Value.ownBlock] at hk
      · rw [h7] at hk; simp [Value.ownBlock] at hk; subst hk; exact ⟨_, _, h8⟩
    exact own_ne hrow hc (by decide) e.symm
  refine ⟨hb7, ⟨block_set hb7 0 _, ⟨ps ++ qs, by rw [List.map_append, hps], ?_, fun p hp => ?_⟩, ?_, hlow.setCell (p := ⟨w.heap.size, 0, none⟩) (Nat.le_refl _) _, by simp; omega⟩⟩
  · rw [List.length_append, ← tcells_app]
    exact ownsRow_keep hr fun k hk => block_set_ne (fun e => hne (by rw [hk, e]))
  · have h6 := hatt2 p hp
    exact ownsRow_keep h6 fun k hk => block_set_ne (fun e => own_ne h6 hb7 (by decide) (by rw [hk, e]))
  · have key : ∀ p, Lib.BuilderAtF 115 5 (w.heap.size + 1) (w.heap.size + 1) p (Lib.byteCells words) w7 → Lib.BuilderAtF 115 5 (w.heap.size + 1) (w.heap.size + 1) p (Lib.byteCells words) (w7.setCell ⟨w.heap.size, 0, none⟩ lv2) := by
      rintro p ⟨hB, u, hb, hown, hne2⟩
      refine ⟨hB, u, (block_set_ne (by omega)).trans hb, ⟨hown.1, ?_⟩, hne2⟩
      rcases hown.2 with h2 | ⟨g, cap, cur, fz, hv2, hgB, hh, r⟩
      · exact .inl h2
      · exact .inr ⟨g, cap, cur, fz, hv2, hgB, (block_set_ne (by omega)).trans hh, r⟩
    exact hB7.imp (key _) (key _)
/-- what flush leaves as it was -/
def KeptX (lb wb : Nat) (lv : Value) (w w' : World) : Prop := ∀ k o, w.heap[k]? = some o → k ≠ lb → k ≠ wb → lv.ownBlock ≠ some k → (∀ c f, o ≠ .cells c 5 f) → w'.heap[k]? = some o
theorem KeptX.refl (lb wb : Nat) (lv : Value) (w : World) : KeptX lb wb lv w w := fun _ _ h _ _ _ _ => h
theorem KeptX.others {lb wb : Nat} {lv : Value} {a b c : World} (h : KeptX lb wb lv a b) (hk : Lib.OthersKept 5 (some wb) b c) : KeptX lb wb lv a c :=
  fun k o h1 h2 h3 h4 h5 => hk k o (h k o h1 h2 h3 h4 h5) (fun e => h3 (Option.some.inj e)) h5
theorem KeptX.fr {lb wb : Nat} {lv : Value} {a b c : World} (h : KeptX lb wb lv a b) (hf : Fr (fun _ => False) b c) : KeptX lb wb lv a c :=
  fun k o h1 h2 h3 h4 h5 => hf.keep (h k o h1 h2 h3 h4 h5) (fun h => h)
theorem KeptX.grown {lb wb : Nat} {lv : Value} {a b c : World} (h : KeptX lb wb lv a b) (hg : b.grownBy c lv.ownBlock) : KeptX lb wb lv a c :=
  fun k o h1 h2 h3 h4 h5 => block_grown (h k o h1 h2 h3 h4 h5) hg (fun e => h4 e.symm)
theorem KeptX.set {lb wb : Nat} {lv : Value} {a b : World} (h : KeptX lb wb lv a b) (u : Value) : KeptX lb wb lv a (b.setCell ⟨lb, 0, none⟩ u) :=
  fun k o h1 h2 h3 h4 h5 => (block_set_ne h2).trans (h k o h1 h2 h3 h4 h5)
theorem info54 : (Tryz.prog.info? 54).map (fun i => (i.zero, i.size, i.bytes)) = some (some (.agg #[.int .i64 0, .string ⟨#[]⟩, .slice none 0 0, .string ⟨#[]⟩]), 4, 64) := by kernel_rfl
theorem tcells_one {ps : List (TokD × Value)} (h : ∀ p ∈ ps, ∃ a n c, p.2 = .slice a n c) : ∀ u ∈ tcells ps, u.oneCell' = true := by
  intro u hu
  obtain ⟨p, hp, hp2⟩ := List.mem_flatMap.1 hu
  obtain ⟨a, n, c, h2⟩ := h p hp
  simp [tc] at hp2
  rcases hp2 with rfl | rfl | rfl | rfl
  · rfl
  · rfl
  · rw [h2]; rfl
  · rfl
theorem tcells_one' {w : World} {B : Nat} {ps : List (TokD × Value)} (h : ∀ p ∈ ps, w.ownsRow B 64 2 p.2 p.1.attrs.length (acells p.1.attrs)) : ∀ u ∈ tcells ps, u.oneCell' = true :=
  tcells_one fun p hp => by
    rcases (h p hp).2 with ⟨h1, _⟩ | ⟨g, cap, cur, h1, _⟩
    · exact ⟨_, _, _, h1⟩
    · exact ⟨_, _, _, h1⟩
set_option maxRecDepth 100000 in
set_option maxHeartbeats 8000000 in
theorem flush_h {w wr : World} {lv : Value} {l : List TokD} {words : Str} (h : RIn w lv l words wr) (hl : l.length ≤ 1000000) (hw : words.length ≤ 100000000) :
    Calls Tryz.prog 75 #[.pointer (some ⟨w.heap.size + 1, 0, none⟩), .pointer (some ⟨w.heap.size, 0, none⟩)] wr fun e w' => e = .returned (.tuple #[]) ∧ (∃ lv', RIn w lv' (flushL l words) [] w') ∧ KeptX w.heap.size (w.heap.size + 1) lv wr w' := by
  have HL := Lib.hid (Tryz.Builder_Len_f _ _ _ _ h.bld)
  rw [byteCells_len] at HL
  have HH := Lib.hid h
  by_cases h0 : words = []
  · subst h0
    clear h
    go_enter Tryz.func75, Tryz.ntmps75
    go_wp2_with fail
    refine HL.out.mono ?_
    rintro e w1 ⟨rfl, hw1⟩
    subst hw1
    go_wp2_with fail
    go_end0
    exact ⟨rfl, ⟨lv, HH.out⟩, KeptX.refl _ _ _ _⟩
  · have hpos : 0 < words.length := by cases words with | nil => exact absurd rfl h0 | cons _ _ => simp
    have HF := Lib.hid (flush_words l h0)
    have c0 := cell_of h.blk (i := 0) (v := lv) rfl
    have hbig := h.big
    have HS := Lib.hid (fun (W : World) (hF : Fr (fun _ => False) wr W) => Tryz.Builder_String_any_k _ _ _ W (isB_fr h.bld hF) (by have := hF.size; omega))
    clear h h0
    obtain ⟨i0, hi0, hz0, hz1, hz2⟩ := info_parts info54
    go_enter Tryz.func75, Tryz.ntmps75
    go_wp2_with fail
    refine HL.out.mono ?_
    rintro e w1 ⟨rfl, hw1⟩
    subst hw1
    go_wp2_with fail
    go_region_law (first
        | (refine step_call rfl 77 #[.tmp 0] #[115] rfl [.pointer (some ⟨w.heap.size + 1, 0, none⟩)] rfl ent77 _ (HS.out _ (by repeat (first | exact Fr.refl _ _ | refine Fr.drew ?_ | refine Fr.alloc ?_ _))) ?_; rintro e w2 ⟨rfl, hI2, hb2, hk2⟩; have HR2 := Lib.hid ((HH.out.fr (by repeat (first | exact Fr.refl _ _ | refine Fr.drew ?_ | refine Fr.alloc ?_ _))).bw hI2 hb2 hk2); have HK2 := Lib.hid (((KeptX.refl w.heap.size (w.heap.size + 1) lv w1).fr (by repeat (first | exact Fr.refl _ _ | refine Fr.drew ?_ | refine Fr.alloc ?_ _))).others hk2); clear hI2 hb2 hk2; have d2 := cell_of HR2.out.blk (i := 0) (v := lv) rfl; have hsz2 : w.heap.size < w2.heap.size := Nat.lt_of_succ_lt HR2.out.big; obtain ⟨ps, hps, hrow, hatt⟩ := HR2.out.tok; have hpl : ps.length ≤ 1000000 := Nat.le_trans (Nat.le_of_eq ((List.length_map _).symm.trans (congrArg List.length hps))) hl; have HP := Lib.hid (And.intro hps (And.intro hrow hatt)); clear hps hrow hatt; refine ⟨_, rfl, ?_⟩)
        | (refine step_append_row rfl (.tmp 4) (.tmp 7) 22 rfl w.heap.size 54 i0 (.agg #[.int .i64 0, .string ⟨#[]⟩, .slice none 0 0, .string ⟨#[]⟩]) 4 64 Tryz.underlying22 hi0 hz0 hz1 hz2 rfl (by decide) lv ps.length (tcells ps) rfl (ownsRow_fr HP.out.2.1 (by repeat (first | exact Fr.refl _ _ | refine Fr.drew ?_ | refine Fr.alloc ?_ _))) (fun _ => True) _ 1 (tcells [((⟨3, [], [], words⟩ : TokD), Value.slice none 0 0)]) rfl (SRow.of_block (S := fun _ => True) (e := 54) (f := (0, 0)) (by first | exact block_new_at (by simp) | exact block_new_drew (by simp)) rfl (by decide) trivial) (tcells_one (by simp)) (by unfold maxLen; omega) (by omega) (by have := HR2.out.low.size; simp; omega) ?_; intro b7 cap7 w7 hown7 hgrow7 _; obtain ⟨hb7, hR7⟩ := (HR2.out.fr (by repeat (first | exact Fr.refl _ _ | refine Fr.drew ?_ | refine Fr.alloc ?_ _))).push HP.out.1 (ownsRow_fr HP.out.2.1 (by repeat (first | exact Fr.refl _ _ | refine Fr.drew ?_ | refine Fr.alloc ?_ _))) (fun p hp => ownsRow_fr (HP.out.2.2 p hp) (by repeat (first | exact Fr.refl _ _ | refine Fr.drew ?_ | refine Fr.alloc ?_ _))) (qs := [((⟨3, [], [], words⟩ : TokD), Value.slice none 0 0)]) (by intro p hp; rw [List.mem_singleton.1 hp]; exact World.ownsRow_nil _ _ _ _) hgrow7 hown7; have HR7 := Lib.hid hR7; have HK7 := Lib.hid ((HK2.out.fr (by repeat (first | exact Fr.refl _ _ | refine Fr.drew ?_ | refine Fr.alloc ?_ _))).grown hgrow7); have g7 := cell_of hb7 (i := 0) (v := lv) rfl; have j7 := free_of 0 hb7; clear hown7 hgrow7 hb7 hR7 d2 c0)
        | fail)
    all_goals
      go_wp2_with fail
      refine (breset_h _ _ _ _ HR7.out.bld).mono ?_
      rintro e w8 ⟨rfl, hI8, hb8, hk8⟩
      go_wp2_with fail
      go_end0
      have hfin := HR7.out.bw (words2 := []) hI8 hb8 hk8
      rw [show l ++ List.map Prod.fst [((⟨3, [], [], words⟩ : TokD), Value.slice none 0 0)] = flushL l words from HF.out.symm] at hfin
      exact ⟨rfl, ⟨_, hfin⟩, (HK7.out.set _).others hk8⟩
end Go.Proofs.YtpinjgdnhbogoaaGreatDoor

/- Read: a text cut into tokens: plain steps. -/
namespace Go.Proofs.YtpinjgdnhbogoaaGreatDoor
open Go.RowKit Go.Lib

theorem idx_lib : ∀ s : Str, Lib.indexByte s 60 = if (s.takeWhile (· ≠ 60)).length < s.length then ((s.takeWhile (· ≠ 60)).length : Int) else -1
  | [] => rfl
  | c :: s => by
    have ih := idx_lib s
    rw [Lib.indexByte]
    by_cases h : c = 60
    · subst h; simp
    · have hb : (c == 60) = false := by simpa using h
      simp only [hb, Bool.false_eq_true, if_false]
      rw [List.takeWhile_cons_of_pos (by simpa using h), ih]
      by_cases h2 : (s.takeWhile (fun x => decide (x ≠ 60))).length < s.length
      · have h3 : (c :: s.takeWhile (fun x => decide (x ≠ 60))).length < (c :: s).length := by simp only [List.length_cons]; omega
        have h4 : ¬ ((((s.takeWhile (fun x => decide (x ≠ 60))).length : Int) == -1) = true) := by rw [beq_iff_eq]; omega
        rw [if_pos h2, if_neg h4, if_pos h3]; simp
      · rw [if_neg h2, if_pos (by decide), if_neg (by simp at h2 ⊢; omega)]
theorem said_len : ∀ (n : Nat) (s : Str) {u : Str}, s.length < n → saidL s = .ok u → u.length ≤ 4 * s.length
  | 0, _, _, h, _ => by omega
  | n + 1, s, u, hn, h => by
    cases hc : cutL [38] s with
    | none => rw [said_none hc] at h; cases h; omega
    | some q =>
      obtain ⟨p, m⟩ := q
      have hl := cutL_lens hc
      simp only [List.length_singleton] at hl
      cases hm : refL m with
      | none => rw [said_bad hc hm] at h; cases h
      | some tl =>
        obtain ⟨t, left⟩ := tl
        have h2 := refL_len hm
        have h3 := ref_out hm
        rw [said_more hc hm] at h
        cases hs : saidL left with
        | error k => rw [hs] at h; cases h
        | ok u2 =>
          rw [hs] at h
          have := said_len n left (by omega) hs
          cases h
          simp; omega
theorem said_place : ∀ (n : Nat) (s : Str) {k : Nat}, s.length < n → saidL s = .error k → k ≤ s.length
  | 0, _, _, h, _ => by omega
  | n + 1, s, k, hn, h => by
    cases hc : cutL [38] s with
    | none => rw [said_none hc] at h; cases h
    | some q =>
      obtain ⟨p, m⟩ := q
      have hl := cutL_lens hc
      simp only [List.length_singleton] at hl
      cases hm : refL m with
      | none => rw [said_bad hc hm] at h; cases h; omega
      | some tl =>
        obtain ⟨t, left⟩ := tl
        have h2 := refL_len hm
        rw [said_more hc hm] at h
        cases hs : saidL left with
        | error j =>
          rw [hs] at h
          have := said_place n left (by omega) hs
          cases h
          omega
        | ok u2 => rw [hs] at h; cases h
theorem tagL_two {s left : Str} {l : List TokD} (h : tagL s = some (l, left)) : l.length ≤ 2 := by
  unfold tagL at h
  split at h
  · cases h
  · split at h
    · cases h
    · simp only [Option.some.injEq, Prod.mk.injEq] at h; rw [← h.1]; simp
    · simp only [Option.some.injEq, Prod.mk.injEq] at h; rw [← h.1]; simp
theorem partL_out {s u left : Str} {l : List TokD} (h : partL s = some (u, l, left)) : u.length + left.length ≤ s.length ∧ l.length ≤ 2 := by
  have hl := partL_len h
  have cut0 : ∀ (c r : Str) , (cutL c r).map (fun q => (([], [], q.2) : Str × List TokD × Str)) = some (u, l, left) → u.length = 0 ∧ l.length ≤ 2 := by
    intro c r h
    cases hq : cutL c r with
    | none => rw [hq] at h; cases h
    | some q => rw [hq] at h; cases h; simp
  unfold partL at h
  split at h
  · have := cut0 _ _ h; omega
  split at h
  · have := cut0 _ _ h; omega
  split at h
  · rename_i r hr
    have h4 := congrArg List.length (stripL_some hr)
    rw [List.length_append] at h4
    cases hq : cutL [93, 93, 62] r with
    | none => rw [hq] at h; cases h
    | some q =>
      rw [hq] at h
      have := cutL_lens (a := q.1) (b := q.2) hq
      cases h
      simp at h4 ⊢; omega
  split at h
  · split at h
    · cases h
    · split at h
      · cases h
      · cases h; simp at hl ⊢; omega
  split at h
  · rename_i r hr
    cases hq : closeL r with
    | none => rw [hq] at h; cases h
    | some q =>
      rw [hq] at h
      have h5 : q.1.length ≤ 2 := by
        unfold closeL at hq
        split at hq
        · cases hq
        · split at hq
          · cases hq; simp
          · cases hq
      cases h
      simp at hl ⊢; omega
  · cases hq : tagL (s.drop 1) with
    | none => rw [hq] at h; cases h
    | some q =>
      rw [hq] at h
      have h5 := tagL_two (l := q.1) (left := q.2) hq
      cases h
      simp at hl ⊢; omega
/-- how far a text is read -/
structure RdTo (s : Str) (l : List TokD) (words cur : Str) : Prop where
  eq : readL s = readG (s.length - cur.length) l words cur
  len : cur.length ≤ s.length
  lenL : l.length + 3 * cur.length ≤ 3 * s.length
  lenW : words.length + 4 * cur.length ≤ 4 * s.length
theorem RdTo.zero (s : Str) : RdTo s [] [] s := ⟨by rw [Nat.sub_self]; rfl, Nat.le_refl _, by simp, by simp⟩
theorem RdTo.last {s words : Str} {l : List TokD} (h : RdTo s l words []) : readL s = .ok (flushL l words) := by rw [h.eq]; rfl
theorem RdTo.text {s words seg rest u : Str} {l : List TokD} (h : RdTo s l words (seg ++ rest)) (h0 : seg ≠ []) (hno : 60 ∉ seg) (hr : rest = [] ∨ ∃ t, rest = 60 :: t) (hs : saidL seg = .ok u) : RdTo s l (words ++ u) rest := by
  have h1 := h.len
  have h2 := h.lenL
  have h3 := h.lenW
  have h4 := said_len _ seg (Nat.lt_succ_self _) hs
  simp at h1 h2 h3
  refine ⟨?_, by omega, by omega, by simp; omega⟩
  rw [h.eq, readG_text h0 hno hr, hs]
  dsimp only
  congr 1
  simp; omega
theorem RdTo.textBad {s words seg rest : Str} {l : List TokD} {j : Nat} (h : RdTo s l words (seg ++ rest)) (h0 : seg ≠ []) (hno : 60 ∉ seg) (hr : rest = [] ∨ ∃ t, rest = 60 :: t) (hs : saidL seg = .error j) : readL s = .error (s.length - (seg ++ rest).length + j) := by
  rw [h.eq, readG_text h0 hno hr, hs]
theorem flush_len (l : List TokD) (w : Str) : (flushL l w).length ≤ l.length + 1 := by unfold flushL; split <;> simp
theorem RdTo.part0 {s words t u left : Str} {l : List TokD} (h : RdTo s l words (60 :: t)) (hp : partL (60 :: t) = some (u, [], left)) : RdTo s l (words ++ u) left := by
  have h1 := h.len
  have h2 := h.lenL
  have h3 := h.lenW
  have h4 := partL_len hp
  have h5 := partL_out hp
  simp at h1 h2 h3 h4 h5
  refine ⟨?_, by omega, by omega, by simp; omega⟩
  rw [h.eq, readG_part hp, if_pos (show ([] : List TokD).isEmpty = true from rfl)]
  congr 1
  simp; omega
theorem RdTo.part1 {s words t u left : Str} {l toks : List TokD} (h : RdTo s l words (60 :: t)) (hp : partL (60 :: t) = some (u, toks, left)) (h0 : toks ≠ []) : RdTo s (flushL l (words ++ u) ++ toks) [] left := by
  have h1 := h.len
  have h2 := h.lenL
  have h3 := h.lenW
  have h4 := partL_len hp
  have h5 := partL_out hp
  have h6 := flush_len l (words ++ u)
  simp at h1 h2 h3 h4 h5
  refine ⟨?_, by omega, by simp; omega, by simp; omega⟩
  rw [h.eq, readG_part hp, if_neg (by simpa using h0)]
  congr 1
  simp; omega
theorem RdTo.partBad {s words t : Str} {l : List TokD} (h : RdTo s l words (60 :: t)) (hp : partL (60 :: t) = none) : readL s = .error (s.length - (60 :: t).length) := by
  rw [h.eq, readG_bad hp]
theorem readD_big {s : Str} (h : 20000 < s.length) : readD s = ([], 10, 0) := by unfold readD; rw [if_pos h]
theorem readD_short {s : Str} (h : s.length ≤ 20000) : readD s = match readL s with | .error k => ([], 8, (k : Int)) | .ok l => (l, 0, 0) := by
  unfold readD; rw [if_neg (by omega)]; rfl
/-- the tokens of a part are as they were, behind flush -/
theorem Toks.keptX {B lb wb : Nat} {lv v : Value} {l : List TokD} {w w' : World} (h : Toks B w v l) (hk : KeptX lb wb lv w w') (hb : lb < B) (hw : wb < B) (hl : ∀ k, lv.ownBlock = some k → k < B) : Toks B w' v l := by
  have key : ∀ {e size n : Nat} {v : Value} {xs : List Value}, e ≠ 5 → w.ownsRow B e size v n xs → w'.ownsRow B e size v n xs := by
    intro e size n v xs he h
    refine ⟨h.1, ?_⟩
    rcases h.2 with h2 | ⟨g, cap, cur, hv, hg, hh, r⟩
    · exact .inl h2
    · exact .inr ⟨g, cap, cur, hv, hg, hk g _ hh (by omega) (by omega) (fun e1 => by have := hl g e1; omega) (fun c f e1 => by injection e1 with _ e1; exact he e1), r⟩
  obtain ⟨ps, h1, h2, h3⟩ := h
  exact ⟨ps, h1, key (by decide) h2, fun p hp => key (by decide) (h3 p hp)⟩
end Go.Proofs.YtpinjgdnhbogoaaGreatDoor

/- Read, walked. -/
namespace Go.Proofs.YtpinjgdnhbogoaaGreatDoor
open Go.RowKit Go.Lib

/-- the whole answer, in memory -/
def ReadPost (s : Str) (w : World) (e : Ending) (w' : World) : Prop :=
  (∃ v, e = .returned (.tuple #[v, .int .i64 (readD s).2.1, .int .i64 (readD s).2.2]) ∧ Toks w.heap.size w' v (readD s).1) ∧ Fr (fun _ => False) w w'
theorem read_post {s : Str} {l : List TokD} {a b : Int} {v : Value} {w w' : World} (h : readD s = (l, a, b)) (ht : Toks w.heap.size w' v l) (hf : Fr (fun _ => False) w w') : ReadPost s w (.returned (.tuple #[v, .int .i64 a, .int .i64 b])) w' := by
  unfold ReadPost; rw [h]; exact ⟨⟨v, rfl, ht⟩, hf⟩
def RdRel (s : Str) (w : World) (cur : Str) (wr : World) : Prop := ∃ l words lv, RdTo s l words cur ∧ RIn w lv l words wr
set_option maxRecDepth 100000 in
set_option maxHeartbeats 16000000 in
theorem read_h {w : World} (hE : Env w) (s : Str) (hs : s.length ≤ 1000000) : Calls Tryz.prog 35 #[.string (bs s)] w (ReadPost s w) := by
  have hsz : (bs s).size = s.length := rfl
  have hW := hE.size
  by_cases hlong : 20000 < s.length
  · have HD := Lib.hid (readD_big hlong)
    go_enter Tryz.func35, Tryz.ntmps35
    go_wp2_with fail
    go_ret3
    exact read_post HD.out (Toks.nil _ _) (Fr.refl _ _)
  have HD := Lib.hid (readD_short (s := s) (by omega))
  have hmf : ∀ (fn : Fn) (first cap : Array Value) (w : World), (Instr.makeFunc fn first cap).run Tryz.prog w = .ok (.func fn first cap) w := fun _ _ _ _ => rfl
  have hR0 : RIn w (.slice none 0 0) [] [] ((w.alloc (.cells #[.slice none 0 0] 22)).alloc (.cells #[.pointer none, .slice none 0 0] 115)) := by
    refine ⟨block_old (block_new _ _) _, Toks.nil _ _, ?_, ((Below.refl _ _).alloc (Nat.le_refl _) _).alloc (by simp) _, by simp⟩
    exact isB_new (w.alloc (.cells #[.slice none 0 0] 22)) (w.heap.size + 1) (by simp)
  have HR0 := Lib.hid hR0
  clear hR0
  go_enter Tryz.func35, Tryz.ntmps35
  go_wp2_with fail
  go_loopg [8] s.length (fun j v wr => ∃ cur, j = cur.length ∧ v = .string (bs cur) ∧ RdRel s w cur wr)
  case atStart => exact ⟨s, rfl, rfl, [], [], _, RdTo.zero s, HR0.out⟩
  case round =>
    obtain ⟨cur, hj, rfl, l, words, lv, hT, hI⟩ := hrel
    have hb1 := hT.len
    have hb2 := hT.lenL
    have hb3 := hT.lenW
    have hll : l.length ≤ 1000000 := by omega
    have hwl : words.length ≤ 100000000 := by omega
    have hcz : (bs cur).size = cur.length := rfl
    have hEr := hE.below hI.low hW
    have hbig := hI.big
    have HT := Lib.hid (And.intro hj (And.intro hT hI))
    clear hj hT hI HR0
    have hcases : cur = [] ∨ ∃ c t, cur = c :: t := by cases cur with | nil => exact .inl rfl | cons c t => exact .inr ⟨c, t, rfl⟩
    rcases hcases with hcur | ⟨c, t, hcur⟩
    · subst hcur
      have hte : (bs ([] : Str)).toList = [] := by rw [bs_toList]
      have hte2 : (bs ([] : Str)).toList.isEmpty = true := by rw [bs_toList]; rfl
      have HRL := Lib.hid (HT.out.2.1.last)
      have HFL := Lib.hid (flush_h HT.out.2.2 hll hwl)
      go_wp2_with fail
      refine HFL.out.mono ?_
      rintro e w5 ⟨rfl, ⟨lv5, hR5⟩, _⟩
      have HR5 := Lib.hid hR5
      have c5 := cell_of hR5.blk (i := 0) (v := lv5) rfl
      clear hR5
      go_wp2_with fail
      go_ret3
      exact read_post (by rw [HD.out, HRL.out] <;> rfl) HR5.out.tok (fr_new HR5.out.low)
    · have hcl : 0 < cur.length := by rw [hcur]; simp
      have hte : ¬ (bs cur).toList = [] := by rw [bs_toList, hcur]; simp
      have hte2 : (bs cur).toList.isEmpty = false := by rw [bs_toList, hcur]; rfl
      have hcurl : cur.length ≤ 1000000 := by omega
      obtain ⟨at_, hat⟩ : ∃ at_ : Nat, s.length - cur.length = at_ := ⟨_, rfl⟩
      have hwat : IntKind.i64.wrap ((s.length : Int) - (cur.length : Int)) = (at_ : Int) := by rw [IntWalk.i64_in _ (by omega)]; omega
      have hwat2 : (s.length : Int) - (cur.length : Int) = (at_ : Int) := by omega
      have HAT := Lib.hid hat
      have hatb : at_ ≤ 1000000 := by omega
      clear hat
      have HIX := Lib.hid (Tryz.strings_IndexByte (bs cur) 60 wr)
      rw [show ((60 : Int)).toNat.toUInt8 = 60 from rfl, bs_data, idx_lib] at HIX
      by_cases h60 : c = 60
      · subst h60
        rw [show (cur.takeWhile (fun x => decide (x ≠ 60))).length = 0 by rw [hcur]; rfl, if_pos (by omega)] at HIX
        have HPT := Lib.hid (part_h hEr cur hcurl (by omega))
        have HCU := Lib.hid hcur
        clear hcur
        cases hp : partL cur with
        | none =>
          have HP := Lib.hid hp
          have HRB := Lib.hid (show readL s = .error at_ from by
            have h1 := HT.out.2.1
            rw [HCU.out] at h1
            have h2 := h1.partBad (by rw [← HCU.out]; exact hp)
            rw [h2, ← HCU.out, HAT.out])
          clear hp
          go_wp2_with fail
          refine HIX.out.mono ?_
          rintro e w1 ⟨rfl, hw1⟩
          subst hw1
          go_wp2_with fail
          refine HPT.out.mono ?_
          rintro e w2 ⟨he, hF2⟩
          rw [HP.out] at he
          obtain ⟨u, v, r, rfl⟩ := he
          have HF2 := Lib.hid (HT.out.2.2.low.trans (hF2.below HT.out.2.2.low.size (fun _ h => h.elim)))
          clear hF2
          go_wp2_with fail
          go_ret3
          exact read_post (by rw [HD.out, HRB.out] <;> rfl) (Toks.nil _ _) (fr_new HF2.out)
        | some q =>
          obtain ⟨u, toks, left⟩ := q
          have HP := Lib.hid hp
          have hleft := partL_len hp
          have hpo := partL_out hp
          clear hp
          have hul : u.length ≤ 100000000 := by omega
          have htcases : toks = [] ∨ toks ≠ [] := Classical.em _
          rcases htcases with htk | htk
          · have HNX := Lib.hid (show RdTo s l (words ++ u) left from by
              have h1 := HT.out.2.1
              rw [HCU.out] at h1
              exact h1.part0 (by rw [← HCU.out, ← htk]; exact HP.out))
            have HTK := Lib.hid htk
            clear htk
            go_wp2_with fail
            refine HIX.out.mono ?_
            rintro e w1 ⟨rfl, hw1⟩
            subst hw1
            go_wp2_with fail
            refine HPT.out.mono ?_
            rintro e w2 ⟨he, hF2⟩
            rw [HP.out] at he
            obtain ⟨v, rfl, htv⟩ := he
            obtain ⟨va, vc, rfl⟩ := htv.shape
            have htl : toks.length = 0 := by rw [HTK.out]; rfl
            rw [htl]
            have HI2 := Lib.hid (HT.out.2.2.fr hF2)
            clear hF2 htv htl
            go_wp2_with fail
            refine (bput (l := words) (a := u) HI2.out.bld (by omega) (by have := HI2.out.big; omega)).mono ?_
            rintro e w3 ⟨rfl, hI3, hb3, hk3⟩
            have HI3 := Lib.hid (HI2.out.bw hI3 hb3 hk3)
            clear hI3 hb3 hk3
            go_wp2_with fail
            go_roundg left.length
            case measure => have := HT.out.1; omega
            case rel => exact ⟨left, rfl, rfl, l, _, _, HNX.out, HI3.out⟩
          · have htpos : 0 < toks.length := by cases toks with | nil => exact absurd rfl htk | cons _ _ => simp
            have HNX := Lib.hid (show RdTo s (flushL l (words ++ u) ++ toks) [] left from by
              have h1 := HT.out.2.1
              rw [HCU.out] at h1
              exact h1.part1 (by rw [← HCU.out]; exact HP.out) htk)
            have htk2 := hpo.2
            have hwu : (words ++ u).length ≤ 100000000 := by simp; omega
            have hll2 : (flushL l (words ++ u)).length ≤ 1000000 := by have := flush_len l (words ++ u); omega
            clear htk hpo
            obtain ⟨i0, hi0, hz0, hz1, hz2⟩ := info_parts info54
            go_wp2_with fail
            refine HIX.out.mono ?_
            rintro e w1 ⟨rfl, hw1⟩
            subst hw1
            go_wp2_with fail
            refine HPT.out.mono ?_
            rintro e w2 ⟨he, hF2⟩
            rw [HP.out] at he
            obtain ⟨v, rfl, htv⟩ := he
            obtain ⟨va, vc, rfl⟩ := htv.shape
            have HI2 := Lib.hid (HT.out.2.2.fr hF2)
            have HTV := Lib.hid htv
            clear hF2 htv
            go_wp2_with fail
            refine (bput (l := words) (a := u) HI2.out.bld (by omega) (by have := HI2.out.big; omega)).mono ?_
            rintro e w3 ⟨rfl, hI3, hb3, hk3⟩
            have HTV3 := Lib.hid (HTV.out.others hk3 hb3.size (isB_block HI2.out.bld))
            have HI3 := Lib.hid (HI2.out.bw hI3 hb3 hk3)
            clear hI3 hb3 hk3
            go_wp2_with fail
            refine (flush_h HI3.out hll hwu).mono ?_
            rintro e w4 ⟨rfl, ⟨lv4, hR4⟩, hkx⟩
            have HTV4 := Lib.hid (HTV3.out.keptX hkx (by omega) (by omega) (fun k hk => by
              obtain ⟨ps, h1, h2, _⟩ := HT.out.2.2.tok
              exact (h2.lt k hk).2))
            have HI4 := Lib.hid hR4
            obtain ⟨ps, hps, hrow, hatt⟩ := hR4.tok
            obtain ⟨qs, hqs, hrowq, hattq⟩ := HTV4.out
            have hpl : ps.length ≤ 1000000 := Nat.le_trans (Nat.le_of_eq ((List.length_map _).symm.trans (congrArg List.length hps))) hll2
            have hql : qs.length = toks.length := (List.length_map _).symm.trans (congrArg List.length hqs)
            rw [hql] at hrowq
            have hql2 : qs.length ≤ 2 := by omega
            have HP4 := Lib.hid (And.intro hps (And.intro hrow hatt))
            have HQ4 := Lib.hid (And.intro hqs (And.intro hql (And.intro hrowq hattq)))
            have c4 := cell_of hR4.blk (i := 0) (v := lv4) rfl
            have hsz4 := hR4.low.size
            have hone := tcells_one' hattq
            clear hkx hR4 hps hrow hatt hqs hrowq hattq hql
            go_wp2_with (at_builtin; refine wpList_append_row rfl (.tmp 71) (.tmp 72) 22 rfl w.heap.size 54 i0 (.agg #[.int .i64 0, .string ⟨#[]⟩, .slice none 0 0, .string ⟨#[]⟩]) 4 64 Tryz.underlying22 hi0 hz0 hz1 hz2 rfl (by decide) lv4 ps.length (tcells ps) rfl HP4.out.2.1 _ _ toks.length (tcells qs) rfl (SRow.of_owns HQ4.out.2.2.1) hone (by unfold maxLen; omega) (by omega) hsz4 ?_; intro b7 cap7 w7 hown7 hgrow7 _; rw [← HQ4.out.2.1] at hown7; obtain ⟨hb7, hR7⟩ := HI4.out.push HP4.out.1 HP4.out.2.1 HP4.out.2.2 (qs := qs) (fun p hp => ownsRow_base (HQ4.out.2.2.2 p hp) (by omega)) hgrow7 hown7; rw [HQ4.out.1, HQ4.out.2.1] at hR7; have HR7 := Lib.hid hR7; have g7 := cell_of hb7 (i := 0) (v := lv4) rfl; have j7 := free_of 0 hb7; clear hown7 hgrow7 hb7 hR7 c4)
            go_roundg left.length
            case measure => have := HT.out.1; omega
            case rel => exact ⟨left, rfl, rfl, _, _, _, HNX.out, HR7.out⟩
      · obtain ⟨seg, hseg⟩ : ∃ seg, cur.takeWhile (fun x => decide (x ≠ 60)) = seg := ⟨_, rfl⟩
        obtain ⟨rest, hrest⟩ : ∃ rest, cur.dropWhile (fun x => decide (x ≠ 60)) = rest := ⟨_, rfl⟩
        have hcat : cur = seg ++ rest := by rw [← hseg, ← hrest, List.takeWhile_append_dropWhile]
        have hs0 : seg ≠ [] := by rw [← hseg, hcur, List.takeWhile_cons_of_pos (by simpa using h60)]; simp
        have hs1 : 60 ∉ seg := by
          intro h
          have := List.all_eq_true.1 (List.all_takeWhile (l := cur) (p := fun x => decide (x ≠ 60))) 60 (by rw [hseg]; exact h)
          simp at this
        have hs2 : rest = [] ∨ ∃ t, rest = 60 :: t := by
          have h := List.head?_dropWhile_not (fun x => decide (x ≠ (60 : UInt8))) cur
          rw [hrest] at h
          cases rest with
          | nil => exact .inl rfl
          | cons x y =>
            have : x = 60 := by simpa using h
            rw [this]; exact .inr ⟨y, rfl⟩
        have HSEG := Lib.hid (And.intro hs0 (And.intro hs1 hs2))
        have hsl : 0 < seg.length := by cases seg with | nil => exact absurd rfl hs0 | cons _ _ => simp
        have hcl2 : cur.length = seg.length + rest.length := by rw [hcat, List.length_append]
        have HSA := Lib.hid (said_h hEr seg (by omega))
        have hx1 : (bs cur).extract 0 seg.length = bs seg := by rw [bs_take, hcat, List.take_left]
        have hx2 : (bs cur).extract seg.length cur.length = bs rest := by rw [bs_drop]; rw [hcat, List.drop_left]
        have HCU := Lib.hid hcat
        have hm1 : rest.length < cur.length := by omega
        have hm2 : seg.length ≤ cur.length := by omega
        rw [hseg] at HIX
        clear hseg hrest hcat hs0 hs1 hs2 hcur
        by_cases hend : seg.length < cur.length
        · rw [if_pos hend] at HIX
          clear hcl2
          have hn1 : ((seg.length : Int) == 0) = false := by rw [beq_eq_false_iff_ne]; omega
          go_wp2_with fail
          refine HIX.out.mono ?_
          rintro e w1 ⟨rfl, hw1⟩
          subst hw1
          go_wp2_with fail
          cases hsd : saidL seg with
          | error j =>
            have HSD := Lib.hid hsd
            have HRB := Lib.hid (show readL s = .error (at_ + j) from by
              have h1 := HT.out.2.1
              rw [HCU.out] at h1
              rw [h1.textBad HSEG.out.1 HSEG.out.2.1 HSEG.out.2.2 hsd, ← HCU.out, HAT.out])
            have hjb := said_place _ _ (Nat.lt_succ_self _) hsd
            obtain ⟨pl, hpl⟩ : ∃ pl : Nat, at_ + j = pl := ⟨_, rfl⟩
            rw [hpl] at HRB
            have hwj2 : (at_ : Int) + (j : Int) = (pl : Int) := by omega
            have hwj : IntKind.i64.wrap ((at_ : Int) + (j : Int)) = (pl : Int) := by rw [IntWalk.i64_in _ (by omega)]; omega
            clear hpl
            have hj0 : (0 : Int) ≤ (j : Int) := Int.natCast_nonneg j
            have hj1 : decide ((0 : Int) ≤ (j : Int)) = true := decide_eq_true hj0
            clear hsd
            refine HSA.out.mono ?_
            rintro e w2 ⟨he, hF2⟩
            rw [HSD.out] at he
            subst he
            have HF2 := Lib.hid (HT.out.2.2.low.trans (hF2.below HT.out.2.2.low.size (fun _ h => h.elim)))
            clear hF2
            go_wp2_with fail
            go_ret3
            exact read_post (by rw [HD.out, HRB.out] <;> rfl) (Toks.nil _ _) (fr_new HF2.out)
          | ok u =>
            have HSD := Lib.hid hsd
            have hul := said_len _ _ (Nat.lt_succ_self _) hsd
            have HNX := Lib.hid (show RdTo s l (words ++ u) rest from by
              have h1 := HT.out.2.1
              rw [HCU.out] at h1
              exact h1.text HSEG.out.1 HSEG.out.2.1 HSEG.out.2.2 hsd)
            clear hsd
            refine HSA.out.mono ?_
            rintro e w2 ⟨he, hF2⟩
            rw [HSD.out] at he
            subst he
            have HI2 := Lib.hid (HT.out.2.2.fr hF2)
            clear hF2
            go_wp2_with fail
            refine (bput (l := words) (a := u) HI2.out.bld (by omega) (by have := HI2.out.big; omega)).mono ?_
            rintro e w3 ⟨rfl, hI3, hb3, hk3⟩
            have HI3 := Lib.hid (HI2.out.bw hI3 hb3 hk3)
            clear hI3 hb3 hk3
            go_wp2_with fail
            go_roundg rest.length
            case measure => have := HT.out.1; omega
            case rel => exact ⟨rest, rfl, rfl, l, _, _, HNX.out, HI3.out⟩
        · rw [if_neg hend] at HIX
          have hse : seg.length = cur.length := by omega
          have HRE := Lib.hid (show rest = [] from List.eq_nil_of_length_eq_zero (by omega))
          rw [hse] at hx1 hx2
          clear hcl2
          go_wp2_with fail
          refine HIX.out.mono ?_
          rintro e w1 ⟨rfl, hw1⟩
          subst hw1
          go_wp2_with fail
          cases hsd : saidL seg with
          | error j =>
            have HSD := Lib.hid hsd
            have HRB := Lib.hid (show readL s = .error (at_ + j) from by
              have h1 := HT.out.2.1
              rw [HCU.out] at h1
              rw [h1.textBad HSEG.out.1 HSEG.out.2.1 HSEG.out.2.2 hsd, ← HCU.out, HAT.out])
            have hjb := said_place _ _ (Nat.lt_succ_self _) hsd
            obtain ⟨pl, hpl⟩ : ∃ pl : Nat, at_ + j = pl := ⟨_, rfl⟩
            rw [hpl] at HRB
            have hwj2 : (at_ : Int) + (j : Int) = (pl : Int) := by omega
            have hwj : IntKind.i64.wrap ((at_ : Int) + (j : Int)) = (pl : Int) := by rw [IntWalk.i64_in _ (by omega)]; omega
            clear hpl
            have hj0 : (0 : Int) ≤ (j : Int) := Int.natCast_nonneg j
            have hj1 : decide ((0 : Int) ≤ (j : Int)) = true := decide_eq_true hj0
            clear hsd
            refine HSA.out.mono ?_
            rintro e w2 ⟨he, hF2⟩
            rw [HSD.out] at he
            subst he
            have HF2 := Lib.hid (HT.out.2.2.low.trans (hF2.below HT.out.2.2.low.size (fun _ h => h.elim)))
            clear hF2
            go_wp2_with fail
            go_ret3
            exact read_post (by rw [HD.out, HRB.out] <;> rfl) (Toks.nil _ _) (fr_new HF2.out)
          | ok u =>
            have HSD := Lib.hid hsd
            have hul := said_len _ _ (Nat.lt_succ_self _) hsd
            have HNX := Lib.hid (show RdTo s l (words ++ u) rest from by
              have h1 := HT.out.2.1
              rw [HCU.out] at h1
              exact h1.text HSEG.out.1 HSEG.out.2.1 HSEG.out.2.2 hsd)
            clear hsd
            refine HSA.out.mono ?_
            rintro e w2 ⟨he, hF2⟩
            rw [HSD.out] at he
            subst he
            have HI2 := Lib.hid (HT.out.2.2.fr hF2)
            clear hF2
            go_wp2_with fail
            refine (bput (l := words) (a := u) HI2.out.bld (by omega) (by have := HI2.out.big; omega)).mono ?_
            rintro e w3 ⟨rfl, hI3, hb3, hk3⟩
            have HI3 := Lib.hid (HI2.out.bw hI3 hb3 hk3)
            clear hI3 hb3 hk3
            go_wp2_with fail
            go_roundg rest.length
            case measure => have := HT.out.1; omega
            case rel => exact ⟨rest, rfl, by rw [HRE.out]; rfl, l, _, _, HNX.out, HI3.out⟩
end Go.Proofs.YtpinjgdnhbogoaaGreatDoor
