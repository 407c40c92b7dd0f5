/- strings.Cut, CutPrefix, HasPrefix, TrimLeft, Contains in plain words; reference. -/
import Derived.Test.YtpinjgdnhbogoaaGreatDoorW4
import Derived.Test.YtpinjgdnhbogoaaGreatDoorB1
import Derived.Outline
namespace Go.Proofs.YtpinjgdnhbogoaaGreatDoor
open Go.RowKit Go.Lib

section
variable {w : World}
theorem cut_some (hE : Env w) {s p a b : Str} (hs : s.length ≤ 1000000) (hc : cutL p s = some (a, b)) : Calls Tryz.prog 106 #[.string (bs s), .string (bs p)] w fun e w' => e = .returned (.tuple #[.string (bs a), .string (bs b), .bool true]) ∧ ∃ n, w' = w.drewN n := by
  obtain ⟨m, hm⟩ := hE.maxLen
  have hl := cut_lib p s
  rw [hc] at hl
  have h := Tryz.strings_Cut (bs s) (bs p) m w (by show s.length < _; omega) hm
  rw [bs_data, bs_data, hl] at h
  exact h
theorem cut_none (hE : Env w) {s p : Str} (hs : s.length ≤ 1000000) (hc : cutL p s = none) : Calls Tryz.prog 106 #[.string (bs s), .string (bs p)] w fun e w' => e = .returned (.tuple #[.string (bs s), .string (bs []), .bool false]) ∧ ∃ n, w' = w.drewN n := by
  obtain ⟨m, hm⟩ := hE.maxLen
  have hl := cut_lib p s
  rw [hc] at hl
  have h := Tryz.strings_Cut (bs s) (bs p) m w (by show s.length < _; omega) hm
  rw [bs_data, bs_data, hl] at h
  exact h
theorem cutp_some {s p r : Str} (h : stripL p s = some r) : Calls Tryz.prog 109 #[.string (bs s), .string (bs p)] w fun e w' => e = .returned (.tuple #[.string (bs r), .bool true]) ∧ w = w' := by
  have hl := strip_lib p s
  rw [h] at hl
  simp only [Prod.mk.injEq] at hl
  have hC := Tryz.strings_CutPrefix (bs s) (bs p) w
  rw [bs_data, bs_data, hl.1, hl.2] at hC
  exact hC.mono fun e w' h => ⟨h.1, h.2.symm⟩
theorem cutp_none {s p : Str} (h : stripL p s = none) : Calls Tryz.prog 109 #[.string (bs s), .string (bs p)] w fun e w' => e = .returned (.tuple #[.string (bs s), .bool false]) ∧ w = w' := by
  have hl := strip_lib p s
  rw [h] at hl
  simp only [Prod.mk.injEq] at hl
  have hC := Tryz.strings_CutPrefix (bs s) (bs p) w
  rw [bs_data, bs_data, hl.1, hl.2] at hC
  exact hC.mono fun e w' h => ⟨h.1, h.2.symm⟩
theorem hasp_h {s p : Str} : Calls Tryz.prog 142 #[.string (bs s), .string (bs p)] w fun e w' => e = .returned (.bool (p.isPrefixOf s)) ∧ w = w' := by
  have hC := Tryz.strings_HasPrefix (bs s) (bs p) w
  rw [bs_data, bs_data] at hC
  exact hC.mono fun e w' h => ⟨h.1, h.2.symm⟩
theorem ascii4 : ∀ (j : Nat) b, (bs [32, 9, 10, 13]).data.toList[j]? = some b → b.toNat < 128 := by
  intro j b h
  rw [bs_data] at h
  have := List.mem_of_getElem? h
  simp at this
  rcases this with rfl | rfl | rfl | rfl <;> decide
theorem trim_h {s : Str} : Calls Tryz.prog 112 #[.string (bs s), .string (bs [32, 9, 10, 13])] w fun e w' => e = .returned (.string (bs (trimL s))) ∧ Fr (fun _ => False) w w' := by
  have hC := Tryz.strings_TrimLeft_laid (bs s) (bs [32, 9, 10, 13]) w (by decide) ascii4
  rw [bs_data, bs_data, trim_lib] at hC
  exact hC.mono fun e w' h => ⟨h.1, fr_new h.2⟩
theorem has_h {s : Str} (c : UInt8) : Calls Tryz.prog 167 #[.string (bs s), .string (bs [c])] w fun e w' => e = .returned (.bool (s.contains c)) ∧ w = w' := by
  have hC := Tryz.strings_Contains_one (bs s) c w
  rw [bs_data] at hC
  refine hC.mono fun e w' h => ⟨h.1.trans ?_, h.2.symm⟩
  rw [← contains_lib s c]
  unfold Lib.contains
  rw [Lib.index_one]
def RefPost (s : Str) (w : World) (e : Ending) (w' : World) : Prop :=
  e = .returned (match refL s with | some q => .tuple #[.string (bs q.1), .string (bs q.2), .bool true] | none => .tuple #[.string ⟨#[]⟩, .string ⟨#[]⟩, .bool false]) ∧ Fr (fun _ => False) w w'
theorem wrap_i32 {n : Int} (h0 : 0 ≤ n) (h1 : n < 2147483648) : IntKind.i32.wrap n = n := by
  rw [IntKind.wrap_i32]; omega
theorem num_long {b most : Nat} {ds : Str} (h : most < ds.length) : numL b most ds = none := by
  unfold numL; rw [if_neg]; simp; omega
theorem num_bad {b most : Nat} {ds : Str} (h : runeOK (numV b ds) = false) : numL b most ds = none := by
  unfold numL; rw [h]; simp
theorem num_none {b most : Nat} {ds : Str} (hm : most ≤ 7) (h : okB b ds = false ∨ 7 < ds.length) : numL b most ds = none := by
  rcases h with h | h
  · unfold numL
    unfold okB at h
    rw [h]; simp
  · exact num_long (by omega)
theorem num_good {b most : Nat} {ds : Str} (h : okB b ds = true) (hl : ds.length ≤ most) (hr : runeOK (numV b ds) = true) : numL b most ds = some (utf8L (numV b ds)) := by
  unfold numL
  unfold okB at h
  rw [h, hr, if_pos (by simp [hl])]
theorem valid_rune {v : Nat} : (decide (v ≠ 0) && Lib.validRune (v : Int)) = runeOK v := by
  unfold Lib.validRune runeOK
  rw [Bool.eq_iff_iff]
  simp only [Bool.and_eq_true, decide_eq_true_eq, Bool.not_eq_true', Bool.and_eq_false_iff, decide_eq_false_iff_not]
  omega
theorem enc_utf8 {v : Nat} (h : Lib.validRune (v : Int) = true) : Utf8.encode (v : Int) = bs (utf8L v) := by
  unfold Lib.validRune at h
  rw [decide_eq_true_iff] at h
  have hv : Utf8.valid (v : Int) = true := by
    unfold Utf8.valid
    simp only [Bool.or_eq_true, Bool.and_eq_true, decide_eq_true_eq]
    omega
  unfold Utf8.encode utf8L
  rw [hv]
  simp only [if_true, Int.toNat_natCast]
  split
  · rfl
  · split
    · rfl
    · split <;> rfl
theorem rune_of {v : Nat} (h : ¬ v = 0) (hv : Lib.validRune (v : Int) = true) : runeOK v = true := by
  rw [← valid_rune, hv]; simpa using h
theorem enc_rune {v : Nat} (h : runeOK v = true) : Utf8.encode (v : Int) = bs (utf8L v) := by
  rw [← valid_rune] at h
  exact enc_utf8 (by simp only [Bool.and_eq_true] at h; exact h.2)
theorem ret_str3 {a b : ByteArray} {c : Value} (h : a = b) {d : Value} : Ending.returned (.tuple #[.string a, c, d]) = .returned (.tuple #[.string b, c, d]) := by rw [h]
theorem str_eq (a b : Str) : ((bs a).toList == b) = decide (a = b) := by
  rw [bs_toList, Bool.eq_iff_iff]; simp
def numB (body : Str) : Option Str := match body with
  | 35 :: 120 :: ds => numL 16 6 ds
  | 35 :: ds => numL 10 7 ds
  | _ => none
theorem body_num {b : Str} (h0 : ¬b = [97, 109, 112]) (h1 : ¬b = [108, 116]) (h2 : ¬b = [103, 116]) (h3 : ¬b = [113, 117, 111, 116]) (h4 : ¬b = [97, 112, 111, 115]) : bodyL b = numB b := by
  unfold bodyL numB; rw [if_neg h0, if_neg h1, if_neg h2, if_neg h3, if_neg h4]; rfl
theorem numB_none {b : Str} (h : stripL [35] b = none) : numB b = none := by
  unfold numB
  cases b with
  | nil => rfl
  | cons c t =>
    by_cases e : c = 35
    · subst e; simp [stripL, List.isPrefixOf] at h
    · split
      · rename_i h5; exact absurd (List.cons.inj h5).1 e
      · rename_i h5; exact absurd (List.cons.inj h5).1 e
      · rfl
theorem numB_dec {b : Str} (h : stripL [120] b = none) : numB (35 :: b) = numL 10 7 b := by
  unfold numB
  cases b with
  | nil => rfl
  | cons c t =>
    have e : c ≠ 120 := by rintro rfl; simp [stripL, List.isPrefixOf] at h
    split
    · rename_i h5; injection h5 with _ h5; injection h5 with h5 _; exact absurd h5 e
    · rename_i h5; injection h5 with _ h5; rw [h5]
    · rename_i h5; exact absurd rfl (h5 _)
theorem refL_of {s body rest : Str} (h : cutL [59] s = some (body, rest)) : refL s = (bodyL body).map fun t => (t, rest) := by unfold refL; rw [h]
set_option maxRecDepth 100000 in
set_option maxHeartbeats 16000000 in
theorem reference_h (hE : Env w) (s : Str) (hs : s.length ≤ 1000000) : Calls Tryz.prog 107 #[.string (bs s)] w (RefPost s w) := by
  cases hc : cutL [59] s with
  | none =>
    have hr : refL s = none := by unfold refL; rw [hc]
    have HR := Lib.hid hr
    have HC := Lib.hid (cut_none hE hs hc)
    clear hc hr
    go_enter Tryz.func107, Tryz.ntmps107
    go_wp2_with fail
    refine HC.out.mono ?_
    rintro e w1 ⟨rfl, n, rfl⟩
    go_wp2_with fail
    go_ret3
    exact ⟨by rw [HR.out]; rfl, (Fr.refl _ _).drewN n⟩
  | some q =>
    obtain ⟨body, rest⟩ := q
    have HC := Lib.hid (cut_some hE hs hc)
    have hbl : body.length ≤ 1000000 := by have := cutL_lens hc; omega
    have HR0 := Lib.hid (refL_of hc)
    clear hc
    by_cases h0 : body = [97, 109, 112]
    · have HR := Lib.hid (show refL s = some ([38], rest) from by rw [HR0.out, h0]; rfl)
      have t0 : ((bs body).toList == [97, 109, 112]) = true := by rw [str_eq, decide_eq_true h0]
      clear h0
      go_enter Tryz.func107, Tryz.ntmps107
      go_wp2_with fail
      refine HC.out.mono ?_
      rintro e w1 ⟨rfl, n, rfl⟩
      go_wp2_with fail
      go_ret3
      exact ⟨by rw [HR.out]; rfl, (Fr.refl _ _).drewN n⟩
    by_cases h1 : body = [108, 116]
    · have HR := Lib.hid (show refL s = some ([60], rest) from by rw [HR0.out, h1]; rfl)
      have t1 : ((bs body).toList == [108, 116]) = true := by rw [str_eq, decide_eq_true h1]
      have t0 : ((bs body).toList == [97, 109, 112]) = false := by rw [str_eq, decide_eq_false h0]
      clear h0 h1
      go_enter Tryz.func107, Tryz.ntmps107
      go_wp2_with fail
      refine HC.out.mono ?_
      rintro e w1 ⟨rfl, n, rfl⟩
      go_wp2_with fail
      go_ret3
      exact ⟨by rw [HR.out]; rfl, (Fr.refl _ _).drewN n⟩
    by_cases h2 : body = [103, 116]
    · have HR := Lib.hid (show refL s = some ([62], rest) from by rw [HR0.out, h2]; rfl)
      have t2 : ((bs body).toList == [103, 116]) = true := by rw [str_eq, decide_eq_true h2]
      have t0 : ((bs body).toList == [97, 109, 112]) = false := by rw [str_eq, decide_eq_false h0]
      have t1 : ((bs body).toList == [108, 116]) = false := by rw [str_eq, decide_eq_false h1]
      clear h0 h1 h2
      go_enter Tryz.func107, Tryz.ntmps107
      go_wp2_with fail
      refine HC.out.mono ?_
      rintro e w1 ⟨rfl, n, rfl⟩
      go_wp2_with fail
      go_ret3
      exact ⟨by rw [HR.out]; rfl, (Fr.refl _ _).drewN n⟩
    by_cases h3 : body = [113, 117, 111, 116]
    · have HR := Lib.hid (show refL s = some ([34], rest) from by rw [HR0.out, h3]; rfl)
      have t3 : ((bs body).toList == [113, 117, 111, 116]) = true := by rw [str_eq, decide_eq_true h3]
      have t0 : ((bs body).toList == [97, 109, 112]) = false := by rw [str_eq, decide_eq_false h0]
      have t1 : ((bs body).toList == [108, 116]) = false := by rw [str_eq, decide_eq_false h1]
      have t2 : ((bs body).toList == [103, 116]) = false := by rw [str_eq, decide_eq_false h2]
      clear h0 h1 h2 h3
      go_enter Tryz.func107, Tryz.ntmps107
      go_wp2_with fail
      refine HC.out.mono ?_
      rintro e w1 ⟨rfl, n, rfl⟩
      go_wp2_with fail
      go_ret3
      exact ⟨by rw [HR.out]; rfl, (Fr.refl _ _).drewN n⟩
    by_cases h4 : body = [97, 112, 111, 115]
    · have HR := Lib.hid (show refL s = some ([39], rest) from by rw [HR0.out, h4]; rfl)
      have t4 : ((bs body).toList == [97, 112, 111, 115]) = true := by rw [str_eq, decide_eq_true h4]
      have t0 : ((bs body).toList == [97, 109, 112]) = false := by rw [str_eq, decide_eq_false h0]
      have t1 : ((bs body).toList == [108, 116]) = false := by rw [str_eq, decide_eq_false h1]
      have t2 : ((bs body).toList == [103, 116]) = false := by rw [str_eq, decide_eq_false h2]
      have t3 : ((bs body).toList == [113, 117, 111, 116]) = false := by rw [str_eq, decide_eq_false h3]
      clear h0 h1 h2 h3 h4
      go_enter Tryz.func107, Tryz.ntmps107
      go_wp2_with fail
      refine HC.out.mono ?_
      rintro e w1 ⟨rfl, n, rfl⟩
      go_wp2_with fail
      go_ret3
      exact ⟨by rw [HR.out]; rfl, (Fr.refl _ _).drewN n⟩
    have t0 : ((bs body).toList == [97, 109, 112]) = false := by rw [str_eq, decide_eq_false h0]
    have t1 : ((bs body).toList == [108, 116]) = false := by rw [str_eq, decide_eq_false h1]
    have t2 : ((bs body).toList == [103, 116]) = false := by rw [str_eq, decide_eq_false h2]
    have t3 : ((bs body).toList == [113, 117, 111, 116]) = false := by rw [str_eq, decide_eq_false h3]
    have t4 : ((bs body).toList == [97, 112, 111, 115]) = false := by rw [str_eq, decide_eq_false h4]
    have HB := Lib.hid (body_num h0 h1 h2 h3 h4)
    clear h0 h1 h2 h3 h4
    cases hh : stripL [35] body with
    | none =>
      have HR := Lib.hid (show refL s = none from by
        rw [HR0.out, HB.out, numB_none hh]; rfl)
      have HC1 := Lib.hid (fun (W : World) => cutp_none (w := W) hh)
      clear hh
      cases hx : stripL [120] body with
      | none =>
        have HC2 := Lib.hid (fun (W : World) => cutp_none (w := W) hx)
        clear hx
        have HC3 := Lib.hid (fun (n : Nat) => uparse10_h (w := w.drewN n) (hE.grow ((Fr.refl _ _).drewN n)) body hbl)
        go_enter Tryz.func107, Tryz.ntmps107
        go_wp2_with fail
        refine HC.out.mono ?_
        rintro e w1 ⟨rfl, n, rfl⟩
        go_wp2_with fail
        refine (HC1.out _).mono ?_
        rintro e w1 ⟨rfl, rfl⟩
        go_wp2_with fail
        refine (HC2.out _).mono ?_
        rintro e w1 ⟨rfl, rfl⟩
        go_wp2_with fail
        refine (HC3.out n).mono ?_
        rintro e w2 ⟨v, er, rfl, hpu, hF0⟩
        clear hpu
        go_wp2_with fail
        go_ret3
        exact ⟨by rw [HR.out]; rfl, ((Fr.refl _ _).drewN n).next hF0⟩
      | some ds =>
        have HC2 := Lib.hid (fun (W : World) => cutp_some (w := W) hx)
        have hdl : ds.length ≤ 1000000 := by have := congrArg List.length (stripL_some hx); simp at this; omega
        clear hx
        have HC3 := Lib.hid (fun (n : Nat) => uparse16_h (w := w.drewN n) (hE.grow ((Fr.refl _ _).drewN n)) ds hdl)
        go_enter Tryz.func107, Tryz.ntmps107
        go_wp2_with fail
        refine HC.out.mono ?_
        rintro e w1 ⟨rfl, n, rfl⟩
        go_wp2_with fail
        refine (HC1.out _).mono ?_
        rintro e w1 ⟨rfl, rfl⟩
        go_wp2_with fail
        refine (HC2.out _).mono ?_
        rintro e w1 ⟨rfl, rfl⟩
        go_wp2_with fail
        refine (HC3.out n).mono ?_
        rintro e w2 ⟨v, er, rfl, hpu, hF0⟩
        clear hpu
        go_wp2_with fail
        go_ret3
        exact ⟨by rw [HR.out]; rfl, ((Fr.refl _ _).drewN n).next hF0⟩
    | some b2 =>
      have HBE := Lib.hid (stripL_some hh)
      have hbl2 : b2.length ≤ 1000000 := by have := congrArg List.length HBE.out; simp at this; omega
      have HC1 := Lib.hid (fun (W : World) => cutp_some (w := W) hh)
      clear hh
      cases hx : stripL [120] b2 with
      | none =>
        have HR := Lib.hid (show refL s = (numL 10 7 b2).map fun t => (t, rest) from by
          rw [HR0.out, HB.out, HBE.out]; exact congrArg (Option.map _) (numB_dec hx))
        have HC2 := Lib.hid (fun (W : World) => cutp_none (w := W) hx)
        clear hx
        have HC3 := Lib.hid (fun (n : Nat) => uparse10_h (w := w.drewN n) (hE.grow ((Fr.refl _ _).drewN n)) b2 hbl2)
        have hsz : (bs b2).size = b2.length := rfl
        go_enter Tryz.func107, Tryz.ntmps107
        go_wp2_with fail
        refine HC.out.mono ?_
        rintro e w1 ⟨rfl, n, rfl⟩
        go_wp2_with fail
        refine (HC1.out _).mono ?_
        rintro e w1 ⟨rfl, rfl⟩
        go_wp2_with fail
        refine (HC2.out _).mono ?_
        rintro e w1 ⟨rfl, rfl⟩
        go_wp2_with fail
        refine (HC3.out n).mono ?_
        rintro e w2 ⟨v, er, rfl, hpu, hF0⟩
        have hF := Lib.hid (((Fr.refl (fun _ => False) w).drewN n).next hF0)
        clear hF0
        rcases hpu with ⟨he, hok, hv, hvb⟩ | ⟨⟨T, p, he⟩, hbad, hvb⟩
        · subst he
          have HV := Lib.hid (And.intro hok hv)
          clear hok hv
          by_cases hlen : 7 < b2.length
          · have HN := Lib.hid (show numL 10 7 b2 = none from num_long hlen)
            go_wp2_with fail
            go_ret3
            exact ⟨by rw [HR.out, HN.out]; rfl, hF.out⟩
          have hlen' : b2.length ≤ 7 := by omega
          by_cases hz : v = 0
          · subst hz
            have HN := Lib.hid (show numL 10 7 b2 = none from num_bad (by rw [← HV.out.2]; decide))
            go_wp2_with fail
            go_ret3
            exact ⟨by rw [HR.out, HN.out]; rfl, hF.out⟩
          have hz' : ((v : Int) == 0) = false := by rw [beq_eq_false_iff_ne]; omega
          by_cases hbig : 1114111 < v
          · have HN := Lib.hid (show numL 10 7 b2 = none from num_bad (by rw [← HV.out.2]; unfold runeOK; simp; omega))
            clear hz
            go_wp2_with fail
            go_ret3
            exact ⟨by rw [HR.out, HN.out]; rfl, hF.out⟩
          have hbig' : v ≤ 1114111 := by omega
          have hw32 : IntKind.i32.wrap (v : Int) = (v : Int) := wrap_i32 (by omega) (by omega)
          cases hvr : Lib.validRune (v : Int) with
          | false =>
            have HN := Lib.hid (show numL 10 7 b2 = none from num_bad (by rw [← HV.out.2, ← valid_rune, hvr]; simp))
            have HC4 := Lib.hid (Tryz.utf8_ValidRune (v : Int) w2)
            rw [hvr] at HC4
            clear hz hvr hbig
            go_wp2_with fail
            refine HC4.out.mono ?_
            rintro e w4 ⟨rfl, rfl⟩
            go_wp2_with fail
            go_ret3
            exact ⟨by rw [HR.out, HN.out]; rfl, hF.out⟩
          | true =>
            have HN := Lib.hid (show numL 10 7 b2 = some (utf8L v) from by rw [HV.out.2]; exact num_good HV.out.1 hlen' (by rw [← HV.out.2, ← valid_rune, hvr]; simp; omega))
            have HC4 := Lib.hid (Tryz.utf8_ValidRune (v : Int) w2)
            have HU := Lib.hid (rune_of hz hvr)
            rw [hvr] at HC4
            clear hz hvr hbig
            go_wp2_with fail
            refine HC4.out.mono ?_
            rintro e w4 ⟨rfl, rfl⟩
            go_wp2_with fail
            go_ret3
            exact ⟨by rw [HR.out, HN.out]; exact ret_str3 (enc_rune HU.out), hF.out⟩
        · subst he
          have HN := Lib.hid (show numL 10 7 b2 = none from num_none (by omega) hbad)
          clear hbad
          go_wp2_with fail
          go_ret3
          exact ⟨by rw [HR.out, HN.out]; rfl, hF.out⟩

      | some ds =>
        have HR := Lib.hid (show refL s = (numL 16 6 ds).map fun t => (t, rest) from by
          rw [HR0.out, HB.out, HBE.out, stripL_some hx]; rfl)
        have HC2 := Lib.hid (fun (W : World) => cutp_some (w := W) hx)
        have hdl : ds.length ≤ 1000000 := by have := congrArg List.length (stripL_some hx); simp at this; omega
        clear hx
        have HC3 := Lib.hid (fun (n : Nat) => uparse16_h (w := w.drewN n) (hE.grow ((Fr.refl _ _).drewN n)) ds hdl)
        have hsz : (bs ds).size = ds.length := rfl
        go_enter Tryz.func107, Tryz.ntmps107
        go_wp2_with fail
        refine HC.out.mono ?_
        rintro e w1 ⟨rfl, n, rfl⟩
        go_wp2_with fail
        refine (HC1.out _).mono ?_
        rintro e w1 ⟨rfl, rfl⟩
        go_wp2_with fail
        refine (HC2.out _).mono ?_
        rintro e w1 ⟨rfl, rfl⟩
        go_wp2_with fail
        refine (HC3.out n).mono ?_
        rintro e w2 ⟨v, er, rfl, hpu, hF0⟩
        have hF := Lib.hid (((Fr.refl (fun _ => False) w).drewN n).next hF0)
        clear hF0
        rcases hpu with ⟨he, hok, hv, hvb⟩ | ⟨⟨T, p, he⟩, hbad, hvb⟩
        · subst he
          have HV := Lib.hid (And.intro hok hv)
          clear hok hv
          by_cases hlen : 6 < ds.length
          · have HN := Lib.hid (show numL 16 6 ds = none from num_long hlen)
            go_wp2_with fail
            go_ret3
            exact ⟨by rw [HR.out, HN.out]; rfl, hF.out⟩
          have hlen' : ds.length ≤ 6 := by omega
          by_cases hz : v = 0
          · subst hz
            have HN := Lib.hid (show numL 16 6 ds = none from num_bad (by rw [← HV.out.2]; decide))
            go_wp2_with fail
            go_ret3
            exact ⟨by rw [HR.out, HN.out]; rfl, hF.out⟩
          have hz' : ((v : Int) == 0) = false := by rw [beq_eq_false_iff_ne]; omega
          by_cases hbig : 1114111 < v
          · have HN := Lib.hid (show numL 16 6 ds = none from num_bad (by rw [← HV.out.2]; unfold runeOK; simp; omega))
            clear hz
            go_wp2_with fail
            go_ret3
            exact ⟨by rw [HR.out, HN.out]; rfl, hF.out⟩
          have hbig' : v ≤ 1114111 := by omega
          have hw32 : IntKind.i32.wrap (v : Int) = (v : Int) := wrap_i32 (by omega) (by omega)
          cases hvr : Lib.validRune (v : Int) with
          | false =>
            have HN := Lib.hid (show numL 16 6 ds = none from num_bad (by rw [← HV.out.2, ← valid_rune, hvr]; simp))
            have HC4 := Lib.hid (Tryz.utf8_ValidRune (v : Int) w2)
            rw [hvr] at HC4
            clear hz hvr hbig
            go_wp2_with fail
            refine HC4.out.mono ?_
            rintro e w4 ⟨rfl, rfl⟩
            go_wp2_with fail
            go_ret3
            exact ⟨by rw [HR.out, HN.out]; rfl, hF.out⟩
          | true =>
            have HN := Lib.hid (show numL 16 6 ds = some (utf8L v) from by rw [HV.out.2]; exact num_good HV.out.1 hlen' (by rw [← HV.out.2, ← valid_rune, hvr]; simp; omega))
            have HC4 := Lib.hid (Tryz.utf8_ValidRune (v : Int) w2)
            have HU := Lib.hid (rune_of hz hvr)
            rw [hvr] at HC4
            clear hz hvr hbig
            go_wp2_with fail
            refine HC4.out.mono ?_
            rintro e w4 ⟨rfl, rfl⟩
            go_wp2_with fail
            go_ret3
            exact ⟨by rw [HR.out, HN.out]; exact ret_str3 (enc_rune HU.out), hF.out⟩
        · subst he
          have HN := Lib.hid (show numL 16 6 ds = none from num_none (by omega) hbad)
          clear hbad
          go_wp2_with fail
          go_ret3
          exact ⟨by rw [HR.out, HN.out]; rfl, hF.out⟩
end
end Go.Proofs.YtpinjgdnhbogoaaGreatDoor
