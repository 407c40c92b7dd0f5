/- strings.Cut, CutPrefix, HasPrefix, TrimLeft, Contains in plain words; reference. -/
import Derived.Test.YtpinjgdnhbogoaaGreatDoorM4
import Derived.Test.YtpinjgdnhbogoaaGreatDoorB1
import Derived.Outline
namespace Go.Proofs.YtpinjgdnhbogoaaGreatDoor
open Go.RowKit Go.Lib

section
variable {w : World}
theorem cut_some (hE : Env w) {s p a b : Str} (hs : s.length ≤ 1000000) (hc : cutL p s = some (a, b)) : Calls Tryz.prog 106 #[.string (bs s), .string (bs p)] w fun e w' => e = .returned (.tuple #[.string (bs a), .string (bs b), .bool true]) ∧ ∃ n, w' = w.drewN n := by
  obtain ⟨m, hm⟩ := hE.maxLen
  have hl := cut_lib p s
  rw [hc] at hl
  have h := Tryz.strings_Cut (bs s) (bs p) m w (by show s.length < _; omega) hm
  rw [bs_data, bs_data, hl] at h
  exact h
theorem cut_none (hE : Env w) {s p : Str} (hs : s.length ≤ 1000000) (hc : cutL p s = none) : Calls Tryz.prog 106 #[.string (bs s), .string (bs p)] w fun e w' => e = .returned (.tuple #[.string (bs s), .string (bs []), .bool false]) ∧ ∃ n, w' = w.drewN n := by
  obtain ⟨m, hm⟩ := hE.maxLen
  have hl := cut_lib p s
  rw [hc] at hl
  have h := Tryz.strings_Cut (bs s) (bs p) m w (by show s.length < _; omega) hm
  rw [bs_data, bs_data, hl] at h
  exact h
theorem cutp_some {s p r : Str} (h : stripL p s = some r) : Calls Tryz.prog 109 #[.string (bs s), .string (bs p)] w fun e w' => e = .returned (.tuple #[.string (bs r), .bool true]) ∧ w = w' := by
  have hl := strip_lib p s
  rw [h] at hl
  simp only [Prod.mk.injEq] at hl
  have hC := Tryz.strings_CutPrefix (bs s) (bs p) w
  rw [bs_data, bs_data, hl.1, hl.2] at hC
  exact hC.mono fun e w' h => ⟨h.1, h.2.symm⟩
theorem cutp_none {s p : Str} (h : stripL p s = none) : Calls Tryz.prog 109 #[.string (bs s), .string (bs p)] w fun e w' => e = .returned (.tuple #[.string (bs s), .bool false]) ∧ w = w' := by
  have hl := strip_lib p s
  rw [h] at hl
  simp only [Prod.mk.injEq] at hl
  have hC := Tryz.strings_CutPrefix (bs s) (bs p) w
  rw [bs_data, bs_data, hl.1, hl.2] at hC
  exact hC.mono fun e w' h => ⟨h.1, h.2.symm⟩
theorem hasp_h {s p : Str} : Calls Tryz.prog 142 #[.string (bs s), .string (bs p)] w fun e w' => e = .returned (.bool (p.isPrefixOf s)) ∧ w = w' := by
  have hC := Tryz.strings_HasPrefix (bs s) (bs p) w
  rw [bs_data, bs_data] at hC
  exact hC.mono fun e w' h => ⟨h.1, h.2.symm⟩
theorem ascii4 : ∀ (j : Nat) b, (bs [32, 9, 10, 13]).data.toList[j]? = some b → b.toNat < 128 := by
  intro j b h
  rw [bs_data] at h
  have := List.mem_of_getElem? h
  simp at this
  rcases this with rfl | rfl | rfl | rfl <;> decide
theorem trim_h {s : Str} : Calls Tryz.prog 112 #[.string (bs s), .string (bs [32, 9, 10, 13])] w fun e w' => e = .returned (.string (bs (trimL s))) ∧ Fr (fun _ => False) w w' := by
  have hC := Tryz.strings_TrimLeft_laid (bs s) (bs [32, 9, 10, 13]) w (by decide) ascii4
  rw [bs_data, bs_data, trim_lib] at hC
  exact hC.mono fun e w' h => ⟨h.1, fr_new h.2⟩
theorem has_h {s : Str} (c : UInt8) : Calls Tryz.prog 167 #[.string (bs s), .string (bs [c])] w fun e w' => e = .returned (.bool (s.contains c)) ∧ w = w' := by
  have hC := Tryz.strings_Contains_one (bs s) c w
  rw [bs_data] at hC
  refine hC.mono fun e w' h => ⟨h.1.trans ?_, h.2.symm⟩
  rw [← contains_lib s c]
  unfold Lib.contains
  rw [Lib.index_one]
def RefPost (s : Str) (w : World) (e : Ending) (w' : World) : Prop :=
  e = .returned (match refL s with | some q => .tuple #[.string (bs q.1), .string (bs q.2), .bool true] | none => .tuple #[.string ⟨#[]⟩, .string ⟨#[]⟩, .bool false]) ∧ Fr (fun _ => False) w w'
theorem wrap_i32 {n : Int} (h0 : 0 ≤ n) (h1 : n < 2147483648) : IntKind.i32.wrap n = n := by
  rw [IntKind.wrap_i32]; omega
theorem num_long {b most : Nat} {ds : Str} (h : most < ds.length) : numL b most ds = none := by
  unfold numL; rw [if_neg]; simp; omega
theorem num_bad {b most : Nat} {ds : Str} (h : runeOK (numV b ds) = false) : numL b most ds = none := by
  unfold numL; rw [h]; simp
theorem num_none {b most : Nat} {ds : Str} (hm : most ≤ 7) (h : okB b ds = false ∨ 7 < ds.length) : numL b most ds = none := by
  rcases h with h | h
  · unfold numL
    unfold okB at h
    rw [h]; simp
  · exact num_long (by omega)
theorem num_good {b most : Nat} {ds : Str} (h : okB b ds = true) (hl : ds.length ≤ most) (hr : runeOK (numV b ds) = true) : numL b most ds = some (utf8L (numV b ds)) := by
  unfold numL
  unfold okB at h
  rw [h, hr, if_pos (by simp [hl])]
theorem valid_rune {v : Nat} : (decide (v ≠ 0) && Lib.validRune (v : Int)) = runeOK v := by
  unfold Lib.validRune runeOK
  rw [Bool.eq_iff_iff]
  simp only [Bool.and_eq_true, decide_eq_true_eq, Bool.not_eq_true', Bool.and_eq_false_iff, decide_eq_false_iff_not]
  omega
theorem enc_utf8 {v : Nat} (h : Lib.validRune (v : Int) = true) : Utf8.encode (v : Int) = bs (utf8L v) := by
  unfold Lib.validRune at h
  rw [decide_eq_true_iff] at h
  have hv : Utf8.valid (v : Int) = true := by
    unfold Utf8.valid
    simp only [Bool.or_eq_true, Bool.and_eq_true, decide_eq_true_eq]
    omega
  unfold Utf8.encode utf8L
  rw [hv]
  simp only [if_true, Int.toNat_natCast]
  split
  · rfl
  · split
    · rfl
    · split <;> rfl
theorem rune_of {v : Nat} (h : ¬ v = 0) (hv : Lib.validRune (v : Int) = true) : runeOK v = true := by
  rw [← valid_rune, hv]; simpa using h
theorem enc_rune {v : Nat} (h : runeOK v = true) : Utf8.encode (v : Int) = bs (utf8L v) := by
  rw [← valid_rune] at h
  exact enc_utf8 (by simp only [Bool.and_eq_true] at h; exact h.2)
theorem ret_str3 {a b : ByteArray} {c : Value} (h : a = b) {d : Value} : Ending.returned (.tuple #[.string a, c, d]) = .returned (.tuple #[.string b, c, d]) := by rw [h]
theorem str_eq (a b : Str) : ((bs a).toList == b) = decide (a = b) := by
  rw [bs_toList, Bool.eq_iff_iff]; simp
def numB (body : Str) : Option Str := match body with
  | 35 :: 120 :: ds => numL 16 6 ds
  | 35 :: ds => numL 10 7 ds
  | _ => none
theorem body_num {b : Str} (h0 : ¬b = [97, 109, 112]) (h1 : ¬b = [108, 116]) (h2 : ¬b = [103, 116]) (h3 : ¬b = [113, 117, 111, 116]) (h4 : ¬b = [97, 112, 111, 115]) : bodyL b = numB b := by
  unfold bodyL numB; rw [if_neg h0, if_neg h1, if_neg h2, if_neg h3, if_neg h4]; rfl
theorem numB_none {b : Str} (h : stripL [35] b = none) : numB b = none := by
  unfold numB
  cases b with
  | nil => rfl
  | cons c t =>
    by_cases e : c = 35
    · subst e; simp [stripL, List.isPrefixOf] at h
    · split
      · rename_i h5; exact absurd (List.cons.inj h5).1 e
      · rename_i h5; exact absurd (List.cons.inj h5).1 e
      · rfl
theorem numB_dec {b : Str} (h : stripL [120] b = none) : numB (35 :: b) = numL 10 7 b := by
  unfold numB
  cases b with
  | nil => rfl
  | cons c t =>
    have e : c ≠ 120 := by rintro rfl; simp [stripL, List.isPrefixOf] at h
    split
    · rename_i h5; injection h5 with _ h5; injection h5 with h5 _; exact absurd h5 e
    · rename_i h5; injection h5 with _ h5; rw [h5]
    · rename_i h5; exact absurd rfl (h5 _)
theorem refL_of {s body rest : Str} (h : cutL [59] s = some (body, rest)) : refL s = (bodyL body).map fun t => (t, rest) := by unfold refL; rw [h]
set_option maxRecDepth 100000 in
set_option maxHeartbeats 16000000 in
theorem reference_h (hE : Env w) (s : Str) (hs : s.length ≤ 1000000) : Calls Tryz.prog 107 #[.string (bs s)] w (RefPost s w) := by
  cases hc : cutL [59] s with
  | none =>
    have hr : refL s = none := by unfold refL; rw [hc]
    have HR := Lib.hid hr
    have HC := Lib.hid (cut_none hE hs hc)
    clear hc hr
    go_enter Tryz.func107, Tryz.ntmps107
    go_wp2_with fail
    refine HC.out.mono ?_
    rintro e w1 ⟨rfl, n, rfl⟩
    go_wp2_with fail
    go_ret3
    exact ⟨by rw [HR.out]; rfl, (Fr.refl _ _).drewN n⟩
  | some q =>
    obtain ⟨body, rest⟩ := q
    have HC := Lib.hid (cut_some hE hs hc)
    have hbl : body.length ≤ 1000000 := by have := cutL_lens hc; omega
    have HR0 := Lib.hid (refL_of hc)
    clear hc
    by_cases h0 : body = [97, 109, 112]
    · have HR := Lib.hid (show refL s = some ([38], rest) from by rw [HR0.out, h0]; rfl)
      have t0 : ((bs body).toList == [97, 109, 112]) = true := by rw [str_eq, decide_eq_true h0]
      clear h0
      go_enter Tryz.func107, Tryz.ntmps107
      go_wp2_with fail
      refine HC.out.mono ?_
      rintro e w1 ⟨rfl, n, rfl⟩
      go_wp2_with fail
      go_ret3
      exact ⟨by rw [HR.out]; rfl, (Fr.refl _ _).drewN n⟩
    by_cases h1 : body = [108, 116]
    · have HR := Lib.hid (show refL s = some ([60], rest) from by rw [HR0.out, h1]; rfl)
      have t1 : ((bs body).toList == [108, 116]) = true := by rw [str_eq, decide_eq_true h1]
      have t0 : ((bs body).toList == [97, 109, 112]) = false := by rw [str_eq, decide_eq_false h0]
      clear h0 h1
      go_enter Tryz.func107, Tryz.ntmps107
      go_wp2_with fail
      refine HC.out.mono ?_
      rintro e w1 ⟨rfl, n, rfl⟩
      go_wp2_with fail
      go_ret3
      exact ⟨by rw [HR.out]; rfl, (Fr.refl _ _).drewN n⟩
    by_cases h2 : body = [103, 116]
    · have HR := Lib.hid (show refL s = some ([62], rest) from by rw [HR0.out, h2]; rfl)
      have t2 : ((bs body).toList == [103, 116]) = true := by rw [str_eq, decide_eq_true h2]
      have t0 : ((bs body).toList == [97, 109, 112]) = false := by rw [str_eq, decide_eq_false h0]
      have t1 : ((bs body).toList == [108, 116]) = false := by rw [str_eq, decide_eq_false h1]
      clear h0 h1 h2
      go_enter Tryz.func107, Tryz.ntmps107
      go_wp2_with fail
      refine HC.out.mono ?_
      rintro e w1 ⟨rfl, n, rfl⟩
      go_wp2_with fail
      go_ret3
      exact ⟨by rw [HR.out]; rfl, (Fr.refl _ _).drewN n⟩
    by_cases h3 : body = [113, 117, 111, 116]
    · have HR := Lib.hid (show refL s = some ([34], rest) from by rw [HR0.out, h3]; rfl)
      have t3 : ((bs body).toList == [113, 117, 111, 116]) = true := by rw [str_eq, decide_eq_true h3]
      have t0 : ((bs body).toList == [97, 109, 112]) = false := by rw [str_eq, decide_eq_false h0]
      have t1 : ((bs body).toList == [108, 116]) = false := by rw [str_eq, decide_eq_false h1]
      have t2 : ((bs body).toList == [103, 116]) = false := by rw [str_eq, decide_eq_false h2]
      clear h0 h1 h2 h3
      go_enter Tryz.func107, Tryz.ntmps107
      go_wp2_with fail
      refine HC.out.mono ?_
      rintro e w1 ⟨rfl, n, rfl⟩
      go_wp2_with fail
      go_ret3
      exact ⟨by rw [HR.out]; rfl, (Fr.refl _ _).drewN n⟩
    by_cases h4 : body = [97, 112, 111, 115]
    · have HR := Lib.hid (show refL s = some ([39], rest) from by rw [HR0.out, h4]; rfl)
      have t4 : ((bs body).toList == [97, 112, 111, 115]) = true := by rw [str_eq, decide_eq_true h4]
      have t0 : ((bs body).toList == [97, 109, 112]) = false := by rw [str_eq, decide_eq_false h0]
      have t1 : ((bs body).toList == [108, 116]) = false := by rw [str_eq, decide_eq_false h1]
      have t2 : ((bs body).toList == [103, 116]) = false := by rw [str_eq, decide_eq_false h2]
      have t3 : ((bs body).toList == [113, 117, 111, 116]) = false := by rw [str_eq, decide_eq_false h3]
      clear h0 h1 h2 h3 h4
      go_enter Tryz.func107, Tryz.ntmps107
      go_wp2_with fail
      refine HC.out.mono ?_
      rintro e w1 ⟨rfl, n, rfl⟩
      go_wp2_with fail
      go_ret3
      exact ⟨by rw [HR.out]; rfl, (Fr.refl _ _).drewN n⟩
    have t0 : ((bs body).toList == [97, 109, 112]) = false := by rw [str_eq, decide_eq_false h0]
    have t1 : ((bs body).toList == [108, 116]) = false := by rw [str_eq, decide_eq_false h1]
    have t2 : ((bs body).toList == [103, 116]) = false := by rw [str_eq, decide_eq_false h2]
    have t3 : ((bs body).toList == [113, 117, 111, 116]) = false := by rw [str_eq, decide_eq_false h3]
    have t4 : ((bs body).toList == [97, 112, 111, 115]) = false := by rw [str_eq, decide_eq_false h4]
    have HB := Lib.hid (body_num h0 h1 h2 h3 h4)
    clear h0 h1 h2 h3 h4
    cases hh : stripL [35] body with
    | none =>
      have HR := Lib.hid (show refL s = none from by
        rw [HR0.out, HB.out, numB_none hh]; rfl)
      have HC1 := Lib.hid (fun (W : World) => cutp_none (w := W) hh)
      clear hh
      cases hx : stripL [120] body with
      | none =>
        have HC2 := Lib.hid (fun (W : World) => cutp_none (w := W) hx)
        clear hx
        have HC3 := Lib.hid (fun (n : Nat) => uparse10_h (w := w.drewN n) (hE.grow ((Fr.refl _ _).drewN n)) body hbl)
        go_enter Tryz.func107, Tryz.ntmps107
        go_wp2_with fail
        refine HC.out.mono ?_
        rintro e w1 ⟨rfl, n, rfl⟩
        go_wp2_with fail
        refine (HC1.out _).mono ?_
        rintro e w1 ⟨rfl, rfl⟩
        go_wp2_with fail
        refine (HC2.out _).mono ?_
        rintro e w1 ⟨rfl, rfl⟩
        go_wp2_with fail
        refine (HC3.out n).mono ?_
        rintro e w2 ⟨v, er, rfl, hpu, hF0⟩
        clear hpu
        go_wp2_with fail
        go_ret3
        exact ⟨by rw [HR.out]; rfl, ((Fr.refl _ _).drewN n).next hF0⟩
      | some ds =>
        have HC2 := Lib.hid (fun (W : World) => cutp_some (w := W) hx)
        have hdl : ds.length ≤ 1000000 := by have := congrArg List.length (stripL_some hx); simp at this; omega
        clear hx
        have HC3 := Lib.hid (fun (n : Nat) => uparse16_h (w := w.drewN n) (hE.grow ((Fr.refl _ _).drewN n)) ds hdl)
        go_enter Tryz.func107, Tryz.ntmps107
        go_wp2_with fail
        refine HC.out.mono ?_
        rintro e w1 ⟨rfl, n, rfl⟩
        go_wp2_with fail
        refine (HC1.out _).mono ?_
        rintro e w1 ⟨rfl, rfl⟩
        go_wp2_with fail
        refine (HC2.out _).mono ?_
        rintro e w1 ⟨rfl, rfl⟩
        go_wp2_with fail
        refine (HC3.out n).mono ?_
        rintro e w2 ⟨v, er, rfl, hpu, hF0⟩
        clear hpu
        go_wp2_with fail
        go_ret3
        exact ⟨by rw [HR.out]; rfl, ((Fr.refl _ _).drewN n).next hF0⟩
    | some b2 =>
      have HBE := Lib.hid (stripL_some hh)
      have hbl2 : b2.length ≤ 1000000 := by have := congrArg List.length HBE.out; simp at this; omega
      have HC1 := Lib.hid (fun (W : World) => cutp_some (w := W) hh)
      clear hh
      cases hx : stripL [120] b2 with
      | none =>
        have HR := Lib.hid (show refL s = (numL 10 7 b2).map fun t => (t, rest) from by
          rw [HR0.out, HB.out, HBE.out]; exact congrArg (Option.map _) (numB_dec hx))
        have HC2 := Lib.hid (fun (W : World) => cutp_none (w := W) hx)
        clear hx
        have HC3 := Lib.hid (fun (n : Nat) => uparse10_h (w := w.drewN n) (hE.grow ((Fr.refl _ _).drewN n)) b2 hbl2)
        have hsz : (bs b2).size = b2.length := rfl
        go_enter Tryz.func107, Tryz.ntmps107
        go_wp2_with fail
        refine HC.out.mono ?_
        rintro e w1 ⟨rfl, n, rfl⟩
        go_wp2_with fail
        refine (HC1.out _).mono ?_
        rintro e w1 ⟨rfl, rfl⟩
        go_wp2_with fail
        refine (HC2.out _).mono ?_
        rintro e w1 ⟨rfl, rfl⟩
        go_wp2_with fail
        refine (HC3.out n).mono ?_
        rintro e w2 ⟨v, er, rfl, hpu, hF0⟩
        have hF := Lib.hid (((Fr.refl (fun _ => False) w).drewN n).next hF0)
        clear hF0
        rcases hpu with ⟨he, hok, hv, hvb⟩ | ⟨⟨T, p, he⟩, hbad, hvb⟩
        · subst he
          have HV := Lib.hid (And.intro hok hv)
          clear hok hv
          by_cases hlen : 7 < b2.length
          · have HN := Lib.hid (show numL 10 7 b2 = none from num_long hlen)
            go_wp2_with fail
            go_ret3
            exact ⟨by rw [HR.out, HN.out]; rfl, hF.out⟩
          have hlen' : b2.length ≤ 7 := by omega
          by_cases hz : v = 0
          · subst hz
            have HN := Lib.hid (show numL 10 7 b2 = none from num_bad (by rw [← HV.out.2]; decide))
            go_wp2_with fail
            go_ret3
            exact ⟨by rw [HR.out, HN.out]; rfl, hF.out⟩
          have hz' : ((v : Int) == 0) = false := by rw [beq_eq_false_iff_ne]; omega
          by_cases hbig : 1114111 < v
          · have HN := Lib.hid (show numL 10 7 b2 = none from num_bad (by rw [← HV.out.2]; unfold runeOK; simp; omega))
            clear hz
            go_wp2_with fail
            go_ret3
            exact ⟨by rw [HR.out, HN.out]; rfl, hF.out⟩
          have hbig' : v ≤ 1114111 := by omega
          have hw32 : IntKind.i32.wrap (v : Int) = (v : Int) := wrap_i32 (by omega) (by omega)
          cases hvr : Lib.validRune (v : Int) with
          | false =>
            have HN := Lib.hid (show numL 10 7 b2 = none from num_bad (by rw [← HV.out.2, ← valid_rune, hvr]; simp))
            have HC4 := Lib.hid (Tryz.utf8_ValidRune (v : Int) w2)
            rw [hvr] at HC4
            clear hz hvr hbig
            go_wp2_with fail
            refine HC4.out.mono ?_
            rintro e w4 ⟨rfl, rfl⟩
            go_wp2_with fail
            go_ret3
            exact ⟨by rw [HR.out, HN.out]; rfl, hF.out⟩
          | true =>
            have HN := Lib.hid (show numL 10 7 b2 = some (utf8L v) from by rw [HV.out.2]; exact num_good HV.out.1 hlen' (by rw [← HV.out.2, ← valid_rune, hvr]; simp; omega))
            have HC4 := Lib.hid (Tryz.utf8_ValidRune (v : Int) w2)
            have HU := Lib.hid (rune_of hz hvr)
            rw [hvr] at HC4
            clear hz hvr hbig
            go_wp2_with fail
            refine HC4.out.mono ?_
            rintro e w4 ⟨rfl, rfl⟩
            go_wp2_with fail
            go_ret3
            exact ⟨by rw [HR.out, HN.out]; exact ret_str3 (enc_rune HU.out), hF.out⟩
        · subst he
          have HN := Lib.hid (show numL 10 7 b2 = none from num_none (by omega) hbad)
          clear hbad
          go_wp2_with fail
          go_ret3
          exact ⟨by rw [HR.out, HN.out]; rfl, hF.out⟩

      | some ds =>
        have HR := Lib.hid (show refL s = (numL 16 6 ds).map fun t => (t, rest) from by
          rw [HR0.out, HB.out, HBE.out, stripL_some hx]; rfl)
        have HC2 := Lib.hid (fun (W : World) => cutp_some (w := W) hx)
        have hdl : ds.length ≤ 1000000 := by have := congrArg List.length (stripL_some hx); simp at this; omega
        clear hx
        have HC3 := Lib.hid (fun (n : Nat) => uparse16_h (w := w.drewN n) (hE.grow ((Fr.refl _ _).drewN n)) ds hdl)
        have hsz : (bs ds).size = ds.length := rfl
        go_enter Tryz.func107, Tryz.ntmps107
        go_wp2_with fail
        refine HC.out.mono ?_
        rintro e w1 ⟨rfl, n, rfl⟩
        go_wp2_with fail
        refine (HC1.out _).mono ?_
        rintro e w1 ⟨rfl, rfl⟩
        go_wp2_with fail
        refine (HC2.out _).mono ?_
        rintro e w1 ⟨rfl, rfl⟩
        go_wp2_with fail
        refine (HC3.out n).mono ?_
        rintro e w2 ⟨v, er, rfl, hpu, hF0⟩
        have hF := Lib.hid (((Fr.refl (fun _ => False) w).drewN n).next hF0)
        clear hF0
        rcases hpu with ⟨he, hok, hv, hvb⟩ | ⟨⟨T, p, he⟩, hbad, hvb⟩
        · subst he
          have HV := Lib.hid (And.intro hok hv)
          clear hok hv
          by_cases hlen : 6 < ds.length
          · have HN := Lib.hid (show numL 16 6 ds = none from num_long hlen)
            go_wp2_with fail
            go_ret3
            exact ⟨by rw [HR.out, HN.out]; rfl, hF.out⟩
          have hlen' : ds.length ≤ 6 := by omega
          by_cases hz : v = 0
          · subst hz
            have HN := Lib.hid (show numL 16 6 ds = none from num_bad (by rw [← HV.out.2]; decide))
            go_wp2_with fail
            go_ret3
            exact ⟨by rw [HR.out, HN.out]; rfl, hF.out⟩
          have hz' : ((v : Int) == 0) = false := by rw [beq_eq_false_iff_ne]; omega
          by_cases hbig : 1114111 < v
          · have HN := Lib.hid (show numL 16 6 ds = none from num_bad (by rw [← HV.out.2]; unfold runeOK; simp; omega))
            clear hz
            go_wp2_with fail
            go_ret3
            exact ⟨by rw [HR.out, HN.out]; rfl, hF.out⟩
          have hbig' : v ≤ 1114111 := by omega
          have hw32 : IntKind.i32.wrap (v : Int) = (v : Int) := wrap_i32 (by omega) (by omega)
          cases hvr : Lib.validRune (v : Int) with
          | false =>
            have HN := Lib.hid (show numL 16 6 ds = none from num_bad (by rw [← HV.out.2, ← valid_rune, hvr]; simp))
            have HC4 := Lib.hid (Tryz.utf8_ValidRune (v : Int) w2)
            rw [hvr] at HC4
            clear hz hvr hbig
            go_wp2_with fail
            refine HC4.out.mono ?_
            rintro e w4 ⟨rfl, rfl⟩
            go_wp2_with fail
            go_ret3
            exact ⟨by rw [HR.out, HN.out]; rfl, hF.out⟩
          | true =>
            have HN := Lib.hid (show numL 16 6 ds = some (utf8L v) from by rw [HV.out.2]; exact num_good HV.out.1 hlen' (by rw [← HV.out.2, ← valid_rune, hvr]; simp; omega))
            have HC4 := Lib.hid (Tryz.utf8_ValidRune (v : Int) w2)
            have HU := Lib.hid (rune_of hz hvr)
            rw [hvr] at HC4
            clear hz hvr hbig
            go_wp2_with fail
            refine HC4.out.mono ?_
            rintro e w4 ⟨rfl, rfl⟩
            go_wp2_with fail
            go_ret3
            exact ⟨by rw [HR.out, HN.out]; exact ret_str3 (enc_rune HU.out), hF.out⟩
        · subst he
          have HN := Lib.hid (show numL 16 6 ds = none from num_none (by omega) hbad)
          clear hbad
          go_wp2_with fail
          go_ret3
          exact ⟨by rw [HR.out, HN.out]; rfl, hF.out⟩
end
end Go.Proofs.YtpinjgdnhbogoaaGreatDoor

/- said: what a text says. -/
namespace Go.Proofs.YtpinjgdnhbogoaaGreatDoor
open Go.RowKit Go.Lib

theorem isB_fr {B b : Nat} {l : List Value} {w w' : World} (h : Lib.IsBuilderF 115 5 B b l w) (hf : Fr (fun _ => False) w w') : Lib.IsBuilderF 115 5 B b l w' := by
  have key : ∀ p, Lib.BuilderAtF 115 5 B b p l w → Lib.BuilderAtF 115 5 B b p l w' := by
    rintro p ⟨hB, v, hb, hown, hne⟩
    refine ⟨hB, v, hf.keep hb (fun h => h), ⟨hown.1, ?_⟩, hne⟩
    rcases hown.2 with h2 | ⟨g, cap, cur, fz, hv, hg, hh, r⟩
    · exact .inl h2
    · exact .inr ⟨g, cap, cur, fz, hv, hg, hf.keep hh (fun h => h), r⟩
  exact h.imp (key _) (key _)
theorem isB_new (w : World) (b : Nat) (hb : b = w.heap.size) : Lib.IsBuilderF 115 5 b b (Lib.byteCells []) (w.alloc (.cells #[.pointer none, .slice none 0 0] 115)) :=
  .inl ⟨Nat.le_refl _, _, by rw [hb]; exact block_new w _, World.ownsRowF_nil _ _ _ _, by simp [Value.ownBlock]⟩
theorem strCells_bs (a : Str) : Lib.strCells (bs a) = Lib.byteCells a := rfl
theorem byteCells_app (a b : Str) : Lib.byteCells a ++ Lib.byteCells b = Lib.byteCells (a ++ b) := by unfold Lib.byteCells; rw [List.map_append]
theorem byteCells_len (a : Str) : (Lib.byteCells a).length = a.length := by unfold Lib.byteCells; rw [List.length_map]
/-- WriteString onto a builder of the call's own -/
theorem below_start {B n : Nat} {a b : World} (h : Below B (a.drewN n) b) : Below B a b := ⟨h.os, h.tape, h.output, h.size, h.block⟩
theorem bput {B b : Nat} {w : World} {l a : Str} (h : Lib.IsBuilderF 115 5 B b (Lib.byteCells l) w) (hl : l.length + a.length ≤ 140737488355328) (hBw : B ≤ w.heap.size) :
    Calls Tryz.prog 81 #[.pointer (some ⟨b, 0, none⟩), .string (bs a)] w fun e w' => e = .returned (.tuple #[.int .i64 (bs a).size, .nilIface]) ∧ Lib.IsBuilderF 115 5 B b (Lib.byteCells (l ++ a)) w' ∧ Below B w w' ∧ Lib.OthersKept 5 (some b) w w' := by
  refine (bwrite_h B b _ (bs a) w h (by rw [byteCells_len]; exact hl) hBw).mono ?_
  rintro e w' ⟨rfl, h1, h2, h3⟩
  rw [strCells_bs, byteCells_app] at h1
  exact ⟨rfl, .inr h1, h2, h3⟩
/-! ### what a text says, step by step -/
theorem said_none {r : Str} (h : cutL [38] r = none) : saidL r = .ok r := by unfold saidL saidF; rw [h]
theorem said_bad {r p m : Str} (h : cutL [38] r = some (p, m)) (hm : refL m = none) : saidL r = .error p.length := by
  unfold saidL saidF; rw [h]; dsimp only; rw [hm]
theorem said_more {r p m t left : Str} (h : cutL [38] r = some (p, m)) (hm : refL m = some (t, left)) : saidL r = match saidL left with | .ok u => .ok (p ++ (t ++ u)) | .error k => .error (p.length + 1 + (m.length - left.length) + k) := by
  have h1 := cutL_lens h
  have h2 := refL_len hm
  simp only [List.length_singleton] at h1
  conv => lhs; unfold saidL saidF
  rw [h]
  dsimp only
  rw [hm]
  dsimp only
  rw [saidL_eq (s := left) (by omega)]
  cases saidL left <;> rfl
theorem utf8_len (v : Nat) : (utf8L v).length ≤ 4 := by unfold utf8L; (repeat' split) <;> simp
theorem num_len {b m : Nat} {ds t : Str} (h : numL b m ds = some t) : t.length ≤ 4 := by
  unfold numL at h
  split at h
  · rw [← Option.some.inj h]; exact utf8_len _
  · cases h
theorem ref_out {m t left : Str} (h : refL m = some (t, left)) : t.length ≤ 4 := by
  unfold refL at h
  split at h
  · cases h
  · rename_i b rest hc
    cases hb : bodyL b with
    | none => rw [hb] at h; cases h
    | some u =>
      rw [hb] at h
      simp only [Option.map_some, Option.some.injEq, Prod.mk.injEq] at h
      obtain ⟨rfl, rfl⟩ := h
      unfold bodyL at hb
      repeat' split at hb
      all_goals first | (cases hb; simp) | exact num_len hb | cases hb
/-- how far what a text says is known -/
def SaidTo (s u0 r : Str) : Prop := r.length ≤ s.length ∧ u0.length + 4 * r.length ≤ 4 * s.length ∧ saidL s = match saidL r with | .ok u => .ok (u0 ++ u) | .error k => .error (s.length - r.length + k)
theorem SaidTo.zero (s : Str) : SaidTo s [] s := ⟨Nat.le_refl _, by simp, by cases saidL s with | ok u => rfl | error k => simp⟩
theorem SaidTo.last {s u0 r : Str} (h : SaidTo s u0 r) (hc : cutL [38] r = none) : saidL s = .ok (u0 ++ r) := by
  rw [h.2.2, said_none hc]
theorem SaidTo.bad {s u0 r p m : Str} (h : SaidTo s u0 r) (hc : cutL [38] r = some (p, m)) (hm : refL m = none) : m.length + 1 ≤ s.length ∧ saidL s = .error (s.length - m.length - 1) := by
  have h1 := cutL_lens hc
  have h2 := h.1
  simp only [List.length_singleton] at h1
  refine ⟨by omega, ?_⟩
  rw [h.2.2, said_bad hc hm]
  dsimp only
  rw [show s.length - r.length + p.length = s.length - m.length - 1 by omega]
theorem SaidTo.step {s u0 r p m t left : Str} (h : SaidTo s u0 r) (hc : cutL [38] r = some (p, m)) (hm : refL m = some (t, left)) : SaidTo s (u0 ++ p ++ t) left ∧ left.length < r.length := by
  have h1 := cutL_lens hc
  have h2 := refL_len hm
  have h3 := ref_out hm
  have h4 := h.1
  have h5 := h.2.1
  simp only [List.length_singleton] at h1
  refine ⟨⟨by omega, by simp; omega, ?_⟩, by omega⟩
  rw [h.2.2, said_more hc hm]
  cases saidL left with
  | ok u => simp
  | error k =>
    dsimp only
    rw [show s.length - r.length + (p.length + 1 + (m.length - left.length) + k) = s.length - left.length + k by omega]
def SaidPost (s : Str) (w : World) (e : Ending) (w' : World) : Prop :=
  e = .returned (match saidL s with | .ok u => .tuple #[.string (bs u), .int .i64 (-1)] | .error k => .tuple #[.string ⟨#[]⟩, .int .i64 (k : Int)]) ∧ Fr (fun _ => False) w w'
set_option maxHeartbeats 8000000 in
theorem said_h {w : World} (hE : Env w) (s : Str) (hs : s.length ≤ 1000000) : Calls Tryz.prog 80 #[.string (bs s)] w (SaidPost s w) := by
  have hsz : (bs s).size = s.length := rfl
  have hW := hE.size
  have hB0 := isB_new w _ rfl
  have hBw : Below w.heap.size w (w.alloc (.cells #[.pointer none, .slice none 0 0] 115)) := (Below.refl _ _).alloc (Nat.le_refl _) _
  have HS := Lib.hid (And.intro hB0 hBw)
  clear hB0 hBw
  go_enter Tryz.func80, Tryz.ntmps80
  go_wp2_with fail
  go_loopg [5] s.length (fun j v wr => ∃ u0 r, j = r.length ∧ v = .string (bs r) ∧ SaidTo s u0 r ∧ Lib.IsBuilderF 115 5 w.heap.size w.heap.size (Lib.byteCells u0) wr ∧ Below w.heap.size w wr)
  case atStart => exact ⟨[], s, rfl, rfl, SaidTo.zero s, HS.out.1, HS.out.2⟩
  case round =>
    obtain ⟨u0, r, hj, rfl, hT, hI, hbw⟩ := hrel
    have hr1 := hT.1
    have hr2 := hT.2.1
    have HT := Lib.hid (And.intro hj hT)
    have hEr := hE.below hbw hW
    have hzr := hbw.size
    have HB := Lib.hid (And.intro hI hbw)
    clear hj hT hI hbw
    cases hc : cutL [38] r with
    | none =>
      have HC := Lib.hid (cut_none hEr (by omega) hc)
      have HE := Lib.hid (HT.out.2.last hc)
      clear hc
      go_wp2_with fail
      refine HC.out.mono ?_
      rintro e w1 ⟨rfl, n, rfl⟩
      go_wp2_with fail
      refine (bput (l := u0) (a := r) (isB_fr HB.out.1 ((Fr.refl _ _).drewN n)) (by omega) hzr).mono ?_
      rintro e w2 ⟨rfl, hI2, hb2, _⟩
      have HB2 := Lib.hid (And.intro hI2 (HB.out.2.trans (below_start hb2)))
      clear hI2 hb2
      go_wp2_with fail
      refine (Tryz.Builder_String_any_k w.heap.size w.heap.size _ _ HB2.out.1 HB2.out.2.size).mono ?_
      rintro e w3 ⟨rfl, _, hb3, _⟩
      go_wp2_with fail
      go_ret2
      exact ⟨by rw [HE.out]; rfl, fr_new (HB2.out.2.trans hb3)⟩
    | some q =>
      obtain ⟨p, m⟩ := q
      have hl := cutL_lens hc
      simp only [List.length_singleton] at hl
      have hm1 : m.length ≤ 1000000 := by omega
      have hp1 : p.length ≤ 1000000 := by omega
      have HL := Lib.hid hl
      clear hl
      have HC := Lib.hid (cut_some hEr (by omega) hc)
      have HRf := Lib.hid (fun (W : World) (hW : Env W) => reference_h hW m hm1)
      have hmz : (bs m).size = m.length := rfl
      cases hm : refL m with
      | none =>
        have HE := Lib.hid (HT.out.2.bad hc hm)
        have HM := Lib.hid hm
        have hms := HE.out.1
        clear hc hm
        have hw1 : IntKind.i64.wrap ((s.length : Int) - (m.length : Int)) = (s.length : Int) - (m.length : Int) := IntWalk.i64_in _ (by omega)
        have hw2 : IntKind.i64.wrap ((s.length : Int) - (m.length : Int) - 1) = ((s.length - m.length - 1 : Nat) : Int) := by rw [IntWalk.i64_in _ (by omega)]; omega
        go_wp2_with fail
        refine HC.out.mono ?_
        rintro e w1 ⟨rfl, n, rfl⟩
        go_wp2_with fail
        refine (bput (l := u0) (a := p) (isB_fr HB.out.1 ((Fr.refl _ _).drewN n)) (by omega) hzr).mono ?_
        rintro e w2 ⟨rfl, hI2, hb2, _⟩
        have HB2 := Lib.hid (And.intro hI2 (HB.out.2.trans (below_start hb2)))
        clear hI2 hb2
        go_wp2_with fail
        refine (HRf.out _ (hE.below HB2.out.2 hW)).mono ?_
        rintro e w3 ⟨he, hF3⟩
        rw [HM.out] at he
        subst he
        go_wp2_with fail
        go_ret2
        exact ⟨by rw [HE.out.2] <;> rfl, (fr_new HB2.out.2).next hF3⟩
      | some tl =>
        obtain ⟨t, left⟩ := tl
        have HST := Lib.hid (HT.out.2.step hc hm)
        have HM := Lib.hid hm
        have ht4 := ref_out hm
        clear hc hm
        go_wp2_with fail
        refine HC.out.mono ?_
        rintro e w1 ⟨rfl, n, rfl⟩
        go_wp2_with fail
        refine (bput (l := u0) (a := p) (isB_fr HB.out.1 ((Fr.refl _ _).drewN n)) (by omega) hzr).mono ?_
        rintro e w2 ⟨rfl, hI2, hb2, _⟩
        have HB2 := Lib.hid (And.intro hI2 (HB.out.2.trans (below_start hb2)))
        clear hI2 hb2
        go_wp2_with fail
        refine (HRf.out _ (hE.below HB2.out.2 hW)).mono ?_
        rintro e w3 ⟨he, hF3⟩
        rw [HM.out] at he
        subst he
        have HB3 := Lib.hid (And.intro (isB_fr HB2.out.1 hF3) (HB2.out.2.trans (hF3.below HB2.out.2.size (fun _ h => h.elim))))
        clear hF3
        go_wp2_with fail
        refine (bput (l := u0 ++ p) (a := t) HB3.out.1 (by simp; omega) HB3.out.2.size).mono ?_
        rintro e w4 ⟨rfl, hI4, hb4, _⟩
        have HB4 := Lib.hid (And.intro hI4 (HB3.out.2.trans hb4))
        clear hI4 hb4
        go_wp2_with fail
        go_roundg left.length
        case measure => have := HST.out.2; have := HT.out.1; omega
        case rel => exact ⟨_, left, rfl, rfl, HST.out.1, HB4.out.1, HB4.out.2⟩
end Go.Proofs.YtpinjgdnhbogoaaGreatDoor
