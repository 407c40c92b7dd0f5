/- The walk of the law XmlJoins. -/
import Derived.Test.YtpinjgdnhbogoaaGreatDoorJ1
import Derived.Test.YtpinjgdnhbogoaaGreatDoorLE
import Derived.Deep.RegionLaw
import Derived.Deep.RegionHeldLaw
namespace Go.Proofs.YtpinjgdnhbogoaaGreatDoor
open Go.RowKit Go.Lib

theorem readD_bad {s : Str} {i : Nat} (h : readL s = .error i) (hs : s.length ≤ 20000) : readD s = ([], 8, (i : Int)) := by
  unfold readD; rw [if_neg (by omega), h]
theorem join_cat (s t : Str) : bs s ++ (⟨#[60, 113, 47, 62]⟩ : ByteArray) ++ bs t = bs (s ++ (qTag ++ t)) := by
  rw [show (⟨#[60, 113, 47, 62]⟩ : ByteArray) = bs qTag from rfl, bs_append, bs_append, List.append_assoc]
def joinT (a b : List TokD) : List TokD := a ++ (⟨1, [113], [], []⟩ :: ⟨2, [113], [], []⟩ :: b)
theorem joinT_len (a b : List TokD) : (joinT a b).length = a.length + 2 + b.length := by unfold joinT; simp; omega
theorem joinT_0 (a b : List TokD) : (joinT a b)[a.length]? = some ⟨1, [113], [], []⟩ := by unfold joinT; simp
theorem joinT_1 (a b : List TokD) : (joinT a b)[a.length + 1]? = some ⟨2, [113], [], []⟩ := by unfold joinT; simp
theorem Toks.low {B : Nat} {w : World} {v : Value} {l : List TokD} (h : Toks B w v l) : TokV w (fun k => k < w.heap.size) v l := h.view.mono fun _ h => h.2
theorem ent37 : ∀ args w, (callFunc 37 args).run Tryz.prog w = .ok (.enter 37 args) w := enters_of Tryz.func37 (by kernel_rfl) rfl
/-- alike of tokens that are put together, and the reference's -/
theorem alike_eq {B : Nat} {w7 w11 W : World} {S : Nat → Prop} {v u : Value} {l m : List TokD} (hm : l = m) (hv : TokV w11 S v l) (hu : TokV w7 (fun k => B ≤ k ∧ k < w7.heap.size) u m) (hf : Fr (fun _ => False) w7 w11) (hl : m.length ≤ 100 ∧ ∀ x ∈ m, x.attrs.length ≤ 20) (hw : Fr (fun _ => False) w11 W) :
    Calls Tryz.prog 37 #[v, u] W fun e w' => e = .returned (.bool true) ∧ Fr (fun _ => False) w11 w' := by
  subst hm
  refine (alike_h (hv.fr hw fun _ _ h => h) (hu.fr (hf.next hw) fun _ _ h => h) (by omega) (fun x hx => by have := hl.2 x hx; omega)).mono ?_
  rintro e w' ⟨rfl, p, rfl⟩
  exact ⟨by simp, hw.drewN p⟩
set_option maxRecDepth 100000 in
set_option maxHeartbeats 16000000 in
theorem joins_h {w : World} (hE : Env w) (s t : Str) : Calls Tryz.prog 11 #[.string (bs s), .string (bs t)] w fun e w' => e = .returned (.bool true) ∧ Fr (fun _ => False) w w' := by
  have hsz : (bs s).size = s.length := rfl
  have htz : (bs t).size = t.length := rfl
  have HE := Lib.hid hE
  have HS := Lib.hid (shown_h hE)
  clear hE
  by_cases hlong : 3000 < s.length
  · have hd : decide ((3000 : Int) < (s.length : Int)) = true := decide_eq_true (by omega)
    go_enter Tryz.func11, Tryz.ntmps11
    go_wp2_with fail
    refine Calls.mono HS.out ?_
    rintro e w1 ⟨rfl, hF⟩
    have HF := Lib.hid hF
    clear hF
    go_wp2_with fail
    go_ret
    exact ⟨rfl, HF.out⟩
  have hd : decide ((3000 : Int) < (s.length : Int)) = false := decide_eq_false (by omega)
  by_cases hlong2 : 3000 < t.length
  · have hd2 : decide ((3000 : Int) < (t.length : Int)) = true := decide_eq_true (by omega)
    go_enter Tryz.func11, Tryz.ntmps11
    go_wp2_with fail
    refine Calls.mono HS.out ?_
    rintro e w1 ⟨rfl, hF⟩
    have HF := Lib.hid hF
    clear hF
    go_wp2_with fail
    go_ret
    exact ⟨rfl, HF.out⟩
  have hd2 : decide ((3000 : Int) < (t.length : Int)) = false := decide_eq_false (by omega)
  have hs3 : s.length ≤ 3000 := by omega
  have ht3 : t.length ≤ 3000 := by omega
  clear hlong hlong2
  have hul : (s ++ (qTag ++ t)).length ≤ 7000 := by simp [qTag]; omega
  have HCat := Lib.hid (join_cat s t)
  have HRead := Lib.hid (fun (W : World) (hF : Fr (fun _ => False) w W) {x : Str} {l : List TokD} {a b : Int} (hr : readD x = (l, a, b)) (hs : x.length ≤ 1000000) => read_at (HE.out.grow hF) hr hs)
  cases hrs : readL s with
  | error k =>
    have hR1 := Lib.hid (readD_bad hrs (by omega))
    obtain ⟨b0, f0, at0, hR2⟩ : ∃ b0 f0 at0, readD t = (b0, f0, at0) := ⟨_, _, _, rfl⟩
    have HR2 := Lib.hid hR2
    obtain ⟨c0, g0, to0, hR3, hg0⟩ : ∃ c0 g0 to0, readD (s ++ (qTag ++ t)) = (c0, g0, to0) ∧ (g0 = 8 ∨ g0 = 0) := by
      cases hu : readL (s ++ (qTag ++ t)) with
      | error i => exact ⟨_, _, _, readD_bad hu (by omega), .inl rfl⟩
      | ok l => exact ⟨_, _, _, readD_ok hu (by omega), .inr rfl⟩
    have HR3 := Lib.hid hR3
    clear hR2 hR3 hrs
    rcases hg0 with rfl | rfl
    all_goals
      go_enter Tryz.func11, Tryz.ntmps11
      go_wp2_with fail
      refine Calls.mono HS.out ?_
      rintro e w1 ⟨rfl, hF⟩
      have HF := Lib.hid hF
      clear hF
      go_wp2_with fail
      refine Calls.mono (HRead.out _ HF.out hR1.out (by omega)) ?_
      rintro e w2 ⟨⟨v2, rfl, _⟩, hF2⟩
      have HF2 := Lib.hid (HF.out.next hF2)
      clear hF2
      go_wp2_with fail
      refine Calls.mono (HRead.out _ HF2.out HR2.out (by omega)) ?_
      rintro e w3 ⟨⟨v3, rfl, _⟩, hF3⟩
      have HF3 := Lib.hid (HF2.out.next hF3)
      clear hF3
      go_wp2_with fail
      rw [HCat.out]
      refine Calls.mono (HRead.out _ HF3.out HR3.out (by omega)) ?_
      rintro e w4 ⟨⟨v4, rfl, _⟩, hF4⟩
      have HF4 := Lib.hid (HF3.out.next hF4)
      clear hF4
      go_wp2_with fail
      go_ret
      exact ⟨rfl, HF4.out⟩
  | ok a =>
    have hJ := read_join hrs t
    have hR1 := Lib.hid (readD_ok hrs (by omega))
    have hal := readL_many hrs
    have hal2 : a.length ≤ 9001 := by omega
    clear hal hrs
    cases hrt : readL t with
    | error i =>
      have hR2 := Lib.hid (readD_bad hrt (by omega))
      rw [hrt] at hJ
      have hR3 := Lib.hid (readD_bad hJ (by omega))
      have hi := readL_place hrt
      have hi2 : i ≤ 3000 := by omega
      clear hi hrt hJ
      go_enter Tryz.func11, Tryz.ntmps11
      go_wp2_with fail
      refine Calls.mono HS.out ?_
      rintro e w1 ⟨rfl, hF⟩
      have HF := Lib.hid hF
      clear hF
      go_wp2_with fail
      refine Calls.mono (HRead.out _ HF.out hR1.out (by omega)) ?_
      rintro e w2 ⟨⟨v2, rfl, _⟩, hF2⟩
      have HF2 := Lib.hid (HF.out.next hF2)
      clear hF2
      go_wp2_with fail
      refine Calls.mono (HRead.out _ HF2.out hR2.out (by omega)) ?_
      rintro e w3 ⟨⟨v3, rfl, _⟩, hF3⟩
      have HF3 := Lib.hid (HF2.out.next hF3)
      clear hF3
      go_wp2_with fail
      rw [HCat.out]
      refine Calls.mono (HRead.out _ HF3.out hR3.out (by omega)) ?_
      rintro e w4 ⟨⟨v4, rfl, _⟩, hF4⟩
      have HF4 := Lib.hid (HF3.out.next hF4)
      have h9 : (((s.length + 4 + i : Nat) : Int) == (s.length : Int) + 4 + (i : Int)) = true := by rw [beq_iff_eq]; omega
      clear hF4
      go_wp2_with fail
      go_ret
      exact ⟨rfl, HF4.out⟩
    | ok b =>
      have hR2 := Lib.hid (readD_ok hrt (by omega))
      rw [hrt] at hJ
      have hR3 := Lib.hid (readD_ok (l := joinT a b) hJ (by omega))
      have hbl := readL_many hrt
      have hbl2 : b.length ≤ 9001 := by omega
      clear hbl hrt hJ
      obtain ⟨i0, hi0, hz0, hz1, hz2⟩ := info_parts info54
      go_enter Tryz.func11, Tryz.ntmps11
      go_wp2_with fail
      refine Calls.mono HS.out ?_
      rintro e w1 ⟨rfl, hF⟩
      have HF := Lib.hid hF
      clear hF
      go_wp2_with fail
      refine Calls.mono (HRead.out _ HF.out hR1.out (by omega)) ?_
      rintro e w2 ⟨⟨v2, rfl, hT2⟩, hF2⟩
      obtain ⟨a2, cap2, rfl, _, _⟩ := hT2.sliced
      have HF2 := Lib.hid (HF.out.next hF2)
      have HT2 := Lib.hid hT2
      clear hF2 hT2
      go_wp2_with fail
      refine Calls.mono (HRead.out _ HF2.out hR2.out (by omega)) ?_
      rintro e w3 ⟨⟨v3, rfl, hT3⟩, hF3⟩
      obtain ⟨a3, cap3, rfl, _, _⟩ := hT3.sliced
      have HF3 := Lib.hid (HF2.out.next hF3)
      have HT23 := Lib.hid (HT2.out.fr hF3)
      have HT3 := Lib.hid hT3
      clear hF3 hT3
      go_wp2_with fail
      rw [HCat.out]
      refine Calls.mono (HRead.out _ HF3.out hR3.out (by omega)) ?_
      rintro e w4 ⟨⟨v4, rfl, hT4⟩, hF4⟩
      obtain ⟨a4, cap4, rfl, hc41, hc42⟩ := hT4.sliced
      have HF4 := Lib.hid (HF3.out.next hF4)
      obtain ⟨ps, hps1, hps2, hps3, hps4, hps5⟩ := (HT23.out.fr hF4).low.parts
      obtain ⟨qs, hqs1, hqs2, hqs3, hqs4, hqs5⟩ := (HT3.out.fr hF4).low.parts
      rw [hps2] at hps3
      rw [hqs2] at hqs3
      have HP := Lib.hid (And.intro hps1 (And.intro hps2 (And.intro hps3 hps4)))
      have HQ := Lib.hid (And.intro hqs1 (And.intro hqs2 (And.intro hqs3 hqs4)))
      have HT4 := Lib.hid hT4
      have H0 : Hid (TokApp w4.heap.size (w4.alloc (.cells #[] 54)) (.slice (some ⟨w4.heap.size, 0, none⟩) 0 0) []) := TokApp.nil (block_new _ _) (Nat.le_refl _)
      have HFa : Hid (Fr (fun _ => False) w4 (w4.alloc (.cells #[] 54))) := (Fr.refl _ _).alloc _
      clear hF4 hT4 hps1 hps2 hps3 hps4 hqs1 hqs2 hqs3 hqs4
      go_wp2_with (first
        | (at_builtin; refine wpList_append_row rfl (.tmp 75) (.tmp 76) 22 rfl w4.heap.size 54 i0 (.agg #[.int .i64 0, .string ⟨#[]⟩, .slice none 0 0, .string ⟨#[]⟩]) 4 64 Tryz.underlying22 hi0 hz0 hz1 hz2 rfl (by decide) (.slice (some ⟨w4.heap.size, 0, none⟩) 0 0) 0 [] rfl H0.out.row _ _ a.length (tcells ps) rfl (HP.out.2.2.1.fr HFa.out fun _ _ h => h) hps5 (by unfold maxLen; omega) (by omega) (by simp) ?_; intro b5 cap5 w5 hown5 hgrow5 hfr5; have H5 := Lib.hid (H0.out.first HP.out.2.1 (fun p hp => (HP.out.2.2.2 p hp).fr HFa.out fun _ _ h => h) hfr5 hown5); have HF5 := Lib.hid (fr_to_base ((HFa.out.mono (o2 := fun k => w4.heap.size ≤ k) fun _ _ h => h.elim).next hfr5) (Nat.le_refl _)); have hs5 := HF5.out.size; clear hown5 hgrow5 hfr5)
        | (at_builtin; refine wpList_append_row rfl (.tmp 77) (.tmp 78) 22 rfl w4.heap.size 54 i0 (.agg #[.int .i64 0, .string ⟨#[]⟩, .slice none 0 0, .string ⟨#[]⟩]) 4 64 Tryz.underlying22 hi0 hz0 hz1 hz2 rfl (by decide) (.slice b5 a.length cap5) a.length (tcells ps) rfl (by have h := H5.out.row; rw [HP.out.2.1] at h; exact h) _ _ b.length (tcells qs) rfl (HQ.out.2.2.1.fr HF5.out fun _ _ h => h) hqs5 (by unfold maxLen; omega) (by omega) (by omega) ?_; intro b6 cap6 w6 hown6 hgrow6 hfr6; have H6 := Lib.hid (H5.out.then HP.out.2.1 HQ.out.2.1 (fun p hp => (HQ.out.2.2.2 p hp).fr HF5.out fun _ _ h => h) hfr6 hown6); have HF6 := Lib.hid (fr_to_base ((HF5.out.mono (o2 := fun k => w4.heap.size ≤ k) fun _ _ h => h.elim).next hfr6) (Nat.le_refl _)); clear hown6 hgrow6 hfr6))
      have hv6 := H6.out.view
      rw [List.map_append, HP.out.1, HQ.out.1] at hv6
      refine Calls.mono (as_h hv6) ?_
      rintro e w7 ⟨u, bb, rfl, hbb, hR7, hF7⟩
      have HF7 := Lib.hid (HF6.out.next hF7)
      have HR7 := Lib.hid hR7
      have HBB := Lib.hid hbb
      clear hv6 hF7 hR7
      cases hfit : fitsA (a ++ b) with
      | false =>
        rw [hfit] at hbb
        subst hbb
        clear hfit
        go_wp2_with fail
        go_ret
        exact ⟨rfl, HF4.out.next HF7.out⟩
      | true =>
        rw [hfit] at hbb
        subst hbb
        obtain ⟨g4, off4, rfl, hel⟩ := HT4.out.cells (by rw [joinT_len]; omega)
        obtain ⟨av0, h0⟩ := hel _ _ (joinT_0 a b)
        obtain ⟨av1, h1⟩ := hel _ _ (joinT_1 a b)
        have d1 := HF7.out.cell h0.c1 (fun h => h)
        have d2 := HF7.out.cell h1.c0 (fun h => h)
        have HFit := Lib.hid hfit
        have hq : (bs [113]).toList = [113] := bs_toList _
        obtain ⟨rs, hrs1, hrs2, hrs3, hrs4, hrs5⟩ := (HT4.out.fr HF7.out).low.parts
        rw [joinT_len] at hrs2
        rw [hrs2, joinT_len] at hrs3
        obtain ⟨a9, c9, hsl9, htl9⟩ := tail_run (a := some ⟨g4, off4, none⟩) (len := a.length + 2 + b.length) (cap := cap4) (k := a.length + 2) (i := (a.length : Int) + 2) (by omega) (by omega)
        rw [show a.length + 2 + b.length - (a.length + 2) = b.length by omega] at hsl9 htl9
        have hsl8 := head_run (a := some ⟨g4, off4, none⟩) (len := a.length + 2 + b.length) (cap := cap4) (k := a.length) (i := (a.length : Int)) rfl (by rw [joinT_len] at hc41; omega)
        have hrow8 := hrs3.head (k := a.length) (by omega)
        have hrow9 := htl9 hrs3
        rw [tcells_take] at hrow8
        rw [tcells_drop] at hrow9
        have HR8 := Lib.hid (And.intro (show (rs.take a.length).length = a.length by rw [List.length_take]; omega) hrow8)
        have HR9 := Lib.hid (And.intro (show (rs.drop (a.length + 2)).length = b.length by rw [List.length_drop]; omega) hrow9)
        have h8 := tcells_sub (qs := rs.take a.length) hrs5 fun p hp => List.mem_of_mem_take hp
        have h9 := tcells_sub (qs := rs.drop (a.length + 2)) hrs5 fun p hp => List.mem_of_mem_drop hp
        have HA4 := Lib.hid hrs4
        have HM : Hid ((rs.take a.length ++ rs.drop (a.length + 2)).map Prod.fst = a ++ b) := by
          show _ = _
          rw [List.map_append, List.map_take, List.map_drop, hrs1]
          unfold joinT
          rw [List.take_left, show a.length + 2 = (a ++ [(⟨1, [113], [], []⟩ : TokD), ⟨2, [113], [], []⟩]).length by simp, show a ++ (⟨1, [113], [], []⟩ :: ⟨2, [113], [], []⟩ :: b) = (a ++ [(⟨1, [113], [], []⟩ : TokD), ⟨2, [113], [], []⟩]) ++ b by simp, List.drop_left]
        have HB7 : Hid (TokApp w7.heap.size (w7.alloc (.cells #[] 54)) (.slice (some ⟨w7.heap.size, 0, none⟩) 0 0) []) := TokApp.nil (block_new _ _) (Nat.le_refl _)
        have HFb : Hid (Fr (fun _ => False) w7 (w7.alloc (.cells #[] 54))) := (Fr.refl _ _).alloc _
        have HU := Lib.hid (HR7.out rfl).view
        have HL9 := Lib.hid (fits_len2 hfit)
        rw [joinT_len]
        clear hfit hel h0 h1 hrs1 hrs2 hrs3 hrs4 hrs5 htl9 hrow8 hrow9 hc41 hc42
        go_wp2_with fail
        have hwr : IntKind.i64.wrap ((a.length : Int) + 2) = (a.length : Int) + 2 := IntWalk.i64_in _ (by omega)
        go_region_law (first
          | (refine step_append_row rfl (.tmp 117) (.tmp 121) 22 rfl w7.heap.size 54 i0 (.agg #[.int .i64 0, .string ⟨#[]⟩, .slice none 0 0, .string ⟨#[]⟩]) 4 64 Tryz.underlying22 hi0 hz0 hz1 hz2 rfl (by decide) (.slice (some ⟨w7.heap.size, 0, none⟩) 0 0) 0 [] rfl (HB7.out.fr (by repeat (first | exact Fr.refl _ _ | refine Fr.drew ?_))).row (fun k => k < w7.heap.size) _ a.length (tcells (rs.take a.length)) rfl (HR8.out.2.fr (HFb.out.next (by repeat (first | exact Fr.refl _ _ | refine Fr.drew ?_))) fun _ _ h => h) h8 (by unfold maxLen; omega) (by omega) (by simp) ?_; intro b10 cap10 w10 hown10 hgrow10 hfr10; have H10 := Lib.hid ((HB7.out.fr (by repeat (first | exact Fr.refl _ _ | refine Fr.drew ?_))).first HR8.out.1 (fun p hp => (HA4.out p (List.mem_of_mem_take hp)).fr (HFb.out.next (by repeat (first | exact Fr.refl _ _ | refine Fr.drew ?_))) fun _ _ h => h) hfr10 hown10); have HF10 := Lib.hid (fr_to_base (((HFb.out.next (by repeat (first | exact Fr.refl _ _ | refine Fr.drew ?_))).mono (o2 := fun k => w7.heap.size ≤ k) fun _ _ h => h.elim).next hfr10) (Nat.le_refl _)); have hs10 := HF10.out.size; clear hown10 hgrow10 hfr10)
          | (refine step_append_row rfl (.tmp 122) (.tmp 127) 22 rfl w7.heap.size 54 i0 (.agg #[.int .i64 0, .string ⟨#[]⟩, .slice none 0 0, .string ⟨#[]⟩]) 4 64 Tryz.underlying22 hi0 hz0 hz1 hz2 rfl (by decide) (.slice b10 a.length cap10) a.length (tcells (rs.take a.length)) rfl (H10.out.row2 HR8.out.1 (by repeat (first | exact Fr.refl _ _ | refine Fr.drew ?_))) (fun k => k < w7.heap.size) _ b.length (tcells (rs.drop (a.length + 2))) rfl (HR9.out.2.fr (HF10.out.next (by repeat (first | exact Fr.refl _ _ | refine Fr.drew ?_))) fun _ _ h => h) h9 (by unfold maxLen; omega) (by omega) (show w7.heap.size ≤ w10.heap.size from hs10) ?_; intro b11 cap11 w11 hown11 hgrow11 hfr11; have H11 := Lib.hid ((H10.out.fr (show Fr (fun _ => False) w10 _ by repeat (first | exact Fr.refl _ _ | refine Fr.drew ?_))).then HR8.out.1 HR9.out.1 (fun p hp => (HA4.out p (List.mem_of_mem_drop hp)).fr (HF10.out.next (by repeat (first | exact Fr.refl _ _ | refine Fr.drew ?_))) fun _ _ h => h) hfr11 hown11); have HF11 := Lib.hid (fr_to_base (((HF10.out.next (by repeat (first | exact Fr.refl _ _ | refine Fr.drew ?_))).mono (o2 := fun k => w7.heap.size ≤ k) fun _ _ h => h.elim).next hfr11) (Nat.le_refl _)); clear hown11 hgrow11 hfr11)
          | (refine step_call rfl 37 #[.tmp 128, .tmp 129] #[22, 24] rfl [.slice b11 (a.length + b.length) cap11, u] rfl ent37 _ (alike_eq HM.out H11.out.view HU.out HF11.out HL9.out (by repeat (first | exact Fr.refl _ _ | refine Fr.drew ?_))) ?_; rintro e w12 ⟨rfl, hF12⟩; have HF12 := Lib.hid hF12; clear hF12; refine ⟨_, rfl, ?_⟩)
          | fail)
        go_wp2_with fail
        go_ret
        exact ⟨rfl, (HF4.out.next HF7.out).next (HF11.out.next HF12.out)⟩
end Go.Proofs.YtpinjgdnhbogoaaGreatDoor
