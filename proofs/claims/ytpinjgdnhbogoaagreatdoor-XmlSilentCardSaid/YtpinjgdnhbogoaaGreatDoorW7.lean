/- attr: an attribute taken off. -/
import Derived.Test.YtpinjgdnhbogoaaGreatDoorW6
import Derived.Outline
namespace Go.Proofs.YtpinjgdnhbogoaaGreatDoor
open Go.RowKit Go.Lib

def valueOf (n : Str) (x : Str) : Option (Str × Str × Str) := match x with
  | q :: s4 => if q = 34 ∨ q = 39 then
      match cutL [q] s4 with
      | none => none
      | some (value, rest) => match saidL value with
        | .error _ => none
        | .ok v => if value.contains 60 then none else some (n, v, rest)
    else none
  | [] => none
theorem attr_a {s : Str} (h : nameL s = []) : attrL s = none := by unfold attrL; rw [h]; rfl
theorem attr_b {s : Str} (h : stripL [61] (trimL (s.drop (nameL s).length)) = none) : attrL s = none := by
  unfold attrL
  split
  · rfl
  · split
    · rename_i s2 h2
      rw [h2] at h; simp [stripL, List.isPrefixOf] at h
    · rfl
theorem attr_c {s s3 : Str} (h0 : ¬ nameL s = []) (h : stripL [61] (trimL (s.drop (nameL s).length)) = some s3) : attrL s = valueOf (nameL s) (trimL s3) := by
  unfold attrL valueOf
  rw [if_neg (by simpa using h0), stripL_some h]
  rfl
def AttrPost (s : Str) (w : World) (e : Ending) (w' : World) : Prop :=
  (match attrL s with
    | some (a, v, rest) => e = .returned (.tuple #[.agg #[.string (bs a), .string (bs v)], .string (bs rest), .bool true])
    | none => ∃ a v r, e = .returned (.tuple #[.agg #[.string (bs a), .string (bs v)], .string (bs r), .bool false])) ∧ Fr (fun _ => False) w w'
theorem attr_post_none {s a v r : Str} {w w' : World} (h : attrL s = none) (hf : Fr (fun _ => False) w w') : AttrPost s w (.returned (.tuple #[.agg #[.string (bs a), .string (bs v)], .string (bs r), .bool false])) w' := by
  unfold AttrPost; rw [h]; exact ⟨⟨a, v, r, rfl⟩, hf⟩
theorem attr_post_some {s a v r : Str} {w w' : World} (h : attrL s = some (a, v, r)) (hf : Fr (fun _ => False) w w') : AttrPost s w (.returned (.tuple #[.agg #[.string (bs a), .string (bs v)], .string (bs r), .bool true])) w' := by
  unfold AttrPost; rw [h]; exact ⟨rfl, hf⟩
theorem bs_first (q : UInt8) (s : Str) : (bs (q :: s)).extract 0 1 = bs [q] := by rw [bs_take]; rfl
theorem bs_tail (q : UInt8) (s : Str) : (bs (q :: s)).extract 1 (s.length + 1) = bs s := bs_drop (q :: s) 1
set_option maxHeartbeats 8000000 in
theorem attr_h {w : World} (hE : Env w) (s : Str) (hs : s.length ≤ 1000000) : Calls Tryz.prog 143 #[.string (bs s)] w (AttrPost s w) := by
  have hF0 : Fr (fun _ => False) w (w.alloc (.cells #[.string ⟨#[]⟩, .string ⟨#[]⟩] 64)) := (Fr.refl _ _).alloc _
  have hb0 : (w.alloc (.cells #[.string ⟨#[]⟩, .string ⟨#[]⟩] 64)).heap[w.heap.size]? = some (.cells #[.string ⟨#[]⟩, .string ⟨#[]⟩] 64 (0, 0)) := block_new w _
  have HN := Lib.hid (name_h (w := w.alloc (.cells #[.string ⟨#[]⟩, .string ⟨#[]⟩] 64)) s (by omega))
  have HA := Lib.hid (attr_a (s := s))
  have HB := Lib.hid (attr_b (s := s))
  have HC := Lib.hid (fun s3 => attr_c (s := s) (s3 := s3))
  have hnl := name_le s
  obtain ⟨n, hn⟩ : ∃ n, nameL s = n := ⟨_, rfl⟩
  obtain ⟨s1, hs1⟩ : ∃ s1, s.drop n.length = s1 := ⟨_, rfl⟩
  have hl1 : s1.length ≤ 1000000 := by rw [← hs1, List.length_drop]; omega
  rw [hn] at HN HA HB HC hnl
  rw [hs1] at HN HB HC
  have ht1 := trim_le s1
  have H0 := Lib.hid (And.intro hF0 hb0)
  clear hn hs1 hF0 hb0
  have hx : stripL [61] (trimL s1) = none ∨ ∃ s3, stripL [61] (trimL s1) = some s3 := by cases stripL [61] (trimL s1) <;> simp
  rcases hx with hx | ⟨s3, hx⟩
  · have HC1 := Lib.hid (fun (W : World) => cutp_none (w := W) hx)
    have HAN := Lib.hid (HB.out hx)
    clear hx
    go_enter Tryz.func143, Tryz.ntmps143
    go_wp2_with fail
    refine HN.out.mono ?_
    rintro e w1 ⟨rfl, k1, rfl⟩
    go_wp2_with fail
    refine (trim_h (s := s1)).mono ?_
    rintro e w2 ⟨rfl, hF2⟩
    go_wp2_with fail
    refine (HC1.out _).mono ?_
    rintro e w3 ⟨rfl, rfl⟩
    go_wp2_with fail
    refine (trim_h (s := trimL s1)).mono ?_
    rintro e w4 ⟨rfl, hF4⟩
    have hF5 : Fr (fun _ => False) (w.alloc (.cells #[.string ⟨#[]⟩, .string ⟨#[]⟩] 64)) w4 := (((Fr.refl _ _).drewN k1).next hF2).next hF4
    have hRB := hF5.keep H0.out.2 (fun h => h)
    have HW4 := Lib.hid (And.intro (H0.out.1.next hF5) hRB)
    have c0 := cell_of hRB (i := 0) (v := _) rfl
    have c1 := cell_of hRB (i := 1) (v := _) rfl
    have f0 := free_of 0 hRB
    have f1 := free_of 1 hRB
    clear hF2 hF4 hF5 hRB
    have htn : (bs n).toList = [] ∨ ¬ (bs n).toList = [] := Classical.em _
    rcases htn with htn | htn
    all_goals
      go_wp2_with fail
      refine bodyPost_ret (v := .tuple #[.agg #[.string (bs []), .string (bs [])], .string (bs []), .bool false]) (by simp [results, Tryz.results143, go_sem, c0, c1]; rfl) rfl (attr_post_none HAN.out ?_)
      exact (Fr.setCell (p := ⟨w.heap.size, 1, none⟩) (Fr.setCell (p := ⟨w.heap.size, 0, none⟩) HW4.out.1 (.inr (Nat.le_refl _)) _) (.inr (Nat.le_refl _)) _)
  · have HC1 := Lib.hid (fun (W : World) => cutp_some (w := W) hx)
    have hl3 : s3.length ≤ 1000000 := by have := congrArg List.length (stripL_some hx); simp at this; omega
    have HAC := Lib.hid (fun h0 => HC.out s3 h0 hx)
    clear hx
    by_cases hn0 : n = []
    · have HAN := Lib.hid (HA.out hn0)
      have htn : (bs n).toList = [] := by rw [bs_toList]; exact hn0
      clear hn0
      go_enter Tryz.func143, Tryz.ntmps143
      go_wp2_with fail
      refine HN.out.mono ?_
      rintro e w1 ⟨rfl, k1, rfl⟩
      go_wp2_with fail
      refine (trim_h (s := s1)).mono ?_
      rintro e w2 ⟨rfl, hF2⟩
      go_wp2_with fail
      refine (HC1.out _).mono ?_
      rintro e w3 ⟨rfl, rfl⟩
      go_wp2_with fail
      refine (trim_h (s := s3)).mono ?_
      rintro e w4 ⟨rfl, hF4⟩
      have hF5 : Fr (fun _ => False) (w.alloc (.cells #[.string ⟨#[]⟩, .string ⟨#[]⟩] 64)) w4 := (((Fr.refl _ _).drewN k1).next hF2).next hF4
      have hRB := hF5.keep H0.out.2 (fun h => h)
      have HW4 := Lib.hid (And.intro (H0.out.1.next hF5) hRB)
      have c0 := cell_of hRB (i := 0) (v := _) rfl
      have c1 := cell_of hRB (i := 1) (v := _) rfl
      have f0 := free_of 0 hRB
      have f1 := free_of 1 hRB
      clear hF2 hF4 hF5 hRB
      go_wp2_with fail
      refine bodyPost_ret (v := .tuple #[.agg #[.string (bs []), .string (bs [])], .string (bs []), .bool false]) (by simp [results, Tryz.results143, go_sem, c0, c1]; rfl) rfl (attr_post_none HAN.out ?_)
      exact (Fr.setCell (p := ⟨w.heap.size, 1, none⟩) (Fr.setCell (p := ⟨w.heap.size, 0, none⟩) HW4.out.1 (.inr (Nat.le_refl _)) _) (.inr (Nat.le_refl _)) _)
    have htn : ¬ (bs n).toList = [] := by rw [bs_toList]; exact hn0
    have htn2 : (bs n).toList.isEmpty = false := by rw [bs_toList]; simpa using hn0
    have HAV := Lib.hid (HAC.out hn0)
    clear hn0
    have ht3 := trim_le s3
    obtain ⟨s4, hs4⟩ : ∃ s4, trimL s3 = s4 := ⟨_, rfl⟩
    have HT3 := Lib.hid (fun (W : World) => trim_h (w := W) (s := s3))
    rw [hs4] at HT3 HAV ht3
    clear hs4
    cases s4 with
    | nil =>
      have HAN := Lib.hid (show attrL s = none from HAV.out)
      have ht4 : (bs ([] : Str)).toList = [] := by rw [bs_toList]
      go_enter Tryz.func143, Tryz.ntmps143
      go_wp2_with fail
      refine HN.out.mono ?_
      rintro e w1 ⟨rfl, k1, rfl⟩
      go_wp2_with fail
      refine (trim_h (s := s1)).mono ?_
      rintro e w2 ⟨rfl, hF2⟩
      go_wp2_with fail
      refine (HC1.out _).mono ?_
      rintro e w3 ⟨rfl, rfl⟩
      go_wp2_with fail
      refine (HT3.out _).mono ?_
      rintro e w4 ⟨rfl, hF4⟩
      have hF5 : Fr (fun _ => False) (w.alloc (.cells #[.string ⟨#[]⟩, .string ⟨#[]⟩] 64)) w4 := (((Fr.refl _ _).drewN k1).next hF2).next hF4
      have hRB := hF5.keep H0.out.2 (fun h => h)
      have HW4 := Lib.hid (And.intro (H0.out.1.next hF5) hRB)
      have c0 := cell_of hRB (i := 0) (v := _) rfl
      have c1 := cell_of hRB (i := 1) (v := _) rfl
      have f0 := free_of 0 hRB
      have f1 := free_of 1 hRB
      clear hF2 hF4 hF5 hRB
      go_wp2_with fail
      refine bodyPost_ret (v := .tuple #[.agg #[.string (bs []), .string (bs [])], .string (bs []), .bool false]) (by simp [results, Tryz.results143, go_sem, c0, c1]; rfl) rfl (attr_post_none HAN.out ?_)
      exact (Fr.setCell (p := ⟨w.heap.size, 1, none⟩) (Fr.setCell (p := ⟨w.heap.size, 0, none⟩) HW4.out.1 (.inr (Nat.le_refl _)) _) (.inr (Nat.le_refl _)) _)
    | cons q s5 =>
      obtain ⟨s4, hs4⟩ : ∃ s4, q :: s5 = s4 := ⟨_, rfl⟩
      have hl5 : s5.length + 1 ≤ 1000000 := by simp at ht3; omega
      have h4l : s4.length = s5.length + 1 := by rw [← hs4]; rfl
      have ht4 : ¬ (bs s4).toList = [] := by rw [bs_toList, ← hs4]; simp
      have ht4' : (bs s4).toList.isEmpty = false := by rw [bs_toList, ← hs4]; rfl
      have hz4 : (bs s4).size = s5.length + 1 := h4l
      have hz : 0 < (bs s4).size := by rw [hz4]; omega
      have hg : (bs s4)[0] = q := by rw [bs_at s4 0 hz, ← hs4]; rfl
      have hx1 : (bs s4).extract 1 (s5.length + 1) = bs s5 := by rw [← hs4]; exact bs_tail q s5
      have hx2 : (bs s4).extract 0 1 = bs [q] := by rw [← hs4]; exact bs_first q s5
      have HVO := Lib.hid (show attrL s = valueOf n (q :: s5) from HAV.out)
      clear HAV
      rw [hs4] at HT3 ht3
      clear hs4 ht3 h4l
      by_cases hq : q = 34 ∨ q = 39
      · have hqt : (((q.toNat : Int) == 34) = true ∧ ((q.toNat : Int) != 34) = false) ∨ (((q.toNat : Int) == 34) = false ∧ ((q.toNat : Int) != 34) = true ∧ ((q.toNat : Int) == 39) = true ∧ ((q.toNat : Int) != 39) = false) := by
          rcases hq with rfl | rfl
          · left; decide
          · right; decide
        have HQ := Lib.hid hq
        clear hq
        have h5b : s5.length ≤ 1000000 := by omega
        cases hc : cutL [q] s5 with
        | none =>
          have HAN := Lib.hid (show attrL s = none from by rw [HVO.out]; unfold valueOf; dsimp only; rw [if_pos HQ.out, hc])
          have HCT := Lib.hid (fun (W : World) (hW : Env W) => cut_none hW h5b hc)
          clear hc
          rcases hqt with ⟨q1, q2⟩ | ⟨q1, q2, q3, q4⟩
          all_goals
            go_enter Tryz.func143, Tryz.ntmps143
            go_wp2_with fail
            refine HN.out.mono ?_
            rintro e w1 ⟨rfl, k1, rfl⟩
            go_wp2_with fail
            refine (trim_h (s := s1)).mono ?_
            rintro e w2 ⟨rfl, hF2⟩
            go_wp2_with fail
            refine (HC1.out _).mono ?_
            rintro e w3 ⟨rfl, rfl⟩
            go_wp2_with fail
            refine (HT3.out _).mono ?_
            rintro e w4 ⟨rfl, hF4⟩
            have hF5 : Fr (fun _ => False) (w.alloc (.cells #[.string ⟨#[]⟩, .string ⟨#[]⟩] 64)) w4 := (((Fr.refl _ _).drewN k1).next hF2).next hF4
            have hRB := hF5.keep H0.out.2 (fun h => h)
            have HW4 := Lib.hid (And.intro (H0.out.1.next hF5) hRB)
            have c0 := cell_of hRB (i := 0) (v := _) rfl
            have c1 := cell_of hRB (i := 1) (v := _) rfl
            have f0 := free_of 0 hRB
            have f1 := free_of 1 hRB
            clear hF2 hF4 hF5 hRB
            go_wp2_with fail
            have hE4 := hE.grow HW4.out.1
            go_quiet ((go_at_call 106; exact Calls.quiet_of (HCT.out _ (hE4.grow ((Fr.refl _ _).drewN _)))))
            go_wp2_with fail
            cases hsv : saidL s5 with
            | ok u =>
              have HSV := Lib.hid hsv
              clear hsv
              refine (said_h (hE4.grow ((Fr.refl _ _).drewN _)) s5 h5b).mono ?_
              rintro e w6 ⟨he, hF6⟩
              rw [HSV.out] at he
              subst he
              have hRB6 := hF6.of_start.keep HW4.out.2 (fun h => h)
              have HW6 := Lib.hid (And.intro (HW4.out.1.next hF6.of_start) hRB6)
              clear c0 c1 f0 f1 hF6
              have c0 := cell_of hRB6 (i := 0) (v := _) rfl
              have c1 := cell_of hRB6 (i := 1) (v := _) rfl
              have f0 := free_of 0 hRB6
              have f1 := free_of 1 hRB6
              clear hRB6
              go_wp2_with fail
              refine bodyPost_ret (v := .tuple #[.agg #[.string (bs n), .string (bs u)], .string (bs []), .bool false]) (by simp [results, Tryz.results143, go_sem, c0, c1] <;> rfl) rfl (attr_post_none HAN.out ?_)
              exact (Fr.setCell (p := ⟨w.heap.size, 1, none⟩) (Fr.setCell (p := ⟨w.heap.size, 0, none⟩) HW6.out.1 (.inr (Nat.le_refl _)) _) (.inr (Nat.le_refl _)) _)
            | error k =>
              have HSV := Lib.hid hsv
              clear hsv
              refine (said_h (hE4.grow ((Fr.refl _ _).drewN _)) s5 h5b).mono ?_
              rintro e w6 ⟨he, hF6⟩
              rw [HSV.out] at he
              subst he
              have hRB6 := hF6.of_start.keep HW4.out.2 (fun h => h)
              have HW6 := Lib.hid (And.intro (HW4.out.1.next hF6.of_start) hRB6)
              clear c0 c1 f0 f1 hF6
              have c0 := cell_of hRB6 (i := 0) (v := _) rfl
              have c1 := cell_of hRB6 (i := 1) (v := _) rfl
              have f0 := free_of 0 hRB6
              have f1 := free_of 1 hRB6
              clear hRB6
              go_wp2_with fail
              refine bodyPost_ret (v := .tuple #[.agg #[.string (bs n), .string (bs [])], .string (bs []), .bool false]) (by simp [results, Tryz.results143, go_sem, c0, c1] <;> rfl) rfl (attr_post_none HAN.out ?_)
              exact (Fr.setCell (p := ⟨w.heap.size, 1, none⟩) (Fr.setCell (p := ⟨w.heap.size, 0, none⟩) HW6.out.1 (.inr (Nat.le_refl _)) _) (.inr (Nat.le_refl _)) _)
        | some vr =>
          obtain ⟨value, rest⟩ := vr
          have hvl : value.length ≤ 1000000 := by have := cutL_lens hc; omega
          have HCT := Lib.hid (fun (W : World) (hW : Env W) => cut_some hW h5b hc)
          have HVR := Lib.hid (show attrL s = match saidL value with | .error _ => none | .ok v => if value.contains 60 then none else some (n, v, rest) from by rw [HVO.out]; unfold valueOf; dsimp only; rw [if_pos HQ.out, hc])
          clear hc
          rcases hqt with ⟨q1, q2⟩ | ⟨q1, q2, q3, q4⟩
          all_goals
            go_enter Tryz.func143, Tryz.ntmps143
            go_wp2_with fail
            refine HN.out.mono ?_
            rintro e w1 ⟨rfl, k1, rfl⟩
            go_wp2_with fail
            refine (trim_h (s := s1)).mono ?_
            rintro e w2 ⟨rfl, hF2⟩
            go_wp2_with fail
            refine (HC1.out _).mono ?_
            rintro e w3 ⟨rfl, rfl⟩
            go_wp2_with fail
            refine (HT3.out _).mono ?_
            rintro e w4 ⟨rfl, hF4⟩
            have hF5 : Fr (fun _ => False) (w.alloc (.cells #[.string ⟨#[]⟩, .string ⟨#[]⟩] 64)) w4 := (((Fr.refl _ _).drewN k1).next hF2).next hF4
            have hRB := hF5.keep H0.out.2 (fun h => h)
            have HW4 := Lib.hid (And.intro (H0.out.1.next hF5) hRB)
            have c0 := cell_of hRB (i := 0) (v := _) rfl
            have c1 := cell_of hRB (i := 1) (v := _) rfl
            have f0 := free_of 0 hRB
            have f1 := free_of 1 hRB
            clear hF2 hF4 hF5 hRB
            go_wp2_with fail
            have hE4 := hE.grow HW4.out.1
            go_quiet ((go_at_call 106; exact Calls.quiet_of (HCT.out _ (hE4.grow ((Fr.refl _ _).drewN _)))))
            go_wp2_with fail
            cases hsv : saidL value with
            | error k =>
              have HAN := Lib.hid (show attrL s = none from by rw [HVR.out, hsv])
              have HSV := Lib.hid hsv
              clear hsv
              refine (said_h (hE4.grow ((Fr.refl _ _).drewN _)) value hvl).mono ?_
              rintro e w6 ⟨he, hF6⟩
              rw [HSV.out] at he
              subst he
              have hRB6 := hF6.of_start.keep HW4.out.2 (fun h => h)
              have HW6 := Lib.hid (And.intro (HW4.out.1.next hF6.of_start) hRB6)
              clear c0 c1 f0 f1 hF6
              have c0 := cell_of hRB6 (i := 0) (v := _) rfl
              have c1 := cell_of hRB6 (i := 1) (v := _) rfl
              have f0 := free_of 0 hRB6
              have f1 := free_of 1 hRB6
              clear hRB6
              go_wp2_with fail
              refine bodyPost_ret (v := .tuple #[.agg #[.string (bs n), .string (bs [])], .string (bs rest), .bool false]) (by simp [results, Tryz.results143, go_sem, c0, c1] <;> rfl) rfl (attr_post_none HAN.out ?_)
              exact (Fr.setCell (p := ⟨w.heap.size, 1, none⟩) (Fr.setCell (p := ⟨w.heap.size, 0, none⟩) HW6.out.1 (.inr (Nat.le_refl _)) _) (.inr (Nat.le_refl _)) _)
            | ok u =>
              have HSV := Lib.hid hsv
              cases hct : value.contains 60 with
              | true =>
                have HAN := Lib.hid (show attrL s = none from by rw [HVR.out, hsv]; dsimp only; rw [if_pos hct])
                have HH := Lib.hid (fun (W : World) => has_h (w := W) (s := value) 60)
                rw [hct] at HH
                clear hsv hct
                refine (said_h (hE4.grow ((Fr.refl _ _).drewN _)) value hvl).mono ?_
                rintro e w6 ⟨he, hF6⟩
                rw [HSV.out] at he
                subst he
                have hRB6 := hF6.of_start.keep HW4.out.2 (fun h => h)
                have HW6 := Lib.hid (And.intro (HW4.out.1.next hF6.of_start) hRB6)
                clear c0 c1 f0 f1 hF6
                have c0 := cell_of hRB6 (i := 0) (v := _) rfl
                have c1 := cell_of hRB6 (i := 1) (v := _) rfl
                have f0 := free_of 0 hRB6
                have f1 := free_of 1 hRB6
                clear hRB6
                go_wp2_with fail
                refine (HH.out _).mono ?_
                rintro e w7 ⟨rfl, rfl⟩
                go_wp2_with fail
                refine bodyPost_ret (v := .tuple #[.agg #[.string (bs n), .string (bs u)], .string (bs rest), .bool false]) (by simp [results, Tryz.results143, go_sem, c0, c1] <;> rfl) rfl (attr_post_none HAN.out ?_)
                exact (Fr.setCell (p := ⟨w.heap.size, 1, none⟩) (Fr.setCell (p := ⟨w.heap.size, 0, none⟩) HW6.out.1 (.inr (Nat.le_refl _)) _) (.inr (Nat.le_refl _)) _)
              | false =>
                have HAS := Lib.hid (show attrL s = some (n, u, rest) from by rw [HVR.out, hsv]; dsimp only; rw [if_neg (by rw [hct]; simp)])
                have HH := Lib.hid (fun (W : World) => has_h (w := W) (s := value) 60)
                rw [hct] at HH
                clear hsv hct
                refine (said_h (hE4.grow ((Fr.refl _ _).drewN _)) value hvl).mono ?_
                rintro e w6 ⟨he, hF6⟩
                rw [HSV.out] at he
                subst he
                have hRB6 := hF6.of_start.keep HW4.out.2 (fun h => h)
                have HW6 := Lib.hid (And.intro (HW4.out.1.next hF6.of_start) hRB6)
                clear c0 c1 f0 f1 hF6
                have c0 := cell_of hRB6 (i := 0) (v := _) rfl
                have c1 := cell_of hRB6 (i := 1) (v := _) rfl
                have f0 := free_of 0 hRB6
                have f1 := free_of 1 hRB6
                clear hRB6
                go_wp2_with fail
                refine (HH.out _).mono ?_
                rintro e w7 ⟨rfl, rfl⟩
                go_wp2_with fail
                refine bodyPost_ret (v := .tuple #[.agg #[.string (bs n), .string (bs u)], .string (bs rest), .bool true]) (by simp [results, Tryz.results143, go_sem, c0, c1] <;> rfl) rfl (attr_post_some HAS.out ?_)
                exact (Fr.setCell (p := ⟨w.heap.size, 1, none⟩) (Fr.setCell (p := ⟨w.heap.size, 0, none⟩) HW6.out.1 (.inr (Nat.le_refl _)) _) (.inr (Nat.le_refl _)) _)
      · have HAN := Lib.hid (show attrL s = none from by rw [HVO.out]; unfold valueOf; dsimp only; rw [if_neg hq])
        have q1 : ((q.toNat : Int) == 34) = false := by rw [beq_eq_false_iff_ne]; intro h; apply hq; left; have : q.toNat = 34 := by omega
                                                        exact UInt8.toNat_inj.1 this
        have q2 : ((q.toNat : Int) != 34) = true := by rw [bne, q1]; rfl
        have q3 : ((q.toNat : Int) == 39) = false := by rw [beq_eq_false_iff_ne]; intro h; apply hq; right; have : q.toNat = 39 := by omega
                                                        exact UInt8.toNat_inj.1 this
        have q4 : ((q.toNat : Int) != 39) = true := by rw [bne, q3]; rfl
        clear hq
        go_enter Tryz.func143, Tryz.ntmps143
        go_wp2_with fail
        refine HN.out.mono ?_
        rintro e w1 ⟨rfl, k1, rfl⟩
        go_wp2_with fail
        refine (trim_h (s := s1)).mono ?_
        rintro e w2 ⟨rfl, hF2⟩
        go_wp2_with fail
        refine (HC1.out _).mono ?_
        rintro e w3 ⟨rfl, rfl⟩
        go_wp2_with fail
        refine (HT3.out _).mono ?_
        rintro e w4 ⟨rfl, hF4⟩
        have hF5 : Fr (fun _ => False) (w.alloc (.cells #[.string ⟨#[]⟩, .string ⟨#[]⟩] 64)) w4 := (((Fr.refl _ _).drewN k1).next hF2).next hF4
        have hRB := hF5.keep H0.out.2 (fun h => h)
        have HW4 := Lib.hid (And.intro (H0.out.1.next hF5) hRB)
        have c0 := cell_of hRB (i := 0) (v := _) rfl
        have c1 := cell_of hRB (i := 1) (v := _) rfl
        have f0 := free_of 0 hRB
        have f1 := free_of 1 hRB
        clear hF2 hF4 hF5 hRB
        go_wp2_with fail
        refine bodyPost_ret (v := .tuple #[.agg #[.string (bs []), .string (bs [])], .string (bs []), .bool false]) (by simp [results, Tryz.results143, go_sem, c0, c1]; rfl) rfl (attr_post_none HAN.out ?_)
        exact (Fr.setCell (p := ⟨w.heap.size, 1, none⟩) (Fr.setCell (p := ⟨w.heap.size, 0, none⟩) HW4.out.1 (.inr (Nat.le_refl _)) _) (.inr (Nat.le_refl _)) _)
end Go.Proofs.YtpinjgdnhbogoaaGreatDoor
