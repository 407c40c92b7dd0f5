/- attr: an attribute taken off. -/
import Derived.Test.YtpinjgdnhbogoaaGreatDoorM8
import Derived.Outline
import Derived.Test.YtpinjgdnhbogoaaGreatDoorRow
import Derived.RegionTactic
import Derived.BigRegion
import Derived.WalkMore
import Derived.ScopeJumps
namespace Go.Proofs.YtpinjgdnhbogoaaGreatDoor
open Go.RowKit Go.Lib

def valueOf (n : Str) (x : Str) : Option (Str × Str × Str) := match x with
  | q :: s4 => if q = 34 ∨ q = 39 then
      match cutL [q] s4 with
      | none => none
      | some (value, rest) => match saidL value with
        | .error _ => none
        | .ok v => if value.contains 60 then none else some (n, v, rest)
    else none
  | [] => none
theorem attr_a {s : Str} (h : nameL s = []) : attrL s = none := by unfold attrL; rw [h]; rfl
theorem attr_b {s : Str} (h : stripL [61] (trimL (s.drop (nameL s).length)) = none) : attrL s = none := by
  unfold attrL
  split
  · rfl
  · split
    · rename_i s2 h2
      rw [h2] at h; simp [stripL, List.isPrefixOf] at h
    · rfl
theorem attr_c {s s3 : Str} (h0 : ¬ nameL s = []) (h : stripL [61] (trimL (s.drop (nameL s).length)) = some s3) : attrL s = valueOf (nameL s) (trimL s3) := by
  unfold attrL valueOf
  rw [if_neg (by simpa using h0), stripL_some h]
  rfl
def AttrPost (s : Str) (w : World) (e : Ending) (w' : World) : Prop :=
  (match attrL s with
    | some (a, v, rest) => e = .returned (.tuple #[.agg #[.string (bs a), .string (bs v)], .string (bs rest), .bool true])
    | none => ∃ a v r, e = .returned (.tuple #[.agg #[.string (bs a), .string (bs v)], .string (bs r), .bool false])) ∧ Fr (fun _ => False) w w'
theorem attr_post_none {s a v r : Str} {w w' : World} (h : attrL s = none) (hf : Fr (fun _ => False) w w') : AttrPost s w (.returned (.tuple #[.agg #[.string (bs a), .string (bs v)], .string (bs r), .bool false])) w' := by
  unfold AttrPost; rw [h]; exact ⟨⟨a, v, r, rfl⟩, hf⟩
theorem attr_post_some {s a v r : Str} {w w' : World} (h : attrL s = some (a, v, r)) (hf : Fr (fun _ => False) w w') : AttrPost s w (.returned (.tuple #[.agg #[.string (bs a), .string (bs v)], .string (bs r), .bool true])) w' := by
  unfold AttrPost; rw [h]; exact ⟨rfl, hf⟩
theorem bs_first (q : UInt8) (s : Str) : (bs (q :: s)).extract 0 1 = bs [q] := by rw [bs_take]; rfl
theorem bs_tail (q : UInt8) (s : Str) : (bs (q :: s)).extract 1 (s.length + 1) = bs s := bs_drop (q :: s) 1
set_option maxHeartbeats 8000000 in
theorem attr_h {w : World} (hE : Env w) (s : Str) (hs : s.length ≤ 1000000) : Calls Tryz.prog 143 #[.string (bs s)] w (AttrPost s w) := by
  have hF0 : Fr (fun _ => False) w (w.alloc (.cells #[.string ⟨#[]⟩, .string ⟨#[]⟩] 64)) := (Fr.refl _ _).alloc _
  have hb0 : (w.alloc (.cells #[.string ⟨#[]⟩, .string ⟨#[]⟩] 64)).heap[w.heap.size]? = some (.cells #[.string ⟨#[]⟩, .string ⟨#[]⟩] 64 (0, 0)) := block_new w _
  have HN := Lib.hid (name_h (w := w.alloc (.cells #[.string ⟨#[]⟩, .string ⟨#[]⟩] 64)) s (by omega))
  have HA := Lib.hid (attr_a (s := s))
  have HB := Lib.hid (attr_b (s := s))
  have HC := Lib.hid (fun s3 => attr_c (s := s) (s3 := s3))
  have hnl := name_le s
  obtain ⟨n, hn⟩ : ∃ n, nameL s = n := ⟨_, rfl⟩
  obtain ⟨s1, hs1⟩ : ∃ s1, s.drop n.length = s1 := ⟨_, rfl⟩
  have hl1 : s1.length ≤ 1000000 := by rw [← hs1, List.length_drop]; omega
  rw [hn] at HN HA HB HC hnl
  rw [hs1] at HN HB HC
  have ht1 := trim_le s1
  have H0 := Lib.hid (And.intro hF0 hb0)
  clear hn hs1 hF0 hb0
  have hx : stripL [61] (trimL s1) = none ∨ ∃ s3, stripL [61] (trimL s1) = some s3 := by cases stripL [61] (trimL s1) <;> simp
  rcases hx with hx | ⟨s3, hx⟩
  · have HC1 := Lib.hid (fun (W : World) => cutp_none (w := W) hx)
    have HAN := Lib.hid (HB.out hx)
    clear hx
    go_enter Tryz.func143, Tryz.ntmps143
    go_wp2_with fail
    refine HN.out.mono ?_
    rintro e w1 ⟨rfl, k1, rfl⟩
    go_wp2_with fail
    refine (trim_h (s := s1)).mono ?_
    rintro e w2 ⟨rfl, hF2⟩
    go_wp2_with fail
    refine (HC1.out _).mono ?_
    rintro e w3 ⟨rfl, rfl⟩
    go_wp2_with fail
    refine (trim_h (s := trimL s1)).mono ?_
    rintro e w4 ⟨rfl, hF4⟩
    have hF5 : Fr (fun _ => False) (w.alloc (.cells #[.string ⟨#[]⟩, .string ⟨#[]⟩] 64)) w4 := (((Fr.refl _ _).drewN k1).next hF2).next hF4
    have hRB := hF5.keep H0.out.2 (fun h => h)
    have HW4 := Lib.hid (And.intro (H0.out.1.next hF5) hRB)
    have c0 := cell_of hRB (i := 0) (v := _) rfl
    have c1 := cell_of hRB (i := 1) (v := _) rfl
    have f0 := free_of 0 hRB
    have f1 := free_of 1 hRB
    clear hF2 hF4 hF5 hRB
    have htn : (bs n).toList = [] ∨ ¬ (bs n).toList = [] := Classical.em _
    rcases htn with htn | htn
    all_goals
      go_wp2_with fail
      refine bodyPost_ret (v := .tuple #[.agg #[.string (bs []), .string (bs [])], .string (bs []), .bool false]) (by simp [results, Tryz.results143, go_sem, c0, c1]; rfl) rfl (attr_post_none HAN.out ?_)
      exact (Fr.setCell (p := ⟨w.heap.size, 1, none⟩) (Fr.setCell (p := ⟨w.heap.size, 0, none⟩) HW4.out.1 (.inr (Nat.le_refl _)) _) (.inr (Nat.le_refl _)) _)
  · have HC1 := Lib.hid (fun (W : World) => cutp_some (w := W) hx)
    have hl3 : s3.length ≤ 1000000 := by have := congrArg List.length (stripL_some hx); simp at this; omega
    have HAC := Lib.hid (fun h0 => HC.out s3 h0 hx)
    clear hx
    by_cases hn0 : n = []
    · have HAN := Lib.hid (HA.out hn0)
      have htn : (bs n).toList = [] := by rw [bs_toList]; exact hn0
      clear hn0
      go_enter Tryz.func143, Tryz.ntmps143
      go_wp2_with fail
      refine HN.out.mono ?_
      rintro e w1 ⟨rfl, k1, rfl⟩
      go_wp2_with fail
      refine (trim_h (s := s1)).mono ?_
      rintro e w2 ⟨rfl, hF2⟩
      go_wp2_with fail
      refine (HC1.out _).mono ?_
      rintro e w3 ⟨rfl, rfl⟩
      go_wp2_with fail
      refine (trim_h (s := s3)).mono ?_
      rintro e w4 ⟨rfl, hF4⟩
      have hF5 : Fr (fun _ => False) (w.alloc (.cells #[.string ⟨#[]⟩, .string ⟨#[]⟩] 64)) w4 := (((Fr.refl _ _).drewN k1).next hF2).next hF4
      have hRB := hF5.keep H0.out.2 (fun h => h)
      have HW4 := Lib.hid (And.intro (H0.out.1.next hF5) hRB)
      have c0 := cell_of hRB (i := 0) (v := _) rfl
      have c1 := cell_of hRB (i := 1) (v := _) rfl
      have f0 := free_of 0 hRB
      have f1 := free_of 1 hRB
      clear hF2 hF4 hF5 hRB
      go_wp2_with fail
      refine bodyPost_ret (v := .tuple #[.agg #[.string (bs []), .string (bs [])], .string (bs []), .bool false]) (by simp [results, Tryz.results143, go_sem, c0, c1]; rfl) rfl (attr_post_none HAN.out ?_)
      exact (Fr.setCell (p := ⟨w.heap.size, 1, none⟩) (Fr.setCell (p := ⟨w.heap.size, 0, none⟩) HW4.out.1 (.inr (Nat.le_refl _)) _) (.inr (Nat.le_refl _)) _)
    have htn : ¬ (bs n).toList = [] := by rw [bs_toList]; exact hn0
    have htn2 : (bs n).toList.isEmpty = false := by rw [bs_toList]; simpa using hn0
    have HAV := Lib.hid (HAC.out hn0)
    clear hn0
    have ht3 := trim_le s3
    obtain ⟨s4, hs4⟩ : ∃ s4, trimL s3 = s4 := ⟨_, rfl⟩
    have HT3 := Lib.hid (fun (W : World) => trim_h (w := W) (s := s3))
    rw [hs4] at HT3 HAV ht3
    clear hs4
    cases s4 with
    | nil =>
      have HAN := Lib.hid (show attrL s = none from HAV.out)
      have ht4 : (bs ([] : Str)).toList = [] := by rw [bs_toList]
      go_enter Tryz.func143, Tryz.ntmps143
      go_wp2_with fail
      refine HN.out.mono ?_
      rintro e w1 ⟨rfl, k1, rfl⟩
      go_wp2_with fail
      refine (trim_h (s := s1)).mono ?_
      rintro e w2 ⟨rfl, hF2⟩
      go_wp2_with fail
      refine (HC1.out _).mono ?_
      rintro e w3 ⟨rfl, rfl⟩
      go_wp2_with fail
      refine (HT3.out _).mono ?_
      rintro e w4 ⟨rfl, hF4⟩
      have hF5 : Fr (fun _ => False) (w.alloc (.cells #[.string ⟨#[]⟩, .string ⟨#[]⟩] 64)) w4 := (((Fr.refl _ _).drewN k1).next hF2).next hF4
      have hRB := hF5.keep H0.out.2 (fun h => h)
      have HW4 := Lib.hid (And.intro (H0.out.1.next hF5) hRB)
      have c0 := cell_of hRB (i := 0) (v := _) rfl
      have c1 := cell_of hRB (i := 1) (v := _) rfl
      have f0 := free_of 0 hRB
      have f1 := free_of 1 hRB
      clear hF2 hF4 hF5 hRB
      go_wp2_with fail
      refine bodyPost_ret (v := .tuple #[.agg #[.string (bs []), .string (bs [])], .string (bs []), .bool false]) (by simp [results, Tryz.results143, go_sem, c0, c1]; rfl) rfl (attr_post_none HAN.out ?_)
      exact (Fr.setCell (p := ⟨w.heap.size, 1, none⟩) (Fr.setCell (p := ⟨w.heap.size, 0, none⟩) HW4.out.1 (.inr (Nat.le_refl _)) _) (.inr (Nat.le_refl _)) _)
    | cons q s5 =>
      obtain ⟨s4, hs4⟩ : ∃ s4, q :: s5 = s4 := ⟨_, rfl⟩
      have hl5 : s5.length + 1 ≤ 1000000 := by simp at ht3; omega
      have h4l : s4.length = s5.length + 1 := by rw [← hs4]; rfl
      have ht4 : ¬ (bs s4).toList = [] := by rw [bs_toList, ← hs4]; simp
      have ht4' : (bs s4).toList.isEmpty = false := by rw [bs_toList, ← hs4]; rfl
      have hz4 : (bs s4).size = s5.length + 1 := h4l
      have hz : 0 < (bs s4).size := by rw [hz4]; omega
      have hg : (bs s4)[0] = q := by rw [bs_at s4 0 hz, ← hs4]; rfl
      have hx1 : (bs s4).extract 1 (s5.length + 1) = bs s5 := by rw [← hs4]; exact bs_tail q s5
      have hx2 : (bs s4).extract 0 1 = bs [q] := by rw [← hs4]; exact bs_first q s5
      have HVO := Lib.hid (show attrL s = valueOf n (q :: s5) from HAV.out)
      clear HAV
      rw [hs4] at HT3 ht3
      clear hs4 ht3 h4l
      by_cases hq : q = 34 ∨ q = 39
      · have hqt : (((q.toNat : Int) == 34) = true ∧ ((q.toNat : Int) != 34) = false) ∨ (((q.toNat : Int) == 34) = false ∧ ((q.toNat : Int) != 34) = true ∧ ((q.toNat : Int) == 39) = true ∧ ((q.toNat : Int) != 39) = false) := by
          rcases hq with rfl | rfl
          · left; decide
          · right; decide
        have HQ := Lib.hid hq
        clear hq
        have h5b : s5.length ≤ 1000000 := by omega
        cases hc : cutL [q] s5 with
        | none =>
          have HAN := Lib.hid (show attrL s = none from by rw [HVO.out]; unfold valueOf; dsimp only; rw [if_pos HQ.out, hc])
          have HCT := Lib.hid (fun (W : World) (hW : Env W) => cut_none hW h5b hc)
          clear hc
          rcases hqt with ⟨q1, q2⟩ | ⟨q1, q2, q3, q4⟩
          all_goals
            go_enter Tryz.func143, Tryz.ntmps143
            go_wp2_with fail
            refine HN.out.mono ?_
            rintro e w1 ⟨rfl, k1, rfl⟩
            go_wp2_with fail
            refine (trim_h (s := s1)).mono ?_
            rintro e w2 ⟨rfl, hF2⟩
            go_wp2_with fail
            refine (HC1.out _).mono ?_
            rintro e w3 ⟨rfl, rfl⟩
            go_wp2_with fail
            refine (HT3.out _).mono ?_
            rintro e w4 ⟨rfl, hF4⟩
            have hF5 : Fr (fun _ => False) (w.alloc (.cells #[.string ⟨#[]⟩, .string ⟨#[]⟩] 64)) w4 := (((Fr.refl _ _).drewN k1).next hF2).next hF4
            have hRB := hF5.keep H0.out.2 (fun h => h)
            have HW4 := Lib.hid (And.intro (H0.out.1.next hF5) hRB)
            have c0 := cell_of hRB (i := 0) (v := _) rfl
            have c1 := cell_of hRB (i := 1) (v := _) rfl
            have f0 := free_of 0 hRB
            have f1 := free_of 1 hRB
            clear hF2 hF4 hF5 hRB
            go_wp2_with fail
            have hE4 := hE.grow HW4.out.1
            go_quiet ((go_at_call 106; exact Calls.quiet_of (HCT.out _ (hE4.grow ((Fr.refl _ _).drewN _)))))
            go_wp2_with fail
            cases hsv : saidL s5 with
            | ok u =>
              have HSV := Lib.hid hsv
              clear hsv
              refine (said_h (hE4.grow ((Fr.refl _ _).drewN _)) s5 h5b).mono ?_
              rintro e w6 ⟨he, hF6⟩
              rw [HSV.out] at he
              subst he
              have hRB6 := hF6.of_start.keep HW4.out.2 (fun h => h)
              have HW6 := Lib.hid (And.intro (HW4.out.1.next hF6.of_start) hRB6)
              clear c0 c1 f0 f1 hF6
              have c0 := cell_of hRB6 (i := 0) (v := _) rfl
              have c1 := cell_of hRB6 (i := 1) (v := _) rfl
              have f0 := free_of 0 hRB6
              have f1 := free_of 1 hRB6
              clear hRB6
              go_wp2_with fail
              refine bodyPost_ret (v := .tuple #[.agg #[.string (bs n), .string (bs u)], .string (bs []), .bool false]) (by simp [results, Tryz.results143, go_sem, c0, c1] <;> rfl) rfl (attr_post_none HAN.out ?_)
              exact (Fr.setCell (p := ⟨w.heap.size, 1, none⟩) (Fr.setCell (p := ⟨w.heap.size, 0, none⟩) HW6.out.1 (.inr (Nat.le_refl _)) _) (.inr (Nat.le_refl _)) _)
            | error k =>
              have HSV := Lib.hid hsv
              clear hsv
              refine (said_h (hE4.grow ((Fr.refl _ _).drewN _)) s5 h5b).mono ?_
              rintro e w6 ⟨he, hF6⟩
              rw [HSV.out] at he
              subst he
              have hRB6 := hF6.of_start.keep HW4.out.2 (fun h => h)
              have HW6 := Lib.hid (And.intro (HW4.out.1.next hF6.of_start) hRB6)
              clear c0 c1 f0 f1 hF6
              have c0 := cell_of hRB6 (i := 0) (v := _) rfl
              have c1 := cell_of hRB6 (i := 1) (v := _) rfl
              have f0 := free_of 0 hRB6
              have f1 := free_of 1 hRB6
              clear hRB6
              go_wp2_with fail
              refine bodyPost_ret (v := .tuple #[.agg #[.string (bs n), .string (bs [])], .string (bs []), .bool false]) (by simp [results, Tryz.results143, go_sem, c0, c1] <;> rfl) rfl (attr_post_none HAN.out ?_)
              exact (Fr.setCell (p := ⟨w.heap.size, 1, none⟩) (Fr.setCell (p := ⟨w.heap.size, 0, none⟩) HW6.out.1 (.inr (Nat.le_refl _)) _) (.inr (Nat.le_refl _)) _)
        | some vr =>
          obtain ⟨value, rest⟩ := vr
          have hvl : value.length ≤ 1000000 := by have := cutL_lens hc; omega
          have HCT := Lib.hid (fun (W : World) (hW : Env W) => cut_some hW h5b hc)
          have HVR := Lib.hid (show attrL s = match saidL value with | .error _ => none | .ok v => if value.contains 60 then none else some (n, v, rest) from by rw [HVO.out]; unfold valueOf; dsimp only; rw [if_pos HQ.out, hc])
          clear hc
          rcases hqt with ⟨q1, q2⟩ | ⟨q1, q2, q3, q4⟩
          all_goals
            go_enter Tryz.func143, Tryz.ntmps143
            go_wp2_with fail
            refine HN.out.mono ?_
            rintro e w1 ⟨rfl, k1, rfl⟩
            go_wp2_with fail
            refine (trim_h (s := s1)).mono ?_
            rintro e w2 ⟨rfl, hF2⟩
            go_wp2_with fail
            refine (HC1.out _).mono ?_
            rintro e w3 ⟨rfl, rfl⟩
            go_wp2_with fail
            refine (HT3.out _).mono ?_
            rintro e w4 ⟨rfl, hF4⟩
            have hF5 : Fr (fun _ => False) (w.alloc (.cells #[.string ⟨#[]⟩, .string ⟨#[]⟩] 64)) w4 := (((Fr.refl _ _).drewN k1).next hF2).next hF4
            have hRB := hF5.keep H0.out.2 (fun h => h)
            have HW4 := Lib.hid (And.intro (H0.out.1.next hF5) hRB)
            have c0 := cell_of hRB (i := 0) (v := _) rfl
            have c1 := cell_of hRB (i := 1) (v := _) rfl
            have f0 := free_of 0 hRB
            have f1 := free_of 1 hRB
            clear hF2 hF4 hF5 hRB
            go_wp2_with fail
            have hE4 := hE.grow HW4.out.1
            go_quiet ((go_at_call 106; exact Calls.quiet_of (HCT.out _ (hE4.grow ((Fr.refl _ _).drewN _)))))
            go_wp2_with fail
            cases hsv : saidL value with
            | error k =>
              have HAN := Lib.hid (show attrL s = none from by rw [HVR.out, hsv])
              have HSV := Lib.hid hsv
              clear hsv
              refine (said_h (hE4.grow ((Fr.refl _ _).drewN _)) value hvl).mono ?_
              rintro e w6 ⟨he, hF6⟩
              rw [HSV.out] at he
              subst he
              have hRB6 := hF6.of_start.keep HW4.out.2 (fun h => h)
              have HW6 := Lib.hid (And.intro (HW4.out.1.next hF6.of_start) hRB6)
              clear c0 c1 f0 f1 hF6
              have c0 := cell_of hRB6 (i := 0) (v := _) rfl
              have c1 := cell_of hRB6 (i := 1) (v := _) rfl
              have f0 := free_of 0 hRB6
              have f1 := free_of 1 hRB6
              clear hRB6
              go_wp2_with fail
              refine bodyPost_ret (v := .tuple #[.agg #[.string (bs n), .string (bs [])], .string (bs rest), .bool false]) (by simp [results, Tryz.results143, go_sem, c0, c1] <;> rfl) rfl (attr_post_none HAN.out ?_)
              exact (Fr.setCell (p := ⟨w.heap.size, 1, none⟩) (Fr.setCell (p := ⟨w.heap.size, 0, none⟩) HW6.out.1 (.inr (Nat.le_refl _)) _) (.inr (Nat.le_refl _)) _)
            | ok u =>
              have HSV := Lib.hid hsv
              cases hct : value.contains 60 with
              | true =>
                have HAN := Lib.hid (show attrL s = none from by rw [HVR.out, hsv]; dsimp only; rw [if_pos hct])
                have HH := Lib.hid (fun (W : World) => has_h (w := W) (s := value) 60)
                rw [hct] at HH
                clear hsv hct
                refine (said_h (hE4.grow ((Fr.refl _ _).drewN _)) value hvl).mono ?_
                rintro e w6 ⟨he, hF6⟩
                rw [HSV.out] at he
                subst he
                have hRB6 := hF6.of_start.keep HW4.out.2 (fun h => h)
                have HW6 := Lib.hid (And.intro (HW4.out.1.next hF6.of_start) hRB6)
                clear c0 c1 f0 f1 hF6
                have c0 := cell_of hRB6 (i := 0) (v := _) rfl
                have c1 := cell_of hRB6 (i := 1) (v := _) rfl
                have f0 := free_of 0 hRB6
                have f1 := free_of 1 hRB6
                clear hRB6
                go_wp2_with fail
                refine (HH.out _).mono ?_
                rintro e w7 ⟨rfl, rfl⟩
                go_wp2_with fail
                refine bodyPost_ret (v := .tuple #[.agg #[.string (bs n), .string (bs u)], .string (bs rest), .bool false]) (by simp [results, Tryz.results143, go_sem, c0, c1] <;> rfl) rfl (attr_post_none HAN.out ?_)
                exact (Fr.setCell (p := ⟨w.heap.size, 1, none⟩) (Fr.setCell (p := ⟨w.heap.size, 0, none⟩) HW6.out.1 (.inr (Nat.le_refl _)) _) (.inr (Nat.le_refl _)) _)
              | false =>
                have HAS := Lib.hid (show attrL s = some (n, u, rest) from by rw [HVR.out, hsv]; dsimp only; rw [if_neg (by rw [hct]; simp)])
                have HH := Lib.hid (fun (W : World) => has_h (w := W) (s := value) 60)
                rw [hct] at HH
                clear hsv hct
                refine (said_h (hE4.grow ((Fr.refl _ _).drewN _)) value hvl).mono ?_
                rintro e w6 ⟨he, hF6⟩
                rw [HSV.out] at he
                subst he
                have hRB6 := hF6.of_start.keep HW4.out.2 (fun h => h)
                have HW6 := Lib.hid (And.intro (HW4.out.1.next hF6.of_start) hRB6)
                clear c0 c1 f0 f1 hF6
                have c0 := cell_of hRB6 (i := 0) (v := _) rfl
                have c1 := cell_of hRB6 (i := 1) (v := _) rfl
                have f0 := free_of 0 hRB6
                have f1 := free_of 1 hRB6
                clear hRB6
                go_wp2_with fail
                refine (HH.out _).mono ?_
                rintro e w7 ⟨rfl, rfl⟩
                go_wp2_with fail
                refine bodyPost_ret (v := .tuple #[.agg #[.string (bs n), .string (bs u)], .string (bs rest), .bool true]) (by simp [results, Tryz.results143, go_sem, c0, c1] <;> rfl) rfl (attr_post_some HAS.out ?_)
                exact (Fr.setCell (p := ⟨w.heap.size, 1, none⟩) (Fr.setCell (p := ⟨w.heap.size, 0, none⟩) HW6.out.1 (.inr (Nat.le_refl _)) _) (.inr (Nat.le_refl _)) _)
      · have HAN := Lib.hid (show attrL s = none from by rw [HVO.out]; unfold valueOf; dsimp only; rw [if_neg hq])
        have q1 : ((q.toNat : Int) == 34) = false := by rw [beq_eq_false_iff_ne]; intro h; apply hq; left; have : q.toNat = 34 := by omega
                                                        exact UInt8.toNat_inj.1 this
        have q2 : ((q.toNat : Int) != 34) = true := by rw [bne, q1]; rfl
        have q3 : ((q.toNat : Int) == 39) = false := by rw [beq_eq_false_iff_ne]; intro h; apply hq; right; have : q.toNat = 39 := by omega
                                                        exact UInt8.toNat_inj.1 this
        have q4 : ((q.toNat : Int) != 39) = true := by rw [bne, q3]; rfl
        clear hq
        go_enter Tryz.func143, Tryz.ntmps143
        go_wp2_with fail
        refine HN.out.mono ?_
        rintro e w1 ⟨rfl, k1, rfl⟩
        go_wp2_with fail
        refine (trim_h (s := s1)).mono ?_
        rintro e w2 ⟨rfl, hF2⟩
        go_wp2_with fail
        refine (HC1.out _).mono ?_
        rintro e w3 ⟨rfl, rfl⟩
        go_wp2_with fail
        refine (HT3.out _).mono ?_
        rintro e w4 ⟨rfl, hF4⟩
        have hF5 : Fr (fun _ => False) (w.alloc (.cells #[.string ⟨#[]⟩, .string ⟨#[]⟩] 64)) w4 := (((Fr.refl _ _).drewN k1).next hF2).next hF4
        have hRB := hF5.keep H0.out.2 (fun h => h)
        have HW4 := Lib.hid (And.intro (H0.out.1.next hF5) hRB)
        have c0 := cell_of hRB (i := 0) (v := _) rfl
        have c1 := cell_of hRB (i := 1) (v := _) rfl
        have f0 := free_of 0 hRB
        have f1 := free_of 1 hRB
        clear hF2 hF4 hF5 hRB
        go_wp2_with fail
        refine bodyPost_ret (v := .tuple #[.agg #[.string (bs []), .string (bs [])], .string (bs []), .bool false]) (by simp [results, Tryz.results143, go_sem, c0, c1]; rfl) rfl (attr_post_none HAN.out ?_)
        exact (Fr.setCell (p := ⟨w.heap.size, 1, none⟩) (Fr.setCell (p := ⟨w.heap.size, 0, none⟩) HW4.out.1 (.inr (Nat.le_refl _)) _) (.inr (Nat.le_refl _)) _)
end Go.Proofs.YtpinjgdnhbogoaaGreatDoor

/- slices.ContainsFunc over attributes, with the closure of tag. -/
namespace Go.Proofs.YtpinjgdnhbogoaaGreatDoor
open Go.RowKit Go.Lib

def acells (l : List (Str × Str)) : List Value := l.flatMap fun a => [.string (bs a.1), .string (bs a.2)]
theorem acells_app (a b : List (Str × Str)) : acells a ++ acells b = acells (a ++ b) := List.flatMap_append.symm
theorem acells_at : ∀ {l : List (Str × Str)} {k : Nat} {a : Str × Str}, l[k]? = some a → (acells l)[k * 2]? = some (.string (bs a.1)) ∧ (acells l)[k * 2 + 1]? = some (.string (bs a.2))
  | [], _, _, h => by simp at h
  | x :: l, 0, a, h => by
    obtain rfl := Option.some.inj (show some x = some a from h)
    exact ⟨rfl, rfl⟩
  | x :: l, k + 1, a, h => by
    have := acells_at (l := l) (k := k) (a := a) (by simpa using h)
    rw [show (k + 1) * 2 = k * 2 + 2 by omega]
    exact this
theorem acells_one {l : List (Str × Str)} : ∀ u ∈ acells l, u.oneCell' = true := by
  intro u hu
  obtain ⟨a, _, ha⟩ := List.mem_flatMap.1 hu
  simp at ha
  rcases ha with rfl | rfl <;> rfl
section
variable {w : World} {S : Nat → Prop} {v : Value} {l : List (Str × Str)}
theorem bs_eqv (a b : Str) : ((bs a).toList == (bs b).toList) = (a == b) := by rw [bs_toList, bs_toList]
theorem bs_inj {a b : Str} (h : bs a = bs b) : a = b := by rw [← bs_data a, h, bs_data]
theorem tagf_h {ab : Nat} {a b : Str} (hb : w.heap[ab]? = some (.cells #[.string (bs a), .string (bs b)] 64 (0, 0))) (x y : Str) :
    Calls Tryz.prog 145 #[.agg #[.string (bs x), .string (bs y)], .pointer (some ⟨ab, 0, none⟩)] w fun e w' => e = .returned (.bool (x == a)) ∧ Fr (fun _ => False) w w' := by
  have hF : Fr (fun _ => False) w (w.alloc (.cells #[.string (bs x), .string (bs y)] 64)) := (Fr.refl _ _).alloc _
  have hb2 := hF.keep hb (fun h => h)
  have c0 := cell_of hb2 (i := 0) (v := _) rfl
  have HE := Lib.hid (bs_eqv x a)
  have HF := Lib.hid hF
  clear hF
  go_enter Tryz.func145, Tryz.ntmps145
  go_wp2_with fail
  go_ret
  exact ⟨by rw [← HE.out] <;> rfl, HF.out⟩
def IdxAPost (l : List (Str × Str)) (a : Str) (w : World) (e : Ending) (w' : World) : Prop :=
  (∃ r : Int, e = .returned (.int .i64 r) ∧ decide (0 ≤ r) = l.any (fun b => b.1 == a)) ∧ Fr (fun _ => False) w w'
set_option maxHeartbeats 2000000 in
theorem idxa_h (ha : SRow w S 2 v l.length (acells l)) (hl : l.length < 1000000) {ab : Nat} {a b : Str} (hb : w.heap[ab]? = some (.cells #[.string (bs a), .string (bs b)] 64 (0, 0))) :
    Calls Tryz.prog 168 #[v, .func (.func 145) #[] #[.pointer (some ⟨ab, 0, none⟩)]] w (IdxAPost l a w) := by
  have HS := Lib.hid ha
  have HB := Lib.hid hb
  obtain ⟨_, p, cap, rfl, hnc, hcm, h5, h6⟩ := ha
  clear hb h6 h5
  go_enter Tryz.func168, Tryz.ntmps168
  go_wp2_with fail
  go_loopg [8] (l.length) (fun j u wr => ∃ k : Nat, k + j = l.length ∧ u = .int .i64 k ∧ (∀ i x, i < k → l[i]? = some x → (x.1 == a) = false) ∧ Fr (fun _ => False) w wr)
  case atStart => exact ⟨0, by omega, rfl, fun i x h => by omega, Fr.refl _ _⟩
  case round =>
    obtain ⟨k, hk, rfl, ht, hf⟩ := hrel
    have HK := Lib.hid (And.intro hk (And.intro ht hf))
    clear hk ht
    have hs2 := HS.out.fr hf (fun _ _ h => h)
    have hb2 := hf.keep HB.out (fun h => h)
    clear hf
    by_cases hlt : k < l.length
    · obtain ⟨g, off, rfl, hc⟩ := hs2.cell (by omega)
      obtain ⟨q, hq⟩ : ∃ p, l[k]? = some p := ⟨_, List.getElem?_eq_getElem hlt⟩
      obtain ⟨k0, k1⟩ := acells_at hq
      have c0 := hc _ _ k0
      have c1 := hc _ _ k1
      rw [← Nat.add_assoc] at c1
      have HP := Lib.hid hq
      have HT := Lib.hid (tagf_h hb2 q.1 q.2)
      clear hc hq k0 k1 hb2 hs2
      go_wp2_with fail
      refine Calls.mono HT.out ?_
      rintro e w' ⟨rfl, hf2⟩
      have HF2 := Lib.hid (HK.out.2.2.next hf2)
      clear hf2
      cases hB : q.1 == a with
      | true =>
        have HQ := Lib.hid hB
        clear hB
        go_wp2_with fail
        go_ret
        refine ⟨⟨k, rfl, ?_⟩, HF2.out⟩
        have : l.any (fun b => b.1 == a) = true := by rw [List.any_eq_true]; exact ⟨q, List.mem_of_getElem? HP.out, HQ.out⟩
        rw [this]; simp
      | false =>
        have HQ := Lib.hid hB
        clear hB
        go_wp2_with fail
        go_roundg (l.length - (k + 1))
        case measure => have := HK.out.1; omega
        case rel =>
          refine ⟨k + 1, by omega, by go_num, fun i x hi hx => ?_, HF2.out⟩
          by_cases hik : i = k
          · subst hik; rw [HP.out] at hx; obtain rfl := Option.some.inj hx; exact HQ.out
          · exact HK.out.2.1 i x (by omega) hx
    · clear hs2 hb2
      go_wp2_with fail
      go_ret
      refine ⟨⟨-1, rfl, ?_⟩, HK.out.2.2⟩
      have : l.any (fun b => b.1 == a) = false := by
        rw [List.any_eq_false]
        intro x hx
        obtain ⟨i, hi⟩ := List.getElem?_of_mem hx
        rw [HK.out.2.1 i x (by have := (List.getElem?_eq_some_iff.1 hi).1; omega) hi]; simp
      rw [this]; rfl
theorem hasa_h (ha : SRow w S 2 v l.length (acells l)) (hl : l.length < 1000000) {ab : Nat} {a b : Str} (hb : w.heap[ab]? = some (.cells #[.string (bs a), .string (bs b)] 64 (0, 0))) :
    Calls Tryz.prog 144 #[v, .func (.func 145) #[] #[.pointer (some ⟨ab, 0, none⟩)]] w fun e w' => e = .returned (.bool (l.any (fun b => b.1 == a))) ∧ Fr (fun _ => False) w w' := by
  have H := Lib.hid (idxa_h ha hl hb)
  clear ha hb
  go_enter Tryz.func144, Tryz.ntmps144
  go_wp2_with fail
  refine Calls.mono H.out ?_
  rintro e w' ⟨⟨r, rfl, hr⟩, hf⟩
  have HD := Lib.hid hr
  have HF := Lib.hid hf
  clear hr hf
  go_wp2_with fail
  go_ret
  exact ⟨by rw [← HD.out] <;> rfl, HF.out⟩
end
/-! ### tokens in memory -/
def tc (p : TokD × Value) : List Value := [.int .i64 p.1.kind, .string (bs p.1.name), p.2, .string (bs p.1.text)]
def tcells (ps : List (TokD × Value)) : List Value := ps.flatMap tc
theorem tcells_app (a b : List (TokD × Value)) : tcells a ++ tcells b = tcells (a ++ b) := List.flatMap_append.symm
/-- v is a slice of one's own that holds the tokens l; their attributes lie in rows of one's own, too -/
def Toks (B : Nat) (w : World) (v : Value) (l : List TokD) : Prop :=
  ∃ ps : List (TokD × Value), ps.map Prod.fst = l ∧ w.ownsRow B 54 4 v ps.length (tcells ps) ∧ ∀ p ∈ ps, w.ownsRow B 64 2 p.2 p.1.attrs.length (acells p.1.attrs)
theorem ownsRow_fr {w w' : World} {B e size n : Nat} {v : Value} {xs : List Value} (h : w.ownsRow B e size v n xs) (hf : Fr (fun _ => False) w w') : w'.ownsRow B e size v n xs :=
  ownsRow_keep h fun k hk => hf.block k (h.lt k hk).2 (fun h => h)
theorem Toks.fr {B : Nat} {w w' : World} {v : Value} {l : List TokD} (h : Toks B w v l) (hf : Fr (fun _ => False) w w') : Toks B w' v l := by
  obtain ⟨ps, h1, h2, h3⟩ := h
  exact ⟨ps, h1, ownsRow_fr h2 hf, fun p hp => ownsRow_fr (h3 p hp) hf⟩
theorem ownsRow_others {w w' : World} {B e size n b : Nat} {v : Value} {xs : List Value} (h : w.ownsRow B e size v n xs) (hk : Lib.OthersKept 5 (some b) w w') (_hs : w.heap.size ≤ w'.heap.size) (he : e ≠ 5) (hb : ∃ c T f, w.heap[b]? = some (.cells c T f) ∧ T ≠ e) : w'.ownsRow B e size v n xs := by
  refine ⟨h.1, ?_⟩
  rcases h.2 with h2 | ⟨g, cap, cur, hv, hg, hh, r⟩
  · exact .inl h2
  · refine .inr ⟨g, cap, cur, hv, hg, hk g _ hh ?_ ?_, r⟩
    · intro e1
      obtain rfl := Option.some.inj e1
      obtain ⟨c, T, f, h1, h2⟩ := hb
      rw [hh] at h1
      injection h1 with h1; injection h1 with _ h1
      exact h2 h1.symm
    · intro c fz e1; injection e1 with _ e1; exact he e1
theorem Toks.others {B b : Nat} {w w' : World} {v : Value} {l : List TokD} (h : Toks B w v l) (hk : Lib.OthersKept 5 (some b) w w') (hs : w.heap.size ≤ w'.heap.size) (hb : ∃ c f, w.heap[b]? = some (.cells c 115 f)) : Toks B w' v l := by
  obtain ⟨ps, h1, h2, h3⟩ := h
  obtain ⟨c, f, hb⟩ := hb
  exact ⟨ps, h1, ownsRow_others h2 hk hs (by decide) ⟨c, 115, f, hb, by decide⟩, fun p hp => ownsRow_others (h3 p hp) hk hs (by decide) ⟨c, 115, f, hb, by decide⟩⟩
theorem Toks.nil (B : Nat) (w : World) : Toks B w (.slice none 0 0) [] := ⟨[], rfl, World.ownsRow_nil _ _ _ _, fun _ h => by cases h⟩
theorem Toks.base {B B2 : Nat} {w : World} {v : Value} {l : List TokD} (h : Toks B w v l) (hb : B2 ≤ B) : Toks B2 w v l := by
  obtain ⟨ps, h1, h2, h3⟩ := h
  exact ⟨ps, h1, ownsRow_base h2 hb, fun p hp => ownsRow_base (h3 p hp) hb⟩
theorem Toks.shape {B : Nat} {w : World} {v : Value} {l : List TokD} (h : Toks B w v l) : ∃ a cap, v = .slice a l.length cap := by
  obtain ⟨ps, h1, h2, _⟩ := h
  rw [← h1, List.length_map]
  rcases h2.2 with ⟨rfl, h3⟩ | ⟨g, cap, cur, rfl, _⟩
  · exact ⟨none, 0, by rw [h3]⟩
  · exact ⟨_, _, rfl⟩
end Go.Proofs.YtpinjgdnhbogoaaGreatDoor

/- tag: an open tag taken off. -/
namespace Go.Proofs.YtpinjgdnhbogoaaGreatDoor
open Go.RowKit Go.Lib

theorem info64 : (Tryz.prog.info? 64).map (fun i => (i.zero, i.size, i.bytes)) = some (some (.agg #[.string ⟨#[]⟩, .string ⟨#[]⟩]), 2, 32) := by kernel_rfl
def attrNext (l : List (Str × Str)) (r : Str) : Option (List (Str × Str) × Bool × Str) := match attrL r with
  | none => none
  | some (a, v, left) => if (l.any fun b => b.1 == a) = true then none else attrsL (l ++ [(a, v)]) left
theorem next_none {l : List (Str × Str)} {r : Str} (h : attrL r = none) : attrNext l r = none := by unfold attrNext; rw [h]
theorem next_dup {l : List (Str × Str)} {r a v left : Str} (h : attrL r = some (a, v, left)) (hd : (l.any fun b => b.1 == a) = true) : attrNext l r = none := by
  unfold attrNext; rw [h]; dsimp only; rw [if_pos hd]
theorem next_new {l : List (Str × Str)} {r a v left : Str} (h : attrL r = some (a, v, left)) (hd : (l.any fun b => b.1 == a) = false) : attrNext l r = attrsL (l ++ [(a, v)]) left := by
  unfold attrNext; rw [h]; dsimp only; rw [if_neg (by rw [hd]; simp)]
structure TagIn (w : World) (tb : Nat) (n : Str) (s1 cur : Str) (l : List (Str × Str)) (av : Value) (wr : World) : Prop where
  eq : attrsL [] s1 = attrsL l cur
  len : l.length + cur.length ≤ s1.length
  blk : wr.heap[tb]? = some (.cells #[.int .i64 1, .string (bs n), av, .string ⟨#[]⟩] 54 (0, 0))
  row : wr.ownsRow w.heap.size 64 2 av l.length (acells l)
  fr : Fr (fun _ => False) w wr
  low : w.heap.size ≤ tb
def TagPost (s : Str) (w : World) (e : Ending) (w' : World) : Prop :=
  (match tagL s with
    | some (l, rest) => ∃ v, e = .returned (.tuple #[v, .string (bs rest), .bool true]) ∧ Toks w.heap.size w' v l
    | none => e = .returned (.tuple #[.slice none 0 0, .string ⟨#[]⟩, .bool false])) ∧ Fr (fun _ => False) w w'
theorem TagIn.fr2 {w wr w2 : World} {tb : Nat} {n s1 cur : Str} {l : List (Str × Str)} {av : Value} (h : TagIn w tb n s1 cur l av wr) (hf : Fr (fun _ => False) wr w2) : TagIn w tb n s1 cur l av w2 :=
  ⟨h.eq, h.len, hf.keep h.blk (fun h => h), ownsRow_fr h.row hf, h.fr.next hf, h.low⟩
theorem own_ne {w : World} {base e T size n b : Nat} {v : Value} {xs : List Value} {c : Array Value} {f : Nat × Nat} (h : w.ownsRow base e size v n xs) (hb : w.heap[b]? = some (.cells c T f)) (hT : T ≠ e) : v.ownBlock ≠ some b := by
  rcases h.2 with ⟨rfl, _⟩ | ⟨g, cap, cur, rfl, _, hg, _⟩
  · simp [Value.ownBlock]
  · intro h2
    simp only [Value.ownBlock, Option.some.injEq] at h2
    subst h2
    rw [hg] at hb
    simp only [Option.some.injEq, Obj.cells.injEq] at hb
    exact hT hb.2.1.symm
theorem TagIn.next {w w6 w7 : World} {tb : Nat} {n s1 cur left a v : Str} {l : List (Str × Str)} {av : Value} {b : Option Addr} {cap : Nat} (h : TagIn w tb n s1 cur l av w6) (hg : w6.grownBy w7 av.ownBlock) (hr : w7.ownsRow w.heap.size 64 2 (.slice b (l.length + 1) cap) (l.length + 1) (acells l ++ [.string (bs a), .string (bs v)])) (he : attrsL [] s1 = attrsL (l ++ [(a, v)]) left) (hl : left.length < cur.length) :
    w7.heap[tb]? = some (.cells #[.int .i64 1, .string (bs n), av, .string ⟨#[]⟩] 54 (0, 0)) ∧ TagIn w tb n s1 left (l ++ [(a, v)]) (.slice b (l.length + 1) cap) (w7.setCell ⟨tb, 2, none⟩ (.slice b (l.length + 1) cap)) := by
  have hb7 := block_grown h.blk hg (fun e => own_ne h.row h.blk (by decide) e.symm)
  have hne := own_ne hr hb7 (by decide)
  have hF : Fr (fun _ => False) w w7 := h.fr.grown hg fun k hk => .inr (h.row.lt k hk).1
  have e2 : (l ++ [(a, v)]).length = l.length + 1 := by simp
  refine ⟨hb7, ⟨he, by rw [e2]; have := h.len; omega, block_set hb7 2 _, ?_, Fr.setCell (p := ⟨tb, 2, none⟩) hF (.inr h.low) _, h.low⟩⟩
  rw [e2, ← acells_app]
  exact ownsRow_keep hr fun k hk => block_set_ne (fun e => hne (by rw [hk, e]))
theorem row_two {W : World} {B : Nat} {n : Str} {av : Value} {l : List (Str × Str)} (h : W.ownsRow B 64 2 av l.length (acells l)) (hB : B ≤ W.heap.size) :
    Toks B (W.alloc (.cells #[.int .i64 1, .string (bs n), av, .string ⟨#[]⟩, .int .i64 2, .string (bs n), .slice none 0 0, .string ⟨#[]⟩] 54)) (.slice (some ⟨W.heap.size, 0, none⟩) 2 2) [⟨1, n, l, []⟩, ⟨2, n, [], []⟩] := by
  refine ⟨[(⟨1, n, l, []⟩, av), (⟨2, n, [], []⟩, .slice none 0 0)], rfl, ⟨rfl, .inr ⟨_, 2, _, rfl, hB, block_new _ _, by simp, by unfold maxLen; omega, rfl, rfl⟩⟩, fun p hp => ?_⟩
  have hF : Fr (fun _ => False) W (W.alloc (.cells #[.int .i64 1, .string (bs n), av, .string ⟨#[]⟩, .int .i64 2, .string (bs n), .slice none 0 0, .string ⟨#[]⟩] 54)) := (Fr.refl _ _).alloc _
  simp at hp
  rcases hp with rfl | rfl
  · exact ownsRow_fr h hF
  · exact World.ownsRow_nil _ _ _ _
theorem row_one {W : World} {B : Nat} {k : Int} {n tx : Str} {av : Value} {l : List (Str × Str)} (h : W.ownsRow B 64 2 av l.length (acells l)) (hB : B ≤ W.heap.size) :
    Toks B (W.alloc (.cells #[.int .i64 k, .string (bs n), av, .string (bs tx)] 54)) (.slice (some ⟨W.heap.size, 0, none⟩) 1 1) [⟨k, n, l, tx⟩] := by
  refine ⟨[(⟨k, n, l, tx⟩, av)], rfl, ⟨rfl, .inr ⟨_, 1, _, rfl, hB, block_new _ _, by simp, by unfold maxLen; omega, rfl, rfl⟩⟩, fun p hp => ?_⟩
  have hF : Fr (fun _ => False) W (W.alloc (.cells #[.int .i64 k, .string (bs n), av, .string (bs tx)] 54)) := (Fr.refl _ _).alloc _
  simp at hp
  subst hp
  exact ownsRow_fr h hF
set_option maxRecDepth 100000 in
set_option maxHeartbeats 8000000 in
theorem tag_h {w : World} (hE : Env w) (s : Str) (hs : s.length ≤ 1000000) : Calls Tryz.prog 113 #[.string (bs s)] w (TagPost s w) := by
  have HN := Lib.hid (name_h (w := w) s (by omega))
  have hnl := name_le s
  obtain ⟨n, hn⟩ : ∃ n, nameL s = n := ⟨_, rfl⟩
  obtain ⟨s1, hs1⟩ : ∃ s1, s.drop n.length = s1 := ⟨_, rfl⟩
  have hl1 : s1.length ≤ 1000000 := by rw [← hs1, List.length_drop]; omega
  rw [hn] at HN hnl
  rw [hs1] at HN
  have HNS := Lib.hid (And.intro hn hs1)
  clear hn hs1
  by_cases hn0 : n = []
  · have HT := Lib.hid (show tagL s = none from by unfold tagL; rw [HNS.out.1, hn0]; rfl)
    have htn : (bs n).toList = [] := by rw [bs_toList]; exact hn0
    clear hn0
    go_enter Tryz.func113, Tryz.ntmps113
    go_wp2_with fail
    go_step3
    go_wp2_with fail
    refine HN.out.mono ?_
    rintro e w1 ⟨rfl, k1, rfl⟩
    go_wp2_with fail
    (try rw [Exit.noGoto_ret])
    go_ret3
    refine ⟨?_, (Fr.refl _ _).drewN k1⟩
    rw [HT.out]; rfl
  have HT := Lib.hid (show tagL s = match attrsL [] s1 with | none => none | some (l, true, rest) => some ([⟨1, n, l, []⟩, ⟨2, n, [], []⟩], rest) | some (l, false, rest) => some ([⟨1, n, l, []⟩], rest) from by
    unfold tagL; rw [HNS.out.1, if_neg (by simpa using hn0), HNS.out.2, attrsL_eq (by rw [← HNS.out.2, List.length_drop]; omega)]; rfl)
  have htn : ¬ (bs n).toList = [] := by rw [bs_toList]; exact hn0
  have htn2 : (bs n).toList.isEmpty = false := by rw [bs_toList]; simpa using hn0
  clear hn0
  go_enter Tryz.func113, Tryz.ntmps113
  go_wp2_with fail
  go_step3
  go_wp2_with fail
  refine HN.out.mono ?_
  rintro e w1 ⟨rfl, k1, hw1⟩
  have HF1 := Lib.hid (show Fr (fun _ => False) w w1 from by rw [hw1]; exact (Fr.refl _ _).drewN k1)
  clear hw1
  go_wp2_with fail
  go_step3
  go_wp2_with fail
  have HI0 := Lib.hid (show TagIn w w1.heap.size n s1 s1 [] (.slice none 0 0) (w1.alloc (.cells #[.int .i64 1, .string (bs n), .slice none 0 0, .string ⟨#[]⟩] 54)) from
    ⟨rfl, by simp, block_new _ _, World.ownsRow_nil _ _ _ _, HF1.out.alloc _, HF1.out.size⟩)
  go_loopg [0] s1.length (fun j v wr => ∃ cur l av, j = cur.length ∧ v = .string (bs cur) ∧ TagIn w w1.heap.size n s1 cur l av wr)
  case atStart => exact ⟨s1, [], _, rfl, rfl, HI0.out⟩
  case round =>
    obtain ⟨cur, l, av, hj, rfl, hI⟩ := hrel
    have hcl := hI.len
    have HI := Lib.hid (And.intro hj hI)
    clear hj hI HI0
    have htl := trim_le cur
    obtain ⟨r, hr⟩ : ∃ r, trimL cur = r := ⟨_, rfl⟩
    have HTR := Lib.hid (fun (W : World) => trim_h (w := W) (s := cur))
    rw [hr] at HTR htl
    have HST := Lib.hid (attrsL_step l cur)
    rw [hr] at HST
    clear hr
    have hrz : (bs r).size = r.length := rfl
    have hcz : (bs cur).size = cur.length := rfl
    cases hp : ([47, 62] : Str).isPrefixOf r with
    | true =>
      have HP1 := Lib.hid (fun (W : World) => hasp_h (w := W) (s := r) (p := [47, 62]))
      rw [hp] at HP1
      have hr2 : 2 ≤ r.length := by
        have := (List.isPrefixOf_iff_prefix.1 hp).length_le; simpa using this
      have HRES := Lib.hid (show tagL s = some ([⟨1, n, l, []⟩, ⟨2, n, [], []⟩], r.drop 2) from by rw [HT.out, HI.out.2.eq, HST.out, if_pos hp])
      have hx := bs_drop r 2
      clear hp
      go_wp2_with fail
      refine (HTR.out _).mono ?_
      rintro e w2 ⟨rfl, hF2⟩
      have HI2 := Lib.hid (HI.out.2.fr2 hF2)
      have hblk := HI2.out.blk
      have c0 := cell_of hblk (i := 0) (v := _) rfl
      have c1 := cell_of hblk (i := 1) (v := _) rfl
      have c2 := cell_of hblk (i := 2) (v := _) rfl
      have c3 := cell_of hblk (i := 3) (v := _) rfl
      clear hF2 hblk
      go_wp2_with fail
      refine (HP1.out _).mono ?_
      rintro e w3 ⟨rfl, rfl⟩
      go_wp2_with fail
      go_region
      go_wp2_with fail
      rw [Exit.noGoto_ret]
      go_ret3
      refine ⟨?_, ?_⟩
      · rw [HRES.out]
        exact ⟨_, rfl, row_two HI2.out.row HI2.out.fr.size⟩
      · exact (HI2.out.fr.alloc _).drew
    | false =>
      have HP1 := Lib.hid (fun (W : World) => hasp_h (w := W) (s := r) (p := [47, 62]))
      rw [hp] at HP1
      cases hp2 : ([62] : Str).isPrefixOf r with
      | true =>
        have HP2 := Lib.hid (fun (W : World) => hasp_h (w := W) (s := r) (p := [62]))
        rw [hp2] at HP2
        have hr2 : 1 ≤ r.length := by
          have := (List.isPrefixOf_iff_prefix.1 hp2).length_le; simpa using this
        have HRES := Lib.hid (show tagL s = some ([⟨1, n, l, []⟩], r.tail) from by rw [HT.out, HI.out.2.eq, HST.out, if_neg (by rw [hp]; simp), if_pos hp2, List.drop_one])
        have hx := bs_drop r 1
        rw [List.drop_one] at hx
        clear hp hp2
        go_wp2_with fail
        refine (HTR.out _).mono ?_
        rintro e w2 ⟨rfl, hF2⟩
        have HI2 := Lib.hid (HI.out.2.fr2 hF2)
        have hblk := HI2.out.blk
        have c0 := cell_of hblk (i := 0) (v := _) rfl
        have c1 := cell_of hblk (i := 1) (v := _) rfl
        have c2 := cell_of hblk (i := 2) (v := _) rfl
        have c3 := cell_of hblk (i := 3) (v := _) rfl
        clear hF2 hblk
        go_wp2_with fail
        refine (HP1.out _).mono ?_
        rintro e w3 ⟨rfl, rfl⟩
        go_wp2_with fail
        refine (HP2.out _).mono ?_
        rintro e w3 ⟨rfl, rfl⟩
        go_wp2_with fail
        go_region
        go_wp2_with fail
        rw [Exit.noGoto_ret]
        go_ret3
        refine ⟨?_, ?_⟩
        · rw [HRES.out]
          exact ⟨_, rfl, row_one (k := 1) (tx := []) HI2.out.row HI2.out.fr.size⟩
        · exact (HI2.out.fr.alloc _).drew
      | false =>
        have HP2 := Lib.hid (fun (W : World) => hasp_h (w := W) (s := r) (p := [62]))
        rw [hp2] at HP2
        by_cases hlen : r.length = cur.length
        · have HRES := Lib.hid (show tagL s = none from by rw [HT.out, HI.out.2.eq, HST.out, if_neg (by rw [hp]; simp), if_neg (by rw [hp2]; simp), if_pos hlen])
          have hle : decide (r.length = cur.length) = true := by rw [decide_eq_true_iff]; exact hlen
          have hle2 : ((r.length : Int) == (cur.length : Int)) = true := by rw [beq_iff_eq]; omega
          clear hp hp2 hlen
          go_wp2_with fail
          refine (HTR.out _).mono ?_
          rintro e w2 ⟨rfl, hF2⟩
          have HI2 := Lib.hid (HI.out.2.fr2 hF2)
          clear hF2
          go_wp2_with fail
          refine (HP1.out _).mono ?_
          rintro e w3 ⟨rfl, rfl⟩
          go_wp2_with fail
          refine (HP2.out _).mono ?_
          rintro e w3 ⟨rfl, rfl⟩
          go_wp2_with fail
          rw [Exit.noGoto_ret]
          go_ret3
          exact ⟨by rw [HRES.out] <;> rfl, HI2.out.fr⟩
        have hle : ((r.length : Int) == (cur.length : Int)) = false := by rw [beq_eq_false_iff_ne]; omega
        have hle3 : decide (r.length = cur.length) = false := by rw [decide_eq_false_iff_not]; exact hlen
        have HST2 := Lib.hid (show attrsL [] s1 = attrNext l r from by
          rw [HI.out.2.eq, HST.out, if_neg (by rw [hp]; simp), if_neg (by rw [hp2]; simp), if_neg hlen]; rfl)
        have hrl : r.length ≤ 1000000 := by omega
        have HAT := Lib.hid (fun (W : World) (hW : Env W) => attr_h hW r hrl)
        have hlt : r.length < cur.length := by omega
        clear hp hp2 hlen
        have hmf : ∀ (fn : Fn) (first cap : Array Value) (w : World), (Instr.makeFunc fn first cap).run Tryz.prog w = .ok (.func fn first cap) w := fun _ _ _ _ => rfl
        cases hat : attrL r with
        | none =>
          have HRES := Lib.hid (show tagL s = none from by rw [HT.out, HST2.out, next_none hat])
          have HA := Lib.hid hat
          clear hat
          go_wp2_with fail
          refine (HTR.out _).mono ?_
          rintro e w2 ⟨rfl, hF2⟩
          have HI2 := Lib.hid (HI.out.2.fr2 hF2)
          clear hF2
          go_wp2_with fail
          refine (HP1.out _).mono ?_
          rintro e w3 ⟨rfl, rfl⟩
          go_wp2_with fail
          refine (HP2.out _).mono ?_
          rintro e w3 ⟨rfl, rfl⟩
          go_wp2_with fail
          refine (HAT.out _ (hE.grow HI2.out.fr)).mono ?_
          rintro e w4 ⟨he, hF4⟩
          rw [HA.out] at he
          obtain ⟨a, v, r', rfl⟩ := he
          have HI4 := Lib.hid (HI2.out.fr2 hF4)
          clear hF4
          go_wp2_with fail
          rw [Exit.noGoto_ret]
          go_ret3
          exact ⟨by rw [HRES.out] <;> rfl, HI4.out.fr.alloc _⟩
        | some avl =>
          obtain ⟨a, v, left⟩ := avl
          have HA := Lib.hid hat
          have hleft := attrL_len hat
          clear hat
          cases hdup : (l.any fun b => b.1 == a) with
          | true =>
            have HRES := Lib.hid (show tagL s = none from by rw [HT.out, HST2.out, next_dup HA.out hdup])
            have HD := Lib.hid hdup
            clear hdup
            go_wp2_with fail
            refine (HTR.out _).mono ?_
            rintro e w2 ⟨rfl, hF2⟩
            have HI2 := Lib.hid (HI.out.2.fr2 hF2)
            clear hF2
            go_wp2_with fail
            refine (HP1.out _).mono ?_
            rintro e w3 ⟨rfl, rfl⟩
            go_wp2_with fail
            refine (HP2.out _).mono ?_
            rintro e w3 ⟨rfl, rfl⟩
            go_wp2_with fail
            refine (HAT.out _ (hE.grow HI2.out.fr)).mono ?_
            rintro e w4 ⟨he, hF4⟩
            rw [HA.out] at he
            subst he
            have HI5 := Lib.hid ((HI2.out.fr2 hF4).fr2 ((Fr.refl _ _).alloc (.cells #[.string (bs a), .string (bs v)] 64)))
            have hab : (w4.alloc (.cells #[.string (bs a), .string (bs v)] 64)).heap[w4.heap.size]? = some (.cells #[.string (bs a), .string (bs v)] 64 (0, 0)) := block_new _ _
            have c2 := cell_of HI5.out.blk (i := 2) (v := _) rfl
            have HH := Lib.hid (hasa_h (SRow.of_owns HI5.out.row) (by omega) hab)
            rw [HD.out] at HH
            clear hF4 hab
            go_wp2_with fail
            refine HH.out.mono ?_
            rintro e w6 ⟨rfl, hF6⟩
            have HF6 := Lib.hid (HI5.out.fr.next hF6)
            clear hF6
            go_wp2_with fail
            rw [Exit.noGoto_ret]
            go_ret3
            exact ⟨by rw [HRES.out] <;> rfl, HF6.out⟩
          | false =>
            have HNX := Lib.hid (show attrsL [] s1 = attrsL (l ++ [(a, v)]) left from by rw [HST2.out, next_new HA.out hdup])
            have HD := Lib.hid hdup
            clear hdup
            obtain ⟨i0, hi0, hz0, hz1, hz2⟩ := info_parts info64
            go_wp2_with fail
            refine (HTR.out _).mono ?_
            rintro e w2 ⟨rfl, hF2⟩
            have HI2 := Lib.hid (HI.out.2.fr2 hF2)
            clear hF2
            go_wp2_with fail
            refine (HP1.out _).mono ?_
            rintro e w3 ⟨rfl, rfl⟩
            go_wp2_with fail
            refine (HP2.out _).mono ?_
            rintro e w3 ⟨rfl, rfl⟩
            go_wp2_with fail
            refine (HAT.out _ (hE.grow HI2.out.fr)).mono ?_
            rintro e w4 ⟨he, hF4⟩
            rw [HA.out] at he
            subst he
            have HI5 := Lib.hid ((HI2.out.fr2 hF4).fr2 ((Fr.refl _ _).alloc (.cells #[.string (bs a), .string (bs v)] 64)))
            have hab : (w4.alloc (.cells #[.string (bs a), .string (bs v)] 64)).heap[w4.heap.size]? = some (.cells #[.string (bs a), .string (bs v)] 64 (0, 0)) := block_new _ _
            have c2 := cell_of HI5.out.blk (i := 2) (v := _) rfl
            have HH := Lib.hid (hasa_h (SRow.of_owns HI5.out.row) (by omega) hab)
            rw [HD.out] at HH
            have HAB := Lib.hid hab
            clear hF4 hab
            go_wp2_with fail
            refine HH.out.mono ?_
            rintro e w6 ⟨rfl, hF6⟩
            have HI6 := Lib.hid (HI5.out.fr2 hF6)
            have hab6 := hF6.keep HAB.out (fun h => h)
            clear hF6 c2
            have c2 := cell_of HI6.out.blk (i := 2) (v := _) rfl
            have f2 := free_of 2 HI6.out.blk
            have d0 := cell_of hab6 (i := 0) (v := _) rfl
            have d1 := cell_of hab6 (i := 1) (v := _) rfl
            clear hab6
            have hal : Fr (fun _ => False) w6 (w6.alloc (.cells #[.string (bs a), .string (bs v)] 64)) := (Fr.refl _ _).alloc _
            have HI7 := Lib.hid (HI6.out.fr2 hal)
            clear hal
            go_wp2_with (at_builtin; refine wpList_append_row rfl (.tmp 59) (.tmp 61) 27 rfl w.heap.size 64 i0 (.agg #[.string ⟨#[]⟩, .string ⟨#[]⟩]) 2 32 Tryz.underlying27 hi0 hz0 hz1 hz2 rfl (by decide) av l.length (acells l) rfl HI7.out.row (fun k => k = w6.heap.size) (.slice (some ⟨w6.heap.size, 0, none⟩) 1 1) 1 [.string (bs a), .string (bs v)] rfl (SRow.of_block (block_new _ _) rfl (by unfold maxLen; omega) rfl) (by intro u hu; simp at hu; rcases hu with rfl | rfl <;> rfl) (by unfold maxLen; omega) (by omega) HI7.out.fr.size ?_; intro b7 cap7 w7 hown7 hgrow7 _; obtain ⟨hb7, hT7⟩ := HI7.out.next hgrow7 hown7 HNX.out (by omega); have HT7 := Lib.hid hT7; have g2 := cell_of hb7 (i := 2) (v := _) rfl; have j2 := free_of 2 hb7; clear hown7 hgrow7 hT7 hb7 c2 f2 d0 d1)
            go_roundg left.length
            case measure => have := HI.out.1; omega
            case rel => exact ⟨left, l ++ [(a, v)], _, rfl, rfl, HT7.out⟩
end Go.Proofs.YtpinjgdnhbogoaaGreatDoor
