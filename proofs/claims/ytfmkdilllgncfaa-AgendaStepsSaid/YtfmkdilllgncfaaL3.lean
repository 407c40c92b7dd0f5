/- The walk of the law AgendaSteps. -/
import Derived.Test.YtfmkdilllgncfaaTwo
namespace Go.Proofs.Ytfmkdilllgncfaa
open Go.RowKit Go.Lib

def StepRel (w0 : World) (l : List Int) (b1 b2 : Nat) (j : Nat) (v : Value) (wr : World) : Prop := ∃ (k : Nat) (m : List (Int × Int)), k + j = l.length ∧ v = .int .i64 k ∧ Two w0 wr (fun _ => False) b1 m b2 m ∧ m.Perm (prs l k)

set_option maxRecDepth 100000 in
set_option maxHeartbeats 4000000 in
theorem steps_h {w : World} {v : Value} {l : List Int} (h : IR w (fun k => k < w.heap.size) v l) (first next : Int) :
    Calls Try.prog 7 #[v, .int .i64 first, .int .i64 next] w fun e w' => e = .returned (.bool true) ∧ Fr (fun _ => False) w w' := by
  obtain ⟨a, cap, rfl⟩ := h.form
  obtain ⟨i0, hi0, hz0, hz1, hz2⟩ := info_parts info3
  go_enter Try.func7, Try.ntmps7
  go_wp2_with fail
  refine Calls.mono (shown_h w) ?_
  rintro e w1 ⟨rfl, hf1⟩
  by_cases hbig : 200 < l.length
  · have d1 : decide (200 < (l.length : Int)) = true := by simp; omega
    go_wp2_with fail
    go_ret
    exact ⟨rfl, hf1⟩
  · have d1 : decide (200 < (l.length : Int)) = false := by simp; omega
    have hl2 : l.length ≤ 200 := by omega
    clear hbig
    go_wp2_with fail
    refine Calls.mono (mine_new w1) ?_
    rintro e w2 ⟨b1, rfl, hm⟩
    go_wp2_with fail
    refine Calls.mono (two_new hm) ?_
    rintro e w3 ⟨b2, rfl, h3⟩
    clear hm
    go_wp2_with fail
    go_loopg [10] (l.length) (fun j v wr => StepRel w1 l b1 b2 j v wr)
    case atStart => exact ⟨0, [], by omega, rfl, h3, by simp [prs]⟩
    case round =>
      clear h3
      obtain ⟨k, m, hk, rfl, hm, hp1⟩ := hrel
      have hl1 : m.length < 999999 := by rw [hp1.length_eq, prs_length l (by omega)]; omega
      have hl4 : m.length ≤ 200 := by rw [hp1.length_eq, prs_length l (by omega)]; omega
      have HK := Lib.hid (And.intro hk hp1)
      clear hk hp1
      by_cases hlt : k < l.length
      · obtain ⟨g, off, rfl, hc⟩ := h.cells (by omega)
        obtain ⟨p, hp⟩ : ∃ p, l[k]? = some p := ⟨_, List.getElem?_eq_getElem hlt⟩
        have c0 := hf1.cell (hc k p hp) (fun h => h)
        have c1 := hm.fr.cell c0 (fun h => h)
        have HP := Lib.hid (And.intro hp c0)
        clear hp hc c0
        go_wp2_with fail
        refine Calls.mono (two_put hm hl1 p k) ?_
        rintro e w4 ⟨rfl, hm4⟩
        have c2 := hm4.fr.cell HP.out.2 (fun h => h)
        go_wp2_with fail
        refine Calls.mono (two_put hm4.symm hl1 p k) ?_
        rintro e w5 ⟨rfl, hm5⟩
        go_wp2_with fail
        go_roundg (l.length - (k + 1))
        case measure => have := HK.out; omega
        case rel => exact ⟨k + 1, _, by omega, by go_num, hm5.symm, put_perm HP.out.1 HK.out.2⟩
      · clear h
        rcases Int.le_total first next with hle | hle
        · have hmax : (if first < next then next else first) = next := by split <;> omega
          have hlh : first ≤ next := by omega
          have hplain := due_two m hlh
          have hdl : ∀ x, (dueL m x).length ≤ m.length := fun x => by unfold dueL; exact (List.takeWhile_sublist _).length_le
          have hll : (leftL m first).length ≤ m.length := by unfold leftL; exact (List.dropWhile_sublist _).length_le
          have hdl2 : (dueL (leftL m first) next).length ≤ (leftL m first).length := by unfold dueL; exact (List.takeWhile_sublist _).length_le
          have HP := Lib.hid (And.intro hplain (And.intro hdl (And.intro hll hdl2)))
          clear hplain hdl hll hdl2
          go_wp2_with fail
          refine Calls.mono (two_due hm hl1 first) ?_
          rintro e w4 ⟨x, rfl, h4, hx, hfx, hxb⟩
          go_wp2_with fail
          refine Calls.mono (two_due h4 (by have := HP.out.2.2.1; omega) next) ?_
          rintro e w5 ⟨y, rfl, h5, hy, hfy, hyb⟩
          rw [HP.out.1.2] at h5
          have hx2 := hx.fr hfy fun k hk hn => hn (.inr hk)
          clear hx h4
          have hxl := h5
          obtain ⟨ax, cx, rfl⟩ := hx2.form
          obtain ⟨ay, cy, rfl⟩ := hy.form
          have hlx : ((dueL m first).map (·.2)).length ≤ 200 := by rw [List.length_map]; have := HP.out.2.1 first; omega
          have hly : ((dueL (leftL m first) next).map (·.2)).length ≤ 200 := by rw [List.length_map]; have := HP.out.2.2.2; have := HP.out.2.2.1; omega
          have hlb : ((dueL m next).map (·.2)).length < 1000000 := by rw [List.length_map]; have := HP.out.2.1 next; omega
          have heq : (dueL m first).map (·.2) ++ (dueL (leftL m first) next).map (·.2) = (dueL m next).map (·.2) := by rw [← List.map_append, HP.out.1.1]
          have HE := Lib.hid heq
          clear heq
          have hSx : ∀ i, Value.ownBlock (Value.slice ax ((dueL m first).map (·.2)).length cx) = some i → ¬ w5.heap.size ≤ i := fun i hi => by
            obtain ⟨_, _, _, _, _, _, _, _, h7⟩ := h5
            have := (h7 i (.inl (.inr hi))).1
            omega
          have hSy : ∀ i, Value.ownBlock (Value.slice ay ((dueL (leftL m first) next).map (·.2)).length cy) = some i → ¬ w5.heap.size ≤ i := fun i hi => by
            obtain ⟨_, _, _, _, _, _, _, _, h7⟩ := h5
            have := (h7 i (.inr hi)).1
            omega
          generalize (dueL m first).map (·.2) = X at *
          generalize (dueL (leftL m first) next).map (·.2) = Y at *
          go_wp2_with (first
            | (at_builtin; refine wpList_append_row rfl (.tmp 54) (.tmp 55) 33 rfl w5.heap.size 3 i0 (.int .i64 0) 1 8 Try.underlying33 hi0 hz0 hz1 hz2 rfl (by decide) (.slice (some ⟨_, 0, none⟩) 0 0) 0 [] rfl (ownsRow_empty (block_new_at rfl) (Nat.le_refl _)) _ _ X.length (X.map (Value.int .i64)) rfl (SRow.fr hx2 (o := fun k => w5.heap.size ≤ k) ((Fr.refl _ _).alloc _) hSx) (ints_oneCell .i64 X) (by unfold maxLen; omega) (by omega) (by simp) ?_; intro c1 cap1 w6 hrow1 hgrow1 hat1; have hF1 : Fr (fun k => w5.heap.size ≤ k) w5 w6 := Fr.next ((Fr.refl _ _).alloc _) hat1; simp only [Nat.zero_add, List.nil_append] at hrow1)
            | (at_builtin; refine wpList_append_row rfl (.tmp 56) (.tmp 57) 33 rfl w5.heap.size 3 i0 (.int .i64 0) 1 8 Try.underlying33 hi0 hz0 hz1 hz2 rfl (by decide) (.slice c1 X.length cap1) X.length _ rfl hrow1 _ _ Y.length (Y.map (Value.int .i64)) rfl (SRow.fr hy hF1 hSy) (ints_oneCell .i64 Y) (by unfold maxLen; omega) (by omega) hF1.size ?_; intro c2 cap2 w7 hrow2 hgrow2 hat2; have hF2 : Fr (fun k => w5.heap.size ≤ k) w5 w7 := Fr.next hF1 hat2))
          have h7 := h5.mine (Nat.le_refl _) hF2
          refine Calls.mono (two_due h7.symm hl1 next) ?_
          rintro e w8 ⟨z, rfl, h8, hz, hfz, hzb⟩
          have hxy : IR w7 (fun k => w5.heap.size ≤ k ∧ k < w7.heap.size) (.slice c2 (X.length + Y.length) cap2) (X ++ Y) := by
            have := (SRow.of_owns hrow2).mono (S' := fun k => w5.heap.size ≤ k ∧ k < w7.heap.size) fun k hk => hrow2.lt k hk
            unfold IR
            rw [List.length_append, List.map_append]
            exact this
          rw [← List.length_append]
          go_wp2_with fail
          refine Calls.mono (same_h (hxy.fr hfz fun k hk hn => hn (.inr hk)) hz (by rw [List.length_append]; omega) hlb) ?_
          rintro e w9 ⟨rfl, N, rfl⟩
          have h9 := h8.drewN N
          have ht : decide (X ++ Y = (dueL m next).map (·.2)) = true := by rw [decide_eq_true_iff]; exact HE.out
          rw [ht]
          go_wp2_with fail
          refine Calls.mono (two_len h9.symm) ?_
          rintro e w10 ⟨rfl, rfl⟩
          go_wp2_with fail
          refine Calls.mono (two_len h9) ?_
          rintro e w11 ⟨rfl, rfl⟩
          have hfr := h9.fr
          go_wp2_with fail
          go_ret
          exact ⟨by simp, hf1.next hfr⟩
        · have hmin : (if next < first then next else first) = next := by split <;> omega
          have hlh : next ≤ first := by omega
          have hplain := due_two m hlh
          have hdl : ∀ x, (dueL m x).length ≤ m.length := fun x => by unfold dueL; exact (List.takeWhile_sublist _).length_le
          have hll : (leftL m next).length ≤ m.length := by unfold leftL; exact (List.dropWhile_sublist _).length_le
          have hdl2 : (dueL (leftL m next) first).length ≤ (leftL m next).length := by unfold dueL; exact (List.takeWhile_sublist _).length_le
          have HP := Lib.hid (And.intro hplain (And.intro hdl (And.intro hll hdl2)))
          clear hplain hdl hll hdl2
          go_wp2_with fail
          refine Calls.mono (two_due hm hl1 next) ?_
          rintro e w4 ⟨x, rfl, h4, hx, hfx, hxb⟩
          go_wp2_with fail
          refine Calls.mono (two_due h4 (by have := HP.out.2.2.1; omega) first) ?_
          rintro e w5 ⟨y, rfl, h5, hy, hfy, hyb⟩
          rw [HP.out.1.2] at h5
          have hx2 := hx.fr hfy fun k hk hn => hn (.inr hk)
          clear hx h4
          have hxl := h5
          obtain ⟨ax, cx, rfl⟩ := hx2.form
          obtain ⟨ay, cy, rfl⟩ := hy.form
          have hlx : ((dueL m next).map (·.2)).length ≤ 200 := by rw [List.length_map]; have := HP.out.2.1 next; omega
          have hly : ((dueL (leftL m next) first).map (·.2)).length ≤ 200 := by rw [List.length_map]; have := HP.out.2.2.2; have := HP.out.2.2.1; omega
          have hlb : ((dueL m first).map (·.2)).length < 1000000 := by rw [List.length_map]; have := HP.out.2.1 first; omega
          have heq : (dueL m next).map (·.2) ++ (dueL (leftL m next) first).map (·.2) = (dueL m first).map (·.2) := by rw [← List.map_append, HP.out.1.1]
          have HE := Lib.hid heq
          clear heq
          have hSx : ∀ i, Value.ownBlock (Value.slice ax ((dueL m next).map (·.2)).length cx) = some i → ¬ w5.heap.size ≤ i := fun i hi => by
            obtain ⟨_, _, _, _, _, _, _, _, h7⟩ := h5
            have := (h7 i (.inl (.inr hi))).1
            omega
          have hSy : ∀ i, Value.ownBlock (Value.slice ay ((dueL (leftL m next) first).map (·.2)).length cy) = some i → ¬ w5.heap.size ≤ i := fun i hi => by
            obtain ⟨_, _, _, _, _, _, _, _, h7⟩ := h5
            have := (h7 i (.inr hi)).1
            omega
          generalize (dueL m next).map (·.2) = X at *
          generalize (dueL (leftL m next) first).map (·.2) = Y at *
          go_wp2_with (first
            | (at_builtin; refine wpList_append_row rfl (.tmp 54) (.tmp 55) 33 rfl w5.heap.size 3 i0 (.int .i64 0) 1 8 Try.underlying33 hi0 hz0 hz1 hz2 rfl (by decide) (.slice (some ⟨_, 0, none⟩) 0 0) 0 [] rfl (ownsRow_empty (block_new_at rfl) (Nat.le_refl _)) _ _ X.length (X.map (Value.int .i64)) rfl (SRow.fr hx2 (o := fun k => w5.heap.size ≤ k) ((Fr.refl _ _).alloc _) hSx) (ints_oneCell .i64 X) (by unfold maxLen; omega) (by omega) (by simp) ?_; intro c1 cap1 w6 hrow1 hgrow1 hat1; have hF1 : Fr (fun k => w5.heap.size ≤ k) w5 w6 := Fr.next ((Fr.refl _ _).alloc _) hat1; simp only [Nat.zero_add, List.nil_append] at hrow1)
            | (at_builtin; refine wpList_append_row rfl (.tmp 56) (.tmp 57) 33 rfl w5.heap.size 3 i0 (.int .i64 0) 1 8 Try.underlying33 hi0 hz0 hz1 hz2 rfl (by decide) (.slice c1 X.length cap1) X.length _ rfl hrow1 _ _ Y.length (Y.map (Value.int .i64)) rfl (SRow.fr hy hF1 hSy) (ints_oneCell .i64 Y) (by unfold maxLen; omega) (by omega) hF1.size ?_; intro c2 cap2 w7 hrow2 hgrow2 hat2; have hF2 : Fr (fun k => w5.heap.size ≤ k) w5 w7 := Fr.next hF1 hat2))
          have h7 := h5.mine (Nat.le_refl _) hF2
          refine Calls.mono (two_due h7.symm hl1 first) ?_
          rintro e w8 ⟨z, rfl, h8, hz, hfz, hzb⟩
          have hxy : IR w7 (fun k => w5.heap.size ≤ k ∧ k < w7.heap.size) (.slice c2 (X.length + Y.length) cap2) (X ++ Y) := by
            have := (SRow.of_owns hrow2).mono (S' := fun k => w5.heap.size ≤ k ∧ k < w7.heap.size) fun k hk => hrow2.lt k hk
            unfold IR
            rw [List.length_append, List.map_append]
            exact this
          rw [← List.length_append]
          go_wp2_with fail
          refine Calls.mono (same_h (hxy.fr hfz fun k hk hn => hn (.inr hk)) hz (by rw [List.length_append]; omega) hlb) ?_
          rintro e w9 ⟨rfl, N, rfl⟩
          have h9 := h8.drewN N
          have ht : decide (X ++ Y = (dueL m first).map (·.2)) = true := by rw [decide_eq_true_iff]; exact HE.out
          rw [ht]
          go_wp2_with fail
          refine Calls.mono (two_len h9.symm) ?_
          rintro e w10 ⟨rfl, rfl⟩
          go_wp2_with fail
          refine Calls.mono (two_len h9) ?_
          rintro e w11 ⟨rfl, rfl⟩
          have hfr := h9.fr
          go_wp2_with fail
          go_ret
          exact ⟨by simp, hf1.next hfr⟩
end Go.Proofs.Ytfmkdilllgncfaa
