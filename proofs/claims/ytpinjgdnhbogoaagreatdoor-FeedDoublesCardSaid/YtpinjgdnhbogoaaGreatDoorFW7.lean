/- The walk of the law FeedCuts. -/
import Derived.Test.YtpinjgdnhbogoaaGreatDoorFW6
namespace Go.Proofs.YtpinjgdnhbogoaaGreatDoor
open Go.RowKit Go.Lib

theorem small_all {l : List ItemD} (h : smallB l = true) : l.length ≤ 120 ∧ ∀ x ∈ l, SmallI x := by
  unfold smallB at h
  simp only [Bool.and_eq_true, decide_eq_true_eq, Bool.not_eq_true', List.any_eq_false] at h
  refine ⟨h.1, fun x hx => ?_⟩
  have h2 := h.2 x hx
  unfold bigI at h2
  simp only [Bool.or_eq_true, decide_eq_true_eq, not_or] at h2
  unfold SmallI; omega
theorem atom_len {title : Str} {l : List ItemD} (ht : title.length ≤ 1000) (hl : l.length ≤ 20) (hs : ∀ x ∈ l, SmallI x) : 49 ≤ (atomL title l).length ∧ (atomL title l).length ≤ 300000 := by
  have h1 := flatI_len (f := entryW) (b := 10000) (l := l) fun x hx => entry_len (hs x hx)
  have h2 := elem_len nTitle title
  have h3 := esc_le title
  have h4 : nTitle.length = 5 := rfl
  rw [atom_cat]
  simp only [List.length_append, List.length_cons, List.length_nil]
  omega
/-- a place within a text, counted from either end -/
theorem rem_place (z : Int) (n : Nat) (hn : 0 < n) : ∃ q : Int, z.tmod (n : Int) = q ∧ -(n : Int) < q ∧ q < (n : Int) :=
  ⟨_, rfl, by have := Int.tmod_lt_of_pos (-z) (b := (n : Int)) (by omega); rw [Int.neg_tmod] at this; omega, Int.tmod_lt_of_pos z (by omega)⟩
set_option maxRecDepth 100000 in
set_option maxHeartbeats 8000000 in
theorem feedcuts_h {w : World} (hE : Env w) {v : Value} {l : List ItemD} (hv : ItemsV w (fun k => k < w.heap.size) v l) (s : Str) (z : Int) : Calls Tryz.prog 18 #[.string (bs s), v, .int .i64 z] w fun e w' => e = .returned (.bool true) ∧ Fr (fun _ => False) w w' := by
  have hsz : (bs s).size = s.length := rfl
  obtain ⟨a, c, rfl, -, -⟩ := hv.shape
  have HS := Lib.hid (fshown_h hE)
  have HV := Lib.hid (fun (W : World) (hF : Fr (fun _ => False) w W) => show ItemsV W (fun k => k < W.heap.size) (.slice a l.length c) l from (hv.fr hF fun _ _ h => h).mono fun k hk => Nat.lt_of_lt_of_le hk hF.size)
  have HSm := Lib.hid (fun (W : World) (hF : Fr (fun _ => False) w W) => small_h (HV.out W hF))
  have HEv := Lib.hid (fun (W : World) (hF : Fr (fun _ => False) w W) => hE.grow hF)
  clear hE hv
  cases hsm : smallB l with
  | false =>
    rw [hsm] at HSm
    clear hsm
    go_enter Tryz.func18, Tryz.ntmps18
    go_wp2_with fail
    refine Calls.mono HS.out ?_
    rintro e w1 ⟨rfl, hF⟩
    have HF := Lib.hid hF
    clear hF
    go_wp2_with fail
    refine Calls.mono (HSm.out _ HF.out) ?_
    rintro e w2 ⟨rfl, rfl⟩
    go_wp2_with fail
    go_ret
    exact ⟨rfl, HF.out⟩
  | true =>
  have HAll := Lib.hid (small_all hsm)
  rw [hsm] at HSm
  clear hsm
  by_cases hl20 : 20 < l.length
  · have hli : (20 : Int) < (l.length : Int) := by omega
    clear hl20
    go_enter Tryz.func18, Tryz.ntmps18
    go_wp2_with fail
    refine Calls.mono HS.out ?_
    rintro e w1 ⟨rfl, hF⟩
    have HF := Lib.hid hF
    clear hF
    go_wp2_with fail
    refine Calls.mono (HSm.out _ HF.out) ?_
    rintro e w2 ⟨rfl, rfl⟩
    go_wp2_with fail
    go_ret
    exact ⟨rfl, HF.out⟩
  have hli : ¬ (20 : Int) < (l.length : Int) := by omega
  by_cases hs300 : 300 < s.length
  · have hsi : (300 : Int) < (s.length : Int) := by omega
    clear hs300 hl20
    go_enter Tryz.func18, Tryz.ntmps18
    go_wp2_with fail
    refine Calls.mono HS.out ?_
    rintro e w1 ⟨rfl, hF⟩
    have HF := Lib.hid hF
    clear hF
    go_wp2_with fail
    refine Calls.mono (HSm.out _ HF.out) ?_
    rintro e w2 ⟨rfl, rfl⟩
    go_wp2_with fail
    go_ret
    exact ⟨rfl, HF.out⟩
  have hsi : ¬ (300 : Int) < (s.length : Int) := by omega
  have hal := atom_len (title := s) (l := l) (by omega) (by omega) HAll.out.2
  have HAt := Lib.hid (fun (W : World) (hF : Fr (fun _ => False) w W) => atomdoc_h (w := W) (l := l) s (HV.out W hF) (by omega) (by have := HAll.out.1; omega) HAll.out.2)
  have HC1 := Lib.hid (fun j => cut_refused s l j)
  have HC2 := Lib.hid (then_refused s l)
  obtain ⟨t, ht⟩ : ∃ t, atomL s l = t := ⟨_, rfl⟩
  rw [ht] at HAt HC1 HC2 hal
  have htz : (bs t).size = t.length := rfl
  obtain ⟨q, hq, hq1, hq2⟩ := rem_place z t.length (by omega)
  have hn0 : ¬ (t.length : Int) = 0 := by omega
  have hn1 : ((t.length : Int) == 0) = false := beq_eq_false_iff_ne.2 hn0
  obtain ⟨k, hk, hkl⟩ : ∃ k : Nat, k = q.natAbs ∧ k < t.length := ⟨_, rfl, by omega⟩
  have hx := bs_take t k
  have hs2 : ∀ w : World, (Op.stringOp .add (bs t) ⟨#[120]⟩).run Tryz.prog w = .ok (.string (bs (t ++ [120]))) w := fun w => sum_at w rfl (by rw [List.length_append]; simp only [List.length_cons, List.length_nil]; omega)
  obtain ⟨x1, hx1⟩ : ∃ x, extractL (t.take k) = x := ⟨_, rfl⟩
  obtain ⟨l1, e1⟩ := x1
  obtain ⟨x2, hx2⟩ : ∃ x, extractL (t ++ [120]) = x := ⟨_, rfl⟩
  obtain ⟨l2, e2⟩ := x2
  have hr1 := HC1.out k hkl
  have hr2 := HC2.out
  have hn1' := refused_none hr1
  have hn2' := refused_none hr2
  rw [hx1] at hr1 hn1'
  rw [hx2] at hr2 hn2'
  dsimp only at hr1 hr2 hn1' hn2'
  subst hn1' hn2'
  have HX1 := Lib.hid (fun (W : World) (hF : Fr (fun _ => False) w W) => ext_at (HEv.out W hF) hx1 rfl (by rw [List.length_take]; omega))
  have HX2 := Lib.hid (fun (W : World) (hF : Fr (fun _ => False) w W) => ext_at (HEv.out W hF) hx2 rfl (by rw [List.length_append]; simp only [List.length_cons, List.length_nil]; omega))
  have t1 : (e1 != 0) = true := by rw [bne_iff_ne]; exact hr1
  have t1b : (e1 == 0) = false := beq_eq_false_iff_ne.2 hr1
  have t2 : (e2 != 0) = true := by rw [bne_iff_ne]; exact hr2
  have t2b : (e2 == 0) = false := beq_eq_false_iff_ne.2 hr2
  obtain ⟨d1, hd1⟩ : ∃ d, t.take k = d := ⟨_, rfl⟩
  obtain ⟨d2, hd2⟩ : ∃ d, t ++ [120] = d := ⟨_, rfl⟩
  rw [hd1] at HX1 hx
  rw [hd2] at HX2 hs2
  clear ht hd1 hd2 hx1 hx2 hr1 hr2 HC1 HC2
  by_cases hneg : q < 0
  · have hkq : -q = (k : Int) := by omega
    clear hk hl20 hs300
    go_enter Tryz.func18, Tryz.ntmps18
    go_wp2_with fail
    refine Calls.mono HS.out ?_
    rintro e w1 ⟨rfl, hF⟩
    have HF := Lib.hid hF
    clear hF
    go_wp2_with fail
    refine Calls.mono (HSm.out _ HF.out) ?_
    rintro e w2 ⟨rfl, rfl⟩
    go_wp2_with fail
    refine Calls.mono (HAt.out _ HF.out) ?_
    rintro e w3 ⟨rfl, hF⟩
    have HF3 := Lib.hid (HF.out.next hF)
    clear hF
    go_wp2_with fail
    refine Calls.mono (HX1.out _ HF3.out) ?_
    rintro e w4 ⟨a1, c1, rfl, -, hF⟩
    have HF4 := Lib.hid (HF3.out.next hF)
    clear hF
    go_wp2_with fail
    refine Calls.mono (HX2.out _ HF4.out) ?_
    rintro e w5 ⟨a2, c2, rfl, -, hF⟩
    have HF5 := Lib.hid (HF4.out.next hF)
    clear hF
    go_wp2_with fail
    go_ret
    exact ⟨rfl, HF5.out⟩
  · have hkq : q = (k : Int) := by omega
    subst hkq
    clear hk hl20 hs300
    go_enter Tryz.func18, Tryz.ntmps18
    go_wp2_with fail
    refine Calls.mono HS.out ?_
    rintro e w1 ⟨rfl, hF⟩
    have HF := Lib.hid hF
    clear hF
    go_wp2_with fail
    refine Calls.mono (HSm.out _ HF.out) ?_
    rintro e w2 ⟨rfl, rfl⟩
    go_wp2_with fail
    refine Calls.mono (HAt.out _ HF.out) ?_
    rintro e w3 ⟨rfl, hF⟩
    have HF3 := Lib.hid (HF.out.next hF)
    clear hF
    go_wp2_with fail
    refine Calls.mono (HX1.out _ HF3.out) ?_
    rintro e w4 ⟨a1, c1, rfl, -, hF⟩
    have HF4 := Lib.hid (HF3.out.next hF)
    clear hF
    go_wp2_with fail
    refine Calls.mono (HX2.out _ HF4.out) ?_
    rintro e w5 ⟨a2, c2, rfl, -, hF⟩
    have HF5 := Lib.hid (HF4.out.next hF)
    clear hF
    go_wp2_with fail
    go_ret
    exact ⟨rfl, HF5.out⟩
end Go.Proofs.YtpinjgdnhbogoaaGreatDoor
