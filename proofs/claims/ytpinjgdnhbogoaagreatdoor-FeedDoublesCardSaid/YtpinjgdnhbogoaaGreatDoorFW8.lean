/- The walk of the law FeedAlike. -/
import Derived.Test.YtpinjgdnhbogoaaGreatDoorFW7
namespace Go.Proofs.YtpinjgdnhbogoaaGreatDoor
open Go.RowKit Go.Lib

theorem doc_len {title : Str} {l : List ItemD} (ht : title.length ≤ 1000) (hl : l.length ≤ 20) (hs : ∀ x ∈ l, SmallI x) : (rssL title l).length ≤ 300000 := by
  have h1 := flatI_len (f := itemW) (b := 10000) (l := l) fun x hx => item_len (hs x hx)
  have h2 := elem_len nTitle title
  have h3 := esc_le title
  have h4 : nTitle.length = 5 := rfl
  rw [rss_cat]
  simp only [List.length_append, List.length_cons, List.length_nil]
  omega
theorem alike_docs {s t : Str} {l : List ItemD} (h : ∀ x ∈ l, rightD x = true) : ((extractL (bigR s l)).2 = (extractL (bigAtom t l)).2 ∧ (extractL (bigR s l)).1 = (extractL (bigAtom t l)).1) ∨ ((extractL (bigR s l)).2 ≠ (extractL (bigAtom t l)).2 ∧ ((extractL (bigR s l)).2 = 10 ∨ ((extractL (bigR s l)).2 ≠ 10 ∧ (extractL (bigAtom t l)).2 = 10))) := by
  by_cases h1 : (bigR s l).length ≤ 20000 <;> by_cases h2 : (bigAtom t l).length ≤ 20000
  · rw [extract_bigR h1 h, extract_bigA h2 h]; exact .inl ⟨rfl, rfl⟩
  · rw [extract_bigR h1 h, extract_long (s := bigAtom t l) (by omega)]; exact .inr ⟨(by decide : (0 : Int) ≠ 10), .inr ⟨(by decide : (0 : Int) ≠ 10), rfl⟩⟩
  · rw [extract_long (s := bigR s l) (by omega), extract_bigA h2 h]; exact .inr ⟨(by decide : (10 : Int) ≠ 0), .inl rfl⟩
  · rw [extract_long (s := bigR s l) (by omega), extract_long (s := bigAtom t l) (by omega)]; exact .inl ⟨rfl, rfl⟩
set_option maxRecDepth 100000 in
set_option maxHeartbeats 16000000 in
theorem feedalike_h {w : World} (hE : Env w) {v : Value} {l : List ItemD} (hv : ItemsV w (fun k => k < w.heap.size) v l) (s t : Str) : Calls Tryz.prog 21 #[.string (bs s), .string (bs t), v] w fun e w' => e = .returned (.bool true) ∧ Fr (fun _ => False) w w' := by
  have hsz : (bs s).size = s.length := rfl
  have htz : (bs t).size = t.length := rfl
  obtain ⟨a, c, rfl, -, -⟩ := hv.shape
  have HS := Lib.hid (fshown_h hE)
  have HV := Lib.hid (fun (W : World) (hF : Fr (fun _ => False) w W) => show ItemsV W (fun k => k < W.heap.size) (.slice a l.length c) l from (hv.fr hF fun _ _ h => h).mono fun k hk => Nat.lt_of_lt_of_le hk hF.size)
  have HSm := Lib.hid (fun (W : World) (hF : Fr (fun _ => False) w W) => small_h (HV.out W hF))
  have HEv := Lib.hid (fun (W : World) (hF : Fr (fun _ => False) w W) => hE.grow hF)
  clear hE hv
  cases hsm : smallB l with
  | false =>
    rw [hsm] at HSm
    clear hsm
    go_enter Tryz.func21, Tryz.ntmps21
    go_wp2_with fail
    refine Calls.mono HS.out ?_
    rintro e w1 ⟨rfl, hF⟩
    have HF := Lib.hid hF
    clear hF
    go_wp2_with fail
    refine Calls.mono (HSm.out _ HF.out) ?_
    rintro e w2 ⟨rfl, rfl⟩
    go_wp2_with fail
    go_ret
    exact ⟨rfl, HF.out⟩
  | true =>
  have HAll := Lib.hid (small_all hsm)
  rw [hsm] at HSm
  clear hsm
  by_cases hl20 : 20 < l.length
  · have hli : (20 : Int) < (l.length : Int) := by omega
    clear hl20
    go_enter Tryz.func21, Tryz.ntmps21
    go_wp2_with fail
    refine Calls.mono HS.out ?_
    rintro e w1 ⟨rfl, hF⟩
    have HF := Lib.hid hF
    clear hF
    go_wp2_with fail
    refine Calls.mono (HSm.out _ HF.out) ?_
    rintro e w2 ⟨rfl, rfl⟩
    go_wp2_with fail
    go_ret
    exact ⟨rfl, HF.out⟩
  have hli : ¬ (20 : Int) < (l.length : Int) := by omega
  by_cases hs3 : 300 < s.length
  · have hsi : (300 : Int) < (s.length : Int) := by omega
    clear hs3
    go_enter Tryz.func21, Tryz.ntmps21
    go_wp2_with fail
    refine Calls.mono HS.out ?_
    rintro e w1 ⟨rfl, hF⟩
    have HF := Lib.hid hF
    clear hF
    go_wp2_with fail
    refine Calls.mono (HSm.out _ HF.out) ?_
    rintro e w2 ⟨rfl, rfl⟩
    go_wp2_with fail
    go_ret
    exact ⟨rfl, HF.out⟩
  have hsi : ¬ (300 : Int) < (s.length : Int) := by omega
  by_cases ht3 : 300 < t.length
  · have hti : (300 : Int) < (t.length : Int) := by omega
    clear ht3
    go_enter Tryz.func21, Tryz.ntmps21
    go_wp2_with fail
    refine Calls.mono HS.out ?_
    rintro e w1 ⟨rfl, hF⟩
    have HF := Lib.hid hF
    clear hF
    go_wp2_with fail
    refine Calls.mono (HSm.out _ HF.out) ?_
    rintro e w2 ⟨rfl, rfl⟩
    go_wp2_with fail
    go_ret
    exact ⟨rfl, HF.out⟩
  have hti : ¬ (300 : Int) < (t.length : Int) := by omega
  have HRs := Lib.hid (fun (W : World) (hF : Fr (fun _ => False) w W) => rssdoc_h (w := W) (l := l) s (HV.out W hF) (by omega) (by omega) HAll.out.2)
  have HAt := Lib.hid (fun (W : World) (hF : Fr (fun _ => False) w W) => atomdoc_h (w := W) (l := l) t (HV.out W hF) (by omega) (by omega) HAll.out.2)
  have hrl := doc_len (title := s) (l := l) (by omega) (by omega) HAll.out.2
  have hal := atom_len (title := t) (l := l) (by omega) (by omega) HAll.out.2
  have HDoc := Lib.hid (fun h => alike_docs (s := s) (t := t) (l := l) h)
  have eR : [10] ++ rssL s l ++ [32] = bigR s l := by unfold bigR; simp
  have eA : [60, 63, 120, 109, 108, 32, 118, 101, 114, 115, 105, 111, 110, 61, 34, 49, 46, 48, 34, 63, 62] ++ atomL t l = bigAtom t l := by unfold bigAtom vHead; rfl
  obtain ⟨R, hR⟩ : ∃ R, rssL s l = R := ⟨_, rfl⟩
  obtain ⟨A, hA⟩ : ∃ A, atomL t l = A := ⟨_, rfl⟩
  rw [hR] at HRs hrl eR
  rw [hA] at HAt hal eA
  obtain ⟨R2, hR2⟩ : ∃ x, bigR s l = x := ⟨_, rfl⟩
  obtain ⟨A2, hA2⟩ : ∃ x, bigAtom t l = x := ⟨_, rfl⟩
  rw [hR2] at eR HDoc
  rw [hA2] at eA HDoc
  obtain ⟨R1, hR1⟩ : ∃ x, [10] ++ R = x := ⟨_, rfl⟩
  rw [hR1] at eR
  have hl1 : R1.length = R.length + 1 := by rw [← hR1, List.length_append]; simp only [List.length_cons, List.length_nil]; omega
  have hl2 : R2.length = R1.length + 1 := by rw [← eR, List.length_append]; simp only [List.length_cons, List.length_nil]
  have hl3 : A2.length = A.length + 21 := by rw [← eA, List.length_append]; simp only [List.length_cons, List.length_nil]; omega
  have s1 : ∀ w : World, (Op.stringOp .add ⟨#[10]⟩ (bs R)).run Tryz.prog w = .ok (.string (bs R1)) w := fun w => sum_at w hR1 (by omega)
  have s2 : ∀ w : World, (Op.stringOp .add (bs R1) ⟨#[32]⟩).run Tryz.prog w = .ok (.string (bs R2)) w := fun w => sum_at w eR (by omega)
  have s3 : ∀ w : World, (Op.stringOp .add ⟨#[60, 63, 120, 109, 108, 32, 118, 101, 114, 115, 105, 111, 110, 61, 34, 49, 46, 48, 34, 63, 62]⟩ (bs A)).run Tryz.prog w = .ok (.string (bs A2)) w := fun w => sum_at w eA (by omega)
  obtain ⟨⟨l1, e1⟩, hx1⟩ : ∃ x, extractL R2 = x := ⟨_, rfl⟩
  obtain ⟨⟨l2, e2⟩, hx2⟩ : ∃ x, extractL A2 = x := ⟨_, rfl⟩
  rw [hx1, hx2] at HDoc
  have HX1 := Lib.hid (fun (W : World) (hF : Fr (fun _ => False) w W) => ext_at (HEv.out W hF) hx1 rfl (by omega))
  have HX2 := Lib.hid (fun (W : World) (hF : Fr (fun _ => False) w W) => ext_at (HEv.out W hF) hx2 rfl (by omega))
  have HLn := Lib.hid (And.intro (show l1.length ≤ 100 by have h := (extract_right R2).1.2.2; rw [hx1] at h; exact h) (show l2.length ≤ 100 by have h := (extract_right A2).1.2.2; rw [hx2] at h; exact h))
  clear hR hA hR2 hA2 hR1 eR eA hx1 hx2 hrl hal hl1 hl2 hl3 hs3 ht3
  go_enter Tryz.func21, Tryz.ntmps21
  go_wp2_with fail
  refine Calls.mono HS.out ?_
  rintro e w1 ⟨rfl, hF⟩
  have HF := Lib.hid hF
  clear hF
  go_wp2_with fail
  refine Calls.mono (HSm.out _ HF.out) ?_
  rintro e w2 ⟨rfl, rfl⟩
  go_wp2_with fail
  go_loopg [9] l.length (fun j v9 w' => ∃ W, W = w' ∧ ∃ i : Nat, i + j = l.length ∧ v9 = .int .i64 i ∧ Hid (Fr (fun _ => False) w W ∧ ∀ x ∈ l.take i, rightD x = true))
  case atStart => exact ⟨_, rfl, 0, by omega, rfl, HF.out, fun x hx => by simp at hx⟩
  case round =>
    obtain ⟨W, rfl, i, hi, rfl, HI⟩ := hrel
    by_cases hlt : i < l.length
    · obtain ⟨x, hx⟩ : ∃ x, l[i]? = some x := ⟨_, List.getElem?_eq_getElem hlt⟩
      obtain ⟨g, off, rfl, hc⟩ := (HV.out W HI.out.1).cells (by omega)
      obtain ⟨q0, q1, q2⟩ := hc i x hx
      have hsx := HAll.out.2 x (List.mem_of_getElem? hx)
      have HRx := Lib.hid (right_h (w := W) x (by unfold SmallI at hsx; omega))
      have HXx := Lib.hid (And.intro hx hi)
      clear hx hc hi hsx
      cases hrx : rightD x with
      | false =>
        rw [hrx] at HRx
        clear hrx
        go_wp2_with fail
        refine Calls.mono HRx.out ?_
        rintro e w3 ⟨rfl, hF⟩
        have HF3 := Lib.hid (HI.out.1.next hF)
        clear hF
        go_wp2_with fail
        go_ret
        exact ⟨rfl, HF3.out⟩
      | true =>
        have HN := Lib.hid (show ∀ y ∈ l.take (i + 1), rightD y = true from fun y hy => by
          rw [List.take_add_one, HXx.out.1] at hy
          rcases List.mem_append.1 hy with hy | hy
          · exact HI.out.2 y hy
          · have e : y = x := by simpa using hy
            rw [e]; exact hrx)
        rw [hrx] at HRx
        clear hrx
        go_wp2_with fail
        refine Calls.mono HRx.out ?_
        rintro e w3 ⟨rfl, hF⟩
        have HF3 := Lib.hid (HI.out.1.next hF)
        clear hF
        go_wp2_with fail
        go_roundg (l.length - (i + 1))
        case measure => have := HXx.out.2; omega
        case rel => exact ⟨_, rfl, i + 1, by have := HXx.out.2; omega, by go_num, HF3.out, HN.out⟩
    · have hil : l.length = i := by omega
      have hD := HDoc.out (by have h := HI.out.2; rw [← hil, List.take_length] at h; exact h)
      have HFi := Lib.hid HI.out.1
      clear hi hlt
      subst hil
      rcases hD with ⟨he, hll⟩ | ⟨he, hor⟩
      · subst he hll
        have t1 : (e1 == e1) = true := by simp
        go_wp2_with fail
        refine Calls.mono (HRs.out _ HFi.out) ?_
        rintro e w3 ⟨rfl, hF⟩
        have HF3 := Lib.hid (HFi.out.next hF)
        clear hF
        go_wp2_with fail
        refine Calls.mono (HX1.out _ HF3.out) ?_
        rintro e w4 ⟨a1, c1, rfl, hv1, hF⟩
        have HF4 := Lib.hid (HF3.out.next hF)
        have HV1 := Lib.hid hv1
        clear hF hv1
        go_wp2_with fail
        refine Calls.mono (HAt.out _ HF4.out) ?_
        rintro e w5 ⟨rfl, hF⟩
        have HF5 := Lib.hid (HF4.out.next hF)
        have HV1b := Lib.hid (HV1.out.fr hF fun _ _ h => h)
        clear hF
        go_wp2_with fail
        refine Calls.mono (HX2.out _ HF5.out) ?_
        rintro e w6 ⟨a2, c2, rfl, hv2, hF⟩
        have HF6 := Lib.hid (HF5.out.next hF)
        have HV2 := Lib.hid (And.intro (HV1b.out.fr hF fun _ _ h => h) hv2)
        clear hF hv2
        have HSame := Lib.hid (isame_at HV2.out.1 HV2.out.2 (by have := HLn.out.1; omega))
        go_wp2_with fail
        refine Calls.mono HSame.out ?_
        rintro e w7 ⟨rfl, hF⟩
        have HF7 := Lib.hid (HF6.out.next hF)
        clear hF
        go_wp2_with fail
        go_ret
        exact ⟨rfl, HF7.out⟩
      · have t1 : (e1 == e2) = false := beq_eq_false_iff_ne.2 he
        rcases hor with hor | ⟨hn, hor⟩
        · subst hor
          go_wp2_with fail
          refine Calls.mono (HRs.out _ HFi.out) ?_
          rintro e w3 ⟨rfl, hF⟩
          have HF3 := Lib.hid (HFi.out.next hF)
          clear hF
          go_wp2_with fail
          refine Calls.mono (HX1.out _ HF3.out) ?_
          rintro e w4 ⟨a1, c1, rfl, hv1, hF⟩
          have HF4 := Lib.hid (HF3.out.next hF)
          have HV1 := Lib.hid hv1
          clear hF hv1
          go_wp2_with fail
          refine Calls.mono (HAt.out _ HF4.out) ?_
          rintro e w5 ⟨rfl, hF⟩
          have HF5 := Lib.hid (HF4.out.next hF)
          have HV1b := Lib.hid (HV1.out.fr hF fun _ _ h => h)
          clear hF
          go_wp2_with fail
          refine Calls.mono (HX2.out _ HF5.out) ?_
          rintro e w6 ⟨a2, c2, rfl, hv2, hF⟩
          have HF6 := Lib.hid (HF5.out.next hF)
          have HV2 := Lib.hid (And.intro (HV1b.out.fr hF fun _ _ h => h) hv2)
          clear hF hv2
          go_wp2_with fail
          go_ret
          exact ⟨rfl, HF6.out⟩
        · subst hor
          have t2 : (e1 == 10) = false := beq_eq_false_iff_ne.2 hn
          go_wp2_with fail
          refine Calls.mono (HRs.out _ HFi.out) ?_
          rintro e w3 ⟨rfl, hF⟩
          have HF3 := Lib.hid (HFi.out.next hF)
          clear hF
          go_wp2_with fail
          refine Calls.mono (HX1.out _ HF3.out) ?_
          rintro e w4 ⟨a1, c1, rfl, hv1, hF⟩
          have HF4 := Lib.hid (HF3.out.next hF)
          have HV1 := Lib.hid hv1
          clear hF hv1
          go_wp2_with fail
          refine Calls.mono (HAt.out _ HF4.out) ?_
          rintro e w5 ⟨rfl, hF⟩
          have HF5 := Lib.hid (HF4.out.next hF)
          have HV1b := Lib.hid (HV1.out.fr hF fun _ _ h => h)
          clear hF
          go_wp2_with fail
          refine Calls.mono (HX2.out _ HF5.out) ?_
          rintro e w6 ⟨a2, c2, rfl, hv2, hF⟩
          have HF6 := Lib.hid (HF5.out.next hF)
          have HV2 := Lib.hid (And.intro (HV1b.out.fr hF fun _ _ h => h) hv2)
          clear hF hv2
          go_wp2_with fail
          go_ret
          exact ⟨rfl, HF6.out⟩
end Go.Proofs.YtpinjgdnhbogoaaGreatDoor
