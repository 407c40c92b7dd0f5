/- The walk of the law FeedBack. -/
import Derived.Test.YtpinjgdnhbogoaaGreatDoorFW8
namespace Go.Proofs.YtpinjgdnhbogoaaGreatDoor
open Go.RowKit Go.Lib

theorem with_mem {l : List ItemD} {x y : ItemD} (h : y ∈ withL l x) : y ∈ l ∨ y = x := by
  unfold withL at h
  split at h
  · exact .inl h
  · rcases List.mem_append.1 h with h | h
    · exact .inl h
    · exact .inr (by simpa using h)
theorem fold_mem : ∀ (m l : List ItemD) {y : ItemD}, y ∈ m.foldl withL l → y ∈ l ∨ y ∈ m
  | [], _, _, h => .inl h
  | x :: m, l, y, h => by
    rcases fold_mem m _ h with h | h
    · rcases with_mem h with h | h
      · exact .inl h
      · exact .inr (by rw [h]; exact List.mem_cons_self ..)
    · exact .inr (List.mem_cons_of_mem _ h)
theorem want_mem {l : List ItemD} {y : ItemD} (h : y ∈ wantL l) : y ∈ l := by
  rcases fold_mem _ _ h with h | h
  · cases h
  · exact (List.mem_filter.1 h).1
theorem want_step {l : List ItemD} {i : Nat} {x : ItemD} (hx : l[i]? = some x) : wantL (l.take (i + 1)) = if rightD x = true then withL (wantL (l.take i)) x else wantL (l.take i) := by
  obtain ⟨hi, e⟩ := List.getElem?_eq_some_iff.1 hx
  rw [want_take l i hi, e]
theorem right_id {x : ItemD} (h : rightD x = true) : x.id ≠ [] := by
  intro e
  unfold rightD at h
  rw [e] at h; cases h
theorem back_case {s : Str} {m : List ItemD} (h : s.length ≤ 20000 → extractL s = (m, 0)) : (20000 < s.length ∧ extractL s = ([], 10)) ∨ (s.length ≤ 20000 ∧ extractL s = (m, 0)) := by
  rcases Nat.lt_or_ge 20000 s.length with h1 | h1
  · exact .inl ⟨h1, extract_long h1⟩
  · exact .inr ⟨h1, h h1⟩
theorem item_len9 {x : ItemD} (h : SmallI x) : (itemW x).length ≤ 9100 ∧ (entryW x).length ≤ 9100 := by
  have h1 := esc_le x.id
  have h2 := esc_le x.title
  have h3 := esc_le x.link
  obtain ⟨a, b, c⟩ := h
  rw [item_cat, entry_cat]
  simp only [List.length_append, elem_len, List.length_cons, List.length_nil, nGuid, nTitle, nLink, nId]
  omega
theorem big_len {title : Str} {l : List ItemD} (ht : title.length ≤ 1000) (hl : l.length ≤ 100) (hs : ∀ x ∈ l, SmallI x) : (rssL title l).length ≤ 1000000 ∧ (atomL title l).length ≤ 1000000 := by
  have h1 := flatI_len (f := itemW) (b := 9100) (l := l) fun x hx => (item_len9 (hs x hx)).1
  have h5 := flatI_len (f := entryW) (b := 9100) (l := l) fun x hx => (item_len9 (hs x hx)).2
  have h2 := elem_len nTitle title
  have h3 := esc_le title
  have h4 : nTitle.length = 5 := rfl
  rw [rss_cat, atom_cat]
  simp only [List.length_append, List.length_cons, List.length_nil]
  omega
theorem own_items {W : World} {B c n : Nat} {a : Option Addr} {l : List ItemD} (h : W.ownsRow B 82 3 (.slice a n c) n (icells l)) (hn : l.length = n) : ItemsV W (fun k => k < W.heap.size) (.slice a n c) l := by
  subst hn; exact (SRow.of_owns h).mono fun k hk => (h.lt k hk).2
theorem want_end {l : List ItemD} {i : Nat} (h : i = l.length ∨ 100 ≤ (wantL (l.take i)).length) : wantL l = wantL (l.take i) := by
  rcases h with h | h
  · rw [h, List.take_length]
  · exact want_full l i h
set_option maxRecDepth 100000 in
set_option maxHeartbeats 16000000 in
theorem feedback_h {w : World} (hE : Env w) {v : Value} {l : List ItemD} (hv : ItemsV w (fun k => k < w.heap.size) v l) (title : Str) : Calls Tryz.prog 19 #[.string (bs title), v] w fun e w' => e = .returned (.bool true) ∧ Fr (fun _ => False) w w' := by
  have htz : (bs title).size = title.length := rfl
  obtain ⟨a, c, rfl, -, -⟩ := hv.shape
  have HS := Lib.hid (fshown_h hE)
  have HV := Lib.hid (fun (W : World) (hF : Fr (fun _ => False) w W) => show ItemsV W (fun k => k < W.heap.size) (.slice a l.length c) l from (hv.fr hF fun _ _ h => h).mono fun k hk => Nat.lt_of_lt_of_le hk hF.size)
  have HSm := Lib.hid (fun (W : World) (hF : Fr (fun _ => False) w W) => small_h (HV.out W hF))
  have HEv := Lib.hid (fun (W : World) (hF : Fr (fun _ => False) w W) => hE.grow hF)
  clear hE hv
  cases hsm : smallB l with
  | false =>
    rw [hsm] at HSm
    clear hsm
    go_enter Tryz.func19, Tryz.ntmps19
    go_wp2_with fail
    refine Calls.mono HS.out ?_
    rintro e w1 ⟨rfl, hF⟩
    have HF := Lib.hid hF
    clear hF
    go_wp2_with fail
    refine Calls.mono (HSm.out _ HF.out) ?_
    rintro e w2 ⟨rfl, rfl⟩
    go_wp2_with fail
    go_ret
    exact ⟨rfl, HF.out⟩
  | true =>
  have HAll := Lib.hid (small_all hsm)
  rw [hsm] at HSm
  clear hsm
  by_cases ht5 : 500 < title.length
  · have hti : (500 : Int) < (title.length : Int) := by omega
    clear ht5
    go_enter Tryz.func19, Tryz.ntmps19
    go_wp2_with fail
    refine Calls.mono HS.out ?_
    rintro e w1 ⟨rfl, hF⟩
    have HF := Lib.hid hF
    clear hF
    go_wp2_with fail
    refine Calls.mono (HSm.out _ HF.out) ?_
    rintro e w2 ⟨rfl, rfl⟩
    go_wp2_with fail
    go_ret
    exact ⟨rfl, HF.out⟩
  have hti : ¬ (500 : Int) < (title.length : Int) := by omega
  have HTl := Lib.hid (show title.length ≤ 500 by omega)
  clear ht5
  obtain ⟨i82, hi82, hz82, hs82, hb82⟩ := info_parts info82
  go_enter Tryz.func19, Tryz.ntmps19
  go_wp2_with fail
  refine Calls.mono HS.out ?_
  rintro e w1 ⟨rfl, hF⟩
  have HF := Lib.hid hF
  clear hF
  go_wp2_with fail
  refine Calls.mono (HSm.out _ HF.out) ?_
  rintro e w2 ⟨rfl, rfl⟩
  go_wp2_with fail
  go_loopg [7, 8] l.length (fun j v6 v7 w' => ∃ W, W = w' ∧ ∃ (i : Nat) (out : List ItemD) (oa : Option Addr) (oc : Nat), v6 = .slice oa (List.length (α := ItemD) out) oc ∧ i + j = l.length ∧ v7 = .int .i64 i ∧ Hid (Fr (fun _ => False) w W ∧ W.ownsRow w.heap.size 82 3 (.slice oa out.length oc) out.length (icells out) ∧ wantL (l.take i) = out ∧ out.length ≤ 100))
  case atStart => exact ⟨_, rfl, 0, [], none, 0, rfl, by omega, rfl, HF.out, World.ownsRow_nil _ _ _ _, by rw [List.take_zero]; rfl, Nat.zero_le _⟩
  case round =>
    obtain ⟨W, rfl, i, out, oa, oc, rfl, hi, rfl, HI⟩ := hrel
    have hl120 := HAll.out.1
    by_cases hlt : i < l.length
    · by_cases hfull : out.length < 100
      · have hfi : (out.length : Int) < 100 := by omega
        obtain ⟨x, hx⟩ : ∃ x, l[i]? = some x := ⟨_, List.getElem?_eq_getElem hlt⟩
        obtain ⟨g, off, rfl, hc⟩ := (HV.out W HI.out.1).cells (by omega)
        obtain ⟨q0, q1, q2⟩ := hc i x hx
        have hsx := HAll.out.2 x (List.mem_of_getElem? hx)
        have HRx := Lib.hid (right_h (w := W) x (by unfold SmallI at hsx; omega))
        have HXx := Lib.hid (And.intro hx hi)
        have HW := Lib.hid (show wantL (l.take (i + 1)) = _ from want_step hx)
        rw [HI.out.2.2.1] at HW
        clear hx hc hi hsx
        cases hrx : rightD x with
        | false =>
          rw [hrx] at HRx HW
          clear hrx
          have HW2 := Lib.hid (show wantL (l.take (i + 1)) = out from HW.out.trans (if_neg (by decide)))
          go_wp2_with fail
          refine Calls.mono HRx.out ?_
          rintro e w4 ⟨rfl, hF⟩
          have HF4 := Lib.hid (And.intro (HI.out.1.next hF) (ownsRow_fr HI.out.2.1 hF))
          clear hF q0 q1 q2
          go_wp2_with fail
          go_roundg (l.length - (i + 1))
          case measure => have := HXx.out.2; omega
          case rel => exact ⟨_, rfl, i + 1, out, oa, oc, rfl, by have := HXx.out.2; omega, by go_num, HF4.out.1, HF4.out.2, HW2.out, by omega⟩
        | true =>
          have HId := Lib.hid (right_id hrx)
          rw [hrx] at HRx HW
          clear hrx
          go_wp2_with fail
          refine Calls.mono HRx.out ?_
          rintro e w4 ⟨rfl, hF⟩
          have HF4 := Lib.hid (HI.out.1.next hF)
          have HO4 := Lib.hid (ownsRow_fr HI.out.2.1 hF)
          have p0 := hF.cell q0 (fun h => h)
          have p1 := hF.cell q1 (fun h => h)
          have p2 := hF.cell q2 (fun h => h)
          have HH4 := Lib.hid (ihas_h (w := w4) (SRow.of_owns HO4.out) x.id (by omega))
          clear hF q0 q1 q2
          cases hh : hasI out x.id with
          | true =>
            have HW2 := Lib.hid (show wantL (l.take (i + 1)) = out from HW.out.trans ((if_pos trivial).trans (with_has hh)))
            rw [hh] at HH4
            clear hh
            go_wp2_with fail
            refine Calls.mono HH4.out ?_
            rintro e w5 ⟨rfl, rfl⟩
            go_wp2_with fail
            go_roundg (l.length - (i + 1))
            case measure => have := HXx.out.2; omega
            case rel => exact ⟨_, rfl, i + 1, out, oa, oc, rfl, by have := HXx.out.2; omega, by go_num, HF4.out, HO4.out, HW2.out, by omega⟩
          | false =>
            have HW2 := Lib.hid (show wantL (l.take (i + 1)) = out ++ [x] from HW.out.trans ((if_pos trivial).trans (with_new HId.out hfull hh)))
            rw [hh] at HH4
            clear hh
            have HFA : Hid (Fr (fun _ => False) w4 (w4.alloc (.cells #[.string (bs x.id), .string (bs x.title), .string (bs x.link)] 82))) := (Fr.refl _ _).alloc _
            go_wp2_with fail
            refine Calls.mono HH4.out ?_
            rintro e w5 ⟨rfl, rfl⟩
            go_wp2_with ((at_builtin; refine wpList_append_row rfl (.tmp 60) (.tmp 65) 84 rfl w.heap.size 82 i82 (.agg #[.string ⟨#[]⟩, .string ⟨#[]⟩, .string ⟨#[]⟩]) 3 48 Tryz.underlying84 hi82 hz82 hs82 hb82 rfl (by decide) (.slice oa out.length oc) out.length (icells out) rfl (ownsRow_fr HO4.out HFA.out) (fun _ => True) _ 1 (icells [x]) rfl (SRow.of_block (e := 82) (f := (0, 0)) (block_new _ _) rfl (by decide) trivial) (fun u hu => icells_one u hu) (by unfold maxLen; omega) (by omega) (Nat.le_trans HF4.out.size HFA.out.size) ?_; intro b9 cap9 w9 hown9 hgrow9 _; have HO9 : Hid (w9.ownsRow w.heap.size 82 3 (.slice b9 (out.length + 1) cap9) (out.length + 1) (icells (out ++ [x]))) := (by have h := hown9; rw [← icells_app] at h; exact h); have HF9 := Lib.hid ((HF4.out.next HFA.out).grown hgrow9 (fun k hk => .inr (HO4.out.lt k hk).1)); clear hown9 hgrow9))
            go_roundg (l.length - (i + 1))
            case measure => have := HXx.out.2; omega
            case rel => exact ⟨_, rfl, i + 1, out ++ [x], b9, cap9, by rw [List.length_append]; rfl, by have := HXx.out.2; omega, by go_num, HF9.out, by rw [List.length_append]; exact HO9.out, HW2.out, by rw [List.length_append]; simp only [List.length_cons, List.length_nil]; omega⟩
      · have hfi : ¬ (out.length : Int) < 100 := by omega
        have hwe := want_end (l := l) (i := i) (.inr (by rw [HI.out.2.2.1]; omega))
        have HSo := Lib.hid (fun y (hy : y ∈ out) => HAll.out.2 y (want_mem (l := l) (by rw [hwe, HI.out.2.2.1]; exact hy)))
        have HFi := Lib.hid HI.out.1
        have hbl := big_len (title := title) (l := out) (by have := HTl.out; omega) (by have := HI.out.2.2.2; omega) HSo.out
        have hc1 := back_case (s := rssL title out) (m := out) (fun h => by rw [← HI.out.2.2.1, ← hwe] at h ⊢; exact back_rss title l h)
        have hc2 := back_case (s := atomL title out) (m := out) (fun h => by rw [← HI.out.2.2.1, ← hwe] at h ⊢; exact back_atom title l h)
        have hol := HI.out.2.2.2
        obtain ⟨n, hn⟩ : ∃ n, out.length = n := ⟨_, rfl⟩
        have HO := Lib.hid (show W.ownsRow w.heap.size 82 3 (.slice oa n oc) n (icells out) by rw [← hn]; exact HI.out.2.1)
        have HN := Lib.hid hn
        have HRs := Lib.hid (rssdoc_h (w := W) (v := .slice oa n oc) (l := out) title (own_items HO.out HN.out) (by have := HTl.out; omega) (by omega) HSo.out)
        obtain ⟨R, hR⟩ : ∃ R, rssL title out = R := ⟨_, rfl⟩
        obtain ⟨A, hA⟩ : ∃ A, atomL title out = A := ⟨_, rfl⟩
        rw [hR] at HRs hbl hc1
        rw [hA] at hbl hc2
        rw [hn] at hol
        have HB := Lib.hid hol
        have hRz : (bs R).size = R.length := rfl
        have hAz : (bs A).size = A.length := rfl
        rw [hn] at hfi ⊢
        clear hwe hn hR hl120 hi
        rcases hc1 with ⟨h1, hx1⟩ | ⟨h1, hx1⟩
        · have h1i : (20000 : Int) < (R.length : Int) := by omega
          have HX1 := Lib.hid (fun (W : World) (hF : Fr (fun _ => False) w W) => ext_at (n := 0) (HEv.out W hF) hx1 rfl (by omega))
          clear hx1 h1
          rcases hc2 with ⟨h2, hx2⟩ | ⟨h2, hx2⟩
          · have h2i : (20000 : Int) < (A.length : Int) := by omega
            have HX2 := Lib.hid (fun (W : World) (hF : Fr (fun _ => False) w W) => ext_at (n := 0) (HEv.out W hF) hx2 rfl (by omega))
            clear hx2 h2 hbl hol
            go_wp2_with fail
            refine Calls.mono HRs.out ?_
            rintro e w3 ⟨rfl, hF⟩
            have HF3 := Lib.hid (HFi.out.next hF)
            have HA3 := Lib.hid (atomdoc_h (w := w3) (v := .slice oa n oc) (l := out) title (own_items (ownsRow_fr HO.out hF) HN.out) (by have := HTl.out; omega) (by have := HN.out; have := HB.out; omega) HSo.out)
            rw [hA] at HA3
            have HO3 := Lib.hid (ownsRow_fr HO.out hF)
            clear hF
            go_wp2_with fail
            refine Calls.mono HA3.out ?_
            rintro e w4 ⟨rfl, hF⟩
            have HF4 := Lib.hid (HF3.out.next hF)
            have HO4 := Lib.hid (ownsRow_fr HO3.out hF)
            clear hF
            go_wp2_with fail
            refine Calls.mono (HX1.out _ HF4.out) ?_
            rintro e w5 ⟨a1, c1, rfl, hv1, hF⟩
            have HF5 := Lib.hid (HF4.out.next hF)
            have HO5 := Lib.hid (ownsRow_fr HO4.out hF)
            have HV1 := Lib.hid hv1
            clear hF hv1
            go_wp2_with fail
            refine Calls.mono (HX2.out _ HF5.out) ?_
            rintro e w6 ⟨a2, c2, rfl, hv2, hF⟩
            have HF6 := Lib.hid (HF5.out.next hF)
            have HO6 := Lib.hid (ownsRow_fr HO5.out hF)
            have HV2 := Lib.hid (And.intro (HV1.out.fr hF fun _ _ h => h) hv2)
            clear hF hv2
            go_wp2_with fail
            go_ret
            exact ⟨rfl, HF6.out⟩
          · have h2i : ¬ (20000 : Int) < (A.length : Int) := by omega
            have HX2 := Lib.hid (fun (W : World) (hF : Fr (fun _ => False) w W) => ext_at (n := n) (HEv.out W hF) hx2 HN.out (by omega))
            clear hx2 h2 hbl hol
            go_wp2_with fail
            refine Calls.mono HRs.out ?_
            rintro e w3 ⟨rfl, hF⟩
            have HF3 := Lib.hid (HFi.out.next hF)
            have HA3 := Lib.hid (atomdoc_h (w := w3) (v := .slice oa n oc) (l := out) title (own_items (ownsRow_fr HO.out hF) HN.out) (by have := HTl.out; omega) (by have := HN.out; have := HB.out; omega) HSo.out)
            rw [hA] at HA3
            have HO3 := Lib.hid (ownsRow_fr HO.out hF)
            clear hF
            go_wp2_with fail
            refine Calls.mono HA3.out ?_
            rintro e w4 ⟨rfl, hF⟩
            have HF4 := Lib.hid (HF3.out.next hF)
            have HO4 := Lib.hid (ownsRow_fr HO3.out hF)
            clear hF
            go_wp2_with fail
            refine Calls.mono (HX1.out _ HF4.out) ?_
            rintro e w5 ⟨a1, c1, rfl, hv1, hF⟩
            have HF5 := Lib.hid (HF4.out.next hF)
            have HO5 := Lib.hid (ownsRow_fr HO4.out hF)
            have HV1 := Lib.hid hv1
            clear hF hv1
            go_wp2_with fail
            refine Calls.mono (HX2.out _ HF5.out) ?_
            rintro e w6 ⟨a2, c2, rfl, hv2, hF⟩
            have HF6 := Lib.hid (HF5.out.next hF)
            have HO6 := Lib.hid (ownsRow_fr HO5.out hF)
            have HV2 := Lib.hid (And.intro (HV1.out.fr hF fun _ _ h => h) hv2)
            clear hF hv2
            have HSame := Lib.hid (isame_at HV2.out.2 (own_items HO6.out HN.out) (by have := HN.out; have := HB.out; omega))
            go_wp2_with fail
            refine Calls.mono HSame.out ?_
            rintro e w7 ⟨rfl, hF⟩
            have HF7 := Lib.hid (HF6.out.next hF)
            clear hF
            go_wp2_with fail
            go_ret
            exact ⟨rfl, HF7.out⟩
        · have h1i : ¬ (20000 : Int) < (R.length : Int) := by omega
          have HX1 := Lib.hid (fun (W : World) (hF : Fr (fun _ => False) w W) => ext_at (n := n) (HEv.out W hF) hx1 HN.out (by omega))
          clear hx1 h1
          rcases hc2 with ⟨h2, hx2⟩ | ⟨h2, hx2⟩
          · have h2i : (20000 : Int) < (A.length : Int) := by omega
            have HX2 := Lib.hid (fun (W : World) (hF : Fr (fun _ => False) w W) => ext_at (n := 0) (HEv.out W hF) hx2 rfl (by omega))
            clear hx2 h2 hbl hol
            go_wp2_with fail
            refine Calls.mono HRs.out ?_
            rintro e w3 ⟨rfl, hF⟩
            have HF3 := Lib.hid (HFi.out.next hF)
            have HA3 := Lib.hid (atomdoc_h (w := w3) (v := .slice oa n oc) (l := out) title (own_items (ownsRow_fr HO.out hF) HN.out) (by have := HTl.out; omega) (by have := HN.out; have := HB.out; omega) HSo.out)
            rw [hA] at HA3
            have HO3 := Lib.hid (ownsRow_fr HO.out hF)
            clear hF
            go_wp2_with fail
            refine Calls.mono HA3.out ?_
            rintro e w4 ⟨rfl, hF⟩
            have HF4 := Lib.hid (HF3.out.next hF)
            have HO4 := Lib.hid (ownsRow_fr HO3.out hF)
            clear hF
            go_wp2_with fail
            refine Calls.mono (HX1.out _ HF4.out) ?_
            rintro e w5 ⟨a1, c1, rfl, hv1, hF⟩
            have HF5 := Lib.hid (HF4.out.next hF)
            have HO5 := Lib.hid (ownsRow_fr HO4.out hF)
            have HV1 := Lib.hid hv1
            clear hF hv1
            go_wp2_with fail
            refine Calls.mono (HX2.out _ HF5.out) ?_
            rintro e w6 ⟨a2, c2, rfl, hv2, hF⟩
            have HF6 := Lib.hid (HF5.out.next hF)
            have HO6 := Lib.hid (ownsRow_fr HO5.out hF)
            have HV2 := Lib.hid (And.intro (HV1.out.fr hF fun _ _ h => h) hv2)
            clear hF hv2
            have HSame := Lib.hid (isame_at HV2.out.1 (own_items HO6.out HN.out) (by have := HN.out; have := HB.out; omega))
            go_wp2_with fail
            refine Calls.mono HSame.out ?_
            rintro e w7 ⟨rfl, hF⟩
            have HF7 := Lib.hid (HF6.out.next hF)
            clear hF
            go_wp2_with fail
            go_ret
            exact ⟨rfl, HF7.out⟩
          · have h2i : ¬ (20000 : Int) < (A.length : Int) := by omega
            have HX2 := Lib.hid (fun (W : World) (hF : Fr (fun _ => False) w W) => ext_at (n := n) (HEv.out W hF) hx2 HN.out (by omega))
            clear hx2 h2 hbl hol
            go_wp2_with fail
            refine Calls.mono HRs.out ?_
            rintro e w3 ⟨rfl, hF⟩
            have HF3 := Lib.hid (HFi.out.next hF)
            have HA3 := Lib.hid (atomdoc_h (w := w3) (v := .slice oa n oc) (l := out) title (own_items (ownsRow_fr HO.out hF) HN.out) (by have := HTl.out; omega) (by have := HN.out; have := HB.out; omega) HSo.out)
            rw [hA] at HA3
            have HO3 := Lib.hid (ownsRow_fr HO.out hF)
            clear hF
            go_wp2_with fail
            refine Calls.mono HA3.out ?_
            rintro e w4 ⟨rfl, hF⟩
            have HF4 := Lib.hid (HF3.out.next hF)
            have HO4 := Lib.hid (ownsRow_fr HO3.out hF)
            clear hF
            go_wp2_with fail
            refine Calls.mono (HX1.out _ HF4.out) ?_
            rintro e w5 ⟨a1, c1, rfl, hv1, hF⟩
            have HF5 := Lib.hid (HF4.out.next hF)
            have HO5 := Lib.hid (ownsRow_fr HO4.out hF)
            have HV1 := Lib.hid hv1
            clear hF hv1
            go_wp2_with fail
            refine Calls.mono (HX2.out _ HF5.out) ?_
            rintro e w6 ⟨a2, c2, rfl, hv2, hF⟩
            have HF6 := Lib.hid (HF5.out.next hF)
            have HO6 := Lib.hid (ownsRow_fr HO5.out hF)
            have HV2 := Lib.hid (And.intro (HV1.out.fr hF fun _ _ h => h) hv2)
            clear hF hv2
            have HSame := Lib.hid (isame_at HV2.out.1 (own_items HO6.out HN.out) (by have := HN.out; have := HB.out; omega))
            go_wp2_with fail
            refine Calls.mono HSame.out ?_
            rintro e w7 ⟨rfl, hF⟩
            have HF7 := Lib.hid (HF6.out.next hF)
            have HO7 := Lib.hid (ownsRow_fr HO6.out hF)
            have HSame2 := Lib.hid (isame_at (HV2.out.2.fr hF fun _ _ h => h) (own_items HO7.out HN.out) (by have := HN.out; have := HB.out; omega))
            clear hF
            go_wp2_with fail
            refine Calls.mono HSame2.out ?_
            rintro e w8 ⟨rfl, hF⟩
            have HF8 := Lib.hid (HF7.out.next hF)
            clear hF
            go_wp2_with fail
            go_ret
            exact ⟨rfl, HF8.out⟩
    · have hwe := want_end (l := l) (i := i) (.inl (by omega))
      have HSo := Lib.hid (fun y (hy : y ∈ out) => HAll.out.2 y (want_mem (l := l) (by rw [hwe, HI.out.2.2.1]; exact hy)))
      have HFi := Lib.hid HI.out.1
      have hbl := big_len (title := title) (l := out) (by have := HTl.out; omega) (by have := HI.out.2.2.2; omega) HSo.out
      have hc1 := back_case (s := rssL title out) (m := out) (fun h => by rw [← HI.out.2.2.1, ← hwe] at h ⊢; exact back_rss title l h)
      have hc2 := back_case (s := atomL title out) (m := out) (fun h => by rw [← HI.out.2.2.1, ← hwe] at h ⊢; exact back_atom title l h)
      have hol := HI.out.2.2.2
      obtain ⟨n, hn⟩ : ∃ n, out.length = n := ⟨_, rfl⟩
      have HO := Lib.hid (show W.ownsRow w.heap.size 82 3 (.slice oa n oc) n (icells out) by rw [← hn]; exact HI.out.2.1)
      have HN := Lib.hid hn
      have HRs := Lib.hid (rssdoc_h (w := W) (v := .slice oa n oc) (l := out) title (own_items HO.out HN.out) (by have := HTl.out; omega) (by omega) HSo.out)
      obtain ⟨R, hR⟩ : ∃ R, rssL title out = R := ⟨_, rfl⟩
      obtain ⟨A, hA⟩ : ∃ A, atomL title out = A := ⟨_, rfl⟩
      rw [hR] at HRs hbl hc1
      rw [hA] at hbl hc2
      rw [hn] at hol
      have HB := Lib.hid hol
      have hRz : (bs R).size = R.length := rfl
      have hAz : (bs A).size = A.length := rfl
      rw [hn]
      clear hwe hn hR hl120 hi
      rcases hc1 with ⟨h1, hx1⟩ | ⟨h1, hx1⟩
      · have h1i : (20000 : Int) < (R.length : Int) := by omega
        have HX1 := Lib.hid (fun (W : World) (hF : Fr (fun _ => False) w W) => ext_at (n := 0) (HEv.out W hF) hx1 rfl (by omega))
        clear hx1 h1
        rcases hc2 with ⟨h2, hx2⟩ | ⟨h2, hx2⟩
        · have h2i : (20000 : Int) < (A.length : Int) := by omega
          have HX2 := Lib.hid (fun (W : World) (hF : Fr (fun _ => False) w W) => ext_at (n := 0) (HEv.out W hF) hx2 rfl (by omega))
          clear hx2 h2 hbl hol
          go_wp2_with fail
          refine Calls.mono HRs.out ?_
          rintro e w3 ⟨rfl, hF⟩
          have HF3 := Lib.hid (HFi.out.next hF)
          have HA3 := Lib.hid (atomdoc_h (w := w3) (v := .slice oa n oc) (l := out) title (own_items (ownsRow_fr HO.out hF) HN.out) (by have := HTl.out; omega) (by have := HN.out; have := HB.out; omega) HSo.out)
          rw [hA] at HA3
          have HO3 := Lib.hid (ownsRow_fr HO.out hF)
          clear hF
          go_wp2_with fail
          refine Calls.mono HA3.out ?_
          rintro e w4 ⟨rfl, hF⟩
          have HF4 := Lib.hid (HF3.out.next hF)
          have HO4 := Lib.hid (ownsRow_fr HO3.out hF)
          clear hF
          go_wp2_with fail
          refine Calls.mono (HX1.out _ HF4.out) ?_
          rintro e w5 ⟨a1, c1, rfl, hv1, hF⟩
          have HF5 := Lib.hid (HF4.out.next hF)
          have HO5 := Lib.hid (ownsRow_fr HO4.out hF)
          have HV1 := Lib.hid hv1
          clear hF hv1
          go_wp2_with fail
          refine Calls.mono (HX2.out _ HF5.out) ?_
          rintro e w6 ⟨a2, c2, rfl, hv2, hF⟩
          have HF6 := Lib.hid (HF5.out.next hF)
          have HO6 := Lib.hid (ownsRow_fr HO5.out hF)
          have HV2 := Lib.hid (And.intro (HV1.out.fr hF fun _ _ h => h) hv2)
          clear hF hv2
          go_wp2_with fail
          go_ret
          exact ⟨rfl, HF6.out⟩
        · have h2i : ¬ (20000 : Int) < (A.length : Int) := by omega
          have HX2 := Lib.hid (fun (W : World) (hF : Fr (fun _ => False) w W) => ext_at (n := n) (HEv.out W hF) hx2 HN.out (by omega))
          clear hx2 h2 hbl hol
          go_wp2_with fail
          refine Calls.mono HRs.out ?_
          rintro e w3 ⟨rfl, hF⟩
          have HF3 := Lib.hid (HFi.out.next hF)
          have HA3 := Lib.hid (atomdoc_h (w := w3) (v := .slice oa n oc) (l := out) title (own_items (ownsRow_fr HO.out hF) HN.out) (by have := HTl.out; omega) (by have := HN.out; have := HB.out; omega) HSo.out)
          rw [hA] at HA3
          have HO3 := Lib.hid (ownsRow_fr HO.out hF)
          clear hF
          go_wp2_with fail
          refine Calls.mono HA3.out ?_
          rintro e w4 ⟨rfl, hF⟩
          have HF4 := Lib.hid (HF3.out.next hF)
          have HO4 := Lib.hid (ownsRow_fr HO3.out hF)
          clear hF
          go_wp2_with fail
          refine Calls.mono (HX1.out _ HF4.out) ?_
          rintro e w5 ⟨a1, c1, rfl, hv1, hF⟩
          have HF5 := Lib.hid (HF4.out.next hF)
          have HO5 := Lib.hid (ownsRow_fr HO4.out hF)
          have HV1 := Lib.hid hv1
          clear hF hv1
          go_wp2_with fail
          refine Calls.mono (HX2.out _ HF5.out) ?_
          rintro e w6 ⟨a2, c2, rfl, hv2, hF⟩
          have HF6 := Lib.hid (HF5.out.next hF)
          have HO6 := Lib.hid (ownsRow_fr HO5.out hF)
          have HV2 := Lib.hid (And.intro (HV1.out.fr hF fun _ _ h => h) hv2)
          clear hF hv2
          have HSame := Lib.hid (isame_at HV2.out.2 (own_items HO6.out HN.out) (by have := HN.out; have := HB.out; omega))
          go_wp2_with fail
          refine Calls.mono HSame.out ?_
          rintro e w7 ⟨rfl, hF⟩
          have HF7 := Lib.hid (HF6.out.next hF)
          clear hF
          go_wp2_with fail
          go_ret
          exact ⟨rfl, HF7.out⟩
      · have h1i : ¬ (20000 : Int) < (R.length : Int) := by omega
        have HX1 := Lib.hid (fun (W : World) (hF : Fr (fun _ => False) w W) => ext_at (n := n) (HEv.out W hF) hx1 HN.out (by omega))
        clear hx1 h1
        rcases hc2 with ⟨h2, hx2⟩ | ⟨h2, hx2⟩
        · have h2i : (20000 : Int) < (A.length : Int) := by omega
          have HX2 := Lib.hid (fun (W : World) (hF : Fr (fun _ => False) w W) => ext_at (n := 0) (HEv.out W hF) hx2 rfl (by omega))
          clear hx2 h2 hbl hol
          go_wp2_with fail
          refine Calls.mono HRs.out ?_
          rintro e w3 ⟨rfl, hF⟩
          have HF3 := Lib.hid (HFi.out.next hF)
          have HA3 := Lib.hid (atomdoc_h (w := w3) (v := .slice oa n oc) (l := out) title (own_items (ownsRow_fr HO.out hF) HN.out) (by have := HTl.out; omega) (by have := HN.out; have := HB.out; omega) HSo.out)
          rw [hA] at HA3
          have HO3 := Lib.hid (ownsRow_fr HO.out hF)
          clear hF
          go_wp2_with fail
          refine Calls.mono HA3.out ?_
          rintro e w4 ⟨rfl, hF⟩
          have HF4 := Lib.hid (HF3.out.next hF)
          have HO4 := Lib.hid (ownsRow_fr HO3.out hF)
          clear hF
          go_wp2_with fail
          refine Calls.mono (HX1.out _ HF4.out) ?_
          rintro e w5 ⟨a1, c1, rfl, hv1, hF⟩
          have HF5 := Lib.hid (HF4.out.next hF)
          have HO5 := Lib.hid (ownsRow_fr HO4.out hF)
          have HV1 := Lib.hid hv1
          clear hF hv1
          go_wp2_with fail
          refine Calls.mono (HX2.out _ HF5.out) ?_
          rintro e w6 ⟨a2, c2, rfl, hv2, hF⟩
          have HF6 := Lib.hid (HF5.out.next hF)
          have HO6 := Lib.hid (ownsRow_fr HO5.out hF)
          have HV2 := Lib.hid (And.intro (HV1.out.fr hF fun _ _ h => h) hv2)
          clear hF hv2
          have HSame := Lib.hid (isame_at HV2.out.1 (own_items HO6.out HN.out) (by have := HN.out; have := HB.out; omega))
          go_wp2_with fail
          refine Calls.mono HSame.out ?_
          rintro e w7 ⟨rfl, hF⟩
          have HF7 := Lib.hid (HF6.out.next hF)
          clear hF
          go_wp2_with fail
          go_ret
          exact ⟨rfl, HF7.out⟩
        · have h2i : ¬ (20000 : Int) < (A.length : Int) := by omega
          have HX2 := Lib.hid (fun (W : World) (hF : Fr (fun _ => False) w W) => ext_at (n := n) (HEv.out W hF) hx2 HN.out (by omega))
          clear hx2 h2 hbl hol
          go_wp2_with fail
          refine Calls.mono HRs.out ?_
          rintro e w3 ⟨rfl, hF⟩
          have HF3 := Lib.hid (HFi.out.next hF)
          have HA3 := Lib.hid (atomdoc_h (w := w3) (v := .slice oa n oc) (l := out) title (own_items (ownsRow_fr HO.out hF) HN.out) (by have := HTl.out; omega) (by have := HN.out; have := HB.out; omega) HSo.out)
          rw [hA] at HA3
          have HO3 := Lib.hid (ownsRow_fr HO.out hF)
          clear hF
          go_wp2_with fail
          refine Calls.mono HA3.out ?_
          rintro e w4 ⟨rfl, hF⟩
          have HF4 := Lib.hid (HF3.out.next hF)
          have HO4 := Lib.hid (ownsRow_fr HO3.out hF)
          clear hF
          go_wp2_with fail
          refine Calls.mono (HX1.out _ HF4.out) ?_
          rintro e w5 ⟨a1, c1, rfl, hv1, hF⟩
          have HF5 := Lib.hid (HF4.out.next hF)
          have HO5 := Lib.hid (ownsRow_fr HO4.out hF)
          have HV1 := Lib.hid hv1
          clear hF hv1
          go_wp2_with fail
          refine Calls.mono (HX2.out _ HF5.out) ?_
          rintro e w6 ⟨a2, c2, rfl, hv2, hF⟩
          have HF6 := Lib.hid (HF5.out.next hF)
          have HO6 := Lib.hid (ownsRow_fr HO5.out hF)
          have HV2 := Lib.hid (And.intro (HV1.out.fr hF fun _ _ h => h) hv2)
          clear hF hv2
          have HSame := Lib.hid (isame_at HV2.out.1 (own_items HO6.out HN.out) (by have := HN.out; have := HB.out; omega))
          go_wp2_with fail
          refine Calls.mono HSame.out ?_
          rintro e w7 ⟨rfl, hF⟩
          have HF7 := Lib.hid (HF6.out.next hF)
          have HO7 := Lib.hid (ownsRow_fr HO6.out hF)
          have HSame2 := Lib.hid (isame_at (HV2.out.2.fr hF fun _ _ h => h) (own_items HO7.out HN.out) (by have := HN.out; have := HB.out; omega))
          clear hF
          go_wp2_with fail
          refine Calls.mono HSame2.out ?_
          rintro e w8 ⟨rfl, hF⟩
          have HF8 := Lib.hid (HF7.out.next hF)
          clear hF
          go_wp2_with fail
          go_ret
          exact ⟨rfl, HF8.out⟩
end Go.Proofs.YtpinjgdnhbogoaaGreatDoor
