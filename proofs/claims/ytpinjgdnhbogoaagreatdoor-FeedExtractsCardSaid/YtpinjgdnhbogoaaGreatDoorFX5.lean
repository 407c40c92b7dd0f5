/- The reference's Extract; the law FeedExtracts: walked. -/
import Derived.Test.YtpinjgdnhbogoaaGreatDoorFX4


namespace Go.Proofs.YtpinjgdnhbogoaaGreatDoor
open Go.RowKit Go.Lib

set_option maxRecDepth 100000 in
set_option maxHeartbeats 8000000 in
theorem rextract_h {w : World} (s : Str) (hs : s.length ≤ 100000) : Calls Tryz.prog 57 #[.string (bs s)] w (ExtPost (extractL s) w) := by
  have HP := Lib.hid (rparse_h (w := w) s hs)
  cases hp : parseL s with
  | error er =>
    have HE := Lib.hid (ext_err hp)
    have hne := parse_ne hp
    have t1 : (er != 0) = true := by rw [bne_iff_ne]; exact hne
    have t2 : (er == 0) = false := beq_eq_false_iff_ne.2 hne
    rw [hp] at HP
    clear hp hne
    go_enter Tryz.func57, Tryz.ntmps57
    go_wp2_with fail
    refine Calls.mono HP.out ?_
    rintro e w1 ⟨c0, c1, c2, c3, rfl, ⟨s0, b1, n1, q1, s2, b3, n3, q3, rfl, rfl, rfl, rfl⟩, hF, -⟩
    have ho : outE (Except.error (α := NodeD) er) = er := rfl
    have HF := Lib.hid (hF.alloc (.cells #[.string s0, .slice b1 n1 q1, .string s2, .slice b3 n3 q3] 37))
    clear hF
    rw [ho]
    go_wp2_with fail
    go_ret2
    exact ext_none HE.out HF.out
  | ok n =>
    have HZ := Lib.hid (parse_nsz hp)
    have HPk := Lib.hid hp
    rw [hp] at HP
    clear hp
    cases hi : itemsL n with
    | none =>
      have HE := Lib.hid (ext_bad HPk.out hi)
      have HIn := Lib.hid hi
      clear hi
      go_enter Tryz.func57, Tryz.ntmps57
      go_wp2_with fail
      refine Calls.mono HP.out ?_
      rintro e w1 ⟨c0, c1, c2, c3, rfl, ⟨s0, b1, n1, q1, s2, b3, n3, q3, rfl, rfl, rfl, rfl⟩, hF, hnv⟩
      have ho : outE (Except.ok (ε := Int) n) = 0 := rfl
      have hFa := (Fr.refl (fun _ => False) w1).alloc (.cells #[.string s0, .slice b1 n1 q1, .string s2, .slice b3 n3 q3] 37)
      have HF := Lib.hid (hF.next hFa)
      have HIt := Lib.hid (ritems_h (n := n) (NodeV.fr hFa (fun _ _ h => h) n hnv) (fun k hk => Nat.lt_of_lt_of_le (hk.resolve_left id).2 hFa.size) HZ.out)
      have hb := block_new w1 (.cells #[.string s0, .slice b1 n1 q1, .string s2, .slice b3 n3 q3] 37)
      have v0 := cell_of hb (i := 0) (v := .string s0) rfl
      have v1 := cell_of hb (i := 1) (v := .slice b1 n1 q1) rfl
      have v2 := cell_of hb (i := 2) (v := .string s2) rfl
      have v3 := cell_of hb (i := 3) (v := .slice b3 n3 q3) rfl
      clear hF hnv hFa hb
      rw [ho]
      go_wp2_with fail
      refine Calls.mono HIt.out ?_
      rw [HIn.out]
      rintro e w2 ⟨rfl, hF⟩
      have HF2 := Lib.hid (HF.out.next hF)
      clear hF
      go_wp2_with fail
      go_ret2
      exact ext_none HE.out HF2.out
    | some l =>
      have HE := Lib.hid (ext_ok HPk.out hi)
      have HIn := Lib.hid hi
      clear hi
      go_enter Tryz.func57, Tryz.ntmps57
      go_wp2_with fail
      refine Calls.mono HP.out ?_
      rintro e w1 ⟨c0, c1, c2, c3, rfl, ⟨s0, b1, n1, q1, s2, b3, n3, q3, rfl, rfl, rfl, rfl⟩, hF, hnv⟩
      have ho : outE (Except.ok (ε := Int) n) = 0 := rfl
      have hFa := (Fr.refl (fun _ => False) w1).alloc (.cells #[.string s0, .slice b1 n1 q1, .string s2, .slice b3 n3 q3] 37)
      have HF := Lib.hid (hF.next hFa)
      have HIt := Lib.hid (ritems_h (n := n) (NodeV.fr hFa (fun _ _ h => h) n hnv) (fun k hk => Nat.lt_of_lt_of_le (hk.resolve_left id).2 hFa.size) HZ.out)
      have hb := block_new w1 (.cells #[.string s0, .slice b1 n1 q1, .string s2, .slice b3 n3 q3] 37)
      have v0 := cell_of hb (i := 0) (v := .string s0) rfl
      have v1 := cell_of hb (i := 1) (v := .slice b1 n1 q1) rfl
      have v2 := cell_of hb (i := 2) (v := .string s2) rfl
      have v3 := cell_of hb (i := 3) (v := .slice b3 n3 q3) rfl
      clear hF hnv hFa hb
      rw [ho]
      go_wp2_with fail
      refine Calls.mono HIt.out ?_
      rw [HIn.out]
      rintro e w2 ⟨⟨a, c, rfl, hr⟩, hF⟩
      have HF2 := Lib.hid (And.intro (ownsRow_base hr (show w.heap.size ≤ _ from HF.out.size)) (HF.out.next hF))
      clear hF hr
      go_wp2_with fail
      go_ret2
      exact ext_some HE.out rfl HF2.out.1 HF2.out.2
theorem small_all {l : List ItemD} (h : smallB l = true) : l.length ≤ 120 ∧ ∀ x ∈ l, SmallI x := by
  unfold smallB at h
  simp only [Bool.and_eq_true, decide_eq_true_eq, Bool.not_eq_true', List.any_eq_false] at h
  refine ⟨h.1, fun x hx => ?_⟩
  have h2 := h.2 x hx
  unfold bigI at h2
  simp only [Bool.or_eq_true, decide_eq_true_eq, not_or] at h2
  unfold SmallI; omega
theorem ext_le (s : Str) : (extractL s).1.length ≤ 1000000 := by
  obtain ⟨_, _, h⟩ := (extract_right s).1
  omega
theorem rext_at {w : World} {s : Str} {l : List ItemD} {n : Nat} {er : Int} (h : extractL s = (l, er)) (hn : l.length = n) (hs : s.length ≤ 100000) :
    Calls Tryz.prog 57 #[.string (bs s)] w fun e w' => ∃ a c, e = .returned (.tuple #[.slice a n c, .int .i64 er]) ∧ ItemsV w' (fun k => w.heap.size ≤ k ∧ k < w'.heap.size) (.slice a n c) l ∧ Fr (fun _ => False) w w' := by
  subst hn
  refine (rextract_h s hs).mono ?_
  rintro e w' ⟨a, c, rfl, hr, hF⟩
  rw [h] at hr ⊢
  exact ⟨a, c, rfl, (SRow.of_owns hr).mono fun k hk => hr.lt k hk, hF⟩
set_option maxRecDepth 100000 in
set_option maxHeartbeats 8000000 in
theorem feedextracts_h {w : World} (hE : Env w) (s : Str) (x : ItemD) : Calls Tryz.prog 15 #[.string (bs s), .agg #[.string (bs x.id), .string (bs x.title), .string (bs x.link)]] w fun e w' => e = .returned (.bool true) ∧ Fr (fun _ => False) w w' := by
  have hsz : (bs s).size = s.length := rfl
  obtain ⟨W0, hW0⟩ : ∃ W0, W0 = w.alloc (.cells #[.string (bs x.id), .string (bs x.title), .string (bs x.link)] 82) := ⟨_, rfl⟩
  have hf0 : Fr (fun _ => False) w W0 := by rw [hW0]; exact (Fr.refl _ _).alloc _
  have hb0 : W0.heap[w.heap.size]? = some (.cells #[.string (bs x.id), .string (bs x.title), .string (bs x.link)] 82 (0, 0)) := by rw [hW0]; exact block_new _ _
  have HF0 := Lib.hid hf0
  have HS := Lib.hid (fshown_h (hE.grow hf0))
  have HCE := Lib.hid (fun (W : World) (hF : Fr (fun _ => False) W0 W) => And.intro (hF.cell (cell_of hb0 (i := 0) (v := .string (bs x.id)) rfl) (fun h => h)) (And.intro (hF.cell (cell_of hb0 (i := 1) (v := .string (bs x.title)) rfl) (fun h => h)) (hF.cell (cell_of hb0 (i := 2) (v := .string (bs x.link)) rfl) (fun h => h))))
  have HSm := Lib.hid (fun (W W' : World) (hW : W' = W.alloc (.cells (icells [x]).toArray 82)) => small_h (one_row x W' hW))
  obtain ⟨b, hb⟩ : ∃ b, smallB [x] = b := ⟨_, rfl⟩
  rw [hb] at HSm
  have HAll : Hid (b = true → SmallI x) := Lib.hid (fun h => (small_all (hb.trans h)).2 x (List.mem_singleton.2 rfl))
  have HL := Lib.hid (ext_le s)
  obtain ⟨l, hl⟩ : ∃ l, (extractL s).1 = l := ⟨_, rfl⟩
  obtain ⟨er, her⟩ : ∃ er, (extractL s).2 = er := ⟨_, rfl⟩
  have HX := Lib.hid (fun (W : World) (hF : Fr (fun _ => False) w W) (hb : s.length ≤ 20500) => ext_at (s := s) (l := l) (n := l.length) (er := er) (hE.grow hF) (by rw [← hl, ← her]) rfl (by omega))
  have HY := Lib.hid (fun (W : World) (hb : s.length ≤ 20500) => rext_at (w := W) (s := s) (l := l) (n := l.length) (er := er) (by rw [← hl, ← her]) rfl (by omega))
  rw [hl] at HL
  have HRt := Lib.hid (fun (W : World) (h : SmallI x) => right_h (w := W) x (by unfold SmallI at h; omega))
  have HRr := Lib.hid (fun (W : World) (h : SmallI x) => rright_h (w := W) x (by unfold SmallI at h; omega))
  obtain ⟨r, hr⟩ : ∃ r, rightD x = r := ⟨_, rfl⟩
  rw [hr] at HRt HRr
  have t1 : (er == er) = true := by simp
  clear hE hf0 hb0 hb hl her hr
  go_enter Tryz.func15, Tryz.ntmps15
  go_upto_region 1 with fail
  rw [← hW0]
  clear hW0
  go_wp2_with fail
  refine Calls.mono HS.out ?_
  rintro e w1 ⟨rfl, hF⟩
  have HF1 := Lib.hid hF
  obtain ⟨y0, y1, y2⟩ := HCE.out _ hF
  clear hF HS
  go_wp2_with fail
  refine Calls.mono (HSm.out _ _ rfl) ?_
  rintro e w2 ⟨rfl, hw2⟩
  have HF2 : Hid (Fr (fun _ => False) W0 w2) := by show Fr _ _ _; rw [← hw2]; exact HF1.out.alloc _
  clear hw2 y0 y1 y2 HSm
  have HW2 := Lib.hid (HF0.out.next HF2.out)
  cases b with
  | false =>
    go_wp2_with fail
    go_ret
    exact ⟨rfl, HW2.out⟩
  | true =>
  have HSI := Lib.hid (HAll.out rfl)
  clear HAll
  by_cases ht : 20500 < s.length
  · have hti : (20500 : Int) < (s.length : Int) := by omega
    clear ht
    go_wp2_with fail
    go_ret
    exact ⟨rfl, HW2.out⟩
  have hti : ¬ (20500 : Int) < (s.length : Int) := by omega
  have HLe := Lib.hid (show s.length ≤ 20500 by omega)
  clear ht
  go_wp2_with fail
  refine Calls.mono (HX.out _ HW2.out HLe.out) ?_
  rintro e w3 ⟨a1, c1, rfl, hv1, hF⟩
  have HF3 := Lib.hid (HF2.out.next hF)
  have HV1 := Lib.hid hv1
  clear hF hv1
  go_wp2_with fail
  refine Calls.mono (HY.out _ HLe.out) ?_
  rintro e w4 ⟨a2, c2, rfl, hv2, hF⟩
  have HF4 := Lib.hid (HF3.out.next hF)
  have HV := Lib.hid (And.intro (HV1.out.fr hF fun _ _ h => h) hv2)
  have HSame := Lib.hid (fun (W : World) (hq : Fr (fun _ => False) w4 W) => isame_h (HV.out.1.fr hq fun _ _ h => h) (HV.out.2.fr hq fun _ _ h => h) HL.out)
  have HT : Hid (∀ W, Fr (fun _ => False) W0 W → Fr (fun _ => False) w W) := Lib.hid (fun W h => HF0.out.next h)
  clear hF hv2
  go_wp2_with fail
  go_region_with (first
    | (go_at_call 58; (with_reducible refine Calls.mono (HSame.out _ (show Fr (fun _ => False) w4 _ by repeat (first | exact Fr.refl _ _ | refine Fr.drew ?_))) ?_); rintro q wA ⟨rfl, pA, hwA⟩; have fA : Fr (fun _ => False) W0 wA := (by rw [hwA]; exact (HF4.out.next (show Fr (fun _ => False) w4 _ by repeat (first | exact Fr.refl _ _ | refine Fr.drew ?_))).drewN pA); clear hwA; obtain ⟨y0, y1, y2⟩ := HCE.out _ fA)
    | (go_at_call 59; (with_reducible refine Calls.mono (HRt.out _ HSI.out) ?_); rintro q wB ⟨rfl, hq⟩; have fB := (show Fr (fun _ => False) W0 _ by repeat (first | exact fA | refine Fr.drew ?_)).next hq; obtain ⟨z0, z1, z2⟩ := HCE.out _ fB; clear hq)
    | (go_at_call 60; (with_reducible refine Calls.mono (HRr.out _ HSI.out) ?_); rintro q wC ⟨rfl, hq⟩; have fC := (show Fr (fun _ => False) W0 _ by repeat (first | exact fB | refine Fr.drew ?_)).next hq; clear hq)
    | fail)
  all_goals
    cases r
    all_goals
      go_wp2_with fail
      go_ret
      exact ⟨rfl, HT.out _ (by repeat (first | exact fC | refine Fr.drew ?_))⟩
end Go.Proofs.YtpinjgdnhbogoaaGreatDoor
