/- The reference's Right, Items, Extract: walked. -/
import Derived.Test.YtpinjgdnhbogoaaGreatDoorFX2
import Derived.Test.YtpinjgdnhbogoaaGreatDoorO8
import Derived.Test.YtpinjgdnhbogoaaGreatDoorQD
import Derived.Deep.CutRange
namespace Go.Proofs.YtpinjgdnhbogoaaGreatDoor
open Go.RowKit Go.Lib

set_option maxRecDepth 100000 in
set_option maxHeartbeats 8000000 in
theorem rright_h {w : World} (x : ItemD) (hx : x.id.length ≤ 1000000 ∧ x.title.length ≤ 1000000 ∧ x.link.length ≤ 1000000) :
    Calls Tryz.prog 60 #[.agg #[.string (bs x.id), .string (bs x.title), .string (bs x.link)]] w fun e w' => e = .returned (.bool (rightD x)) ∧ Fr (fun _ => False) w w' := by
  obtain ⟨W0, hW0⟩ : ∃ W0, W0 = (w.alloc (.cells #[.string (bs x.id), .string (bs x.title), .string (bs x.link)] 82)).alloc (.cells #[.string (bs x.id), .string (bs x.title), .string (bs x.link)] 9) := ⟨_, rfl⟩
  have HF0 : Hid (Fr (fun _ => False) w W0) := by show Fr _ _ _; rw [hW0]; exact ((Fr.refl _ _).alloc _).alloc _
  have HX : Hid (W0.heap[w.heap.size]? = some (.cells #[.string (bs x.id), .string (bs x.title), .string (bs x.link)] 82 (0, 0))) := by show W0.heap[w.heap.size]? = _; rw [hW0]; exact block_old (block_new _ _) _
  have HL : Hid (W0.heap[w.heap.size + 1]? = some (.cells #[.string (bs x.id), .string (bs x.title), .string (bs x.link)] 9 (0, 0))) := by show W0.heap[w.heap.size + 1]? = _; rw [hW0]; exact block_new_at (by simp)
  have hb0 := block_new w (.cells #[.string (bs x.id), .string (bs x.title), .string (bs x.link)] 82)
  have x0 := cell_of hb0 (i := 0) (v := .string (bs x.id)) rfl
  have x1 := cell_of hb0 (i := 1) (v := .string (bs x.title)) rfl
  have x2 := cell_of hb0 (i := 2) (v := .string (bs x.link)) rfl
  obtain ⟨L, hL⟩ : ∃ L : List Str, L = [x.id, x.title, x.link] := ⟨_, rfl⟩
  have h3 : L.length = 3 := by rw [hL]; rfl
  have HB := Lib.hid (fun (i : Nat) (s : Str) (h : L[i]? = some s) => show s.length ≤ 1000000 by
    have hm := List.mem_of_getElem? h
    rw [hL] at hm
    simp only [List.mem_cons, List.not_mem_nil, or_false] at hm
    rcases hm with rfl | rfl | rfl
    · exact hx.1
    · exact hx.2.1
    · exact hx.2.2)
  have HC := Lib.hid (fun (W : World) (hF : Fr (fun _ => False) W0 W) (i : Nat) (s : Str) (h : L[i]? = some s) => show W.cell? ⟨w.heap.size + 1, i, none⟩ = some (.string (bs s)) by
    refine cell_of (hF.keep HL.out (fun h => h)) ?_
    rw [hL] at h
    match i, h with
    | 0, h => rw [← Option.some.inj h]; rfl
    | 1, h => rw [← Option.some.inj h]; rfl
    | 2, h => rw [← Option.some.inj h]; rfl
    | _ + 3, h => simp at h)
  have HD := Lib.hid (show rightD x = (!x.id.isEmpty && L.all fitB) by rw [hL]; unfold rightD; simp)
  clear hb0 hx hL
  go_enter Tryz.func60, Tryz.ntmps60
  go_wp2_with fail
  rw [← hW0]
  clear hW0 x0 x1 x2
  go_loopg [4] 3 (fun j v4 w' => ∃ W, W = w' ∧ ∃ i : Nat, i + j = 3 ∧ v4 = .int .i64 i ∧ Hid ((L.take i).all fitB = true ∧ Fr (fun _ => False) W0 W))
  case atStart => exact ⟨_, rfl, 0, by omega, rfl, rfl, Fr.refl _ _⟩
  case round =>
    obtain ⟨W, rfl, i, hi, rfl, HI⟩ := hrel
    by_cases hlt : i < 3
    · obtain ⟨s, hs⟩ : ∃ s, L[i]? = some s := ⟨_, List.getElem?_eq_getElem (by omega)⟩
      have q0 := HC.out W HI.out.2 i s hs
      have hsz : (bs s).size = s.length := rfl
      have hbl := HB.out i s hs
      have HK := Lib.hid (And.intro hi hs)
      have hin : i < 3 := hlt
      clear hi hs
      by_cases hl : 200 < s.length
      · have hli : (200 : Int) < (s.length : Int) := by omega
        have HE := Lib.hid (show rightD x = false by
          rw [HD.out, Bool.and_eq_false_iff]
          right
          rw [List.all_eq_false]
          exact ⟨s, List.mem_of_getElem? HK.out.2, by unfold fitB; rw [decide_eq_false (by omega)]; simp⟩)
        clear hl
        go_wp2_with fail
        go_big_quiet (fail)
        go_wp2_with fail
        go_ret
        exact ⟨by rw [HE.out] <;> rfl, (HF0.out.next HI.out.2).drewN _⟩
      have hli : ¬ (200 : Int) < (s.length : Int) := by omega
      have hd : decide ((200 : Int) < (s.length : Int)) = false := decide_eq_false hli
      have HSq := Lib.hid (fun (W : World) => rsqueeze_h (w := W) s hbl)
      have hfit : fitB s = (squeezeL s == s) := by unfold fitB; rw [decide_eq_true (by omega)]; rfl
      obtain ⟨q, hq⟩ : ∃ q, squeezeL s = q := ⟨_, rfl⟩
      rw [hq] at HSq hfit
      clear hl hq
      by_cases he : q = s
      · have HN := Lib.hid (show (L.take (i + 1)).all fitB = true by
          rw [List.take_add_one, HK.out.2, List.all_append, HI.out.1]
          show (true && (fitB s && true)) = true
          rw [hfit, he]; simp)
        clear hfit
        subst he
        have u1 : ((bs q).toList != (bs q).toList) = false := by simp
        go_wp2_with fail
        go_region_held3 (fun w' => w'.cell? ⟨w.heap.size + 1, i, none⟩ = some (.string (bs q)))
          (first | go_keep | (with_reducible exact f7.cell q0 (fun h => h)) | fail)
          (first
            | (go_at_call 50; with_reducible refine Calls.mono (HSq.out _) ?_; rintro e w7 ⟨rfl, hq⟩; have f7 := (show Fr (fun _ => False) W _ by repeat (first | exact Fr.refl _ _ | refine Fr.drew ?_ | refine Fr.alloc ?_ _)).next hq; clear hq)
            | fail)
        all_goals
          have HF7 := Lib.hid (show Fr (fun _ => False) W0 w7 from HI.out.2.next (by first | exact f7 | exact f7.start rfl rfl rfl rfl))
          clear f7
          go_wp2_with fail
          go_roundg (3 - (i + 1))
          case measure => have := HK.out.1; omega
          case rel => exact ⟨_, rfl, i + 1, by have := HK.out.1; omega, by go_num, HN.out, HF7.out⟩
      · have HE := Lib.hid (show rightD x = false by
          rw [HD.out, Bool.and_eq_false_iff]
          right
          rw [List.all_eq_false]
          exact ⟨s, List.mem_of_getElem? HK.out.2, by rw [hfit]; simpa using he⟩)
        obtain ⟨u0, u2⟩ := str_eq_f he
        have u1 : ((bs q).toList != (bs s).toList) = true := by rw [bne, u2]; rfl
        clear he hfit
        go_wp2_with fail
        go_region_held3 (fun w' => w'.cell? ⟨w.heap.size + 1, i, none⟩ = some (.string (bs s)))
          (first | go_keep | (with_reducible exact f7.cell q0 (fun h => h)) | fail)
          (first
            | (go_at_call 50; with_reducible refine Calls.mono (HSq.out _) ?_; rintro e w7 ⟨rfl, hq⟩; have f7 := (show Fr (fun _ => False) W _ by repeat (first | exact Fr.refl _ _ | refine Fr.drew ?_ | refine Fr.alloc ?_ _)).next hq; clear hq)
            | fail)
        all_goals
          have HF7 := Lib.hid (show Fr (fun _ => False) W0 w7 from HI.out.2.next (by first | exact f7 | exact f7.start rfl rfl rfl rfl))
          clear f7
          go_wp2_with fail
          go_ret
          exact ⟨by rw [HE.out] <;> rfl, HF0.out.next HF7.out⟩
    · have hi3 : i = 3 := by omega
      have hall : L.all fitB = true := by have h := HI.out.1; rw [hi3, ← h3, List.take_length] at h; exact h
      have y0 := cell_of (HI.out.2.keep HX.out (fun h => h)) (i := 0) (v := .string (bs x.id)) rfl
      clear hi hlt
      subst hi3
      by_cases h0 : x.id = []
      · have HE := Lib.hid (show rightD x = false by rw [HD.out, h0]; rfl)
        have tn : ((bs x.id).toList != []) = false := by rw [bs_toList, h0]; rfl
        have tn2 : (bs x.id).toList.isEmpty = true := by rw [bs_toList, h0]; rfl
        have tn3 : ((bs x.id).toList == []) = true := by rw [bs_toList, h0]; rfl
        clear h0
        go_wp2_with fail
        go_ret
        exact ⟨by rw [HE.out] <;> rfl, HF0.out.next HI.out.2⟩
      · have HE := Lib.hid (show rightD x = true by
          rw [HD.out, hall]
          have e : x.id.isEmpty = false := by simpa using h0
          rw [e]; rfl)
        have tn3 : ((bs x.id).toList == []) = false := by rw [bs_toList]; exact beq_eq_false_iff_ne.2 h0
        have tn : ((bs x.id).toList != []) = true := by rw [bne, tn3]; rfl
        have tn2 : (bs x.id).toList.isEmpty = false := by rw [bs_toList]; simpa using h0
        have tn4 : decide (bs x.id = ⟨#[]⟩) = false := decide_eq_false fun e => h0 (bs_inj e)
        clear h0
        go_wp2_with fail
        go_ret
        exact ⟨by rw [HE.out] <;> rfl, HF0.out.next HI.out.2⟩
end Go.Proofs.YtpinjgdnhbogoaaGreatDoor

/- The reference's Parse: walked. -/
namespace Go.Proofs.YtpinjgdnhbogoaaGreatDoor
open Go.RowKit Go.Lib

theorem parse_yes {s : Str} {l : List TokD} (h : readD s = (l, 0, 0)) : parseL s = buildL l := by rw [parse_of, h]; rfl
theorem parse_no {s : Str} (h : (readD s).2.1 ≠ 0) : parseL s = .error (readD s).2.1 := by rw [parse_of, if_neg h]
theorem read_cases (s : Str) : (readD s).2.1 ≠ 0 ∨ ∃ l, readD s = (l, 0, 0) ∧ TextOK l ∧ l.length ≤ 60010 := by
  by_cases h0 : (readD s).2.1 = 0
  · right
    by_cases hlong : 20000 < s.length
    · rw [readD_big hlong] at h0; cases h0
    · cases hr : readL s with
      | error k => rw [readD_bad hr (by omega)] at h0; cases h0
      | ok l =>
        have h3 := read_textOK hr (by omega)
        exact ⟨l, readD_ok hr (by omega), h3.1, h3.2⟩
  · exact .inl h0
set_option maxRecDepth 100000 in
set_option maxHeartbeats 8000000 in
theorem rparse_h {w : World} (s : Str) (hs : s.length ≤ 100000) : Calls Tryz.prog 27 #[.string (bs s)] w (RBuildPost (parseL s) (fun _ => False) w) := by
  have HB0 : Hid ((w.alloc (.cells zeroNode 37)).heap[w.heap.size]? = some (.cells zeroNode 37 (0, 0))) := block_new _ _
  have HF0 : Hid (Fr (fun _ => False) w (w.alloc (.cells zeroNode 37))) := (Fr.refl _ _).alloc _
  have HR := Lib.hid (rread_h (w := w.alloc (.cells zeroNode 37)) s hs)
  rcases read_cases s with h0 | ⟨l, hl, hT, hn⟩
  · have HE := Lib.hid (parse_no h0)
    obtain ⟨⟨tl, er, at_⟩, hrd⟩ : ∃ r, readD s = r := ⟨_, rfl⟩
    unfold RReadPost at HR
    rw [hrd] at HR h0 HE
    dsimp only at HR h0 HE
    have t1 : (er != 0) = true := by rw [bne_iff_ne]; exact h0
    clear h0 hrd
    go_enter Tryz.func27, Tryz.ntmps27
    go_wp2_with fail
    refine Calls.mono HR.out ?_
    rintro e w1 ⟨⟨tv, rfl, hv⟩, hF⟩
    have hb := hF.keep HB0.out (fun h => h)
    have HB1 := Lib.hid hb
    have HF1 := Lib.hid (HF0.out.next hF)
    have q0 := free_of 0 hb
    have q1 := free_of 1 hb
    have q2 := free_of 2 hb
    have q3 := free_of 3 hb
    have r0 := cell_of hb (i := 0) (v := .string ⟨#[]⟩) rfl
    have r1 := cell_of hb (i := 1) (v := .slice none 0 0) rfl
    have r2 := cell_of hb (i := 2) (v := .string ⟨#[]⟩) rfl
    have r3 := cell_of hb (i := 3) (v := .slice none 0 0) rfl
    have rl := lt_of_block hb
    clear hv hF hb
    go_wp2_with fail
    have hz := block_set4 (a := .string ⟨#[]⟩) (b := .slice none 0 0) (c := .string ⟨#[]⟩) (d := .slice none 0 0) HB1.out
    have e0 := cell_of hz (i := 0) (v := .string ⟨#[]⟩) rfl
    have e1 := cell_of hz (i := 1) (v := .slice none 0 0) rfl
    have e2 := cell_of hz (i := 2) (v := .string ⟨#[]⟩) rfl
    have e3 := cell_of hz (i := 3) (v := .slice none 0 0) rfl
    refine bodyPost_ret (v := .tuple #[.agg #[.string ⟨#[]⟩, .slice none 0 0, .string ⟨#[]⟩, .slice none 0 0], .int .i64 er]) (by simp [results, Tryz.results27, go_sem, e0, e1, e2, e3] <;> rfl) rfl ?_
    rw [HE.out]
    exact ⟨_, _, _, _, rfl, ⟨_, _, _, _, _, _, _, _, rfl, rfl, rfl, rfl⟩, HF1.out.trans (fr_set4 _ _ _ _ _ _) fun k e => .inr (by have e : k = w.heap.size := e; omega), NodeV.zero _ _⟩
  · have HE := Lib.hid (parse_yes hl)
    unfold RReadPost at HR
    rw [hl] at HR
    dsimp only at HR
    have HT := Lib.hid (And.intro hT hn)
    clear hl hT hn
    go_enter Tryz.func27, Tryz.ntmps27
    go_wp2_with fail
    refine Calls.mono HR.out ?_
    rintro e w1 ⟨⟨tv, rfl, hv⟩, hF⟩
    have HB1 := Lib.hid (hF.keep HB0.out (fun h => h))
    have HF1 := Lib.hid (HF0.out.next hF)
    have HBd := Lib.hid (rbuild_h (w := w1) hv.view (fun k hk => hk.2) HT.out.1 HT.out.2)
    rw [refB_eq] at HBd
    clear hv hF
    go_wp2_with fail
    refine Calls.mono HBd.out ?_
    rintro e w2 ⟨c0, c1, c2, c3, rfl, ⟨s0, b1, n1, p1, s2, b3, n3, p3, rfl, rfl, rfl, rfl⟩, hF, hnv⟩
    have hb := hF.keep HB1.out (fun h => h)
    have HB2 := Lib.hid hb
    have HF2 := Lib.hid (HF1.out.next hF)
    have HN2 := Lib.hid hnv
    have HS2 := Lib.hid (And.intro (show w.heap.size < w1.heap.size from lt_of_block HB1.out) hF.size)
    have q0 := free_of 0 hb
    have q1 := free_of 1 hb
    have q2 := free_of 2 hb
    have q3 := free_of 3 hb
    have r0 := cell_of hb (i := 0) (v := .string ⟨#[]⟩) rfl
    have r1 := cell_of hb (i := 1) (v := .slice none 0 0) rfl
    have r2 := cell_of hb (i := 2) (v := .string ⟨#[]⟩) rfl
    have r3 := cell_of hb (i := 3) (v := .slice none 0 0) rfl
    have rl := lt_of_block hb
    clear hnv hF hb
    go_wp2_with fail
    have hz := block_set4 (a := .string s0) (b := .slice b1 n1 p1) (c := .string s2) (d := .slice b3 n3 p3) HB2.out
    have e0 := cell_of hz (i := 0) (v := .string s0) rfl
    have e1 := cell_of hz (i := 1) (v := .slice b1 n1 p1) rfl
    have e2 := cell_of hz (i := 2) (v := .string s2) rfl
    have e3 := cell_of hz (i := 3) (v := .slice b3 n3 p3) rfl
    refine bodyPost_ret (v := .tuple #[.agg #[.string s0, .slice b1 n1 p1, .string s2, .slice b3 n3 p3], .int .i64 (outE (buildL l))]) (by simp [results, Tryz.results27, go_sem, e0, e1, e2, e3] <;> rfl) rfl ?_
    rw [HE.out]
    have h4 := fr_set4 w2 w.heap.size (.string s0) (.slice b1 n1 p1) (.string s2) (.slice b3 n3 p3)
    have hlow : w.heap.size + 1 ≤ w1.heap.size := HS2.out.1
    refine ⟨_, _, _, _, rfl, ⟨_, _, _, _, _, _, _, _, rfl, rfl, rfl, rfl⟩, HF2.out.trans h4 fun k e => .inr (by have e : k = w.heap.size := e; omega), NodeV.mono (fun k hk => ?_) _ (NodeV.fr h4 (fun k hk e => ?_) _ HN2.out)⟩
    · right
      have := h4.size
      have := HS2.out.2
      rcases hk with hk | hk
      · have h5 := hk.1
        simp only [World.size_alloc] at h5
        omega
      · omega
    · have e : k = w.heap.size := e
      rcases hk with hk | hk
      · have h5 := hk.1
        simp only [World.size_alloc] at h5
        omega
      · omega
end Go.Proofs.YtpinjgdnhbogoaaGreatDoor

/- The reference's Items: walked. -/
namespace Go.Proofs.YtpinjgdnhbogoaaGreatDoor
open Go.RowKit Go.Lib

set_option maxRecDepth 100000 in
set_option maxHeartbeats 16000000 in
theorem ritems_h {w : World} {S : Nat → Prop} {n : NodeD} {c0 c1 c2 c3 : Value} (hn : NodeV w S n [c0, c1, c2, c3]) (hS : ∀ k, S k → k < w.heap.size) (hz : nszN n ≤ 1000000) :
    Calls Tryz.prog 94 #[.agg #[c0, c1, c2, c3]] w (ItemsPost (itemsL n) w) := by
  obtain ⟨av, kv, xs, hcs, ha, hk, hks⟩ := id hn.parts
  simp only [List.cons.injEq, and_true] at hcs
  obtain ⟨rfl, rfl, rfl, rfl⟩ := hcs
  obtain ⟨-, a1, p1, rfl, -⟩ := id ha
  obtain ⟨-, a3, p3, rfl, -, -, -, -⟩ := id hk
  have HB : Hid ((w.alloc (.cells #[.string (bs n.name), .slice a1 n.attrs.length p1, .string (bs n.text), .slice a3 n.kids.length p3] 37)).heap[w.heap.size]? = some (.cells #[.string (bs n.name), .slice a1 n.attrs.length p1, .string (bs n.text), .slice a3 n.kids.length p3] 37 (0, 0))) := block_new _ _
  have HF0 : Hid (Fr (fun _ => False) w (w.alloc (.cells #[.string (bs n.name), .slice a1 n.attrs.length p1, .string (bs n.text), .slice a3 n.kids.length p3] 37))) := (Fr.refl _ _).alloc _
  have HN := Lib.hid (fun (W : World) (hF : Fr (fun _ => False) (w.alloc (.cells #[.string (bs n.name), .slice a1 n.attrs.length p1, .string (bs n.text), .slice a3 n.kids.length p3] 37)) W) => And.intro (NodeV.fr (HF0.out.next hF) (fun _ _ h => h) n hn) (fun k (hk : S k) => Nat.lt_of_lt_of_le (hS k hk) (HF0.out.next hF).size))
  have HS0 := Lib.hid hS
  have HZn := Lib.hid hz
  have HCh := Lib.hid (show Calls Tryz.prog 45 #[.agg #[.string (bs n.name), .slice a1 n.attrs.length p1, .string (bs n.text), .slice a3 n.kids.length p3], .string ⟨#[99, 104, 97, 110, 110, 101, 108]⟩] (w.alloc (.cells #[.string (bs n.name), .slice a1 n.attrs.length p1, .string (bs n.text), .slice a3 n.kids.length p3] 37)) (AllPost S (allN n nChannel) (w.alloc (.cells #[.string (bs n.name), .slice a1 n.attrs.length p1, .string (bs n.text), .slice a3 n.kids.length p3] 37))) from rall_h (HN.out _ (Fr.refl _ _)).1 (HN.out _ (Fr.refl _ _)).2 (Nat.le_trans (nsz_kids n) hz) nChannel)
  have x0 := cell_of HB.out (i := 0) (v := .string (bs n.name)) rfl
  have x1 := cell_of HB.out (i := 1) (v := .slice a1 n.attrs.length p1) rfl
  have x2 := cell_of HB.out (i := 2) (v := .string (bs n.text)) rfl
  have x3 := cell_of HB.out (i := 3) (v := .slice a3 n.kids.length p3) rfl
  clear hn ha hk hks hS hz
  by_cases h1 : n.name = nRss
  · have r1 : ((bs n.name).toList == [114, 115, 115]) = true := by rw [bs_toList, h1]; rfl
    have r2 : decide (bs n.name = ⟨#[114, 115, 115]⟩) = true := decide_eq_true (by rw [h1]; rfl)
    cases hc : allN n nChannel with
    | nil =>
      have HE := Lib.hid (got_rss0 h1 hc)
      have h2 : n.name ≠ nFeed := by rw [h1]; decide
      have q1 : ((bs n.name).toList == [102, 101, 101, 100]) = false := by rw [bs_toList]; exact beq_eq_false_iff_ne.2 h2
      have q2 : decide (bs n.name = ⟨#[102, 101, 101, 100]⟩) = false := decide_eq_false fun e => h2 (bs_inj e)
      rw [hc] at HCh
      clear h1 h2 hc
      go_enter Tryz.func94, Tryz.ntmps94
      go_wp2_with fail
      refine Calls.mono HCh.out ?_
      rintro e w2 ⟨b, c, ys, rfl, -, -, hF⟩
      have h0 : ([] : List NodeD).length = 0 := rfl
      rw [h0]
      have HF2 := Lib.hid (HF0.out.next hF)
      have y0 := hF.cell x0 (fun h => h)
      clear hF x0 x1 x2 x3 h0
      go_wp2_with fail
      go_ret2
      exact items_no HE.out HF2.out
    | cons c cl =>
      have HIt := Lib.hid (got_rss h1 hc)
      have hcm : c ∈ allL n nChannel := by show c ∈ allN n nChannel; rw [hc]; exact List.mem_cons_self ..
      have HZm := Lib.hid (Nat.le_trans (nsz_all hcm) HZn.out)
      rw [hc] at HCh
      clear h1 hc hcm
      go_enter Tryz.func94, Tryz.ntmps94
      go_wp2_with fail
      refine Calls.mono HCh.out ?_
      rintro e w2 ⟨b, cc, ys, rfl, hr, hkv, hF⟩
      obtain ⟨m, hm⟩ : ∃ m, (c :: cl).length = m := ⟨_, rfl⟩
      rw [hm] at hr ⊢
      obtain ⟨g, off, d0, d1, d2, d3, rfl, hnk, q0, q1, q2, q3⟩ := kids_head hr hm hkv
      obtain ⟨cv, ckv, cxs, hcs, hca, hck, hckk⟩ := id hnk.parts
      simp only [List.cons.injEq, and_true] at hcs
      obtain ⟨rfl, rfl, rfl, rfl⟩ := hcs
      have hm0 : (0 : Int) < (m : Int) := by have : 0 < m := by rw [← hm]; simp
                                             omega
      have hm1 : 0 < m := by omega
      have HF2 := Lib.hid (HF0.out.next hF)
      have y0 := hF.cell x0 (fun h => h)
      have HAll := Lib.hid (show Calls Tryz.prog 45 #[.agg #[.string (bs c.name), d1, .string (bs c.text), d3], .string ⟨#[105, 116, 101, 109]⟩] w2 (AllPost S (allN c nItem) w2) from rall_h hnk (fun k hk => Nat.lt_of_lt_of_le (HS0.out k hk) HF2.out.size) (Nat.le_trans (nsz_kids c) HZm.out) nItem)
      obtain ⟨-, ca1, cp1, rfl, -⟩ := id hca
      obtain ⟨-, ca3, cp3, rfl, -, -, -, -⟩ := id hck
      clear hF x0 x1 x2 x3 hr hkv hnk hm hca hck hckk
      go_wp2_with fail
      obtain ⟨al, hal⟩ : ∃ al, allN c nItem = al := ⟨_, rfl⟩
      have HZa := Lib.hid (fun x (hx : x ∈ al) => Nat.le_trans (nsz_all (n := c) (nm := nItem) (show x ∈ allL c nItem from by show x ∈ allN c nItem; rw [hal]; exact hx)) HZm.out)
      have hall : al.length ≤ 1000000 := by rw [← hal]; exact Nat.le_trans (List.length_filter_le _ _) (Nat.le_trans (nsz_kids c) HZm.out)
      have HIt2 := Lib.hid (show itemsL n = some (gotI rssI al) by rw [← hal]; exact HIt.out)
      rw [hal] at HAll
      clear hal
      refine Calls.mono HAll.out ?_
      rintro e w4 ⟨a4, c4, axs, rfl, har, hav, hF4⟩
      have HF4 := Lib.hid (HF2.out.next hF4)
      have HA := Lib.hid (And.intro har hav)
      have HS4 := Lib.hid (fun k (hk : S k) => Nat.lt_of_lt_of_le (HS0.out k hk) HF4.out.size)
      obtain ⟨aln, haln⟩ : ∃ aln, al.length = aln := ⟨_, rfl⟩
      rw [haln] at har hall ⊢
      have HAN := Lib.hid haln
      clear har hav hF4 haln
      go_wp2_with fail
      go_loopg [4, 7] aln (fun j v4 vi w' => ∃ W, W = w' ∧ ∃ (k : Nat) (out : List ItemD) (oa : Option Addr) (on oc : Nat), v4 = .slice oa on oc ∧ k + j = aln ∧ vi = .int .i64 (k : Nat) ∧ on ≤ 100 ∧ Hid (out.length = on ∧ gotI rssI (al.take k) = out ∧ W.ownsRow w.heap.size 82 3 (.slice oa on oc) on (icells out) ∧ Fr (fun _ => False) w4 W))
      case atStart => exact ⟨_, rfl, 0, [], none, 0, 0, rfl, by omega, rfl, by omega, rfl, rfl, World.ownsRow_nil _ _ _ _, Fr.refl _ _⟩
      case round =>
        obtain ⟨W, rfl, k, out, oa, on, oc, rfl, hkj, rfl, hon, HI⟩ := hrel
        by_cases hlt : k < aln
        · obtain ⟨x, hx⟩ : ∃ x, al[k]? = some x := ⟨_, List.getElem?_eq_getElem (by rw [HAN.out]; exact hlt)⟩
          obtain ⟨q, off, rfl, hc⟩ := (HA.out.1.fr HI.out.2.2.2 fun _ _ h => h).cell (by have := HAN.out; omega)
          obtain ⟨y1, y2, y3, y4, y5, y6, hyv, q0, q1, q2, q3⟩ := kid_cells hc (KidsV.fr HI.out.2.2.2 (fun _ _ h => h) al HA.out.2) hx
          have HKj := Lib.hid (And.intro hkj hx)
          have HZx := Lib.hid (HZa.out x (List.mem_of_getElem? hx))
          have HNx := Lib.hid (fun (W2 : World) (hF : Fr (fun _ => False) W W2) => And.intro (NodeV.fr hF (fun _ _ h => h) x hyv) (fun k (hk : S k) => Nat.lt_of_lt_of_le (HS4.out k hk) (HI.out.2.2.2.next hF).size))
          have HGt := Lib.hid (got_step HI.out.2.1 hx)
          have HWt := Lib.hid (show w.heap.size ≤ W.heap.size from (HF4.out.next HI.out.2.2.2).size)
          have HG := Lib.hid (fun (W2 : World) (hF : Fr (fun _ => False) W W2) => show Calls Tryz.prog 125 #[.agg #[.string (bs x.name), .slice y1 y2 y3, .string (bs x.text), .slice y4 y5 y6], .string ⟨#[103, 117, 105, 100]⟩] W2 (fun e w' => e = .returned (.string (bs (textL x nGuid))) ∧ Fr (fun _ => False) W2 w') from rtext_h (HNx.out W2 hF).1 (HNx.out W2 hF).2 HZx.out nGuid)
          have HT := Lib.hid (fun (W2 : World) (hF : Fr (fun _ => False) W W2) => show Calls Tryz.prog 125 #[.agg #[.string (bs x.name), .slice y1 y2 y3, .string (bs x.text), .slice y4 y5 y6], .string ⟨#[116, 105, 116, 108, 101]⟩] W2 (fun e w' => e = .returned (.string (bs (textL x nTitle))) ∧ Fr (fun _ => False) W2 w') from rtext_h (HNx.out W2 hF).1 (HNx.out W2 hF).2 HZx.out nTitle)
          have HL := Lib.hid (fun (W2 : World) (hF : Fr (fun _ => False) W W2) => show Calls Tryz.prog 125 #[.agg #[.string (bs x.name), .slice y1 y2 y3, .string (bs x.text), .slice y4 y5 y6], .string ⟨#[108, 105, 110, 107]⟩] W2 (fun e w' => e = .returned (.string (bs (textL x nLink))) ∧ Fr (fun _ => False) W2 w') from rtext_h (HNx.out W2 hF).1 (HNx.out W2 hF).2 HZx.out nLink)
          clear hkj hx hc hyv
          have HZB : Hid ((W.alloc (.cells #[.string ⟨#[]⟩, .string ⟨#[]⟩, .string ⟨#[]⟩] 82)).heap[W.heap.size]? = some (.cells #[.string ⟨#[]⟩, .string ⟨#[]⟩, .string ⟨#[]⟩] 82 (0, 0))) := block_new _ _
          obtain ⟨g, hg⟩ : ∃ g, textL x nGuid = g := ⟨_, rfl⟩
          obtain ⟨t, ht⟩ : ∃ t, textL x nTitle = t := ⟨_, rfl⟩
          obtain ⟨l, hl⟩ : ∃ l, textL x nLink = l := ⟨_, rfl⟩
          have HI1 := Lib.hid (rss_id (n := x))
          have HI2 := Lib.hid (rss_own (n := x))
          rw [hg] at HG HI1 HI2
          rw [ht] at HT HI1 HI2
          rw [hl] at HL HI1 HI2
          clear hg ht hl
          go_upto_region 8 with fail
          go_cut [8] (fun s8 wx => ∃ xb, s8 = .pointer (some ⟨xb, 0, none⟩) ∧ wx.heap[xb]? = some (.cells #[.string (bs g), .string (bs t), .string (bs l)] 82 (0, 0)) ∧ W.heap.size ≤ xb ∧ Fr (fun _ => False) W wx)
          case first =>
            have k0 := World.new_ne W _ q0
            have k1 := World.new_ne W _ q1
            have k2 := World.new_ne W _ q2
            have k3 := World.new_ne W _ q3
            go_region_held3 (fun w' => w'.cell? ⟨q, off + k * 4, none⟩ = some (.string (bs x.name)) ∧ w'.cell? ⟨q, off + k * 4 + 1, none⟩ = some (.slice y1 y2 y3) ∧ w'.cell? ⟨q, off + k * 4 + 2, none⟩ = some (.string (bs x.text)) ∧ w'.cell? ⟨q, off + k * 4 + 3, none⟩ = some (.slice y4 y5 y6))
              (first | go_keep | (with_reducible exact ⟨s0_fg, s1_fg, s2_fg, s3_fg⟩) | (with_reducible exact ⟨s0_ft, s1_ft, s2_ft, s3_ft⟩) | (with_reducible exact ⟨s0_fl, s1_fl, s2_fl, s3_fl⟩) | fail)
              (first
                | (go_at_call 125; (with_reducible refine Calls.mono (HG.out _ (by repeat (first | exact Fr.refl _ _ | exact fg | exact ft | exact fl | refine Fr.drew ?_ | refine Fr.alloc ?_ _))) ?_); rintro e w_fg ⟨rfl, hq⟩; have fg := (show Fr (fun _ => False) W _ by repeat (first | exact Fr.refl _ _ | exact ft | exact fl | refine Fr.drew ?_ | refine Fr.alloc ?_ _)).next hq; (first | (have hzb := hq.keep hzb (fun h => h)) | (have hzb := hq.keep (block_new w_ft (.cells #[.string ⟨#[]⟩, .string ⟨#[]⟩, .string ⟨#[]⟩] 82)) (fun h => h)) | (have hzb := hq.keep (block_new w_fl (.cells #[.string ⟨#[]⟩, .string ⟨#[]⟩, .string ⟨#[]⟩] 82)) (fun h => h)) | (have hzb := (show Fr (fun _ => False) (W.alloc (.cells #[.string ⟨#[]⟩, .string ⟨#[]⟩, .string ⟨#[]⟩] 82)) _ from hq.start rfl rfl rfl rfl).keep HZB.out (fun h => h)) | skip); (try (have u0 := free_of 0 hzb; have u1 := free_of 1 hzb; have u2 := free_of 2 hzb; have z0 := cell_of hzb (i := 0) (v := .string ⟨#[]⟩) rfl; have z1 := cell_of hzb (i := 1) (v := .string ⟨#[]⟩) rfl; have z2 := cell_of hzb (i := 2) (v := .string ⟨#[]⟩) rfl; have ul := lt_of_block hzb)); have hs_fg := fg.size; have s0_fg := fg.cell q0 (fun h => h); have s1_fg := fg.cell q1 (fun h => h); have s2_fg := fg.cell q2 (fun h => h); have s3_fg := fg.cell q3 (fun h => h); have n0_fg := World.new_ne w_fg _ s0_fg; have n1_fg := World.new_ne w_fg _ s1_fg; have n2_fg := World.new_ne w_fg _ s2_fg; have n3_fg := World.new_ne w_fg _ s3_fg; clear hq)
                | (go_at_call 125; (with_reducible refine Calls.mono (HT.out _ (by repeat (first | exact Fr.refl _ _ | exact fg | exact ft | exact fl | refine Fr.drew ?_ | refine Fr.alloc ?_ _))) ?_); rintro e w_ft ⟨rfl, hq⟩; have ft := (show Fr (fun _ => False) W _ by repeat (first | exact Fr.refl _ _ | exact fg | exact fl | refine Fr.drew ?_ | refine Fr.alloc ?_ _)).next hq; (first | (have hzb := hq.keep hzb (fun h => h)) | (have hzb := hq.keep (block_new w_fg (.cells #[.string ⟨#[]⟩, .string ⟨#[]⟩, .string ⟨#[]⟩] 82)) (fun h => h)) | (have hzb := hq.keep (block_new w_fl (.cells #[.string ⟨#[]⟩, .string ⟨#[]⟩, .string ⟨#[]⟩] 82)) (fun h => h)) | (have hzb := (show Fr (fun _ => False) (W.alloc (.cells #[.string ⟨#[]⟩, .string ⟨#[]⟩, .string ⟨#[]⟩] 82)) _ from hq.start rfl rfl rfl rfl).keep HZB.out (fun h => h)) | skip); (try (have u0 := free_of 0 hzb; have u1 := free_of 1 hzb; have u2 := free_of 2 hzb; have z0 := cell_of hzb (i := 0) (v := .string ⟨#[]⟩) rfl; have z1 := cell_of hzb (i := 1) (v := .string ⟨#[]⟩) rfl; have z2 := cell_of hzb (i := 2) (v := .string ⟨#[]⟩) rfl; have ul := lt_of_block hzb)); have hs_ft := ft.size; have s0_ft := ft.cell q0 (fun h => h); have s1_ft := ft.cell q1 (fun h => h); have s2_ft := ft.cell q2 (fun h => h); have s3_ft := ft.cell q3 (fun h => h); have n0_ft := World.new_ne w_ft _ s0_ft; have n1_ft := World.new_ne w_ft _ s1_ft; have n2_ft := World.new_ne w_ft _ s2_ft; have n3_ft := World.new_ne w_ft _ s3_ft; clear hq)
                | (go_at_call 125; (with_reducible refine Calls.mono (HL.out _ (by repeat (first | exact Fr.refl _ _ | exact fg | exact ft | exact fl | refine Fr.drew ?_ | refine Fr.alloc ?_ _))) ?_); rintro e w_fl ⟨rfl, hq⟩; have fl := (show Fr (fun _ => False) W _ by repeat (first | exact Fr.refl _ _ | exact fg | exact ft | refine Fr.drew ?_ | refine Fr.alloc ?_ _)).next hq; (first | (have hzb := hq.keep hzb (fun h => h)) | (have hzb := hq.keep (block_new w_fg (.cells #[.string ⟨#[]⟩, .string ⟨#[]⟩, .string ⟨#[]⟩] 82)) (fun h => h)) | (have hzb := hq.keep (block_new w_ft (.cells #[.string ⟨#[]⟩, .string ⟨#[]⟩, .string ⟨#[]⟩] 82)) (fun h => h)) | (have hzb := (show Fr (fun _ => False) (W.alloc (.cells #[.string ⟨#[]⟩, .string ⟨#[]⟩, .string ⟨#[]⟩] 82)) _ from hq.start rfl rfl rfl rfl).keep HZB.out (fun h => h)) | skip); (try (have u0 := free_of 0 hzb; have u1 := free_of 1 hzb; have u2 := free_of 2 hzb; have z0 := cell_of hzb (i := 0) (v := .string ⟨#[]⟩) rfl; have z1 := cell_of hzb (i := 1) (v := .string ⟨#[]⟩) rfl; have z2 := cell_of hzb (i := 2) (v := .string ⟨#[]⟩) rfl; have ul := lt_of_block hzb)); have hs_fl := fl.size; have s0_fl := fl.cell q0 (fun h => h); have s1_fl := fl.cell q1 (fun h => h); have s2_fl := fl.cell q2 (fun h => h); have s3_fl := fl.cell q3 (fun h => h); have n0_fl := World.new_ne w_fl _ s0_fl; have n1_fl := World.new_ne w_fl _ s1_fl; have n2_fl := World.new_ne w_fl _ s2_fl; have n3_fl := World.new_ne w_fl _ s3_fl; clear hq)
                | fail)
            all_goals
              go_wp2_with fail
              go_meet
              first
                | exact ⟨_, rfl, block_set3 hzb, (by omega), fl.trans (fr_set3 _ _ _ _ _) fun k e => .inr (by omega)⟩
                | exact ⟨_, rfl, block_new _ _, (by omega), fl.alloc _⟩
          case rest =>
            obtain ⟨xb, rfl, hxb, hge, hF⟩ := hcut
            have HX := Lib.hid hxb
            have HF := Lib.hid hF
            have HRow := Lib.hid (ownsRow_fr HI.out.2.2.1 hF)
            have b0 := cell_of hxb (i := 0) (v := .string (bs g)) rfl
            have b1 := cell_of hxb (i := 1) (v := .string (bs t)) rfl
            have b2 := cell_of hxb (i := 2) (v := .string (bs l)) rfl
            have f0 := free_of 0 hxb
            have bl := lt_of_block hxb
            clear hxb hF q0 q1 q2 q3
            by_cases h0 : g = []
            · have t1 : ((bs g).toList == []) = true := by rw [bs_toList, h0]; rfl
              have t2 : (bs g).toList.isEmpty = true := by rw [bs_toList, h0]; rfl
              have HE := Lib.hid (HI1.out h0)
              have hFs : Fr (fun _ => False) W (wc.setCell ⟨xb, 0, none⟩ (.string (bs l))) := HF.out.trans (fr_set _ _ _ _) fun k e => .inr (by have e : k = xb := e; omega)
              have HRs := Lib.hid (ownsRow_keep HRow.out (fun k hk => (fr_set wc xb 0 (.string (bs l))).block k (HRow.out.lt k hk).2 (by have := (HI.out.2.2.1.lt k hk).2; show ¬ k = xb; omega)))
              have HW := Lib.hid (rwithI_h (x := ⟨l, t, l⟩) HRs.out HI.out.1 (Nat.le_trans HWt.out hFs.size) hon)
              have HFs := Lib.hid hFs
              clear h0 hFs
              go_wp2_with fail
              refine Calls.mono HW.out ?_
              rintro e w7 ⟨b, m, c, rfl, hm, hr, hF7⟩
              have HR7 := Lib.hid (And.intro hm hr)
              have HF7 := Lib.hid (HI.out.2.2.2.next (HFs.out.next hF7))
              have hm100 : m ≤ 100 := by rw [← hm]; exact with_len (by rw [HI.out.1]; exact hon)
              clear hm hr hF7
              go_wp2_with fail
              go_roundg (aln - (k + 1))
              case measure => have := HKj.out.1; omega
              case rel => exact ⟨_, rfl, k + 1, withL out ⟨l, t, l⟩, b, m, c, rfl, by have := HKj.out.1; omega, by go_num, hm100, HR7.out.1, by rw [HGt.out, HE.out], HR7.out.2, HF7.out⟩
            · have t1 : ((bs g).toList == []) = false := by rw [bs_toList]; exact beq_eq_false_iff_ne.2 h0
              have t2 : (bs g).toList.isEmpty = false := by rw [bs_toList]; simpa using h0
              have t3 : decide (bs g = ⟨#[]⟩) = false := decide_eq_false fun e => h0 (bs_inj e)
              have HE := Lib.hid (HI2.out h0)
              have HW := Lib.hid (rwithI_h (x := ⟨g, t, l⟩) HRow.out HI.out.1 (Nat.le_trans HWt.out HF.out.size) hon)
              clear h0
              go_wp2_with fail
              refine Calls.mono HW.out ?_
              rintro e w7 ⟨b, m, c, rfl, hm, hr, hF7⟩
              have HR7 := Lib.hid (And.intro hm hr)
              have HF7 := Lib.hid (HI.out.2.2.2.next (HF.out.next hF7))
              have hm100 : m ≤ 100 := by rw [← hm]; exact with_len (by rw [HI.out.1]; exact hon)
              clear hm hr hF7
              go_wp2_with fail
              go_roundg (aln - (k + 1))
              case measure => have := HKj.out.1; omega
              case rel => exact ⟨_, rfl, k + 1, withL out ⟨g, t, l⟩, b, m, c, rfl, by have := HKj.out.1; omega, by go_num, hm100, HR7.out.1, by rw [HGt.out, HE.out], HR7.out.2, HF7.out⟩
        · have hke : k = aln := by omega
          have htk : al.take k = al := by rw [hke, ← HAN.out, List.take_length]
          have HW := Lib.hid (show gotI rssI al = out by have h := HI.out.2.1; rw [htk] at h; exact h)
          have hke2 := hke.symm
          clear hkj hlt htk hke
          subst hke2
          go_wp2_with fail
          go_ret2
          exact items_yes (HIt2.out.trans (by rw [HW.out])) HI.out.1 (by have h := HI.out.2.2.1; rw [HI.out.1]; exact h) (HF4.out.next HI.out.2.2.2)
  · have r1 : ((bs n.name).toList == [114, 115, 115]) = false := by rw [bs_toList]; exact beq_eq_false_iff_ne.2 h1
    have r2 : decide (bs n.name = ⟨#[114, 115, 115]⟩) = false := decide_eq_false fun e => h1 (bs_inj e)
    by_cases h2 : n.name = nFeed
    · have q1 : ((bs n.name).toList == [102, 101, 101, 100]) = true := by rw [bs_toList, h2]; rfl
      have q2 : decide (bs n.name = ⟨#[102, 101, 101, 100]⟩) = true := decide_eq_true (by rw [h2]; rfl)
      have HIt := Lib.hid (got_feed h1 h2)
      have HZm := Lib.hid HZn.out
      clear h1 h2
      go_enter Tryz.func94, Tryz.ntmps94
      go_wp2_with fail
      refine Calls.mono HCh.out ?_
      rintro e w2 ⟨b, c, ys, rfl, -, -, hF⟩
      have HF2 := Lib.hid (HF0.out.next hF)
      have z0 := hF.cell x0 (fun h => h)
      have z1 := hF.cell x1 (fun h => h)
      have z2 := hF.cell x2 (fun h => h)
      have z3 := hF.cell x3 (fun h => h)
      have HAll := Lib.hid (show Calls Tryz.prog 45 #[.agg #[.string (bs n.name), .slice a1 n.attrs.length p1, .string (bs n.text), .slice a3 n.kids.length p3], .string ⟨#[101, 110, 116, 114, 121]⟩] w2 (AllPost S (allN n nEntry) w2) from rall_h (HN.out _ hF).1 (HN.out _ hF).2 (Nat.le_trans (nsz_kids n) HZn.out) nEntry)
      clear hF x0 x1 x2 x3
      go_wp2_with fail
      obtain ⟨al, hal⟩ : ∃ al, allN n nEntry = al := ⟨_, rfl⟩
      have HZa := Lib.hid (fun x (hx : x ∈ al) => Nat.le_trans (nsz_all (n := n) (nm := nEntry) (show x ∈ allL n nEntry from by show x ∈ allN n nEntry; rw [hal]; exact hx)) HZm.out)
      have hall : al.length ≤ 1000000 := by rw [← hal]; exact Nat.le_trans (List.length_filter_le _ _) (Nat.le_trans (nsz_kids n) HZm.out)
      have HIt2 := Lib.hid (show itemsL n = some (gotI atomI al) by rw [← hal]; exact HIt.out)
      rw [hal] at HAll
      clear hal
      refine Calls.mono HAll.out ?_
      rintro e w4 ⟨a4, c4, axs, rfl, har, hav, hF4⟩
      have HF4 := Lib.hid (HF2.out.next hF4)
      have HA := Lib.hid (And.intro har hav)
      have HS4 := Lib.hid (fun k (hk : S k) => Nat.lt_of_lt_of_le (HS0.out k hk) HF4.out.size)
      obtain ⟨aln, haln⟩ : ∃ aln, al.length = aln := ⟨_, rfl⟩
      rw [haln] at har hall ⊢
      have HAN := Lib.hid haln
      clear har hav hF4 haln
      go_wp2_with fail
      go_loopg [4, 10] aln (fun j v4 vi w' => ∃ W, W = w' ∧ ∃ (k : Nat) (out : List ItemD) (oa : Option Addr) (on oc : Nat), v4 = .slice oa on oc ∧ k + j = aln ∧ vi = .int .i64 (k : Nat) ∧ on ≤ 100 ∧ Hid (out.length = on ∧ gotI atomI (al.take k) = out ∧ W.ownsRow w.heap.size 82 3 (.slice oa on oc) on (icells out) ∧ Fr (fun _ => False) w4 W))
      case atStart => exact ⟨_, rfl, 0, [], none, 0, 0, rfl, by omega, rfl, by omega, rfl, rfl, World.ownsRow_nil _ _ _ _, Fr.refl _ _⟩
      case round =>
        obtain ⟨W, rfl, k, out, oa, on, oc, rfl, hkj, rfl, hon, HI⟩ := hrel
        by_cases hlt : k < aln
        · obtain ⟨x, hx⟩ : ∃ x, al[k]? = some x := ⟨_, List.getElem?_eq_getElem (by rw [HAN.out]; exact hlt)⟩
          obtain ⟨q, off, rfl, hc⟩ := (HA.out.1.fr HI.out.2.2.2 fun _ _ h => h).cell (by have := HAN.out; omega)
          obtain ⟨y1, y2, y3, y4, y5, y6, hyv, q0, q1, q2, q3⟩ := kid_cells hc (KidsV.fr HI.out.2.2.2 (fun _ _ h => h) al HA.out.2) hx
          have HKj := Lib.hid (And.intro hkj hx)
          have HZx := Lib.hid (HZa.out x (List.mem_of_getElem? hx))
          have HNx := Lib.hid (fun (W2 : World) (hF : Fr (fun _ => False) W W2) => And.intro (NodeV.fr hF (fun _ _ h => h) x hyv) (fun k (hk : S k) => Nat.lt_of_lt_of_le (HS4.out k hk) (HI.out.2.2.2.next hF).size))
          have HGt := Lib.hid (got_step HI.out.2.1 hx)
          have HWt := Lib.hid (show w.heap.size ≤ W.heap.size from (HF4.out.next HI.out.2.2.2).size)
          have HG := Lib.hid (fun (W2 : World) (hF : Fr (fun _ => False) W W2) => show Calls Tryz.prog 125 #[.agg #[.string (bs x.name), .slice y1 y2 y3, .string (bs x.text), .slice y4 y5 y6], .string ⟨#[105, 100]⟩] W2 (fun e w' => e = .returned (.string (bs (textL x nId))) ∧ Fr (fun _ => False) W2 w') from rtext_h (HNx.out W2 hF).1 (HNx.out W2 hF).2 HZx.out nId)
          have HT := Lib.hid (fun (W2 : World) (hF : Fr (fun _ => False) W W2) => show Calls Tryz.prog 125 #[.agg #[.string (bs x.name), .slice y1 y2 y3, .string (bs x.text), .slice y4 y5 y6], .string ⟨#[116, 105, 116, 108, 101]⟩] W2 (fun e w' => e = .returned (.string (bs (textL x nTitle))) ∧ Fr (fun _ => False) W2 w') from rtext_h (HNx.out W2 hF).1 (HNx.out W2 hF).2 HZx.out nTitle)
          have HL := Lib.hid (fun (W2 : World) (hF : Fr (fun _ => False) W W2) => show Calls Tryz.prog 127 #[.agg #[.string (bs x.name), .slice y1 y2 y3, .string (bs x.text), .slice y4 y5 y6]] W2 (fun e w' => e = .returned (.string (bs (hrefL x))) ∧ Fr (fun _ => False) W2 w') from rhref_h (HNx.out W2 hF).1 (HNx.out W2 hF).2 HZx.out)
          clear hkj hx hc hyv
          obtain ⟨g, hg⟩ : ∃ g, textL x nId = g := ⟨_, rfl⟩
          obtain ⟨t, ht⟩ : ∃ t, textL x nTitle = t := ⟨_, rfl⟩
          obtain ⟨l, hl⟩ : ∃ l, hrefL x = l := ⟨_, rfl⟩
          have HE := Lib.hid (show atomI x = ⟨g, t, l⟩ by rw [← hg, ← ht, ← hl]; rfl)
          rw [hg] at HG
          rw [ht] at HT
          rw [hl] at HL
          have HW := Lib.hid (fun (W2 : World) (hF : Fr (fun _ => False) W W2) => rwithI_h (x := ⟨g, t, l⟩) (ownsRow_fr HI.out.2.2.1 hF) HI.out.1 (Nat.le_trans HWt.out hF.size) hon)
          clear hg ht hl
          go_wp2_with fail
          go_region_held3 (fun w' => w'.cell? ⟨q, off + k * 4, none⟩ = some (.string (bs x.name)) ∧ w'.cell? ⟨q, off + k * 4 + 1, none⟩ = some (.slice y1 y2 y3) ∧ w'.cell? ⟨q, off + k * 4 + 2, none⟩ = some (.string (bs x.text)) ∧ w'.cell? ⟨q, off + k * 4 + 3, none⟩ = some (.slice y4 y5 y6))
            (first | go_keep | (with_reducible exact ⟨s0_fi, s1_fi, s2_fi, s3_fi⟩) | (with_reducible exact ⟨s0_ft, s1_ft, s2_ft, s3_ft⟩) | (with_reducible exact ⟨s0_fh, s1_fh, s2_fh, s3_fh⟩) | (with_reducible exact ⟨v0_7, v1_7, v2_7, v3_7⟩) | fail)
            (first
              | (go_at_call 125; (with_reducible refine Calls.mono (HG.out _ (by repeat (first | exact Fr.refl _ _ | exact fi | exact ft | exact fh | refine Fr.drew ?_ | refine Fr.alloc ?_ _))) ?_); rintro e w_fi ⟨rfl, hq⟩; have fi := (show Fr (fun _ => False) W _ by repeat (first | exact Fr.refl _ _ | exact ft | exact fh | refine Fr.drew ?_ | refine Fr.alloc ?_ _)).next hq; have hs_fi := fi.size; have s0_fi := fi.cell q0 (fun h => h); have s1_fi := fi.cell q1 (fun h => h); have s2_fi := fi.cell q2 (fun h => h); have s3_fi := fi.cell q3 (fun h => h); have n0_fi := World.new_ne w_fi _ s0_fi; have n1_fi := World.new_ne w_fi _ s1_fi; have n2_fi := World.new_ne w_fi _ s2_fi; have n3_fi := World.new_ne w_fi _ s3_fi; clear hq)
              | (go_at_call 125; (with_reducible refine Calls.mono (HT.out _ (by repeat (first | exact Fr.refl _ _ | exact fi | exact ft | exact fh | refine Fr.drew ?_ | refine Fr.alloc ?_ _))) ?_); rintro e w_ft ⟨rfl, hq⟩; have ft := (show Fr (fun _ => False) W _ by repeat (first | exact Fr.refl _ _ | exact fi | exact fh | refine Fr.drew ?_ | refine Fr.alloc ?_ _)).next hq; have hs_ft := ft.size; have s0_ft := ft.cell q0 (fun h => h); have s1_ft := ft.cell q1 (fun h => h); have s2_ft := ft.cell q2 (fun h => h); have s3_ft := ft.cell q3 (fun h => h); have n0_ft := World.new_ne w_ft _ s0_ft; have n1_ft := World.new_ne w_ft _ s1_ft; have n2_ft := World.new_ne w_ft _ s2_ft; have n3_ft := World.new_ne w_ft _ s3_ft; clear hq)
              | (go_at_call 127; (with_reducible refine Calls.mono (HL.out _ (by repeat (first | exact Fr.refl _ _ | exact fi | exact ft | exact fh | refine Fr.drew ?_ | refine Fr.alloc ?_ _))) ?_); rintro e w_fh ⟨rfl, hq⟩; have fh := (show Fr (fun _ => False) W _ by repeat (first | exact Fr.refl _ _ | exact fi | exact ft | refine Fr.drew ?_ | refine Fr.alloc ?_ _)).next hq; have hs_fh := fh.size; have s0_fh := fh.cell q0 (fun h => h); have s1_fh := fh.cell q1 (fun h => h); have s2_fh := fh.cell q2 (fun h => h); have s3_fh := fh.cell q3 (fun h => h); have n0_fh := World.new_ne w_fh _ s0_fh; have n1_fh := World.new_ne w_fh _ s1_fh; have n2_fh := World.new_ne w_fh _ s2_fh; have n3_fh := World.new_ne w_fh _ s3_fh; clear hq)
              | (go_at_call 126; (with_reducible refine Calls.mono (HW.out _ fh) ?_); rintro e w7 ⟨b, m, c, rfl, hm, hr, hq⟩; have f7 := fh.next hq; have v0_7 := f7.cell q0 (fun h => h); have v1_7 := f7.cell q1 (fun h => h); have v2_7 := f7.cell q2 (fun h => h); have v3_7 := f7.cell q3 (fun h => h); clear hq)
              | fail)
          all_goals
            have HR7 := Lib.hid (And.intro hm hr)
            have HF7 := Lib.hid (HI.out.2.2.2.next f7)
            have hm100 : m ≤ 100 := by rw [← hm]; exact with_len (by rw [HI.out.1]; exact hon)
            clear hm hr f7
            go_wp2_with fail
            go_roundg (aln - (k + 1))
            case measure => have := HKj.out.1; omega
            case rel => exact ⟨_, rfl, k + 1, withL out ⟨g, t, l⟩, b, m, c, rfl, by have := HKj.out.1; omega, by go_num, hm100, HR7.out.1, by rw [HGt.out, HE.out], HR7.out.2, HF7.out⟩
        · have hke : k = aln := by omega
          have htk : al.take k = al := by rw [hke, ← HAN.out, List.take_length]
          have HW := Lib.hid (show gotI atomI al = out by have h := HI.out.2.1; rw [htk] at h; exact h)
          have hke2 := hke.symm
          clear hkj hlt htk hke
          subst hke2
          go_wp2_with fail
          go_ret2
          exact items_yes (HIt2.out.trans (by rw [HW.out])) HI.out.1 (by have h := HI.out.2.2.1; rw [HI.out.1]; exact h) (HF4.out.next HI.out.2.2.2)
    · have q1 : ((bs n.name).toList == [102, 101, 101, 100]) = false := by rw [bs_toList]; exact beq_eq_false_iff_ne.2 h2
      have q2 : decide (bs n.name = ⟨#[102, 101, 101, 100]⟩) = false := decide_eq_false fun e => h2 (bs_inj e)
      have HE := Lib.hid (got_else h1 h2)
      clear h1 h2
      go_enter Tryz.func94, Tryz.ntmps94
      go_wp2_with fail
      refine Calls.mono HCh.out ?_
      rintro e w2 ⟨b, c, ys, rfl, -, -, hF⟩
      have HF2 := Lib.hid (HF0.out.next hF)
      have y0 := hF.cell x0 (fun h => h)
      clear hF x0 x1 x2 x3
      go_wp2_with fail
      go_ret2
      exact items_no HE.out HF2.out
end Go.Proofs.YtpinjgdnhbogoaaGreatDoor
