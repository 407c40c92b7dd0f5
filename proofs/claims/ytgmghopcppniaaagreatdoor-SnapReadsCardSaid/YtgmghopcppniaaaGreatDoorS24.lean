/- Chapter 4's examples: walked. -/
import Derived.Test.YtgmghopcppniaaaGreatDoorS23
import Derived.Test.YtgmghopcppniaaaGreatDoorC7
namespace Go.Proofs.YtgmghopcppniaaaGreatDoor
open Go.RowKit Go.Lib

theorem ListPost.row {l : List Str} {w w' : World} {e : Ending} (h : ListPost l w e w') : ∃ v, e = .returned v ∧ SR w' (fun k => w.heap.size ≤ k) v l ∧ Fr (fun _ => False) w w' := by
  obtain ⟨v, rfl, hr, hf⟩ := h
  refine ⟨v, rfl, (SRow.of_owns hr).mono ?_, hf⟩
  intro k hk
  exact (hr.lt k hk).1
/-- one text in a block of its own -/
theorem one_text {w : World} {k : Nat} {s : Str} (hb : w.heap[k]? = some (.cells #[.string (bs s)] 9 (0, 0))) : SR w (fun j => j = k) (.slice (some ⟨k, 0, none⟩) 1 1) [s] := by
  have := SRow.of_block (S := fun j => j = k) (size := 1) (n := 1) (xs := [Value.string (bs s)]) (f := (0, 0)) hb rfl (by unfold maxLen; decide) rfl
  exact this
theorem list_is {w : World} {pb mb : Nat} {D : DiskD} {l : List Str} (hD : DiskAt w pb mb D) (h : names D.files = l) : Calls Tryz.prog 56 #[.pointer (some ⟨pb, 0, none⟩)] w fun e w' => ∃ (a : Option Addr) (c : Nat), e = .returned (.slice a l.length c) ∧ SR w' (fun k => w.heap.size ≤ k) (.slice a l.length c) l ∧ Fr (fun _ => False) w w' := by
  refine (list_h hD).mono ?_
  intro e w' hp
  rw [h] at hp
  obtain ⟨v, rfl, hr, hf⟩ := hp.row
  obtain ⟨a, c, rfl, _⟩ := hr.form
  exact ⟨a, c, rfl, hr, hf⟩
theorem texts_is {w : World} {S S' : Nat → Prop} {a b : List Str} {va vb : Value} (hA : SR w S va a) (hB : SR w S' vb b) (h : a = b) : Calls Tryz.prog 57 #[va, vb] w fun e w' => e = .returned (.bool true) ∧ Fr (fun _ => False) w w' := by
  refine (sametexts_h hA hB).mono ?_
  rintro e w' ⟨rfl, hf⟩
  exact ⟨by rw [decide_eq_true h], hf⟩
theorem same_is {w : World} {S S' : Nat → Prop} {a b : BaseD} {va vb : Value} (hA : BaseIn w S a va) (hB : BaseIn w S' b vb) (h : a = b) : Calls Tryz.prog 18 #[baseV a va, baseV b vb] w fun e w' => e = .returned (.bool true) ∧ Fr (fun _ => False) w w' := by
  refine (same_h hA hB).mono ?_
  rintro e w' ⟨rfl, hf⟩
  exact ⟨by rw [decide_eq_true h], hf⟩
theorem save_to {w : World} {pb mb : Nat} {D D' : DiskD} {b : BaseD} {v : Value} {er : Int} (hE : Env w) (h8 : 8 ≤ pb ∧ 8 ≤ mb) (hD : DiskAt w pb mb D) {S : Nat → Prop} (h : BaseIn w S b v) (hS : ∀ k, S k → k < w.heap.size ∧ ¬ Own pb mb k) (hs : saveD D b = (er, D')) :
    Calls Tryz.prog 27 #[.pointer (some ⟨pb, 0, none⟩), baseV b v] w fun e w' => e = .returned (.int .i64 er) ∧ DiskAt w' pb mb D' ∧ Fr (Own pb mb) w w' := by
  refine (save_h hE h8 hD h hS).mono ?_
  rintro e w' ⟨rfl, h1, h2⟩
  rw [hs] at h1
  exact ⟨by rw [hs], h1, h2⟩
theorem load_is {w : World} {pb mb : Nat} {D : DiskD} {b : BaseD} {ok : Bool} {er : Int} (hE : Env w) (hD : DiskAt w pb mb D) (hm : D.most ≤ 1000000) (h : loadD D = ((b, ok), er)) :
    Calls Tryz.prog 29 #[.pointer (some ⟨pb, 0, none⟩)] w fun e w' => ∃ (a : Option Addr) (c : Nat), e = .returned (.tuple #[baseV b (.slice a b.voters.length c), .bool ok, .int .i64 er]) ∧ BaseIn w' (fun k => w.heap.size ≤ k ∧ k < w'.heap.size) b (.slice a b.voters.length c) ∧ Fr (fun _ => False) w w' := by
  refine (load_h hE hD hm).mono ?_
  rintro e w' ⟨v, rfl, hb, hf⟩
  rw [h] at hb ⊢
  obtain ⟨a, c, rfl, _⟩ := hb.row.form
  exact ⟨a, c, rfl, hb, hf⟩
theorem three_in {w : World} {k : Nat} {i t : Int} {d : Str} (hi : I64 i) (ht : I64 t) (hd : d.length ≤ 1000000) (hb : w.heap[k]? = some (.cells #[.int .i64 1, .int .i64 2, .int .i64 3] 3 (0, 0))) : BaseIn w (fun j => j = k) ⟨i, t, [1, 2, 3], d⟩ (.slice (some ⟨k, 0, none⟩) 3 3) :=
  ⟨IR.lit (l := [1, 2, 3]) (e := 3) (f := (0, 0)) hb (by unfold maxLen; decide) rfl, by intro n hn; simp at hn; unfold I64; rcases hn with rfl | rfl | rfl <;> decide, hi, ht, hd⟩
theorem in3 {w : World} {k : Nat} (hb : w.heap[k]? = some (.cells #[.int .i64 1, .int .i64 2, .int .i64 3] 3 (0, 0))) : BaseIn w (fun j => j = k) b3 (.slice (some ⟨k, 0, none⟩) 3 3) := three_in (by unfold I64; decide) (by unfold I64; decide) (by decide) hb
theorem in7 {w : World} {k : Nat} (hb : w.heap[k]? = some (.cells #[.int .i64 1, .int .i64 2, .int .i64 3] 3 (0, 0))) : BaseIn w (fun j => j = k) b7 (.slice (some ⟨k, 0, none⟩) 3 3) := three_in (by unfold I64; decide) (by unfold I64; decide) (by decide) hb
theorem two_in {w : World} {k : Nat} (hb : w.heap[k]? = some (.cells #[.int .i64 2, .int .i64 1] 3 (0, 0))) : BaseIn w (fun j => j = k) ⟨1, 0, [2, 1], []⟩ (.slice (some ⟨k, 0, none⟩) 2 2) :=
  ⟨IR.lit (l := [2, 1]) (e := 3) (f := (0, 0)) hb (by unfold maxLen; decide) rfl, by intro n hn; simp at hn; unfold I64; rcases hn with rfl | rfl <;> decide, by unfold I64; decide, by unfold I64; decide, by decide⟩
set_option maxRecDepth 100000 in
set_option maxHeartbeats 8000000 in
theorem shown_h {w : World} (hE : Env w) (h8 : 8 ≤ w.heap.size) : Calls Tryz.prog 14 #[] w fun e w' => e = .returned (.bool true) ∧ Fr (fun _ => False) w w' := by
  have HN := Lib.hid (new_yes (w := w) (most := 10000) (by decide) (by decide))
  go_enter Tryz.func14, Tryz.ntmps14
  go_wp2_with fail
  refine Calls.mono HN.out ?_
  rintro e w1 ⟨pb, mb, rfl, hD1, hf1, hp1, hm1⟩
  have hpb : pb < w1.heap.size := lt_of_block hD1.head
  have hmb : mb < w1.heap.size := hD1.map.lt
  have HF1 := Lib.hid hf1
  have HD1 := Lib.hid hD1
  clear hf1 hD1
  obtain ⟨w2, hw2⟩ : ∃ w2, w2 = (w1.alloc (.cells #[.int .i64 1, .int .i64 2, .int .i64 3] 3)).alloc (.cells #[.int .i64 3, .int .i64 1, .slice (some ⟨w1.heap.size, 0, none⟩) 3 3, .string ⟨#[97, 98, 99]⟩] 24) := ⟨_, rfl⟩
  have HI2 : Hid (w2.heap[w1.heap.size]? = some (.cells #[.int .i64 1, .int .i64 2, .int .i64 3] 3 (0, 0))) := by show w2.heap[w1.heap.size]? = _; rw [hw2]; exact block_old (block_new _ _) _
  have HK2 : Hid (w2.heap[w1.heap.size + 1]? = some (.cells #[.int .i64 3, .int .i64 1, .slice (some ⟨w1.heap.size, 0, none⟩) 3 3, .string ⟨#[97, 98, 99]⟩] 24 (0, 0))) := by show w2.heap[w1.heap.size + 1]? = _; rw [hw2]; exact block_new_at (by simp)
  have hF12 : Fr (fun _ => False) w1 w2 := by rw [hw2]; exact ((Fr.refl _ _).alloc _).alloc _
  have HF2 := Lib.hid (HF1.out.next hF12)
  have hs2 : w2.heap.size = w1.heap.size + 2 := by rw [hw2]; simp
  have hOw := Lib.hid (fun (k : Nat) (hk : w1.heap.size ≤ k) => own_ge hpb hmb hk)
  have HOE := Lib.hid (fun (W : World) (hf : Fr (Own pb mb) w2 W) => ((hE.grow HF2.out).fr hf (fun k hk => by rintro (e | e) <;> omega)))
  have h88 : 8 ≤ pb ∧ 8 ≤ mb := ⟨by omega, by omega⟩
  have HSV := Lib.hid (show Calls Tryz.prog 27 #[.pointer (some ⟨pb, 0, none⟩), .agg #[.int .i64 3, .int .i64 1, .slice (some ⟨w1.heap.size, 0, none⟩) 3 3, .string ⟨#[97, 98, 99]⟩]] w2 (fun e w' => e = .returned (.int .i64 0) ∧ DiskAt w' pb mb disk3 ∧ Fr (Own pb mb) w2 w') from
    save_to (b := b3) (v := .slice (some ⟨w1.heap.size, 0, none⟩) 3 3) (D := newD 10000) (D' := disk3) (er := 0) (S := fun j => j = w1.heap.size) (HOE.out _ (Fr.refl _ _)) h88 (HD1.out.grow hF12) (in3 HI2.out) (fun k hk => by subst hk; exact ⟨by omega, hOw.out _ (Nat.le_refl _)⟩) save3)
  clear hF12
  have HS2 := Lib.hid hs2
  clear hs2
  go_wp2_with fail
  rw [← hw2]
  clear hw2
  refine Calls.mono HSV.out ?_
  rintro e w3 ⟨rfl, hD3, hf3⟩
  have HD3 := Lib.hid hD3
  have HF3 := Lib.hid hf3
  have HI3 := Lib.hid (hf3.keep HI2.out (hOw.out _ (Nat.le_refl _)))
  have HK3 := Lib.hid (hf3.keep HK2.out (hOw.out _ (Nat.le_succ _)))
  have HL3 := Lib.hid (list_is hD3 (l := [[112, 51]]) rfl)
  clear hD3 hf3 HSV
  go_wp2_with fail
  refine Calls.mono HL3.out ?_
  rintro e w4 ⟨la, lc, rfl, hr4, hf4⟩
  have HR4 := Lib.hid hr4
  have HF4 := Lib.hid (HF3.out.next (hf4.mono (o2 := Own pb mb) fun _ _ h => h.elim))
  have HD4 := Lib.hid (HD3.out.grow hf4)
  have HK4 := Lib.hid (hf4.keep HK3.out (fun h => h))
  have HI4 := Lib.hid (hf4.keep HI3.out (fun h => h))
  have HLO := Lib.hid (load_is (HOE.out _ HF4.out) HD4.out (by decide) load3)
  clear hr4 hf4 HL3
  go_wp2_with fail
  refine Calls.mono HLO.out ?_
  rintro e w5 ⟨ca, cc, rfl, hb5, hf5⟩
  have HB5 := Lib.hid hb5
  have HF5 := Lib.hid (HF4.out.next (hf5.mono (o2 := Own pb mb) fun _ _ h => h.elim))
  have HD5 := Lib.hid (HD4.out.grow hf5)
  have HK5 := Lib.hid (hf5.keep HK4.out (fun h => h))
  have HI5 := Lib.hid (hf5.keep HI4.out (fun h => h))
  have HR5 := Lib.hid (HR4.out.grow hf5)
  clear hb5 hf5 HLO
  have HA5 : baseV b3 (.slice ca b3.voters.length cc) = .agg #[.int .i64 3, .int .i64 1, .slice ca 3 cc, .string ⟨#[97, 98, 99]⟩] := rfl
  rw [HA5]
  clear HA5
  obtain ⟨w6, hw6⟩ : ∃ w6, w6 = w5.alloc (.cells #[.int .i64 3, .int .i64 1, .slice ca 3 cc, .string ⟨#[97, 98, 99]⟩] 24) := ⟨_, rfl⟩
  have hF56 : Fr (fun _ => False) w5 w6 := by rw [hw6]; exact (Fr.refl _ _).alloc _
  have hc6 : w6.heap[w5.heap.size]? = some (.cells #[.int .i64 3, .int .i64 1, .slice ca 3 cc, .string ⟨#[97, 98, 99]⟩] 24 (0, 0)) := by rw [hw6]; exact block_new _ _
  have hk6 := hF56.keep HK5.out (fun h => h)
  have x0 := cell_of hc6 (i := 0) (v := .int .i64 3) rfl
  have x1 := cell_of hc6 (i := 1) (v := .int .i64 1) rfl
  have x2 := cell_of hc6 (i := 2) (v := .slice ca 3 cc) rfl
  have x3 := cell_of hc6 (i := 3) (v := .string ⟨#[97, 98, 99]⟩) rfl
  have y0 := cell_of hk6 (i := 0) (v := .int .i64 3) rfl
  have y1 := cell_of hk6 (i := 1) (v := .int .i64 1) rfl
  have y2 := cell_of hk6 (i := 2) (v := .slice (some ⟨w1.heap.size, 0, none⟩) 3 3) rfl
  have y3 := cell_of hk6 (i := 3) (v := .string ⟨#[97, 98, 99]⟩) rfl
  have HK6 := Lib.hid hk6
  have HI6 := Lib.hid (hF56.keep HI5.out (fun h => h))
  have HF6 := Lib.hid (HF5.out.next (hF56.mono (o2 := Own pb mb) fun _ _ h => h.elim))
  have HD6 := Lib.hid (HD5.out.grow hF56)
  have HR6 := Lib.hid (HR5.out.grow hF56)
  have HSM := Lib.hid (show Calls Tryz.prog 18 #[.agg #[.int .i64 3, .int .i64 1, .slice ca 3 cc, .string ⟨#[97, 98, 99]⟩], .agg #[.int .i64 3, .int .i64 1, .slice (some ⟨w1.heap.size, 0, none⟩) 3 3, .string ⟨#[97, 98, 99]⟩]] w6 (fun e w' => e = .returned (.bool true) ∧ Fr (fun _ => False) w6 w') from
    same_is (a := b3) (b := b3) (va := .slice ca b3.voters.length cc) (vb := .slice (some ⟨w1.heap.size, 0, none⟩) 3 3) (HB5.out.grow hF56) (in3 HI6.out) rfl)
  clear hc6 hk6 hF56
  go_upto_region 8 with fail
  rw [← hw6]
  clear hw6
  go_wp2_with fail
  refine Calls.mono HSM.out ?_
  rintro e w7 ⟨rfl, hf7⟩
  have HK7 := Lib.hid (hf7.keep HK6.out (fun h => h))
  have HI7 := Lib.hid (hf7.keep HI6.out (fun h => h))
  have HF7 := Lib.hid (HF6.out.next (hf7.mono (o2 := Own pb mb) fun _ _ h => h.elim))
  have HD7 := Lib.hid (HD6.out.grow hf7)
  have HR7 := Lib.hid (HR6.out.grow hf7)
  clear hf7 HSM x0 x1 x2 x3 y0 y1 y2 y3
  obtain ⟨w8, hw8⟩ : ∃ w8, w8 = w7.alloc (.cells #[.string ⟨#[112, 51]⟩] 9) := ⟨_, rfl⟩
  have hF78 : Fr (fun _ => False) w7 w8 := by rw [hw8]; exact (Fr.refl _ _).alloc _
  have hc8 : w8.heap[w7.heap.size]? = some (.cells #[.string (bs [112, 51])] 9 (0, 0)) := by rw [hw8]; exact block_new _ _
  have HTX := Lib.hid (show Calls Tryz.prog 57 #[.slice la 1 lc, .slice (some ⟨w7.heap.size, 0, none⟩) 1 1] w8 (fun e w' => e = .returned (.bool true) ∧ Fr (fun _ => False) w8 w') from
    texts_is (HR7.out.grow hF78) (one_text hc8) rfl)
  have HK8 := Lib.hid (hF78.keep HK7.out (fun h => h))
  have HI8 := Lib.hid (hF78.keep HI7.out (fun h => h))
  have HF8 := Lib.hid (HF7.out.next (hF78.mono (o2 := Own pb mb) fun _ _ h => h.elim))
  have HD8 := Lib.hid (HD7.out.grow hF78)
  clear hc8 hF78
  go_wp2_with fail
  rw [← hw8]
  clear hw8
  refine Calls.mono HTX.out ?_
  rintro e w9 ⟨rfl, hf9⟩
  have hk9 := hf9.keep HK8.out (fun h => h)
  have HI9 := Lib.hid (hf9.keep HI8.out (fun h => h))
  have HF9 := Lib.hid (HF8.out.next (hf9.mono (o2 := Own pb mb) fun _ _ h => h.elim))
  have HD9 := Lib.hid (HD8.out.grow hf9)
  have y0 := cell_of hk9 (i := 0) (v := .int .i64 3) rfl
  have y1 := cell_of hk9 (i := 1) (v := .int .i64 1) rfl
  have y2 := cell_of hk9 (i := 2) (v := .slice (some ⟨w1.heap.size, 0, none⟩) 3 3) rfl
  have y3 := cell_of hk9 (i := 3) (v := .string ⟨#[97, 98, 99]⟩) rfl
  have yf := free_of 0 hk9
  obtain ⟨wa, hwa⟩ : ∃ wa, wa = w9.setCell ⟨w1.heap.size + 1, 0, none⟩ (.int .i64 7) := ⟨_, rfl⟩
  have hFa : Fr (fun k => k = w1.heap.size + 1) w9 wa := by rw [hwa]; exact (Fr.refl (fun k => k = w1.heap.size + 1) w9).setCell (p := ⟨w1.heap.size + 1, 0, none⟩) (.inl rfl) _
  have hka : wa.heap[w1.heap.size + 1]? = some (.cells #[.int .i64 7, .int .i64 1, .slice (some ⟨w1.heap.size, 0, none⟩) 3 3, .string ⟨#[97, 98, 99]⟩] 24 (0, 0)) := by rw [hwa]; exact block_set hk9 0 _
  have HIa := Lib.hid (hFa.keep HI9.out (by omega))
  have HFa : Hid (Fr (fun k => Own pb mb k ∨ k = w1.heap.size + 1) w2 wa) := (HF9.out.mono (o2 := fun k => Own pb mb k ∨ k = w1.heap.size + 1) fun _ _ h => .inl h).next (hFa.mono fun _ _ h => .inr h)
  have HDa := Lib.hid (HD9.out.fr hFa (by omega) (by omega))
  have HOa := Lib.hid (fun (W : World) (hf : Fr (fun k => Own pb mb k ∨ k = w1.heap.size + 1) w2 W) => ((hE.grow HF2.out).fr hf (fun k hk => by rintro ((e | e) | e) <;> omega)))
  have hsa := HFa.out.size
  have hs2 := HS2.out
  have HS7 := Lib.hid (show Calls Tryz.prog 27 #[.pointer (some ⟨pb, 0, none⟩), .agg #[.int .i64 7, .int .i64 1, .slice (some ⟨w1.heap.size, 0, none⟩) 3 3, .string ⟨#[97, 98, 99]⟩]] wa (fun e w' => e = .returned (.int .i64 0) ∧ DiskAt w' pb mb disk7 ∧ Fr (Own pb mb) wa w') from
    save_to (b := b7) (v := .slice (some ⟨w1.heap.size, 0, none⟩) 3 3) (D := disk3) (D' := disk7) (er := 0) (S := fun j => j = w1.heap.size) (HOa.out _ HFa.out) h88 HDa.out (in7 HIa.out) (fun k hk => by subst hk; exact ⟨by omega, hOw.out _ (Nat.le_refl _)⟩) save7)
  have z0 := cell_of hka (i := 0) (v := .int .i64 7) rfl
  have z1 := cell_of hka (i := 1) (v := .int .i64 1) rfl
  have z2 := cell_of hka (i := 2) (v := .slice (some ⟨w1.heap.size, 0, none⟩) 3 3) rfl
  have z3 := cell_of hka (i := 3) (v := .string ⟨#[97, 98, 99]⟩) rfl
  have yl := lt_of_block hk9
  clear hf9 hk9 hFa hka hsa hs2 HTX
  go_upto_region 12 with fail
  rw [← hwa]
  clear hwa y0 y1 y2 y3 yf yl
  go_wp2_with fail
  refine Calls.mono HS7.out ?_
  rintro e wb ⟨rfl, hDb, hfb⟩
  have HDb := Lib.hid hDb
  have HFb := Lib.hid (HFa.out.next (hfb.mono (o2 := fun k => Own pb mb k ∨ k = w1.heap.size + 1) fun _ _ h => .inl h))
  have HLb := Lib.hid (list_is hDb (l := [[112, 55]]) rfl)
  clear hDb hfb HS7 z0 z1 z2 z3
  go_wp2_with fail
  refine Calls.mono HLb.out ?_
  rintro e wc ⟨ma, mc, rfl, hrc, hfc⟩
  obtain ⟨wd, hwd⟩ : ∃ wd, wd = wc.alloc (.cells #[.string ⟨#[112, 55]⟩] 9) := ⟨_, rfl⟩
  have hFd : Fr (fun _ => False) wc wd := by rw [hwd]; exact (Fr.refl _ _).alloc _
  have hcd : wd.heap[wc.heap.size]? = some (.cells #[.string (bs [112, 55])] 9 (0, 0)) := by rw [hwd]; exact block_new _ _
  have HTd := Lib.hid (show Calls Tryz.prog 57 #[.slice ma 1 mc, .slice (some ⟨wc.heap.size, 0, none⟩) 1 1] wd (fun e w' => e = .returned (.bool true) ∧ Fr (fun _ => False) wd w') from
    texts_is (hrc.grow hFd) (one_text hcd) rfl)
  have HFd := Lib.hid (HFb.out.next ((hfc.next hFd).mono (o2 := fun k => Own pb mb k ∨ k = w1.heap.size + 1) fun _ _ h => h.elim))
  have HDd := Lib.hid (HDb.out.grow (hfc.next hFd))
  clear hrc hfc hFd hcd HLb
  go_wp2_with fail
  rw [← hwd]
  clear hwd
  refine Calls.mono HTd.out ?_
  rintro e we ⟨rfl, hfe⟩
  obtain ⟨wf, hwf⟩ : ∃ wf, wf = we.alloc (.cells #[.int .i64 2, .int .i64 1] 3) := ⟨_, rfl⟩
  have hFf : Fr (fun _ => False) we wf := by rw [hwf]; exact (Fr.refl _ _).alloc _
  have hcf : wf.heap[we.heap.size]? = some (.cells #[.int .i64 2, .int .i64 1] 3 (0, 0)) := by rw [hwf]; exact block_new _ _
  have HFf := Lib.hid (HFd.out.next ((hfe.next hFf).mono (o2 := fun k => Own pb mb k ∨ k = w1.heap.size + 1) fun _ _ h => h.elim))
  have hDf := HDd.out.grow (hfe.next hFf)
  have hsf := HFd.out.size
  have hse := hfe.size
  have hs2 := HS2.out
  have HSf := Lib.hid (show Calls Tryz.prog 27 #[.pointer (some ⟨pb, 0, none⟩), .agg #[.int .i64 1, .int .i64 0, .slice (some ⟨we.heap.size, 0, none⟩) 2 2, .string ⟨#[]⟩]] wf (fun e w' => e = .returned (.int .i64 1) ∧ DiskAt w' pb mb disk7 ∧ Fr (Own pb mb) wf w') from
    save_to (b := ⟨1, 0, [2, 1], []⟩) (v := .slice (some ⟨we.heap.size, 0, none⟩) 2 2) (D := disk7) (D' := disk7) (er := 1) (S := fun j => j = we.heap.size) (HOa.out _ HFf.out) h88 hDf (two_in hcf) (fun k hk => by subst hk; exact ⟨lt_of_block hcf, hOw.out _ (by omega)⟩) (save_wrong wrong1))
  clear hFf hcf hDf hsf hse hs2 hfe HTd
  go_wp2_with fail
  rw [← hwf]
  clear hwf
  refine Calls.mono HSf.out ?_
  rintro e wg ⟨rfl, _, hfg⟩
  have HFg := Lib.hid (HFf.out.next (hfg.mono (o2 := fun k => Own pb mb k ∨ k = w1.heap.size + 1) fun _ _ h => .inl h))
  clear hfg
  go_wp2_with fail
  go_ret
  refine ⟨rfl, (HF2.out.trans HFg.out (fun k h => .inr ?_))⟩
  rcases h with (h | h) | h <;> omega
end Go.Proofs.YtgmghopcppniaaaGreatDoor
