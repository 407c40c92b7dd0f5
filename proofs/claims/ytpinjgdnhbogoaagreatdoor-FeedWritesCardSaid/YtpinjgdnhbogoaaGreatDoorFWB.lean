/- The reference's RSS and Atom; the law FeedWrites: walked. -/
import Derived.Test.YtpinjgdnhbogoaaGreatDoorFW8
import Derived.Test.YtpinjgdnhbogoaaGreatDoorQ4
namespace Go.Proofs.YtpinjgdnhbogoaaGreatDoor
open Go.RowKit Go.Lib

theorem rrss_h_head (title : Str) (l : List ItemD) : rssL title l = ([60, 114, 115, 115, 32, 118, 101, 114, 115, 105, 111, 110, 61, 34, 50, 46, 48, 34, 62, 60, 99, 104, 97, 110, 110, 101, 108, 62, 60, 116, 105, 116, 108, 101, 62] ++ escL title ++ [60, 47, 116, 105, 116, 108, 101, 62]) ++ l.flatMap itemW ++ [60, 47, 99, 104, 97, 110, 110, 101, 108, 62, 60, 47, 114, 115, 115, 62] := by
  rw [rss_cat]; unfold elemW; simp [nTitle]
theorem rrss_h_item (u : Str) (x : ItemD) : u ++ [60, 105, 116, 101, 109, 62, 60, 103, 117, 105, 100, 62] ++ escL x.id ++ [60, 47, 103, 117, 105, 100, 62, 60, 116, 105, 116, 108, 101, 62] ++ escL x.title ++ [60, 47, 116, 105, 116, 108, 101, 62, 60, 108, 105, 110, 107, 62] ++ escL x.link ++ [60, 47, 108, 105, 110, 107, 62, 60, 47, 105, 116, 101, 109, 62] = u ++ itemW x := by
  rw [item_cat]; unfold elemW; simp [nTitle, nGuid, nLink]
set_option maxRecDepth 100000 in
set_option maxHeartbeats 16000000 in
theorem rrss_h {w : World} {v : Value} {l : List ItemD} (title : Str) (hv : ItemsV w (fun k => k < w.heap.size) v l) (ht : title.length ≤ 1000000) (hl : l.length ≤ 200) (hsm : ∀ x ∈ l, SmallI x) :
    Calls Tryz.prog 63 #[.string (bs title), v] w fun e w' => e = .returned (.string (bs (rssL title l))) ∧ Fr (fun _ => False) w w' := by
  obtain ⟨ad, cap, rfl, hc1, hc2⟩ := hv.shape
  have HV := Lib.hid hv
  have HSM := Lib.hid hsm
  have HEt := Lib.hid (fun (W : World) => rescape_h (w := W) title ht)
  have hes := esc_le title
  have hd := rrss_h_head title l
  have HFl := Lib.hid (flatI_len (f := itemW) (b := 10000) (l := l) fun x hx => item_len (hsm x hx))
  have HPf := Lib.hid (fun (i : Nat) => flatI_len (f := itemW) (b := 10000) (l := l.take i) fun x hx => item_len (hsm x (List.mem_of_mem_take hx)))
  obtain ⟨T, hT⟩ : ∃ T, escL title = T := ⟨_, rfl⟩
  rw [hT] at HEt hes hd
  obtain ⟨h1, hh1⟩ : ∃ h, [60, 114, 115, 115, 32, 118, 101, 114, 115, 105, 111, 110, 61, 34, 50, 46, 48, 34, 62, 60, 99, 104, 97, 110, 110, 101, 108, 62, 60, 116, 105, 116, 108, 101, 62] ++ T = h := ⟨_, rfl⟩
  obtain ⟨h0, hh0⟩ : ∃ h, h1 ++ [60, 47, 116, 105, 116, 108, 101, 62] = h := ⟨_, rfl⟩
  rw [hh1, hh0] at hd
  have hl1 : h1.length = 35 + T.length := by rw [← hh1, List.length_append]; rfl
  have hl0 : h0.length = h1.length + 8 := by rw [← hh0, List.length_append]; rfl
  have s1 : ∀ w : World, (Op.stringOp .add ⟨#[60, 114, 115, 115, 32, 118, 101, 114, 115, 105, 111, 110, 61, 34, 50, 46, 48, 34, 62, 60, 99, 104, 97, 110, 110, 101, 108, 62, 60, 116, 105, 116, 108, 101, 62]⟩ (bs T)).run Tryz.prog w = .ok (.string (bs h1)) w := fun w => sum_at w hh1 (by omega)
  have s0 : ∀ w : World, (Op.stringOp .add (bs h1) ⟨#[60, 47, 116, 105, 116, 108, 101, 62]⟩).run Tryz.prog w = .ok (.string (bs h0)) w := fun w => sum_at w hh0 (by omega)
  have HD := Lib.hid hd
  have HW0 := Lib.hid (show h0.length ≤ 7000000 by omega)
  clear hv hsm ht hT hh0 hh1 hes hd hl1 hl0
  go_enter Tryz.func63, Tryz.ntmps63
  go_wp2_with fail
  refine Calls.mono (HEt.out _) ?_
  rintro e w1 ⟨rfl, hF1⟩
  have HF1 := Lib.hid hF1
  clear hF1
  go_wp2_with fail
  go_loopg [5, 6] l.length (fun j vs vi w' => ∃ (i : Nat) (wr : World), wr = w' ∧ vs = .string (bs (h0 ++ (l.take i).flatMap itemW)) ∧ i + j = l.length ∧ vi = .int .i64 i ∧ Hid (Fr (fun _ => False) w wr))
  case atStart => exact ⟨0, _, rfl, by simp, by omega, rfl, HF1.out⟩
  case round =>
    obtain ⟨i, wr, rfl, rfl, hi, rfl, HR⟩ := hrel
    by_cases hlt : i < l.length
    · obtain ⟨g, off, rfl, hel⟩ := HV.out.cells (by omega)
      obtain ⟨x, hx⟩ : ∃ x, l[i]? = some x := ⟨_, List.getElem?_eq_getElem hlt⟩
      obtain ⟨a0, a1, a2⟩ := hel i x hx
      have b0 := HR.out.cell a0 (fun h => h)
      have b1 := HR.out.cell a1 (fun h => h)
      have b2 := HR.out.cell a2 (fun h => h)
      have hsx := HSM.out x (List.mem_of_getElem? hx)
      have hxl := item_len hsx
      have hpl := HPf.out i
      have htl : (l.take i).length ≤ 200 := by rw [List.length_take]; omega
      have HX := Lib.hid (flat_snoc (f := itemW) hx)
      obtain ⟨u, hu⟩ : ∃ u, h0 ++ (l.take i).flatMap itemW = u := ⟨_, rfl⟩
      have hul : u.length ≤ 10000000 := by rw [← hu, List.length_append]; have := HW0.out; omega
      rw [hu]
      have HU := Lib.hid hu
      have HI := Lib.hid hi
      have HE0 := Lib.hid (fun (W : World) => rescape_h (w := W) x.id (by have := hsx.1; omega))
      have HE1 := Lib.hid (fun (W : World) => rescape_h (w := W) x.title (by have := hsx.2.1; omega))
      have HE2 := Lib.hid (fun (W : World) => rescape_h (w := W) x.link (by have := hsx.2.2; omega))
      have hit := rrss_h_item u x
      obtain ⟨E0, hE0⟩ : ∃ E, escL x.id = E := ⟨_, rfl⟩
      obtain ⟨E1, hE1⟩ : ∃ E, escL x.title = E := ⟨_, rfl⟩
      obtain ⟨E2, hE2⟩ : ∃ E, escL x.link = E := ⟨_, rfl⟩
      rw [hE0] at HE0
      rw [hE1] at HE1
      rw [hE2] at HE2
      rw [hE0, hE1, hE2] at hit
      have hll := congrArg List.length hit
      simp only [List.length_append, List.length_cons, List.length_nil] at hll
      obtain ⟨p1, hp1⟩ : ∃ p, u ++ [60, 105, 116, 101, 109, 62, 60, 103, 117, 105, 100, 62] = p := ⟨_, rfl⟩
      have lp1 : p1.length = u.length + 12 := by rw [← hp1, List.length_append] <;> rfl
      rw [hp1] at hit
      obtain ⟨p2, hp2⟩ : ∃ p, p1 ++ E0 = p := ⟨_, rfl⟩
      have lp2 : p2.length = p1.length + E0.length := by rw [← hp2, List.length_append] <;> rfl
      rw [hp2] at hit
      obtain ⟨p3, hp3⟩ : ∃ p, p2 ++ [60, 47, 103, 117, 105, 100, 62, 60, 116, 105, 116, 108, 101, 62] = p := ⟨_, rfl⟩
      have lp3 : p3.length = p2.length + 14 := by rw [← hp3, List.length_append] <;> rfl
      rw [hp3] at hit
      obtain ⟨p4, hp4⟩ : ∃ p, p3 ++ E1 = p := ⟨_, rfl⟩
      have lp4 : p4.length = p3.length + E1.length := by rw [← hp4, List.length_append] <;> rfl
      rw [hp4] at hit
      obtain ⟨p5, hp5⟩ : ∃ p, p4 ++ [60, 47, 116, 105, 116, 108, 101, 62, 60, 108, 105, 110, 107, 62] = p := ⟨_, rfl⟩
      have lp5 : p5.length = p4.length + 14 := by rw [← hp5, List.length_append] <;> rfl
      rw [hp5] at hit
      obtain ⟨p6, hp6⟩ : ∃ p, p5 ++ E2 = p := ⟨_, rfl⟩
      have lp6 : p6.length = p5.length + E2.length := by rw [← hp6, List.length_append] <;> rfl
      rw [hp6] at hit
      obtain ⟨p7, hp7⟩ : ∃ p, p6 ++ [60, 47, 108, 105, 110, 107, 62, 60, 47, 105, 116, 101, 109, 62] = p := ⟨_, rfl⟩
      have lp7 : p7.length = p6.length + 14 := by rw [← hp7, List.length_append] <;> rfl
      rw [hp7] at hit
      have sp1 : ∀ w : World, (Op.stringOp .add (bs u) ⟨#[60, 105, 116, 101, 109, 62, 60, 103, 117, 105, 100, 62]⟩).run Tryz.prog w = .ok (.string (bs p1)) w := fun w => sum_at w hp1 (by omega)
      have sp2 : ∀ w : World, (Op.stringOp .add (bs p1) (bs E0)).run Tryz.prog w = .ok (.string (bs p2)) w := fun w => sum_at w hp2 (by omega)
      have sp3 : ∀ w : World, (Op.stringOp .add (bs p2) ⟨#[60, 47, 103, 117, 105, 100, 62, 60, 116, 105, 116, 108, 101, 62]⟩).run Tryz.prog w = .ok (.string (bs p3)) w := fun w => sum_at w hp3 (by omega)
      have sp4 : ∀ w : World, (Op.stringOp .add (bs p3) (bs E1)).run Tryz.prog w = .ok (.string (bs p4)) w := fun w => sum_at w hp4 (by omega)
      have sp5 : ∀ w : World, (Op.stringOp .add (bs p4) ⟨#[60, 47, 116, 105, 116, 108, 101, 62, 60, 108, 105, 110, 107, 62]⟩).run Tryz.prog w = .ok (.string (bs p5)) w := fun w => sum_at w hp5 (by omega)
      have sp6 : ∀ w : World, (Op.stringOp .add (bs p5) (bs E2)).run Tryz.prog w = .ok (.string (bs p6)) w := fun w => sum_at w hp6 (by omega)
      have sp7 : ∀ w : World, (Op.stringOp .add (bs p6) ⟨#[60, 47, 108, 105, 110, 107, 62, 60, 47, 105, 116, 101, 109, 62]⟩).run Tryz.prog w = .ok (.string (bs p7)) w := fun w => sum_at w hp7 (by omega)
      have HIt := Lib.hid hit
      clear hel a0 a1 a2 hx hsx hxl hpl htl hu hul hi hll hit hE0 hE1 hE2 hp1 hp2 hp3 hp4 hp5 hp6 hp7 lp1 lp2 lp3 lp4 lp5 lp6 lp7 s1 s0
      go_wp2_with fail
      go_region_held3 (fun w' => w'.cell? ⟨g, off + i * 3, none⟩ = some (.string (bs x.id)) ∧ w'.cell? ⟨g, off + i * 3 + 1, none⟩ = some (.string (bs x.title)) ∧ w'.cell? ⟨g, off + i * 3 + 2, none⟩ = some (.string (bs x.link)))
        (first | go_keep | (with_reducible exact ⟨f0.cell b0 (fun h => h), f0.cell b1 (fun h => h), f0.cell b2 (fun h => h)⟩) | (with_reducible exact ⟨f1.cell b0 (fun h => h), f1.cell b1 (fun h => h), f1.cell b2 (fun h => h)⟩) | (with_reducible exact ⟨f2.cell b0 (fun h => h), f2.cell b1 (fun h => h), f2.cell b2 (fun h => h)⟩) | fail)
        (first
          | (go_at_call 53; with_reducible refine Calls.mono (HE0.out _) ?_; rintro e w_f0 ⟨rfl, hq⟩; have f0 := (show Fr (fun _ => False) wr _ by repeat (first | exact Fr.refl _ _ | exact f1 | exact f2 | refine Fr.drew ?_ | refine Fr.alloc ?_ _)).next hq; clear hq)
          | (go_at_call 53; with_reducible refine Calls.mono (HE1.out _) ?_; rintro e w_f1 ⟨rfl, hq⟩; have f1 := (show Fr (fun _ => False) wr _ by repeat (first | exact Fr.refl _ _ | exact f0 | exact f2 | refine Fr.drew ?_ | refine Fr.alloc ?_ _)).next hq; clear hq)
          | (go_at_call 53; with_reducible refine Calls.mono (HE2.out _) ?_; rintro e w_f2 ⟨rfl, hq⟩; have f2 := (show Fr (fun _ => False) wr _ by repeat (first | exact Fr.refl _ _ | exact f0 | exact f1 | refine Fr.drew ?_ | refine Fr.alloc ?_ _)).next hq; clear hq)
          | fail)
      all_goals
        have HN := Lib.hid (HR.out.next (show Fr (fun _ => False) wr _ by first | exact f2 | exact f2.start rfl rfl rfl rfl))
        go_wp2_with fail
        go_roundg (l.length - (i + 1))
        case measure => have := HI.out; omega
        case rel => exact ⟨i + 1, _, rfl, by rw [HX.out, ← List.append_assoc, HU.out, ← HIt.out], by have := HI.out; omega, by go_num, HN.out⟩
    · have hil : l.length = i := by omega
      have hfl := HFl.out
      have hD := HD.out
      obtain ⟨u, hu⟩ : ∃ u, h0 ++ l.flatMap itemW = u := ⟨_, rfl⟩
      rw [hu] at hD
      have hul : u.length ≤ 10000000 := by rw [← hu, List.length_append]; have := HW0.out; omega
      have hu2 : h0 ++ (l.take i).flatMap itemW = u := by rw [← hil, List.take_length]; exact hu
      rw [hu2]
      obtain ⟨z, hz⟩ : ∃ z, u ++ [60, 47, 99, 104, 97, 110, 110, 101, 108, 62, 60, 47, 114, 115, 115, 62] = z := ⟨_, rfl⟩
      rw [hz] at hD
      have hzl : z.length = u.length + 16 := by rw [← hz, List.length_append]; rfl
      have s2 : ∀ w : World, (Op.stringOp .add (bs u) ⟨#[60, 47, 99, 104, 97, 110, 110, 101, 108, 62, 60, 47, 114, 115, 115, 62]⟩).run Tryz.prog w = .ok (.string (bs z)) w := fun w => sum_at w hz (by omega)
      have HZ := Lib.hid hD
      clear hi hfl hlt hu hu2 hul hz hzl hD s1 s0
      subst hil
      go_wp2_with fail
      go_ret
      exact ⟨by rw [HZ.out] <;> rfl, HR.out⟩
theorem ratom_h_head (title : Str) (l : List ItemD) : atomL title l = ([60, 102, 101, 101, 100, 32, 120, 109, 108, 110, 115, 61, 34, 104, 116, 116, 112, 58, 47, 47, 119, 119, 119, 46, 119, 51, 46, 111, 114, 103, 47, 50, 48, 48, 53, 47, 65, 116, 111, 109, 34, 62, 60, 116, 105, 116, 108, 101, 62] ++ escL title ++ [60, 47, 116, 105, 116, 108, 101, 62]) ++ l.flatMap entryW ++ [60, 47, 102, 101, 101, 100, 62] := by
  rw [atom_cat]; unfold elemW; simp [nTitle]
theorem ratom_h_item (u : Str) (x : ItemD) : u ++ [60, 101, 110, 116, 114, 121, 62, 60, 105, 100, 62] ++ escL x.id ++ [60, 47, 105, 100, 62, 60, 116, 105, 116, 108, 101, 62] ++ escL x.title ++ [60, 47, 116, 105, 116, 108, 101, 62, 60, 108, 105, 110, 107, 32, 104, 114, 101, 102, 61, 34] ++ escL x.link ++ [34, 47, 62, 60, 47, 101, 110, 116, 114, 121, 62] = u ++ entryW x := by
  rw [entry_cat]; unfold elemW; simp [nTitle, nId]
set_option maxRecDepth 100000 in
set_option maxHeartbeats 16000000 in
theorem ratom_h {w : World} {v : Value} {l : List ItemD} (title : Str) (hv : ItemsV w (fun k => k < w.heap.size) v l) (ht : title.length ≤ 1000000) (hl : l.length ≤ 200) (hsm : ∀ x ∈ l, SmallI x) :
    Calls Tryz.prog 65 #[.string (bs title), v] w fun e w' => e = .returned (.string (bs (atomL title l))) ∧ Fr (fun _ => False) w w' := by
  obtain ⟨ad, cap, rfl, hc1, hc2⟩ := hv.shape
  have HV := Lib.hid hv
  have HSM := Lib.hid hsm
  have HEt := Lib.hid (fun (W : World) => rescape_h (w := W) title ht)
  have hes := esc_le title
  have hd := ratom_h_head title l
  have HFl := Lib.hid (flatI_len (f := entryW) (b := 10000) (l := l) fun x hx => entry_len (hsm x hx))
  have HPf := Lib.hid (fun (i : Nat) => flatI_len (f := entryW) (b := 10000) (l := l.take i) fun x hx => entry_len (hsm x (List.mem_of_mem_take hx)))
  obtain ⟨T, hT⟩ : ∃ T, escL title = T := ⟨_, rfl⟩
  rw [hT] at HEt hes hd
  obtain ⟨h1, hh1⟩ : ∃ h, [60, 102, 101, 101, 100, 32, 120, 109, 108, 110, 115, 61, 34, 104, 116, 116, 112, 58, 47, 47, 119, 119, 119, 46, 119, 51, 46, 111, 114, 103, 47, 50, 48, 48, 53, 47, 65, 116, 111, 109, 34, 62, 60, 116, 105, 116, 108, 101, 62] ++ T = h := ⟨_, rfl⟩
  obtain ⟨h0, hh0⟩ : ∃ h, h1 ++ [60, 47, 116, 105, 116, 108, 101, 62] = h := ⟨_, rfl⟩
  rw [hh1, hh0] at hd
  have hl1 : h1.length = 49 + T.length := by rw [← hh1, List.length_append]; rfl
  have hl0 : h0.length = h1.length + 8 := by rw [← hh0, List.length_append]; rfl
  have s1 : ∀ w : World, (Op.stringOp .add ⟨#[60, 102, 101, 101, 100, 32, 120, 109, 108, 110, 115, 61, 34, 104, 116, 116, 112, 58, 47, 47, 119, 119, 119, 46, 119, 51, 46, 111, 114, 103, 47, 50, 48, 48, 53, 47, 65, 116, 111, 109, 34, 62, 60, 116, 105, 116, 108, 101, 62]⟩ (bs T)).run Tryz.prog w = .ok (.string (bs h1)) w := fun w => sum_at w hh1 (by omega)
  have s0 : ∀ w : World, (Op.stringOp .add (bs h1) ⟨#[60, 47, 116, 105, 116, 108, 101, 62]⟩).run Tryz.prog w = .ok (.string (bs h0)) w := fun w => sum_at w hh0 (by omega)
  have HD := Lib.hid hd
  have HW0 := Lib.hid (show h0.length ≤ 7000000 by omega)
  clear hv hsm ht hT hh0 hh1 hes hd hl1 hl0
  go_enter Tryz.func65, Tryz.ntmps65
  go_wp2_with fail
  refine Calls.mono (HEt.out _) ?_
  rintro e w1 ⟨rfl, hF1⟩
  have HF1 := Lib.hid hF1
  clear hF1
  go_wp2_with fail
  go_loopg [5, 6] l.length (fun j vs vi w' => ∃ (i : Nat) (wr : World), wr = w' ∧ vs = .string (bs (h0 ++ (l.take i).flatMap entryW)) ∧ i + j = l.length ∧ vi = .int .i64 i ∧ Hid (Fr (fun _ => False) w wr))
  case atStart => exact ⟨0, _, rfl, by simp, by omega, rfl, HF1.out⟩
  case round =>
    obtain ⟨i, wr, rfl, rfl, hi, rfl, HR⟩ := hrel
    by_cases hlt : i < l.length
    · obtain ⟨g, off, rfl, hel⟩ := HV.out.cells (by omega)
      obtain ⟨x, hx⟩ : ∃ x, l[i]? = some x := ⟨_, List.getElem?_eq_getElem hlt⟩
      obtain ⟨a0, a1, a2⟩ := hel i x hx
      have b0 := HR.out.cell a0 (fun h => h)
      have b1 := HR.out.cell a1 (fun h => h)
      have b2 := HR.out.cell a2 (fun h => h)
      have hsx := HSM.out x (List.mem_of_getElem? hx)
      have hxl := entry_len hsx
      have hpl := HPf.out i
      have htl : (l.take i).length ≤ 200 := by rw [List.length_take]; omega
      have HX := Lib.hid (flat_snoc (f := entryW) hx)
      obtain ⟨u, hu⟩ : ∃ u, h0 ++ (l.take i).flatMap entryW = u := ⟨_, rfl⟩
      have hul : u.length ≤ 10000000 := by rw [← hu, List.length_append]; have := HW0.out; omega
      rw [hu]
      have HU := Lib.hid hu
      have HI := Lib.hid hi
      have HE0 := Lib.hid (fun (W : World) => rescape_h (w := W) x.id (by have := hsx.1; omega))
      have HE1 := Lib.hid (fun (W : World) => rescape_h (w := W) x.title (by have := hsx.2.1; omega))
      have HE2 := Lib.hid (fun (W : World) => rescape_h (w := W) x.link (by have := hsx.2.2; omega))
      have hit := ratom_h_item u x
      obtain ⟨E0, hE0⟩ : ∃ E, escL x.id = E := ⟨_, rfl⟩
      obtain ⟨E1, hE1⟩ : ∃ E, escL x.title = E := ⟨_, rfl⟩
      obtain ⟨E2, hE2⟩ : ∃ E, escL x.link = E := ⟨_, rfl⟩
      rw [hE0] at HE0
      rw [hE1] at HE1
      rw [hE2] at HE2
      rw [hE0, hE1, hE2] at hit
      have hll := congrArg List.length hit
      simp only [List.length_append, List.length_cons, List.length_nil] at hll
      obtain ⟨p1, hp1⟩ : ∃ p, u ++ [60, 101, 110, 116, 114, 121, 62, 60, 105, 100, 62] = p := ⟨_, rfl⟩
      have lp1 : p1.length = u.length + 11 := by rw [← hp1, List.length_append] <;> rfl
      rw [hp1] at hit
      obtain ⟨p2, hp2⟩ : ∃ p, p1 ++ E0 = p := ⟨_, rfl⟩
      have lp2 : p2.length = p1.length + E0.length := by rw [← hp2, List.length_append] <;> rfl
      rw [hp2] at hit
      obtain ⟨p3, hp3⟩ : ∃ p, p2 ++ [60, 47, 105, 100, 62, 60, 116, 105, 116, 108, 101, 62] = p := ⟨_, rfl⟩
      have lp3 : p3.length = p2.length + 12 := by rw [← hp3, List.length_append] <;> rfl
      rw [hp3] at hit
      obtain ⟨p4, hp4⟩ : ∃ p, p3 ++ E1 = p := ⟨_, rfl⟩
      have lp4 : p4.length = p3.length + E1.length := by rw [← hp4, List.length_append] <;> rfl
      rw [hp4] at hit
      obtain ⟨p5, hp5⟩ : ∃ p, p4 ++ [60, 47, 116, 105, 116, 108, 101, 62, 60, 108, 105, 110, 107, 32, 104, 114, 101, 102, 61, 34] = p := ⟨_, rfl⟩
      have lp5 : p5.length = p4.length + 20 := by rw [← hp5, List.length_append] <;> rfl
      rw [hp5] at hit
      obtain ⟨p6, hp6⟩ : ∃ p, p5 ++ E2 = p := ⟨_, rfl⟩
      have lp6 : p6.length = p5.length + E2.length := by rw [← hp6, List.length_append] <;> rfl
      rw [hp6] at hit
      obtain ⟨p7, hp7⟩ : ∃ p, p6 ++ [34, 47, 62, 60, 47, 101, 110, 116, 114, 121, 62] = p := ⟨_, rfl⟩
      have lp7 : p7.length = p6.length + 11 := by rw [← hp7, List.length_append] <;> rfl
      rw [hp7] at hit
      have sp1 : ∀ w : World, (Op.stringOp .add (bs u) ⟨#[60, 101, 110, 116, 114, 121, 62, 60, 105, 100, 62]⟩).run Tryz.prog w = .ok (.string (bs p1)) w := fun w => sum_at w hp1 (by omega)
      have sp2 : ∀ w : World, (Op.stringOp .add (bs p1) (bs E0)).run Tryz.prog w = .ok (.string (bs p2)) w := fun w => sum_at w hp2 (by omega)
      have sp3 : ∀ w : World, (Op.stringOp .add (bs p2) ⟨#[60, 47, 105, 100, 62, 60, 116, 105, 116, 108, 101, 62]⟩).run Tryz.prog w = .ok (.string (bs p3)) w := fun w => sum_at w hp3 (by omega)
      have sp4 : ∀ w : World, (Op.stringOp .add (bs p3) (bs E1)).run Tryz.prog w = .ok (.string (bs p4)) w := fun w => sum_at w hp4 (by omega)
      have sp5 : ∀ w : World, (Op.stringOp .add (bs p4) ⟨#[60, 47, 116, 105, 116, 108, 101, 62, 60, 108, 105, 110, 107, 32, 104, 114, 101, 102, 61, 34]⟩).run Tryz.prog w = .ok (.string (bs p5)) w := fun w => sum_at w hp5 (by omega)
      have sp6 : ∀ w : World, (Op.stringOp .add (bs p5) (bs E2)).run Tryz.prog w = .ok (.string (bs p6)) w := fun w => sum_at w hp6 (by omega)
      have sp7 : ∀ w : World, (Op.stringOp .add (bs p6) ⟨#[34, 47, 62, 60, 47, 101, 110, 116, 114, 121, 62]⟩).run Tryz.prog w = .ok (.string (bs p7)) w := fun w => sum_at w hp7 (by omega)
      have HIt := Lib.hid hit
      clear hel a0 a1 a2 hx hsx hxl hpl htl hu hul hi hll hit hE0 hE1 hE2 hp1 hp2 hp3 hp4 hp5 hp6 hp7 lp1 lp2 lp3 lp4 lp5 lp6 lp7 s1 s0
      go_wp2_with fail
      go_region_held3 (fun w' => w'.cell? ⟨g, off + i * 3, none⟩ = some (.string (bs x.id)) ∧ w'.cell? ⟨g, off + i * 3 + 1, none⟩ = some (.string (bs x.title)) ∧ w'.cell? ⟨g, off + i * 3 + 2, none⟩ = some (.string (bs x.link)))
        (first | go_keep | (with_reducible exact ⟨f0.cell b0 (fun h => h), f0.cell b1 (fun h => h), f0.cell b2 (fun h => h)⟩) | (with_reducible exact ⟨f1.cell b0 (fun h => h), f1.cell b1 (fun h => h), f1.cell b2 (fun h => h)⟩) | (with_reducible exact ⟨f2.cell b0 (fun h => h), f2.cell b1 (fun h => h), f2.cell b2 (fun h => h)⟩) | fail)
        (first
          | (go_at_call 53; with_reducible refine Calls.mono (HE0.out _) ?_; rintro e w_f0 ⟨rfl, hq⟩; have f0 := (show Fr (fun _ => False) wr _ by repeat (first | exact Fr.refl _ _ | exact f1 | exact f2 | refine Fr.drew ?_ | refine Fr.alloc ?_ _)).next hq; clear hq)
          | (go_at_call 53; with_reducible refine Calls.mono (HE1.out _) ?_; rintro e w_f1 ⟨rfl, hq⟩; have f1 := (show Fr (fun _ => False) wr _ by repeat (first | exact Fr.refl _ _ | exact f0 | exact f2 | refine Fr.drew ?_ | refine Fr.alloc ?_ _)).next hq; clear hq)
          | (go_at_call 53; with_reducible refine Calls.mono (HE2.out _) ?_; rintro e w_f2 ⟨rfl, hq⟩; have f2 := (show Fr (fun _ => False) wr _ by repeat (first | exact Fr.refl _ _ | exact f0 | exact f1 | refine Fr.drew ?_ | refine Fr.alloc ?_ _)).next hq; clear hq)
          | fail)
      all_goals
        have HN := Lib.hid (HR.out.next (show Fr (fun _ => False) wr _ by first | exact f2 | exact f2.start rfl rfl rfl rfl))
        go_wp2_with fail
        go_roundg (l.length - (i + 1))
        case measure => have := HI.out; omega
        case rel => exact ⟨i + 1, _, rfl, by rw [HX.out, ← List.append_assoc, HU.out, ← HIt.out], by have := HI.out; omega, by go_num, HN.out⟩
    · have hil : l.length = i := by omega
      have hfl := HFl.out
      have hD := HD.out
      obtain ⟨u, hu⟩ : ∃ u, h0 ++ l.flatMap entryW = u := ⟨_, rfl⟩
      rw [hu] at hD
      have hul : u.length ≤ 10000000 := by rw [← hu, List.length_append]; have := HW0.out; omega
      have hu2 : h0 ++ (l.take i).flatMap entryW = u := by rw [← hil, List.take_length]; exact hu
      rw [hu2]
      obtain ⟨z, hz⟩ : ∃ z, u ++ [60, 47, 102, 101, 101, 100, 62] = z := ⟨_, rfl⟩
      rw [hz] at hD
      have hzl : z.length = u.length + 7 := by rw [← hz, List.length_append]; rfl
      have s2 : ∀ w : World, (Op.stringOp .add (bs u) ⟨#[60, 47, 102, 101, 101, 100, 62]⟩).run Tryz.prog w = .ok (.string (bs z)) w := fun w => sum_at w hz (by omega)
      have HZ := Lib.hid hD
      clear hi hfl hlt hu hu2 hul hz hzl hD s1 s0
      subst hil
      go_wp2_with fail
      go_ret
      exact ⟨by rw [HZ.out] <;> rfl, HR.out⟩
set_option maxRecDepth 100000 in
set_option maxHeartbeats 16000000 in
theorem feedwrites_h {w : World} (hE : Env w) {v : Value} {l : List ItemD} (hv : ItemsV w (fun k => k < w.heap.size) v l) (title : Str) : Calls Tryz.prog 17 #[.string (bs title), v] w fun e w' => e = .returned (.bool true) ∧ Fr (fun _ => False) w w' := by
  have htz : (bs title).size = title.length := rfl
  obtain ⟨a, c, rfl, -, -⟩ := hv.shape
  have HS := Lib.hid (fshown_h hE)
  have HV := Lib.hid (fun (W : World) (hF : Fr (fun _ => False) w W) => show ItemsV W (fun k => k < W.heap.size) (.slice a l.length c) l from (hv.fr hF fun _ _ h => h).mono fun k hk => Nat.lt_of_lt_of_le hk hF.size)
  have HSm := Lib.hid (fun (W : World) (hF : Fr (fun _ => False) w W) => small_h (HV.out W hF))
  clear hE hv
  cases hsm : smallB l with
  | false =>
    rw [hsm] at HSm
    clear hsm
    go_enter Tryz.func17, Tryz.ntmps17
    go_wp2_with fail
    refine Calls.mono HS.out ?_
    rintro e w1 ⟨rfl, hF⟩
    have HF := Lib.hid hF
    clear hF
    go_wp2_with fail
    refine Calls.mono (HSm.out _ HF.out) ?_
    rintro e w2 ⟨rfl, rfl⟩
    go_wp2_with fail
    go_ret
    exact ⟨rfl, HF.out⟩
  | true =>
  have HAll := Lib.hid (small_all hsm)
  rw [hsm] at HSm
  clear hsm
  by_cases ht5 : 500 < title.length
  · have hti : (500 : Int) < (title.length : Int) := by omega
    clear ht5
    go_enter Tryz.func17, Tryz.ntmps17
    go_wp2_with fail
    refine Calls.mono HS.out ?_
    rintro e w1 ⟨rfl, hF⟩
    have HF := Lib.hid hF
    clear hF
    go_wp2_with fail
    refine Calls.mono (HSm.out _ HF.out) ?_
    rintro e w2 ⟨rfl, rfl⟩
    go_wp2_with fail
    go_ret
    exact ⟨rfl, HF.out⟩
  have hti : ¬ (500 : Int) < (title.length : Int) := by omega
  have hll := HAll.out.1
  have H1 := Lib.hid (fun (W : World) (hF : Fr (fun _ => False) w W) => rssdoc_h (w := W) (l := l) title (HV.out W hF) (by omega) (by omega) HAll.out.2)
  have H2 := Lib.hid (fun (W : World) (hF : Fr (fun _ => False) w W) => rrss_h (w := W) (l := l) title (HV.out W hF) (by omega) (by omega) HAll.out.2)
  have H3 := Lib.hid (fun (W : World) (hF : Fr (fun _ => False) w W) => atomdoc_h (w := W) (l := l) title (HV.out W hF) (by omega) (by omega) HAll.out.2)
  have H4 := Lib.hid (fun (W : World) (hF : Fr (fun _ => False) w W) => ratom_h (w := W) (l := l) title (HV.out W hF) (by omega) (by omega) HAll.out.2)
  obtain ⟨R, hR⟩ : ∃ R, bs (rssL title l) = R := ⟨_, rfl⟩
  obtain ⟨A, hA⟩ : ∃ A, bs (atomL title l) = A := ⟨_, rfl⟩
  rw [hR] at H1 H2
  rw [hA] at H3 H4
  have t1 : (R.toList == R.toList) = true := by simp
  have t2 : (A.toList == A.toList) = true := by simp
  clear hR hA hll ht5
  go_enter Tryz.func17, Tryz.ntmps17
  go_wp2_with fail
  refine Calls.mono HS.out ?_
  rintro e w1 ⟨rfl, hF⟩
  have HF := Lib.hid hF
  clear hF
  go_wp2_with fail
  refine Calls.mono (HSm.out _ HF.out) ?_
  rintro e w2 ⟨rfl, rfl⟩
  go_wp2_with fail
  refine Calls.mono (H1.out _ HF.out) ?_
  rintro e w3 ⟨rfl, hF⟩
  have HG0 := Lib.hid (HF.out.next hF)
  clear hF
  go_wp2_with fail
  refine Calls.mono (H2.out _ HG0.out) ?_
  rintro e w4 ⟨rfl, hF⟩
  have HG1 := Lib.hid (HG0.out.next hF)
  clear hF
  go_wp2_with fail
  refine Calls.mono (H3.out _ HG1.out) ?_
  rintro e w5 ⟨rfl, hF⟩
  have HG2 := Lib.hid (HG1.out.next hF)
  clear hF
  go_wp2_with fail
  refine Calls.mono (H4.out _ HG2.out) ?_
  rintro e w6 ⟨rfl, hF⟩
  have HG3 := Lib.hid (HG2.out.next hF)
  clear hF
  go_wp2_with fail
  go_ret
  exact ⟨rfl, HG3.out⟩
end Go.Proofs.YtpinjgdnhbogoaaGreatDoor
