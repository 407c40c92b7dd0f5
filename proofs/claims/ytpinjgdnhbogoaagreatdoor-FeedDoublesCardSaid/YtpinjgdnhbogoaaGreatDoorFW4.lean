/- feed's element, RSS, Atom: walked. -/
import Derived.Test.YtpinjgdnhbogoaaGreatDoorFM
import Derived.Test.YtpinjgdnhbogoaaGreatDoorWR
import Derived.Test.YtpinjgdnhbogoaaGreatDoorFP
import Derived.Deep.RegionHeld3
namespace Go.Proofs.YtpinjgdnhbogoaaGreatDoor
open Go.RowKit Go.Lib

theorem lit_bs (l : Str) : (⟨l.toArray⟩ : ByteArray) = bs l := rfl
/-- a sum of strings, under a name of its own -/
theorem sum_at (w : World) {a b c : Str} (h : a ++ b = c) (hl : c.length ≤ 100000000) : (Op.stringOp .add (bs a) (bs b)).run Tryz.prog w = .ok (.string (bs c)) w := by
  rw [← h, ← bs_append]
  exact str_add w (by rw [← h, List.length_append] at hl; exact hl)
theorem elem_len (nm s : Str) : (elemW nm s).length = 2 * nm.length + (escL s).length + 5 := by unfold elemW; simp; omega
set_option maxHeartbeats 4000000 in
theorem element_h {w : World} (nm s : Str) (hn : nm.length ≤ 1000) (hs : s.length ≤ 1000000) : Calls Tryz.prog 97 #[.string (bs nm), .string (bs s)] w fun e w' => e = .returned (.string (bs (elemW nm s))) ∧ Fr (fun _ => False) w w' := by
  have hel := esc_le s
  have HE := Lib.hid (fun (W : World) => escape_h (w := W) s hs)
  obtain ⟨E, hE⟩ : ∃ E, escL s = E := ⟨_, rfl⟩
  rw [hE] at HE hel
  obtain ⟨u1, h1⟩ : ∃ u1, [60] ++ nm = u1 := ⟨_, rfl⟩
  obtain ⟨u2, h2⟩ : ∃ u2, u1 ++ [62] = u2 := ⟨_, rfl⟩
  obtain ⟨u3, h3⟩ : ∃ u3, u2 ++ E = u3 := ⟨_, rfl⟩
  obtain ⟨u4, h4⟩ : ∃ u4, u3 ++ [60, 47] = u4 := ⟨_, rfl⟩
  obtain ⟨u5, h5⟩ : ∃ u5, u4 ++ nm = u5 := ⟨_, rfl⟩
  obtain ⟨u6, h6⟩ : ∃ u6, u5 ++ [62] = u6 := ⟨_, rfl⟩
  have l1 : u1.length = 1 + nm.length := by rw [← h1, List.length_append]; rfl
  have l2 : u2.length = u1.length + 1 := by rw [← h2, List.length_append]; rfl
  have l3 : u3.length = u2.length + E.length := by rw [← h3, List.length_append]
  have l4 : u4.length = u3.length + 2 := by rw [← h4, List.length_append]; rfl
  have l5 : u5.length = u4.length + nm.length := by rw [← h5, List.length_append]
  have l6 : u6.length = u5.length + 1 := by rw [← h6, List.length_append]; rfl
  have s1 : ∀ w : World, (Op.stringOp .add ⟨#[60]⟩ (bs nm)).run Tryz.prog w = .ok (.string (bs u1)) w := fun w => sum_at w h1 (by omega)
  have s2 : ∀ w : World, (Op.stringOp .add (bs u1) ⟨#[62]⟩).run Tryz.prog w = .ok (.string (bs u2)) w := fun w => sum_at w h2 (by omega)
  have s3 : ∀ w : World, (Op.stringOp .add (bs u2) (bs E)).run Tryz.prog w = .ok (.string (bs u3)) w := fun w => sum_at w h3 (by omega)
  have s4 : ∀ w : World, (Op.stringOp .add (bs u3) ⟨#[60, 47]⟩).run Tryz.prog w = .ok (.string (bs u4)) w := fun w => sum_at w h4 (by omega)
  have s5 : ∀ w : World, (Op.stringOp .add (bs u4) (bs nm)).run Tryz.prog w = .ok (.string (bs u5)) w := fun w => sum_at w h5 (by omega)
  have s6 : ∀ w : World, (Op.stringOp .add (bs u5) ⟨#[62]⟩).run Tryz.prog w = .ok (.string (bs u6)) w := fun w => sum_at w h6 (by omega)
  have HR := Lib.hid (show elemW nm s = u6 by rw [← h6, ← h5, ← h4, ← h3, ← h2, ← h1, ← hE]; unfold elemW; simp)
  clear hE h1 h2 h3 h4 h5 h6 l1 l2 l3 l4 l5 l6 hn hs hel
  go_enter Tryz.func97, Tryz.ntmps97
  go_wp2_with fail
  refine Calls.mono (HE.out _) ?_
  rintro e w1 ⟨rfl, hF⟩
  have HF := Lib.hid hF
  clear hF
  go_wp2_with fail
  go_ret
  exact ⟨by rw [HR.out] <;> rfl, HF.out⟩
theorem rss_cat (title : Str) (l : List ItemD) : rssL title l = [60, 114, 115, 115, 32, 118, 101, 114, 115, 105, 111, 110, 61, 34, 50, 46, 48, 34, 62, 60, 99, 104, 97, 110, 110, 101, 108, 62] ++ elemW nTitle title ++ l.flatMap itemW ++ [60, 47, 99, 104, 97, 110, 110, 101, 108, 62, 60, 47, 114, 115, 115, 62] := by
  unfold rssL; simp [nRss, nVersion, vTwo, nChannel]
theorem atom_cat (title : Str) (l : List ItemD) : atomL title l = [60, 102, 101, 101, 100, 32, 120, 109, 108, 110, 115, 61, 34, 104, 116, 116, 112, 58, 47, 47, 119, 119, 119, 46, 119, 51, 46, 111, 114, 103, 47, 50, 48, 48, 53, 47, 65, 116, 111, 109, 34, 62] ++ elemW nTitle title ++ l.flatMap entryW ++ [60, 47, 102, 101, 101, 100, 62] := by
  unfold atomL; simp [nFeed, nXmlns, vAtom]
theorem item_cat (x : ItemD) : itemW x = [60, 105, 116, 101, 109, 62] ++ elemW nGuid x.id ++ elemW nTitle x.title ++ elemW nLink x.link ++ [60, 47, 105, 116, 101, 109, 62] := by
  unfold itemW; simp [nItem]
theorem entry_cat (x : ItemD) : entryW x = [60, 101, 110, 116, 114, 121, 62] ++ elemW nId x.id ++ elemW nTitle x.title ++ [60, 108, 105, 110, 107, 32, 104, 114, 101, 102, 61, 34] ++ escL x.link ++ [34, 47, 62, 60, 47, 101, 110, 116, 114, 121, 62] := by
  unfold entryW; simp [nEntry, nLink, nHref]
theorem flat_snoc {f : ItemD → Str} {l : List ItemD} {i : Nat} {x : ItemD} (h : l[i]? = some x) : (l.take (i + 1)).flatMap f = (l.take i).flatMap f ++ f x := by
  rw [List.take_add_one, h, List.flatMap_append]; simp
theorem flatI_len {f : ItemD → Str} {b : Nat} : ∀ {l : List ItemD}, (∀ x ∈ l, (f x).length ≤ b) → (l.flatMap f).length ≤ l.length * b
  | [], _ => Nat.zero_le _
  | x :: l, h => by
    have h1 := h x (List.mem_cons_self ..)
    have h2 := flatI_len (l := l) fun y hy => h y (List.mem_cons_of_mem _ hy)
    rw [List.flatMap_cons, List.length_append, List.length_cons, Nat.succ_mul]; omega
def SmallI (x : ItemD) : Prop := x.id.length ≤ 500 ∧ x.title.length ≤ 500 ∧ x.link.length ≤ 500
theorem item_len {x : ItemD} (h : SmallI x) : (itemW x).length ≤ 10000 := by
  have h1 := esc_le x.id
  have h2 := esc_le x.title
  have h3 := esc_le x.link
  obtain ⟨a, b, c⟩ := h
  rw [item_cat]
  simp only [List.length_append, elem_len, List.length_cons, List.length_nil, nGuid, nTitle, nLink]
  omega
theorem entry_len {x : ItemD} (h : SmallI x) : (entryW x).length ≤ 10000 := by
  have h1 := esc_le x.id
  have h2 := esc_le x.title
  have h3 := esc_le x.link
  obtain ⟨a, b, c⟩ := h
  rw [entry_cat]
  simp only [List.length_append, elem_len, List.length_cons, List.length_nil, nId, nTitle]
  omega
theorem item_kept {b B : Nat} {w0 w10 w11 : World} {vs : Array Value} (hk : Lib.OthersKept 5 (some B) w10 w11) (hf : Fr (fun _ => False) w0 w10) (hb : w0.heap[b]? = some (.cells vs 82 (0, 0))) (hB : B ≠ b) (i : Nat) {v : Value} (hv : vs[i]? = some v) : w11.cell? ⟨b, i, none⟩ = some v :=
  cell_of (hk _ _ (hf.keep hb (fun h => h)) (by simpa using hB.symm) (fun c fz e => by injection e with _ e; exact absurd e (by decide))) hv
set_option maxRecDepth 100000 in
set_option maxHeartbeats 16000000 in
theorem rssdoc_h {w : World} {v : Value} {l : List ItemD} (title : Str) (hv : ItemsV w (fun k => k < w.heap.size) v l) (ht : title.length ≤ 1000000) (hl : l.length ≤ 200) (hsm : ∀ x ∈ l, SmallI x) :
    Calls Tryz.prog 62 #[.string (bs title), v] w fun e w' => e = .returned (.string (bs (rssL title l))) ∧ Fr (fun _ => False) w w' := by
  obtain ⟨ad, cap, rfl, hc1, hc2⟩ := hv.shape
  have HV := Lib.hid hv
  have HSM := Lib.hid hsm
  have HS := Lib.hid (WIn.start w)
  have HF0 : Hid (Fr (fun _ => False) w (w.alloc (.cells #[.pointer none, .slice none 0 0] 115))) := (Fr.refl _ _).alloc _
  have HEt := Lib.hid (fun (W : World) => show Calls Tryz.prog 97 #[.string ⟨#[116, 105, 116, 108, 101]⟩, .string (bs title)] W (fun e w' => e = .returned (.string (bs (elemW nTitle title))) ∧ Fr (fun _ => False) W w') from element_h (w := W) nTitle title (by decide) ht)
  have hle := elem_len nTitle title
  have hes := esc_le title
  have h5 : nTitle.length = 5 := rfl
  obtain ⟨T, hT⟩ : ∃ T, elemW nTitle title = T := ⟨_, rfl⟩
  rw [hT] at HEt hle
  obtain ⟨h0, hh0⟩ : ∃ h0, [60, 114, 115, 115, 32, 118, 101, 114, 115, 105, 111, 110, 61, 34, 50, 46, 48, 34, 62, 60, 99, 104, 97, 110, 110, 101, 108, 62] ++ T = h0 := ⟨_, rfl⟩
  have hl0 : h0.length = 28 + T.length := by rw [← hh0, List.length_append]; rfl
  have s0 : ∀ w : World, (Op.stringOp .add ⟨#[60, 114, 115, 115, 32, 118, 101, 114, 115, 105, 111, 110, 61, 34, 50, 46, 48, 34, 62, 60, 99, 104, 97, 110, 110, 101, 108, 62]⟩ (bs T)).run Tryz.prog w = .ok (.string (bs h0)) w := fun w => sum_at w hh0 (by omega)
  have HD := Lib.hid (show rssL title l = h0 ++ l.flatMap itemW ++ [60, 47, 99, 104, 97, 110, 110, 101, 108, 62, 60, 47, 114, 115, 115, 62] by rw [rss_cat, hT, hh0])
  have HFl := Lib.hid (flatI_len (f := itemW) (b := 10000) (l := l) fun x hx => item_len (hsm x hx))
  have HPf := Lib.hid (fun (i : Nat) => flatI_len (f := itemW) (b := 10000) (l := l.take i) fun x hx => item_len (hsm x (List.mem_of_mem_take hx)))
  have HW0 := Lib.hid (show h0.length ≤ 7000000 by omega)
  clear hv hsm ht hT hh0 hle hes
  go_enter Tryz.func62, Tryz.ntmps62
  go_wp2_with fail
  refine Calls.mono (HEt.out _) ?_
  rintro e w1 ⟨rfl, hF1⟩
  have HF1 := Lib.hid hF1
  clear hF1
  go_wp2_with fail
  refine Calls.mono (HS.out.write (a := h0) HF1.out (by have := HW0.out; simp only [List.length_nil]; omega)) ?_
  rintro e w2 ⟨rfl, hI2, _⟩
  have HI2 := Lib.hid (show WIn w (h0 ++ (l.take 0).flatMap itemW) w2 by simpa using hI2)
  clear hI2
  go_wp2_with fail
  go_loopg [14] l.length (fun j v14 w' => ∃ (i : Nat) (wr : World), wr = w' ∧ i + j = l.length ∧ v14 = .int .i64 i ∧ Hid (WIn w (h0 ++ (l.take i).flatMap itemW) wr))
  case atStart => exact ⟨0, _, rfl, by omega, rfl, HI2.out⟩
  case round =>
    obtain ⟨i, wr, rfl, hi, rfl, HR⟩ := hrel
    have hszr := HR.out.low.size
    by_cases hlt : i < l.length
    · obtain ⟨g, off, rfl, hel⟩ := HV.out.cells (by omega)
      obtain ⟨x, hx⟩ : ∃ x, l[i]? = some x := ⟨_, List.getElem?_eq_getElem hlt⟩
      obtain ⟨a0, a1, a2⟩ := hel i x hx
      have HFw := Lib.hid (show Fr (fun k => w.heap.size ≤ k) w wr from Fr.of_below HR.out.low)
      have hg : g < w.heap.size := World.block_lt_of_cell? w ⟨g, _, none⟩ a0
      have b0 := HFw.out.cell a0 (by simpa using hg)
      have b1 := HFw.out.cell a1 (by simpa using hg)
      have b2 := HFw.out.cell a2 (by simpa using hg)
      have hsx := HSM.out x (List.mem_of_getElem? hx)
      have hxl := item_len hsx
      have HX := Lib.hid (And.intro hx (flat_snoc (f := itemW) hx))
      have hpl := HPf.out i
      have htl : (l.take i).length ≤ 200 := by rw [List.length_take]; omega
      obtain ⟨u, hu⟩ : ∃ u, h0 ++ (l.take i).flatMap itemW = u := ⟨_, rfl⟩
      have hul : u.length ≤ 10000000 := by rw [← hu, List.length_append]; have := HW0.out; omega
      rw [hu] at HR
      have HU := Lib.hid hu
      have HI := Lib.hid hi
      have HNB := Lib.hid (block_new wr (.cells #[.string (bs x.id), .string (bs x.title), .string (bs x.link)] 82))
      have HFX : Hid (Fr (fun _ => False) wr (wr.alloc (.cells #[.string (bs x.id), .string (bs x.title), .string (bs x.link)] 82))) := (Fr.refl _ _).alloc _
      have hpos : w.heap.size < wr.heap.size := by
        obtain ⟨c, f, h⟩ := isB_block HR.out.bld
        exact lt_of_block h
      have hne : w.heap.size ≠ wr.heap.size := by omega
      have c0 := cell_of HNB.out (i := 0) (v := .string (bs x.id)) rfl
      have c1 := cell_of HNB.out (i := 1) (v := .string (bs x.title)) rfl
      have c2 := cell_of HNB.out (i := 2) (v := .string (bs x.link)) rfl
      have ln_w : wr.heap.size < (wr.alloc (.cells #[.string (bs x.id), .string (bs x.title), .string (bs x.link)] 82)).heap.size := by simp
      have HG := Lib.hid (fun (W : World) => show Calls Tryz.prog 97 #[.string ⟨#[103, 117, 105, 100]⟩, .string (bs x.id)] W (fun e w' => e = .returned (.string (bs (elemW nGuid x.id))) ∧ Fr (fun _ => False) W w') from element_h (w := W) nGuid x.id (by decide) (by have := hsx.1; omega))
      obtain ⟨EG, hEG⟩ : ∃ E, elemW nGuid x.id = E := ⟨_, rfl⟩
      rw [hEG] at HG
      have HT := Lib.hid (fun (W : World) => show Calls Tryz.prog 97 #[.string ⟨#[116, 105, 116, 108, 101]⟩, .string (bs x.title)] W (fun e w' => e = .returned (.string (bs (elemW nTitle x.title))) ∧ Fr (fun _ => False) W w') from element_h (w := W) nTitle x.title (by decide) (by have := hsx.2.1; omega))
      obtain ⟨ET, hET⟩ : ∃ E, elemW nTitle x.title = E := ⟨_, rfl⟩
      rw [hET] at HT
      have HK := Lib.hid (fun (W : World) => show Calls Tryz.prog 97 #[.string ⟨#[108, 105, 110, 107]⟩, .string (bs x.link)] W (fun e w' => e = .returned (.string (bs (elemW nLink x.link))) ∧ Fr (fun _ => False) W w') from element_h (w := W) nLink x.link (by decide) (by have := hsx.2.2; omega))
      obtain ⟨EK, hEK⟩ : ∃ E, elemW nLink x.link = E := ⟨_, rfl⟩
      rw [hEK] at HK
      have hcat := item_cat x
      rw [hEG, hET, hEK] at hcat
      obtain ⟨p1, hp1⟩ : ∃ p, [60, 105, 116, 101, 109, 62] ++ EG = p := ⟨_, rfl⟩
      rw [hp1] at hcat
      obtain ⟨p2, hp2⟩ : ∃ p, p1 ++ ET = p := ⟨_, rfl⟩
      rw [hp2] at hcat
      obtain ⟨p3, hp3⟩ : ∃ p, p2 ++ EK = p := ⟨_, rfl⟩
      rw [hp3] at hcat
      obtain ⟨p4, hp4⟩ : ∃ p, p3 ++ [60, 47, 105, 116, 101, 109, 62] = p := ⟨_, rfl⟩
      rw [hp4] at hcat
      rw [hcat] at hxl
      have lp3 : p3.length ≤ 10000 := by have h := congrArg List.length hp4; rw [List.length_append] at h; omega
      have lp2 : p2.length ≤ 10000 := by have h := congrArg List.length hp3; rw [List.length_append] at h; omega
      have lp1 : p1.length ≤ 10000 := by have h := congrArg List.length hp2; rw [List.length_append] at h; omega
      have sp1 : ∀ w : World, (Op.stringOp .add ⟨#[60, 105, 116, 101, 109, 62]⟩ (bs EG)).run Tryz.prog w = .ok (.string (bs p1)) w := fun w => sum_at w hp1 (Nat.le_trans lp1 (by decide))
      have sp2 : ∀ w : World, (Op.stringOp .add (bs p1) (bs ET)).run Tryz.prog w = .ok (.string (bs p2)) w := fun w => sum_at w hp2 (Nat.le_trans lp2 (by decide))
      have sp3 : ∀ w : World, (Op.stringOp .add (bs p2) (bs EK)).run Tryz.prog w = .ok (.string (bs p3)) w := fun w => sum_at w hp3 (Nat.le_trans lp3 (by decide))
      have sp4 : ∀ w : World, (Op.stringOp .add (bs p3) ⟨#[60, 47, 105, 116, 101, 109, 62]⟩).run Tryz.prog w = .ok (.string (bs p4)) w := fun w => sum_at w hp4 (Nat.le_trans hxl (by decide))
      have HCat := Lib.hid hcat
      have HLw := Lib.hid (show u.length + p4.length ≤ 140737488355328 by omega)
      clear hel a0 a1 a2 hx hsx hxl hpl htl hu hul hi HNB hcat hEG hET hEK hp1 hp2 hp3 hp4 lp1 lp2 lp3
      have HNB := Lib.hid (block_new wr (.cells #[.string (bs x.id), .string (bs x.title), .string (bs x.link)] 82))
      go_wp2_with fail
      go_region_held3 (fun w' => w'.cell? ⟨wr.heap.size, 0, none⟩ = some (.string (bs x.id)) ∧ w'.cell? ⟨wr.heap.size, 1, none⟩ = some (.string (bs x.title)) ∧ w'.cell? ⟨wr.heap.size, 2, none⟩ = some (.string (bs x.link)))
        (first | go_keep | (with_reducible exact ⟨s0_fG, s1_fG, s2_fG⟩) | (with_reducible exact ⟨s0_fT, s1_fT, s2_fT⟩) | (with_reducible exact ⟨s0_fK, s1_fK, s2_fK⟩) | (with_reducible exact ⟨hc10, hc11, hc12⟩) | fail)
        (first
          | (go_at_call 97; with_reducible refine Calls.mono (HG.out _) ?_; rintro e w_fG ⟨rfl, hq⟩; have fG := (show Fr (fun _ => False) (wr.alloc (.cells #[.string (bs x.id), .string (bs x.title), .string (bs x.link)] 82)) _ by repeat (first | exact Fr.refl _ _ | exact fT | exact fK | refine Fr.drew ?_ | refine Fr.alloc ?_ _)).next hq; have s0_fG := fG.cell c0 (fun h => h); have s1_fG := fG.cell c1 (fun h => h); have s2_fG := fG.cell c2 (fun h => h); clear hq)
          | (go_at_call 97; with_reducible refine Calls.mono (HT.out _) ?_; rintro e w_fT ⟨rfl, hq⟩; have fT := (show Fr (fun _ => False) (wr.alloc (.cells #[.string (bs x.id), .string (bs x.title), .string (bs x.link)] 82)) _ by repeat (first | exact Fr.refl _ _ | exact fG | exact fK | refine Fr.drew ?_ | refine Fr.alloc ?_ _)).next hq; have s0_fT := fT.cell c0 (fun h => h); have s1_fT := fT.cell c1 (fun h => h); have s2_fT := fT.cell c2 (fun h => h); clear hq)
          | (go_at_call 97; with_reducible refine Calls.mono (HK.out _) ?_; rintro e w_fK ⟨rfl, hq⟩; have fK := (show Fr (fun _ => False) (wr.alloc (.cells #[.string (bs x.id), .string (bs x.title), .string (bs x.link)] 82)) _ by repeat (first | exact Fr.refl _ _ | exact fG | exact fT | refine Fr.drew ?_ | refine Fr.alloc ?_ _)).next hq; have s0_fK := fK.cell c0 (fun h => h); have s1_fK := fK.cell c1 (fun h => h); have s2_fK := fK.cell c2 (fun h => h); clear hq)
          | (go_at_call 81; with_reducible refine Calls.mono (HR.out.write (a := p4) (HFX.out.next (show Fr (fun _ => False) (wr.alloc (.cells #[.string (bs x.id), .string (bs x.title), .string (bs x.link)] 82)) _ by repeat (first | exact Fr.refl _ _ | exact fG | exact fT | exact fK | refine Fr.drew ?_ | refine Fr.alloc ?_ _))) HLw.out) ?_; rintro e w11 ⟨rfl, hI11, hk11⟩; have hc10 := item_kept hk11 (show Fr (fun _ => False) (wr.alloc (.cells #[.string (bs x.id), .string (bs x.title), .string (bs x.link)] 82)) _ by repeat (first | exact Fr.refl _ _ | exact fG | exact fT | exact fK | refine Fr.drew ?_ | refine Fr.alloc ?_ _)) HNB.out hne 0 rfl; have hc11 := item_kept hk11 (show Fr (fun _ => False) (wr.alloc (.cells #[.string (bs x.id), .string (bs x.title), .string (bs x.link)] 82)) _ by repeat (first | exact Fr.refl _ _ | exact fG | exact fT | exact fK | refine Fr.drew ?_ | refine Fr.alloc ?_ _)) HNB.out hne 1 rfl; have hc12 := item_kept hk11 (show Fr (fun _ => False) (wr.alloc (.cells #[.string (bs x.id), .string (bs x.title), .string (bs x.link)] 82)) _ by repeat (first | exact Fr.refl _ _ | exact fG | exact fT | exact fK | refine Fr.drew ?_ | refine Fr.alloc ?_ _)) HNB.out hne 2 rfl)
          | fail)
      all_goals
        have HN := Lib.hid (show WIn w (h0 ++ (l.take (i + 1)).flatMap itemW) w11 by rw [HX.out.2, ← List.append_assoc, HU.out, HCat.out]; exact hI11)
        clear hI11 hk11
        go_wp2_with fail
        go_roundg (l.length - (i + 1))
        case measure => have := HI.out; omega
        case rel => exact ⟨i + 1, _, rfl, by have := HI.out; omega, by go_num, HN.out⟩
    · have hil : l.length = i := by omega
      have HN := Lib.hid (show WIn w (h0 ++ l.flatMap itemW) wr by have h := HR.out; rw [← hil, List.take_length] at h; exact h)
      have hfl := HFl.out
      have HLw := Lib.hid (show (h0 ++ l.flatMap itemW).length + ([60, 47, 99, 104, 97, 110, 110, 101, 108, 62, 60, 47, 114, 115, 115, 62] : Str).length ≤ 140737488355328 by rw [List.length_append]; have := HW0.out; simp only [List.length_cons, List.length_nil]; omega)
      clear hi hfl hlt
      subst hil
      go_wp2_with fail
      refine Calls.mono (HN.out.write (a := [60, 47, 99, 104, 97, 110, 110, 101, 108, 62, 60, 47, 114, 115, 115, 62]) (Fr.refl _ _) HLw.out) ?_
      rintro e w3 ⟨rfl, hI3, _⟩
      rw [← HD.out] at hI3
      have HI3 := Lib.hid hI3
      clear hI3
      go_wp2_with fail
      refine (Tryz.Builder_String_any_k w.heap.size w.heap.size _ _ HI3.out.bld HI3.out.low.size).mono ?_
      rintro e w4 ⟨rfl, _, hb4, _⟩
      go_wp2_with fail
      go_ret
      exact ⟨rfl, fr_new (HI3.out.low.trans hb4)⟩
set_option maxRecDepth 100000 in
set_option maxHeartbeats 16000000 in
theorem atomdoc_h {w : World} {v : Value} {l : List ItemD} (title : Str) (hv : ItemsV w (fun k => k < w.heap.size) v l) (ht : title.length ≤ 1000000) (hl : l.length ≤ 200) (hsm : ∀ x ∈ l, SmallI x) :
    Calls Tryz.prog 64 #[.string (bs title), v] w fun e w' => e = .returned (.string (bs (atomL title l))) ∧ Fr (fun _ => False) w w' := by
  obtain ⟨ad, cap, rfl, hc1, hc2⟩ := hv.shape
  have HV := Lib.hid hv
  have HSM := Lib.hid hsm
  have HS := Lib.hid (WIn.start w)
  have HF0 : Hid (Fr (fun _ => False) w (w.alloc (.cells #[.pointer none, .slice none 0 0] 115))) := (Fr.refl _ _).alloc _
  have HEt := Lib.hid (fun (W : World) => show Calls Tryz.prog 97 #[.string ⟨#[116, 105, 116, 108, 101]⟩, .string (bs title)] W (fun e w' => e = .returned (.string (bs (elemW nTitle title))) ∧ Fr (fun _ => False) W w') from element_h (w := W) nTitle title (by decide) ht)
  have hle := elem_len nTitle title
  have hes := esc_le title
  have h5 : nTitle.length = 5 := rfl
  obtain ⟨T, hT⟩ : ∃ T, elemW nTitle title = T := ⟨_, rfl⟩
  rw [hT] at HEt hle
  obtain ⟨h0, hh0⟩ : ∃ h0, [60, 102, 101, 101, 100, 32, 120, 109, 108, 110, 115, 61, 34, 104, 116, 116, 112, 58, 47, 47, 119, 119, 119, 46, 119, 51, 46, 111, 114, 103, 47, 50, 48, 48, 53, 47, 65, 116, 111, 109, 34, 62] ++ T = h0 := ⟨_, rfl⟩
  have hl0 : h0.length = 42 + T.length := by rw [← hh0, List.length_append]; rfl
  have s0 : ∀ w : World, (Op.stringOp .add ⟨#[60, 102, 101, 101, 100, 32, 120, 109, 108, 110, 115, 61, 34, 104, 116, 116, 112, 58, 47, 47, 119, 119, 119, 46, 119, 51, 46, 111, 114, 103, 47, 50, 48, 48, 53, 47, 65, 116, 111, 109, 34, 62]⟩ (bs T)).run Tryz.prog w = .ok (.string (bs h0)) w := fun w => sum_at w hh0 (by omega)
  have HD := Lib.hid (show atomL title l = h0 ++ l.flatMap entryW ++ [60, 47, 102, 101, 101, 100, 62] by rw [atom_cat, hT, hh0])
  have HFl := Lib.hid (flatI_len (f := entryW) (b := 10000) (l := l) fun x hx => entry_len (hsm x hx))
  have HPf := Lib.hid (fun (i : Nat) => flatI_len (f := entryW) (b := 10000) (l := l.take i) fun x hx => entry_len (hsm x (List.mem_of_mem_take hx)))
  have HW0 := Lib.hid (show h0.length ≤ 7000000 by omega)
  clear hv hsm ht hT hh0 hle hes
  go_enter Tryz.func64, Tryz.ntmps64
  go_wp2_with fail
  refine Calls.mono (HEt.out _) ?_
  rintro e w1 ⟨rfl, hF1⟩
  have HF1 := Lib.hid hF1
  clear hF1
  go_wp2_with fail
  refine Calls.mono (HS.out.write (a := h0) HF1.out (by have := HW0.out; simp only [List.length_nil]; omega)) ?_
  rintro e w2 ⟨rfl, hI2, _⟩
  have HI2 := Lib.hid (show WIn w (h0 ++ (l.take 0).flatMap entryW) w2 by simpa using hI2)
  clear hI2
  go_wp2_with fail
  go_loopg [14] l.length (fun j v14 w' => ∃ (i : Nat) (wr : World), wr = w' ∧ i + j = l.length ∧ v14 = .int .i64 i ∧ Hid (WIn w (h0 ++ (l.take i).flatMap entryW) wr))
  case atStart => exact ⟨0, _, rfl, by omega, rfl, HI2.out⟩
  case round =>
    obtain ⟨i, wr, rfl, hi, rfl, HR⟩ := hrel
    have hszr := HR.out.low.size
    by_cases hlt : i < l.length
    · obtain ⟨g, off, rfl, hel⟩ := HV.out.cells (by omega)
      obtain ⟨x, hx⟩ : ∃ x, l[i]? = some x := ⟨_, List.getElem?_eq_getElem hlt⟩
      obtain ⟨a0, a1, a2⟩ := hel i x hx
      have HFw := Lib.hid (show Fr (fun k => w.heap.size ≤ k) w wr from Fr.of_below HR.out.low)
      have hg : g < w.heap.size := World.block_lt_of_cell? w ⟨g, _, none⟩ a0
      have b0 := HFw.out.cell a0 (by simpa using hg)
      have b1 := HFw.out.cell a1 (by simpa using hg)
      have b2 := HFw.out.cell a2 (by simpa using hg)
      have hsx := HSM.out x (List.mem_of_getElem? hx)
      have hxl := entry_len hsx
      have HX := Lib.hid (And.intro hx (flat_snoc (f := entryW) hx))
      have hpl := HPf.out i
      have htl : (l.take i).length ≤ 200 := by rw [List.length_take]; omega
      obtain ⟨u, hu⟩ : ∃ u, h0 ++ (l.take i).flatMap entryW = u := ⟨_, rfl⟩
      have hul : u.length ≤ 10000000 := by rw [← hu, List.length_append]; have := HW0.out; omega
      rw [hu] at HR
      have HU := Lib.hid hu
      have HI := Lib.hid hi
      have HNB := Lib.hid (block_new wr (.cells #[.string (bs x.id), .string (bs x.title), .string (bs x.link)] 82))
      have HFX : Hid (Fr (fun _ => False) wr (wr.alloc (.cells #[.string (bs x.id), .string (bs x.title), .string (bs x.link)] 82))) := (Fr.refl _ _).alloc _
      have hpos : w.heap.size < wr.heap.size := by
        obtain ⟨c, f, h⟩ := isB_block HR.out.bld
        exact lt_of_block h
      have hne : w.heap.size ≠ wr.heap.size := by omega
      have c0 := cell_of HNB.out (i := 0) (v := .string (bs x.id)) rfl
      have c1 := cell_of HNB.out (i := 1) (v := .string (bs x.title)) rfl
      have c2 := cell_of HNB.out (i := 2) (v := .string (bs x.link)) rfl
      have ln_w : wr.heap.size < (wr.alloc (.cells #[.string (bs x.id), .string (bs x.title), .string (bs x.link)] 82)).heap.size := by simp
      have HG := Lib.hid (fun (W : World) => show Calls Tryz.prog 97 #[.string ⟨#[105, 100]⟩, .string (bs x.id)] W (fun e w' => e = .returned (.string (bs (elemW nId x.id))) ∧ Fr (fun _ => False) W w') from element_h (w := W) nId x.id (by decide) (by have := hsx.1; omega))
      obtain ⟨EG, hEG⟩ : ∃ E, elemW nId x.id = E := ⟨_, rfl⟩
      rw [hEG] at HG
      have HT := Lib.hid (fun (W : World) => show Calls Tryz.prog 97 #[.string ⟨#[116, 105, 116, 108, 101]⟩, .string (bs x.title)] W (fun e w' => e = .returned (.string (bs (elemW nTitle x.title))) ∧ Fr (fun _ => False) W w') from element_h (w := W) nTitle x.title (by decide) (by have := hsx.2.1; omega))
      obtain ⟨ET, hET⟩ : ∃ E, elemW nTitle x.title = E := ⟨_, rfl⟩
      rw [hET] at HT
      have HK := Lib.hid (fun (W : World) => escape_h (w := W) x.link (by have := hsx.2.2; omega))
      obtain ⟨EK, hEK⟩ : ∃ E, escL x.link = E := ⟨_, rfl⟩
      rw [hEK] at HK
      have hcat := entry_cat x
      rw [hEG, hET, hEK] at hcat
      obtain ⟨p1, hp1⟩ : ∃ p, [60, 101, 110, 116, 114, 121, 62] ++ EG = p := ⟨_, rfl⟩
      rw [hp1] at hcat
      obtain ⟨p2, hp2⟩ : ∃ p, p1 ++ ET = p := ⟨_, rfl⟩
      rw [hp2] at hcat
      obtain ⟨p3, hp3⟩ : ∃ p, p2 ++ [60, 108, 105, 110, 107, 32, 104, 114, 101, 102, 61, 34] = p := ⟨_, rfl⟩
      rw [hp3] at hcat
      obtain ⟨p4, hp4⟩ : ∃ p, p3 ++ EK = p := ⟨_, rfl⟩
      rw [hp4] at hcat
      obtain ⟨p5, hp5⟩ : ∃ p, p4 ++ [34, 47, 62, 60, 47, 101, 110, 116, 114, 121, 62] = p := ⟨_, rfl⟩
      rw [hp5] at hcat
      rw [hcat] at hxl
      have lp4 : p4.length ≤ 10000 := by have h := congrArg List.length hp5; rw [List.length_append] at h; omega
      have lp3 : p3.length ≤ 10000 := by have h := congrArg List.length hp4; rw [List.length_append] at h; omega
      have lp2 : p2.length ≤ 10000 := by have h := congrArg List.length hp3; rw [List.length_append] at h; omega
      have lp1 : p1.length ≤ 10000 := by have h := congrArg List.length hp2; rw [List.length_append] at h; omega
      have sp1 : ∀ w : World, (Op.stringOp .add ⟨#[60, 101, 110, 116, 114, 121, 62]⟩ (bs EG)).run Tryz.prog w = .ok (.string (bs p1)) w := fun w => sum_at w hp1 (Nat.le_trans lp1 (by decide))
      have sp2 : ∀ w : World, (Op.stringOp .add (bs p1) (bs ET)).run Tryz.prog w = .ok (.string (bs p2)) w := fun w => sum_at w hp2 (Nat.le_trans lp2 (by decide))
      have sp3 : ∀ w : World, (Op.stringOp .add (bs p2) ⟨#[60, 108, 105, 110, 107, 32, 104, 114, 101, 102, 61, 34]⟩).run Tryz.prog w = .ok (.string (bs p3)) w := fun w => sum_at w hp3 (Nat.le_trans lp3 (by decide))
      have sp4 : ∀ w : World, (Op.stringOp .add (bs p3) (bs EK)).run Tryz.prog w = .ok (.string (bs p4)) w := fun w => sum_at w hp4 (Nat.le_trans lp4 (by decide))
      have sp5 : ∀ w : World, (Op.stringOp .add (bs p4) ⟨#[34, 47, 62, 60, 47, 101, 110, 116, 114, 121, 62]⟩).run Tryz.prog w = .ok (.string (bs p5)) w := fun w => sum_at w hp5 (Nat.le_trans hxl (by decide))
      have HCat := Lib.hid hcat
      have HLw := Lib.hid (show u.length + p5.length ≤ 140737488355328 by omega)
      clear hel a0 a1 a2 hx hsx hxl hpl htl hu hul hi HNB hcat hEG hET hEK hp1 hp2 hp3 hp4 hp5 lp1 lp2 lp3 lp4
      have HNB := Lib.hid (block_new wr (.cells #[.string (bs x.id), .string (bs x.title), .string (bs x.link)] 82))
      go_wp2_with fail
      go_region_held3 (fun w' => w'.cell? ⟨wr.heap.size, 0, none⟩ = some (.string (bs x.id)) ∧ w'.cell? ⟨wr.heap.size, 1, none⟩ = some (.string (bs x.title)) ∧ w'.cell? ⟨wr.heap.size, 2, none⟩ = some (.string (bs x.link)))
        (first | go_keep | (with_reducible exact ⟨s0_fG, s1_fG, s2_fG⟩) | (with_reducible exact ⟨s0_fT, s1_fT, s2_fT⟩) | (with_reducible exact ⟨s0_fK, s1_fK, s2_fK⟩) | (with_reducible exact ⟨hc10, hc11, hc12⟩) | fail)
        (first
          | (go_at_call 97; with_reducible refine Calls.mono (HG.out _) ?_; rintro e w_fG ⟨rfl, hq⟩; have fG := (show Fr (fun _ => False) (wr.alloc (.cells #[.string (bs x.id), .string (bs x.title), .string (bs x.link)] 82)) _ by repeat (first | exact Fr.refl _ _ | exact fT | exact fK | refine Fr.drew ?_ | refine Fr.alloc ?_ _)).next hq; have s0_fG := fG.cell c0 (fun h => h); have s1_fG := fG.cell c1 (fun h => h); have s2_fG := fG.cell c2 (fun h => h); clear hq)
          | (go_at_call 97; with_reducible refine Calls.mono (HT.out _) ?_; rintro e w_fT ⟨rfl, hq⟩; have fT := (show Fr (fun _ => False) (wr.alloc (.cells #[.string (bs x.id), .string (bs x.title), .string (bs x.link)] 82)) _ by repeat (first | exact Fr.refl _ _ | exact fG | exact fK | refine Fr.drew ?_ | refine Fr.alloc ?_ _)).next hq; have s0_fT := fT.cell c0 (fun h => h); have s1_fT := fT.cell c1 (fun h => h); have s2_fT := fT.cell c2 (fun h => h); clear hq)
          | (go_at_call 38; with_reducible refine Calls.mono (HK.out _) ?_; rintro e w_fK ⟨rfl, hq⟩; have fK := (show Fr (fun _ => False) (wr.alloc (.cells #[.string (bs x.id), .string (bs x.title), .string (bs x.link)] 82)) _ by repeat (first | exact Fr.refl _ _ | exact fG | exact fT | refine Fr.drew ?_ | refine Fr.alloc ?_ _)).next hq; have s0_fK := fK.cell c0 (fun h => h); have s1_fK := fK.cell c1 (fun h => h); have s2_fK := fK.cell c2 (fun h => h); clear hq)
          | (go_at_call 81; with_reducible refine Calls.mono (HR.out.write (a := p5) (HFX.out.next (show Fr (fun _ => False) (wr.alloc (.cells #[.string (bs x.id), .string (bs x.title), .string (bs x.link)] 82)) _ by repeat (first | exact Fr.refl _ _ | exact fG | exact fT | exact fK | refine Fr.drew ?_ | refine Fr.alloc ?_ _))) HLw.out) ?_; rintro e w11 ⟨rfl, hI11, hk11⟩; have hc10 := item_kept hk11 (show Fr (fun _ => False) (wr.alloc (.cells #[.string (bs x.id), .string (bs x.title), .string (bs x.link)] 82)) _ by repeat (first | exact Fr.refl _ _ | exact fG | exact fT | exact fK | refine Fr.drew ?_ | refine Fr.alloc ?_ _)) HNB.out hne 0 rfl; have hc11 := item_kept hk11 (show Fr (fun _ => False) (wr.alloc (.cells #[.string (bs x.id), .string (bs x.title), .string (bs x.link)] 82)) _ by repeat (first | exact Fr.refl _ _ | exact fG | exact fT | exact fK | refine Fr.drew ?_ | refine Fr.alloc ?_ _)) HNB.out hne 1 rfl; have hc12 := item_kept hk11 (show Fr (fun _ => False) (wr.alloc (.cells #[.string (bs x.id), .string (bs x.title), .string (bs x.link)] 82)) _ by repeat (first | exact Fr.refl _ _ | exact fG | exact fT | exact fK | refine Fr.drew ?_ | refine Fr.alloc ?_ _)) HNB.out hne 2 rfl)
          | fail)
      all_goals
        have HN := Lib.hid (show WIn w (h0 ++ (l.take (i + 1)).flatMap entryW) w11 by rw [HX.out.2, ← List.append_assoc, HU.out, HCat.out]; exact hI11)
        clear hI11 hk11
        go_wp2_with fail
        go_roundg (l.length - (i + 1))
        case measure => have := HI.out; omega
        case rel => exact ⟨i + 1, _, rfl, by have := HI.out; omega, by go_num, HN.out⟩
    · have hil : l.length = i := by omega
      have HN := Lib.hid (show WIn w (h0 ++ l.flatMap entryW) wr by have h := HR.out; rw [← hil, List.take_length] at h; exact h)
      have hfl := HFl.out
      have HLw := Lib.hid (show (h0 ++ l.flatMap entryW).length + ([60, 47, 102, 101, 101, 100, 62] : Str).length ≤ 140737488355328 by rw [List.length_append]; have := HW0.out; simp only [List.length_cons, List.length_nil]; omega)
      clear hi hfl hlt
      subst hil
      go_wp2_with fail
      refine Calls.mono (HN.out.write (a := [60, 47, 102, 101, 101, 100, 62]) (Fr.refl _ _) HLw.out) ?_
      rintro e w3 ⟨rfl, hI3, _⟩
      rw [← HD.out] at hI3
      have HI3 := Lib.hid hI3
      clear hI3
      go_wp2_with fail
      refine (Tryz.Builder_String_any_k w.heap.size w.heap.size _ _ HI3.out.bld HI3.out.low.size).mono ?_
      rintro e w4 ⟨rfl, _, hb4, _⟩
      go_wp2_with fail
      go_ret
      exact ⟨rfl, fr_new (HI3.out.low.trans hb4)⟩
end Go.Proofs.YtpinjgdnhbogoaaGreatDoor
