/- feed's element, RSS, Atom: walked. -/
import Derived.Test.YtpinjgdnhbogoaaGreatDoorFM
import Derived.Test.YtpinjgdnhbogoaaGreatDoorWR
import Derived.Test.YtpinjgdnhbogoaaGreatDoorFQ
import Derived.Deep.RegionHeld3
import Derived.Test.YtpinjgdnhbogoaaGreatDoorNE
import Derived.BigQuiet
import Derived.Laws.StructEq
import Derived.Test.YtpinjgdnhbogoaaGreatDoorFW3
namespace Go.Proofs.YtpinjgdnhbogoaaGreatDoor
open Go.RowKit Go.Lib

/-- a sum of strings, under a name of its own -/
theorem sum_at (w : World) {a b c : Str} (h : a ++ b = c) (hl : c.length ≤ 100000000) : (Op.stringOp .add (bs a) (bs b)).run Tryz.prog w = .ok (.string (bs c)) w := by
  rw [← h, ← bs_append]
  exact str_add w (by rw [← h, List.length_append] at hl; exact hl)
theorem elem_len (nm s : Str) : (elemW nm s).length = 2 * nm.length + (escL s).length + 5 := by unfold elemW; simp; omega
set_option maxHeartbeats 4000000 in
theorem element_h {w : World} (nm s : Str) (hn : nm.length ≤ 1000) (hs : s.length ≤ 1000000) : Calls Tryz.prog 97 #[.string (bs nm), .string (bs s)] w fun e w' => e = .returned (.string (bs (elemW nm s))) ∧ Fr (fun _ => False) w w' := by
  have hel := esc_le s
  have HE := Lib.hid (fun (W : World) => escape_h (w := W) s hs)
  obtain ⟨E, hE⟩ : ∃ E, escL s = E := ⟨_, rfl⟩
  rw [hE] at HE hel
  obtain ⟨u1, h1⟩ : ∃ u1, [60] ++ nm = u1 := ⟨_, rfl⟩
  obtain ⟨u2, h2⟩ : ∃ u2, u1 ++ [62] = u2 := ⟨_, rfl⟩
  obtain ⟨u3, h3⟩ : ∃ u3, u2 ++ E = u3 := ⟨_, rfl⟩
  obtain ⟨u4, h4⟩ : ∃ u4, u3 ++ [60, 47] = u4 := ⟨_, rfl⟩
  obtain ⟨u5, h5⟩ : ∃ u5, u4 ++ nm = u5 := ⟨_, rfl⟩
  obtain ⟨u6, h6⟩ : ∃ u6, u5 ++ [62] = u6 := ⟨_, rfl⟩
  have l1 : u1.length = 1 + nm.length := by rw [← h1, List.length_append]; rfl
  have l2 : u2.length = u1.length + 1 := by rw [← h2, List.length_append]; rfl
  have l3 : u3.length = u2.length + E.length := by rw [← h3, List.length_append]
  have l4 : u4.length = u3.length + 2 := by rw [← h4, List.length_append]; rfl
  have l5 : u5.length = u4.length + nm.length := by rw [← h5, List.length_append]
  have l6 : u6.length = u5.length + 1 := by rw [← h6, List.length_append]; rfl
  have s1 : ∀ w : World, (Op.stringOp .add ⟨#[60]⟩ (bs nm)).run Tryz.prog w = .ok (.string (bs u1)) w := fun w => sum_at w h1 (by omega)
  have s2 : ∀ w : World, (Op.stringOp .add (bs u1) ⟨#[62]⟩).run Tryz.prog w = .ok (.string (bs u2)) w := fun w => sum_at w h2 (by omega)
  have s3 : ∀ w : World, (Op.stringOp .add (bs u2) (bs E)).run Tryz.prog w = .ok (.string (bs u3)) w := fun w => sum_at w h3 (by omega)
  have s4 : ∀ w : World, (Op.stringOp .add (bs u3) ⟨#[60, 47]⟩).run Tryz.prog w = .ok (.string (bs u4)) w := fun w => sum_at w h4 (by omega)
  have s5 : ∀ w : World, (Op.stringOp .add (bs u4) (bs nm)).run Tryz.prog w = .ok (.string (bs u5)) w := fun w => sum_at w h5 (by omega)
  have s6 : ∀ w : World, (Op.stringOp .add (bs u5) ⟨#[62]⟩).run Tryz.prog w = .ok (.string (bs u6)) w := fun w => sum_at w h6 (by omega)
  have HR := Lib.hid (show elemW nm s = u6 by rw [← h6, ← h5, ← h4, ← h3, ← h2, ← h1, ← hE]; unfold elemW; simp)
  clear hE h1 h2 h3 h4 h5 h6 l1 l2 l3 l4 l5 l6 hn hs hel
  go_enter Tryz.func97, Tryz.ntmps97
  go_wp2_with fail
  refine Calls.mono (HE.out _) ?_
  rintro e w1 ⟨rfl, hF⟩
  have HF := Lib.hid hF
  clear hF
  go_wp2_with fail
  go_ret
  exact ⟨by rw [HR.out] <;> rfl, HF.out⟩
theorem rss_cat (title : Str) (l : List ItemD) : rssL title l = [60, 114, 115, 115, 32, 118, 101, 114, 115, 105, 111, 110, 61, 34, 50, 46, 48, 34, 62, 60, 99, 104, 97, 110, 110, 101, 108, 62] ++ elemW nTitle title ++ l.flatMap itemW ++ [60, 47, 99, 104, 97, 110, 110, 101, 108, 62, 60, 47, 114, 115, 115, 62] := by
  unfold rssL; simp [nRss, nVersion, vTwo, nChannel]
theorem item_cat (x : ItemD) : itemW x = [60, 105, 116, 101, 109, 62] ++ elemW nGuid x.id ++ elemW nTitle x.title ++ elemW nLink x.link ++ [60, 47, 105, 116, 101, 109, 62] := by
  unfold itemW; simp [nItem]
theorem flat_snoc {f : ItemD → Str} {l : List ItemD} {i : Nat} {x : ItemD} (h : l[i]? = some x) : (l.take (i + 1)).flatMap f = (l.take i).flatMap f ++ f x := by
  rw [List.take_add_one, h, List.flatMap_append]; simp
theorem flatI_len {f : ItemD → Str} {b : Nat} : ∀ {l : List ItemD}, (∀ x ∈ l, (f x).length ≤ b) → (l.flatMap f).length ≤ l.length * b
  | [], _ => Nat.zero_le _
  | x :: l, h => by
    have h1 := h x (List.mem_cons_self ..)
    have h2 := flatI_len (l := l) fun y hy => h y (List.mem_cons_of_mem _ hy)
    rw [List.flatMap_cons, List.length_append, List.length_cons, Nat.succ_mul]; omega
def SmallI (x : ItemD) : Prop := x.id.length ≤ 500 ∧ x.title.length ≤ 500 ∧ x.link.length ≤ 500
theorem item_len {x : ItemD} (h : SmallI x) : (itemW x).length ≤ 10000 := by
  have h1 := esc_le x.id
  have h2 := esc_le x.title
  have h3 := esc_le x.link
  obtain ⟨a, b, c⟩ := h
  rw [item_cat]
  simp only [List.length_append, elem_len, List.length_cons, List.length_nil, nGuid, nTitle, nLink]
  omega
theorem item_kept {b B : Nat} {w0 w10 w11 : World} {vs : Array Value} (hk : Lib.OthersKept 5 (some B) w10 w11) (hf : Fr (fun _ => False) w0 w10) (hb : w0.heap[b]? = some (.cells vs 82 (0, 0))) (hB : B ≠ b) (i : Nat) {v : Value} (hv : vs[i]? = some v) : w11.cell? ⟨b, i, none⟩ = some v :=
  cell_of (hk _ _ (hf.keep hb (fun h => h)) (by simpa using hB.symm) (fun c fz e => by injection e with _ e; exact absurd e (by decide))) hv
set_option maxRecDepth 100000 in
set_option maxHeartbeats 16000000 in
theorem rssdoc_h {w : World} {v : Value} {l : List ItemD} (title : Str) (hv : ItemsV w (fun k => k < w.heap.size) v l) (ht : title.length ≤ 1000000) (hl : l.length ≤ 200) (hsm : ∀ x ∈ l, SmallI x) :
    Calls Tryz.prog 62 #[.string (bs title), v] w fun e w' => e = .returned (.string (bs (rssL title l))) ∧ Fr (fun _ => False) w w' := by
  obtain ⟨ad, cap, rfl, hc1, hc2⟩ := hv.shape
  have HV := Lib.hid hv
  have HSM := Lib.hid hsm
  have HS := Lib.hid (WIn.start w)
  have HF0 : Hid (Fr (fun _ => False) w (w.alloc (.cells #[.pointer none, .slice none 0 0] 115))) := (Fr.refl _ _).alloc _
  have HEt := Lib.hid (fun (W : World) => show Calls Tryz.prog 97 #[.string ⟨#[116, 105, 116, 108, 101]⟩, .string (bs title)] W (fun e w' => e = .returned (.string (bs (elemW nTitle title))) ∧ Fr (fun _ => False) W w') from element_h (w := W) nTitle title (by decide) ht)
  have hle := elem_len nTitle title
  have hes := esc_le title
  have h5 : nTitle.length = 5 := rfl
  obtain ⟨T, hT⟩ : ∃ T, elemW nTitle title = T := ⟨_, rfl⟩
  rw [hT] at HEt hle
  obtain ⟨h0, hh0⟩ : ∃ h0, [60, 114, 115, 115, 32, 118, 101, 114, 115, 105, 111, 110, 61, 34, 50, 46, 48, 34, 62, 60, 99, 104, 97, 110, 110, 101, 108, 62] ++ T = h0 := ⟨_, rfl⟩
  have hl0 : h0.length = 28 + T.length := by rw [← hh0, List.length_append]; rfl
  have s0 : ∀ w : World, (Op.stringOp .add ⟨#[60, 114, 115, 115, 32, 118, 101, 114, 115, 105, 111, 110, 61, 34, 50, 46, 48, 34, 62, 60, 99, 104, 97, 110, 110, 101, 108, 62]⟩ (bs T)).run Tryz.prog w = .ok (.string (bs h0)) w := fun w => sum_at w hh0 (by omega)
  have HD := Lib.hid (show rssL title l = h0 ++ l.flatMap itemW ++ [60, 47, 99, 104, 97, 110, 110, 101, 108, 62, 60, 47, 114, 115, 115, 62] by rw [rss_cat, hT, hh0])
  have HFl := Lib.hid (flatI_len (f := itemW) (b := 10000) (l := l) fun x hx => item_len (hsm x hx))
  have HPf := Lib.hid (fun (i : Nat) => flatI_len (f := itemW) (b := 10000) (l := l.take i) fun x hx => item_len (hsm x (List.mem_of_mem_take hx)))
  have HW0 := Lib.hid (show h0.length ≤ 7000000 by omega)
  clear hv hsm ht hT hh0 hle hes
  go_enter Tryz.func62, Tryz.ntmps62
  go_wp2_with fail
  refine Calls.mono (HEt.out _) ?_
  rintro e w1 ⟨rfl, hF1⟩
  have HF1 := Lib.hid hF1
  clear hF1
  go_wp2_with fail
  refine Calls.mono (HS.out.write (a := h0) HF1.out (by have := HW0.out; simp only [List.length_nil]; omega)) ?_
  rintro e w2 ⟨rfl, hI2, _⟩
  have HI2 := Lib.hid (show WIn w (h0 ++ (l.take 0).flatMap itemW) w2 by simpa using hI2)
  clear hI2
  go_wp2_with fail
  go_loopg [14] l.length (fun j v14 w' => ∃ (i : Nat) (wr : World), wr = w' ∧ i + j = l.length ∧ v14 = .int .i64 i ∧ Hid (WIn w (h0 ++ (l.take i).flatMap itemW) wr))
  case atStart => exact ⟨0, _, rfl, by omega, rfl, HI2.out⟩
  case round =>
    obtain ⟨i, wr, rfl, hi, rfl, HR⟩ := hrel
    have hszr := HR.out.low.size
    by_cases hlt : i < l.length
    · obtain ⟨g, off, rfl, hel⟩ := HV.out.cells (by omega)
      obtain ⟨x, hx⟩ : ∃ x, l[i]? = some x := ⟨_, List.getElem?_eq_getElem hlt⟩
      obtain ⟨a0, a1, a2⟩ := hel i x hx
      have HFw := Lib.hid (show Fr (fun k => w.heap.size ≤ k) w wr from Fr.of_below HR.out.low)
      have hg : g < w.heap.size := World.block_lt_of_cell? w ⟨g, _, none⟩ a0
      have b0 := HFw.out.cell a0 (by simpa using hg)
      have b1 := HFw.out.cell a1 (by simpa using hg)
      have b2 := HFw.out.cell a2 (by simpa using hg)
      have hsx := HSM.out x (List.mem_of_getElem? hx)
      have hxl := item_len hsx
      have HX := Lib.hid (And.intro hx (flat_snoc (f := itemW) hx))
      have hpl := HPf.out i
      have htl : (l.take i).length ≤ 200 := by rw [List.length_take]; omega
      obtain ⟨u, hu⟩ : ∃ u, h0 ++ (l.take i).flatMap itemW = u := ⟨_, rfl⟩
      have hul : u.length ≤ 10000000 := by rw [← hu, List.length_append]; have := HW0.out; omega
      rw [hu] at HR
      have HU := Lib.hid hu
      have HI := Lib.hid hi
      have HNB := Lib.hid (block_new wr (.cells #[.string (bs x.id), .string (bs x.title), .string (bs x.link)] 82))
      have HFX : Hid (Fr (fun _ => False) wr (wr.alloc (.cells #[.string (bs x.id), .string (bs x.title), .string (bs x.link)] 82))) := (Fr.refl _ _).alloc _
      have hpos : w.heap.size < wr.heap.size := by
        obtain ⟨c, f, h⟩ := isB_block HR.out.bld
        exact lt_of_block h
      have hne : w.heap.size ≠ wr.heap.size := by omega
      have c0 := cell_of HNB.out (i := 0) (v := .string (bs x.id)) rfl
      have c1 := cell_of HNB.out (i := 1) (v := .string (bs x.title)) rfl
      have c2 := cell_of HNB.out (i := 2) (v := .string (bs x.link)) rfl
      have ln_w : wr.heap.size < (wr.alloc (.cells #[.string (bs x.id), .string (bs x.title), .string (bs x.link)] 82)).heap.size := by simp
      have HG := Lib.hid (fun (W : World) => show Calls Tryz.prog 97 #[.string ⟨#[103, 117, 105, 100]⟩, .string (bs x.id)] W (fun e w' => e = .returned (.string (bs (elemW nGuid x.id))) ∧ Fr (fun _ => False) W w') from element_h (w := W) nGuid x.id (by decide) (by have := hsx.1; omega))
      obtain ⟨EG, hEG⟩ : ∃ E, elemW nGuid x.id = E := ⟨_, rfl⟩
      rw [hEG] at HG
      have HT := Lib.hid (fun (W : World) => show Calls Tryz.prog 97 #[.string ⟨#[116, 105, 116, 108, 101]⟩, .string (bs x.title)] W (fun e w' => e = .returned (.string (bs (elemW nTitle x.title))) ∧ Fr (fun _ => False) W w') from element_h (w := W) nTitle x.title (by decide) (by have := hsx.2.1; omega))
      obtain ⟨ET, hET⟩ : ∃ E, elemW nTitle x.title = E := ⟨_, rfl⟩
      rw [hET] at HT
      have HK := Lib.hid (fun (W : World) => show Calls Tryz.prog 97 #[.string ⟨#[108, 105, 110, 107]⟩, .string (bs x.link)] W (fun e w' => e = .returned (.string (bs (elemW nLink x.link))) ∧ Fr (fun _ => False) W w') from element_h (w := W) nLink x.link (by decide) (by have := hsx.2.2; omega))
      obtain ⟨EK, hEK⟩ : ∃ E, elemW nLink x.link = E := ⟨_, rfl⟩
      rw [hEK] at HK
      have hcat := item_cat x
      rw [hEG, hET, hEK] at hcat
      obtain ⟨p1, hp1⟩ : ∃ p, [60, 105, 116, 101, 109, 62] ++ EG = p := ⟨_, rfl⟩
      rw [hp1] at hcat
      obtain ⟨p2, hp2⟩ : ∃ p, p1 ++ ET = p := ⟨_, rfl⟩
      rw [hp2] at hcat
      obtain ⟨p3, hp3⟩ : ∃ p, p2 ++ EK = p := ⟨_, rfl⟩
      rw [hp3] at hcat
      obtain ⟨p4, hp4⟩ : ∃ p, p3 ++ [60, 47, 105, 116, 101, 109, 62] = p := ⟨_, rfl⟩
      rw [hp4] at hcat
      rw [hcat] at hxl
      have lp3 : p3.length ≤ 10000 := by have h := congrArg List.length hp4; rw [List.length_append] at h; omega
      have lp2 : p2.length ≤ 10000 := by have h := congrArg List.length hp3; rw [List.length_append] at h; omega
      have lp1 : p1.length ≤ 10000 := by have h := congrArg List.length hp2; rw [List.length_append] at h; omega
      have sp1 : ∀ w : World, (Op.stringOp .add ⟨#[60, 105, 116, 101, 109, 62]⟩ (bs EG)).run Tryz.prog w = .ok (.string (bs p1)) w := fun w => sum_at w hp1 (Nat.le_trans lp1 (by decide))
      have sp2 : ∀ w : World, (Op.stringOp .add (bs p1) (bs ET)).run Tryz.prog w = .ok (.string (bs p2)) w := fun w => sum_at w hp2 (Nat.le_trans lp2 (by decide))
      have sp3 : ∀ w : World, (Op.stringOp .add (bs p2) (bs EK)).run Tryz.prog w = .ok (.string (bs p3)) w := fun w => sum_at w hp3 (Nat.le_trans lp3 (by decide))
      have sp4 : ∀ w : World, (Op.stringOp .add (bs p3) ⟨#[60, 47, 105, 116, 101, 109, 62]⟩).run Tryz.prog w = .ok (.string (bs p4)) w := fun w => sum_at w hp4 (Nat.le_trans hxl (by decide))
      have HCat := Lib.hid hcat
      have HLw := Lib.hid (show u.length + p4.length ≤ 140737488355328 by omega)
      clear hel a0 a1 a2 hx hsx hxl hpl htl hu hul hi HNB hcat hEG hET hEK hp1 hp2 hp3 hp4 lp1 lp2 lp3
      have HNB := Lib.hid (block_new wr (.cells #[.string (bs x.id), .string (bs x.title), .string (bs x.link)] 82))
      go_wp2_with fail
      go_region_held3 (fun w' => w'.cell? ⟨wr.heap.size, 0, none⟩ = some (.string (bs x.id)) ∧ w'.cell? ⟨wr.heap.size, 1, none⟩ = some (.string (bs x.title)) ∧ w'.cell? ⟨wr.heap.size, 2, none⟩ = some (.string (bs x.link)))
        (first | go_keep | (with_reducible exact ⟨s0_fG, s1_fG, s2_fG⟩) | (with_reducible exact ⟨s0_fT, s1_fT, s2_fT⟩) | (with_reducible exact ⟨s0_fK, s1_fK, s2_fK⟩) | (with_reducible exact ⟨hc10, hc11, hc12⟩) | fail)
        (first
          | (go_at_call 97; with_reducible refine Calls.mono (HG.out _) ?_; rintro e w_fG ⟨rfl, hq⟩; have fG := (show Fr (fun _ => False) (wr.alloc (.cells #[.string (bs x.id), .string (bs x.title), .string (bs x.link)] 82)) _ by repeat (first | exact Fr.refl _ _ | exact fT | exact fK | refine Fr.drew ?_ | refine Fr.alloc ?_ _)).next hq; have s0_fG := fG.cell c0 (fun h => h); have s1_fG := fG.cell c1 (fun h => h); have s2_fG := fG.cell c2 (fun h => h); clear hq)
          | (go_at_call 97; with_reducible refine Calls.mono (HT.out _) ?_; rintro e w_fT ⟨rfl, hq⟩; have fT := (show Fr (fun _ => False) (wr.alloc (.cells #[.string (bs x.id), .string (bs x.title), .string (bs x.link)] 82)) _ by repeat (first | exact Fr.refl _ _ | exact fG | exact fK | refine Fr.drew ?_ | refine Fr.alloc ?_ _)).next hq; have s0_fT := fT.cell c0 (fun h => h); have s1_fT := fT.cell c1 (fun h => h); have s2_fT := fT.cell c2 (fun h => h); clear hq)
          | (go_at_call 97; with_reducible refine Calls.mono (HK.out _) ?_; rintro e w_fK ⟨rfl, hq⟩; have fK := (show Fr (fun _ => False) (wr.alloc (.cells #[.string (bs x.id), .string (bs x.title), .string (bs x.link)] 82)) _ by repeat (first | exact Fr.refl _ _ | exact fG | exact fT | refine Fr.drew ?_ | refine Fr.alloc ?_ _)).next hq; have s0_fK := fK.cell c0 (fun h => h); have s1_fK := fK.cell c1 (fun h => h); have s2_fK := fK.cell c2 (fun h => h); clear hq)
          | (go_at_call 81; with_reducible refine Calls.mono (HR.out.write (a := p4) (HFX.out.next (show Fr (fun _ => False) (wr.alloc (.cells #[.string (bs x.id), .string (bs x.title), .string (bs x.link)] 82)) _ by repeat (first | exact Fr.refl _ _ | exact fG | exact fT | exact fK | refine Fr.drew ?_ | refine Fr.alloc ?_ _))) HLw.out) ?_; rintro e w11 ⟨rfl, hI11, hk11⟩; have hc10 := item_kept hk11 (show Fr (fun _ => False) (wr.alloc (.cells #[.string (bs x.id), .string (bs x.title), .string (bs x.link)] 82)) _ by repeat (first | exact Fr.refl _ _ | exact fG | exact fT | exact fK | refine Fr.drew ?_ | refine Fr.alloc ?_ _)) HNB.out hne 0 rfl; have hc11 := item_kept hk11 (show Fr (fun _ => False) (wr.alloc (.cells #[.string (bs x.id), .string (bs x.title), .string (bs x.link)] 82)) _ by repeat (first | exact Fr.refl _ _ | exact fG | exact fT | exact fK | refine Fr.drew ?_ | refine Fr.alloc ?_ _)) HNB.out hne 1 rfl; have hc12 := item_kept hk11 (show Fr (fun _ => False) (wr.alloc (.cells #[.string (bs x.id), .string (bs x.title), .string (bs x.link)] 82)) _ by repeat (first | exact Fr.refl _ _ | exact fG | exact fT | exact fK | refine Fr.drew ?_ | refine Fr.alloc ?_ _)) HNB.out hne 2 rfl)
          | fail)
      all_goals
        have HN := Lib.hid (show WIn w (h0 ++ (l.take (i + 1)).flatMap itemW) w11 by rw [HX.out.2, ← List.append_assoc, HU.out, HCat.out]; exact hI11)
        clear hI11 hk11
        go_wp2_with fail
        go_roundg (l.length - (i + 1))
        case measure => have := HI.out; omega
        case rel => exact ⟨i + 1, _, rfl, by have := HI.out; omega, by go_num, HN.out⟩
    · have hil : l.length = i := by omega
      have HN := Lib.hid (show WIn w (h0 ++ l.flatMap itemW) wr by have h := HR.out; rw [← hil, List.take_length] at h; exact h)
      have hfl := HFl.out
      have HLw := Lib.hid (show (h0 ++ l.flatMap itemW).length + ([60, 47, 99, 104, 97, 110, 110, 101, 108, 62, 60, 47, 114, 115, 115, 62] : Str).length ≤ 140737488355328 by rw [List.length_append]; have := HW0.out; simp only [List.length_cons, List.length_nil]; omega)
      clear hi hfl hlt
      subst hil
      go_wp2_with fail
      refine Calls.mono (HN.out.write (a := [60, 47, 99, 104, 97, 110, 110, 101, 108, 62, 60, 47, 114, 115, 115, 62]) (Fr.refl _ _) HLw.out) ?_
      rintro e w3 ⟨rfl, hI3, _⟩
      rw [← HD.out] at hI3
      have HI3 := Lib.hid hI3
      clear hI3
      go_wp2_with fail
      refine (Tryz.Builder_String_any_k w.heap.size w.heap.size _ _ HI3.out.bld HI3.out.low.size).mono ?_
      rintro e w4 ⟨rfl, _, hb4, _⟩
      go_wp2_with fail
      go_ret
      exact ⟨rfl, fr_new (HI3.out.low.trans hb4)⟩
end Go.Proofs.YtpinjgdnhbogoaaGreatDoor

/- Law 13's own small, same (of equal items), has: walked. -/
namespace Go.Proofs.YtpinjgdnhbogoaaGreatDoor
open Go.RowKit Go.Lib

theorem eq82 (s t u : ByteArray) (w : World) : Sem.run Tryz.prog (Op.equalIn 10000 82 (.agg #[.string s, .string t, .string u]) (.agg #[.string s, .string t, .string u])) w = .ok true w := by
  have u9 := Tryz.underlying9
  have a9 := Tryz.isAgg9
  have z9 := Tryz.sizeOf9
  have hS : Tryz.prog.underlying 82 = some (.struct (Tryz.prog.fieldsOf 82)) := by kernel_rfl
  have hp : Tryz.prog.stoodInHeld 82 = false := by kernel_rfl
  rw [show (10000 : Nat) = 9999 + 1 from rfl, run_equalIn_agg w 9999 82 _ _ hS hp]
  simp only [Program.fieldsOf, Tryz.underlying82]
  go_simp
theorem neq82 (s t u : ByteArray) (w : World) : Sem.run Tryz.prog (binOp .neq 82 (.agg #[.string s, .string t, .string u]) (.agg #[.string s, .string t, .string u])) w = .ok (.bool false) w := by
  rw [run_neq_struct, eq82]; rfl
set_option maxRecDepth 100000 in
set_option maxHeartbeats 4000000 in
theorem isame_h {w : World} {S S2 : Nat → Prop} {v u : Value} {l : List ItemD} (ha : ItemsV w S v l) (hb : ItemsV w S2 u l) (hl : l.length ≤ 1000000) : Calls Tryz.prog 58 #[v, u] w fun e w' => e = .returned (.bool true) ∧ ∃ p, w' = w.drewN p := by
  obtain ⟨a, c, rfl, -, -⟩ := ha.shape
  obtain ⟨b, d, rfl, -, -⟩ := hb.shape
  have HA := Lib.hid ha
  have HB := Lib.hid hb
  have ht : ((l.length : Int) != (l.length : Int)) = false := by simp
  clear ha hb
  go_enter Tryz.func58, Tryz.ntmps58
  go_wp2_with fail
  go_loopg [5] l.length (fun j v5 wr => ∃ i p : Nat, i + j = l.length ∧ v5 = .int .i64 i ∧ wr = w.drewN p)
  case atStart => exact ⟨0, 0, by omega, rfl, by first | rfl | exact (World.drewN_zero _).symm⟩
  case round =>
    obtain ⟨i, p, hi, rfl, rfl⟩ := hrel
    by_cases hlt : i < l.length
    · obtain ⟨g, off, rfl, hc⟩ := HA.out.cells (by omega)
      obtain ⟨g2, off2, rfl, hc2⟩ := HB.out.cells (by omega)
      obtain ⟨x, hx⟩ : ∃ x, l[i]? = some x := ⟨_, List.getElem?_eq_getElem hlt⟩
      obtain ⟨a0, a1, a2⟩ := hc i x hx
      obtain ⟨b0, b1, b2⟩ := hc2 i x hx
      have HI := Lib.hid hi
      have hneq := neq82 (bs x.id) (bs x.title) (bs x.link)
      have heq := eq82 (bs x.id) (bs x.title) (bs x.link)
      clear hc hc2 hx hi
      go_wp2_with fail
      go_big_quiet (fail)
      go_wp2_with fail
      go_roundg (l.length - (i + 1))
      case measure => have := HI.out; omega
      case rel => exact ⟨i + 1, _, by have := HI.out; omega, by go_num, by first | rfl | exact World.drewN_drewN _ _ _⟩
    · obtain rfl : i = l.length := by omega
      clear hi hlt
      go_wp2_with fail
      go_ret
      exact ⟨rfl, p, rfl⟩
def bigI (x : ItemD) : Bool := decide (500 < x.id.length) || decide (500 < x.title.length) || decide (500 < x.link.length)
def smallB (l : List ItemD) : Bool := decide (l.length ≤ 120) && !l.any bigI
theorem small_long {l : List ItemD} (h : 120 < l.length) : smallB l = false := by unfold smallB; rw [decide_eq_false (by omega)]; rfl
theorem small_big {l : List ItemD} {x : ItemD} (hx : x ∈ l) (h : bigI x = true) : smallB l = false := by
  unfold smallB
  rw [List.any_eq_true.2 ⟨x, hx, h⟩]; simp
theorem small_yes {l : List ItemD} (h1 : l.length ≤ 120) (h2 : l.any bigI = false) : smallB l = true := by unfold smallB; rw [decide_eq_true h1, h2]; rfl
set_option maxRecDepth 100000 in
set_option maxHeartbeats 4000000 in
theorem small_h {w : World} {S : Nat → Prop} {v : Value} {l : List ItemD} (ha : ItemsV w S v l) : Calls Tryz.prog 55 #[v] w fun e w' => e = .returned (.bool (smallB l)) ∧ w = w' := by
  obtain ⟨a, c, rfl, -, -⟩ := ha.shape
  have HA := Lib.hid ha
  clear ha
  by_cases hl : 120 < l.length
  · have HE := Lib.hid (small_long hl)
    have hi : (120 : Int) < (l.length : Int) := by omega
    clear hl
    go_enter Tryz.func55, Tryz.ntmps55
    go_wp2_with fail
    go_ret
    exact ⟨by rw [HE.out] <;> rfl, rfl⟩
  have hli : ¬ (120 : Int) < (l.length : Int) := by omega
  have hl120 : l.length ≤ 120 := by omega
  have HL := Lib.hid hl120
  clear hl
  go_enter Tryz.func55, Tryz.ntmps55
  go_wp2_with fail
  go_loopg [3] l.length (fun j v3 wr => (∃ i : Nat, i + j = l.length ∧ v3 = .int .i64 i ∧ Hid ((l.take i).any bigI = false)) ∧ w = wr)
  case atStart => exact ⟨⟨0, by omega, rfl, rfl⟩, rfl⟩
  case round =>
    obtain ⟨⟨i, hi, rfl, HH⟩, rfl⟩ := hrel
    by_cases hlt : i < l.length
    · obtain ⟨g, off, rfl, hc⟩ := HA.out.cells (by omega)
      obtain ⟨x, hx⟩ : ∃ x, l[i]? = some x := ⟨_, List.getElem?_eq_getElem hlt⟩
      obtain ⟨a0, a1, a2⟩ := hc i x hx
      have HX := Lib.hid (And.intro hi (And.intro hx (List.mem_of_getElem? hx)))
      have z0 : (bs x.id).size = x.id.length := rfl
      have z1 : (bs x.title).size = x.title.length := rfl
      have z2 : (bs x.link).size = x.link.length := rfl
      clear hc hi hx
      by_cases q0 : 500 < x.id.length
      · have q0i : (500 : Int) < (x.id.length : Int) := by omega
        have HE := Lib.hid (small_big HX.out.2.2 (by unfold bigI; rw [decide_eq_true q0]; rfl))
        clear q0
        go_wp2_with fail
        go_ret
        exact ⟨by rw [HE.out] <;> rfl, rfl⟩
      have q0i : ¬ (500 : Int) < (x.id.length : Int) := by omega
      by_cases q1 : 500 < x.title.length
      · have q1i : (500 : Int) < (x.title.length : Int) := by omega
        have HE := Lib.hid (small_big HX.out.2.2 (by unfold bigI; rw [decide_eq_true q1]; simp))
        clear q0 q1
        go_wp2_with fail
        go_ret
        exact ⟨by rw [HE.out] <;> rfl, rfl⟩
      have q1i : ¬ (500 : Int) < (x.title.length : Int) := by omega
      by_cases q2 : 500 < x.link.length
      · have q2i : (500 : Int) < (x.link.length : Int) := by omega
        have HE := Lib.hid (small_big HX.out.2.2 (by unfold bigI; rw [decide_eq_true q2]; simp))
        clear q0 q1 q2
        go_wp2_with fail
        go_ret
        exact ⟨by rw [HE.out] <;> rfl, rfl⟩
      have q2i : ¬ (500 : Int) < (x.link.length : Int) := by omega
      have HN : Hid ((l.take (i + 1)).any bigI = false) := by
        show _ = _
        rw [List.take_add_one, HX.out.2.1, List.any_append, HH.out]
        unfold bigI
        simp; omega
      clear q0 q1 q2
      go_wp2_with fail
      go_roundg (l.length - (i + 1))
      case measure => have := HX.out.1; omega
      case rel => exact ⟨⟨i + 1, by have := HX.out.1; omega, by go_num, HN.out⟩, rfl⟩
    · obtain rfl : i = l.length := by omega
      have HE := Lib.hid (small_yes HL.out (show l.any bigI = false by have h := HH.out; rw [List.take_length] at h; exact h))
      clear hi hlt
      go_wp2_with fail
      go_ret
      exact ⟨by rw [HE.out] <;> rfl, rfl⟩
end Go.Proofs.YtpinjgdnhbogoaaGreatDoor

/- shown: chapter 13's examples; the walk of the law FeedItems. -/
namespace Go.Proofs.YtpinjgdnhbogoaaGreatDoor
open Go.RowKit Go.Lib

theorem ext_at {w : World} (hE : Env w) {s : Str} {l : List ItemD} {n : Nat} {er : Int} (h : extractL s = (l, er)) (hn : l.length = n) (hs : s.length ≤ 1000000) :
    Calls Tryz.prog 56 #[.string (bs s)] w fun e w' => ∃ a c, e = .returned (.tuple #[.slice a n c, .int .i64 er]) ∧ ItemsV w' (fun k => w.heap.size ≤ k ∧ k < w'.heap.size) (.slice a n c) l ∧ Fr (fun _ => False) w w' := by
  subst hn
  refine (extract_h hE s hs).mono ?_
  rintro e w' ⟨a, c, rfl, hr, hF⟩
  rw [h] at hr ⊢
  exact ⟨a, c, rfl, (SRow.of_owns hr).mono fun k hk => hr.lt k hk, hF⟩
theorem isame_at {w : World} {S S2 : Nat → Prop} {v u : Value} {l : List ItemD} (ha : ItemsV w S v l) (hb : ItemsV w S2 u l) (hl : l.length ≤ 1000000) : Calls Tryz.prog 58 #[v, u] w fun e w' => e = .returned (.bool true) ∧ Fr (fun _ => False) w w' := by
  refine (isame_h ha hb hl).mono ?_
  rintro e w' ⟨rfl, p, rfl⟩
  exact ⟨rfl, (Fr.refl _ _).drewN p⟩
def fx1 : ItemD := ⟨[49], [84], [104, 116, 116, 112, 58, 47, 47, 120]⟩
def fx2 : ItemD := ⟨[97, 32, 98], [], [97, 32, 98]⟩
def fx3 : ItemD := ⟨[105], [], [104]⟩
def ft2 : Str := [60, 114, 115, 115, 62, 60, 99, 104, 97, 110, 110, 101, 108, 62, 60, 105, 116, 101, 109, 62, 60, 108, 105, 110, 107, 62, 32, 97, 32, 32, 98, 32, 60, 47].append [108, 105, 110, 107, 62, 60, 47, 105, 116, 101, 109, 62, 60, 105, 116, 101, 109, 47, 62, 60, 47, 99, 104, 97, 110, 110, 101, 108, 62, 60, 47, 114, 115, 115, 62]
def ft3 : Str := [60, 102, 101, 101, 100, 62, 60, 101, 110, 116, 114, 121, 62, 60, 105, 100, 62, 105, 60, 47, 105, 100, 62, 60, 108, 105, 110, 107, 32, 114, 101, 108, 61, 34, 115, 101, 108, 102, 34, 32].append [104, 114, 101, 102, 61, 34, 115, 34, 47, 62, 60, 108, 105, 110, 107, 32, 104, 114, 101, 102, 61, 34, 104, 34, 47, 62, 60, 47, 101, 110, 116, 114, 121, 62, 60, 47, 102, 101, 101, 100, 62]
theorem fe1 : extractL (rssL [116] [fx1]) = ([fx1], 0) := by decide +kernel
theorem fe2 : extractL ft2 = ([fx2], 0) := by decide +kernel
theorem fe3 : extractL ft3 = ([fx3], 0) := by decide +kernel
theorem fe4 : extractL [60, 97, 47, 62] = ([], 8) := by decide +kernel
theorem fe1l : (rssL [116] [fx1]).length ≤ 1000000 := by decide +kernel
theorem one_row {w : World} (x : ItemD) (W : World) (hW : W = w.alloc (.cells (icells [x]).toArray 82)) : ItemsV W (fun _ => True) (.slice (some ⟨w.heap.size, 0, none⟩) 1 1) [x] := by
  rw [hW]
  exact SRow.of_block (e := 82) (f := (0, 0)) (block_new w (.cells (icells [x]).toArray 82)) rfl (by decide) trivial
set_option maxRecDepth 100000 in
set_option maxHeartbeats 8000000 in
theorem fshown_h {w : World} (hE : Env w) : Calls Tryz.prog 54 #[] w fun e w' => e = .returned (.bool true) ∧ Fr (fun _ => False) w w' := by
  have HB : Hid ((w.alloc (.cells (icells [fx1]).toArray 82)).heap[w.heap.size]? = some (.cells (icells [fx1]).toArray 82 (0, 0))) := block_new _ _
  have HFa : Hid (Fr (fun _ => False) w (w.alloc (.cells (icells [fx1]).toArray 82))) := (Fr.refl _ _).alloc _
  have HFb : Hid (Fr (fun _ => False) w ((w.alloc (.cells (icells [fx1]).toArray 82)).alloc (.cells (icells [fx1]).toArray 82))) := ((Fr.refl _ _).alloc _).alloc _
  have HR1 := Lib.hid (rssdoc_h (w := (w.alloc (.cells (icells [fx1]).toArray 82)).alloc (.cells (icells [fx1]).toArray 82)) (v := .slice (some ⟨w.heap.size + 1, 0, none⟩) 1 1) (l := [fx1]) [116]
    (SRow.of_block (e := 82) (f := (0, 0)) (block_new_at (by simp)) rfl (by decide) (by simp)) (by decide) (by decide) (fun x hx => by rw [List.mem_singleton] at hx; subst hx; unfold SmallI; decide))
  have HEv := Lib.hid (fun (W : World) (hF : Fr (fun _ => False) w W) => hE.grow hF)
  have x0 := cell_of HB.out (i := 0) (v := .string ⟨#[49]⟩) rfl
  have x1 := cell_of HB.out (i := 1) (v := .string ⟨#[84]⟩) rfl
  have x2 := cell_of HB.out (i := 2) (v := .string ⟨#[104, 116, 116, 112, 58, 47, 47, 120]⟩) rfl
  have xl := lt_of_block HB.out
  clear hE
  go_enter Tryz.func54, Tryz.ntmps54
  go_wp2_with fail
  refine Calls.mono HR1.out ?_
  rintro e w3 ⟨rfl, hF⟩
  have HF3 := Lib.hid (HFb.out.next hF)
  have HB3 := Lib.hid (((Fr.refl (fun _ => False) (w.alloc (.cells (icells [fx1]).toArray 82))).alloc _ |>.next hF).keep HB.out (fun h => h))
  clear hF x0 x1 x2 xl
  go_wp2_with fail
  refine Calls.mono (ext_at (HEv.out _ HF3.out) fe1 rfl fe1l) ?_
  rintro e w4 ⟨a1, c1, rfl, hv1, hF⟩
  have HF4 := Lib.hid (HF3.out.next hF)
  have HB4 := Lib.hid (hF.keep HB3.out (fun h => h))
  have HV4 := Lib.hid hv1
  clear hF hv1
  go_wp2_with fail
  refine Calls.mono (ext_at (HEv.out _ HF4.out) fe2 rfl (by decide)) ?_
  rintro e w5 ⟨a2, c2, rfl, hv2, hF⟩
  have HF5 := Lib.hid (HF4.out.next hF)
  have HB5 := Lib.hid (hF.keep HB4.out (fun h => h))
  have HV5 := Lib.hid (And.intro (HV4.out.fr hF fun _ _ h => h) hv2)
  clear hF hv2
  go_wp2_with fail
  refine Calls.mono (ext_at (HEv.out _ HF5.out) fe3 rfl (by decide)) ?_
  rintro e w6 ⟨a3, c3, rfl, hv3, hF⟩
  have HF6 := Lib.hid (HF5.out.next hF)
  have HB6 := Lib.hid (hF.keep HB5.out (fun h => h))
  have HV6 := Lib.hid (And.intro (HV5.out.1.fr hF fun _ _ h => h) (And.intro (HV5.out.2.fr hF fun _ _ h => h) hv3))
  clear hF hv3
  go_wp2_with fail
  refine Calls.mono (ext_at (HEv.out _ HF6.out) fe4 rfl (by decide)) ?_
  rintro e w7 ⟨a4, c4, rfl, -, hF⟩
  have HF7 := Lib.hid (HF6.out.next hF)
  have HB7 := Lib.hid (hF.keep HB6.out (fun h => h))
  have HV7 := Lib.hid (And.intro (HV6.out.1.fr hF fun _ _ h => h) (And.intro (HV6.out.2.1.fr hF fun _ _ h => h) (HV6.out.2.2.fr hF fun _ _ h => h)))
  clear hF
  have x0 := cell_of HB7.out (i := 0) (v := .string ⟨#[49]⟩) rfl
  have x1 := cell_of HB7.out (i := 1) (v := .string ⟨#[84]⟩) rfl
  have x2 := cell_of HB7.out (i := 2) (v := .string ⟨#[104, 116, 116, 112, 58, 47, 47, 120]⟩) rfl
  have xl := lt_of_block HB7.out
  have hFr1 : Fr (fun _ => False) w7 (w7.alloc (.cells (icells [fx1]).toArray 82)) := (Fr.refl _ _).alloc _
  have HS1 := Lib.hid (isame_at (HV7.out.1.fr hFr1 fun _ _ h => h) (one_row fx1 _ rfl) (by decide))
  have HFr1 := Lib.hid hFr1
  clear hFr1
  go_wp2_with fail
  refine Calls.mono HS1.out ?_
  rintro e w8 ⟨rfl, hF⟩
  have HF8 := Lib.hid (HFr1.out.next hF)
  clear hF x0 x1 x2 xl
  have hFr2 : Fr (fun _ => False) w8 (w8.alloc (.cells (icells [fx2]).toArray 82)) := (Fr.refl _ _).alloc _
  have HS2 := Lib.hid (isame_at (HV7.out.2.1.fr (HF8.out.next hFr2) fun _ _ h => h) (one_row fx2 _ rfl) (by decide))
  have HFr2 := Lib.hid (HF8.out.next hFr2)
  clear hFr2
  go_wp2_with fail
  refine Calls.mono HS2.out ?_
  rintro e w9 ⟨rfl, hF⟩
  have HF9 := Lib.hid (HFr2.out.next hF)
  clear hF
  have hFr3 : Fr (fun _ => False) w9 (w9.alloc (.cells (icells [fx3]).toArray 82)) := (Fr.refl _ _).alloc _
  have HS3 := Lib.hid (isame_at (HV7.out.2.2.fr (HF9.out.next hFr3) fun _ _ h => h) (one_row fx3 _ rfl) (by decide))
  have HFr3 := Lib.hid (HF9.out.next hFr3)
  clear hFr3
  go_wp2_with fail
  refine Calls.mono HS3.out ?_
  rintro e w10 ⟨rfl, hF⟩
  have HF10 := Lib.hid (HF7.out.next (HFr3.out.next hF))
  clear hF
  go_wp2_with fail
  go_ret
  exact ⟨rfl, HF10.out⟩
theorem icells_take : ∀ (l : List ItemD) (i : Nat), (icells l).take (i * 3) = icells (l.take i)
  | [], i => by simp [icells]
  | x :: l, 0 => by simp [icells]
  | x :: l, i + 1 => by
    rw [List.take_succ_cons, icells_cons, icells_cons, show (i + 1) * 3 = i * 3 + 1 + 1 + 1 by omega, List.take_succ_cons, List.take_succ_cons, List.take_succ_cons, icells_take l i]
theorem ItemsV.take {w : World} {S : Nat → Prop} {a : Option Addr} {c : Nat} {l : List ItemD} (h : ItemsV w S (.slice a l.length c) l) {i : Nat} (hi : i ≤ l.length) : ItemsV w S (.slice a i c) (l.take i) := by
  have h2 := SRow.head h hi
  rw [icells_take] at h2
  have e : (l.take i).length = i := by rw [List.length_take]; omega
  unfold ItemsV
  rw [e]; exact h2
end Go.Proofs.YtpinjgdnhbogoaaGreatDoor
