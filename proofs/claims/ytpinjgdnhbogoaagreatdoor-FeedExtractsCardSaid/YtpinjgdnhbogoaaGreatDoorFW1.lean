/- feed's short, text, Right: walked. -/
import Derived.Test.YtpinjgdnhbogoaaGreatDoorNQ
import Derived.Test.YtpinjgdnhbogoaaGreatDoorNE
import Derived.Test.YtpinjgdnhbogoaaGreatDoorFQ
import Derived.Test.YtpinjgdnhbogoaaGreatDoorFM
namespace Go.Proofs.YtpinjgdnhbogoaaGreatDoor
open Go.RowKit Go.Lib

set_option maxHeartbeats 2000000 in
theorem short_h {w : World} (s : Str) (hs : s.length ≤ 100000000) : Calls Tryz.prog 157 #[.string (bs s)] w fun e w' => e = .returned (.string (bs (shortL s))) ∧ Fr (fun _ => False) w w' := by
  have HS := Lib.hid (squeeze_h (w := w) s hs)
  obtain ⟨q, hq⟩ : ∃ q, squeezeL s = q := ⟨_, rfl⟩
  rw [hq] at HS
  have hqz : (bs q).size = q.length := rfl
  by_cases hl : 200 < q.length
  · have HE : Hid (shortL s = []) := by show shortL s = []; unfold shortL; rw [hq, if_pos hl]
    have hi : (200 : Int) < (q.length : Int) := by omega
    clear hl hq
    go_enter Tryz.func157, Tryz.ntmps157
    go_wp2_with fail
    refine Calls.mono HS.out ?_
    rintro e w1 ⟨rfl, hF⟩
    have HF := Lib.hid hF
    clear hF
    go_wp2_with fail
    go_ret
    exact ⟨by rw [HE.out] <;> rfl, HF.out⟩
  · have HE : Hid (shortL s = q) := by show shortL s = q; unfold shortL; rw [hq, if_neg hl]
    have hi : ¬ (200 : Int) < (q.length : Int) := by omega
    clear hl hq
    go_enter Tryz.func157, Tryz.ntmps157
    go_wp2_with fail
    refine Calls.mono HS.out ?_
    rintro e w1 ⟨rfl, hF⟩
    have HF := Lib.hid hF
    clear hF
    go_wp2_with fail
    go_ret
    exact ⟨by rw [HE.out] <;> rfl, HF.out⟩
theorem text_hd (n : NodeD) (nm : Str) : textL n nm = shortL (hdN (allN n nm)).text := by
  unfold textL
  show (match allN n nm with | [] => [] | k :: _ => shortL k.text) = _
  cases allN n nm with
  | nil => exact short_nil.symm
  | cons k l => rfl
theorem hd_nsz (n : NodeD) (nm : Str) : (hdN (allN n nm)).text.length ≤ nszN n := by
  cases h : allN n nm with
  | nil => exact Nat.zero_le _
  | cons k l =>
    have h1 : k ∈ allL n nm := by show k ∈ allN n nm; rw [h]; exact List.mem_cons_self ..
    exact Nat.le_trans (nsz_text k) (nsz_all h1)
set_option maxHeartbeats 2000000 in
theorem text_h {w : World} {S : Nat → Prop} {n : NodeD} {c0 c1 c2 c3 : Value} (hn : NodeV w S n [c0, c1, c2, c3]) (hS : ∀ k, S k → k < w.heap.size) (hz : nszN n ≤ 1000000) (nm : Str) :
    Calls Tryz.prog 156 #[.func (.func 31) #[.agg #[c0, c1, c2, c3]] #[], .string (bs nm)] w fun e w' => e = .returned (.string (bs (textL n nm))) ∧ Fr (fun _ => False) w w' := by
  have HK := Lib.hid (kid_h hn hS (Nat.le_trans (nsz_kids n) hz) nm)
  have HT := Lib.hid (text_hd n nm)
  have hb := Nat.le_trans (hd_nsz n nm) hz
  clear hn hS hz
  obtain ⟨k, hk⟩ : ∃ k, hdN (allN n nm) = k := ⟨_, rfl⟩
  rw [hk] at HT hb
  have HSh := Lib.hid (fun (W : World) => short_h (w := W) k.text (by omega))
  have HKd := Lib.hid hk
  clear hk hb
  go_enter Tryz.func156, Tryz.ntmps156
  go_wp2_with fail
  refine Calls.mono HK.out ?_
  rintro e w1 ⟨a1, n1, p1, a3, n3, p3, rfl, -, hF⟩
  rw [HKd.out]
  have HF := Lib.hid (hF.alloc (.cells #[.string (bs k.name), .slice a1 n1 p1, .string (bs k.text), .slice a3 n3 p3] 30))
  clear hF
  go_wp2_with fail
  refine Calls.mono (HSh.out _) ?_
  rintro e w2 ⟨rfl, hF⟩
  have HF2 := Lib.hid (HF.out.next hF)
  clear hF
  go_wp2_with fail
  go_ret
  exact ⟨by rw [HT.out] <;> rfl, HF2.out⟩

/-! ### Right -/
set_option maxHeartbeats 2000000 in
theorem unfit_h {w : World} (s : Str) (hs : s.length ≤ 100000000) : Calls Tryz.prog 96 #[.string (bs s)] w fun e w' => e = .returned (.bool (!fitB s)) ∧ Fr (fun _ => False) w w' := by
  have hsz : (bs s).size = s.length := rfl
  by_cases hl : 200 < s.length
  · have HE : Hid ((!fitB s) = true) := by show (!fitB s) = true; unfold fitB; rw [decide_eq_false (by omega)]; rfl
    have hi : (200 : Int) < (s.length : Int) := by omega
    clear hl
    go_enter Tryz.func96, Tryz.ntmps96
    go_wp2_with fail
    go_ret
    exact ⟨by rw [HE.out] <;> rfl, Fr.refl _ _⟩
  · have HS := Lib.hid (squeeze_h (w := w) s hs)
    have hfit : fitB s = (squeezeL s == s) := by unfold fitB; rw [decide_eq_true (by omega)]; rfl
    obtain ⟨q, hq⟩ : ∃ q, squeezeL s = q := ⟨_, rfl⟩
    rw [hq] at HS hfit
    have hi : ¬ (200 : Int) < (s.length : Int) := by omega
    clear hl hq
    by_cases he : q = s
    · subst he
      have HE : Hid ((!fitB q) = false) := by show (!fitB q) = false; rw [hfit]; simp
      have t1 : ((bs q).toList != (bs q).toList) = false := by simp
      clear hfit
      go_enter Tryz.func96, Tryz.ntmps96
      go_wp2_with fail
      refine Calls.mono HS.out ?_
      rintro e w1 ⟨rfl, hF⟩
      have HF := Lib.hid hF
      clear hF
      go_wp2_with fail
      go_ret
      exact ⟨by rw [HE.out] <;> rfl, HF.out⟩
    · have HE : Hid ((!fitB s) = true) := by show (!fitB s) = true; rw [hfit, beq_eq_false_iff_ne.2 he]; rfl
      obtain ⟨t1, t2⟩ := str_eq_f he
      have t3 : ((bs q).toList != (bs s).toList) = true := by rw [bne, t2]; rfl
      clear hfit he
      go_enter Tryz.func96, Tryz.ntmps96
      go_wp2_with fail
      refine Calls.mono HS.out ?_
      rintro e w1 ⟨rfl, hF⟩
      have HF := Lib.hid hF
      clear hF
      go_wp2_with fail
      go_ret
      exact ⟨by rw [HE.out] <;> rfl, HF.out⟩
def scells (l : List Str) : List Value := l.map fun s => .string (bs s)
theorem scells_at {l : List Str} {k : Nat} {s : Str} (h : l[k]? = some s) : (scells l)[k]? = some (.string (bs s)) := by unfold scells; rw [List.getElem?_map, h]; rfl
def IdxSPost (l : List Str) (w : World) (e : Ending) (w' : World) : Prop :=
  (∃ r : Int, e = .returned (.int .i64 r) ∧ decide (0 ≤ r) = l.any (fun s => !fitB s)) ∧ Fr (fun _ => False) w w'
set_option maxHeartbeats 2000000 in
theorem idxs_h {w : World} {S : Nat → Prop} {v : Value} {l : List Str} (ha : SRow w S 1 v l.length (scells l)) (hl : l.length < 1000000) (hb : ∀ s ∈ l, s.length ≤ 100000000) :
    Calls Tryz.prog 128 #[v, .func (.func 96) #[] #[]] w (IdxSPost l w) := by
  have HS := Lib.hid ha
  have HB := Lib.hid hb
  obtain ⟨_, p, cap, rfl, hnc, hcm, h5, h6⟩ := ha
  clear hb h6 h5
  go_enter Tryz.func128, Tryz.ntmps128
  go_wp2_with fail
  go_loopg [8] (l.length) (fun j u wr => ∃ k : Nat, k + j = l.length ∧ u = .int .i64 k ∧ (∀ i x, i < k → l[i]? = some x → fitB x = true) ∧ Fr (fun _ => False) w wr)
  case atStart => exact ⟨0, by omega, rfl, fun i x h => by omega, Fr.refl _ _⟩
  case round =>
    obtain ⟨k, hk, rfl, ht, hf⟩ := hrel
    have HK := Lib.hid (And.intro hk (And.intro ht hf))
    clear hk ht
    have hs2 := HS.out.fr hf (fun _ _ h => h)
    clear hf
    by_cases hlt : k < l.length
    · obtain ⟨g, off, rfl, hc⟩ := hs2.cell (by omega)
      obtain ⟨q, hq⟩ : ∃ p, l[k]? = some p := ⟨_, List.getElem?_eq_getElem hlt⟩
      have c0 := hc _ _ (scells_at hq)
      have HP := Lib.hid hq
      have HT := Lib.hid (fun (W : World) => unfit_h (w := W) q (HB.out q (List.mem_of_getElem? hq)))
      clear hc hq hs2
      go_wp2_with fail
      refine Calls.mono (HT.out _) ?_
      rintro e w' ⟨rfl, hf2⟩
      have HF2 := Lib.hid (HK.out.2.2.next hf2)
      clear hf2
      cases hB : fitB q with
      | false =>
        have HQ := Lib.hid hB
        clear hB
        go_wp2_with fail
        go_ret
        refine ⟨⟨k, rfl, ?_⟩, HF2.out⟩
        have : l.any (fun s => !fitB s) = true := by rw [List.any_eq_true]; exact ⟨q, List.mem_of_getElem? HP.out, by rw [HQ.out]; rfl⟩
        rw [this]; simp
      | true =>
        have HQ := Lib.hid hB
        clear hB
        go_wp2_with fail
        go_roundg (l.length - (k + 1))
        case measure => have := HK.out.1; omega
        case rel =>
          refine ⟨k + 1, by omega, by go_num, fun i x hi hx => ?_, HF2.out⟩
          by_cases hik : i = k
          · subst hik; rw [HP.out] at hx; obtain rfl := Option.some.inj hx; exact HQ.out
          · exact HK.out.2.1 i x (by omega) hx
    · clear hs2
      go_wp2_with fail
      go_ret
      refine ⟨⟨-1, rfl, ?_⟩, HK.out.2.2⟩
      have : l.any (fun s => !fitB s) = false := by
        rw [List.any_eq_false]
        intro x hx
        obtain ⟨i, hi⟩ := List.getElem?_of_mem hx
        rw [HK.out.2.1 i x (by have := (List.getElem?_eq_some_iff.1 hi).1; omega) hi]; simp
      rw [this]; rfl
theorem hass_h {w : World} {S : Nat → Prop} {v : Value} {l : List Str} (ha : SRow w S 1 v l.length (scells l)) (hl : l.length < 1000000) (hb : ∀ s ∈ l, s.length ≤ 100000000) :
    Calls Tryz.prog 95 #[v, .func (.func 96) #[] #[]] w fun e w' => e = .returned (.bool (l.any (fun s => !fitB s))) ∧ Fr (fun _ => False) w w' := by
  have H := Lib.hid (idxs_h ha hl hb)
  clear ha hb
  go_enter Tryz.func95, Tryz.ntmps95
  go_wp2_with fail
  refine Calls.mono H.out ?_
  rintro e w' ⟨⟨r, rfl, hr⟩, hf⟩
  have HD := Lib.hid hr
  have HF := Lib.hid hf
  clear hr hf
  go_wp2_with fail
  go_ret
  exact ⟨by rw [← HD.out] <;> rfl, HF.out⟩
theorem right_all (x : ItemD) (h : x.id ≠ []) : rightD x = (fitB x.id && (fitB x.title && fitB x.link)) := by
  have e : x.id.isEmpty = false := by simpa using h
  unfold rightD; rw [e]; rfl
set_option maxRecDepth 100000 in
set_option maxHeartbeats 2000000 in
theorem right_h {w : World} (x : ItemD) (hx : x.id.length ≤ 100000000 ∧ x.title.length ≤ 100000000 ∧ x.link.length ≤ 100000000) :
    Calls Tryz.prog 59 #[.agg #[.string (bs x.id), .string (bs x.title), .string (bs x.link)]] w fun e w' => e = .returned (.bool (rightD x)) ∧ Fr (fun _ => False) w w' := by
  have hb0 := block_new w (.cells #[.string (bs x.id), .string (bs x.title), .string (bs x.link)] 82)
  have c0 := cell_of hb0 (i := 0) (v := _) rfl
  have c1 := cell_of hb0 (i := 1) (v := _) rfl
  have c2 := cell_of hb0 (i := 2) (v := _) rfl
  have HF0 : Hid (Fr (fun _ => False) w (w.alloc (.cells #[.string (bs x.id), .string (bs x.title), .string (bs x.link)] 82))) := (Fr.refl _ _).alloc _
  clear hb0
  by_cases h0 : x.id = []
  · have HE : Hid (rightD x = false) := by show rightD x = false; unfold rightD; rw [h0]; rfl
    have tn : ((bs x.id).toList != []) = false := by rw [bs_toList, h0]; rfl
    have tn2 : (bs x.id).toList.isEmpty = true := by rw [bs_toList, h0]; rfl
    have tn3 : ((bs x.id).toList == []) = true := by rw [bs_toList, h0]; rfl
    clear h0
    go_enter Tryz.func59, Tryz.ntmps59
    go_wp2_with fail
    go_ret
    exact ⟨by rw [HE.out] <;> rfl, HF0.out⟩
  · have HE := Lib.hid (right_all x h0)
    have tn3 : ((bs x.id).toList == []) = false := by rw [bs_toList]; exact beq_eq_false_iff_ne.2 h0
    have tn : ((bs x.id).toList != []) = true := by rw [bne, tn3]; rfl
    have tn2 : (bs x.id).toList.isEmpty = false := by rw [bs_toList]; simpa using h0
    have tn4 : decide (bs x.id = ⟨#[]⟩) = false := decide_eq_false fun e => h0 (bs_inj e)
    have HH := Lib.hid (hass_h (w := (w.alloc (.cells #[.string (bs x.id), .string (bs x.title), .string (bs x.link)] 82)).alloc (.cells #[.string (bs x.id), .string (bs x.title), .string (bs x.link)] 9)) (S := fun _ => True) (v := .slice (some ⟨w.heap.size + 1, 0, none⟩) 3 3) (l := [x.id, x.title, x.link])
      (SRow.of_block (e := 9) (f := (0, 0)) (block_new_at (by simp)) rfl (by decide) trivial) (by simp) (fun s hs => by
        simp only [List.mem_cons, List.not_mem_nil, or_false] at hs
        rcases hs with rfl | rfl | rfl
        · exact hx.1
        · exact hx.2.1
        · exact hx.2.2))
    have HF1 := Lib.hid (HF0.out.alloc (.cells #[.string (bs x.id), .string (bs x.title), .string (bs x.link)] 9))
    clear h0 hx
    go_enter Tryz.func59, Tryz.ntmps59
    go_wp2_with fail
    refine Calls.mono HH.out ?_
    rintro e w2 ⟨rfl, hF⟩
    have HF2 := Lib.hid (HF1.out.next hF)
    clear hF
    go_wp2_with fail
    go_ret
    exact ⟨by rw [HE.out] <;> rfl, HF2.out⟩
end Go.Proofs.YtpinjgdnhbogoaaGreatDoor
