/- feed's rss and atom: walked. -/
import Derived.Test.YtpinjgdnhbogoaaGreatDoorFW1
import Derived.Deep.RegionHeld3
import Derived.Deep.CutRange
namespace Go.Proofs.YtpinjgdnhbogoaaGreatDoor
open Go.RowKit Go.Lib

def iagg (x : ItemD) : Value := .agg #[.string (bs x.id), .string (bs x.title), .string (bs x.link)]
def ItemPost (x : ItemD) (w : World) (e : Ending) (w' : World) : Prop := e = .returned (iagg x) ∧ Fr (fun _ => False) w w'
theorem block_set3 {w : World} {n : Nat} {x0 x1 x2 a b c : Value} {e : TypeId} {f : Nat × Nat} (h : w.heap[n]? = some (.cells #[x0, x1, x2] e f)) : (((w.setCell ⟨n, 0, none⟩ a).setCell ⟨n, 1, none⟩ b).setCell ⟨n, 2, none⟩ c).heap[n]? = some (.cells #[a, b, c] e f) :=
  block_set (block_set (block_set h 0 a) 1 b) 2 c
theorem fr_set3 (w : World) (n : Nat) (a b c : Value) : Fr (fun k => k = n) w (((w.setCell ⟨n, 0, none⟩ a).setCell ⟨n, 1, none⟩ b).setCell ⟨n, 2, none⟩ c) :=
  ((fr_set w n 0 a).next (fr_set _ n 1 b)).next (fr_set _ n 2 c)
theorem fr_onef {z : Nat} {w0 W W' : World} (h : Fr (fun _ => False) w0 W) (hf : Fr (fun k => k = z) W W') (hz : w0.heap.size ≤ z) : Fr (fun _ => False) w0 W' := h.trans hf fun k e => .inr (by rw [e]; exact hz)
theorem rss_id {n : NodeD} (h : textL n nGuid = []) : rssI n = ⟨textL n nLink, textL n nTitle, textL n nLink⟩ := by unfold rssI; rw [h]; rfl
theorem rss_own {n : NodeD} (h : textL n nGuid ≠ []) : rssI n = ⟨textL n nGuid, textL n nTitle, textL n nLink⟩ := by
  unfold rssI
  rw [if_neg (by simpa using h)]
set_option maxRecDepth 100000 in
set_option maxHeartbeats 8000000 in
theorem rss_h {w : World} {S : Nat → Prop} {n : NodeD} {c0 c1 c2 c3 : Value} (hn : NodeV w S n [c0, c1, c2, c3]) (hS : ∀ k, S k → k < w.heap.size) (hz : nszN n ≤ 1000000) :
    Calls Tryz.prog 124 #[.agg #[c0, c1, c2, c3]] w (ItemPost (rssI n) w) := by
  obtain ⟨av, kv, xs, hcs, ha, hk, hks⟩ := hn.parts
  simp only [List.cons.injEq, and_true] at hcs
  obtain ⟨rfl, rfl, rfl, rfl⟩ := hcs
  obtain ⟨-, a1, p1, rfl, -⟩ := id ha
  obtain ⟨-, a3, p3, rfl, -, -, -, -⟩ := id hk
  obtain ⟨w1, hw1⟩ : ∃ w1, w1 = (w.alloc (.cells #[.string (bs n.name), .slice a1 n.attrs.length p1, .string (bs n.text), .slice a3 n.kids.length p3] 30)).alloc (.cells #[.string ⟨#[]⟩, .string ⟨#[]⟩, .string ⟨#[]⟩] 82) := ⟨_, rfl⟩
  have HF0 : Hid (Fr (fun _ => False) w w1) := by show Fr _ _ _; rw [hw1]; exact ((Fr.refl _ _).alloc _).alloc _
  have HB : Hid (w1.heap[w.heap.size]? = some (.cells #[.string (bs n.name), .slice a1 n.attrs.length p1, .string (bs n.text), .slice a3 n.kids.length p3] 30 (0, 0))) := by show w1.heap[w.heap.size]? = _; rw [hw1]; exact block_old (block_new _ _) _
  have HR : Hid (w1.heap[w.heap.size + 1]? = some (.cells #[.string ⟨#[]⟩, .string ⟨#[]⟩, .string ⟨#[]⟩] 82 (0, 0))) := by show w1.heap[w.heap.size + 1]? = _; rw [hw1]; exact block_new_at (by simp)
  have HZB : Hid ((w1.alloc (.cells #[.string ⟨#[]⟩, .string ⟨#[]⟩, .string ⟨#[]⟩] 82)).heap[w1.heap.size]? = some (.cells #[.string ⟨#[]⟩, .string ⟨#[]⟩, .string ⟨#[]⟩] 82 (0, 0))) := block_new _ _
  have HN := Lib.hid (fun (W : World) (hF : Fr (fun _ => False) w1 W) => And.intro (NodeV.fr (HF0.out.next hF) (fun _ _ h => h) n hn) (fun k (hk : S k) => Nat.lt_of_lt_of_le (hS k hk) (HF0.out.next hF).size))
  have hszw : w.heap.size + 1 < w1.heap.size := by rw [hw1]; simp
  have ln_w : w.heap.size < w1.heap.size := by omega
  have ne_w : ¬ w.heap.size = w1.heap.size := by omega
  have nf_w : ¬ w1.heap.size = w.heap.size := by omega
  have HG := Lib.hid (fun (W : World) (hF : Fr (fun _ => False) w1 W) => show Calls Tryz.prog 156 #[.func (.func 31) #[.agg #[.string (bs n.name), .slice a1 n.attrs.length p1, .string (bs n.text), .slice a3 n.kids.length p3]] #[], .string ⟨#[103, 117, 105, 100]⟩] W (fun e w' => e = .returned (.string (bs (textL n nGuid))) ∧ Fr (fun _ => False) W w') from text_h (HN.out W hF).1 (HN.out W hF).2 hz nGuid)
  have HT := Lib.hid (fun (W : World) (hF : Fr (fun _ => False) w1 W) => show Calls Tryz.prog 156 #[.func (.func 31) #[.agg #[.string (bs n.name), .slice a1 n.attrs.length p1, .string (bs n.text), .slice a3 n.kids.length p3]] #[], .string ⟨#[116, 105, 116, 108, 101]⟩] W (fun e w' => e = .returned (.string (bs (textL n nTitle))) ∧ Fr (fun _ => False) W w') from text_h (HN.out W hF).1 (HN.out W hF).2 hz nTitle)
  have HL := Lib.hid (fun (W : World) (hF : Fr (fun _ => False) w1 W) => show Calls Tryz.prog 156 #[.func (.func 31) #[.agg #[.string (bs n.name), .slice a1 n.attrs.length p1, .string (bs n.text), .slice a3 n.kids.length p3]] #[], .string ⟨#[108, 105, 110, 107]⟩] W (fun e w' => e = .returned (.string (bs (textL n nLink))) ∧ Fr (fun _ => False) W w') from text_h (HN.out W hF).1 (HN.out W hF).2 hz nLink)
  have x0 := cell_of HB.out (i := 0) (v := .string (bs n.name)) rfl
  have x1 := cell_of HB.out (i := 1) (v := .slice a1 n.attrs.length p1) rfl
  have x2 := cell_of HB.out (i := 2) (v := .string (bs n.text)) rfl
  have x3 := cell_of HB.out (i := 3) (v := .slice a3 n.kids.length p3) rfl
  have HI1 := Lib.hid (rss_id (n := n))
  have HI2 := Lib.hid (rss_own (n := n))
  obtain ⟨g, hg⟩ : ∃ g, textL n nGuid = g := ⟨_, rfl⟩
  obtain ⟨t, ht⟩ : ∃ t, textL n nTitle = t := ⟨_, rfl⟩
  obtain ⟨l, hl⟩ : ∃ l, textL n nLink = l := ⟨_, rfl⟩
  rw [hg] at HG HI1 HI2
  rw [ht] at HT HI1 HI2
  rw [hl] at HL HI1 HI2
  clear hn ha hk hks hS hz hg ht hl
  go_enter Tryz.func124, Tryz.ntmps124
  go_upto_region 1 with fail
  rw [← hw1]
  clear hw1
  go_cut [3] (fun s3 wx => ∃ xb, s3 = .pointer (some ⟨xb, 0, none⟩) ∧ wx.heap[xb]? = some (.cells #[.string (bs g), .string (bs t), .string (bs l)] 82 (0, 0)) ∧ w1.heap.size ≤ xb ∧ Fr (fun _ => False) w1 wx)
  case first =>
    go_region_held3 (fun w' => w'.cell? ⟨w.heap.size, 0, none⟩ = some (.string (bs n.name)) ∧ w'.cell? ⟨w.heap.size, 1, none⟩ = some (.slice a1 n.attrs.length p1) ∧ w'.cell? ⟨w.heap.size, 2, none⟩ = some (.string (bs n.text)) ∧ w'.cell? ⟨w.heap.size, 3, none⟩ = some (.slice a3 n.kids.length p3))
      (first | go_keep | (with_reducible exact ⟨s0_fg, s1_fg, s2_fg, s3_fg⟩) | (with_reducible exact ⟨s0_ft, s1_ft, s2_ft, s3_ft⟩) | (with_reducible exact ⟨s0_fl, s1_fl, s2_fl, s3_fl⟩) | fail)
      (first
        | (go_at_call 156; (with_reducible refine Calls.mono (HG.out _ (by repeat (first | exact Fr.refl _ _ | exact fg | exact ft | exact fl | refine Fr.drew ?_ | refine Fr.alloc ?_ _))) ?_); rintro e w_fg ⟨rfl, hq⟩; have fg := (show Fr (fun _ => False) w1 _ by repeat (first | exact Fr.refl _ _ | exact ft | exact fl | refine Fr.drew ?_ | refine Fr.alloc ?_ _)).next hq; (first | (have hzb := hq.keep hzb (fun h => h)) | (have hzb := hq.keep (block_new w_ft (.cells #[.string ⟨#[]⟩, .string ⟨#[]⟩, .string ⟨#[]⟩] 82)) (fun h => h)) | (have hzb := hq.keep (block_new w_fl (.cells #[.string ⟨#[]⟩, .string ⟨#[]⟩, .string ⟨#[]⟩] 82)) (fun h => h)) | (have hzb := (show Fr (fun _ => False) (w1.alloc (.cells #[.string ⟨#[]⟩, .string ⟨#[]⟩, .string ⟨#[]⟩] 82)) _ from hq.start rfl rfl rfl rfl).keep HZB.out (fun h => h)) | skip); (try (have u0 := free_of 0 hzb; have u1 := free_of 1 hzb; have u2 := free_of 2 hzb; have z0 := cell_of hzb (i := 0) (v := .string ⟨#[]⟩) rfl; have z1 := cell_of hzb (i := 1) (v := .string ⟨#[]⟩) rfl; have z2 := cell_of hzb (i := 2) (v := .string ⟨#[]⟩) rfl; have ul := lt_of_block hzb)); have hs_fg := fg.size; have s0_fg := fg.cell x0 (fun h => h); have s1_fg := fg.cell x1 (fun h => h); have s2_fg := fg.cell x2 (fun h => h); have s3_fg := fg.cell x3 (fun h => h); have ln_fg : w.heap.size < w_fg.heap.size := (by omega); have ne_fg : ¬ w.heap.size = w_fg.heap.size := (by omega); have nf_fg : ¬ w_fg.heap.size = w.heap.size := (by omega); clear hq)
        | (go_at_call 156; (with_reducible refine Calls.mono (HT.out _ (by repeat (first | exact Fr.refl _ _ | exact fg | exact ft | exact fl | refine Fr.drew ?_ | refine Fr.alloc ?_ _))) ?_); rintro e w_ft ⟨rfl, hq⟩; have ft := (show Fr (fun _ => False) w1 _ by repeat (first | exact Fr.refl _ _ | exact fg | exact fl | refine Fr.drew ?_ | refine Fr.alloc ?_ _)).next hq; (first | (have hzb := hq.keep hzb (fun h => h)) | (have hzb := hq.keep (block_new w_fg (.cells #[.string ⟨#[]⟩, .string ⟨#[]⟩, .string ⟨#[]⟩] 82)) (fun h => h)) | (have hzb := hq.keep (block_new w_fl (.cells #[.string ⟨#[]⟩, .string ⟨#[]⟩, .string ⟨#[]⟩] 82)) (fun h => h)) | (have hzb := (show Fr (fun _ => False) (w1.alloc (.cells #[.string ⟨#[]⟩, .string ⟨#[]⟩, .string ⟨#[]⟩] 82)) _ from hq.start rfl rfl rfl rfl).keep HZB.out (fun h => h)) | skip); (try (have u0 := free_of 0 hzb; have u1 := free_of 1 hzb; have u2 := free_of 2 hzb; have z0 := cell_of hzb (i := 0) (v := .string ⟨#[]⟩) rfl; have z1 := cell_of hzb (i := 1) (v := .string ⟨#[]⟩) rfl; have z2 := cell_of hzb (i := 2) (v := .string ⟨#[]⟩) rfl; have ul := lt_of_block hzb)); have hs_ft := ft.size; have s0_ft := ft.cell x0 (fun h => h); have s1_ft := ft.cell x1 (fun h => h); have s2_ft := ft.cell x2 (fun h => h); have s3_ft := ft.cell x3 (fun h => h); have ln_ft : w.heap.size < w_ft.heap.size := (by omega); have ne_ft : ¬ w.heap.size = w_ft.heap.size := (by omega); have nf_ft : ¬ w_ft.heap.size = w.heap.size := (by omega); clear hq)
        | (go_at_call 156; (with_reducible refine Calls.mono (HL.out _ (by repeat (first | exact Fr.refl _ _ | exact fg | exact ft | exact fl | refine Fr.drew ?_ | refine Fr.alloc ?_ _))) ?_); rintro e w_fl ⟨rfl, hq⟩; have fl := (show Fr (fun _ => False) w1 _ by repeat (first | exact Fr.refl _ _ | exact fg | exact ft | refine Fr.drew ?_ | refine Fr.alloc ?_ _)).next hq; (first | (have hzb := hq.keep hzb (fun h => h)) | (have hzb := hq.keep (block_new w_fg (.cells #[.string ⟨#[]⟩, .string ⟨#[]⟩, .string ⟨#[]⟩] 82)) (fun h => h)) | (have hzb := hq.keep (block_new w_ft (.cells #[.string ⟨#[]⟩, .string ⟨#[]⟩, .string ⟨#[]⟩] 82)) (fun h => h)) | (have hzb := (show Fr (fun _ => False) (w1.alloc (.cells #[.string ⟨#[]⟩, .string ⟨#[]⟩, .string ⟨#[]⟩] 82)) _ from hq.start rfl rfl rfl rfl).keep HZB.out (fun h => h)) | skip); (try (have u0 := free_of 0 hzb; have u1 := free_of 1 hzb; have u2 := free_of 2 hzb; have z0 := cell_of hzb (i := 0) (v := .string ⟨#[]⟩) rfl; have z1 := cell_of hzb (i := 1) (v := .string ⟨#[]⟩) rfl; have z2 := cell_of hzb (i := 2) (v := .string ⟨#[]⟩) rfl; have ul := lt_of_block hzb)); have hs_fl := fl.size; have s0_fl := fl.cell x0 (fun h => h); have s1_fl := fl.cell x1 (fun h => h); have s2_fl := fl.cell x2 (fun h => h); have s3_fl := fl.cell x3 (fun h => h); have ln_fl : w.heap.size < w_fl.heap.size := (by omega); have ne_fl : ¬ w.heap.size = w_fl.heap.size := (by omega); have nf_fl : ¬ w_fl.heap.size = w.heap.size := (by omega); clear hq)
        | fail)
    all_goals
      go_wp2_with fail
      go_meet
      first
        | exact ⟨_, rfl, block_set3 hzb, (by omega), fl.trans (fr_set3 _ _ _ _ _) fun k e => .inr (by omega)⟩
        | exact ⟨_, rfl, block_new _ _, (by omega), fl.alloc _⟩
  case rest =>
    obtain ⟨xb, rfl, hxb, hge, hF⟩ := hcut
    have HX := Lib.hid hxb
    have HF := Lib.hid hF
    have HR2 := Lib.hid (hF.keep HR.out (fun h => h))
    have b0 := cell_of hxb (i := 0) (v := .string (bs g)) rfl
    have b1 := cell_of hxb (i := 1) (v := .string (bs t)) rfl
    have b2 := cell_of hxb (i := 2) (v := .string (bs l)) rfl
    have f0 := free_of 0 hxb
    have rc0 := cell_of HR2.out (i := 0) (v := .string ⟨#[]⟩) rfl
    have rc1 := cell_of HR2.out (i := 1) (v := .string ⟨#[]⟩) rfl
    have rc2 := cell_of HR2.out (i := 2) (v := .string ⟨#[]⟩) rfl
    have r0 := free_of 0 HR2.out
    have r1 := free_of 1 HR2.out
    have r2 := free_of 2 HR2.out
    have rl := lt_of_block HR2.out
    have bl := lt_of_block hxb
    clear hxb hF x0 x1 x2 x3
    by_cases h0 : g = []
    · have HE := Lib.hid (HI1.out h0)
      have t1 : ((bs g).toList == []) = true := by rw [bs_toList, h0]; rfl
      have t2 : (bs g).toList.isEmpty = true := by rw [bs_toList, h0]; rfl
      clear h0
      go_wp2_with fail
      have hy := block_set HX.out 0 (.string (bs l))
      have hR3 := (fr_set wc xb 0 (.string (bs l))).keep HR2.out (by omega)
      have hz := block_set3 (a := .string (bs l)) (b := .string (bs t)) (c := .string (bs l)) hR3
      have e0 := cell_of hz (i := 0) (v := .string (bs l)) rfl
      have e1 := cell_of hz (i := 1) (v := .string (bs t)) rfl
      have e2 := cell_of hz (i := 2) (v := .string (bs l)) rfl
      refine bodyPost_ret (v := .agg #[.string (bs l), .string (bs t), .string (bs l)]) (by simp [results, Tryz.results124, go_sem, e0, e1, e2] <;> rfl) rfl ?_
      refine ⟨by rw [HE.out] <;> rfl, ?_⟩
      exact fr_onef (fr_onef (HF0.out.next HF.out) (fr_set _ _ _ _) (by omega)) (fr_set3 _ _ _ _ _) (by omega)
    · have HE := Lib.hid (HI2.out h0)
      have t1 : ((bs g).toList == []) = false := by rw [bs_toList]; exact beq_eq_false_iff_ne.2 h0
      have t2 : (bs g).toList.isEmpty = false := by rw [bs_toList]; simpa using h0
      have t3 : decide (bs g = ⟨#[]⟩) = false := decide_eq_false fun e => h0 (bs_inj e)
      clear h0
      go_wp2_with fail
      have hz := block_set3 (a := .string (bs g)) (b := .string (bs t)) (c := .string (bs l)) HR2.out
      have e0 := cell_of hz (i := 0) (v := .string (bs g)) rfl
      have e1 := cell_of hz (i := 1) (v := .string (bs t)) rfl
      have e2 := cell_of hz (i := 2) (v := .string (bs l)) rfl
      refine bodyPost_ret (v := .agg #[.string (bs g), .string (bs t), .string (bs l)]) (by simp [results, Tryz.results124, go_sem, e0, e1, e2] <;> rfl) rfl ?_
      exact ⟨by rw [HE.out] <;> rfl, fr_onef (HF0.out.next HF.out) (fr_set3 _ _ _ _ _) (by omega)⟩
set_option maxRecDepth 100000 in
set_option maxHeartbeats 8000000 in
theorem atom_h {w : World} {S : Nat → Prop} {n : NodeD} {c0 c1 c2 c3 : Value} (hn : NodeV w S n [c0, c1, c2, c3]) (hS : ∀ k, S k → k < w.heap.size) (hz : nszN n ≤ 1000000) :
    Calls Tryz.prog 123 #[.agg #[c0, c1, c2, c3]] w (ItemPost (atomI n) w) := by
  obtain ⟨av, kv, xs, hcs, ha, hk, hks⟩ := hn.parts
  simp only [List.cons.injEq, and_true] at hcs
  obtain ⟨rfl, rfl, rfl, rfl⟩ := hcs
  obtain ⟨-, a1, p1, rfl, -⟩ := id ha
  obtain ⟨-, a3, p3, rfl, -, -, -, -⟩ := id hk
  obtain ⟨w1, hw1⟩ : ∃ w1, w1 = (w.alloc (.cells #[.string (bs n.name), .slice a1 n.attrs.length p1, .string (bs n.text), .slice a3 n.kids.length p3] 30)).alloc (.cells #[.string ⟨#[]⟩, .string ⟨#[]⟩, .string ⟨#[]⟩] 82) := ⟨_, rfl⟩
  have HF0 : Hid (Fr (fun _ => False) w w1) := by show Fr _ _ _; rw [hw1]; exact ((Fr.refl _ _).alloc _).alloc _
  have HB : Hid (w1.heap[w.heap.size]? = some (.cells #[.string (bs n.name), .slice a1 n.attrs.length p1, .string (bs n.text), .slice a3 n.kids.length p3] 30 (0, 0))) := by show w1.heap[w.heap.size]? = _; rw [hw1]; exact block_old (block_new _ _) _
  have HR : Hid (w1.heap[w.heap.size + 1]? = some (.cells #[.string ⟨#[]⟩, .string ⟨#[]⟩, .string ⟨#[]⟩] 82 (0, 0))) := by show w1.heap[w.heap.size + 1]? = _; rw [hw1]; exact block_new_at (by simp)
  have HZB : Hid ((w1.alloc (.cells #[.string ⟨#[]⟩, .string ⟨#[]⟩, .string ⟨#[]⟩] 82)).heap[w1.heap.size]? = some (.cells #[.string ⟨#[]⟩, .string ⟨#[]⟩, .string ⟨#[]⟩] 82 (0, 0))) := block_new _ _
  have HN := Lib.hid (fun (W : World) (hF : Fr (fun _ => False) w1 W) => And.intro (NodeV.fr (HF0.out.next hF) (fun _ _ h => h) n hn) (fun k (hk : S k) => Nat.lt_of_lt_of_le (hS k hk) (HF0.out.next hF).size))
  have hszw : w.heap.size + 1 < w1.heap.size := by rw [hw1]; simp
  have ln_w : w.heap.size < w1.heap.size := by omega
  have ne_w : ¬ w.heap.size = w1.heap.size := by omega
  have nf_w : ¬ w1.heap.size = w.heap.size := by omega
  have HG := Lib.hid (fun (W : World) (hF : Fr (fun _ => False) w1 W) => show Calls Tryz.prog 156 #[.func (.func 31) #[.agg #[.string (bs n.name), .slice a1 n.attrs.length p1, .string (bs n.text), .slice a3 n.kids.length p3]] #[], .string ⟨#[105, 100]⟩] W (fun e w' => e = .returned (.string (bs (textL n nId))) ∧ Fr (fun _ => False) W w') from text_h (HN.out W hF).1 (HN.out W hF).2 hz nId)
  have HT := Lib.hid (fun (W : World) (hF : Fr (fun _ => False) w1 W) => show Calls Tryz.prog 156 #[.func (.func 31) #[.agg #[.string (bs n.name), .slice a1 n.attrs.length p1, .string (bs n.text), .slice a3 n.kids.length p3]] #[], .string ⟨#[116, 105, 116, 108, 101]⟩] W (fun e w' => e = .returned (.string (bs (textL n nTitle))) ∧ Fr (fun _ => False) W w') from text_h (HN.out W hF).1 (HN.out W hF).2 hz nTitle)
  have x0 := cell_of HB.out (i := 0) (v := .string (bs n.name)) rfl
  have x1 := cell_of HB.out (i := 1) (v := .slice a1 n.attrs.length p1) rfl
  have x2 := cell_of HB.out (i := 2) (v := .string (bs n.text)) rfl
  have x3 := cell_of HB.out (i := 3) (v := .slice a3 n.kids.length p3) rfl
  have HZn := Lib.hid hz
  have HS1 := Lib.hid hS
  obtain ⟨g, hg⟩ : ∃ g, textL n nId = g := ⟨_, rfl⟩
  obtain ⟨t, ht⟩ : ∃ t, textL n nTitle = t := ⟨_, rfl⟩
  have HI1 := Lib.hid (show atomI n = ⟨g, t, hrefL n⟩ by rw [← hg, ← ht]; rfl)
  rw [hg] at HG
  rw [ht] at HT
  clear hn ha hk hks hS hz hg ht
  go_enter Tryz.func123, Tryz.ntmps123
  go_upto_region 1 with fail
  rw [← hw1]
  clear hw1
  go_cut [3] (fun s3 wx => ∃ xb, s3 = .pointer (some ⟨xb, 0, none⟩) ∧ wx.heap[xb]? = some (.cells #[.string (bs g), .string (bs t), .string ⟨#[]⟩] 82 (0, 0)) ∧ w1.heap.size ≤ xb ∧ Fr (fun _ => False) w1 wx)
  case first =>
    go_region_held3 (fun w' => w'.cell? ⟨w.heap.size, 0, none⟩ = some (.string (bs n.name)) ∧ w'.cell? ⟨w.heap.size, 1, none⟩ = some (.slice a1 n.attrs.length p1) ∧ w'.cell? ⟨w.heap.size, 2, none⟩ = some (.string (bs n.text)) ∧ w'.cell? ⟨w.heap.size, 3, none⟩ = some (.slice a3 n.kids.length p3))
      (first | go_keep | (with_reducible exact ⟨s0_fi, s1_fi, s2_fi, s3_fi⟩) | (with_reducible exact ⟨s0_ft, s1_ft, s2_ft, s3_ft⟩) | fail)
      (first
        | (go_at_call 156; (with_reducible refine Calls.mono (HG.out _ (by repeat (first | exact Fr.refl _ _ | exact fi | exact ft | refine Fr.drew ?_ | refine Fr.alloc ?_ _))) ?_); rintro e w_fi ⟨rfl, hq⟩; have fi := (show Fr (fun _ => False) w1 _ by repeat (first | exact Fr.refl _ _ | exact ft | refine Fr.drew ?_ | refine Fr.alloc ?_ _)).next hq; (first | (have hzb := hq.keep hzb (fun h => h)) | (have hzb := hq.keep (block_new w_ft (.cells #[.string ⟨#[]⟩, .string ⟨#[]⟩, .string ⟨#[]⟩] 82)) (fun h => h)) | (have hzb := (show Fr (fun _ => False) (w1.alloc (.cells #[.string ⟨#[]⟩, .string ⟨#[]⟩, .string ⟨#[]⟩] 82)) _ from hq.start rfl rfl rfl rfl).keep HZB.out (fun h => h)) | skip); (try (have u0 := free_of 0 hzb; have u1 := free_of 1 hzb; have u2 := free_of 2 hzb; have z0 := cell_of hzb (i := 0) (v := .string ⟨#[]⟩) rfl; have z1 := cell_of hzb (i := 1) (v := .string ⟨#[]⟩) rfl; have z2 := cell_of hzb (i := 2) (v := .string ⟨#[]⟩) rfl; have ul := lt_of_block hzb)); have hs_fi := fi.size; have s0_fi := fi.cell x0 (fun h => h); have s1_fi := fi.cell x1 (fun h => h); have s2_fi := fi.cell x2 (fun h => h); have s3_fi := fi.cell x3 (fun h => h); have ln_fi : w.heap.size < w_fi.heap.size := (by omega); have ne_fi : ¬ w.heap.size = w_fi.heap.size := (by omega); have nf_fi : ¬ w_fi.heap.size = w.heap.size := (by omega); clear hq)
        | (go_at_call 156; (with_reducible refine Calls.mono (HT.out _ (by repeat (first | exact Fr.refl _ _ | exact fi | exact ft | refine Fr.drew ?_ | refine Fr.alloc ?_ _))) ?_); rintro e w_ft ⟨rfl, hq⟩; have ft := (show Fr (fun _ => False) w1 _ by repeat (first | exact Fr.refl _ _ | exact fi | refine Fr.drew ?_ | refine Fr.alloc ?_ _)).next hq; (first | (have hzb := hq.keep hzb (fun h => h)) | (have hzb := hq.keep (block_new w_fi (.cells #[.string ⟨#[]⟩, .string ⟨#[]⟩, .string ⟨#[]⟩] 82)) (fun h => h)) | (have hzb := (show Fr (fun _ => False) (w1.alloc (.cells #[.string ⟨#[]⟩, .string ⟨#[]⟩, .string ⟨#[]⟩] 82)) _ from hq.start rfl rfl rfl rfl).keep HZB.out (fun h => h)) | skip); (try (have u0 := free_of 0 hzb; have u1 := free_of 1 hzb; have u2 := free_of 2 hzb; have z0 := cell_of hzb (i := 0) (v := .string ⟨#[]⟩) rfl; have z1 := cell_of hzb (i := 1) (v := .string ⟨#[]⟩) rfl; have z2 := cell_of hzb (i := 2) (v := .string ⟨#[]⟩) rfl; have ul := lt_of_block hzb)); have hs_ft := ft.size; have s0_ft := ft.cell x0 (fun h => h); have s1_ft := ft.cell x1 (fun h => h); have s2_ft := ft.cell x2 (fun h => h); have s3_ft := ft.cell x3 (fun h => h); have ln_ft : w.heap.size < w_ft.heap.size := (by omega); have ne_ft : ¬ w.heap.size = w_ft.heap.size := (by omega); have nf_ft : ¬ w_ft.heap.size = w.heap.size := (by omega); clear hq)
        | fail)
    all_goals
      go_wp2_with fail
      go_meet
      first
        | exact ⟨_, rfl, block_set3 hzb, (by omega), ft.trans (fr_set3 _ _ _ _ _) fun k e => .inr (by omega)⟩
        | exact ⟨_, rfl, block_new _ _, (by omega), ft.alloc _⟩
  case rest =>
    obtain ⟨xb, rfl, hxb, hge, hF⟩ := hcut
    have HX := Lib.hid hxb
    have HF := Lib.hid hF
    have hsz2 := hF.size
    have HAll := Lib.hid (all_h (HN.out _ hF).1 (HN.out _ hF).2 (Nat.le_trans (nsz_kids n) HZn.out) nLink)
    have hb2 := hF.keep HB.out (fun h => h)
    clear x0 x1 x2 x3
    have x0 := cell_of hb2 (i := 0) (v := .string (bs n.name)) rfl
    have x1 := cell_of hb2 (i := 1) (v := .slice a1 n.attrs.length p1) rfl
    have x2 := cell_of hb2 (i := 2) (v := .string (bs n.text)) rfl
    have x3 := cell_of hb2 (i := 3) (v := .slice a3 n.kids.length p3) rfl
    obtain ⟨al, hal⟩ : ∃ al, allN n nLink = al := ⟨_, rfl⟩
    have hall : al.length ≤ 1000000 := by rw [← hal]; exact Nat.le_trans (List.length_filter_le _ _) (Nat.le_trans (nsz_kids n) HZn.out)
    have HZa := Lib.hid (fun x (hx : x ∈ al) => Nat.le_trans (nsz_all (n := n) (nm := nLink) (show x ∈ allL n nLink from by show x ∈ allN n nLink; rw [hal]; exact hx)) HZn.out)
    have HH := Lib.hid (show hrefL n = match al.find? meantB with | none => [] | some k => shortL ((attrN k nHref).getD []) by rw [← hal]; rfl)
    clear hxb hF hb2
    go_wp2_with fail
    refine Calls.mono HAll.out ?_
    rw [hal]
    clear hal
    rintro e w4 ⟨a4, c4, axs, rfl, har, hav, hF4⟩
    have HF4 := Lib.hid hF4
    have HA := Lib.hid (And.intro har hav)
    have hsz4 := hF4.size
    obtain ⟨aln, haln⟩ : ∃ aln, al.length = aln := ⟨_, rfl⟩
    rw [haln] at har hall ⊢
    have HAN := Lib.hid haln
    clear har hav hF4 haln x0 x1 x2 x3
    go_wp2_with fail
    go_loopg [20] aln (fun j v20 w' => ∃ k W, W = w' ∧ k + j = aln ∧ v20 = .int .i64 (k : Nat) ∧ Hid (LinkTo al k ∧ Fr (fun _ => False) w4 W))
    case atStart => exact ⟨0, _, rfl, by omega, rfl, LinkTo.start al, Fr.refl _ _⟩
    case round =>
      obtain ⟨k, W, rfl, hkj, rfl, HI⟩ := hrel
      have HFW := Lib.hid (HF.out.next (HF4.out.next HI.out.2))
      have HXW := Lib.hid ((HF4.out.next HI.out.2).keep HX.out (fun h => h))
      have HRW := Lib.hid (HFW.out.keep HR.out (fun h => h))
      by_cases hlt : k < aln
      · obtain ⟨x, hx⟩ : ∃ x, al[k]? = some x := ⟨_, List.getElem?_eq_getElem (by rw [HAN.out]; exact hlt)⟩
        obtain ⟨q, off, rfl, hc⟩ := (HA.out.1.fr HI.out.2 fun _ _ h => h).cell (by have := HAN.out; omega)
        obtain ⟨y1, y2, y3, y4, y5, y6, hyv, q0, q1, q2, q3⟩ := kid_cells hc (KidsV.fr HI.out.2 (fun _ _ h => h) al HA.out.2) hx
        have HKj := Lib.hid (And.intro hkj hx)
        have hxz := HZa.out x (List.mem_of_getElem? hx)
        have HAt := Lib.hid (fun (W2 : World) (hF : Fr (fun _ => False) W W2) => attr_at_h (n := x) (NodeV.fr hF (fun _ _ h => h) x hyv) (Nat.le_trans (nsz_attrs x) hxz))
        have hbx := block_new W (.cells #[.string (bs x.name), .slice y1 y2 y3, .string (bs x.text), .slice y4 y5 y6] 30)
        have HBx := Lib.hid hbx
        have hFb : Fr (fun _ => False) W (W.alloc (.cells #[.string (bs x.name), .slice y1 y2 y3, .string (bs x.text), .slice y4 y5 y6] 30)) := (Fr.refl _ _).alloc _
        have HFb := Lib.hid hFb
        have HZx := Lib.hid hxz
        have w0' := cell_of hbx (i := 0) (v := .string (bs x.name)) rfl
        have w1' := cell_of hbx (i := 1) (v := .slice y1 y2 y3) rfl
        have w2' := cell_of hbx (i := 2) (v := .string (bs x.text)) rfl
        have w3' := cell_of hbx (i := 3) (v := .slice y4 y5 y6) rfl
        have wl' := lt_of_block hbx
        clear hkj hx hc hyv hbx hFb hxz
        go_wp2_with fail
        refine Calls.mono (HAt.out _ HFb.out nRel) ?_
        rintro e w5 ⟨rfl, hF5⟩
        have HF5 := Lib.hid (HFb.out.next hF5)
        have hbx5 := hF5.keep HBx.out (fun h => h)
        clear q0 q1 q2 q3 w0' w1' w2' w3' wl' hF5
        cases hm : meantB x with
        | false =>
          have HNx := Lib.hid (HI.out.1.step HKj.out.2 hm)
          obtain ⟨r, hr, hra⟩ : ∃ r, attrO x nRel = some r ∧ r ≠ nAlt := by
            unfold meantB at hm
            cases ho : attrN x nRel with
            | none => rw [ho] at hm; cases hm
            | some r => rw [ho] at hm; exact ⟨r, ho, by simpa using hm⟩
          have t1 : ((bs r).toList == [97, 108, 116, 101, 114, 110, 97, 116, 101]) = false := by rw [bs_toList]; exact beq_eq_false_iff_ne.2 hra
          have t2 : decide (bs r = ⟨#[97, 108, 116, 101, 114, 110, 97, 116, 101]⟩) = false := decide_eq_false fun e => hra (bs_inj e)
          rw [hr]
          clear hm hr hra hbx5
          go_wp2_with fail
          go_roundg (aln - (k + 1))
          case measure => have := HKj.out.1; omega
          case rel => exact ⟨k + 1, _, rfl, by have := HKj.out.1; omega, by go_num, HNx.out, HI.out.2.next HF5.out⟩
        | true =>
          have HHr := Lib.hid (show hrefL n = shortL ((attrN x nHref).getD []) by rw [HH.out, HI.out.1.hit HKj.out.2 hm])
          have w0' := cell_of hbx5 (i := 0) (v := .string (bs x.name)) rfl
          have w1' := cell_of hbx5 (i := 1) (v := .slice y1 y2 y3) rfl
          have w2' := cell_of hbx5 (i := 2) (v := .string (bs x.text)) rfl
          have w3' := cell_of hbx5 (i := 3) (v := .slice y4 y5 y6) rfl
          have wl' := lt_of_block hbx5
          have HAt2 := Lib.hid (HAt.out _ HF5.out nHref)
          obtain ⟨hr, hhr⟩ : ∃ hr, (attrO x nHref).getD [] = hr := ⟨_, rfl⟩
          have hhl : hr.length ≤ 100000000 := by
            rw [← hhr]
            cases ho : attrO x nHref with
            | none => exact Nat.zero_le _
            | some v => exact Nat.le_trans (nsz_attr (n := x) (nm := nHref) ho) (Nat.le_trans HZx.out (by decide))
          have HSh := Lib.hid (fun (W : World) => short_h (w := W) hr hhl)
          have HHr2 := Lib.hid (show hrefL n = shortL hr by rw [← hhr]; exact HHr.out)
          have HHh := Lib.hid hhr
          have hoo : (attrO x nRel = none) ∨ (attrO x nRel = some nAlt) := by
            unfold meantB at hm
            cases ho : attrN x nRel with
            | none => exact .inl ho
            | some r =>
              rw [ho] at hm
              have h2 : r = nAlt := by simpa using hm
              exact .inr (by rw [← h2]; exact ho)
          clear hm hbx5 hhr hhl
          have ta1 : ((bs nAlt).toList == [97, 108, 116, 101, 114, 110, 97, 116, 101]) = true := by rw [bs_toList]; rfl
          have ta2 : decide (bs nAlt = ⟨#[97, 108, 116, 101, 114, 110, 97, 116, 101]⟩) = true := decide_eq_true rfl
          rcases hoo with hoo | hoo
          all_goals
            rw [hoo]
            clear hoo
            go_wp2_with fail
            refine Calls.mono HAt2.out ?_
            rintro e w6 ⟨rfl, hF6⟩
            have HF6 := Lib.hid (HF5.out.next hF6)
            rw [HHh.out]
            clear w0' w1' w2' w3' wl' hF6
            go_wp2_with fail
            refine Calls.mono (HSh.out _) ?_
            rintro e w7 ⟨rfl, hF7⟩
            have HF7 := Lib.hid (HF6.out.next hF7)
            have HX7 := Lib.hid (HF7.out.keep HXW.out (fun h => h))
            have HR7 := Lib.hid (HF7.out.keep HRW.out (fun h => h))
            have b0 := cell_of HX7.out (i := 0) (v := .string (bs g)) rfl
            have b1 := cell_of HX7.out (i := 1) (v := .string (bs t)) rfl
            have b2 := cell_of HX7.out (i := 2) (v := .string ⟨#[]⟩) rfl
            have f2 := free_of 2 HX7.out
            have rc0 := cell_of HR7.out (i := 0) (v := .string ⟨#[]⟩) rfl
            have rc1 := cell_of HR7.out (i := 1) (v := .string ⟨#[]⟩) rfl
            have rc2 := cell_of HR7.out (i := 2) (v := .string ⟨#[]⟩) rfl
            have r0 := free_of 0 HR7.out
            have r1 := free_of 1 HR7.out
            have r2 := free_of 2 HR7.out
            have rl := lt_of_block HR7.out
            have bl := lt_of_block HX7.out
            clear hF7
            obtain ⟨lk, hlk⟩ : ∃ lk, shortL hr = lk := ⟨_, rfl⟩
            rw [hlk]
            have HE := Lib.hid (show atomI n = ⟨g, t, lk⟩ by rw [HI1.out, HHr2.out, hlk])
            clear hlk
            go_wp2_with fail
            have hR3 := (fr_set w7 xb 2 (.string (bs lk))).keep HR7.out (by show ¬ _ = _; omega)
            have hz := block_set3 (a := .string (bs g)) (b := .string (bs t)) (c := .string (bs lk)) hR3
            have e0 := cell_of hz (i := 0) (v := .string (bs g)) rfl
            have e1 := cell_of hz (i := 1) (v := .string (bs t)) rfl
            have e2 := cell_of hz (i := 2) (v := .string (bs lk)) rfl
            refine bodyPost_ret (v := .agg #[.string (bs g), .string (bs t), .string (bs lk)]) (by simp [results, Tryz.results123, go_sem, e0, e1, e2] <;> rfl) rfl ?_
            refine ⟨by rw [HE.out] <;> rfl, ?_⟩
            exact fr_onef (fr_onef (HF0.out.next (HFW.out.next HF7.out)) (fr_set _ _ _ _) (by omega)) (fr_set3 _ _ _ _ _) (by omega)
      · have HE := Lib.hid (show atomI n = ⟨g, t, []⟩ by rw [HI1.out, HH.out, HI.out.1.done (by rw [HAN.out]; omega)])
        have hke : aln = k := by omega
        have b0 := cell_of HXW.out (i := 0) (v := .string (bs g)) rfl
        have b1 := cell_of HXW.out (i := 1) (v := .string (bs t)) rfl
        have b2 := cell_of HXW.out (i := 2) (v := .string ⟨#[]⟩) rfl
        have rc0 := cell_of HRW.out (i := 0) (v := .string ⟨#[]⟩) rfl
        have rc1 := cell_of HRW.out (i := 1) (v := .string ⟨#[]⟩) rfl
        have rc2 := cell_of HRW.out (i := 2) (v := .string ⟨#[]⟩) rfl
        have r0 := free_of 0 HRW.out
        have r1 := free_of 1 HRW.out
        have r2 := free_of 2 HRW.out
        have rl := lt_of_block HRW.out
        have bl := lt_of_block HXW.out
        clear hkj hlt
        subst hke
        go_wp2_with fail
        have hz := block_set3 (a := .string (bs g)) (b := .string (bs t)) (c := .string ⟨#[]⟩) HRW.out
        have e0 := cell_of hz (i := 0) (v := .string (bs g)) rfl
        have e1 := cell_of hz (i := 1) (v := .string (bs t)) rfl
        have e2 := cell_of hz (i := 2) (v := .string ⟨#[]⟩) rfl
        refine bodyPost_ret (v := .agg #[.string (bs g), .string (bs t), .string ⟨#[]⟩]) (by simp [results, Tryz.results123, go_sem, e0, e1, e2] <;> rfl) rfl ?_
        exact ⟨by rw [HE.out] <;> rfl, fr_onef (HF0.out.next HFW.out) (fr_set3 _ _ _ _ _) (by omega)⟩
end Go.Proofs.YtpinjgdnhbogoaaGreatDoor
