/- The reference's short, text, href, with, Right: walked. -/
import Derived.Test.YtpinjgdnhbogoaaGreatDoorFW1
import Derived.Test.YtpinjgdnhbogoaaGreatDoorO2
import Derived.Deep.RegionLaw
import Derived.Deep.RegionHeld3
import Derived.Test.YtpinjgdnhbogoaaGreatDoorFW3
import Derived.Test.YtpinjgdnhbogoaaGreatDoorFW6
namespace Go.Proofs.YtpinjgdnhbogoaaGreatDoor
open Go.RowKit Go.Lib

set_option maxHeartbeats 2000000 in
theorem rshort_h {w : World} (s : Str) (hs : s.length ≤ 1000000) : Calls Tryz.prog 158 #[.string (bs s)] w fun e w' => e = .returned (.string (bs (shortL s))) ∧ Fr (fun _ => False) w w' := by
  have HS := Lib.hid (rsqueeze_h (w := w) s hs)
  obtain ⟨q, hq⟩ : ∃ q, squeezeL s = q := ⟨_, rfl⟩
  rw [hq] at HS
  have hqz : (bs q).size = q.length := rfl
  by_cases hl : 200 < q.length
  · have HE : Hid (shortL s = []) := by show shortL s = []; unfold shortL; rw [hq, if_pos hl]
    have hi : (200 : Int) < (q.length : Int) := by omega
    clear hl hq
    go_enter Tryz.func158, Tryz.ntmps158
    go_wp2_with fail
    refine Calls.mono HS.out ?_
    rintro e w1 ⟨rfl, hF⟩
    have HF := Lib.hid hF
    clear hF
    go_wp2_with fail
    go_ret
    exact ⟨by rw [HE.out] <;> rfl, HF.out⟩
  · have HE : Hid (shortL s = q) := by show shortL s = q; unfold shortL; rw [hq, if_neg hl]
    have hi : ¬ (200 : Int) < (q.length : Int) := by omega
    clear hl hq
    go_enter Tryz.func158, Tryz.ntmps158
    go_wp2_with fail
    refine Calls.mono HS.out ?_
    rintro e w1 ⟨rfl, hF⟩
    have HF := Lib.hid hF
    clear hF
    go_wp2_with fail
    go_ret
    exact ⟨by rw [HE.out] <;> rfl, HF.out⟩
/-- the first of some kids, in memory -/
theorem kids_head {w : World} {S S2 : Nat → Prop} {a : Option Addr} {cap n : Nat} {k : NodeD} {l : List NodeD} {xs : List Value} (hr : SRow w S 4 (.slice a n cap) n xs) (hn : (k :: l).length = n) (hk : KidsV w S2 (k :: l) xs) :
    ∃ g off c0 c1 c2 c3, a = some ⟨g, off, none⟩ ∧ NodeV w S2 k [c0, c1, c2, c3] ∧ w.cell? ⟨g, off, none⟩ = some c0 ∧ w.cell? ⟨g, off + 1, none⟩ = some c1 ∧ w.cell? ⟨g, off + 2, none⟩ = some c2 ∧ w.cell? ⟨g, off + 3, none⟩ = some c3 := by
  obtain ⟨g, off, h1, h2⟩ := hr.cell (by rw [← hn]; simp)
  obtain ⟨ys, zs, rfl, h3, _⟩ := KidsV.cons.1 hk
  match ys, h3.len, h3 with
  | [c0, c1, c2, c3], _, h3 => exact ⟨g, off, c0, c1, c2, c3, h1, h3, by have := h2 0 c0 rfl; rwa [Nat.add_zero] at this, h2 1 c1 rfl, h2 2 c2 rfl, h2 3 c3 rfl⟩
set_option maxHeartbeats 4000000 in
theorem rtext_h {w : World} {S : Nat → Prop} {n : NodeD} {c0 c1 c2 c3 : Value} (hn : NodeV w S n [c0, c1, c2, c3]) (hS : ∀ k, S k → k < w.heap.size) (hz : nszN n ≤ 1000000) (nm : Str) :
    Calls Tryz.prog 125 #[.agg #[c0, c1, c2, c3], .string (bs nm)] w fun e w' => e = .returned (.string (bs (textL n nm))) ∧ Fr (fun _ => False) w w' := by
  obtain ⟨av, kv, xs, hcs, ha, hkr, hks⟩ := id hn.parts
  simp only [List.cons.injEq, and_true] at hcs
  obtain ⟨rfl, rfl, rfl, rfl⟩ := hcs
  obtain ⟨-, a1, p1, rfl, -⟩ := id ha
  obtain ⟨-, a3, p3, rfl, -, -, -, -⟩ := id hkr
  have hF0 : Fr (fun _ => False) w (w.alloc (.cells #[.string (bs n.name), .slice a1 n.attrs.length p1, .string (bs n.text), .slice a3 n.kids.length p3] 37)) := (Fr.refl _ _).alloc _
  have hB0 := block_new w (.cells #[.string (bs n.name), .slice a1 n.attrs.length p1, .string (bs n.text), .slice a3 n.kids.length p3] 37)
  have HA := Lib.hid (rall_h (w := w.alloc (.cells #[.string (bs n.name), .slice a1 n.attrs.length p1, .string (bs n.text), .slice a3 n.kids.length p3] 37)) (NodeV.fr hF0 (fun _ _ h => h) n hn) (fun k hk => Nat.lt_of_lt_of_le (hS k hk) hF0.size) (Nat.le_trans (nsz_kids n) hz) nm)
  have HF0 := Lib.hid hF0
  have x0 := cell_of hB0 (i := 0) (v := .string (bs n.name)) rfl
  have x1 := cell_of hB0 (i := 1) (v := .slice a1 n.attrs.length p1) rfl
  have x2 := cell_of hB0 (i := 2) (v := .string (bs n.text)) rfl
  have x3 := cell_of hB0 (i := 3) (v := .slice a3 n.kids.length p3) rfl
  have HZ := Lib.hid hz
  clear hF0 hB0 hn hS hz ha hkr hks
  cases hal : allN n nm with
  | nil =>
    have HE := Lib.hid (show textL n nm = [] from text_none hal)
    rw [hal] at HA
    clear hal
    go_enter Tryz.func125, Tryz.ntmps125
    go_wp2_with fail
    refine Calls.mono HA.out ?_
    rintro e w1 ⟨b, c, ys, rfl, -, -, hF⟩
    have h0 : ([] : List NodeD).length = 0 := rfl
    rw [h0]
    have HF1 := Lib.hid (HF0.out.next hF)
    clear hF h0 x0 x1 x2 x3
    go_wp2_with fail
    go_ret
    exact ⟨by rw [HE.out] <;> rfl, HF1.out⟩
  | cons k l =>
    have HE := Lib.hid (show textL n nm = shortL k.text from text_kid hal)
    have hkm : k ∈ allL n nm := by show k ∈ allN n nm; rw [hal]; exact List.mem_cons_self ..
    have HSh := Lib.hid (fun (W : World) => rshort_h (w := W) k.text (Nat.le_trans (nsz_text k) (Nat.le_trans (nsz_all hkm) HZ.out)))
    rw [hal] at HA
    clear hal hkm
    go_enter Tryz.func125, Tryz.ntmps125
    go_wp2_with fail
    refine Calls.mono HA.out ?_
    rintro e w1 ⟨b, c, ys, rfl, hr, hkv, hF⟩
    obtain ⟨m, hm⟩ : ∃ m, (k :: l).length = m := ⟨_, rfl⟩
    rw [hm] at hr ⊢
    obtain ⟨g, off, d0, d1, d2, d3, rfl, hnk, q0, q1, q2, q3⟩ := kids_head hr hm hkv
    obtain ⟨_, _, _, hcs, _⟩ := hnk.parts
    simp only [List.cons.injEq, and_true] at hcs
    obtain ⟨rfl, rfl, rfl, rfl⟩ := hcs
    have hm0 : 0 < m := by rw [← hm]; simp
    have tm : ((m : Int) == 0) = false := by rw [beq_eq_false_iff_ne]; omega
    have HF1 := Lib.hid (HF0.out.next hF)
    clear hF x0 x1 x2 x3 hr hkv hnk hm q0 q1 q3
    go_wp2_with fail
    refine Calls.mono (HSh.out _) ?_
    rintro e w2 ⟨rfl, hF⟩
    have HF2 := Lib.hid (HF1.out.next hF)
    clear hF
    go_wp2_with fail
    go_ret
    exact ⟨by rw [HE.out] <;> rfl, HF2.out⟩
end Go.Proofs.YtpinjgdnhbogoaaGreatDoor

/- The reference's href, with: walked. -/
namespace Go.Proofs.YtpinjgdnhbogoaaGreatDoor
open Go.RowKit Go.Lib

set_option maxRecDepth 100000 in
set_option maxHeartbeats 8000000 in
theorem rhref_h {w : World} {S : Nat → Prop} {n : NodeD} {c0 c1 c2 c3 : Value} (hn : NodeV w S n [c0, c1, c2, c3]) (hS : ∀ k, S k → k < w.heap.size) (hz : nszN n ≤ 1000000) :
    Calls Tryz.prog 127 #[.agg #[c0, c1, c2, c3]] w fun e w' => e = .returned (.string (bs (hrefL n))) ∧ Fr (fun _ => False) w w' := by
  obtain ⟨av, kv, xs, hcs, ha, hkr, hks⟩ := id hn.parts
  simp only [List.cons.injEq, and_true] at hcs
  obtain ⟨rfl, rfl, rfl, rfl⟩ := hcs
  obtain ⟨-, a1, p1, rfl, -⟩ := id ha
  obtain ⟨-, a3, p3, rfl, -, -, -, -⟩ := id hkr
  have hF0 : Fr (fun _ => False) w (w.alloc (.cells #[.string (bs n.name), .slice a1 n.attrs.length p1, .string (bs n.text), .slice a3 n.kids.length p3] 37)) := (Fr.refl _ _).alloc _
  have hB0 := block_new w (.cells #[.string (bs n.name), .slice a1 n.attrs.length p1, .string (bs n.text), .slice a3 n.kids.length p3] 37)
  have HAll := Lib.hid (show Calls Tryz.prog 45 #[.agg #[.string (bs n.name), .slice a1 n.attrs.length p1, .string (bs n.text), .slice a3 n.kids.length p3], .string ⟨#[108, 105, 110, 107]⟩] (w.alloc (.cells #[.string (bs n.name), .slice a1 n.attrs.length p1, .string (bs n.text), .slice a3 n.kids.length p3] 37)) (AllPost S (allN n nLink) (w.alloc (.cells #[.string (bs n.name), .slice a1 n.attrs.length p1, .string (bs n.text), .slice a3 n.kids.length p3] 37))) from rall_h (NodeV.fr hF0 (fun _ _ h => h) n hn) (fun k hk => Nat.lt_of_lt_of_le (hS k hk) hF0.size) (Nat.le_trans (nsz_kids n) hz) nLink)
  have HF0 := Lib.hid hF0
  have x0 := cell_of hB0 (i := 0) (v := .string (bs n.name)) rfl
  have x1 := cell_of hB0 (i := 1) (v := .slice a1 n.attrs.length p1) rfl
  have x2 := cell_of hB0 (i := 2) (v := .string (bs n.text)) rfl
  have x3 := cell_of hB0 (i := 3) (v := .slice a3 n.kids.length p3) rfl
  obtain ⟨al, hal⟩ : ∃ al, allN n nLink = al := ⟨_, rfl⟩
  have hall : al.length ≤ 1000000 := by rw [← hal]; exact Nat.le_trans (List.length_filter_le _ _) (Nat.le_trans (nsz_kids n) hz)
  have HZa := Lib.hid (fun x (hx : x ∈ al) => Nat.le_trans (nsz_all (n := n) (nm := nLink) (show x ∈ allL n nLink from by show x ∈ allN n nLink; rw [hal]; exact hx)) hz)
  have HH := Lib.hid (show hrefL n = match al.find? meantB with | none => [] | some k => shortL ((attrN k nHref).getD []) by rw [← hal]; rfl)
  rw [hal] at HAll
  clear hF0 hB0 hn hS hz ha hkr hks hal
  go_enter Tryz.func127, Tryz.ntmps127
  go_wp2_with fail
  refine Calls.mono HAll.out ?_
  rintro e w4 ⟨a4, c4, axs, rfl, har, hav, hF4⟩
  have HF4 := Lib.hid (HF0.out.next hF4)
  have HA := Lib.hid (And.intro har hav)
  obtain ⟨aln, haln⟩ : ∃ aln, al.length = aln := ⟨_, rfl⟩
  rw [haln] at har hall ⊢
  have HAN := Lib.hid haln
  clear har hav hF4 haln x0 x1 x2 x3
  go_wp2_with fail
  go_loopg [4] aln (fun j v4 w' => ∃ k W, W = w' ∧ k + j = aln ∧ v4 = .int .i64 (k : Nat) ∧ Hid (LinkTo al k ∧ Fr (fun _ => False) w4 W))
  case atStart => exact ⟨0, _, rfl, by omega, rfl, LinkTo.start al, Fr.refl _ _⟩
  case round =>
    obtain ⟨k, W, rfl, hkj, rfl, HI⟩ := hrel
    by_cases hlt : k < aln
    · obtain ⟨x, hx⟩ : ∃ x, al[k]? = some x := ⟨_, List.getElem?_eq_getElem (by rw [HAN.out]; exact hlt)⟩
      obtain ⟨q, off, rfl, hc⟩ := (HA.out.1.fr HI.out.2 fun _ _ h => h).cell (by have := HAN.out; omega)
      obtain ⟨y1, y2, y3, y4, y5, y6, hyv, q0, q1, q2, q3⟩ := kid_cells hc (KidsV.fr HI.out.2 (fun _ _ h => h) al HA.out.2) hx
      have HKj := Lib.hid (And.intro hkj hx)
      have hxz := HZa.out x (List.mem_of_getElem? hx)
      have HAt := Lib.hid (fun (W2 : World) (hF : Fr (fun _ => False) W W2) => rattr_at_h (n := x) (NodeV.fr hF (fun _ _ h => h) x hyv) (Nat.le_trans (nsz_attrs x) hxz))
      have HAr := Lib.hid (show Calls Tryz.prog 47 #[.agg #[.string (bs x.name), .slice y1 y2 y3, .string (bs x.text), .slice y4 y5 y6], .string ⟨#[114, 101, 108]⟩] W (AtPost (attrO x nRel) W) from HAt.out W (Fr.refl _ _) nRel)
      have HZx := Lib.hid hxz
      clear hkj hx hc hyv hxz
      cases hm : meantB x with
      | false =>
        have HNx := Lib.hid (HI.out.1.step HKj.out.2 hm)
        obtain ⟨r, hr, hra⟩ : ∃ r, attrO x nRel = some r ∧ r ≠ nAlt := by
          unfold meantB at hm
          cases ho : attrN x nRel with
          | none => rw [ho] at hm; cases hm
          | some r => rw [ho] at hm; exact ⟨r, ho, by simpa using hm⟩
        have t1 : ((bs r).toList == [97, 108, 116, 101, 114, 110, 97, 116, 101]) = false := by rw [bs_toList]; exact beq_eq_false_iff_ne.2 hra
        have t2 : decide (bs r = ⟨#[97, 108, 116, 101, 114, 110, 97, 116, 101]⟩) = false := decide_eq_false fun e => hra (bs_inj e)
        rw [hr] at HAr
        clear hm hr hra
        go_wp2_with fail
        refine Calls.mono HAr.out ?_
        rintro e w5 ⟨rfl, hF5⟩
        have HF5 := Lib.hid (HI.out.2.next hF5)
        have hg : ((some r).getD [] : Str) = r := rfl
        have hi : (some r).isSome = true := rfl
        rw [hg, hi]
        clear hF5 hg hi
        go_wp2_with fail
        go_roundg (aln - (k + 1))
        case measure => have := HKj.out.1; omega
        case rel => exact ⟨k + 1, _, rfl, by have := HKj.out.1; omega, by go_num, HNx.out, HF5.out⟩
      | true =>
        have HHr := Lib.hid (show hrefL n = shortL ((attrN x nHref).getD []) by rw [HH.out, HI.out.1.hit HKj.out.2 hm])
        have hhl : ((attrO x nHref).getD []).length ≤ 1000000 := by
          cases ho : attrO x nHref with
          | none => exact Nat.zero_le _
          | some v => exact Nat.le_trans (nsz_attr (n := x) (nm := nHref) ho) HZx.out
        obtain ⟨hr, hhr⟩ : ∃ hr, (attrO x nHref).getD [] = hr := ⟨_, rfl⟩
        rw [hhr] at hhl
        have HSh := Lib.hid (fun (W : World) => rshort_h (w := W) hr hhl)
        have HHr2 := Lib.hid (show hrefL n = shortL hr by rw [← hhr]; exact HHr.out)
        have HHh := Lib.hid hhr
        have hoo : (attrO x nRel = none) ∨ (attrO x nRel = some nAlt) := by
          unfold meantB at hm
          cases ho : attrN x nRel with
          | none => exact .inl ho
          | some r =>
            rw [ho] at hm
            have h2 : r = nAlt := by simpa using hm
            exact .inr (by rw [← h2]; exact ho)
        clear hm hhr hhl
        have ta1 : ((bs nAlt).toList == [97, 108, 116, 101, 114, 110, 97, 116, 101]) = true := by rw [bs_toList]; rfl
        have ta2 : decide (bs nAlt = ⟨#[97, 108, 116, 101, 114, 110, 97, 116, 101]⟩) = true := decide_eq_true rfl
        rcases hoo with hoo | hoo
        all_goals
          rw [hoo] at HAr
          clear hoo
          go_wp2_with fail
          refine Calls.mono HAr.out ?_
          rintro e w5 ⟨rfl, hF5⟩
          have HF5 := Lib.hid (HI.out.2.next hF5)
          have b0 := hF5.cell q0 (fun h => h)
          have b1 := hF5.cell q1 (fun h => h)
          have b2 := hF5.cell q2 (fun h => h)
          have b3 := hF5.cell q3 (fun h => h)
          have HAt2 := Lib.hid (show Calls Tryz.prog 47 #[.agg #[.string (bs x.name), .slice y1 y2 y3, .string (bs x.text), .slice y4 y5 y6], .string ⟨#[104, 114, 101, 102]⟩] w5 (AtPost (attrO x nHref) w5) from HAt.out w5 hF5 nHref)
          clear hF5 q0 q1 q2 q3
          go_wp2_with fail
          refine Calls.mono HAt2.out ?_
          rintro e w6 ⟨rfl, hF6⟩
          have HF6 := Lib.hid (HF5.out.next hF6)
          rw [HHh.out]
          clear hF6
          go_wp2_with fail
          refine Calls.mono (HSh.out _) ?_
          rintro e w7 ⟨rfl, hF7⟩
          have HF7 := Lib.hid (HF6.out.next hF7)
          clear hF7
          go_wp2_with fail
          go_ret
          exact ⟨by rw [HHr2.out] <;> rfl, HF4.out.next HF7.out⟩
    · have HE := Lib.hid (show hrefL n = [] by rw [HH.out, HI.out.1.done (by rw [HAN.out]; omega)])
      have hke : aln = k := by omega
      clear hkj hlt
      subst hke
      go_wp2_with fail
      go_ret
      exact ⟨by rw [HE.out] <;> rfl, HF4.out.next HI.out.2⟩
/-- what with tells -/
def WithPost (B : Nat) (l : List ItemD) (w : World) (e : Ending) (w' : World) : Prop :=
  ∃ b m c, e = .returned (.slice b m c) ∧ l.length = m ∧ w'.ownsRow B 82 3 (.slice b m c) m (icells l) ∧ Fr (fun _ => False) w w'
set_option maxRecDepth 100000 in
set_option maxHeartbeats 8000000 in
theorem rwithI_h {w : World} {B n c : Nat} {a : Option Addr} {l : List ItemD} (h : w.ownsRow B 82 3 (.slice a n c) n (icells l)) (hn : l.length = n) (hB : B ≤ w.heap.size) (hl : n ≤ 100) (x : ItemD) :
    Calls Tryz.prog 126 #[.slice a n c, .agg #[.string (bs x.id), .string (bs x.title), .string (bs x.link)]] w (WithPost B (withL l x) w) := by
  have HB : Hid (B ≤ w.heap.size) := hB
  have hF0 : Fr (fun _ => False) w (w.alloc (.cells #[.string (bs x.id), .string (bs x.title), .string (bs x.link)] 82)) := (Fr.refl _ _).alloc _
  have hb0 := block_new w (.cells #[.string (bs x.id), .string (bs x.title), .string (bs x.link)] 82)
  have HR := Lib.hid (ownsRow_fr h hF0)
  have HF0 := Lib.hid hF0
  have HN := Lib.hid hn
  have x0 := cell_of hb0 (i := 0) (v := .string (bs x.id)) rfl
  have x1 := cell_of hb0 (i := 1) (v := .string (bs x.title)) rfl
  have x2 := cell_of hb0 (i := 2) (v := .string (bs x.link)) rfl
  clear h hB hF0 hb0 hn
  by_cases h0 : x.id = []
  · have t1 : ((bs x.id).toList == []) = true := by rw [bs_toList, h0]; rfl
    have t2 : (bs x.id).toList.isEmpty = true := by rw [bs_toList, h0]; rfl
    have HE := Lib.hid (with_noId (l := l) h0)
    clear h0
    go_enter Tryz.func126, Tryz.ntmps126
    go_wp2_with fail
    go_ret
    rw [HE.out]
    exact ⟨_, _, _, rfl, HN.out, HR.out, HF0.out⟩
  have t1 : ((bs x.id).toList == []) = false := by rw [bs_toList]; exact beq_eq_false_iff_ne.2 h0
  have t2 : (bs x.id).toList.isEmpty = false := by rw [bs_toList]; simpa using h0
  have t3 : decide (bs x.id = ⟨#[]⟩) = false := decide_eq_false fun e => h0 (bs_inj e)
  by_cases hfull : n = 100
  · have hfi : (100 : Int) ≤ (n : Int) := by omega
    have HE := Lib.hid (show withL l x = l by unfold withL; rw [if_pos]; rw [HN.out, hfull]; simp)
    clear h0 hfull
    go_enter Tryz.func126, Tryz.ntmps126
    go_wp2_with fail
    go_ret
    rw [HE.out]
    exact ⟨_, _, _, rfl, HN.out, HR.out, HF0.out⟩
  have hfi : ¬ (100 : Int) ≤ (n : Int) := by omega
  have HNew := Lib.hid (fun (hh : hasI l x.id = false) => with_new (l := l) (x := x) h0 (by rw [HN.out]; omega) hh)
  obtain ⟨i82, hi82, hz82, hs82, hb82⟩ := info_parts info82
  obtain ⟨W1, hW1⟩ : ∃ W1, W1 = w.alloc (.cells #[.string (bs x.id), .string (bs x.title), .string (bs x.link)] 82) := ⟨_, rfl⟩
  have hWs : w.heap.size < W1.heap.size := by rw [hW1]; simp
  clear h0 hfull
  go_enter Tryz.func126, Tryz.ntmps126
  go_wp2_with fail
  rw [← hW1] at HR HF0 x0 x1 x2 ⊢
  clear hW1
  go_loopg [5] n (fun j v5 w' => ∃ W, W = w' ∧ ∃ i p : Nat, i + j = n ∧ v5 = .int .i64 i ∧ W = W1.drewN p ∧ Hid (hasI (l.take i) x.id = false))
  case atStart => exact ⟨_, rfl, 0, 0, by omega, rfl, (World.drewN_zero _).symm, rfl⟩
  case round =>
    obtain ⟨W, rfl, i, p, hi, rfl, rfl, HH⟩ := hrel
    by_cases hlt : i < n
    · obtain ⟨g, off, rfl, hc⟩ := (ItemsV.cells (l := l) (n := n) (by have h := SRow.of_owns HR.out; unfold ItemsV; rw [HN.out]; exact h)) (by have := HN.out; omega)
      obtain ⟨y, hy⟩ : ∃ y, l[i]? = some y := ⟨_, List.getElem?_eq_getElem (by rw [HN.out]; exact hlt)⟩
      obtain ⟨b0, b1, b2⟩ := hc i y hy
      have HX := Lib.hid (And.intro hi hy)
      clear hc hi hy
      by_cases he : y.id = x.id
      · have u1 : ((bs y.id).toList == (bs x.id).toList) = true := by rw [he]; simp
        have HE := Lib.hid (show withL l x = l from with_old (List.any_eq_true.2 ⟨y, List.mem_of_getElem? HX.out.2, by simpa using he⟩))
        clear he
        go_wp2_with fail
        go_big_quiet (fail)
        go_wp2_with fail
        go_ret
        rw [HE.out]
        exact ⟨_, _, _, rfl, HN.out, ownsRow_fr (ownsRow_fr HR.out ((Fr.refl _ _).drewN _)) ((Fr.refl _ _).drewN _), (HF0.out.drewN _).drewN _⟩
      · obtain ⟨u1, u2⟩ := str_eq_f he
        have HNx : Hid (hasI (l.take (i + 1)) x.id = false) := by
          show _ = _
          have h := HH.out
          rw [List.take_add_one, HX.out.2]
          show hasI (l.take i ++ [y]) x.id = false
          rw [has_snoc, h]; simpa using he
        clear he
        go_wp2_with fail
        go_big_quiet (fail)
        go_wp2_with fail
        go_roundg (n - (i + 1))
        case measure => have := HX.out.1; omega
        case rel => exact ⟨_, rfl, i + 1, _, by have := HX.out.1; omega, by go_num, by first | rfl | exact World.drewN_drewN _ _ _, HNx.out⟩
    · have hin : i = n := by omega
      have HE := Lib.hid (HNew.out (by have h := HH.out; rw [hin, ← HN.out, List.take_length] at h; exact h))
      clear hi hlt
      subst hin
      obtain ⟨Wq, hWq⟩ : ∃ Wq, Wq = W1.drewN p := ⟨_, rfl⟩
      have hFq : Fr (fun _ => False) W1 Wq := by rw [hWq]; exact (Fr.refl _ _).drewN _
      have y0 := hFq.cell x0 (fun h => h)
      have y1 := hFq.cell x1 (fun h => h)
      have y2 := hFq.cell x2 (fun h => h)
      have HRq := Lib.hid (ownsRow_fr HR.out hFq)
      have HFq := Lib.hid (HF0.out.next hFq)
      have hBq : B ≤ Wq.heap.size := Nat.le_trans HB.out HFq.out.size
      have hwq : w.heap.size < Wq.heap.size := Nat.lt_of_lt_of_le hWs hFq.size
      clear hFq x0 x1 x2 hWs
      go_wp2_with fail
      rw [← hWq]
      clear hWq
      go_region_law (first
        | (refine step_append_row rfl (.tmp 30) (.tmp 31) 84 rfl Wq.heap.size 82 i82 (.agg #[.string ⟨#[]⟩, .string ⟨#[]⟩, .string ⟨#[]⟩]) 3 48 Tryz.underlying84 hi82 hz82 hs82 hb82 rfl (by decide) (.slice (some ⟨_, 0, none⟩) 0 0) 0 [] rfl (ownsRow_empty (by first | exact block_new_at (by simp) | exact block_old (block_new_at (by simp)) _) (by omega)) _ _ i (icells l) rfl (SRow.of_owns (ownsRow_fr HRq.out (show Fr (fun _ => False) Wq _ by repeat (first | exact Fr.refl _ _ | refine Fr.drew ?_ | refine Fr.alloc ?_ _)))) (fun u hu => icells_one u hu) (by unfold maxLen; omega) (by omega) (by first | omega | (simp <;> omega)) ?_; intro b1 cap1 w2 hrow1 hgrow1 hat1; have hF1 : Fr (fun _ => False) Wq w2 := (show Fr (fun _ => False) Wq _ by repeat (first | exact Fr.refl _ _ | refine Fr.drew ?_ | refine Fr.alloc ?_ _)).trans hat1 (fun k hk => .inr hk); simp only [Nat.zero_add, List.nil_append] at hrow1; have y0 := hF1.cell y0 (fun h => h); have y1 := hF1.cell y1 (fun h => h); have y2 := hF1.cell y2 (fun h => h); have hs2 := hF1.size; have hwq2 : w.heap.size < w2.heap.size := by omega)
        | (refine step_append_row rfl (.tmp 32) (.tmp 34) 84 rfl Wq.heap.size 82 i82 (.agg #[.string ⟨#[]⟩, .string ⟨#[]⟩, .string ⟨#[]⟩]) 3 48 Tryz.underlying84 hi82 hz82 hs82 hb82 rfl (by decide) (.slice b1 i cap1) i _ rfl (by first | exact hrow1 | exact hrow1.alloc _) (fun _ => True) _ 1 (icells [x]) rfl (SRow.of_block (e := 82) (f := (0, 0)) (by first | exact block_new_at (by simp) | (refine block_grown ?_ hgrow1 (by simp [Value.ownBlock]); first | exact block_new_drew (by simp) | exact block_old_drew (block_new_at rfl) _)) rfl (by decide) trivial) (fun u hu => icells_one u hu) (by unfold maxLen; omega) (by omega) (by first | omega | (simp <;> omega)) ?_; intro b2 cap2 w3 hrow2 hgrow2 hat2; have hF2 : Fr (fun _ => False) Wq w3 := (show Fr (fun _ => False) Wq _ by repeat (first | exact hF1 | refine Fr.drew ?_ | refine Fr.alloc ?_ _)).trans hat2 (fun k hk => .inr hk))
        | fail)
      all_goals
        go_wp2_with fail
        go_ret
        rw [HE.out]
        exact ⟨_, _, _, rfl, by rw [List.length_append, HN.out]; rfl, by rw [icells_app]; exact ownsRow_base hrow2 hBq, HFq.out.next hF2⟩
end Go.Proofs.YtpinjgdnhbogoaaGreatDoor
