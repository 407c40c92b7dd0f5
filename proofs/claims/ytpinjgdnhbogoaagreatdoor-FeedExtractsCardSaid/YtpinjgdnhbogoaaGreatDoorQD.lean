/- The reference's Write. -/
import Derived.Test.YtpinjgdnhbogoaaGreatDoorQ4
import Derived.Test.YtpinjgdnhbogoaaGreatDoorM6
import Derived.Test.YtpinjgdnhbogoaaGreatDoorQB
import Derived.Test.YtpinjgdnhbogoaaGreatDoorY4
namespace Go.Proofs.YtpinjgdnhbogoaaGreatDoor
open Go.RowKit Go.Lib

theorem bs_sum (a b : Str) (w : World) (h : a.length + b.length ≤ 100000000) : (Op.stringOp .add (bs a) (bs b)).run Tryz.prog w = .ok (.string (bs (a ++ b))) w := by
  rw [← bs_append]; exact str_add w (by rw [bs_size, bs_size]; exact h)
end Go.Proofs.YtpinjgdnhbogoaaGreatDoor

/- The reference's with and Read, walked. -/
namespace Go.Proofs.YtpinjgdnhbogoaaGreatDoor
open Go.RowKit Go.Lib

set_option maxRecDepth 100000 in
set_option maxHeartbeats 8000000 in
theorem rwith_h {w : World} {B cap : Nat} {a : Option Addr} {l : List TokD} (words : Str) (h : RToks B w (.slice a l.length cap) l) (hB : B ≤ w.heap.size) (hl : l.length ≤ 1000000) :
    Calls Tryz.prog 86 #[.slice a l.length cap, .string (bs words)] w fun e w' => ∃ b c, e = .returned (.slice b (flushL l words).length c) ∧ RToks B w' (.slice b (flushL l words).length c) (flushL l words) ∧ Fr (fun _ => False) w w' := by
  have H := Lib.hid h
  clear h
  by_cases h0 : words = []
  · subst h0
    have hnb : bs ([] : Str) = ⟨#[]⟩ := rfl
    rw [hnb]
    go_enter Tryz.func86, Tryz.ntmps86
    go_wp2_with fail
    go_ret
    exact ⟨a, cap, rfl, H.out, Fr.refl _ _⟩
  have tn : ((bs words).toList == []) = false := by rw [bs_toList]; exact beq_eq_false_iff_ne.2 h0
  have tn2 : decide (bs words = ⟨#[]⟩) = false := decide_eq_false fun e => h0 (bs_inj2 e)
  have tn4 : (bs words).toList.isEmpty = false := by rw [bs_toList]; simpa using h0
  have HFl : Hid (flushL l words = l ++ [⟨3, [], [], words⟩] ∧ (flushL l words).length = l.length + 1) := by
    have e : flushL l words = l ++ [⟨3, [], [], words⟩] := by unfold flushL; rw [if_neg (by simpa using h0)]
    exact ⟨e, by rw [e]; simp⟩
  obtain ⟨i97, hi97, hz97, hs97, hb97⟩ := info_parts info97
  have HF1 : Hid (Fr (fun _ => False) w (w.alloc (.cells #[] 97))) := (Fr.refl _ _).alloc _
  have HE : Hid ((w.alloc (.cells #[] 97)).ownsRow w.heap.size 97 4 (.slice (some ⟨w.heap.size, 0, none⟩) 0 0) 0 []) := ⟨rfl, .inr ⟨_, 0, _, rfl, Nat.le_refl _, block_new _ _, by simp, by decide, rfl, rfl⟩⟩
  obtain ⟨ps, e1, e2, e3⟩ := H.out
  have hpl : ps.length = l.length := by rw [← e1, List.length_map]
  rw [hpl] at e2
  have HP := Lib.hid (And.intro e1 (And.intro e2 e3))
  clear e1 e2 e3 hpl h0
  go_enter Tryz.func86, Tryz.ntmps86
  go_wp2_with (first
    | (at_builtin; refine wpList_append_row rfl (.tmp 8) (.tmp 9) 24 rfl w.heap.size 97 i97 (.agg #[.int .i64 0, .string ⟨#[]⟩, .slice none 0 0, .string ⟨#[]⟩]) 4 64 Tryz.underlying24 hi97 hz97 hs97 hb97 rfl (by decide) (.slice (some ⟨w.heap.size, 0, none⟩) 0 0) 0 [] rfl HE.out (fun k => B ≤ k ∧ k < (w.alloc (.cells #[] 97)).heap.size) _ l.length (tcells ps) rfl ((SRow.of_owns (ownsRow_fr HP.out.2.1 HF1.out)).mono fun k hk => (ownsRow_fr HP.out.2.1 HF1.out).lt k hk) (tcells_oneR HP.out.2.2) (by unfold maxLen; omega) (by omega) HF1.out.size ?_; intro b6 cap6 w6 hown6 hgrow6 _; have HO6 : Hid (w6.ownsRow w.heap.size 97 4 (.slice b6 l.length cap6) l.length (tcells ps)) := (by have h := hown6; rw [Nat.zero_add] at h; exact h); have HF6 : Hid (Fr (fun _ => False) w w6) := HF1.out.grown hgrow6 (fun k hk => .inr (HE.out.lt k hk).1); have HF6b : Hid (Fr (fun _ => False) w6 (w6.alloc (.cells #[.int .i64 3, .string ⟨#[]⟩, .slice none 0 0, .string (bs words)] 97))) := (Fr.refl _ _).alloc _; have HBL : Hid (SRow (w6.alloc (.cells #[.int .i64 3, .string ⟨#[]⟩, .slice none 0 0, .string (bs words)] 97)) (fun _ => True) 4 (.slice (some ⟨w6.heap.size, 0, none⟩) 1 1) 1 (tcells [((⟨3, [], [], words⟩ : TokD), Value.slice none 0 0)])) := SRow.of_block (e := 97) (f := (0, 0)) (block_new w6 _) rfl (by decide) trivial; clear hown6 hgrow6)
    | (at_builtin; refine wpList_append_row rfl (.tmp 10) (.tmp 13) 24 rfl w.heap.size 97 i97 (.agg #[.int .i64 0, .string ⟨#[]⟩, .slice none 0 0, .string ⟨#[]⟩]) 4 64 Tryz.underlying24 hi97 hz97 hs97 hb97 rfl (by decide) (.slice b6 l.length cap6) l.length (tcells ps) rfl (ownsRow_fr HO6.out HF6b.out) (fun _ => True) _ 1 (tcells [((⟨3, [], [], words⟩ : TokD), Value.slice none 0 0)]) rfl HBL.out (by intro u hu; simp [tcells, tc] at hu; rcases hu with rfl | rfl | rfl | rfl <;> rfl) (by unfold maxLen; omega) (by omega) (Nat.le_trans HF6.out.size HF6b.out.size) ?_; intro b7 cap7 w7 hown7 hgrow7 _; have HR7 := Lib.hid (And.intro hown7 hgrow7); clear hown7 hgrow7))
  go_ret
  have hl2 := HFl.out.2
  refine ⟨b7, cap7, by rw [hl2] <;> rfl, ?_, (HF6.out.next HF6b.out).grown HR7.out.2 fun k hk => .inr (HO6.out.lt k hk).1⟩
  have hpl : ps.length = l.length := by rw [← HP.out.1, List.length_map]
  have h7 := RToks.app (B := B) (w := w6.alloc (.cells #[.int .i64 3, .string ⟨#[]⟩, .slice none 0 0, .string (bs words)] 97)) (w7 := w7) (v := .slice b6 l.length cap6) (v2 := .slice b7 (l.length + 1) cap7) (ps := ps) (qs := [((⟨3, [], [], words⟩ : TokD), Value.slice none 0 0)])
    (by rw [hpl]; exact ownsRow_base (ownsRow_fr HO6.out HF6b.out) hB)
    (fun p hp => ownsRow_fr (HP.out.2.2 p hp) (HF6.out.next HF6b.out))
    (fun p hp => by rw [List.mem_singleton] at hp; subst hp; exact World.ownsRow_nil _ _ _ _) HR7.out.2
    (by rw [hpl]; exact ownsRow_base HR7.out.1 hB)
  rw [hl2, HFl.out.1]
  rw [HP.out.1] at h7
  exact h7

/-- the whole answer, in memory -/
def RReadPost (s : Str) (w : World) (e : Ending) (w' : World) : Prop :=
  (∃ v, e = .returned (.tuple #[v, .int .i64 (readD s).2.1, .int .i64 (readD s).2.2]) ∧ RToks w.heap.size w' v (readD s).1) ∧ Fr (fun _ => False) w w'
theorem rread_post {s : Str} {l : List TokD} {a b : Int} {v : Value} {w w' : World} (h : readD s = (l, a, b)) (ht : RToks w.heap.size w' v l) (hf : Fr (fun _ => False) w w') : RReadPost s w (.returned (.tuple #[v, .int .i64 a, .int .i64 b])) w' := by
  unfold RReadPost; rw [h]; exact ⟨⟨v, rfl, ht⟩, hf⟩
theorem readD_no {s : Str} {k : Nat} (hs : s.length ≤ 20000) (h : readL s = .error k) : readD s = ([], 8, (k : Int)) := by rw [readD_short hs, h]
theorem readD_yes {s : Str} {l : List TokD} (hs : s.length ≤ 20000) (h : readL s = .ok l) : readD s = (l, 0, 0) := by rw [readD_short hs, h]
set_option maxRecDepth 100000 in
set_option maxHeartbeats 16000000 in
theorem rread_h {w : World} (s : Str) (hs : s.length ≤ 100000) : Calls Tryz.prog 36 #[.string (bs s)] w (RReadPost s w) := by
  have hsz : (bs s).size = s.length := rfl
  by_cases hbig : 20000 < s.length
  · have HR := Lib.hid (readD_big hbig)
    have hbi : (20000 : Int) < (s.length : Int) := by omega
    clear hbig
    go_enter Tryz.func36, Tryz.ntmps36
    go_wp2_with fail
    go_ret3
    exact rread_post HR.out (RToks.nil _ _) (Fr.refl _ _)
  have hsl : s.length ≤ 20000 := by omega
  have hbi : ¬ (20000 : Int) < (s.length : Int) := by omega
  have HNo := Lib.hid (fun k => readD_no (k := k) hsl)
  have HYes := Lib.hid (fun l => readD_yes (l := l) hsl)
  clear hbig hs
  obtain ⟨i97, hi97, hz97, hs97, hb97⟩ := info_parts info97
  go_enter Tryz.func36, Tryz.ntmps36
  go_wp2_with fail
  go_loopg [5, 6, 7] s.length (fun j v5 v6 v7 w' => ∃ (i : Nat) (l : List TokD) (words : Str) (oa : Option Addr) (oc : Nat) (wr : World), wr = w' ∧ v5 = .slice oa l.length oc ∧ v6 = .string (bs words) ∧ i + j = s.length ∧ v7 = .int .i64 i ∧ Hid (RdTo s l words (s.drop i) ∧ RToks w.heap.size wr (.slice oa l.length oc) l ∧ Fr (fun _ => False) w wr))
  case atStart => exact ⟨0, [], [], none, 0, _, rfl, rfl, rfl, by omega, rfl, by rw [List.drop_zero]; exact RdTo.zero s, RToks.nil _ _, Fr.refl _ _⟩
  case round =>
    obtain ⟨i, l, words, oa, oc, wr, rfl, rfl, rfl, hi, rfl, HI⟩ := hrel
    have hLl := HI.out.1.lenL
    have hLw := HI.out.1.lenW
    rw [List.length_drop] at hLl hLw
    have hl1 : l.length ≤ 60000 := by omega
    have hw1 : words.length ≤ 80000 := by omega
    have hszr := HI.out.2.2.size
    clear hLl hLw
    by_cases hlt : i < s.length
    · have hz : i < (bs s).size := hlt
      have hg := bs_at s i hz
      obtain ⟨c, hc⟩ : ∃ c, s.getD i 0 = c := ⟨_, rfl⟩
      rw [hc] at hg
      have HIm := Lib.hid (And.intro hi (And.intro hlt hc))
      clear hc
      by_cases h60 : c = 60
      · have t60 : ((c.toNat : Int) != 60) = false := by subst h60; rfl
        have t60b : ((c.toNat : Int) == 60) = true := by subst h60; rfl
        have HC := Lib.hid h60
        have hx := bs_drop s i
        have HPt := Lib.hid (fun (W : World) => rpart_h (w := W) (s.drop i) (by rw [List.length_drop]; omega) (by rw [List.length_drop]; omega))
        have hdl : (s.drop i).length = s.length - i := List.length_drop
        obtain ⟨d, hd⟩ : ∃ d, s.drop i = d := ⟨_, rfl⟩
        rw [hd] at HPt hx hdl
        have HDd := Lib.hid hd
        clear hd h60 hi
        go_wp2_with fail
        refine Calls.mono (HPt.out _) ?_
        rintro e w1 ⟨u, toks, n, pa, pc, hRP, rfl, hT, hF⟩
        have HRP := Lib.hid hRP
        have HT := Lib.hid (hT.base hszr)
        have HF1 := Lib.hid (HI.out.2.2.next hF)
        have HO1 := Lib.hid (HI.out.2.1.fr hF)
        have hnl := hRP.le
        have hsz1 := hF.size
        clear hRP hT hF hsz1
        by_cases hn0 : n = 0
        · subst hn0
          have HE := Lib.hid (HNo.out i (HI.out.1.noPart HIm.out.2.1 (HIm.out.2.2.trans HC.out) (by rw [HDd.out]; exact HRP.out.bad)))
          go_wp2_with fail
          go_ret3
          exact rread_post HE.out (RToks.nil _ _) HF1.out
        · have tn0 : ((n : Int) == 0) = false := by rw [beq_eq_false_iff_ne]; omega
          have hn1 : 0 < n := by omega
          obtain ⟨hul, htl⟩ := HRP.out.out hn1
          have hin : i + n ≤ s.length := by omega
          have hsum := fun (w : World) => bs_sum words u w (by omega)
          have HN1 := Lib.hid hn1
          have hszw1 := HF1.out.size
          clear hn0
          by_cases ht0 : toks = []
          · subst ht0
            have HNx := Lib.hid (HI.out.1.quiet HIm.out.2.1 (HIm.out.2.2.trans HC.out) hn1 (by rw [HDd.out]; exact HRP.out))
            clear hn1 hdl hnl hul htl
            go_wp2_with fail
            go_roundg (s.length - (i + n))
            case measure => have := HIm.out.1; have := HN1.out; omega
            case rel => exact ⟨i + n, l, words ++ u, oa, oc, _, rfl, rfl, rfl, by omega, by go_num, HNx.out, HO1.out, HF1.out⟩
          · have htp : 0 < toks.length := List.length_pos_iff.2 ht0
            have tt : (0 : Int) < (toks.length : Int) := by omega
            have HNx := Lib.hid (HI.out.1.loud HIm.out.2.1 (HIm.out.2.2.trans HC.out) hn1 (by rw [HDd.out]; exact HRP.out) ht0)
            have HW := Lib.hid (rwith_h (words ++ u) HO1.out hszw1 (by omega))
            have hfl := flush_len l (words ++ u)
            obtain ⟨fl, hfle⟩ : ∃ fl, flushL l (words ++ u) = fl := ⟨_, rfl⟩
            rw [hfle] at HW HNx hfl
            have hfl2 : fl.length ≤ 60001 := by omega
            clear hn1 hdl hnl hul ht0 hfle hfl
            go_wp2_with fail
            refine Calls.mono HW.out ?_
            rintro e w2 ⟨fa, fc, rfl, hR2, hF2⟩
            have HF2 := Lib.hid (HF1.out.next hF2)
            have HT2 := Lib.hid (HT.out.fr hF2)
            have hszw2 := HF2.out.size
            obtain ⟨ps, e1, e2, e3⟩ := hR2
            have hpl : ps.length = fl.length := by rw [← e1, List.length_map]
            rw [hpl] at e2
            have HP := Lib.hid (And.intro e1 (And.intro e2 e3))
            obtain ⟨qs, q1, q2, q3⟩ := HT2.out
            have hql : qs.length = toks.length := by rw [← q1, List.length_map]
            rw [hql] at q2
            have HQ := Lib.hid (And.intro q1 (And.intro q2 q3))
            clear hF2 e1 e2 e3 hpl q1 q2 q3 hql
            go_wp2_with (at_builtin; refine wpList_append_row rfl (.tmp 68) (.tmp 69) 24 rfl w.heap.size 97 i97 (.agg #[.int .i64 0, .string ⟨#[]⟩, .slice none 0 0, .string ⟨#[]⟩]) 4 64 Tryz.underlying24 hi97 hz97 hs97 hb97 rfl (by decide) (.slice fa fl.length fc) fl.length (tcells ps) rfl HP.out.2.1 (fun k => w.heap.size ≤ k ∧ k < w2.heap.size) _ toks.length (tcells qs) rfl ((SRow.of_owns HQ.out.2.1).mono fun k hk => HQ.out.2.1.lt k hk) (tcells_oneR HQ.out.2.2) (by unfold maxLen; omega) (by omega) hszw2 ?_; intro b7 cap7 w7 hown7 hgrow7 _; have HR7 := Lib.hid (And.intro hown7 hgrow7); have HF7 : Hid (Fr (fun _ => False) w w7) := HF2.out.grown hgrow7 (fun k hk => .inr (HP.out.2.1.lt k hk).1); clear hown7 hgrow7)
            go_roundg (s.length - (i + n))
            case measure => have := HIm.out.1; have := HN1.out; omega
            case rel =>
              have hpl : ps.length = fl.length := by rw [← HP.out.1, List.length_map]
              have hql : qs.length = toks.length := by rw [← HQ.out.1, List.length_map]
              have h7 := RToks.app (B := w.heap.size) (w := w2) (w7 := w7) (v := .slice fa fl.length fc) (v2 := .slice b7 (fl.length + toks.length) cap7) (ps := ps) (qs := qs) (by rw [hpl]; exact HP.out.2.1) HP.out.2.2 HQ.out.2.2 HR7.out.2 (by rw [hpl, hql]; exact HR7.out.1)
              rw [HP.out.1, HQ.out.1] at h7
              exact ⟨i + n, fl ++ toks, [], b7, cap7, _, rfl, by rw [List.length_append], rfl, by omega, by go_num, HNx.out, by rw [List.length_append]; exact h7, HF7.out⟩
      · have t60 : ((c.toNat : Int) != 60) = true := by
          have h := u8_ne (n := 60) (by decide) h60
          rw [bne]; show (!((c.toNat : Int) == ((60 : Nat) : Int))) = true; rw [h]; rfl
        have t60b : ((c.toNat : Int) == 60) = false := u8_ne (n := 60) (by decide) h60
        have hcc : s.getD i 0 ≠ 60 := by rw [HIm.out.2.2]; exact h60
        have HFd := Lib.hid (fun (W : World) => rfind_h (w := W) s [60] i (by omega) (by decide) (by decide) (by omega))
        obtain ⟨p1, p2, -⟩ := seg_parts hlt hcc
        have HSg := Lib.hid (fun u => HI.out.1.seg (u := u) hlt hcc)
        have HSb := Lib.hid (fun k => HI.out.1.segBad (k := k) hlt hcc)
        have hno := seg_none (s := s) (i := i)
        have hso := seg_some (s := s) (i := i)
        obtain ⟨E, hE⟩ : ∃ E, segN s i = E := ⟨_, rfl⟩
        rw [hE] at p1 p2 HSg HSb hno hso
        have hx : (bs s).extract i E = bs ((s.take E).drop i) := by rw [bs_mid, List.drop_take]
        have hsgl : ((s.take E).drop i).length ≤ s.length := by rw [List.length_drop, List.length_take]; omega
        obtain ⟨d, hd⟩ : ∃ d, (s.take E).drop i = d := ⟨_, rfl⟩
        rw [hd] at hx HSg HSb hsgl
        have HSa := Lib.hid (fun (W : World) => rsaid_h (w := W) d (by omega))
        obtain ⟨z, hzz⟩ : ∃ z, findZ [60] s i = z := ⟨_, rfl⟩
        rw [hzz] at HFd hno hso
        have hul := fun u => said_len _ d (u := u) (Nat.lt_succ_self _)
        clear hE hd hzz hcc h60 hi
        cases hsd : saidL d with
        | error k =>
          have HE := Lib.hid (HNo.out _ (HSb.out k hsd))
          have hkl := said_place _ d (Nat.lt_succ_self _) hsd
          rw [rsaid_bad hsd] at HSa
          have tk : (0 : Int) ≤ (k : Int) := by omega
          clear hsd hul
          by_cases hz0 : z < 0
          · have hEs := hno hz0
            subst hEs
            clear hno hso
            go_wp2_with fail
            refine Calls.mono (HFd.out _) ?_
            rintro e w1 ⟨rfl, rfl⟩
            go_wp2_with fail
            refine Calls.mono (HSa.out _) ?_
            rintro e w1 ⟨rfl, hF1⟩
            have HF1 := Lib.hid (HI.out.2.2.next hF1)
            clear hF1
            go_wp2_with fail
            go_ret3
            exact rread_post (by rw [HE.out]; go_num) (RToks.nil _ _) HF1.out
          · have hEz := hso hz0
            subst hEz
            clear hno hso
            go_wp2_with fail
            refine Calls.mono (HFd.out _) ?_
            rintro e w1 ⟨rfl, rfl⟩
            go_wp2_with fail
            refine Calls.mono (HSa.out _) ?_
            rintro e w1 ⟨rfl, hF1⟩
            have HF1 := Lib.hid (HI.out.2.2.next hF1)
            clear hF1
            go_wp2_with fail
            go_ret3
            exact rread_post (by rw [HE.out]; go_num) (RToks.nil _ _) HF1.out
        | ok u =>
          have HNx := Lib.hid (HSg.out u hsd)
          have hul2 := hul u hsd
          have hsum := fun (w : World) => bs_sum words u w (by omega)
          rw [rsaid_ok hsd] at HSa
          clear hsd hul
          by_cases hz0 : z < 0
          · have hEs := hno hz0
            subst hEs
            clear hno hso
            go_wp2_with fail
            refine Calls.mono (HFd.out _) ?_
            rintro e w1 ⟨rfl, rfl⟩
            go_wp2_with fail
            refine Calls.mono (HSa.out _) ?_
            rintro e w1 ⟨rfl, hF1⟩
            have HF1 := Lib.hid (HI.out.2.2.next hF1)
            have HO1 := Lib.hid (HI.out.2.1.fr hF1)
            clear hF1
            go_wp2_with fail
            go_roundg 0
            case measure => have := HIm.out.1; omega
            case rel => exact ⟨s.length, l, words ++ u, oa, oc, _, rfl, rfl, rfl, by omega, by go_num, HNx.out, HO1.out, HF1.out⟩
          · have hEz := hso hz0
            subst hEz
            clear hno hso
            go_wp2_with fail
            refine Calls.mono (HFd.out _) ?_
            rintro e w1 ⟨rfl, rfl⟩
            go_wp2_with fail
            refine Calls.mono (HSa.out _) ?_
            rintro e w1 ⟨rfl, hF1⟩
            have HF1 := Lib.hid (HI.out.2.2.next hF1)
            have HO1 := Lib.hid (HI.out.2.1.fr hF1)
            clear hF1
            go_wp2_with fail
            go_roundg (s.length - E)
            case measure => have := HIm.out.1; omega
            case rel => exact ⟨E, l, words ++ u, oa, oc, _, rfl, rfl, rfl, by omega, by go_num, HNx.out, HO1.out, HF1.out⟩
    · obtain rfl : i = s.length := by have := HI.out.1.len; rw [List.length_drop] at this; omega
      have HE := Lib.hid (HYes.out _ HI.out.1.done)
      have HW := Lib.hid (rwith_h words HI.out.2.1 hszr (by omega))
      obtain ⟨fl, hfle⟩ : ∃ fl, flushL l words = fl := ⟨_, rfl⟩
      rw [hfle] at HW HE
      clear hi hlt hfle
      go_wp2_with fail
      refine Calls.mono HW.out ?_
      rintro e w2 ⟨fa, fc, rfl, hR2, hF2⟩
      have HR2 := Lib.hid (And.intro hR2 (HI.out.2.2.next hF2))
      clear hR2 hF2
      go_wp2_with fail
      go_ret3
      exact rread_post HE.out HR2.out.1 HR2.out.2
end Go.Proofs.YtpinjgdnhbogoaaGreatDoor
