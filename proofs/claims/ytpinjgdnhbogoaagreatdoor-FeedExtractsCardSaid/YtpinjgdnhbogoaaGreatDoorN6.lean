/- The walk of tree.Build: the loop. -/
import Derived.Test.YtpinjgdnhbogoaaGreatDoorN5
import Derived.Test.YtpinjgdnhbogoaaGreatDoorQ1
namespace Go.Proofs.YtpinjgdnhbogoaaGreatDoor
open Go.RowKit Go.Lib

def TokIs (S : Nat → Prop) (w : World) (l : List TokD) (k : Int) (s0 : ByteArray) (av : Value) (s3 : ByteArray) (ok : Bool) (lt : List TokD) : Prop :=
  (ok = false ∧ l = [] ∧ lt = []) ∨ (ok = true ∧ ∃ x, l = x :: lt ∧ k = x.kind ∧ s0 = bs x.name ∧ s3 = bs x.text ∧ SRow w S 2 av x.attrs.length (acells x.attrs))
def BNextPost (b : Nat) (S : Nat → Prop) (l : List TokD) (w : World) (e : Ending) (w' : World) : Prop :=
  ∃ k s0 a n c s3 ok lv2 lt2, e = .returned (.tuple #[.agg #[.int .i64 k, .string s0, .slice a n c, .string s3], .bool ok]) ∧ Fr (fun k => k = b) w w' ∧ w'.heap[b]? = some (.cells #[lv2, .int .i64 0] 100 (0, 0)) ∧ TokV w' S lv2 lt2 ∧ TokIs S w' l k s0 (.slice a n c) s3 ok lt2
theorem bnext_h {w : World} {b : Nat} {S : Nat → Prop} {lv : Value} {l : List TokD} (hb : w.heap[b]? = some (.cells #[lv, .int .i64 0] 100 (0, 0))) (hv : TokV w S lv l) (hS : ∀ k, S k → k ≠ b) :
    Calls Tryz.prog 66 #[.pointer (some ⟨b, 0, none⟩)] w (BNextPost b S l w) := by
  refine (next_h hb hv hS).mono ?_
  cases l with
  | nil =>
    rintro e w' ⟨h1, rfl, lv2, h2, h3⟩
    exact ⟨0, ⟨#[]⟩, none, 0, 0, ⟨#[]⟩, false, lv2, [], rfl, h1, h2, h3, .inl ⟨rfl, rfl, rfl⟩⟩
  | cons x r =>
    rintro e w' ⟨h1, av, lv2, rfl, h2, h3, h4⟩
    obtain ⟨_, a, c, rfl, _⟩ := id h2
    exact ⟨_, _, _, _, _, _, true, lv2, r, rfl, h1, h3, h4, .inr ⟨rfl, x, rfl, rfl, rfl, rfl, h2⟩⟩
theorem TokIs.fr {S o : Nat → Prop} {w w' : World} {l lt : List TokD} {k : Int} {s0 s3 : ByteArray} {av : Value} {ok : Bool} (h : TokIs S w l k s0 av s3 ok lt) (hf : Fr o w w') (ho : ∀ k, S k → ¬ o k) : TokIs S w' l k s0 av s3 ok lt := by
  rcases h with h | ⟨h1, x, h2, h3, h4, h5, h6⟩
  · exact .inl h
  · exact .inr ⟨h1, x, h2, h3, h4, h5, h6.fr hf ho⟩
theorem bdRel {l0 l lt lt2 : List TokD} {w0 W w4 : World} {S : Nat → Prop} {o : Option NodeD} {lv v5 lv2 av : Value} {k : Int} {s0 s3 : ByteArray} {ok : Bool} {tb : Nat} (h : BdIn l0 w0 S o l lt lv v5 W) (hf : Fr (fun k => k = w0.heap.size + 1) W w4) (hb : w4.heap[w0.heap.size + 1]? = some (.cells #[lv2, .int .i64 0] 100 (0, 0))) (ht : TokV w4 S lv2 lt2) (hx : TokIs S w4 l k s0 av s3 ok lt2) (htb : w0.heap.size + 2 ≤ tb)
    (hc : w4.heap[tb]? = some (.cells #[.int .i64 k, .string s0, av, .string s3] 54 (0, 0))) : BdRel l0 w0 S v5 (.pointer (some ⟨tb, 0, none⟩)) (.bool ok) (l.length + 1) w4 := by
  have h2 := h.next hf hb ht
  rcases hx with ⟨rfl, rfl, rfl⟩ | ⟨rfl, x, rfl, rfl, rfl, rfl, ha⟩
  · exact .inl ⟨o, lv2, rfl, h2, rfl⟩
  · exact .inr ⟨o, x, lt2, lv2, av, tb, rfl, h2, rfl, rfl, htb, hc, ha⟩
theorem bdRel2 {l0 l lt lt2 : List TokD} {w0 W w3 : World} {S : Nat → Prop} {o : Option NodeD} {lv v5 lv2 av : Value} {k : Int} {s0 s3 : ByteArray} {ok : Bool} {tb : Nat} {z0 z1 z2 z3 : Value} (h : BdIn l0 w0 S o l lt lv v5 W) (hf : Fr (fun k => k = w0.heap.size + 1) W w3) (hb : w3.heap[w0.heap.size + 1]? = some (.cells #[lv2, .int .i64 0] 100 (0, 0))) (ht : TokV w3 S lv2 lt2) (hx : TokIs S w3 l k s0 av s3 ok lt2) (htb : W.heap.size ≤ tb)
    (hc : w3.heap[tb]? = some (.cells #[z0, z1, z2, z3] 54 (0, 0))) : BdRel l0 w0 S v5 (.pointer (some ⟨tb, 0, none⟩)) (.bool ok) (l.length + 1) ((((w3.setCell ⟨tb, 0, none⟩ (.int .i64 k)).setCell ⟨tb, 1, none⟩ (.string s0)).setCell ⟨tb, 2, none⟩ av).setCell ⟨tb, 3, none⟩ (.string s3)) := by
  have hp := h.pos
  have h4 := fr_set4 w3 tb (.int .i64 k) (.string s0) av (.string s3)
  exact bdRel h (hf.trans h4 fun k e => .inr (by omega)) (h4.keep hb (by omega)) (ht.fr h4 fun k hk e => by have := hp.2 k hk; omega) (hx.fr h4 fun k hk e => by have := hp.2 k hk; omega) (by omega) (block_set4 hc)
theorem BdBad.drew {l0 : List TokD} {w0 W : World} {er : Int} {lv : Value} (h : BdBad l0 w0 er lv W) : BdBad l0 w0 er lv W.drew := ⟨h.eq, h.bld, h.fr.drew, h.rb⟩
theorem build_bad {l0 : List TokD} {w0 W : World} {er : Int} {lv : Value} (h : BdBad l0 w0 er lv W) : BuildPost l0 w0 (.returned (.tuple #[.agg #[.string ⟨#[]⟩, .slice none 0 0, .string ⟨#[]⟩, .slice none 0 0], .int .i64 er]))
    ((((W.setCell ⟨w0.heap.size, 0, none⟩ (.string ⟨#[]⟩)).setCell ⟨w0.heap.size, 1, none⟩ (.slice none 0 0)).setCell ⟨w0.heap.size, 2, none⟩ (.string ⟨#[]⟩)).setCell ⟨w0.heap.size, 3, none⟩ (.slice none 0 0)) := by
  refine ⟨_, _, _, _, _, rfl, .mk ⟨_, _, _, rfl⟩ ⟨_, _, _, rfl⟩, fr_one h.fr (fr_set4 _ _ _ _ _ _) (Nat.le_refl _), ?_⟩
  rw [h.eq]
  exact ⟨rfl, NodeV.zero _ _⟩
set_option maxRecDepth 100000 in
set_option maxHeartbeats 16000000 in
theorem tbuild_h {l : List TokD} {w : World} {S : Nat → Prop} {tv : Value} (hv : TokV w S tv l) (hS : ∀ k, S k → k < w.heap.size) (hT : TextOK l) (hl : l.length ≤ 60010) : Calls Tryz.prog 24 #[tv] w (BuildPost l w) := by
  obtain ⟨a, cap, rfl, _, _, _⟩ := hv.elems
  have HV := Lib.hid hv
  have HS := Lib.hid hS
  have HT := Lib.hid hT
  have hB := block_old (block_new w (.cells zeroNode 30)) (.cells #[.slice a l.length cap, .int .i64 0] 100)
  have hR := block_new (w.alloc (.cells zeroNode 30)) (.cells #[.slice a l.length cap, .int .i64 0] 100)
  have h0 : BdIn l w S none l l (.slice a l.length cap) (.pointer none) ((w.alloc (.cells zeroNode 30)).alloc (.cells #[.slice a l.length cap, .int .i64 0] 100)) := {
    eq := (buildG_start l).symm
    sub := fun _ h => h
    len := Nat.le_refl _
    bld := by rw [World.size_alloc] at hR; exact hR
    tok := hv.fr (((Fr.refl (fun _ => False) w).alloc _).alloc _) fun _ _ h => h
    root := rfl
    fr := ((Fr.refl _ w).alloc _).alloc _
    rb := hB
    pos := ⟨by simp, hS⟩ }
  have H0 := Lib.hid h0
  have HN0 := Lib.hid (bnext_h h0.bld h0.tok (fun k hk => by have := hS k hk; omega))
  clear hv hS hT hB hR h0
  go_enter Tryz.func24, Tryz.ntmps24
  go_wp2_with fail
  refine Calls.mono HN0.out ?_
  rintro e w3 ⟨k, s0, a1, n1, p1, s3, ok, lv2, lt2, rfl, hF, hb3, ht3, hx3⟩
  have hal : Fr (fun _ => False) w3 (w3.alloc (.cells #[.int .i64 k, .string s0, .slice a1 n1 p1, .string s3] 54)) := (Fr.refl _ _).alloc _
  have HR := Lib.hid (bdRel H0.out (hF.trans hal fun k e => e.elim) (hal.keep hb3 (fun h => h)) (ht3.fr hal fun _ _ h => h) (hx3.fr hal fun _ _ h => h) (tb := w3.heap.size) (by have h1 := hF.size; have h2 := H0.out.pos.1; omega) (block_new _ _))
  clear hF hb3 ht3 hx3 hal
  go_wp2_with fail
  go_loopg [5, 6, 7] (l.length + 1) (fun j v5 v6 v7 w' => ∃ W, W = w' ∧ BdRel l w S v5 v6 v7 j W)
  case atStart => exact ⟨_, rfl, HR.out⟩
  case round =>
    obtain ⟨W, rfl, hR⟩ := hrel
    rcases hR with ⟨o, lv3, hj, hI, rfl⟩ | ⟨o, x, r, lv3, av, tb, hj, hI, rfl, rfl, htb, hc, ha⟩
    · have b1 := cell_of hI.bld (i := 1) (v := .int .i64 0) rfl
      have hrt := hI.root
      have r0 := cell_of hI.rb (i := 0) (v := .string ⟨#[]⟩) rfl
      have r1 := cell_of hI.rb (i := 1) (v := .slice none 0 0) rfl
      have r2 := cell_of hI.rb (i := 2) (v := .string ⟨#[]⟩) rfl
      have r3 := cell_of hI.rb (i := 3) (v := .slice none 0 0) rfl
      have q0 := free_of 0 hI.rb
      have q1 := free_of 1 hI.rb
      have q2 := free_of 2 hI.rb
      have q3 := free_of 3 hI.rb
      have hltr := lt_of_block hI.rb
      have HI := Lib.hid hI
      cases o with
      | none =>
        unfold RootV at hrt
        subst hrt
        have HE := Lib.hid (show buildL l = .error 8 from hI.eq.trans (buildG_nil none))
        clear hI
        go_wp2_with fail
        have hz := block_set4 (a := .string ⟨#[]⟩) (b := .slice none 0 0) (c := .string ⟨#[]⟩) (d := .slice none 0 0) HI.out.rb
        have e0 := cell_of hz (i := 0) (v := .string ⟨#[]⟩) rfl
        have e1 := cell_of hz (i := 1) (v := .slice none 0 0) rfl
        have e2 := cell_of hz (i := 2) (v := .string ⟨#[]⟩) rfl
        have e3 := cell_of hz (i := 3) (v := .slice none 0 0) rfl
        refine bodyPost_ret (v := .tuple #[.agg #[.string ⟨#[]⟩, .slice none 0 0, .string ⟨#[]⟩, .slice none 0 0], .int .i64 8]) (by simp [results, Tryz.results24, go_sem, e0, e1, e2, e3] <;> rfl) rfl ?_
        refine ⟨_, _, _, _, _, rfl, .mk ⟨_, _, _, rfl⟩ ⟨_, _, _, rfl⟩, fr_one HI.out.fr (fr_set4 _ _ _ _ _ _) (Nat.le_refl _), ?_⟩
        rw [HE.out]
        exact ⟨rfl, NodeV.zero _ _⟩
      | some n =>
        obtain ⟨g, c0, c1, c2, c3, rfl, hg, hgc, hsh, hnv⟩ := hrt
        obtain ⟨t0, u1, m1, p1, t2, u3, m3, p3, rfl, rfl, rfl, rfl⟩ := hsh
        have HE := Lib.hid (show buildL l = .ok n from hI.eq.trans (buildG_nil (some n)))
        have HV2 := Lib.hid hnv
        have d0 := cell_of hgc (i := 0) (v := .string t0) rfl
        have d1 := cell_of hgc (i := 1) (v := .slice u1 m1 p1) rfl
        have d2 := cell_of hgc (i := 2) (v := .string t2) rfl
        have d3 := cell_of hgc (i := 3) (v := .slice u3 m3 p3) rfl
        clear hI hgc hnv
        go_wp2_with fail
        have hz := block_set4 (a := .string t0) (b := .slice u1 m1 p1) (c := .string t2) (d := .slice u3 m3 p3) HI.out.rb
        have e0 := cell_of hz (i := 0) (v := .string t0) rfl
        have e1 := cell_of hz (i := 1) (v := .slice u1 m1 p1) rfl
        have e2 := cell_of hz (i := 2) (v := .string t2) rfl
        have e3 := cell_of hz (i := 3) (v := .slice u3 m3 p3) rfl
        refine bodyPost_ret (v := .tuple #[.agg #[.string t0, .slice u1 m1 p1, .string t2, .slice u3 m3 p3], .int .i64 0]) (by simp [results, Tryz.results24, go_sem, e0, e1, e2, e3] <;> rfl) rfl ?_
        refine ⟨_, _, _, _, _, rfl, .mk ⟨_, _, _, rfl⟩ ⟨_, _, _, rfl⟩, fr_one HI.out.fr (fr_set4 _ _ _ _ _ _) (Nat.le_refl _), ?_⟩
        rw [HE.out]
        have h4 := fr_set4 W w.heap.size (.string t0) (.slice u1 m1 p1) (.string t2) (.slice u3 m3 p3)
        exact ⟨rfl, NodeV.mono (fun k hk => ⟨by omega, Nat.lt_of_lt_of_le hk.2 h4.size⟩) n (NodeV.fr h4 (fun k hk e => by omega) n HV2.out)⟩
    · have b1 := cell_of hI.bld (i := 1) (v := .int .i64 0) rfl
      have g1 := free_of 1 hI.bld
      obtain ⟨_, aa, acap, rfl, _, _, _, _⟩ := id ha
      have y0 := cell_of hc (i := 0) (v := .int .i64 x.kind) rfl
      have y1 := cell_of hc (i := 1) (v := .string (bs x.name)) rfl
      have y2 := cell_of hc (i := 2) (v := .slice aa x.attrs.length acap) rfl
      have y3 := cell_of hc (i := 3) (v := .string (bs x.text)) rfl
      have HI := Lib.hid hI
      have HJ := Lib.hid hj
      have HA := Lib.hid ha
      have hty := HT.out x (hI.sub x List.mem_cons_self)
      clear hI hj ha
      by_cases k3 : x.kind = 3
      · have t3 : (x.kind == 3) = true := by rw [beq_iff_eq]; exact k3
        by_cases hbl : x.text.all blankC = true
        · have htr := (trimB_nil x.text).2 hbl
          have HTr := Lib.hid (show Calls Tryz.prog 67 #[.string (bs x.text), .string ⟨#[32, 9, 10, 13]⟩] W fun e w' => e = .returned (.string ⟨#[]⟩) ∧ Fr (fun _ => False) W w' by
            have h := trimB_h (w := W) hty.1
            rw [htr] at h
            exact h)
          go_wp2_with fail
          refine Calls.mono HTr.out ?_
          rintro e w4 ⟨rfl, hF4⟩
          have hI4 := (HI.out.blank k3 hbl).fr2 hF4
          have HI4 := Lib.hid hI4
          have HNX := Lib.hid (fun (W' : World) (hF : Fr (fun _ => False) w4 W') => bnext_h (HI4.out.fr2 hF).bld (HI4.out.fr2 hF).tok (fun k hk => by have := HI4.out.pos.2 k hk; omega))
          have b4 := cell_of hI4.bld (i := 1) (v := .int .i64 0) rfl
          have h4c := hF4.keep hc (fun h => h)
          have w0 := cell_of h4c (i := 0) (v := .int .i64 x.kind) rfl
          have w1 := cell_of h4c (i := 1) (v := .string (bs x.name)) rfl
          have w2 := cell_of h4c (i := 2) (v := .slice aa x.attrs.length acap) rfl
          have w3' := cell_of h4c (i := 3) (v := .string (bs x.text)) rfl
          clear hI4 hF4 h4c htr hbl k3
          go_wp2_with fail
          refine Calls.mono (HNX.out _ ((Fr.refl _ _).alloc _)) ?_
          rintro e w5 ⟨k, s0, a1, n1, p1, s3, ok, lv2, lt2, rfl, hF5, hb5, ht5, hx5⟩
          have hF45 : Fr (fun k => k = w.heap.size + 1) w4 w5 := ((Fr.refl (fun k => k = w.heap.size + 1) w4).alloc _).next hF5
          have hc5 := hF5.keep (block_new w4 (.cells #[.int .i64 x.kind, .string (bs x.name), .slice aa x.attrs.length acap, .string (bs x.text)] 54)) (by have := HI4.out.pos.1; show ¬ _ = w.heap.size + 1; omega)
          have z0 := cell_of hc5 (i := 0) (v := .int .i64 x.kind) rfl
          have z1 := cell_of hc5 (i := 1) (v := .string (bs x.name)) rfl
          have z2 := cell_of hc5 (i := 2) (v := .slice aa x.attrs.length acap) rfl
          have z3 := cell_of hc5 (i := 3) (v := .string (bs x.text)) rfl
          have x0 := free_of 0 hc5
          have x1 := free_of 1 hc5
          have x2 := free_of 2 hc5
          have x3 := free_of 3 hc5
          have HR5 := Lib.hid (bdRel2 HI4.out hF45 hb5 ht5 hx5 (Nat.le_refl _) hc5)
          clear hF5 hb5 ht5 hx5 hF45 hc5
          go_wp2_with fail
          go_roundg (r.length + 1)
          case measure => have := HJ.out; omega
          case rel => exact ⟨_, rfl, HR5.out⟩
        · have htr : trimB x.text ≠ [] := fun h => hbl ((trimB_nil x.text).1 h)
          have HTr := Lib.hid (show Calls Tryz.prog 67 #[.string (bs x.text), .string ⟨#[32, 9, 10, 13]⟩] W fun e w' => e = .returned (.string (bs (trimB x.text))) ∧ Fr (fun _ => False) W w' from trimB_h (w := W) hty.1)
          have tt : ((bs (trimB x.text)).toList == []) = false := by rw [bs_toList]; exact beq_eq_false_iff_ne.2 htr
          have tt2 : decide (bs (trimB x.text) = ⟨#[]⟩) = false := decide_eq_false fun e => htr (bs_inj2 e)
          have t1 : (x.kind == 1) = false := by rw [k3]; rfl
          go_wp2_with fail
          refine Calls.mono HTr.out ?_
          rintro e w4 ⟨rfl, hF4⟩
          have hI4 := HI.out.fr2 hF4
          have HX := Lib.hid (hI4.bad (fun h => hbl h.2) (fun h => by have := h.1; omega))
          have b4 := cell_of hI4.bld (i := 1) (v := .int .i64 0) rfl
          have g4 := free_of 1 hI4.bld
          have h4c := hF4.keep hc (fun h => h)
          have w0 := cell_of h4c (i := 0) (v := .int .i64 x.kind) rfl
          clear hI4 hF4 h4c htr hbl k3
          go_wp2_with fail
          have b5 := cell_of HX.out.bld (i := 1) (v := .int .i64 8) rfl
          have r0 := cell_of HX.out.rb (i := 0) (v := .string ⟨#[]⟩) rfl
          have r1 := cell_of HX.out.rb (i := 1) (v := .slice none 0 0) rfl
          have r2 := cell_of HX.out.rb (i := 2) (v := .string ⟨#[]⟩) rfl
          have r3 := cell_of HX.out.rb (i := 3) (v := .slice none 0 0) rfl
          have q0 := free_of 0 HX.out.rb
          have q1 := free_of 1 HX.out.rb
          have q2 := free_of 2 HX.out.rb
          have q3 := free_of 3 HX.out.rb
          go_region
          all_goals
            go_wp2_with fail
            have hz := block_set4 (a := .string ⟨#[]⟩) (b := .slice none 0 0) (c := .string ⟨#[]⟩) (d := .slice none 0 0) HX.out.rb
            have e0 := cell_of hz (i := 0) (v := .string ⟨#[]⟩) rfl
            have e1 := cell_of hz (i := 1) (v := .slice none 0 0) rfl
            have e2 := cell_of hz (i := 2) (v := .string ⟨#[]⟩) rfl
            have e3 := cell_of hz (i := 3) (v := .slice none 0 0) rfl
            refine bodyPost_ret (v := .tuple #[.agg #[.string ⟨#[]⟩, .slice none 0 0, .string ⟨#[]⟩, .slice none 0 0], .int .i64 8]) (by simp [results, Tryz.results24, go_sem, e0, e1, e2, e3] <;> rfl) rfl (build_bad HX.out.drew)
      · have t3 : (x.kind == 3) = false := by rw [beq_eq_false_iff_ne]; exact k3
        by_cases k1 : x.kind = 1
        · have t1 : (x.kind == 1) = true := by rw [beq_iff_eq]; exact k1
          cases o with
          | some n =>
            have hrt := HI.out.root
            obtain ⟨g, c0, c1, c2, c3, rfl, _, _, _, _⟩ := hrt
            have HX := Lib.hid (HI.out.bad (fun h => k3 h.1) (fun h => by cases h.2))
            clear k1 k3
            go_wp2_with fail
            have b5 := cell_of HX.out.bld (i := 1) (v := .int .i64 8) rfl
            have r0 := cell_of HX.out.rb (i := 0) (v := .string ⟨#[]⟩) rfl
            have r1 := cell_of HX.out.rb (i := 1) (v := .slice none 0 0) rfl
            have r2 := cell_of HX.out.rb (i := 2) (v := .string ⟨#[]⟩) rfl
            have r3 := cell_of HX.out.rb (i := 3) (v := .slice none 0 0) rfl
            have q0 := free_of 0 HX.out.rb
            have q1 := free_of 1 HX.out.rb
            have q2 := free_of 2 HX.out.rb
            have q3 := free_of 3 HX.out.rb
            go_region
            all_goals
              go_wp2_with fail
              have hz := block_set4 (a := .string ⟨#[]⟩) (b := .slice none 0 0) (c := .string ⟨#[]⟩) (d := .slice none 0 0) HX.out.rb
              have e0 := cell_of hz (i := 0) (v := .string ⟨#[]⟩) rfl
              have e1 := cell_of hz (i := 1) (v := .slice none 0 0) rfl
              have e2 := cell_of hz (i := 2) (v := .string ⟨#[]⟩) rfl
              have e3 := cell_of hz (i := 3) (v := .slice none 0 0) rfl
              refine bodyPost_ret (v := .tuple #[.agg #[.string ⟨#[]⟩, .slice none 0 0, .string ⟨#[]⟩, .slice none 0 0], .int .i64 8]) (by simp [results, Tryz.results24, go_sem, e0, e1, e2, e3] <;> rfl) rfl (build_bad HX.out.drew)
          | none =>
            have hrt := HI.out.root
            unfold RootV at hrt
            subst hrt
            have HEl := Lib.hid (show Calls Tryz.prog 68 #[.pointer (some ⟨w.heap.size + 1, 0, none⟩), .agg #[.int .i64 x.kind, .string (bs x.name), .slice aa x.attrs.length acap, .string (bs x.text)], .int .i64 0] W (ElemPost (w.heap.size + 1) S 0 x.name x.attrs r W) from elem_h (r.length + 1) r (Nat.lt_succ_self _) W (w.heap.size + 1) S lv3 (.slice aa x.attrs.length acap) x 0 HI.out.bld HI.out.tok (fun k hk => by have := HI.out.pos.2 k hk; have := HI.out.pos.1; omega) HA.out hty.2 (by omega) (fun z hz => HT.out z (HI.out.sub z (List.mem_cons_of_mem _ hz))) (by have := HI.out.len; simp at this; omega))
            cases ho : elemOut 0 x.name x.attrs r with
            | ok q =>
              obtain ⟨n, r2⟩ := q
              have hlen := (elemOut_rest ho).2
              have HK := Lib.hid k1
              have HO := Lib.hid ho
              clear k1 k3 ho
              go_wp2_with fail
              refine Calls.mono HEl.out ?_
              rintro e w4 ⟨c0, c1, c2, c3, lv5, er5, rfl, hsh, hb5, hF5, hm5⟩
              rw [HO.out] at hm5
              obtain ⟨rfl, hn5, ht5⟩ := hm5
              have hI4 := HI.out.elem HK.out HO.out hF5 hb5 ht5 hsh hn5
              obtain ⟨q0, q1, q2, q3, q4, q5, q6, q7, rfl, rfl, rfl, rfl⟩ := hsh
              have HI4 := Lib.hid hI4
              have HNX := Lib.hid (fun (W' : World) (hF : Fr (fun _ => False) (w4.alloc (.cells #[.string q0, .slice q1 q2 q3, .string q4, .slice q5 q6 q7] 30)) W') => bnext_h (HI4.out.fr2 hF).bld (HI4.out.fr2 hF).tok (fun k hk => by have := HI4.out.pos.2 k hk; omega))
              have b4 := cell_of hb5 (i := 1) (v := .int .i64 0) rfl
              have h4c := hF5.keep hc (by omega)
              have w0 := cell_of h4c (i := 0) (v := .int .i64 x.kind) rfl
              have w1 := cell_of h4c (i := 1) (v := .string (bs x.name)) rfl
              have w2 := cell_of h4c (i := 2) (v := .slice aa x.attrs.length acap) rfl
              have w3' := cell_of h4c (i := 3) (v := .string (bs x.text)) rfl
              have hlt4 := lt_of_block hb5
              have hlt5 := lt_of_block h4c
              clear hI4 hb5 hF5 hn5 ht5 h4c
              go_wp2_with fail
              refine Calls.mono (HNX.out _ ((Fr.refl _ _).alloc _)) ?_
              rintro e w5 ⟨k, s0, a1, n1, p1, s3, ok, lv2, lt2, rfl, hF5, hb5, ht5, hx5⟩
              have hF45 : Fr (fun k => k = w.heap.size + 1) (w4.alloc (.cells #[.string q0, .slice q1 q2 q3, .string q4, .slice q5 q6 q7] 30)) w5 := ((Fr.refl (fun k => k = w.heap.size + 1) (w4.alloc (.cells #[.string q0, .slice q1 q2 q3, .string q4, .slice q5 q6 q7] 30))).alloc _).next hF5
              have hc5 := hF5.keep (block_new_at (w := w4.alloc (.cells #[.string q0, .slice q1 q2 q3, .string q4, .slice q5 q6 q7] 30)) (x := .cells #[.int .i64 x.kind, .string (bs x.name), .slice aa x.attrs.length acap, .string (bs x.text)] 54) (n := w4.heap.size + 1) (by simp)) (by have := HI4.out.pos.1; simp at this; show ¬ _ = w.heap.size + 1; omega)
              have z0 := cell_of hc5 (i := 0) (v := .int .i64 x.kind) rfl
              have z1 := cell_of hc5 (i := 1) (v := .string (bs x.name)) rfl
              have z2 := cell_of hc5 (i := 2) (v := .slice aa x.attrs.length acap) rfl
              have z3 := cell_of hc5 (i := 3) (v := .string (bs x.text)) rfl
              have x0 := free_of 0 hc5
              have x1 := free_of 1 hc5
              have x2 := free_of 2 hc5
              have x3 := free_of 3 hc5
              have HR5 := Lib.hid (bdRel2 HI4.out hF45 hb5 ht5 hx5 (by simp) hc5)
              clear hF5 hb5 ht5 hx5 hF45 hc5
              go_wp2_with fail
              go_roundg (r2.length + 1)
              case measure => have := HJ.out; omega
              case rel => exact ⟨_, rfl, HR5.out⟩
            | error x1 =>
              have HK := Lib.hid k1
              have HO := Lib.hid ho
              have hx1 : (x1 == 0) = false := by rcases elemOut_err ho with rfl | rfl <;> rfl
              clear k1 k3 ho
              go_wp2_with fail
              refine Calls.mono HEl.out ?_
              rintro e w4 ⟨c0, c1, c2, c3, lv5, er5, rfl, hsh, hb5, hF5, hm5⟩
              rw [HO.out] at hm5
              obtain rfl : er5 = x1 := hm5
              have HX := Lib.hid (HI.out.elemBad (c0 := c0) (c1 := c1) (c2 := c2) (c3 := c3) HK.out HO.out hF5 hb5)
              obtain ⟨q0, q1, q2, q3, q4, q5, q6, q7, rfl, rfl, rfl, rfl⟩ := hsh
              have b4 := cell_of hb5 (i := 1) (v := .int .i64 er5) rfl
              have hlt4 := lt_of_block hb5
              clear hb5 hF5
              go_wp2_with fail
              have b5 := cell_of HX.out.bld (i := 1) (v := .int .i64 er5) rfl
              have r0 := cell_of HX.out.rb (i := 0) (v := .string ⟨#[]⟩) rfl
              have r1 := cell_of HX.out.rb (i := 1) (v := .slice none 0 0) rfl
              have r2 := cell_of HX.out.rb (i := 2) (v := .string ⟨#[]⟩) rfl
              have r3 := cell_of HX.out.rb (i := 3) (v := .slice none 0 0) rfl
              have q0 := free_of 0 HX.out.rb
              have q1 := free_of 1 HX.out.rb
              have q2 := free_of 2 HX.out.rb
              have q3 := free_of 3 HX.out.rb
              go_region
              all_goals
                go_wp2_with fail
                have hz := block_set4 (a := .string ⟨#[]⟩) (b := .slice none 0 0) (c := .string ⟨#[]⟩) (d := .slice none 0 0) HX.out.rb
                have e0 := cell_of hz (i := 0) (v := .string ⟨#[]⟩) rfl
                have e1 := cell_of hz (i := 1) (v := .slice none 0 0) rfl
                have e2 := cell_of hz (i := 2) (v := .string ⟨#[]⟩) rfl
                have e3 := cell_of hz (i := 3) (v := .slice none 0 0) rfl
                refine bodyPost_ret (v := .tuple #[.agg #[.string ⟨#[]⟩, .slice none 0 0, .string ⟨#[]⟩, .slice none 0 0], .int .i64 er5]) (by simp [results, Tryz.results24, go_sem, e0, e1, e2, e3] <;> rfl) rfl (build_bad HX.out.drew)
        · have t1 : (x.kind == 1) = false := by rw [beq_eq_false_iff_ne]; exact k1
          have HX := Lib.hid (HI.out.bad (fun h => k3 h.1) (fun h => k1 h.1))
          clear k1 k3
          go_wp2_with fail
          have b5 := cell_of HX.out.bld (i := 1) (v := .int .i64 8) rfl
          have r0 := cell_of HX.out.rb (i := 0) (v := .string ⟨#[]⟩) rfl
          have r1 := cell_of HX.out.rb (i := 1) (v := .slice none 0 0) rfl
          have r2 := cell_of HX.out.rb (i := 2) (v := .string ⟨#[]⟩) rfl
          have r3 := cell_of HX.out.rb (i := 3) (v := .slice none 0 0) rfl
          have q0 := free_of 0 HX.out.rb
          have q1 := free_of 1 HX.out.rb
          have q2 := free_of 2 HX.out.rb
          have q3 := free_of 3 HX.out.rb
          go_region
          all_goals
            go_wp2_with fail
            have hz := block_set4 (a := .string ⟨#[]⟩) (b := .slice none 0 0) (c := .string ⟨#[]⟩) (d := .slice none 0 0) HX.out.rb
            have e0 := cell_of hz (i := 0) (v := .string ⟨#[]⟩) rfl
            have e1 := cell_of hz (i := 1) (v := .slice none 0 0) rfl
            have e2 := cell_of hz (i := 2) (v := .string ⟨#[]⟩) rfl
            have e3 := cell_of hz (i := 3) (v := .slice none 0 0) rfl
            refine bodyPost_ret (v := .tuple #[.agg #[.string ⟨#[]⟩, .slice none 0 0, .string ⟨#[]⟩, .slice none 0 0], .int .i64 8]) (by simp [results, Tryz.results24, go_sem, e0, e1, e2, e3] <;> rfl) rfl (build_bad HX.out.drew)
end Go.Proofs.YtpinjgdnhbogoaaGreatDoor
