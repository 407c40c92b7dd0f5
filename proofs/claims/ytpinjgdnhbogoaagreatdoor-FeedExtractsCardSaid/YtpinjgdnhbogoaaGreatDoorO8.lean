/- The reference's Build: walked. -/
import Derived.Test.YtpinjgdnhbogoaaGreatDoorO7
import Derived.Deep.RegionLaw
import Derived.StillTailTactics
namespace Go.Proofs.YtpinjgdnhbogoaaGreatDoor
open Go.RowKit Go.Lib

theorem elem35 : Tryz.prog.elem 35 = 37 := by kernel_rfl
theorem under35 : Tryz.prog.underlying 35 = some (.slice (Tryz.prog.elem 35)) := by rw [elem35]; exact Tryz.underlying35
theorem size35 (w : World) : (sizeOf (Tryz.prog.elem 35)).run Tryz.prog w = .ok 4 w := by
  rw [elem35]
  obtain ⟨i, hi, _, hs, _⟩ := info_parts info37b
  simp [sizeOf, typeInfo, hi, hs]
theorem head_run35 {a : Option Addr} {len cap k : Nat} {i : Int} (hi : i = (k : Int)) (hk : k ≤ cap) (w : World) :
    (Instr.slice 35 (.slice a len cap) none (some (.int .i64 i)) none).run Tryz.prog w = .ok (.slice a k cap) w := by
  subst hi
  rw [run_slice_h w 35 a len cap under35 .i64 k (by omega) (by omega), size35]
  have h : a.map (fun x => x.add 0) = a := by
    cases a with
    | none => rfl
    | some p => cases p with | mk b o s => cases s <;> simp [Addr.add]
  simp only [Result.andThen, sliced, Int.toNat_natCast, Nat.zero_mul, Nat.sub_zero, h, ite_self]
set_option maxRecDepth 100000 in
set_option maxHeartbeats 32000000 in
theorem rbuild_h {w : World} {S : Nat → Prop} {v : Value} {l : List TokD} (hv : TokV w S v l) (hS : ∀ k, S k → k < w.heap.size) (hT : TextOK l) (hl : l.length ≤ 60010) : Calls Tryz.prog 25 #[v] w (RBuildPost (refB [] none l) S w) := by
  obtain ⟨a, cap, rfl, _, _, _⟩ := hv.elems
  have HV := Lib.hid hv
  have HT := Lib.hid hT
  have HS := Lib.hid (RB.start l w hS)
  obtain ⟨i37, hi37, hz37, hs37, hb37⟩ := info_parts info37b
  clear hv hT hS
  go_enter Tryz.func25, Tryz.ntmps25
  go_wp2_with fail
  go_loopg [4, 6, 7] l.length (fun j v4 v6 v7 w' => ∃ W, W = w' ∧ ∃ (i n : Nat) (st : List NodeD) (dn : Option NodeD) (oa : Option Addr) (oc : Nat) (xs : List Value) (d0 d1 d2 d3 : Value), v4 = .slice oa n oc ∧ i + j = l.length ∧ v6 = .bool dn.isSome ∧ v7 = .int .i64 i ∧ st.length = n ∧ Hid (RB l w S i st dn (.slice oa n oc) xs d0 d1 d2 d3 W))
  case atStart => exact ⟨_, rfl, 0, 0, [], none, none, 0, [], _, _, _, _, rfl, by omega, rfl, rfl, rfl, HS.out⟩
  case round =>
    obtain ⟨W, rfl, i, n, st, dn, oa, oc, xs, d0, d1, d2, d3, rfl, hi, rfl, rfl, hlen, HI⟩ := hrel
    have HLen := Lib.hid hlen
    have hn20 : n ≤ 20 := by rw [← hlen]; exact HI.out.deep
    clear hlen
    by_cases hlt : i < l.length
    · obtain ⟨_, _, e0, _, _, hel⟩ := HV.out.elems
      cases e0
      obtain ⟨g, off, rfl, hel2⟩ := hel (by omega)
      obtain ⟨x, hx⟩ : ∃ x, l[i]? = some x := ⟨_, List.getElem?_eq_getElem hlt⟩
      obtain ⟨avx, a0, a1, a2, a3, ar⟩ := hel2 i x hx
      obtain ⟨_, aa, acap, rfl, _, _, _, _⟩ := id ar
      have b0 := HI.out.fr.cell a0 (fun h => h)
      have b1 := HI.out.fr.cell a1 (fun h => h)
      have b2 := HI.out.fr.cell a2 (fun h => h)
      have b3 := HI.out.fr.cell a3 (fun h => h)
      have HX := Lib.hid (And.intro hx hi)
      have HAr := Lib.hid ar
      have htx := HT.out x (List.mem_of_getElem? hx)
      have HB : Hid (RB l w S i st dn (.slice oa n oc) xs d0 d1 d2 d3 (W.alloc (.cells #[.int .i64 x.kind, .string (bs x.name), .slice aa x.attrs.length acap, .string (bs x.text)] 97))) := HI.out.fr2 ((Fr.refl _ _).alloc _)
      have hbk := block_new W (.cells #[.int .i64 x.kind, .string (bs x.name), .slice aa x.attrs.length acap, .string (bs x.text)] 97)
      have y0 := cell_of hbk (i := 0) (v := .int .i64 x.kind) rfl
      have y1 := cell_of hbk (i := 1) (v := .string (bs x.name)) rfl
      have y2 := cell_of hbk (i := 2) (v := .slice aa x.attrs.length acap) rfl
      have y3 := cell_of hbk (i := 3) (v := .string (bs x.text)) rfl
      obtain ⟨W1, hW1⟩ : ∃ W1, W1 = (W.alloc (.cells #[.int .i64 x.kind, .string (bs x.name), .slice aa x.attrs.length acap, .string (bs x.text)] 97)) := ⟨_, rfl⟩
      have HB1 := Lib.hid (show RB l w S i st dn (.slice oa n oc) xs d0 d1 d2 d3 W1 by rw [hW1]; exact HB.out)
      have hszw := HB1.out.size
      clear hel hel2 a0 a1 a2 a3 ar hx hi hbk
      by_cases k1 : x.kind = 1
      · have t1 : (x.kind == 1) = true := by rw [beq_iff_eq]; exact k1
        have HKd := Lib.hid k1
        clear k1
        by_cases h20 : 20 ≤ n
        · have hi20 : (20 : Int) ≤ (n : Int) := by omega
          have HE := Lib.hid (show refB [] none l = .error 19 by rw [HB.out.tok HX.out.1, refB_open HKd.out, if_pos (by rw [HLen.out]; exact h20)])
          have q0 := free_of 0 HB.out.res
          have q1 := free_of 1 HB.out.res
          have q2 := free_of 2 HB.out.res
          have q3 := free_of 3 HB.out.res
          have r0 := cell_of HB.out.res (i := 0) (v := .string ⟨#[]⟩) rfl
          have r1 := cell_of HB.out.res (i := 1) (v := .slice none 0 0) rfl
          have r2 := cell_of HB.out.res (i := 2) (v := .string ⟨#[]⟩) rfl
          have r3 := cell_of HB.out.res (i := 3) (v := .slice none 0 0) rfl
          have rl := lt_of_block HB.out.res
          go_wp2_with fail
          have hz := block_set4 (a := .string ⟨#[]⟩) (b := .slice none 0 0) (c := .string ⟨#[]⟩) (d := .slice none 0 0) HB.out.res
          have e0 := cell_of hz (i := 0) (v := .string ⟨#[]⟩) rfl
          have e1 := cell_of hz (i := 1) (v := .slice none 0 0) rfl
          have e2 := cell_of hz (i := 2) (v := .string ⟨#[]⟩) rfl
          have e3 := cell_of hz (i := 3) (v := .slice none 0 0) rfl
          refine bodyPost_ret (v := .tuple #[.agg #[.string ⟨#[]⟩, .slice none 0 0, .string ⟨#[]⟩, .slice none 0 0], .int .i64 19]) (by simp [results, Tryz.results25, go_sem, e0, e1, e2, e3] <;> rfl) rfl ?_
          exact rbuild_err HB.out HE.out
        · have hi20 : ¬ (20 : Int) ≤ (n : Int) := by omega
          by_cases hes : n = 0 ∧ dn.isSome = true
          · obtain ⟨h0, hsm⟩ := hes
            have t0 : ((n : Int) == 0) = true := by rw [h0]; rfl
            have hst : st = [] := List.eq_nil_of_length_eq_zero (by rw [HLen.out]; exact h0)
            have HE := Lib.hid (show refB [] none l = .error 8 by rw [HB.out.tok HX.out.1, refB_open HKd.out, if_neg (by rw [HLen.out]; exact h20), hst, if_pos (by rw [hsm]; rfl)])
            clear hst h0
            have q0 := free_of 0 HB.out.res
            have q1 := free_of 1 HB.out.res
            have q2 := free_of 2 HB.out.res
            have q3 := free_of 3 HB.out.res
            have r0 := cell_of HB.out.res (i := 0) (v := .string ⟨#[]⟩) rfl
            have r1 := cell_of HB.out.res (i := 1) (v := .slice none 0 0) rfl
            have r2 := cell_of HB.out.res (i := 2) (v := .string ⟨#[]⟩) rfl
            have r3 := cell_of HB.out.res (i := 3) (v := .slice none 0 0) rfl
            have rl := lt_of_block HB.out.res
            go_wp2_with fail
            have hz := block_set4 (a := .string ⟨#[]⟩) (b := .slice none 0 0) (c := .string ⟨#[]⟩) (d := .slice none 0 0) HB.out.res
            have e0 := cell_of hz (i := 0) (v := .string ⟨#[]⟩) rfl
            have e1 := cell_of hz (i := 1) (v := .slice none 0 0) rfl
            have e2 := cell_of hz (i := 2) (v := .string ⟨#[]⟩) rfl
            have e3 := cell_of hz (i := 3) (v := .slice none 0 0) rfl
            refine bodyPost_ret (v := .tuple #[.agg #[.string ⟨#[]⟩, .slice none 0 0, .string ⟨#[]⟩, .slice none 0 0], .int .i64 8]) (by simp [results, Tryz.results25, go_sem, e0, e1, e2, e3] <;> rfl) rfl ?_
            exact rbuild_err HB.out HE.out
          · have HDn := Lib.hid (fun (e : st = []) => show dn = none from by
              cases hd : dn with
              | none => rfl
              | some d => exact absurd ⟨by rw [← HLen.out, e]; rfl, by rw [hd]; rfl⟩ hes)
            have HRw := Lib.hid (show W1.ownsRow (w.heap.size + 2) 37 4 (.slice oa n oc) n xs by have h := HB1.out.stk.row; rw [HLen.out] at h; exact h)
            have HOne := Lib.hid (KidsV.one HB1.out.stk.kids)
            have m1 : W1.cell? ⟨W.heap.size, 1, none⟩ = some (.string (bs x.name)) := by rw [hW1]; exact y1
            have m2 : W1.cell? ⟨W.heap.size, 2, none⟩ = some (.slice aa x.attrs.length acap) := by rw [hW1]; exact y2
            have hWs : W.heap.size < W1.heap.size := by rw [hW1]; simp
            go_upto_region 14 with fail
            rw [← hW1]
            clear hW1 y0 y1 y2 y3
            go_cut [4, 6, 37] (fun s4 s6 s37 wx => s4 = .slice oa n oc ∧ s6 = .bool dn.isSome ∧ s37 = .bool false ∧ wx = W1)
            case first =>
              by_cases h0 : n = 0
              · have t0 : ((n : Int) == 0) = true := by rw [h0]; rfl
                have hds : dn.isSome = false := by
                  cases hd : dn.isSome with
                  | false => rfl
                  | true => exact absurd ⟨h0, hd⟩ hes
                have HDs := Lib.hid hds
                clear h0 hes
                go_wp2_with fail
                go_meet
                exact ⟨rfl, by rw [HDs.out], rfl, rfl⟩
              · have t0 : ((n : Int) == 0) = false := by rw [beq_eq_false_iff_ne]; omega
                clear h0 hes
                go_wp2_with fail
                go_meet
                exact ⟨rfl, rfl, rfl, rfl⟩
            case rest =>
              obtain ⟨rfl, rfl, rfl, hwx⟩ := hcut
              rw [hwx]
              clear hes hwx
              go_wp2_with fail
              go_region_law (first
                  | (refine step_append_row rfl (.tmp 39) (.tmp 40) 35 rfl W1.heap.size 37 i37 (.agg #[.string ⟨#[]⟩, .slice none 0 0, .string ⟨#[]⟩, .slice none 0 0]) 4 80 Tryz.underlying35 hi37 hz37 hs37 hb37 rfl (by decide) (.slice (some ⟨_, 0, none⟩) 0 0) 0 [] rfl (ownsRow_empty (by first | exact block_new_at (by simp) | exact block_old (block_new_at (by simp)) _) (by omega)) _ _ n xs rfl (SRow.of_owns (ownsRow_fr HRw.out (show Fr (fun _ => False) W1 _ by repeat (first | exact Fr.refl _ _ | refine Fr.drew ?_ | refine Fr.alloc ?_ _)))) HOne.out (by unfold maxLen; omega) (by omega) (by first | omega | (simp <;> omega)) ?_; intro b1 cap1 w2 hrow1 hgrow1 hat1; have hF1 : Fr (fun _ => False) W1 w2 := (show Fr (fun _ => False) W1 _ by repeat (first | exact Fr.refl _ _ | refine Fr.drew ?_ | refine Fr.alloc ?_ _)).trans hat1 (fun k hk => .inr hk); simp only [Nat.zero_add, List.nil_append] at hrow1; have m1 := hF1.cell m1 (fun h => h); have m2 := hF1.cell m2 (fun h => h); have hs2 := hF1.size; have hWs2 : W.heap.size < w2.heap.size := by omega)
                  | (refine step_append_row rfl (.tmp 41) (.tmp 47) 35 rfl W1.heap.size 37 i37 (.agg #[.string ⟨#[]⟩, .slice none 0 0, .string ⟨#[]⟩, .slice none 0 0]) 4 80 Tryz.underlying35 hi37 hz37 hs37 hb37 rfl (by decide) (.slice b1 n cap1) n _ rfl (by first | exact hrow1 | exact hrow1.alloc _) (fun _ => True) _ 1 [.string (bs x.name), .slice aa x.attrs.length acap, .string ⟨#[]⟩, .slice none 0 0] rfl (SRow.of_block (e := 37) (f := (0, 0)) (by first | exact block_new_at (by simp) | (refine block_grown ?_ hgrow1 (by simp [Value.ownBlock]); first | exact block_new_drew (by simp) | exact block_old_drew (block_new_at rfl) _)) rfl (by decide) trivial) (by intro u hu; simp at hu; rcases hu with rfl | rfl | rfl | rfl <;> rfl) (by unfold maxLen; omega) (by omega) (by first | omega | (simp <;> omega)) ?_; intro b2 cap2 w3 hrow2 hgrow2 hat2; have hF2 : Fr (fun _ => False) W1 w3 := (show Fr (fun _ => False) W1 _ by repeat (first | exact hF1 | refine Fr.drew ?_ | refine Fr.alloc ?_ _)).trans hat2 (fun k hk => .inr hk))
                  | fail)
              all_goals
                have HN := Lib.hid (RB.push HB1.out HX.out.1 HKd.out (by rw [HLen.out]; omega) HDn.out hF2 HLen.out hrow2 HAr.out)
                go_wp2_with fail
                go_roundg (l.length - (i + 1))
                case measure => have := HX.out.2; omega
                case rel => exact ⟨_, rfl, i + 1, n + 1, (.mk x.name x.attrs [] [] :: st), dn, _, _, _, _, _, _, _, rfl, by have := HX.out.2; omega, rfl, by go_num, by rw [List.length_cons, HLen.out], HN.out⟩
      have t1 : (x.kind == 1) = false := by rw [beq_eq_false_iff_ne]; exact k1
      by_cases k2 : x.kind = 2
      · have t2 : (x.kind == 2) = true := by rw [beq_iff_eq]; exact k2
        have HKd := Lib.hid k2
        clear k1 k2
        by_cases h0 : n = 0
        · have t0 : ((n : Int) == 0) = true := by rw [h0]; rfl
          have hst : st = [] := List.eq_nil_of_length_eq_zero (by rw [HLen.out]; exact h0)
          have HE := Lib.hid (show refB [] none l = .error 8 by rw [HB.out.tok HX.out.1, hst, refB_close0 HKd.out])
          clear hst
          have q0 := free_of 0 HB.out.res
          have q1 := free_of 1 HB.out.res
          have q2 := free_of 2 HB.out.res
          have q3 := free_of 3 HB.out.res
          have r0 := cell_of HB.out.res (i := 0) (v := .string ⟨#[]⟩) rfl
          have r1 := cell_of HB.out.res (i := 1) (v := .slice none 0 0) rfl
          have r2 := cell_of HB.out.res (i := 2) (v := .string ⟨#[]⟩) rfl
          have r3 := cell_of HB.out.res (i := 3) (v := .slice none 0 0) rfl
          have rl := lt_of_block HB.out.res
          go_wp2_with fail
          go_big_quiet (fail)
          go_wp2_with fail
          have hz := fun k => block_set4 (a := .string ⟨#[]⟩) (b := .slice none 0 0) (c := .string ⟨#[]⟩) (d := .slice none 0 0) (HB.out.fr2 ((Fr.refl (fun _ => False) _).drewN k)).res
          have e0 := fun k => cell_of (hz k) (i := 0) (v := .string ⟨#[]⟩) rfl
          have e1 := fun k => cell_of (hz k) (i := 1) (v := .slice none 0 0) rfl
          have e2 := fun k => cell_of (hz k) (i := 2) (v := .string ⟨#[]⟩) rfl
          have e3 := fun k => cell_of (hz k) (i := 3) (v := .slice none 0 0) rfl
          refine bodyPost_ret (v := .tuple #[.agg #[.string ⟨#[]⟩, .slice none 0 0, .string ⟨#[]⟩, .slice none 0 0], .int .i64 8]) (by simp [results, Tryz.results25, go_sem, e0, e1, e2, e3] <;> rfl) rfl ?_
          exact rbuild_err (HB.out.fr2 ((Fr.refl (fun _ => False) _).drewN _)) HE.out
        have t0 : ((n : Int) == 0) = false := by rw [beq_eq_false_iff_ne]; omega
        obtain ⟨y, s, hys⟩ : ∃ y s, st = y :: s := by
          cases st with
          | nil => exact absurd HLen.out.symm h0
          | cons y s => exact ⟨y, s, rfl⟩
        subst hys
        obtain ⟨q, hq⟩ : ∃ q : Nat, s.length = q := ⟨_, rfl⟩
        have hnq : n = q + 1 := by rw [← HLen.out, List.length_cons, hq]
        have HBs := Lib.hid (show RB l w S i (y :: s) dn (.slice oa (s.length + 1) oc) xs d0 d1 d2 d3 W1 by have h := HB1.out; rw [← HLen.out] at h; exact h)
        have hstk := HBs.out.stk
        obtain ⟨go, capo, ys, avo, kvo, zs, eov, hgo, hgl, ⟨curo, hcuro⟩, hco, hcm, exs, hysl, hks, hao, hk1, hk2, hcell⟩ := hstk.top
        injection eov with eoa _ eoc
        subst eoa eoc
        have hysl2 := hysl
        rw [hq] at hysl2 hco
        have HTop := Lib.hid (And.intro hysl (And.intro hks (And.intro hao (And.intro hk1 hk2))))
        have HExs := Lib.hid exs
        have HCur := Lib.hid hcuro
        have HCell := Lib.hid hcell
        have ca : ∀ (j : Nat) (u : Value), [Value.string (bs y.name), avo, .string (bs y.text), kvo][j]? = some u → W1.cell? ⟨go, q * 4 + j, none⟩ = some u := fun j u hj => hcell _ _ (by rw [exs, List.getElem?_append_right (by omega), hysl2, Nat.add_sub_cancel_left]; exact hj)
        have n0 := ca 0 _ rfl
        have n1 := ca 1 _ rfl
        have n2 := ca 2 _ rfl
        have n3 := ca 3 _ rfl
        rw [Nat.add_zero] at n0
        have hqw : IntKind.i64.wrap ((n : Int) - 1) = (q : Int) := by rw [IntWalk.i64_in _ (by omega)]; omega
        have hqn : (q : Int) < (n : Int) := by omega
        have HQ := Lib.hid (And.intro hq hnq)
        obtain ⟨_, ab1, ab2, rfl, _⟩ := id hao
        obtain ⟨_, kb1, kb2, rfl, _⟩ := id hk1
        clear hstk exs hysl hysl2 hks hao hk1 hk2 hcell ca hnq h0
        by_cases hnm : y.name = x.name
        · obtain ⟨u1, u2⟩ : ((bs y.name).toList != (bs x.name).toList) = false ∧ ((bs y.name).toList == (bs x.name).toList) = true := by rw [hnm]; simp
          have HNm := Lib.hid hnm
          clear hnm
          by_cases h1 : n = 1
          · have tn1 : ((n : Int) == 1) = true := by rw [h1]; rfl
            have hq0 : q = 0 := by have := HQ.out.2; omega
            have hn0 : n = 1 := h1
            have hs0 : s = [] := List.eq_nil_of_length_eq_zero (by rw [HQ.out.1]; exact hq0)
            subst hs0
            have hx4 : xs = [.string (bs y.name), .slice ab1 y.attrs.length ab2, .string (bs y.text), .slice kb1 y.kids.length kb2] := by
              have h := HExs.out
              have h2 := List.eq_nil_of_length_eq_zero (l := ys) (by rw [HTop.out.1]; rfl)
              rw [h2] at h; exact h
            have HX4 := Lib.hid hx4
            have hsl := fun w : World => head_run35 (a := some ⟨go, 0, none⟩) (len := n) (cap := oc) (k := 0) (i := IntKind.i64.wrap ((n : Int) - 1)) (by rw [hn0]; rfl) (Nat.zero_le _) w
            have hsl2 := fun w : World => head_run35 (a := some ⟨go, 0, none⟩) (len := n) (cap := oc) (k := 0) (i := 0) rfl (Nat.zero_le _) w
            obtain ⟨s0, b1, c1, p1, s2, b3, c3, p3, rfl, rfl, rfl, rfl⟩ := HB1.out.shape
            have m1 : W1.cell? ⟨W.heap.size, 1, none⟩ = some (.string (bs x.name)) := by rw [hW1]; exact y1
            subst hq0
            clear hx4
            go_wp2_with fail
            rw [← hW1]
            clear hW1 y0 y1 y2 y3
            go_big_quiet (fail)
            obtain ⟨Wq, hWq⟩ : ∃ Wq, Wq = W1.drewN nq := ⟨_, rfl⟩
            rw [← hWq]
            have hFq : Fr (fun _ => False) W1 Wq := by rw [hWq]; exact (Fr.refl _ _).drewN _
            clear hWq
            have n0 := hFq.cell n0 (fun h => h)
            have n1 := hFq.cell n1 (fun h => h)
            have n2 := hFq.cell n2 (fun h => h)
            have n3 := hFq.cell n3 (fun h => h)
            have HBq := Lib.hid (HBs.out.fr2 hFq)
            have hszq := HBq.out.size
            have hgq : go < Wq.heap.size := Nat.lt_of_lt_of_le hgl hFq.size
            have hD := HBq.out.done
            have w0 := cell_of hD (i := 0) (v := .string s0) rfl
            have w1 := cell_of hD (i := 1) (v := .slice b1 c1 p1) rfl
            have w2 := cell_of hD (i := 2) (v := .string s2) rfl
            have w3 := cell_of hD (i := 3) (v := .slice b3 c3 p3) rfl
            have v0 := free_of 0 hD
            have v1 := free_of 1 hD
            have v2 := free_of 2 hD
            have v3 := free_of 3 hD
            have hdl := lt_of_block hD
            have HN := Lib.hid ((RB.last HBs.out HX.out.1 HKd.out HNm.out hFq HX4.out ⟨_, _, _, _, _, _, _, _, rfl, rfl, rfl, rfl⟩).fr2 ((Fr.refl _ _).alloc (.cells #[.string (bs y.name), .slice ab1 y.attrs.length ab2, .string (bs y.text), .slice kb1 y.kids.length kb2] 37)))
            clear hD hFq m1
            go_wp2_with fail
            go_roundg (l.length - (i + 1))
            case measure => have := HX.out.2; omega
            case rel => exact ⟨_, rfl, i + 1, 0, [], some y, some ⟨go, 0, none⟩, oc, [], _, _, _, _, by first | rfl | simp, by have := HX.out.2; omega, rfl, by go_num, rfl, HN.out⟩
          · have tn1 : ((n : Int) == 1) = false := by rw [beq_eq_false_iff_ne]; omega
            obtain ⟨z, s2, hzs⟩ : ∃ z s2, s = z :: s2 := by
              cases s with
              | nil => exact absurd (by have h1 := HQ.out.1; have h2 := HQ.out.2; simp at h1; omega) h1
              | cons z s2 => exact ⟨z, s2, rfl⟩
            subst hzs
            obtain ⟨r, hr⟩ : ∃ r : Nat, s2.length = r := ⟨_, rfl⟩
            have hqr : q = r + 1 := by rw [← HQ.out.1, List.length_cons, hr]
            have hkr := HTop.out.2.1
            rw [List.reverse_cons] at hkr
            obtain ⟨ys2, zc, eys, hk3, hk4⟩ := hkr.split
            obtain ⟨azo, kzo, us, ezc, haz, hkz1, hkz2⟩ := (KidsV.one1.1 hk4).parts
            subst ezc
            have hys2 : ys2.length = r * 4 := by rw [hk3.len, List.length_reverse, hr]
            obtain ⟨_, za1, za2, rfl, _⟩ := id haz
            obtain ⟨_, zk1, zk2, rfl, _⟩ := id hkz1
            have cz0 : W1.cell? ⟨go, r * 4 + 3, none⟩ = some (.slice zk1 z.kids.length zk2) := HCell.out _ _ (by
              rw [HExs.out, eys, List.append_assoc, List.getElem?_append_right (by omega), hys2, Nat.add_sub_cancel_left]; rfl)
            have m1 : W1.cell? ⟨W.heap.size, 1, none⟩ = some (.string (bs x.name)) := by rw [hW1]; exact y1
            have hWs : W.heap.size < W1.heap.size := by rw [hW1]; simp
            have hqw2 : IntKind.i64.wrap ((n : Int) - 2) = (r : Int) := by
              have h3 := HQ.out.2
              rw [IntWalk.i64_in _ (by omega)]; omega
            have hrq : (r : Int) < (q : Int) := by omega
            have hcq : q ≤ oc := by omega
            have hsl := fun w : World => head_run35 (a := some ⟨go, 0, none⟩) (len := n) (cap := oc) (k := q) (i := IntKind.i64.wrap ((n : Int) - 1)) hqw hcq w
            have hsl2 := fun w : World => head_run35 (a := some ⟨go, 0, none⟩) (len := n) (cap := oc) (k := q) (i := (q : Int)) rfl hcq w
            have HR := Lib.hid (And.intro hr hqr)
            have HYs := Lib.hid (And.intro eys hys2)
            clear hqr hr eys hys2
            go_wp2_with fail
            rw [← hW1]
            clear hW1 y0 y1 y2 y3
            go_big_quiet (fail)
            obtain ⟨Wq, hWq⟩ : ∃ Wq, Wq = W1.drewN nq := ⟨_, rfl⟩
            rw [← hWq]
            have hFq : Fr (fun _ => False) W1 Wq := by rw [hWq]; exact (Fr.refl _ _).drewN _
            clear hWq
            have n0 := hFq.cell n0 (fun h => h)
            have n1 := hFq.cell n1 (fun h => h)
            have n2 := hFq.cell n2 (fun h => h)
            have n3 := hFq.cell n3 (fun h => h)
            have HBq := Lib.hid (HBs.out.fr2 hFq)
            have hszq := HBq.out.size
            have hgq : go < Wq.heap.size := Nat.lt_of_lt_of_le hgl hFq.size
            obtain ⟨W3, hW3⟩ : ∃ W3, W3 = Wq.alloc (.cells #[.string (bs y.name), .slice ab1 y.attrs.length ab2, .string (bs y.text), .slice kb1 y.kids.length kb2] 37) := ⟨_, rfl⟩
            have hF3 : Fr (fun _ => False) W1 W3 := by rw [hW3]; exact hFq.alloc _
            have hb3 : W3.heap[Wq.heap.size]? = some (.cells #[.string (bs y.name), .slice ab1 y.attrs.length ab2, .string (bs y.text), .slice kb1 y.kids.length kb2] 37 (0, 0)) := by rw [hW3]; exact block_new Wq _
            have HF3 := Lib.hid hF3
            have hzl : z.kids.length ≤ 60010 := by have := HBs.out.kid z (by simp); have := HX.out.2; omega
            have HKz := Lib.hid (And.intro (hkz1.fr hF3 fun _ _ e => e) (And.intro (KidsV.one hkz2) (And.intro hk3 (And.intro haz hkz2))))
            have cy0 := cell_of hb3 (i := 0) (v := .string (bs y.name)) rfl
            have cy1 := cell_of hb3 (i := 1) (v := .slice ab1 y.attrs.length ab2) rfl
            have cy2 := cell_of hb3 (i := 2) (v := .string (bs y.text)) rfl
            have cy3 := cell_of hb3 (i := 3) (v := .slice kb1 y.kids.length kb2) rfl
            have cz3 := hF3.cell cz0 (fun h => h)
            have HG3 := Lib.hid (hF3.keep HCur.out (fun h => h))
            have hW13 : Wq.heap.size < W3.heap.size := by rw [hW3]; simp
            have hg3l := lt_of_block HG3.out
            clear hkr hk3 hk4 haz hkz1 hkz2 hb3 hF3 cz0 hFq m1
            go_wp2_with fail
            rw [← hW3]
            clear hW3 hsl hsl2 n0 n1 n2 n3
            go_region_law (first
              | (refine step_append_row rfl (.tmp 80) (.tmp 86) 35 rfl W3.heap.size 37 i37 (.agg #[.string ⟨#[]⟩, .slice none 0 0, .string ⟨#[]⟩, .slice none 0 0]) 4 80 Tryz.underlying35 hi37 hz37 hs37 hb37 rfl (by decide) (.slice (some ⟨_, 0, none⟩) 0 0) 0 [] rfl (ownsRow_empty (by first | exact block_new_at (by simp) | exact block_old (block_new_at (by simp)) _) (by omega)) _ _ z.kids.length us rfl (HKz.out.1.fr (show Fr (fun _ => False) W3 _ by repeat (first | exact Fr.refl _ _ | refine Fr.drew ?_ | refine Fr.alloc ?_ _)) fun _ _ e => e) HKz.out.2.1 (by unfold maxLen; omega) (by omega) (by first | omega | (simp <;> omega)) ?_; intro b1 cap1 w2 hrow1 hgrow1 hat1; have hF1 : Fr (fun _ => False) W3 w2 := (show Fr (fun _ => False) W3 _ by repeat (first | exact Fr.refl _ _ | refine Fr.drew ?_ | refine Fr.alloc ?_ _)).trans hat1 (fun k hk => .inr hk); simp only [Nat.zero_add, List.nil_append] at hrow1; have cy0 := hF1.cell cy0 (fun h => h); have cy1 := hF1.cell cy1 (fun h => h); have cy2 := hF1.cell cy2 (fun h => h); have cy3 := hF1.cell cy3 (fun h => h); have hs2 := hF1.size; have hWs2 : Wq.heap.size < w2.heap.size := by omega)
              | (refine step_append_row rfl (.tmp 87) (.tmp 89) 35 rfl W3.heap.size 37 i37 (.agg #[.string ⟨#[]⟩, .slice none 0 0, .string ⟨#[]⟩, .slice none 0 0]) 4 80 Tryz.underlying35 hi37 hz37 hs37 hb37 rfl (by decide) (.slice b1 z.kids.length cap1) z.kids.length _ rfl (by first | exact hrow1 | exact hrow1.alloc _) (fun _ => True) _ 1 [.string (bs y.name), .slice ab1 y.attrs.length ab2, .string (bs y.text), .slice kb1 y.kids.length kb2] rfl (SRow.of_block (e := 37) (f := (0, 0)) (by first | exact block_new_at (by simp) | (refine block_grown ?_ hgrow1 (by simp [Value.ownBlock]); first | exact block_new_drew (by simp) | exact block_old_drew (block_new_at rfl) _)) rfl (by decide) trivial) (by intro u hu; simp at hu; rcases hu with rfl | rfl | rfl | rfl <;> rfl) (by unfold maxLen; omega) (by omega) (by first | omega | (simp <;> omega)) ?_; intro b2 cap2 w4 hrow2 hgrow2 hat2; have hF2 : Fr (fun _ => False) W3 w4 := (show Fr (fun _ => False) W3 _ by repeat (first | exact hF1 | refine Fr.drew ?_ | refine Fr.alloc ?_ _)).trans hat2 (fun k hk => .inr hk); have hg4 := hF2.keep HG3.out (fun h => h); have f4 := free_of (r * 4 + 3) hg4; have l4 := lt_of_block hg4; have cz4 := hF2.cell cz3 (fun h => h))
              | fail)
            all_goals
              have HN := Lib.hid (RB.close (y := y) (z := z) (s := s2) (ys := ys2) (us := us) (av := .slice za1 z.attrs.length za2) (kv := .slice zk1 z.kids.length zk2) (B := W3.heap.size) HBs.out HX.out.1 HKd.out HNm.out (by rw [HExs.out, HYs.out.1]) (by rw [HYs.out.2, HR.out.1]) (HF3.out.next hF2) (by cases y; exact NodeV.intro HTop.out.2.2.1 HTop.out.2.2.2.1 HTop.out.2.2.2.2) HKz.out.2.2.1 HKz.out.2.2.2.1 HKz.out.2.2.2.2 HF3.out.size hrow2)
              go_wp2_with fail
              go_roundg (l.length - (i + 1))
              case measure => have := HX.out.2; omega
              case rel => exact ⟨_, rfl, i + 1, q, (z.addKid y :: s2), dn, some ⟨go, 0, none⟩, oc, _, d0, d1, d2, d3, rfl, by have := HX.out.2; omega, rfl, by go_num, by rw [List.length_cons, HR.out.1, HR.out.2], by have h := HN.out; rw [HR.out.1, ← HR.out.2] at h; exact h⟩
        · obtain ⟨u0, u2⟩ := str_eq_f hnm
          have u1 : ((bs y.name).toList != (bs x.name).toList) = true := by rw [bne, u2]; rfl
          have HE := Lib.hid (show refB [] none l = .error 8 by rw [HB.out.tok HX.out.1, refB_close1 HKd.out, if_neg hnm])
          clear hnm
          have q0 := free_of 0 HB.out.res
          have q1 := free_of 1 HB.out.res
          have q2 := free_of 2 HB.out.res
          have q3 := free_of 3 HB.out.res
          have r0 := cell_of HB.out.res (i := 0) (v := .string ⟨#[]⟩) rfl
          have r1 := cell_of HB.out.res (i := 1) (v := .slice none 0 0) rfl
          have r2 := cell_of HB.out.res (i := 2) (v := .string ⟨#[]⟩) rfl
          have r3 := cell_of HB.out.res (i := 3) (v := .slice none 0 0) rfl
          have rl := lt_of_block HB.out.res
          rw [hW1] at n0 n1 n2 n3
          go_wp2_with fail
          go_big_quiet (fail)
          go_wp2_with fail
          have hz := fun k => block_set4 (a := .string ⟨#[]⟩) (b := .slice none 0 0) (c := .string ⟨#[]⟩) (d := .slice none 0 0) (HB.out.fr2 ((Fr.refl (fun _ => False) _).drewN k)).res
          have e0 := fun k => cell_of (hz k) (i := 0) (v := .string ⟨#[]⟩) rfl
          have e1 := fun k => cell_of (hz k) (i := 1) (v := .slice none 0 0) rfl
          have e2 := fun k => cell_of (hz k) (i := 2) (v := .string ⟨#[]⟩) rfl
          have e3 := fun k => cell_of (hz k) (i := 3) (v := .slice none 0 0) rfl
          refine bodyPost_ret (v := .tuple #[.agg #[.string ⟨#[]⟩, .slice none 0 0, .string ⟨#[]⟩, .slice none 0 0], .int .i64 8]) (by simp [results, Tryz.results25, go_sem, e0, e1, e2, e3] <;> rfl) rfl ?_
          exact rbuild_err (HB.out.fr2 ((Fr.refl (fun _ => False) _).drewN _)) HE.out
      have t2 : (x.kind == 2) = false := by rw [beq_eq_false_iff_ne]; exact k2
      by_cases k3 : x.kind = 3
      · have t3 : (x.kind == 3) = true := by rw [beq_iff_eq]; exact k3
        have HKd := Lib.hid k3
        clear k1 k2 k3
        have HBl := Lib.hid (rblanksD_h (w := (W.alloc (.cells #[.int .i64 x.kind, .string (bs x.name), .slice aa x.attrs.length acap, .string (bs x.text)] 97))) x.text htx.1)
        by_cases h0 : n = 0
        · have t0 : ((n : Int) == 0) = true := by rw [h0]; rfl
          have hn0 : ¬ (0 : Int) < (n : Int) := by omega
          have hst : st = [] := List.eq_nil_of_length_eq_zero (by rw [HLen.out]; exact h0)
          subst hst
          cases hb : x.text.all blankC with
          | true =>
            have HN := Lib.hid (RB.blank HI.out HX.out.1 HKd.out hb ((Fr.refl (fun _ => False) W).alloc (.cells #[.int .i64 x.kind, .string (bs x.name), .slice aa x.attrs.length acap, .string (bs x.text)] 97)))
            rw [hb] at HBl
            clear hb h0
            go_wp2_with fail
            refine Calls.mono HBl.out ?_
            rintro e w2 ⟨rfl, rfl⟩
            go_wp2_with fail
            go_roundg (l.length - (i + 1))
            case measure => have := HX.out.2; omega
            case rel => exact ⟨_, rfl, i + 1, n, [], dn, oa, oc, xs, d0, d1, d2, d3, rfl, by have := HX.out.2; omega, rfl, by go_num, HLen.out, HN.out⟩
          | false =>
            have HE := Lib.hid (show refB [] none l = .error 8 by rw [HB.out.tok HX.out.1, refB_words0 HKd.out, if_neg (by rw [hb]; decide)])
            rw [hb] at HBl
            clear hb
            have q0 := free_of 0 HB.out.res
            have q1 := free_of 1 HB.out.res
            have q2 := free_of 2 HB.out.res
            have q3 := free_of 3 HB.out.res
            have r0 := cell_of HB.out.res (i := 0) (v := .string ⟨#[]⟩) rfl
            have r1 := cell_of HB.out.res (i := 1) (v := .slice none 0 0) rfl
            have r2 := cell_of HB.out.res (i := 2) (v := .string ⟨#[]⟩) rfl
            have r3 := cell_of HB.out.res (i := 3) (v := .slice none 0 0) rfl
            have rl := lt_of_block HB.out.res
            go_wp2_with fail
            refine Calls.mono HBl.out ?_
            rintro e w2 ⟨rfl, rfl⟩
            go_wp2_with fail
            have hz := block_set4 (a := .string ⟨#[]⟩) (b := .slice none 0 0) (c := .string ⟨#[]⟩) (d := .slice none 0 0) HB.out.res
            have e0 := cell_of hz (i := 0) (v := .string ⟨#[]⟩) rfl
            have e1 := cell_of hz (i := 1) (v := .slice none 0 0) rfl
            have e2 := cell_of hz (i := 2) (v := .string ⟨#[]⟩) rfl
            have e3 := cell_of hz (i := 3) (v := .slice none 0 0) rfl
            refine bodyPost_ret (v := .tuple #[.agg #[.string ⟨#[]⟩, .slice none 0 0, .string ⟨#[]⟩, .slice none 0 0], .int .i64 8]) (by simp [results, Tryz.results25, go_sem, e0, e1, e2, e3] <;> rfl) rfl ?_
            exact rbuild_err HB.out HE.out
        · have t0 : ((n : Int) == 0) = false := by rw [beq_eq_false_iff_ne]; omega
          have hn0 : (0 : Int) < (n : Int) := by omega
          obtain ⟨y, s, hys⟩ : ∃ y s, st = y :: s := by
            cases st with
            | nil => exact absurd HLen.out.symm h0
            | cons y s => exact ⟨y, s, rfl⟩
          subst hys
          obtain ⟨q, hq⟩ : ∃ q : Nat, s.length = q := ⟨_, rfl⟩
          have hnq : n = q + 1 := by rw [← HLen.out, List.length_cons, hq]
          have HBs := Lib.hid (show RB l w S i (y :: s) dn (.slice oa (s.length + 1) oc) xs d0 d1 d2 d3 W1 by have h := HB1.out; rw [← HLen.out] at h; exact h)
          have hstk := HBs.out.stk
          obtain ⟨go, capo, ys, avo, kvo, zs, eov, hgo, hgl, ⟨curo, hcuro⟩, hco, hcm, exs, hysl, hks, hao, hk1, hk2, hcell⟩ := hstk.top
          injection eov with eoa _ eoc
          subst eoa eoc
          have hysl2 := hysl
          rw [hq] at hysl2 hco
          have HTop := Lib.hid (And.intro hysl (And.intro hks (And.intro hao (And.intro hk1 hk2))))
          have HExs := Lib.hid exs
          have HCur := Lib.hid hcuro
          have HCell := Lib.hid hcell
          have ca : ∀ (j : Nat) (u : Value), [Value.string (bs y.name), avo, .string (bs y.text), kvo][j]? = some u → W1.cell? ⟨go, q * 4 + j, none⟩ = some u := fun j u hj => hcell _ _ (by rw [exs, List.getElem?_append_right (by omega), hysl2, Nat.add_sub_cancel_left]; exact hj)
          have n0 := ca 0 _ rfl
          have n1 := ca 1 _ rfl
          have n2 := ca 2 _ rfl
          have n3 := ca 3 _ rfl
          rw [Nat.add_zero] at n0
          have hqw : IntKind.i64.wrap ((n : Int) - 1) = (q : Int) := by rw [IntWalk.i64_in _ (by omega)]; omega
          have hqn : (q : Int) < (n : Int) := by omega
          have HQ := Lib.hid (And.intro hq hnq)
          obtain ⟨_, ab1, ab2, rfl, _⟩ := id hao
          obtain ⟨_, kb1, kb2, rfl, _⟩ := id hk1
          clear hstk exs hysl hysl2 hks hao hk1 hk2 hcell ca hnq h0
          obtain ⟨bb, hbb⟩ : ∃ b, x.text.all blankC = b := ⟨_, rfl⟩
          rw [hbb] at HBl
          have f2 := free_of (q * 4 + 2) hcuro
          have m3 : W1.cell? ⟨W.heap.size, 3, none⟩ = some (.string (bs x.text)) := by rw [hW1]; exact y3
          have hyt := HB1.out.txt y (List.mem_cons_self ..)
          have hi2 := HX.out.2
          have hsum : ∀ w : World, (Op.stringOp .add (bs y.text) (bs x.text)).run Tryz.prog w = .ok (.string (bs (y.text ++ x.text))) w := fun w => by
            rw [← bs_append]
            refine run_string_add_sum w _ _ ?_
            have h1 := htx.1
            have h2 : i * txM ≤ 60009 * txM := Nat.mul_le_mul_right _ (by omega)
            rw [bs_size, bs_size]
            unfold txM at h1 h2 hyt
            omega
          clear hyt hi2 hbb
          go_wp2_with fail
          refine Calls.mono HBl.out ?_
          rintro e w2 ⟨rfl, rfl⟩
          go_wp2_with fail
          rw [← hW1]
          clear hW1 y0 y1 y2 y3
          go_still_tail 14, (by kernel_rfl)
          go_wp2_with fail
          have HN := Lib.hid (RB.words (W2 := W1.drewN 1) HBs.out HX.out.1 HKd.out htx.1 HExs.out HTop.out.1 ((Fr.refl _ _).drewN 1) HTop.out.2.1 HTop.out.2.2.1 HTop.out.2.2.2.1 HTop.out.2.2.2.2)
          go_roundg (l.length - (i + 1))
          case measure => have := HX.out.2; omega
          case rel => exact ⟨_, rfl, i + 1, n, (y.addText x.text :: s), dn, _, oc, _, d0, d1, d2, d3, rfl, by have := HX.out.2; omega, rfl, by go_num, by rw [List.length_cons, HQ.out.1, HQ.out.2], by have h := HN.out; rw [HQ.out.1, ← HQ.out.2] at h; exact h⟩
      have t3 : (x.kind == 3) = false := by rw [beq_eq_false_iff_ne]; exact k3
      have HE := Lib.hid (show refB [] none l = .error 8 by rw [HB.out.tok HX.out.1, refB_else k1 k2 k3])
      clear k1 k2 k3
      have q0 := free_of 0 HB.out.res
      have q1 := free_of 1 HB.out.res
      have q2 := free_of 2 HB.out.res
      have q3 := free_of 3 HB.out.res
      have r0 := cell_of HB.out.res (i := 0) (v := .string ⟨#[]⟩) rfl
      have r1 := cell_of HB.out.res (i := 1) (v := .slice none 0 0) rfl
      have r2 := cell_of HB.out.res (i := 2) (v := .string ⟨#[]⟩) rfl
      have r3 := cell_of HB.out.res (i := 3) (v := .slice none 0 0) rfl
      have rl := lt_of_block HB.out.res
      go_wp2_with fail
      have hz := block_set4 (a := .string ⟨#[]⟩) (b := .slice none 0 0) (c := .string ⟨#[]⟩) (d := .slice none 0 0) HB.out.res
      have e0 := cell_of hz (i := 0) (v := .string ⟨#[]⟩) rfl
      have e1 := cell_of hz (i := 1) (v := .slice none 0 0) rfl
      have e2 := cell_of hz (i := 2) (v := .string ⟨#[]⟩) rfl
      have e3 := cell_of hz (i := 3) (v := .slice none 0 0) rfl
      refine bodyPost_ret (v := .tuple #[.agg #[.string ⟨#[]⟩, .slice none 0 0, .string ⟨#[]⟩, .slice none 0 0], .int .i64 8]) (by simp [results, Tryz.results25, go_sem, e0, e1, e2, e3] <;> rfl) rfl ?_
      exact rbuild_err HB.out HE.out
    · have hil : l.length = i := by omega
      have hdr : l.drop i = [] := by rw [← hil]; exact List.drop_length
      have HEq := Lib.hid (show refB [] none l = refB st dn [] by rw [← hdr]; exact HI.out.eq)
      have q0 := free_of 0 HI.out.res
      have q1 := free_of 1 HI.out.res
      have q2 := free_of 2 HI.out.res
      have q3 := free_of 3 HI.out.res
      have r0 := cell_of HI.out.res (i := 0) (v := .string ⟨#[]⟩) rfl
      have r1 := cell_of HI.out.res (i := 1) (v := .slice none 0 0) rfl
      have r2 := cell_of HI.out.res (i := 2) (v := .string ⟨#[]⟩) rfl
      have r3 := cell_of HI.out.res (i := 3) (v := .slice none 0 0) rfl
      have rl := lt_of_block HI.out.res
      have hD := HI.out.done
      have hsz2 := HI.out.size
      obtain ⟨s0, b1, c1, p1, s2, b3, c3, p3, rfl, rfl, rfl, rfl⟩ := HI.out.shape
      have w0 := cell_of hD (i := 0) (v := .string s0) rfl
      have w1 := cell_of hD (i := 1) (v := .slice b1 c1 p1) rfl
      have w2 := cell_of hD (i := 2) (v := .string s2) rfl
      have w3 := cell_of hD (i := 3) (v := .slice b3 c3 p3) rfl
      clear hD hi hlt hdr
      subst hil
      cases dn with
      | none =>
        have HE := Lib.hid (show refB [] none l = .error 8 by rw [HEq.out]; cases st <;> rfl)
        go_wp2_with fail
        have hz := block_set4 (a := .string ⟨#[]⟩) (b := .slice none 0 0) (c := .string ⟨#[]⟩) (d := .slice none 0 0) HI.out.res
        have e0 := cell_of hz (i := 0) (v := .string ⟨#[]⟩) rfl
        have e1 := cell_of hz (i := 1) (v := .slice none 0 0) rfl
        have e2 := cell_of hz (i := 2) (v := .string ⟨#[]⟩) rfl
        have e3 := cell_of hz (i := 3) (v := .slice none 0 0) rfl
        refine bodyPost_ret (v := .tuple #[.agg #[.string ⟨#[]⟩, .slice none 0 0, .string ⟨#[]⟩, .slice none 0 0], .int .i64 8]) (by simp [results, Tryz.results25, go_sem, e0, e1, e2, e3] <;> rfl) rfl ?_
        exact rbuild_err HI.out HE.out
      | some d =>
        by_cases h0 : n = 0
        · have hst : st = [] := List.eq_nil_of_length_eq_zero (by rw [HLen.out]; exact h0)
          have HE := Lib.hid (show refB [] none l = .ok d by rw [HEq.out, hst]; rfl)
          have hn0 : ¬ (0 : Int) < (n : Int) := by omega
          clear hst
          go_wp2_with fail
          have hz := block_set4 (a := .string s0) (b := .slice b1 c1 p1) (c := .string s2) (d := .slice b3 c3 p3) HI.out.res
          have e0 := cell_of hz (i := 0) (v := .string s0) rfl
          have e1 := cell_of hz (i := 1) (v := .slice b1 c1 p1) rfl
          have e2 := cell_of hz (i := 2) (v := .string s2) rfl
          have e3 := cell_of hz (i := 3) (v := .slice b3 c3 p3) rfl
          refine bodyPost_ret (v := .tuple #[.agg #[.string s0, .slice b1 c1 p1, .string s2, .slice b3 c3 p3], .int .i64 0]) (by simp [results, Tryz.results25, go_sem, e0, e1, e2, e3] <;> rfl) rfl ?_
          exact rbuild_ok HI.out HE.out
        · have hn0 : (0 : Int) < (n : Int) := by omega
          have HE := Lib.hid (show refB [] none l = .error 8 by
            rw [HEq.out]
            cases st with
            | nil => exact absurd HLen.out.symm h0
            | cons y s => rfl)
          go_wp2_with fail
          have hz := block_set4 (a := .string ⟨#[]⟩) (b := .slice none 0 0) (c := .string ⟨#[]⟩) (d := .slice none 0 0) HI.out.res
          have e0 := cell_of hz (i := 0) (v := .string ⟨#[]⟩) rfl
          have e1 := cell_of hz (i := 1) (v := .slice none 0 0) rfl
          have e2 := cell_of hz (i := 2) (v := .string ⟨#[]⟩) rfl
          have e3 := cell_of hz (i := 3) (v := .slice none 0 0) rfl
          refine bodyPost_ret (v := .tuple #[.agg #[.string ⟨#[]⟩, .slice none 0 0, .string ⟨#[]⟩, .slice none 0 0], .int .i64 8]) (by simp [results, Tryz.results25, go_sem, e0, e1, e2, e3] <;> rfl) rfl ?_
          exact rbuild_err HI.out HE.out
end Go.Proofs.YtpinjgdnhbogoaaGreatDoor
