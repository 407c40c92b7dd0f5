/- same: is a tree the document's? -/
import Derived.Test.YtpinjgdnhbogoaaDoorNC
import Derived.BigQuiet
import Derived.StillTailTactics
namespace Go.Proofs.YtpinjgdnhbogoaaDoor
open Go.RowKit Go.Lib

def SamePost (a b : NodeD) (w : World) (e : Ending) (w' : World) : Prop := e = .returned (.bool (sameN a b)) ∧ Fr (fun _ => False) w w'
theorem str_eq_facts {s t : Str} (h : s ≠ t) : decide (bs s = bs t) = false ∧ ((bs s).toList == (bs t).toList) = false ∧ ((bs s).toList != (bs t).toList) = true := by
  have h2 : ((bs s).toList == (bs t).toList) = false := by rw [bs_eqv]; exact beq_eq_false_iff_ne.2 h
  exact ⟨decide_eq_false fun e => h (bs_inj e), h2, by rw [bne, h2]; rfl⟩
theorem int_ne_facts {a b : Nat} (h : a ≠ b) : ((a : Int) != (b : Int)) = true ∧ ((a : Int) == (b : Int)) = false := ⟨by rw [bne_iff_ne]; omega, beq_eq_false_iff_ne.2 (by omega)⟩
set_option maxRecDepth 100000 in
set_option maxHeartbeats 16000000 in
theorem same_h : ∀ (m : Nat) (a : NodeD), weighN a < m → ∀ (w : World) (S S2 : Nat → Prop) (b : NodeD) (c0 c1 c2 c3 d0 d1 d2 d3 : Value), NodeV w S a [c0, c1, c2, c3] → NodeV w S2 b [d0, d1, d2, d3] →
    Calls Tryd.prog 7 #[.agg #[c0, c1, c2, c3], .agg #[d0, d1, d2, d3]] w (SamePost a b w)
  | 0, _, h => by omega
  | m + 1, a, hm => by
    intro w S S2 b c0 c1 c2 c3 d0 d1 d2 d3 hna hnb
    obtain ⟨av, kv, xs, hcs, ha, hk, hks⟩ := hna.parts
    obtain ⟨bv, lv, ys, hds, hb, hl, hls⟩ := hnb.parts
    simp only [List.cons.injEq, and_true] at hcs hds
    obtain ⟨rfl, rfl, rfl, rfl⟩ := hcs
    obtain ⟨rfl, rfl, rfl, rfl⟩ := hds
    obtain ⟨-, a1, p1, rfl, ha1, ha2, -, -⟩ := id ha
    obtain ⟨-, a3, p3, rfl, hk1, hk2, -, -⟩ := id hk
    obtain ⟨-, b1, q1, rfl, hb1, hb2, -, -⟩ := id hb
    obtain ⟨-, b3, q3, rfl, hl1, hl2, -, -⟩ := id hl
    have hla : a.attrs.length ≤ maxLen := by omega
    have hlk : a.kids.length ≤ maxLen := by omega
    unfold maxLen at hla hlk
    by_cases n1 : a.name = b.name
    · by_cases n2 : a.text = b.text
      · by_cases n3 : a.attrs.length = b.attrs.length
        · by_cases n4 : a.kids.length = b.kids.length
          · have t1 : bs a.name = bs b.name := by rw [n1]
            have t2 : bs a.text = bs b.text := by rw [n2]
            have t3 : ((a.attrs.length : Int) != (a.attrs.length : Int)) = false := by simp
            have t4 : ((a.kids.length : Int) != (a.kids.length : Int)) = false := by simp
            rw [← n3] at hb ⊢
            rw [← n4] at hl ⊢
            have z1 := block_old (block_new w (.cells #[.string (bs a.name), .slice a1 a.attrs.length p1, .string (bs a.text), .slice a3 a.kids.length p3] 28)) (.cells #[.string (bs b.name), .slice b1 a.attrs.length q1, .string (bs b.text), .slice b3 a.kids.length q3] 37)
            have z2 := block_new_at (w := w.alloc (.cells #[.string (bs a.name), .slice a1 a.attrs.length p1, .string (bs a.text), .slice a3 a.kids.length p3] 28)) (x := .cells #[.string (bs b.name), .slice b1 a.attrs.length q1, .string (bs b.text), .slice b3 a.kids.length q3] 37) (n := w.heap.size + 1) (by simp)
            have hF0 : Fr (fun _ => False) w ((w.alloc (.cells #[.string (bs a.name), .slice a1 a.attrs.length p1, .string (bs a.text), .slice a3 a.kids.length p3] 28)).alloc (.cells #[.string (bs b.name), .slice b1 a.attrs.length q1, .string (bs b.text), .slice b3 a.kids.length q3] 37)) := ((Fr.refl _ _).alloc _).alloc _
            have HZ := Lib.hid (And.intro z1 (And.intro z2 hF0))
            have HN := Lib.hid (And.intro n1 (And.intro n2 (And.intro n3 n4)))
            have HA := Lib.hid ha
            have HB := Lib.hid hb
            have HK := Lib.hid (And.intro hk hks)
            have HL := Lib.hid (And.intro hl hls)
            have HM := Lib.hid hm
            have hIH := Lib.hid (same_h m)
            clear n1 n2 n3 n4 ha hb hk hks hl hls hm hna hnb z1 z2 hF0 ha1 ha2 hk1 hk2 hb1 hb2 hl1 hl2
            rw [← t1, ← t2] at HZ
            rw [← t1, ← t2]
            clear t1 t2
            go_enter Tryd.func7, Tryd.ntmps7
            go_wp2_with fail
            generalize (w.alloc (.cells #[.string (bs a.name), .slice a1 a.attrs.length p1, .string (bs a.text), .slice a3 a.kids.length p3] 28)).alloc (.cells #[.string (bs a.name), .slice b1 a.attrs.length q1, .string (bs a.text), .slice b3 a.kids.length q3] 37) = W0 at *
            have hA0 := HA.out.fr HZ.out.2.2 fun _ _ h => h
            have hB0 := HB.out.fr HZ.out.2.2 fun _ _ h => h
            have HA0 := Lib.hid hA0
            have HB0 := Lib.hid hB0
            have x1 := cell_of HZ.out.1 (i := 1) (v := .slice a1 a.attrs.length p1) rfl
            have x3 := cell_of HZ.out.1 (i := 3) (v := .slice a3 a.kids.length p3) rfl
            have y1 := cell_of HZ.out.2.1 (i := 1) (v := .slice b1 a.attrs.length q1) rfl
            have y3 := cell_of HZ.out.2.1 (i := 3) (v := .slice b3 a.kids.length q3) rfl
            clear hA0 hB0
            go_loopg [5] a.attrs.length (fun j v5 wr => ∃ i p : Nat, i + j = a.attrs.length ∧ v5 = .int .i64 i ∧ Hid (a.attrs.take i = b.attrs.take i) ∧ wr = W0.drewN p)
            case atStart => exact ⟨0, 0, by omega, rfl, by simp [Hid], rfl⟩
            case round =>
              obtain ⟨i, p, hi, rfl, HT, rfl⟩ := hrel
              by_cases hlt : i < a.attrs.length
              · obtain ⟨ga, oa, rfl, hca⟩ := HA0.out.cell (by omega)
                obtain ⟨gb, ob, rfl, hcb⟩ := HB0.out.cell (by omega)
                obtain ⟨r, hr⟩ : ∃ r, a.attrs[i]? = some r := ⟨_, List.getElem?_eq_getElem hlt⟩
                obtain ⟨z, hz⟩ : ∃ z, b.attrs[i]? = some z := ⟨_, List.getElem?_eq_getElem (by have := HN.out.2.2.1; omega)⟩
                obtain ⟨m0, m1⟩ := acells_at hr
                obtain ⟨n0, n1⟩ := acells_at hz
                have ca0 := hca _ _ m0
                have ca1 := hca _ _ m1
                have cb0 := hcb _ _ n0
                have cb1 := hcb _ _ n1
                rw [← Nat.add_assoc] at ca1 cb1
                have HK2 := Lib.hid (And.intro hi (And.intro hr hz))
                clear m0 m1 n0 n1 hca hcb hi hr hz
                by_cases r1 : r.1 = z.1
                · have t6 : bs r.1 = bs z.1 := by rw [r1]
                  by_cases r2 : r.2 = z.2
                  · have t7 : bs r.2 = bs z.2 := by rw [r2]
                    have HR := Lib.hid (And.intro r1 r2)
                    clear r1 r2
                    go_wp2_with fail
                    go_big_quiet (fail)
                    go_wp2_with fail
                    go_roundg (a.attrs.length - (i + 1))
                    case measure => have := HK2.out.1; omega
                    case rel =>
                      refine ⟨i + 1, _, by have := HK2.out.1; omega, by go_num, ?_, by first | rfl | exact World.drewN_drewN _ _ _⟩
                      show a.attrs.take (i + 1) = b.attrs.take (i + 1)
                      have h0 : a.attrs.take i = b.attrs.take i := HT.out
                      rw [List.take_add_one, List.take_add_one, h0, HK2.out.2.1, HK2.out.2.2, Prod.ext HR.out.1 HR.out.2]
                  · have t := str_eq_facts r2
                    have t7 := t.1
                    have t8 := t.2.1
                    have t9 := t.2.2
                    have HNo : Hid (sameN a b = false) := same_no fun e => by
                      have h2 := HK2.out.2.1; rw [e, HK2.out.2.2] at h2; cases h2; exact r2 rfl
                    clear r1 r2 t
                    go_wp2_with fail
                    go_big_quiet (fail)
                    go_wp2_with fail
                    go_ret
                    exact ⟨by rw [HNo.out] <;> rfl, (HZ.out.2.2.drewN _).drewN _⟩
                · have t := str_eq_facts r1
                  have t7 := t.1
                  have t8 := t.2.1
                  have t9 := t.2.2
                  have HNo : Hid (sameN a b = false) := same_no fun e => by
                    have h2 := HK2.out.2.1; rw [e, HK2.out.2.2] at h2; cases h2; exact r1 rfl
                  clear r1 t
                  go_wp2_with fail
                  go_big_quiet (fail)
                  go_wp2_with fail
                  go_ret
                  exact ⟨by rw [HNo.out] <;> rfl, (HZ.out.2.2.drewN _).drewN _⟩
              · have hi5 : i = a.attrs.length := by omega
                subst hi5
                have HAt : Hid (a.attrs = b.attrs) := by
                  have h1 : a.attrs.take a.attrs.length = b.attrs.take a.attrs.length := HT.out
                  rw [List.take_length, HN.out.2.2.1, List.take_length] at h1
                  exact h1
                clear hi
                go_wp2_with fail
                go_loopg [6] a.kids.length (fun j v6 wr => ∃ W, W = wr ∧ ∃ i : Nat, i + j = a.kids.length ∧ v6 = .int .i64 i ∧ Hid (a.kids.take i = b.kids.take i ∧ Fr (fun _ => False) W0 W))
                case atStart => exact ⟨_, rfl, 0, by omega, rfl, by simp, (Fr.refl _ _).drewN _⟩
                case round =>
                  obtain ⟨W, rfl, i, hi, rfl, HI⟩ := hrel
                  by_cases hlt : i < a.kids.length
                  · have hkr := (HK.out.1.fr HZ.out.2.2 fun _ _ h => h).fr HI.out.2 fun _ _ h => h
                    have hkv := KidsV.fr HI.out.2 (fun _ _ h => h) _ (KidsV.fr HZ.out.2.2 (fun _ _ h => h) _ HK.out.2)
                    have hlr := (HL.out.1.fr HZ.out.2.2 fun _ _ h => h).fr HI.out.2 fun _ _ h => h
                    have hlv := KidsV.fr HI.out.2 (fun _ _ h => h) _ (KidsV.fr HZ.out.2.2 (fun _ _ h => h) _ HL.out.2)
                    obtain ⟨x, hx⟩ : ∃ x, a.kids[i]? = some x := ⟨_, List.getElem?_eq_getElem hlt⟩
                    obtain ⟨y, hy⟩ : ∃ y, b.kids[i]? = some y := ⟨_, List.getElem?_eq_getElem (by have := HN.out.2.2.2; omega)⟩
                    obtain ⟨g, off, rfl, hc⟩ := hkr.cell (by omega)
                    obtain ⟨g2, off2, rfl, hc2⟩ := hlr.cell (by omega)
                    obtain ⟨j1, j2, j3, j4, j5, j6, hxv, k0, k1, k2, k3⟩ := kid_cells hc hkv hx
                    obtain ⟨l1, l2, l3, l4, l5, l6, hyv, o0, o1, o2, o3⟩ := kid_cells hc2 hlv hy
                    have z1 := HI.out.2.keep HZ.out.1 (fun h => h)
                    have z2 := HI.out.2.keep HZ.out.2.1 (fun h => h)
                    have u3 := cell_of z1 (i := 3) (v := .slice (some ⟨g, off, none⟩) a.kids.length p3) rfl
                    have w3 := cell_of z2 (i := 3) (v := .slice (some ⟨g2, off2, none⟩) a.kids.length q3) rfl
                    have HCall := Lib.hid (fun (W' : World) (hF : Fr (fun _ => False) W W') => hIH.out x (by have := weigh_in hx; have := HM.out; omega) W' S S2 y _ _ _ _ _ _ _ _ (NodeV.fr hF (fun _ _ h => h) x hxv) (NodeV.fr hF (fun _ _ h => h) y hyv))
                    have HX := Lib.hid (And.intro hi (And.intro hx hy))
                    clear hkr hkv hlr hlv hx hy hc hc2 hxv hyv z1 z2 hi x1 x3 y1 y3
                    cases hs : sameN x y with
                    | true =>
                      have HXY := Lib.hid ((sameN_iff x y).1 hs)
                      have HS := Lib.hid hs
                      clear hs
                      go_wp2_with fail
                      go_still_tail 10, (by kernel_rfl)
                      go_wp2_with fail
                      refine Calls.mono (HCall.out _ ((Fr.refl _ _).drewN 1)) ?_
                      rintro e w5 ⟨rfl, hF5⟩
                      rw [HS.out]
                      have HF5 := Lib.hid (HI.out.2.next (hF5.of_start))
                      clear hF5
                      go_wp2_with fail
                      go_roundg (a.kids.length - (i + 1))
                      case measure => have := HX.out.1; omega
                      case rel =>
                        refine ⟨_, rfl, i + 1, by have := HX.out.1; omega, by go_num, ?_, HF5.out⟩
                        rw [List.take_add_one, List.take_add_one, HI.out.1, HX.out.2.1, HX.out.2.2, HXY.out]
                    | false =>
                      have HNo : Hid (sameN a b = false) := same_no fun e => by
                        have h2 := HX.out.2.1; rw [e, HX.out.2.2] at h2
                        have h3 := (sameN_iff x y).2 (Option.some.inj h2).symm
                        rw [h3] at hs; cases hs
                      have HS := Lib.hid hs
                      clear hs
                      go_wp2_with fail
                      go_still_tail 10, (by kernel_rfl)
                      go_wp2_with fail
                      refine Calls.mono (HCall.out _ ((Fr.refl _ _).drewN 1)) ?_
                      rintro e w5 ⟨rfl, hF5⟩
                      rw [HS.out]
                      have HF5 := Lib.hid (HI.out.2.next (hF5.of_start))
                      clear hF5
                      go_wp2_with fail
                      go_ret
                      exact ⟨by rw [HNo.out] <;> rfl, HZ.out.2.2.next HF5.out⟩
                  · have hi6 : i = a.kids.length := by omega
                    have HYes : Hid (sameN a b = true) := same_yes (node_ext HN.out.1 HAt.out HN.out.2.1 (by
                      have h1 := HI.out.1
                      rw [hi6, List.take_length, HN.out.2.2.2, List.take_length] at h1
                      exact h1))
                    have z1 := HI.out.2.keep HZ.out.1 (fun h => h)
                    have u3 := cell_of z1 (i := 3) (v := .slice a3 a.kids.length p3) rfl
                    clear hi hi6 z1 x1 x3 y1 y3
                    go_wp2_with fail
                    go_ret
                    exact ⟨by rw [HYes.out] <;> rfl, HZ.out.2.2.next HI.out.2⟩
          · have t := int_ne_facts n4
            have t4 := t.1
            have t5 := t.2
            have t1 : bs a.name = bs b.name := by rw [n1]
            have t2 : bs a.text = bs b.text := by rw [n2]
            have t3 : ((a.attrs.length : Int) != (a.attrs.length : Int)) = false := by simp
            rw [← n3]
            have HN : Hid (sameN a b = false) := same_no fun e => n4 (by rw [e])
            clear t n1 n2 n3 n4 ha hb hk hks hl hls hm hna hnb ha1 ha2 hk1 hk2 hb1 hb2 hl1 hl2 hla hlk
            go_enter Tryd.func7, Tryd.ntmps7
            go_wp2_with fail
            go_ret
            exact ⟨by rw [HN.out] <;> rfl, ((Fr.refl _ _).alloc _).alloc _⟩
        · have t := int_ne_facts n3
          have t4 := t.1
          have t5 := t.2
          have t1 : bs a.name = bs b.name := by rw [n1]
          have t2 : bs a.text = bs b.text := by rw [n2]
          have HN : Hid (sameN a b = false) := same_no fun e => n3 (by rw [e])
          clear t n1 n2 n3 ha hb hk hks hl hls hm hna hnb ha1 ha2 hk1 hk2 hb1 hb2 hl1 hl2 hla hlk
          go_enter Tryd.func7, Tryd.ntmps7
          go_wp2_with fail
          go_ret
          exact ⟨by rw [HN.out] <;> rfl, ((Fr.refl _ _).alloc _).alloc _⟩
      · have t := str_eq_facts n2
        have t3 := t.1
        have t4 := t.2.1
        have t5 := t.2.2
        have t1 : bs a.name = bs b.name := by rw [n1]
        have HN : Hid (sameN a b = false) := same_no fun e => n2 (by rw [e])
        clear t n1 n2 ha hb hk hks hl hls hm hna hnb ha1 ha2 hk1 hk2 hb1 hb2 hl1 hl2 hla hlk
        go_enter Tryd.func7, Tryd.ntmps7
        go_wp2_with fail
        go_ret
        exact ⟨by rw [HN.out] <;> rfl, ((Fr.refl _ _).alloc _).alloc _⟩
    · have t := str_eq_facts n1
      have t3 := t.1
      have t4 := t.2.1
      have t5 := t.2.2
      have HN : Hid (sameN a b = false) := same_no fun e => n1 (by rw [e])
      clear t n1 ha hb hk hks hl hls hm hna hnb ha1 ha2 hk1 hk2 hb1 hb2 hl1 hl2 hla hlk
      go_enter Tryd.func7, Tryd.ntmps7
      go_wp2_with fail
      go_ret
      exact ⟨by rw [HN.out] <;> rfl, ((Fr.refl _ _).alloc _).alloc _⟩
end Go.Proofs.YtpinjgdnhbogoaaDoor
