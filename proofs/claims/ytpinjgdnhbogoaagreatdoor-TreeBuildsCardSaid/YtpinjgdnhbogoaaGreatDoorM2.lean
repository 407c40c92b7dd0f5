/- alike: two rows of tokens. -/
import Derived.Test.YtpinjgdnhbogoaaGreatDoorM1
namespace Go.Proofs.YtpinjgdnhbogoaaGreatDoor
open Go.RowKit Go.Lib

def TokV (w : World) (S : Nat → Prop) (v : Value) (l : List TokD) : Prop :=
  ∃ ps : List (TokD × Value), ps.map Prod.fst = l ∧ SRow w S 4 v ps.length (tcells ps) ∧ ∀ p ∈ ps, SRow w S 2 p.2 p.1.attrs.length (acells p.1.attrs)
theorem tcells_at : ∀ {ps : List (TokD × Value)} {k : Nat} {p : TokD × Value}, ps[k]? = some p → (tcells ps)[k * 4]? = some (.int .i64 p.1.kind) ∧ (tcells ps)[k * 4 + 1]? = some (.string (bs p.1.name)) ∧ (tcells ps)[k * 4 + 2]? = some p.2 ∧ (tcells ps)[k * 4 + 3]? = some (.string (bs p.1.text))
  | [], _, _, h => by simp at h
  | q :: ps, 0, p, h => by simp at h; subst h; simp [tcells, tc]
  | q :: ps, k + 1, p, h => by
    have ih := tcells_at (ps := ps) (k := k) (by simpa using h)
    have e : tcells (q :: ps) = .int .i64 q.1.kind :: .string (bs q.1.name) :: q.2 :: .string (bs q.1.text) :: tcells ps := by simp [tcells, tc]
    rw [e, show (k + 1) * 4 = k * 4 + 1 + 1 + 1 + 1 by omega]
    exact ih
structure ElemAt (w : World) (S : Nat → Prop) (g off i : Nat) (x : TokD) (av : Value) : Prop where
  c0 : w.cell? ⟨g, off + i * 4, none⟩ = some (.int .i64 x.kind)
  c1 : w.cell? ⟨g, off + i * 4 + 1, none⟩ = some (.string (bs x.name))
  c2 : w.cell? ⟨g, off + i * 4 + 2, none⟩ = some av
  c3 : w.cell? ⟨g, off + i * 4 + 3, none⟩ = some (.string (bs x.text))
  row : SRow w S 2 av x.attrs.length (acells x.attrs)
theorem TokV.elems {w : World} {S : Nat → Prop} {v : Value} {l : List TokD} (h : TokV w S v l) : ∃ a cap, v = .slice a l.length cap ∧ l.length ≤ cap ∧ cap ≤ maxLen ∧ (0 < l.length → ∃ g off, a = some ⟨g, off, none⟩ ∧ ∀ i x, l[i]? = some x → ∃ av, ElemAt w S g off i x av) := by
  obtain ⟨ps, rfl, hr, hrow⟩ := h
  have hlen : (ps.map Prod.fst).length = ps.length := List.length_map _
  obtain ⟨h0, a, cap, rfl, hnc, hcm, h5, h6⟩ := id hr
  refine ⟨a, cap, by rw [hlen], by omega, hcm, fun hpos => ?_⟩
  obtain ⟨g, off, rfl, hc⟩ := hr.cell (by omega)
  refine ⟨g, off, rfl, fun i x hx => ?_⟩
  rw [List.getElem?_map] at hx
  obtain ⟨p, hp, rfl⟩ := Option.map_eq_some_iff.1 hx
  obtain ⟨k0, k1, k2, k3⟩ := tcells_at hp
  have e1 := hc _ _ k1
  have e2 := hc _ _ k2
  have e3 := hc _ _ k3
  rw [← Nat.add_assoc] at e1 e2 e3
  exact ⟨p.2, hc _ _ k0, e1, e2, e3, hrow p (List.mem_of_getElem? hp)⟩
theorem Toks.view {B : Nat} {w : World} {v : Value} {l : List TokD} (h : Toks B w v l) : TokV w (fun k => B ≤ k ∧ k < w.heap.size) v l := by
  obtain ⟨ps, h1, h2, h3⟩ := h
  exact ⟨ps, h1, (SRow.of_owns h2).mono fun k hk => h2.lt k hk, fun p hp => (SRow.of_owns (h3 p hp)).mono fun k hk => (h3 p hp).lt k hk⟩
set_option maxRecDepth 100000 in
set_option maxHeartbeats 16000000 in
theorem alike_h {w : World} {S S2 : Nat → Prop} {v u : Value} {a b : List TokD} (ha : TokV w S v a) (hb : TokV w S2 u b) (hl : a.length ≤ 1000000) (hl2 : ∀ x ∈ a, x.attrs.length ≤ 1000000) :
    Calls Tryz.prog 37 #[v, u] w fun e w' => e = .returned (.bool (decide (a = b))) ∧ ∃ p, w' = w.drewN p := by
  obtain ⟨ad, cap, rfl, hc1, hc2, hA⟩ := ha.elems
  obtain ⟨bd, cap2, rfl, hd1, hd2, hB⟩ := hb.elems
  have HA := Lib.hid hA
  have HB := Lib.hid hB
  have HL2 := Lib.hid hl2
  clear ha hb hA hB hc1 hc2 hd1 hd2 hl2
  by_cases hlen : a.length = b.length
  · have HLen := Lib.hid hlen
    rw [← hlen]
    have hne : ((a.length : Int) != (a.length : Int)) = false := by simp
    clear hlen
    go_enter Tryz.func37, Tryz.ntmps37
    go_wp2_with fail
    go_loopg [5] a.length (fun j v5 wr => ∃ i p : Nat, i + j = a.length ∧ v5 = .int .i64 i ∧ Hid (a.take i = b.take i) ∧ wr = w.drewN p)
    case atStart => exact ⟨0, 0, by omega, rfl, by simp [Hid], rfl⟩
    case round =>
      obtain ⟨i, p, hi, rfl, HT, rfl⟩ := hrel
      by_cases hlt : i < a.length
      · obtain ⟨g, off, rfl, hA⟩ := HA.out (by omega)
        obtain ⟨g2, off2, rfl, hB⟩ := HB.out (by have := HLen.out; omega)
        obtain ⟨x, hx⟩ : ∃ x, a[i]? = some x := ⟨_, List.getElem?_eq_getElem hlt⟩
        obtain ⟨y, hy⟩ : ∃ y, b[i]? = some y := ⟨_, List.getElem?_eq_getElem (by have := HLen.out; omega)⟩
        obtain ⟨av, a0, a1, a2, a3, ar⟩ := hA i x hx
        obtain ⟨bv, b0, b1, b2, b3, br⟩ := hB i y hy
        obtain ⟨_, aa, acap, rfl, _, _, _, _⟩ := id ar
        obtain ⟨_, ba, bcap, rfl, _, _, _, _⟩ := id br
        have hxl : x.attrs.length ≤ 1000000 := HL2.out x (List.mem_of_getElem? hx)
        have HAr := Lib.hid ar
        have HBr := Lib.hid br
        have HX := Lib.hid (And.intro hx hy)
        have HI := Lib.hid hi
        clear hA hB ar br hx hy hi
        by_cases q1 : x.kind = y.kind
        · have t1 : (x.kind != y.kind) = false := by rw [q1]; simp
          have t2 : (x.kind == y.kind) = true := by rw [q1]; simp
          by_cases q2 : x.name = y.name
          · have t3 : (bs x.name) = (bs y.name) := by rw [q2]
            by_cases q3 : x.text = y.text
            · have t4 : (bs x.text) = (bs y.text) := by rw [q3]
              by_cases q4 : x.attrs.length = y.attrs.length
              · rw [← q4] at HBr b2
                have t5 : ((x.attrs.length : Int) != (x.attrs.length : Int)) = false := by simp
                have HQ4 := Lib.hid q4
                have HQ := Lib.hid (And.intro q1 (And.intro q2 q3))
                clear q4 q3 q2 q1
                go_wp2_with fail
                go_quiet (fail)
                go_wp2_with fail
                go_loopg [6] x.attrs.length (fun j v6 wr => ∃ k p2 : Nat, k + j = x.attrs.length ∧ v6 = .int .i64 k ∧ Hid (x.attrs.take k = y.attrs.take k) ∧ wr = w.drewN p2)
                case atStart => exact ⟨0, _, by omega, rfl, by simp [Hid], World.drewN_drewN _ _ _⟩
                case round =>
                  obtain ⟨k, p2, hk, rfl, HT2, rfl⟩ := hrel
                  by_cases hlt2 : k < x.attrs.length
                  · obtain ⟨ga, oa, rfl, hca⟩ := HAr.out.cell (by omega)
                    obtain ⟨gb, ob, rfl, hcb⟩ := HBr.out.cell (by omega)
                    obtain ⟨r, hr⟩ : ∃ r, x.attrs[k]? = some r := ⟨_, List.getElem?_eq_getElem hlt2⟩
                    obtain ⟨z, hz⟩ : ∃ z, y.attrs[k]? = some z := ⟨_, List.getElem?_eq_getElem (by have := HQ4.out; omega)⟩
                    obtain ⟨m0, m1⟩ := acells_at hr
                    obtain ⟨n0, n1⟩ := acells_at hz
                    have ca0 := hca _ _ m0
                    have ca1 := hca _ _ m1
                    have cb0 := hcb _ _ n0
                    have cb1 := hcb _ _ n1
                    rw [← Nat.add_assoc] at ca1 cb1
                    have HK := Lib.hid (And.intro hk (And.intro hr hz))
                    clear m0 m1 n0 n1 hca hcb hk hr hz
                    by_cases r1 : r.1 = z.1
                    · have t6 : bs r.1 = bs z.1 := by rw [r1]
                      by_cases r2 : r.2 = z.2
                      · have t7 : bs r.2 = bs z.2 := by rw [r2]
                        have HR := Lib.hid (And.intro r1 r2)
                        clear r1 r2
                        go_wp2_with fail
                        go_quiet (fail)
                        go_wp2_with fail
                        go_roundg (x.attrs.length - (k + 1))
                        case measure => have := HK.out.1; omega
                        case rel =>
                          refine ⟨k + 1, _, by have := HK.out.1; omega, by go_num, ?_, by first | rfl | exact World.drewN_drewN _ _ _⟩
                          show x.attrs.take (k + 1) = y.attrs.take (k + 1)
                          have h0 : x.attrs.take k = y.attrs.take k := HT2.out
                          rw [List.take_add_one, List.take_add_one, h0, HK.out.2.1, HK.out.2.2, Prod.ext HR.out.1 HR.out.2]
                      · have t7 : decide (bs r.2 = bs z.2) = false := decide_eq_false fun e => r2 (bs_inj e)
                        have t8 : ((bs r.2).toList == (bs z.2).toList) = false := by rw [bs_eqv]; exact beq_eq_false_iff_ne.2 r2
                        have t9 : ((bs r.2).toList != (bs z.2).toList) = true := by rw [bne, t8]; rfl
                        have HN : Hid (a ≠ b) := fun e => by
                          have h1 := HX.out.1; rw [e, HX.out.2] at h1; cases h1
                          have h2 := HK.out.2.1; rw [HK.out.2.2] at h2; cases h2; exact r2 rfl
                        clear r1 r2
                        go_wp2_with fail
                        go_quiet (fail)
                        go_wp2_with fail
                        go_ret
                        exact ⟨by rw [decide_eq_false HN.out] <;> rfl, _, World.drewN_drewN _ _ _⟩
                    · have t7 : decide (bs r.1 = bs z.1) = false := decide_eq_false fun e => r1 (bs_inj e)
                      have t8 : ((bs r.1).toList == (bs z.1).toList) = false := by rw [bs_eqv]; exact beq_eq_false_iff_ne.2 r1
                      have t9 : ((bs r.1).toList != (bs z.1).toList) = true := by rw [bne, t8]; rfl
                      have HN : Hid (a ≠ b) := fun e => by
                        have h1 := HX.out.1; rw [e, HX.out.2] at h1; cases h1
                        have h2 := HK.out.2.1; rw [HK.out.2.2] at h2; cases h2; exact r1 rfl
                      clear r1
                      go_wp2_with fail
                      go_quiet (fail)
                      go_wp2_with fail
                      go_ret
                      exact ⟨by rw [decide_eq_false HN.out] <;> rfl, _, World.drewN_drewN _ _ _⟩
                  · have hk5 : k = x.attrs.length := by omega
                    subst hk5
                    have HXY : Hid (x = y) := by
                      have h1 : x.attrs.take x.attrs.length = y.attrs.take x.attrs.length := HT2.out
                      rw [List.take_length, HQ4.out, List.take_length] at h1
                      cases x; cases y
                      simp only at h1
                      have h2 := HQ.out
                      simp only at h2
                      obtain ⟨h2, h3, h4⟩ := h2
                      subst h1 h2 h3 h4
                      rfl
                    clear hlt2 hk
                    go_wp2_with fail
                    go_roundg (a.length - (i + 1))
                    case measure => have := HI.out; omega
                    case rel =>
                      refine ⟨i + 1, p2, by have := HI.out; omega, by go_num, ?_, rfl⟩
                      show a.take (i + 1) = b.take (i + 1)
                      have h0 : a.take i = b.take i := HT.out
                      rw [List.take_add_one, List.take_add_one, h0, HX.out.1, HX.out.2, HXY.out]
              · have t5 : ((x.attrs.length : Int) != (y.attrs.length : Int)) = true := by rw [bne_iff_ne]; omega
                have t6 : ((x.attrs.length : Int) == (y.attrs.length : Int)) = false := beq_eq_false_iff_ne.2 (by omega)
                have HQ : Hid (a ≠ b) := fun e => by have := HX.out.1; rw [e, HX.out.2] at this; cases this; exact q4 rfl
                clear q4 q3 q2 q1
                go_wp2_with fail
                go_quiet (fail)
                go_wp2_with fail
                go_ret
                exact ⟨by rw [decide_eq_false HQ.out] <;> rfl, _, World.drewN_drewN _ _ _⟩
            · have t4 : decide (bs x.text = bs y.text) = false := decide_eq_false fun e => q3 (bs_inj e)
              have t5 : ((bs x.text).toList == (bs y.text).toList) = false := by rw [bs_eqv]; exact beq_eq_false_iff_ne.2 q3
              have t6 : ((bs x.text).toList != (bs y.text).toList) = true := by rw [bne, t5]; rfl
              have HQ : Hid (a ≠ b) := fun e => by have := HX.out.1; rw [e, HX.out.2] at this; cases this; exact q3 rfl
              clear q3 q2 q1
              go_wp2_with fail
              go_quiet (fail)
              go_wp2_with fail
              go_ret
              exact ⟨by rw [decide_eq_false HQ.out] <;> rfl, _, World.drewN_drewN _ _ _⟩
          · have t4 : decide (bs x.name = bs y.name) = false := decide_eq_false fun e => q2 (bs_inj e)
            have t5 : ((bs x.name).toList == (bs y.name).toList) = false := by rw [bs_eqv]; exact beq_eq_false_iff_ne.2 q2
            have t6 : ((bs x.name).toList != (bs y.name).toList) = true := by rw [bne, t5]; rfl
            have HQ : Hid (a ≠ b) := fun e => by have := HX.out.1; rw [e, HX.out.2] at this; cases this; exact q2 rfl
            clear q2 q1
            go_wp2_with fail
            go_quiet (fail)
            go_wp2_with fail
            go_ret
            exact ⟨by rw [decide_eq_false HQ.out] <;> rfl, _, World.drewN_drewN _ _ _⟩
        · have t1 : (x.kind != y.kind) = true := by rw [bne_iff_ne]; exact q1
          have t2 : (x.kind == y.kind) = false := beq_eq_false_iff_ne.2 q1
          have HQ : Hid (a ≠ b) := fun e => by have := HX.out.1; rw [e, HX.out.2] at this; cases this; exact q1 rfl
          clear q1
          go_wp2_with fail
          go_quiet (fail)
          go_wp2_with fail
          go_ret
          exact ⟨by rw [decide_eq_false HQ.out] <;> rfl, _, World.drewN_drewN _ _ _⟩
      · have hi5 : i = a.length := by omega
        subst hi5
        have HE : Hid (a = b) := by
          have h1 : a.take a.length = b.take a.length := HT.out
          rw [List.take_length, HLen.out, List.take_length] at h1
          exact h1
        clear hlt hi
        go_wp2_with fail
        go_ret
        exact ⟨by rw [decide_eq_true HE.out] <;> rfl, p, rfl⟩
  · have t1 : ((a.length : Int) != (b.length : Int)) = true := by rw [bne_iff_ne]; omega
    have t2 : ((a.length : Int) == (b.length : Int)) = false := beq_eq_false_iff_ne.2 (by omega)
    have HQ : Hid (a ≠ b) := fun e => hlen (by rw [e])
    clear hlen
    go_enter Tryz.func37, Tryz.ntmps37
    go_wp2_with fail
    go_ret
    exact ⟨by rw [decide_eq_false HQ.out] <;> rfl, 0, rfl⟩
end Go.Proofs.YtpinjgdnhbogoaaGreatDoor

/- shown: chapter 11's examples. -/
namespace Go.Proofs.YtpinjgdnhbogoaaGreatDoor
open Go.RowKit Go.Lib

theorem read_at {w : World} (hE : Env w) {s : Str} {l : List TokD} {a b : Int} (hr : readD s = (l, a, b)) (hs : s.length ≤ 1000000) :
    Calls Tryz.prog 35 #[.string (bs s)] w fun e w' => (∃ v, e = .returned (.tuple #[v, .int .i64 a, .int .i64 b]) ∧ Toks w.heap.size w' v l) ∧ Fr (fun _ => False) w w' := by
  refine (read_h hE s hs).mono fun e w' h => ?_
  unfold ReadPost at h
  rw [hr] at h
  exact h
theorem Toks.sliced {B : Nat} {w : World} {v : Value} {l : List TokD} (h : Toks B w v l) : ∃ a cap, v = .slice a l.length cap ∧ l.length ≤ cap ∧ cap ≤ maxLen := by
  obtain ⟨a, cap, h1, h2, h3, _⟩ := h.view.elems
  exact ⟨a, cap, h1, h2, h3⟩
def ex1 : Str := [60, 97, 32, 98, 61, 34, 49, 38, 97, 109, 112, 59, 50, 34, 62, 120, 60, 33, 45, 45, 32, 121, 32, 45, 45, 62, 60, 33, 91, 67, 68, 65, 84, 65, 91, 60, 122, 62, 93, 93, 62, 60, 47, 97, 62]
def ex1T : List TokD := [⟨1, [97], [([98], [49, 38, 50])], []⟩, ⟨3, [], [], [120, 60, 122, 62]⟩, ⟨2, [97], [], []⟩]
theorem r1 : readD ex1 = (ex1T, 0, 0) := by decide +kernel
theorem r2 : readD [60, 97, 47, 62] = ([⟨1, [97], [], []⟩, ⟨2, [97], [], []⟩], 0, 0) := by decide +kernel
theorem r3 : readD [60, 97, 32, 98, 61, 49, 62] = ([], 8, 0) := by decide +kernel
theorem r4 : readD [120, 38, 121, 59] = ([], 8, 1) := by decide +kernel
theorem r5 : readD [60, 97, 32, 98, 61, 34, 49, 34, 32, 98, 61, 34, 50, 34, 62] = ([], 8, 0) := by decide +kernel
theorem r6 : readD [60, 97] = ([], 8, 0) := by decide +kernel
theorem e1 : escL [97, 38, 39] = [97, 38, 97, 109, 112, 59, 38, 97, 112, 111, 115, 59] := by decide +kernel
set_option maxHeartbeats 4000000 in
theorem wrong_h {w : World} (hE : Env w) {s : Str} {n : Int} (hr : readD s = ([], 8, n)) (hs : s.length ≤ 1000000) :
    Calls Tryz.prog 74 #[.string (bs s), .int .i64 n] w fun e w' => e = .returned (.bool true) ∧ Fr (fun _ => False) w w' := by
  have H := Lib.hid (read_at hE hr hs)
  clear hr hE
  go_enter Tryz.func74, Tryz.ntmps74
  go_wp2_with fail
  refine H.out.mono ?_
  rintro e w1 ⟨⟨v, rfl, hT⟩, hF⟩
  obtain ⟨a, cap, rfl, _, _⟩ := hT.sliced
  have HF := Lib.hid hF
  clear hT hF
  go_wp2_with fail
  go_ret
  exact ⟨rfl, HF.out⟩
set_option maxRecDepth 100000 in
set_option maxHeartbeats 4000000 in
theorem shown_h {w : World} (hE : Env w) : Calls Tryz.prog 34 #[] w fun e w' => e = .returned (.bool true) ∧ Fr (fun _ => False) w w' := by
  have H1 := Lib.hid (read_at hE r1 (by decide))
  have HE := Lib.hid hE
  clear hE
  go_enter Tryz.func34, Tryz.ntmps34
  go_wp2_with fail
  refine Calls.mono H1.out ?_
  rintro e w1 ⟨⟨v, rfl, hT⟩, hF⟩
  obtain ⟨a, cap, rfl, _, _⟩ := hT.sliced
  have HF := Lib.hid hF
  have HT := Lib.hid hT
  clear hT hF
  go_wp2_with fail
  obtain ⟨w3, hw3⟩ : ∃ w3, (w1.alloc (Obj.cells #[Value.string ⟨#[98]⟩, Value.string ⟨#[49, 38, 50]⟩] 95)).alloc (Obj.cells #[Value.int IntKind.i64 1, Value.string ⟨#[97]⟩, Value.slice (some ⟨w1.heap.size, 0, none⟩) 1 1, Value.string ⟨#[]⟩, Value.int IntKind.i64 3, Value.string ⟨#[]⟩, Value.slice none 0 0, Value.string ⟨#[120, 60, 122, 62]⟩, Value.int IntKind.i64 2, Value.string ⟨#[97]⟩, Value.slice none 0 0, Value.string ⟨#[]⟩] 97) = w3 := ⟨_, rfl⟩
  have hF3 : Fr (fun _ => False) w1 w3 := by rw [← hw3]; exact ((Fr.refl _ _).alloc _).alloc _
  have hU : TokV w3 (fun _ => True) (.slice (some ⟨w1.heap.size + 1, 0, none⟩) 3 3) ex1T := by
    refine ⟨[(⟨1, [97], [([98], [49, 38, 50])], []⟩, .slice (some ⟨w1.heap.size, 0, none⟩) 1 1), (⟨3, [], [], [120, 60, 122, 62]⟩, .slice none 0 0), (⟨2, [97], [], []⟩, .slice none 0 0)], rfl, ?_, fun p hp => ?_⟩
    · rw [← hw3]
      exact SRow.of_block (e := 97) (f := (0, 0)) (block_new_at (by simp)) rfl (by unfold maxLen; simp) trivial
    · simp only [List.mem_cons, List.not_mem_nil, or_false] at hp
      rcases hp with rfl | rfl | rfl
      · rw [← hw3]
        exact SRow.of_block (e := 95) (f := (0, 0)) (((Fr.refl (fun _ => False) _).alloc _).keep (block_new _ _) (fun h => h)) rfl (by unfold maxLen; simp) trivial
      · exact SRow.nil _ _ _
      · exact SRow.nil _ _ _
  rw [hw3]
  refine Calls.mono (alike_h (HT.out.fr hF3).view hU (by decide) (by decide)) ?_
  rintro e w4 ⟨rfl, p, rfl⟩
  have hd : decide (ex1T = ex1T) = true := by simp
  rw [hd]
  have HF4 := Lib.hid ((HF.out.next hF3).drewN p)
  clear hw3 hF3 hU hd
  generalize w3.drewN p = w4 at HF4 ⊢
  go_wp2_with fail
  refine Calls.mono (read_at (HE.out.grow HF4.out) r2 (by decide)) ?_
  rintro e w5 ⟨⟨v5, rfl, hT5⟩, hF5⟩
  obtain ⟨a5, cap5, rfl, _, _⟩ := hT5.sliced
  have HF5 := Lib.hid (HF4.out.next hF5)
  clear hT5 hF5
  go_wp2_with fail
  refine Calls.mono (wrong_h (HE.out.grow HF5.out) r3 (by decide)) ?_
  rintro e w6 ⟨rfl, hF6⟩
  have HF6 := Lib.hid (HF5.out.next hF6)
  clear hF6
  go_wp2_with fail
  refine Calls.mono (wrong_h (HE.out.grow HF6.out) r4 (by decide)) ?_
  rintro e w7 ⟨rfl, hF7⟩
  have HF7 := Lib.hid (HF6.out.next hF7)
  clear hF7
  go_wp2_with fail
  refine Calls.mono (wrong_h (HE.out.grow HF7.out) r5 (by decide)) ?_
  rintro e w8 ⟨rfl, hF8⟩
  have HF8 := Lib.hid (HF7.out.next hF8)
  clear hF8
  go_wp2_with fail
  refine Calls.mono (wrong_h (HE.out.grow HF8.out) r6 (by decide)) ?_
  rintro e w9 ⟨rfl, hF9⟩
  have HF9 := Lib.hid (HF8.out.next hF9)
  clear hF9
  go_wp2_with fail
  refine Calls.mono (escape_h [97, 38, 39] (by decide)) ?_
  rintro e w10 ⟨rfl, hF10⟩
  have HF10 := Lib.hid (HF9.out.next hF10)
  clear hF10
  rw [e1]
  have hst : (bs [97, 38, 97, 109, 112, 59, 38, 97, 112, 111, 115, 59]).toList = [97, 38, 97, 109, 112, 59, 38, 97, 112, 111, 115, 59] := bs_toList _
  go_wp2_with fail
  trace_state
  go_ret
  exact ⟨rfl, HF10.out⟩
end Go.Proofs.YtpinjgdnhbogoaaGreatDoor
