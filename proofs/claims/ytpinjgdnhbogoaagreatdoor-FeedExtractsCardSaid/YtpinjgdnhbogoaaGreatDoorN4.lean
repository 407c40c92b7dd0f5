/- The walk of tree's element. -/
import Derived.Test.YtpinjgdnhbogoaaGreatDoorN3
import Derived.Test.YtpinjgdnhbogoaaGreatDoorQ1
import Derived.Deep.RegionLaw
import Derived.Deep.RegionHeld3
import Derived.Deep.DeepCutAuto
namespace Go.Proofs.YtpinjgdnhbogoaaGreatDoor
open Go.RowKit Go.Lib

theorem ent68 : ∀ args w, (callFunc 68 args).run Tryz.prog w = .ok (.enter 68 args) w := enters_of Tryz.func68 (by kernel_rfl) rfl
def ElemPost (b : Nat) (S : Nat → Prop) (d : Nat) (nm : Str) (la : List (Str × Str)) (l : List TokD) (w : World) (e : Ending) (w' : World) : Prop :=
  ∃ c0 c1 c2 c3 lv er, e = .returned (.agg #[c0, c1, c2, c3]) ∧ NShape c0 c1 c2 c3 ∧ w'.heap[b]? = some (.cells #[lv, .int .i64 er] 100 (0, 0)) ∧ Fr (fun k => k = b) w w' ∧
    match elemOut d nm la l with
    | .ok (n, r) => er = 0 ∧ NodeV w' (fun k => w.heap.size ≤ k ∧ k < w'.heap.size) n [c0, c1, c2, c3] ∧ TokV w' S lv r
    | .error x => er = x
theorem elem_post_bad {b nb : Nat} {S : Nat → Prop} {d : Nat} {nm : Str} {la : List (Str × Str)} {l : List TokD} {w W : World} {x : Int} {lv c0 c1 c2 c3 : Value} (h : ElBad b nb x w lv c0 c1 c2 c3 W) (he : elemOut d nm la l = .error x) {W2 : World} (hf : Fr (fun k => k = w.heap.size + 1) W W2) :
    ElemPost b S d nm la l w (.returned (.agg #[c0, c1, c2, c3])) W2 :=
  ⟨c0, c1, c2, c3, lv, x, rfl, h.shape, hf.keep h.bld (by have := h.pos; omega), h.fr.trans hf fun k e => .inr (by omega), by rw [he]⟩
theorem fr_set4 (w : World) (n : Nat) (a b c d : Value) : Fr (fun k => k = n) w ((((w.setCell ⟨n, 0, none⟩ a).setCell ⟨n, 1, none⟩ b).setCell ⟨n, 2, none⟩ c).setCell ⟨n, 3, none⟩ d) :=
  (((fr_set w n 0 a).next (fr_set _ n 1 b)).next (fr_set _ n 2 c)).next (fr_set _ n 3 d)
theorem cell_set4 {w : World} {p : Addr} {n : Nat} {v a b c d : Value} (h : w.cell? p = some v) (hb : p.block ≠ n) : ((((w.setCell ⟨n, 0, none⟩ a).setCell ⟨n, 1, none⟩ b).setCell ⟨n, 2, none⟩ c).setCell ⟨n, 3, none⟩ d).cell? p = some v := (fr_set4 w n a b c d).cell h hb
theorem block_set4 {w : World} {n : Nat} {x0 x1 x2 x3 a b c d : Value} {e : TypeId} {f : Nat × Nat} (h : w.heap[n]? = some (.cells #[x0, x1, x2, x3] e f)) : ((((w.setCell ⟨n, 0, none⟩ a).setCell ⟨n, 1, none⟩ b).setCell ⟨n, 2, none⟩ c).setCell ⟨n, 3, none⟩ d).heap[n]? = some (.cells #[a, b, c, d] e f) :=
  block_set (block_set (block_set (block_set h 0 a) 1 b) 2 c) 3 d
theorem ElIn.kidAny {b nb nk : Nat} {S : Nat → Prop} {d : Nat} {nm : Str} {la : List (Str × Str)} {l0 : List TokD} {w0 : World} {l : List TokD} {tx : Str} {ks : List NodeD} {lv av kv : Value} {W : World} {x : TokD} {w5 w6 w7 : World} {er : Int} {lv5 kv7 : Value} {xs cs : List Value} (h : ElIn b nb nk S d nm la l0 w0 (x :: l) l tx ks lv av kv W) (hk : x.kind = 1) (hd : d < 20)
    (hrow : W.ownsRow nk 30 4 kv ks.length xs) (hkids : KidsV W (fun k => nk ≤ k ∧ k < W.heap.size ∧ kv.ownBlock ≠ some k) ks xs)
    (hf5 : Fr (fun k => k = b) W w5) (hb5 : w5.heap[b]? = some (.cells #[lv5, .int .i64 er] 100 (0, 0)))
    (hm : match elemOut (d + 1) x.name x.attrs l with | .ok (n, r) => er = 0 ∧ NodeV w5 (fun k => W.heap.size ≤ k ∧ k < w5.heap.size) n cs ∧ TokV w5 S lv5 r | .error y => er = y)
    (hf6 : Fr (fun _ => False) w5 w6) (hg : w6.grownBy w7 kv.ownBlock) (hat : kv7.ownBlock = kv.ownBlock ∨ kv7.ownBlock = some w6.heap.size) (hr : w7.ownsRow nk 30 4 kv7 (ks.length + 1) (xs ++ cs)) :
    w7.heap[nb]? = some (.cells #[.string (bs nm), av, .string (bs tx), kv] 30 (0, 0)) ∧ match elemOut (d + 1) x.name x.attrs l with
      | .ok (n, r) => ElIn b nb nk S d nm la l0 w0 r r tx (ks ++ [n]) lv5 av kv7 (w7.setCell ⟨nb, 3, none⟩ kv7)
      | .error y => ElBad b nb y w0 lv5 (.string (bs nm)) av (.string (bs tx)) kv7 (w7.setCell ⟨nb, 3, none⟩ kv7) := by
  cases ho : elemOut (d + 1) x.name x.attrs l with
  | ok q =>
    obtain ⟨n, r⟩ := q
    rw [ho] at hm
    obtain ⟨rfl, h1, h2⟩ := hm
    exact h.kid hk hd ho hrow hkids hf5 hb5 h2 h1 hf6 hg hat hr
  | error y =>
    rw [ho] at hm
    obtain rfl : er = y := hm
    exact h.kidBad hrow hf5 hb5 hf6 hg hr
theorem elemAny_mono {w5 : World} {P Q S : Nat → Prop} {er : Int} {lv5 : Value} {cs : List Value} {E : Except Int (NodeD × List TokD)} (hP : ∀ k, P k → Q k) (hm : match E with | .ok (n, r) => er = 0 ∧ NodeV w5 P n cs ∧ TokV w5 S lv5 r | .error y => er = y) :
    match (generalizing := false) E with | .ok (n, r) => er = 0 ∧ NodeV w5 Q n cs ∧ TokV w5 S lv5 r | .error y => er = y := by
  cases E with
  | error y => exact hm
  | ok q => obtain ⟨n, r⟩ := q; exact ⟨hm.1, NodeV.mono hP n hm.2.1, hm.2.2⟩
def ClonePost2 (l : List (Str × Str)) (p1 p2 : Addr) (u1 u2 : Value) (w : World) (e : Ending) (w' : World) : Prop :=
  ∃ v', e = .returned v' ∧ SRow w' (fun k => w.heap.size ≤ k ∧ k < w'.heap.size) 2 v' l.length (acells l) ∧ Fr (fun _ => False) w w' ∧ w'.cell? p1 = some u1 ∧ w'.cell? p2 = some u2
theorem clone_more {w0 w : World} {S : Nat → Prop} {v u1 u2 : Value} {p1 p2 : Addr} {l : List (Str × Str)} (hv : SRow w0 S 2 v l.length (acells l)) (hl : l.length ≤ 1000000) (h1 : w0.cell? p1 = some u1) (h2 : w0.cell? p2 = some u2) (hf : Fr (fun _ => False) w0 w) :
    Calls Tryz.prog 73 #[v] w (ClonePost2 l p1 p2 u1 u2 w) := by
  refine (clone_h (hv.fr hf fun _ _ h => h) hl).mono ?_
  rintro e w' ⟨v', rfl, h3, h4⟩
  exact ⟨v', rfl, h3, h4, h4.cell (hf.cell h1 (fun h => h)) (fun h => h), h4.cell (hf.cell h2 (fun h => h)) (fun h => h)⟩
/-- the loop of an element: so many tokens are left, or an error is noted -/
def ElRel (b nb nk : Nat) (S : Nat → Prop) (d : Nat) (nm : Str) (la : List (Str × Str)) (l : List TokD) (w : World) (av : Value) (j : Nat) (W : World) : Prop :=
  (∃ l2 tx ks lv kv, j = l2.length + 1 ∧ ElIn b nb nk S d nm la l w l2 l2 tx ks lv av kv W) ∨ (∃ er lv c0 c1 c2 c3, ElBad b nb er w lv c0 c1 c2 c3 W ∧ elemOut d nm la l = .error er)
set_option maxRecDepth 100000 in
set_option maxHeartbeats 16000000 in
theorem elem_h : ∀ (m : Nat) (l : List TokD), l.length < m → ∀ (w : World) (b : Nat) (S : Nat → Prop) (lv av : Value) (x : TokD) (d : Nat), w.heap[b]? = some (.cells #[lv, .int .i64 0] 100 (0, 0)) → TokV w S lv l → (∀ k, S k → k < w.heap.size ∧ k ≠ b) →
    SRow w S 2 av x.attrs.length (acells x.attrs) → x.attrs.length ≤ 1000000 → d ≤ 20 → TextOK l → l.length ≤ 60010 →
    Calls Tryz.prog 68 #[.pointer (some ⟨b, 0, none⟩), .agg #[.int .i64 x.kind, .string (bs x.name), av, .string (bs x.text)], .int .i64 (d : Int)] w (ElemPost b S d x.name x.attrs l w)
  | 0, _, h => fun _ _ _ _ _ _ _ => by omega
  | m + 1, l, hm => by
    intro w b S lv av x d hb hv hS har hxa hd hT hl
    have hlt := lt_of_block hb
    have HB := Lib.hid hb
    have HV := Lib.hid hv
    have HS := Lib.hid hS
    have HT := Lib.hid hT
    have HM := Lib.hid hm
    have HAr := Lib.hid har
    obtain ⟨_, aa, acap, rfl, _, _, _, _⟩ := id har
    have hB0 := block_old (block_new w (.cells #[.int .i64 x.kind, .string (bs x.name), .slice aa x.attrs.length acap, .string (bs x.text)] 54)) (.cells zeroNode 30)
    have HCl := Lib.hid (fun (W : World) (hF : Fr (fun _ => False) ((w.alloc (.cells #[.int .i64 x.kind, .string (bs x.name), .slice aa x.attrs.length acap, .string (bs x.text)] 54)).alloc (.cells #[.string ⟨#[]⟩, .slice none 0 0, .string ⟨#[]⟩, .slice none 0 0] 30)) W) => clone_more (har.fr (((Fr.refl (fun _ => False) w).alloc _).alloc _) fun _ _ h => h) hxa (cell_of hB0 (i := 1) (v := .string (bs x.name)) rfl) (cell_of hB0 (i := 2) (v := .slice aa x.attrs.length acap) rfl) hF)
    clear hb hv hS hT hm har hB0
    go_enter Tryz.func68, Tryz.ntmps68
    go_upto_region 1 with fail
    go_cut [4, 6, 7] (fun s4 s6 s7 wx => ∃ nb av2 nk, s6 = .pointer (some ⟨w.heap.size + 1, 0, none⟩) ∧ s7 = .pointer (some ⟨nb, 0, none⟩) ∧ nb < nk ∧ nk = wx.heap.size ∧ w.heap.size + 1 < nb ∧ wx.heap[nb]? = some (.cells #[.string (bs x.name), av2, .string ⟨#[]⟩, .slice none 0 0] 30 (0, 0)) ∧
      SRow wx (fun k => w.heap.size + 1 < k ∧ k < nk ∧ k ≠ nb) 2 av2 x.attrs.length (acells x.attrs) ∧ Fr (fun _ => False) w wx ∧ wx.heap[w.heap.size + 1]? = some (.cells zeroNode 30 (0, 0)))
    case first =>
      have HZ := Lib.hid (block_new_at (w := (w.alloc (.cells #[.int .i64 x.kind, .string (bs x.name), .slice aa x.attrs.length acap, .string (bs x.text)] 54)).alloc (.cells zeroNode 30)) (x := .cells zeroNode 30) (n := w.heap.size + 2) (by simp))
      go_region_held3 (fun w' => w'.cell? ⟨w.heap.size, 1, none⟩ = some (.string (bs x.name)) ∧ w'.cell? ⟨w.heap.size, 2, none⟩ = some (.slice aa x.attrs.length acap))
        (first | go_keep | (exact ⟨cell_set4 hk1 (by simp; omega), cell_set4 hk2 (by simp; omega)⟩) | fail)
        (first
          | (go_at_call 73; (with_reducible refine Calls.mono (HCl.out _ (by repeat (first | exact Fr.refl _ _ | refine Fr.drew ?_ | refine Fr.alloc ?_ _))) ?_); rintro e w3 ⟨av2, rfl, hsr, hf3, hk1, hk2⟩; have hs3 : w.heap.size + 1 < w3.heap.size := (by have h := hf3.size; simp at h; omega); obtain ⟨_, aq, cq, rfl, _, _, _, _⟩ := id hsr; (try (have hz3 := hf3.keep HZ.out (fun h => h); have z0 := cell_of hz3 (i := 0) (v := .string ⟨#[]⟩) rfl; have z1 := cell_of hz3 (i := 1) (v := .slice none 0 0) rfl; have z2 := cell_of hz3 (i := 2) (v := .string ⟨#[]⟩) rfl; have z3 := cell_of hz3 (i := 3) (v := .slice none 0 0) rfl; have y0 := free_of 0 hz3; have y1 := free_of 1 hz3; have y2 := free_of 2 hz3; have y3 := free_of 3 hz3)))
          | fail)
      · go_wp2_with fail
        go_meet
        have hf0 : Fr (fun _ => False) w w3 := (((Fr.refl (fun _ => False) w).alloc _).alloc _).next (hf3.start rfl rfl rfl rfl)
        refine ⟨w3.heap.size, _, w3.heap.size + 1, rfl, rfl, Nat.lt_succ_self _, by simp, by omega, block_new _ _, ?_, hf0.alloc _, ?_⟩
        · refine (hsr.fr ((Fr.refl (fun _ => False) w3).alloc _) fun _ _ h => h).mono fun k hk => ?_
          simp at hk
          omega
        · exact block_old (hf3.keep (block_new_at (w := w.alloc _) (by simp)) (fun h => h)) _
      · go_wp2_with fail
        go_meet
        have hf0 : Fr (fun _ => False) w w3 := ((((Fr.refl (fun _ => False) w).alloc _).alloc _).alloc _).next (hf3.start rfl rfl rfl rfl)
        have hs4 : w.heap.size + 2 < w3.heap.size := by have h := hf3.size; simp at h; omega
        refine ⟨w.heap.size + 1 + 1, _, w3.heap.size, rfl, rfl, by omega, by simp, by omega, block_set4 hz3, ?_, hf0.trans (fr_set4 _ _ _ _ _ _) fun k e => .inr (by omega), ?_⟩
        · refine (hsr.fr (fr_set4 _ _ _ _ _ _) fun k hk e => by simp at hk; omega).mono fun k hk => ?_
          simp at hk
          omega
        · exact (fr_set4 _ _ _ _ _ _).keep (hf3.keep (block_old (block_new_at (w := w.alloc _) (by simp)) _) (fun h => h)) (by omega)
    case rest =>
      obtain ⟨nb, av2, nk, rfl, rfl, h1, h2, h3, h4, h5, h6, h7⟩ := hcut
      have hb1 := h6.keep HB.out (fun h => h)
      obtain ⟨_, aq, cq, rfl, _, _, _, _⟩ := id h5
      by_cases hd20 : d = 20
      · subst hd20
        have hE : ElBad b nb 19 w lv (.string (bs x.name)) (.slice aq x.attrs.length cq) (.string ⟨#[]⟩) (.slice none 0 0) (wc.setCell ⟨b, 1, none⟩ (.int .i64 19)) := {
          bld := block_set hb1 1 _
          node := (fr_set wc b 1 _).keep h4 (by omega)
          shape := .mk ⟨_, _, _, rfl⟩ ⟨_, _, _, rfl⟩
          fr := (h6.mono fun _ _ h => h.elim).next (fr_set wc b 1 _)
          rb := (fr_set wc b 1 _).keep h7 (by omega)
          pos := ⟨h3, by have := (fr_set wc b 1 (.int .i64 19)).size; omega, hlt⟩ }
        have HE := Lib.hid hE
        have HR := Lib.hid (show elemOut 20 x.name x.attrs l = .error 19 by unfold elemOut; rw [if_pos rfl])
        have c1 := cell_of hb1 (i := 1) (v := .int .i64 0) rfl
        have f1 := free_of 1 hb1
        have n0 := cell_of h4 (i := 0) (v := .string (bs x.name)) rfl
        have n1 := cell_of h4 (i := 1) (v := .slice aq x.attrs.length cq) rfl
        have n2 := cell_of h4 (i := 2) (v := .string ⟨#[]⟩) rfl
        have n3 := cell_of h4 (i := 3) (v := .slice none 0 0) rfl
        have r0 := cell_of h7 (i := 0) (v := .string ⟨#[]⟩) rfl
        have r1 := cell_of h7 (i := 1) (v := .slice none 0 0) rfl
        have r2 := cell_of h7 (i := 2) (v := .string ⟨#[]⟩) rfl
        have r3 := cell_of h7 (i := 3) (v := .slice none 0 0) rfl
        have q0 := free_of 0 h7
        have q1 := free_of 1 h7
        have q2 := free_of 2 h7
        have q3 := free_of 3 h7
        clear hE h1 h2 h4 h5 h6 h7 hb1
        go_wp2_with fail
        have hz := block_set4 (a := .string (bs x.name)) (b := .slice aq x.attrs.length cq) (c := .string ⟨#[]⟩) (d := .slice none 0 0) HE.out.rb
        have e0 := cell_of hz (i := 0) (v := .string (bs x.name)) rfl
        have e1 := cell_of hz (i := 1) (v := .slice aq x.attrs.length cq) rfl
        have e2 := cell_of hz (i := 2) (v := .string ⟨#[]⟩) rfl
        have e3 := cell_of hz (i := 3) (v := .slice none 0 0) rfl
        refine bodyPost_ret (v := .agg #[.string (bs x.name), .slice aq x.attrs.length cq, .string ⟨#[]⟩, .slice none 0 0]) (by simp [results, Tryz.results68, go_sem, e0, e1, e2, e3] <;> rfl) rfl ?_
        exact elem_post_bad HE.out HR.out (fr_set4 _ _ _ _ _ _)
      · have hdi : ((d : Int) == 20) = false := by rw [beq_eq_false_iff_ne]; omega
        have hd19 : d < 20 := by omega
        have HI : Hid (ElIn b nb nk S d x.name x.attrs l w l l [] [] lv (.slice aq x.attrs.length cq) (.slice none 0 0) wc) := {
          eq := by unfold elemOut; rw [if_neg hd20]
          len := by simp
          text := by simp
          sub := fun _ h => h
          bld := hb1
          tok := HV.out.fr h6 fun _ _ h => h
          node := h4
          att := h5
          kids := KidsO.nil _ _
          fr := h6.mono fun _ _ h => h.elim
          rb := h7
          pos := ⟨h3, h1, by omega, hlt, fun k hk => HS.out k hk⟩ }
        have hIH := Lib.hid (elem_h m)
        clear hd20 h4 h5 h6 h7 hb1 h1 h2 h3
        go_wp2_with fail
        go_loopg [9] (l.length + 1) (fun j v9 w' => ∃ W, W = w' ∧ ElRel b nb nk S d x.name x.attrs l w (.slice aq x.attrs.length cq) j W)
        case atStart => exact ⟨_, rfl, .inl ⟨l, [], [], lv, _, rfl, HI.out⟩⟩
        case round =>
          obtain ⟨W, rfl, hR⟩ := hrel
          rcases hR with ⟨l2, tx, ks, lv2, kv, hj, hI⟩ | ⟨er, lv2, c0, c1, c2, c3, hB, he⟩
          · have HJ := Lib.hid hj
            have HI := Lib.hid hI
            have b1 := cell_of hI.bld (i := 1) (v := .int .i64 0) rfl
            have HP := Lib.hid hI.pos
            have HNX := Lib.hid (next_h hI.bld hI.tok (fun k hk => (HP.out.2.2.2.2 k hk).2))
            clear hj hI
            go_wp2_with fail
            refine Calls.mono HNX.out ?_
            cases l2 with
            | nil =>
              rintro e w3 ⟨hF3, rfl, lv3, hb3, ht3⟩
              have hI3 := HI.out.next hF3 hb3 ht3
              have HI3 := Lib.hid hI3
              have HE := Lib.hid (show elemOut d x.name x.attrs l = .error 8 from HI.out.eq.trans (elemL_nil _ _ _ _ _))
              unfold zeroTok
              have b4 := cell_of hI3.bld (i := 1) (v := .int .i64 0) rfl
              have f4 := free_of 1 hI3.bld
              have hlt4 := lt_of_block hI3.bld
              clear hF3 hb3 ht3 hI3 b1
              go_wp2_with fail
              go_roundg 0
              case measure => have := HJ.out; omega
              case rel => exact ⟨_, rfl, .inr ⟨8, _, _, _, _, _, (HI3.out.bad 8).fr2 ((Fr.refl _ _).alloc _), HE.out⟩⟩
            | cons y r =>
              rintro e w3 ⟨hF3, av3, lv3, rfl, ha3, hb3, ht3⟩
              have hI3 := HI.out.next hF3 hb3 ht3
              obtain ⟨_, a3, p3, rfl, _, _, _, _⟩ := id ha3
              obtain ⟨xs, hx1, hx2⟩ := hI3.kids
              obtain ⟨bk, ck, rfl⟩ := ownsRow_shape hx1
              have HI3 := Lib.hid hI3
              have HA3 := Lib.hid ha3
              have HX := Lib.hid (And.intro hx1 hx2)
              have hty := HT.out y (HI.out.sub y List.mem_cons_self)
              have HTY := Lib.hid hty
              have hlt4 := lt_of_block hI3.bld
              have b4 := cell_of hI3.bld (i := 1) (v := .int .i64 0) rfl
              have f4 := free_of 1 hI3.bld
              have hltn := lt_of_block hI3.node
              have m0 := cell_of hI3.node (i := 0) (v := .string (bs x.name)) rfl
              have m1 := cell_of hI3.node (i := 1) (v := .slice aq x.attrs.length cq) rfl
              have m2 := cell_of hI3.node (i := 2) (v := .string (bs tx)) rfl
              have m3 := cell_of hI3.node (i := 3) (v := .slice bk ks.length ck) rfl
              have g2 := free_of 2 hI3.node
              have g3 := free_of 3 hI3.node
              clear hI3 ha3 hx1 hx2 hF3 hb3 ht3 b1 hty
              by_cases k3 : y.kind = 3
              · have t3 : (y.kind == 3) = true := by rw [beq_iff_eq]; exact k3
                have sA := HI3.out.sum hl HTY.out.1
                have HN := Lib.hid (HI3.out.words k3 HTY.out.1)
                clear k3
                go_wp2_with fail
                go_roundg (r.length + 1)
                case measure => have := HJ.out; simp at this; omega
                case rel => exact ⟨_, rfl, .inl ⟨r, _, _, _, _, rfl, HN.out.fr2 ((Fr.refl _ _).alloc _)⟩⟩
              have t3 : (y.kind == 3) = false := by rw [beq_eq_false_iff_ne]; exact k3
              by_cases k1 : y.kind = 1
              · have t1 : (y.kind == 1) = true := by rw [beq_iff_eq]; exact k1
                have hwd : IntKind.i64.wrap ((d : Int) + 1) = (d : Int) + 1 := IntWalk.i64_in _ (by omega)
                obtain ⟨i30, hi30, hz30, hs30, hby30⟩ := info_parts info30
                have HF4 : Hid (Fr (fun _ => False) w3 (w3.alloc (.cells #[.int .i64 y.kind, .string (bs y.name), .slice a3 y.attrs.length p3, .string (bs y.text)] 54))) := (Fr.refl _ _).alloc _
                have HIH := Lib.hid (fun (W' : World) (hF : Fr (fun _ => False) w3 W') => show Calls Tryz.prog 68 #[.pointer (some ⟨b, 0, none⟩), .agg #[.int .i64 y.kind, .string (bs y.name), .slice a3 y.attrs.length p3, .string (bs y.text)], .int .i64 ((d : Int) + 1)] W' (ElemPost b S (d + 1) y.name y.attrs r W') from hIH.out r (by have := HM.out; have := HI.out.len; simp at this; omega) W' b S lv3 (.slice a3 y.attrs.length p3) y (d + 1) (hF.keep HI3.out.bld (fun h => h)) (HI3.out.tok.fr hF fun _ _ h => h) (fun k hk => ⟨Nat.lt_of_lt_of_le (by have := HI3.out.pos; have := this.2.2.2.2 k hk; omega) hF.size, (HI3.out.pos.2.2.2.2 k hk).2⟩) (HA3.out.fr hF fun _ _ h => h) HTY.out.2 (by omega) (fun z hz => HT.out z (HI.out.sub z (List.mem_cons_of_mem _ hz))) (by have := HI.out.len; simp at this; omega))
                have HK1 := Lib.hid k1
                have hks : ks.length ≤ 60010 := by have := HI.out.len; omega
                clear k1 k3
                go_wp2_with fail
                go_region_law (first
                  | (refine step_call rfl 68 #[.tmp 57, .tmp 58, .tmp 60] #[98, 54, 3] rfl [.pointer (some ⟨b, 0, none⟩), .agg #[.int .i64 y.kind, .string (bs y.name), .slice a3 y.attrs.length p3, .string (bs y.text)], .int .i64 ((d : Int) + 1)] rfl ent68 _ (HIH.out _ (HF4.out.next (by repeat (first | exact Fr.refl _ _ | refine Fr.drew ?_)))) ?_; rintro e w5 ⟨c0, c1, c2, c3, lv5, er5, rfl, hsh, hb5, hF5, hm5⟩; obtain ⟨s0, b1, n1, p1, s2, b3, n3, p5, rfl, rfl, rfl, rfl⟩ := hsh; have H5F := Lib.hid ((HF4.out.mono (o2 := fun k => k = b) fun _ _ h => h.elim).next (hF5.start rfl rfl rfl rfl)); have H5 := Lib.hid (And.intro hb5 hm5); have hsz5 : w3.heap.size < w5.heap.size := (by have h := hF5.size; simp at h; omega); have m35 := H5F.out.cell m3 (by have := HI3.out.pos; show ¬ nb = b; omega); have hnb5 := Nat.lt_trans hltn hsz5; clear hb5 hF5 hm5; refine ⟨_, rfl, ?_⟩)
                  | (refine step_append_at rfl (.tmp 56) (.tmp 62) 28 rfl nk 30 i30 (.agg #[.string ⟨#[]⟩, .slice none 0 0, .string ⟨#[]⟩, .slice none 0 0]) 4 80 Tryz.underlying28 hi30 hz30 hs30 hby30 rfl (by decide) (.slice bk ks.length ck) ks.length xs rfl (row_far HX.out.1 (H5F.out.trans (show Fr (fun _ => False) w5 _ by repeat (first | exact Fr.refl _ _ | refine Fr.drew ?_ | refine Fr.alloc ?_ _)) fun _ h => h.elim) (by have := HI3.out.pos; omega)) ⟨w5.heap.size, 0, none⟩ 1 1 [.string s0, .slice b1 n1 p1, .string s2, .slice b3 n3 p5] rfl rfl (news_at (by first | exact block_new _ _ | exact block_new_drew rfl)) (by intro u hu; simp at hu; rcases hu with rfl | rfl | rfl | rfl <;> rfl) (by unfold maxLen; omega) (by omega) (by have := HI3.out.pos; simp; omega) (by omega) ?_; intro g7 cap7 w7 hown7 hgrow7 hat7; obtain ⟨hb7, hR7⟩ := HI3.out.kidAny HK1.out hd19 HX.out.1 HX.out.2 H5F.out H5.out.1 (elemAny_mono (fun k hk => ⟨by have h := hk.1; simp at h; omega, hk.2⟩) H5.out.2) (show Fr (fun _ => False) w5 _ by repeat (first | exact Fr.refl _ _ | refine Fr.drew ?_ | refine Fr.alloc ?_ _)) hgrow7 hat7 hown7; have HR7 := Lib.hid hR7; have c7 := cell_of hb7 (i := 3) (v := .slice bk ks.length ck) rfl; have j7 := free_of 3 hb7; have hlt7 := lt_of_block hb7; clear hown7 hgrow7 hat7 hb7 hR7 m35)
                  | fail)
                all_goals
                  go_wp2_with fail
                  have hR8 := HR7.out
                  cases ho : elemOut (d + 1) y.name y.attrs r with
                  | ok q =>
                    obtain ⟨n, r2⟩ := q
                    rw [ho] at hR8
                    have hlen := (elemOut_rest ho).2
                    go_roundg (r2.length + 1)
                    case measure => have := HJ.out; simp at this; omega
                    case rel => exact ⟨_, rfl, .inl ⟨r2, _, _, _, _, rfl, hR8⟩⟩
                  | error x1 =>
                    rw [ho] at hR8
                    have hE : elemOut d x.name x.attrs l = .error x1 := by rw [HI.out.eq, elem_open HK1.out hd19, ho]
                    go_roundg 0
                    case measure => have := HJ.out; omega
                    case rel => exact ⟨_, rfl, .inr ⟨x1, _, _, _, _, _, hR8, hE⟩⟩
              have t1 : (y.kind == 1) = false := by rw [beq_eq_false_iff_ne]; exact k1
              by_cases k2 : y.kind = 2
              · have t2 : (y.kind == 2) = true := by rw [beq_iff_eq]; exact k2
                by_cases hnm : y.name = x.name
                · have tn : ((bs y.name).toList == (bs x.name).toList) = true := by rw [hnm]; simp
                  have tn2 : bs y.name = bs x.name := by rw [hnm]
                  have HE := Lib.hid (HI.out.eq.trans (elem_close k2 hnm))
                  have HD := Lib.hid HI3.out.node_done
                  have r0 := cell_of HI3.out.rb (i := 0) (v := .string ⟨#[]⟩) rfl
                  have r1 := cell_of HI3.out.rb (i := 1) (v := .slice none 0 0) rfl
                  have r2 := cell_of HI3.out.rb (i := 2) (v := .string ⟨#[]⟩) rfl
                  have r3 := cell_of HI3.out.rb (i := 3) (v := .slice none 0 0) rfl
                  have q0 := free_of 0 HI3.out.rb
                  have q1 := free_of 1 HI3.out.rb
                  have q2 := free_of 2 HI3.out.rb
                  have q3 := free_of 3 HI3.out.rb
                  have hltr := lt_of_block HI3.out.rb
                  clear k1 k2 k3 hnm tn2
                  go_wp2_with fail
                  have hz := block_old (block_set4 (a := .string (bs x.name)) (b := .slice aq x.attrs.length cq) (c := .string (bs tx)) (d := .slice bk ks.length ck) HI3.out.rb) (.cells #[.int .i64 y.kind, .string (bs y.name), .slice a3 y.attrs.length p3, .string (bs y.text)] 54)
                  have e0 := cell_of hz (i := 0) (v := .string (bs x.name)) rfl
                  have e1 := cell_of hz (i := 1) (v := .slice aq x.attrs.length cq) rfl
                  have e2 := cell_of hz (i := 2) (v := .string (bs tx)) rfl
                  have e3 := cell_of hz (i := 3) (v := .slice bk ks.length ck) rfl
                  have hF := (fr_set4 w3 (w.heap.size + 1) (.string (bs x.name)) (.slice aq x.attrs.length cq) (.string (bs tx)) (.slice bk ks.length ck)).alloc (.cells #[.int .i64 y.kind, .string (bs y.name), .slice a3 y.attrs.length p3, .string (bs y.text)] 54)
                  refine bodyPost_ret (v := .agg #[.string (bs x.name), .slice aq x.attrs.length cq, .string (bs tx), .slice bk ks.length ck]) (by simp [results, Tryz.results68, go_sem, e0, e1, e2, e3] <;> rfl) rfl ?_
                  refine ⟨_, _, _, _, lv3, 0, rfl, .mk ⟨_, _, _, rfl⟩ ⟨_, _, _, rfl⟩, hF.keep HI3.out.bld (by have := HI3.out.pos; omega), HI3.out.fr.trans hF fun k e => .inr (by omega), ?_⟩
                  rw [HE.out]
                  exact ⟨rfl, NodeV.mono (fun k hk => ⟨by omega, Nat.lt_of_lt_of_le hk.2 hF.size⟩) _ (NodeV.fr hF (fun k hk e => by omega) _ HD.out), HI3.out.tok.fr hF fun k hk e => by have := HI3.out.pos.2.2.2.2 k hk; omega⟩
                · have tn : ((bs y.name).toList == (bs x.name).toList) = false := by rw [bs_toList, bs_toList]; exact beq_eq_false_iff_ne.2 hnm
                  have tn2 : decide (bs y.name = bs x.name) = false := decide_eq_false fun e => hnm (bs_inj2 e)
                  have HE := Lib.hid (HI.out.eq.trans (elem_bad k3 k1 fun h => hnm h.2))
                  clear k1 k2 k3 hnm
                  go_wp2_with fail
                  go_roundg 0
                  case measure => have := HJ.out; omega
                  case rel => exact ⟨_, rfl, .inr ⟨8, _, _, _, _, _, (HI3.out.bad 8).fr2 ((Fr.refl _ _).alloc _), HE.out⟩⟩
              · have t2 : (y.kind == 2) = false := by rw [beq_eq_false_iff_ne]; exact k2
                have HE := Lib.hid (HI.out.eq.trans (elem_bad k3 k1 fun h => k2 h.1))
                clear k1 k2 k3
                go_wp2_with fail
                go_roundg 0
                case measure => have := HJ.out; omega
                case rel => exact ⟨_, rfl, .inr ⟨8, _, _, _, _, _, (HI3.out.bad 8).fr2 ((Fr.refl _ _).alloc _), HE.out⟩⟩
          · obtain ⟨s0, a1, n1, p1, s2, a3, n3, p3, rfl, rfl, rfl, rfl⟩ := hB.shape
            have HB2 := Lib.hid hB
            have HE := Lib.hid he
            have b1 := cell_of hB.bld (i := 1) (v := .int .i64 er) rfl
            have herr : (er == 0) = false := by rcases elemOut_err he with rfl | rfl <;> rfl
            have m0 := cell_of hB.node (i := 0) (v := .string s0) rfl
            have m1 := cell_of hB.node (i := 1) (v := .slice a1 n1 p1) rfl
            have m2 := cell_of hB.node (i := 2) (v := .string s2) rfl
            have m3 := cell_of hB.node (i := 3) (v := .slice a3 n3 p3) rfl
            have r0 := cell_of hB.rb (i := 0) (v := .string ⟨#[]⟩) rfl
            have r1 := cell_of hB.rb (i := 1) (v := .slice none 0 0) rfl
            have r2 := cell_of hB.rb (i := 2) (v := .string ⟨#[]⟩) rfl
            have r3 := cell_of hB.rb (i := 3) (v := .slice none 0 0) rfl
            have q0 := free_of 0 hB.rb
            have q1 := free_of 1 hB.rb
            have q2 := free_of 2 hB.rb
            have q3 := free_of 3 hB.rb
            clear hB he
            go_wp2_with fail
            have hz := block_set4 (a := .string s0) (b := .slice a1 n1 p1) (c := .string s2) (d := .slice a3 n3 p3) HB2.out.rb
            have e0 := cell_of hz (i := 0) (v := .string s0) rfl
            have e1 := cell_of hz (i := 1) (v := .slice a1 n1 p1) rfl
            have e2 := cell_of hz (i := 2) (v := .string s2) rfl
            have e3 := cell_of hz (i := 3) (v := .slice a3 n3 p3) rfl
            refine bodyPost_ret (v := .agg #[.string s0, .slice a1 n1 p1, .string s2, .slice a3 n3 p3]) (by simp [results, Tryz.results68, go_sem, e0, e1, e2, e3] <;> rfl) rfl ?_
            exact elem_post_bad HB2.out HE.out (fr_set4 _ _ _ _ _ _)
end Go.Proofs.YtpinjgdnhbogoaaGreatDoor
