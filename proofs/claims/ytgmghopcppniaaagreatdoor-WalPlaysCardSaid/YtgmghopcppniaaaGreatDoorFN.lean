/- wal's laws: what an act does with the program's log: walked. -/
import Derived.Test.YtgmghopcppniaaaGreatDoorFM
import Derived.Test.YtgmghopcppniaaaGreatDoorFI
import Derived.Test.YtgmghopcppniaaaGreatDoorKB
import Derived.Test.YtgmghopcppniaaaGreatDoorFC
import Derived.Test.YtgmghopcppniaaaGreatDoorFX
namespace Go.Proofs.YtgmghopcppniaaaGreatDoor
open Go.RowKit Go.Lib

/-- a log of what was opened -/
def logOf (st : StD) (segs : List SegD) : LogD := ⟨st, segs.dropLast, segs.getLastD ⟨0, 0, 0⟩⟩
theorem logOf_segs {st : StD} {segs : List SegD} (h : segs ≠ []) : (logOf st segs).pre ++ [(logOf st segs).last] = segs := by
 unfold logOf
 dsimp only
 rw [List.getLastD_eq_getLast?, List.getLast?_eq_some_getLast h]
 exact List.dropLast_concat_getLast h
/-- what an act does -/
def doesA (L : LogD) (D : DiskD) (a : ActW) : Int × (LogD × DiskD) :=
 if pickZ a.op 10 = 6 then resetL L D
 else if pickZ a.op 10 = 7 then cutL L D a.index
 else if pickZ a.op 10 = 8 then (0, (L, fuseD D (pickZ a.n 30)))
 else if pickZ a.op 10 = 9 then ((openD (crashD xbG D a.keep a.noise)).1.1, (if (openD (crashD xbG D a.keep a.noise)).1.1 = 0 then logOf (openD (crashD xbG D a.keep a.noise)).1.2.1 (openD (crashD xbG D a.keep a.noise)).1.2.2 else L, (openD (crashD xbG D a.keep a.noise)).2))
 else saveL L D (hardW a).1 (hardW a).2 (entriesW a)
theorem doesA_L {L : LogD} {D : DiskD} {a : ActW} (h : pickZ a.op 10 < 7) : doesA L D a = doesL L D a := by
 unfold doesA doesL
 split
 ·rfl
 ·rw [if_neg (by omega), if_neg (by omega), if_neg (by omega)]
/-- the program's side of a law: its World, its log, its disk; A: all blocks of these -/
structure WLawAt (w : World) (A S : Nat → Prop) (xb lp pb mb : Nat) (ve vs : Value) (L : LogD) (D : DiskD) : Prop where
 head : w.heap[xb]? = some (.cells #[.pointer (some ⟨pb, 0, none⟩), .pointer (some ⟨lp, 0, none⟩)] 79 (0, 0))
 wal : WalAt w S lp pb mb ve vs L.st (L.pre ++ [L.last]) D
 sub : ∀ k, S k → A k
 own : ∀ k, Own pb mb k → A k
 axb : A xb
 far : ¬ S xb ∧ ¬ Own pb mb xb
 lt : ∀ k, A k → k < w.heap.size
def WLaw (w : World) (A : Nat → Prop) (xb : Nat) (L : LogD) (D : DiskD) : Prop := ∃ (S : Nat → Prop) (lp pb mb : Nat) (ve vs : Value), WLawAt w A S xb lp pb mb ve vs L D
section
variable {w w' : World} {A S Q : Nat → Prop} {xb lp pb mb : Nat} {ve vs ve' vs' : Value} {L L' : LogD} {D D' : DiskD}
theorem WLawAt.fr {o : Nat → Prop} (h : WLawAt w A S xb lp pb mb ve vs L D) (hf : Fr o w w') (ho : ∀ k, A k → ¬ o k) (hE : Env w') : WLawAt w' A S xb lp pb mb ve vs L D :=
 ⟨hf.keep h.head (ho _ h.axb), ⟨h.wal.log.fr hf (fun k hk => ho k (h.sub k hk)), h.wal.disk.fr hf (ho _ (h.own _ (.inl rfl))) (ho _ (h.own _ (.inr rfl))), h.wal.far, hE, h.wal.low, h.wal.dlow⟩, h.sub, h.own, h.axb, h.far, fun k hk => Nat.lt_of_lt_of_le (h.lt k hk) hf.size⟩
theorem WLawAt.quiet (h : WLawAt w A S xb lp pb mb ve vs L D) (hf : Fr (fun _ => False) w w') : WLawAt w' A S xb lp pb mb ve vs L D := h.fr hf (fun _ _ h => h) (h.wal.env.grow hf)
theorem WLawAt.mono {A' : Nat → Prop} (h : WLawAt w A S xb lp pb mb ve vs L D) (hA : ∀ k, A k → A' k) (hl : ∀ k, A' k → k < w.heap.size) : WLawAt w A' S xb lp pb mb ve vs L D :=
 ⟨h.head, h.wal, fun k hk => hA k (h.sub k hk), fun k hk => hA k (h.own k hk), hA _ h.axb, h.far, hl⟩
/-- a call that changed log and disk alone -/
theorem WLawAt.next (h : WLawAt w A S xb lp pb mb ve vs L D) (hw : WalAt w' (Plus S w w') lp pb mb ve' vs' L'.st (L'.pre ++ [L'.last]) D') (hf : Fr (WAll S pb mb) w w') : WLawAt w' (Plus A w w') (Plus S w w') xb lp pb mb ve' vs' L' D' := by
 have hx := h.lt _ h.axb
 refine ⟨hf.keep h.head (fun e => ?_), hw, fun k hk => ?_, fun k hk => .inl (h.own k hk), .inl h.axb, ⟨fun e => ?_, h.far.2⟩, Plus.lt h.lt hf.size⟩
 ·rcases e with e | e
  ·exact h.far.1 e
  ·exact h.far.2 e
 ·rcases hk with hk | hk
  ·exact .inl (h.sub k hk)
  ·exact .inr hk
 ·rcases e with e | ⟨e, _⟩
  ·exact h.far.1 e
  ·omega
theorem WLawAt.all (h : WLawAt w A S xb lp pb mb ve vs L D) {k : Nat} (hk : WAll S pb mb k) : A k := by
 rcases hk with hk | hk
 ·exact h.sub k hk
 ·exact h.own k hk
def DoesPost (p : Int × (LogD × DiskD)) (A : Nat → Prop) (xb : Nat) (w : World) (e : Ending) (w' : World) : Prop := e = .returned (.int .i64 p.1) ∧ WLaw w' (Plus A w w') xb p.2.1 p.2.2 ∧ Fr A w w'
/-- behind a call upon the log, some quiet ones ahead of it -/
theorem WLawAt.does {w1 : World} {p : Int × (LogD × DiskD)} (h : WLawAt w A S xb lp pb mb ve vs L D) (h1 : Fr (fun _ => False) w w1) (hw : WalAt w' (Plus S w1 w') lp pb mb ve' vs' p.2.1.st (p.2.1.pre ++ [p.2.1.last]) p.2.2) (hf : Fr (WAll S pb mb) w1 w') : WLaw w' (Plus A w w') xb p.2.1 p.2.2 ∧ Fr A w w' := by
 have h2 := (h.quiet h1).next hw hf
 have hs := h1.size
 have hs2 := hf.size
 refine ⟨⟨_, _, _, _, _, _, h2.mono (fun k hk => ?_) (Plus.lt h.lt (by omega))⟩, (h1.mono (o2 := A) fun _ _ h => h.elim).trans hf fun k hk => .inl (h.all hk)⟩
 rcases hk with hk | ⟨hk, hk2⟩
 ·exact .inl hk
 ·exact .inr ⟨by omega, hk2⟩
set_option maxRecDepth 100000 in
set_option maxHeartbeats 16000000 in
theorem wdoes_h {m : ActWM} (hW : WLaw w A xb L D) (hf : Fit L D) (hA : ActWIn w Q m) (hs : SmallWM m) (hop : pickZ m.act.op 10 < 7) :
  Calls Tryz.prog 43 #[.pointer (some ⟨xb, 0, none⟩), actWV m] w (DoesPost (doesL L D m.act) A xb w) := by
 obtain ⟨S, lp, pb, mb, ve, vs, h⟩ := hW
 have hgood := hA.good hs
 have HGOOD := Lib.hid hgood
 obtain ⟨w1, hw1⟩ : ∃ w1, w1 = w.alloc (.cells (cellsWM m).toArray 77) := ⟨_, rfl⟩
 have hf1 : Fr (fun _ => False) w w1 := by rw [hw1]; exact (Fr.refl _ _).alloc _
 have hb : w1.heap[w.heap.size]? = some (.cells (cellsWM m).toArray 77 (0, 0)) := by rw [hw1]; exact block_new _ _
 have h1 := h.quiet hf1
 have HF1 := Lib.hid hf1
 have HH := Lib.hid h
 have HH1 := Lib.hid h1
 have HFIT := Lib.hid hf
 have HPO := Lib.hid (fun W : World => wpick_h (w := W) hA.op.1 hA.op.2 (n := 10) (by decide) (by decide))
 have HHA := Lib.hid (fun (W : World) (hq : Fr (fun _ => False) w1 W) => whard_h (w := W) ((hA.fr hf1 (fun _ _ h => h)).fr hq (fun _ _ h => h)))
 have HEN := Lib.hid (fun (W : World) (hq : Fr (fun _ => False) w1 W) => wentries_h (w := W) ((hA.fr hf1 (fun _ _ h => h)).fr hq (fun _ _ h => h)) hs.1)
 have q1 := cell_of h1.head (i := 1) (v := .pointer (some ⟨lp, 0, none⟩)) rfl
 have x0 := cell_of hb (i := 0) (v := .int .i64 m.act.op) rfl
 have HB := Lib.hid hb
 obtain ⟨o, ho⟩ : ∃ o, pickZ m.act.op 10 = o := ⟨_, rfl⟩
 have hop0 := (pick_in (c := m.act.op) (n := 10) (by decide)).1
 rw [ho] at HPO hop hop0
 have HO := Lib.hid ho
 have hv0 : actWV m = .agg (cellsWM m).toArray := rfl
 unfold actWV cellsWM at HHA HEN ⊢
 unfold cellsWM at hw1 hb
 clear h h1 hf hA hs ho hgood hf1 hv0
 go_enter Tryz.func43, Tryz.ntmps43
 go_upto_region 1 with fail
 rw [← hw1]
 clear hw1
 go_wp2_with fail
 refine Calls.mono (HPO.out _) ?_
 rintro e w2 ⟨rfl, rfl⟩
 by_cases h6 : o = 6
 ·have r6 : (o == 6) = true := by simpa using h6
  have HE : Hid (doesL L D m.act = resetL L D) := by show doesL _ _ _ = _; unfold doesL; rw [HO.out, if_pos h6]
  have HR := Lib.hid (reset_h (pre := L.pre) (last := L.last) HH1.out.wal HFIT.out.num0 (by have := HFIT.out.num1; omega) HFIT.out.size (by have := HFIT.out.many; omega) HFIT.out.ok.hard.2.2.1 HFIT.out.ok.hard.2.2.2)
  obtain ⟨p, hp⟩ : ∃ p, resetL L D = p := ⟨_, rfl⟩
  rw [hp] at HE
  unfold LPost at HR
  have hp2 : resetL ⟨L.st, L.pre, L.last⟩ D = p := hp
  rw [hp2] at HR
  clear h6 hp hp2 x0 hop hop0
  go_wp2_with fail
  refine Calls.mono HR.out ?_
  rintro e w3 ⟨rfl, ⟨ve2, vs2, hw3⟩, hf3⟩
  have HX := Lib.hid (HH.out.does HF1.out hw3 hf3)
  clear hw3 hf3 HR
  go_wp2_with fail
  go_ret
  exact ⟨by rw [HE.out] <;> rfl, by rw [HE.out]; exact HX.out.1, HX.out.2⟩
 ·have r6 : (o == 6) = false := by simpa using h6
  have r7 : (o == 7) = false := by simp; omega
  have r8 : (o == 8) = false := by simp; omega
  have r9 : (o == 9) = false := by simp; omega
  have HE : Hid (doesL L D m.act = saveL L D (hardW m.act).1 (hardW m.act).2 (entriesW m.act)) := by show doesL _ _ _ = _; unfold doesL; rw [HO.out, if_neg h6]
  clear h6 hop hop0
  obtain ⟨l, hl⟩ : ∃ l, entriesW m.act = l := ⟨_, rfl⟩
  obtain ⟨t, ht⟩ : ∃ t, (hardW m.act).1 = t := ⟨_, rfl⟩
  obtain ⟨v, hv⟩ : ∃ v, (hardW m.act).2 = v := ⟨_, rfl⟩
  have hti := (hardW_in HGOOD.out).1
  have hvi := (hardW_in HGOOD.out).2
  have hli := entriesW_in HGOOD.out
  have hll := entriesW_len m.act
  have hbytes : (recsL (.hard t v :: l.map .ent)).length ≤ 1000000 := by
   have h1 := hard_bytes hti hvi
   have h2 := recs_le (k := 800) (l := l.map .ent) fun r hr => by
    obtain ⟨e, he, rfl⟩ := List.mem_map.1 hr
    exact ent_bytes HGOOD.out e (by rw [hl]; exact he)
   rw [ht, hv] at h1
   rw [hl] at hll
   rw [recsL_cons, List.length_append]
   rw [List.length_map] at h2
   omega
  have HEN2 := Lib.hid (fun (W : World) (hq : Fr (fun _ => False) w1 W) => (HEN.out W hq).mono (R' := fun e w' => ∃ (a : Option Addr) (cap : Nat), e = .returned (.slice a l.length cap) ∧ SRow w' (fun k => W.heap.size ≤ k ∧ k < w'.heap.size) 4 (.slice a l.length cap) l.length (entsC l) ∧ Fr (fun _ => False) W w') (by
   rintro e w' ⟨v', rfl, hr, hf⟩
   rw [hl] at hr
   obtain ⟨a, cap, rfl⟩ := ownsRow_shape hr
   exact ⟨a, cap, rfl, (SRow.of_owns hr).mono fun k hk => hr.lt k hk, hf⟩))
  rw [hl, ht, hv] at HE
  rw [ht, hv] at HHA
  rw [ht] at hti
  rw [hv] at hvi
  rw [hl] at hli hll
  obtain ⟨p, hp⟩ : ∃ p, saveL L D t v l = p := ⟨_, rfl⟩
  rw [hp] at HE
  have hA1 : ∀ k, WAll S pb mb k → k < w.heap.size := fun k hk => HH.out.lt k (HH.out.all hk)
  have HSV := Lib.hid (fun (W : World) (hq : Fr (fun _ => False) w1 W) (a : Option Addr) (cap : Nat) (hr : SRow W (fun k => w1.heap.size ≤ k ∧ k < W.heap.size) 4 (.slice a l.length cap) l.length (entsC l)) =>
   (wsave_h (pre := L.pre) (last := L.last) (HH1.out.wal.quiet hq) HFIT.out.num0 HFIT.out.num1 HFIT.out.size HFIT.out.many HFIT.out.ok HFIT.out.top (by have := HFIT.out.few; omega) hti hvi l hr (fun k hk => ⟨hk.2, fun e => by have := hA1 k e; have := HF1.out.size; omega⟩) (by omega) hli hbytes).mono (R' := fun e w' => e = .returned (.int .i64 p.1) ∧ (∃ ve' vs', WalAt w' (Plus S W w') lp pb mb ve' vs' p.2.1.st (p.2.1.pre ++ [p.2.1.last]) p.2.2) ∧ Fr (WAll S pb mb) W w') (by
    have hp2 : saveL ⟨L.st, L.pre, L.last⟩ D t v l = p := hp
    intro e w' h
    unfold LPost at h
    rw [hp2] at h
    exact h))
  have hxlt := HH.out.lt _ HH.out.axb
  have HCW := Lib.hid (fun (o : Nat → Prop) (W : World) (hq : Fr o w1 W) (h1 : ¬ o xb) (h2 : ¬ o w.heap.size) => show W.cell? ⟨xb, 1, none⟩ = some (.pointer (some ⟨lp, 0, none⟩)) ∧ W.cell? ⟨w.heap.size, 0, none⟩ = some (.int .i64 m.act.op) ∧ W.cell? ⟨w.heap.size, 1, none⟩ = some (.int .i64 m.act.term) ∧ W.cell? ⟨w.heap.size, 2, none⟩ = some (.int .i64 m.act.vote) ∧ W.cell? ⟨w.heap.size, 3, none⟩ = some (.int .i64 m.act.index) ∧ W.cell? ⟨w.heap.size, 4, none⟩ = some (.int .i64 m.act.n) ∧ W.cell? ⟨w.heap.size, 5, none⟩ = some (.string (bs m.act.data)) ∧ W.cell? ⟨w.heap.size, 6, none⟩ = some m.va ∧ W.cell? ⟨w.heap.size, 7, none⟩ = some m.vb from
   ⟨hq.cell q1 h1, hq.cell (cell_of hb rfl) h2, hq.cell (cell_of hb rfl) h2, hq.cell (cell_of hb rfl) h2, hq.cell (cell_of hb rfl) h2, hq.cell (cell_of hb rfl) h2, hq.cell (cell_of hb rfl) h2, hq.cell (cell_of hb rfl) h2, hq.cell (cell_of hb rfl) h2⟩)
  have HFX := Lib.hid (fun (W W2 : World) (hq : Fr (fun _ => False) w1 W) (hf : Fr (WAll S pb mb) W W2) => show Fr (WAll S pb mb) w1 W2 from (hq.mono (o2 := WAll S pb mb) fun _ _ h => h.elim).next hf)
  have HNX := Lib.hid (show ¬ WAll S pb mb xb ∧ ¬ WAll S pb mb w.heap.size from ⟨fun e => by rcases e with e | e; exact HH.out.far.1 e; exact HH.out.far.2 e, fun e => by have := hA1 _ e; omega⟩)
  obtain ⟨y1, y2, y3, y4, y5, y6, y7, y8, y9⟩ := HCW.out (fun _ => False) w1 (Fr.refl _ _) (fun h => h) (fun h => h)
  clear hl ht hv hti hvi hli hp hbytes hA1 hb q1 x0 HEN
  go_upto_region 15 with fail
  go_region_held (fun W => W.cell? ⟨xb, 1, none⟩ = some (.pointer (some ⟨lp, 0, none⟩)) ∧ W.cell? ⟨w.heap.size, 0, none⟩ = some (.int .i64 m.act.op) ∧ W.cell? ⟨w.heap.size, 1, none⟩ = some (.int .i64 m.act.term) ∧ W.cell? ⟨w.heap.size, 2, none⟩ = some (.int .i64 m.act.vote) ∧ W.cell? ⟨w.heap.size, 3, none⟩ = some (.int .i64 m.act.index) ∧ W.cell? ⟨w.heap.size, 4, none⟩ = some (.int .i64 m.act.n) ∧ W.cell? ⟨w.heap.size, 5, none⟩ = some (.string (bs m.act.data)) ∧ W.cell? ⟨w.heap.size, 6, none⟩ = some m.va ∧ W.cell? ⟨w.heap.size, 7, none⟩ = some m.vb)
   (first | go_keep | (with_reducible exact pC) | (with_reducible exact pB) | (with_reducible exact pA) | fail)
   (first
    | (go_at_call 49; (with_reducible refine Calls.mono (HHA.out _ (show Fr (fun _ => False) w1 _ by repeat (first | exact Fr.refl _ _ | refine Fr.drew ?_))) ?_); clear HHA; rintro r wA ⟨rfl, hq⟩; have fA := (show Fr (fun _ => False) w1 _ by repeat (first | exact Fr.refl _ _ | refine Fr.drew ?_)).next hq; have pA := HCW.out _ _ fA (fun h => h) (fun h => h); clear hq)
    | (have tok := pA; clear tok; go_at_call 48; (with_reducible refine Calls.mono (HEN2.out _ (show Fr (fun _ => False) w1 _ by repeat (first | exact fA | refine Fr.drew ?_))) ?_); clear HEN2; rintro r wB ⟨ea, ec, rfl, hrow, hq⟩; have fB := (show Fr (fun _ => False) w1 _ by repeat (first | exact fA | refine Fr.drew ?_)).next hq; have HROW := Lib.hid (hrow.mono (S' := fun k => w1.heap.size ≤ k ∧ k < wB.heap.size) fun k hk => ⟨Nat.le_trans fA.size hk.1, hk.2⟩); have pB := HCW.out _ _ fB (fun h => h) (fun h => h); clear hq hrow)
    | (have tok := pB; clear tok; go_at_call 54; (with_reducible refine Calls.mono (HSV.out _ (show Fr (fun _ => False) w1 _ by repeat (first | exact fB | refine Fr.drew ?_)) _ _ (by first | exact HROW.out | exact HROW.out.fr ((Fr.refl (fun _ => False) _).drew) (fun _ _ h => h))) ?_); clear HSV; rintro r wC ⟨rfl, hwC, hq⟩; have HWC := Lib.hid (And.intro hwC hq); have pC := HCW.out _ _ (HFX.out _ _ (show Fr (fun _ => False) w1 _ by repeat (first | exact fB | refine Fr.drew ?_)) hq) HNX.out.1 HNX.out.2; clear hq hwC)
    | fail)
  all_goals
   go_wp2_with fail
   go_ret
   obtain ⟨⟨ve2, vs2, hwC⟩, hfC⟩ := HWC.out
   have hX := by first
    | exact HH.out.does (HF1.out.next fB) hwC hfC
    | exact HH.out.does (HF1.out.next fB.drew) hwC hfC
   exact ⟨by rw [HE.out] <;> rfl, by rw [HE.out]; exact hX.1, hX.2⟩
end
end Go.Proofs.YtgmghopcppniaaaGreatDoor

/- wal's laws: begin: walked. -/
namespace Go.Proofs.YtgmghopcppniaaaGreatDoor
open Go.RowKit Go.Lib

/-- the reference's side of a law: its Model, its log, its disk; B: all blocks of these -/
structure RLawAt (w : World) (B T : Nat → Prop) (yb rl rb : Nat) (lv le : Value) (st : StD) (D : DiskD) : Prop where
 head : w.heap[yb]? = some (.cells #[.pointer (some ⟨rb, 0, none⟩), .pointer (some ⟨rl, 0, none⟩)] 84 (0, 0))
 wal : RWal w T rl rb lv le st D
 sub : ∀ k, T k → B k
 byb : B yb
 far : ¬ T yb
 lt : ∀ k, B k → k < w.heap.size
def RLaw (w : World) (B : Nat → Prop) (yb : Nat) (st : StD) (D : DiskD) : Prop := ∃ (T : Nat → Prop) (rl rb : Nat) (lv le : Value), RLawAt w B T yb rl rb lv le st D
def BeginPost (most : Int) (w : World) (e : Ending) (w' : World) : Prop :=
 ∃ (xb yb : Nat) (A B : Nat → Prop), e = .returned (.tuple #[.pointer (some ⟨xb, 0, none⟩), .pointer (some ⟨yb, 0, none⟩), .bool true]) ∧ WLaw w' A xb beginL (beginD most) ∧ (∀ k, A k → w.heap.size ≤ k) ∧
  RLaw w' B yb zeroS (beginD most) ∧ (∀ k, B k → w.heap.size ≤ k ∧ ¬ A k) ∧ Fr (fun _ => False) w w'
section
variable {w : World}
set_option maxRecDepth 100000 in
set_option maxHeartbeats 16000000 in
theorem begin_h (hE : Env w) (h8 : 8 ≤ w.heap.size) {most : Int} (h0 : 100 ≤ most) (h1 : most ≤ 100000) : Calls Tryz.prog 41 #[.int .i64 most] w (BeginPost most w) := by
 have HN := Lib.hid (new_yes (w := w) (most := most) (by omega) (by omega))
 have HRN := Lib.hid (fun W => rnew_h (w := W) most)
 have HE := Lib.hid hE
 have hd : decide (0 ≤ most ∧ most ≤ 10000000) = true := decide_eq_true ⟨by omega, by omega⟩
 unfold NewPost2 at HN
 unfold RNewPost at HRN
 rw [hd] at HRN
 have HBO := Lib.hid (begin_open h0)
 have HBL := Lib.hid (begin_lay h0)
 clear hE hd
 go_enter Tryz.func41, Tryz.ntmps41
 go_wp2_with fail
 refine Calls.mono HN.out ?_
 rintro e w1 ⟨pb, mb, rfl, hD1, hf1, hpb, hmb⟩
 have HD1 := Lib.hid hD1
 have HF1 := Lib.hid hf1
 clear hD1 hf1 HN
 go_wp2_with fail
 refine Calls.mono (HRN.out _) ?_
 rintro e w2 ⟨rb, rfl, hR2, hf2, hrb⟩
 have HR2 := Lib.hid hR2
 have HF2 := Lib.hid hf2
 have hrbl := lt_of_block hR2
 have hs1 := HF1.out.size
 have hs2 := hf2.size
 clear hR2 hf2 HRN
 have hpl := lt_of_block HD1.out.head
 have hml := HD1.out.map.lt
 have HOP := Lib.hid (open_h (HD1.out.grow HF2.out) (HE.out.grow (HF1.out.next HF2.out)) ⟨by omega, by omega⟩ h1)
 unfold OpenPost at HOP
 rw [HBO.out] at HOP
 dsimp only at HOP
 go_wp2_with fail
 refine Calls.mono HOP.out ?_
 rintro e w3 ⟨lp, rfl, hwal, hD3, hf3⟩
 obtain ⟨ve, vs, hw3⟩ := hwal trivial
 have HW3 := Lib.hid hw3
 have HF3 := Lib.hid hf3
 have hs3 := hf3.size
 clear hwal hD3 hf3 hw3 HOP
 have href : RefAt w2 rb (.slice none 0 0) (newD most) := ref_new HR2.out (by omega) (by omega)
 have href3 : RefAt w3 rb (.slice none 0 0) (newD most) := href.fr HF3.out fun k hk => by
  rcases hk with rfl | hk
  ·rintro (e | e) <;> omega
  ·simp [Value.ownBlock] at hk
 have HRO := Lib.hid (ropen_none_h href3 rfl (by unfold numsD newD; simp))
 rw [HBL.out] at HRO
 unfold ROpenPost at HRO
 dsimp only at HRO
 clear href href3
 go_wp2_with fail
 refine Calls.mono HRO.out ?_
 rintro e w4 ⟨rl, lv4, rfl, hR4, hv4, hwal4, hf4⟩
 obtain ⟨le4, hw4⟩ := hwal4 trivial
 have HW4 := Lib.hid hw4
 have HF4 := Lib.hid hf4
 have hs4 := hf4.size
 clear hR4 hv4 hwal4 hw4 hf4 HRO
 go_wp2_with fail
 go_ret3
 have hnr : ∀ k, OwnR rb (.slice none 0 0) k → k = rb := fun k hk => by
  rcases hk with hk | hk
  ·exact hk
  ·simp [Value.ownBlock] at hk
 have h02 : Fr (fun _ => False) w w2 := HF1.out.next HF2.out
 have h03 : Fr (fun _ => False) w w3 := h02.trans HF3.out fun k hk => .inr (by rcases hk with e | e <;> omega)
 have h04 : Fr (fun _ => False) w w4 := h03.trans HF4.out fun k hk => .inr (by have := hnr k hk; omega)
 obtain ⟨w5, hw5⟩ : ∃ w5, w5 = w4.alloc (.cells #[.pointer (some ⟨pb, 0, none⟩), .pointer (some ⟨lp, 0, none⟩)] 79) := ⟨_, rfl⟩
 obtain ⟨w6, hw6⟩ : ∃ w6, w6 = w5.alloc (.cells #[.pointer (some ⟨rb, 0, none⟩), .pointer (some ⟨rl, 0, none⟩)] 84) := ⟨_, rfl⟩
 have h45 : Fr (fun _ => False) w4 w5 := by rw [hw5]; exact (Fr.refl _ _).alloc _
 have h46 : Fr (fun _ => False) w4 w6 := by rw [hw6]; exact h45.alloc _
 have hs5 : w5.heap.size = w4.heap.size + 1 := by rw [hw5]; simp
 have hs6 : w6.heap.size = w4.heap.size + 2 := by rw [hw6]; simp [hs5]
 have hx : w6.heap[w4.heap.size]? = some (.cells #[.pointer (some ⟨pb, 0, none⟩), .pointer (some ⟨lp, 0, none⟩)] 79 (0, 0)) := by rw [hw6]; refine block_old ?_ _; rw [hw5]; exact block_new _ _
 have hy : w6.heap[w4.heap.size + 1]? = some (.cells #[.pointer (some ⟨rb, 0, none⟩), .pointer (some ⟨rl, 0, none⟩)] 84 (0, 0)) := by rw [hw6, ← hs5]; exact block_new _ _
 rw [← hw5, ← hw6]
 refine ⟨w4.heap.size, w4.heap.size + 1, fun k => (w.heap.size ≤ k ∧ k < w1.heap.size) ∨ (w2.heap.size ≤ k ∧ k < w3.heap.size) ∨ k = w4.heap.size, fun k => (w1.heap.size ≤ k ∧ k < w2.heap.size) ∨ (w3.heap.size ≤ k ∧ k < w4.heap.size) ∨ k = w4.heap.size + 1, rfl, ⟨fun k => w2.heap.size ≤ k ∧ k < w3.heap.size, lp, pb, mb, ve, vs, ?_⟩, fun k hk => by omega, ⟨Plus (OwnR rb (.slice none 0 0)) w3 w4, rl, rb, lv4, le4, ?_⟩, fun k hk => ⟨by omega, by omega⟩, h04.next h46⟩
 ·refine ⟨hx, ?_, fun k hk => .inr (.inl hk), fun k hk => .inl (by rcases hk with e | e <;> omega), .inr (.inr rfl), ⟨fun e => by omega, fun e => by rcases e with e | e <;> omega⟩, fun k hk => by omega⟩
  have h4 : WalAt w4 (fun k => w2.heap.size ≤ k ∧ k < w3.heap.size) lp pb mb ve vs zeroS [⟨1, (recsL [.hard 0 0]).length, 0⟩] (beginD most) :=
   ⟨HW3.out.log.fr HF4.out (fun k hk e => by have := hnr k e; omega), HW3.out.disk.fr HF4.out (fun e => by have := hnr _ e; omega) (fun e => by have := hnr _ e; omega), HW3.out.far, HE.out.grow h04, HW3.out.low, HW3.out.dlow⟩
  exact h4.quiet h46
 ·refine ⟨hy, HW4.out.quiet h46, fun k hk => ?_, .inr (.inr rfl), fun e => ?_, fun k hk => by omega⟩
  ·rcases hk with hk | hk
   ·have := hnr k hk; exact .inl (by omega)
   ·exact .inr (.inl hk)
  ·rcases e with e | e
   ·have := hnr _ e; omega
   ·omega
end
end Go.Proofs.YtgmghopcppniaaaGreatDoor

/- wal's laws: a log in some blocks; what its methods do: walked. -/
namespace Go.Proofs.YtgmghopcppniaaaGreatDoor
open Go.RowKit Go.Lib

theorem neq61 (a b c d : Int) (w : World) : Sem.run Tryz.prog (binOp .neq 61 (.agg #[.int .i64 a, .int .i64 b]) (.agg #[.int .i64 c, .int .i64 d])) w = .ok (.bool (!(a == c && b == d))) w := by
 rw [run_neq_struct, eq61]; rfl
theorem eqq61 (a b c d : Int) (w : World) : Sem.run Tryz.prog (binOp .eql 61 (.agg #[.int .i64 a, .int .i64 b]) (.agg #[.int .i64 c, .int .i64 d])) w = .ok (.bool (a == c && b == d)) w := by
 rw [run_eql_struct, eq61]; rfl
/-- a log and its disk; A: the blocks of these -/
def ShAt (w : World) (A : Nat → Prop) (lp pb mb : Nat) (L : LogD) (D : DiskD) : Prop :=
 ∃ (S : Nat → Prop) (ve vs : Value), WalAt w S lp pb mb ve vs L.st (L.pre ++ [L.last]) D ∧ (∀ k, WAll S pb mb k → A k) ∧ ∀ k, A k → k < w.heap.size
section
variable {w w' : World} {A : Nat → Prop} {lp pb mb : Nat} {L : LogD} {D : DiskD}
theorem ShAt.quiet (h : ShAt w A lp pb mb L D) (hf : Fr (fun _ => False) w w') : ShAt w' A lp pb mb L D := by
 obtain ⟨S, ve, vs, h1, h2, h3⟩ := h
 exact ⟨S, ve, vs, h1.quiet hf, h2, fun k hk => Nat.lt_of_lt_of_le (h3 k hk) hf.size⟩
theorem ShAt.mono {A' : Nat → Prop} (h : ShAt w A lp pb mb L D) (hA : ∀ k, A k → A' k) (hl : ∀ k, A' k → k < w.heap.size) : ShAt w A' lp pb mb L D := by
 obtain ⟨S, ve, vs, h1, h2, h3⟩ := h
 exact ⟨S, ve, vs, h1, fun k hk => hA k (h2 k hk), hl⟩
def ShPost (p : Int × (LogD × DiskD)) (A : Nat → Prop) (lp pb mb : Nat) (w : World) (e : Ending) (w' : World) : Prop := e = .returned (.int .i64 p.1) ∧ ShAt w' (Plus A w w') lp pb mb p.2.1 p.2.2 ∧ Fr A w w'
theorem ShAt.post {S : Nat → Prop} {p : Int × (LogD × DiskD)} {e : Ending} (h2 : ∀ k, WAll S pb mb k → A k) (h3 : ∀ k, A k → k < w.heap.size) (h : LPost p S lp pb mb w e w') : ShPost p A lp pb mb w e w' := by
 obtain ⟨h4, ⟨ve, vs, h5⟩, h6⟩ := h
 refine ⟨h4, ⟨_, ve, vs, h5, fun k hk => ?_, Plus.lt h3 h6.size⟩, h6.mono fun k _ hk => h2 k hk⟩
 rcases hk with (hk | hk) | hk
 ·exact .inl (h2 k (.inl hk))
 ·exact .inr hk
 ·exact .inl (h2 k (.inr hk))
theorem sh_save {Q : Nat → Prop} (h : ShAt w A lp pb mb L D) (hf : Fit L D) {t v : Int} (ht : I64 t) (hv : I64 v) {a : Option Addr} {cap : Nat} (l : List EntD) (hr : SRow w Q 4 (.slice a l.length cap) l.length (entsC l)) (hQ : ∀ k, Q k → k < w.heap.size ∧ ¬ A k) (hl : l.length ≤ 50000)
  (hI : ∀ e ∈ l, I64 e.index ∧ I64 e.term ∧ I64 e.kind ∧ e.data.length ≤ 1000000) (hX : (recsL (.hard t v :: l.map .ent)).length ≤ 1000000) {p : Int × (LogD × DiskD)} (hp : saveL L D t v l = p) :
  Calls Tryz.prog 54 #[.pointer (some ⟨lp, 0, none⟩), .agg #[.int .i64 t, .int .i64 v], .slice a l.length cap] w (ShPost p A lp pb mb w) := by
 obtain ⟨S, ve, vs, h1, h2, h3⟩ := h
 have hs := wsave_h (pre := L.pre) (last := L.last) h1 hf.num0 hf.num1 hf.size hf.many hf.ok hf.top (by have := hf.few; omega) ht hv l hr (fun k hk => ⟨(hQ k hk).1, fun e => (hQ k hk).2 (h2 k e)⟩) hl hI hX
 have hp2 : saveL ⟨L.st, L.pre, L.last⟩ D t v l = p := hp
 rw [hp2] at hs
 exact hs.mono fun e w' h => ShAt.post h2 h3 h
theorem sh_reset (h : ShAt w A lp pb mb L D) (hf : Fit L D) {p : Int × (LogD × DiskD)} (hp : resetL L D = p) : Calls Tryz.prog 73 #[.pointer (some ⟨lp, 0, none⟩)] w (ShPost p A lp pb mb w) := by
 obtain ⟨S, ve, vs, h1, h2, h3⟩ := h
 have hs := reset_h (pre := L.pre) (last := L.last) h1 hf.num0 (by have := hf.num1; omega) hf.size (by have := hf.many; omega) hf.ok.hard.2.2.1 hf.ok.hard.2.2.2
 have hp2 : resetL ⟨L.st, L.pre, L.last⟩ D = p := hp
 rw [hp2] at hs
 exact hs.mono fun e w' h => ShAt.post h2 h3 h
theorem sh_entries (h : ShAt w A lp pb mb L D) (hl : L.st.ents.length ≤ 10000000) {l : List EntD} (he : L.st.ents = l) :
  Calls Tryz.prog 39 #[.pointer (some ⟨lp, 0, none⟩)] w fun e w' => ∃ (a : Option Addr) (cap : Nat), e = .returned (.slice a l.length cap) ∧ SRow w' (fun k => w.heap.size ≤ k ∧ k < w'.heap.size) 4 (.slice a l.length cap) l.length (entsC l) ∧ Fr (fun _ => False) w w' := by
 obtain ⟨S, ve, vs, h1, h2, h3⟩ := h
 refine (entries_h h1.log hl).mono ?_
 rintro e w' ⟨v', rfl, hr, hf⟩
 rw [he] at hr
 obtain ⟨a, cap, rfl⟩ := ownsRow_shape hr
 exact ⟨a, cap, rfl, (SRow.of_owns hr).mono fun k hk => hr.lt k hk, hf⟩
theorem sh_hard (h : ShAt w A lp pb mb L D) : Calls Tryz.prog 37 #[.pointer (some ⟨lp, 0, none⟩)] w fun r w' => r = .returned (.agg #[.int .i64 L.st.t, .int .i64 L.st.v]) ∧ Fr (fun _ => False) w w' := by
 obtain ⟨S, ve, vs, h1, h2, h3⟩ := h
 exact hard_h h1.log
theorem sh_segments (h : ShAt w A lp pb mb L D) (hn : ∀ s ∈ L.pre ++ [L.last], 0 < s.num ∧ s.num < 1000000) (hl : (L.pre ++ [L.last]).length ≤ 100000) {l : List Str} (he : segNames (L.pre ++ [L.last]) = l) :
  Calls Tryz.prog 46 #[.pointer (some ⟨lp, 0, none⟩)] w fun e w' => ∃ (a : Option Addr) (cap : Nat), e = .returned (.slice a l.length cap) ∧ SRow w' (fun k => w.heap.size ≤ k ∧ k < w'.heap.size) 1 (.slice a l.length cap) l.length (l.map encS) ∧ Fr (fun _ => False) w w' := by
 obtain ⟨S, ve, vs, h1, h2, h3⟩ := h
 refine (segments_h h1.log h1.env hn hl (by simp)).mono ?_
 rintro e w' ⟨v', rfl, hr, hf⟩
 rw [he] at hr
 obtain ⟨a, cap, rfl⟩ := ownsRow_shape hr
 exact ⟨a, cap, rfl, (SRow.of_owns hr).mono fun k hk => hr.lt k hk, hf⟩
/-- all that was made since, but one block -/
def AH (w : World) (h : Nat) (W : World) : Nat → Prop := fun k => w.heap.size ≤ k ∧ k < W.heap.size ∧ k ≠ h
theorem sh_next {w wi W : World} {h : Nat} (hS : ShAt wi (AH w h wi) lp pb mb L D) (hh : h < wi.heap.size) (hq : Fr (fun _ => False) wi W) (hf : Fit L D) {t v : Int} (ht : I64 t) (hv : I64 v) {a : Option Addr} {cap : Nat} (l : List EntD) (hr : SRow W (fun k => wi.heap.size ≤ k ∧ k < W.heap.size) 4 (.slice a l.length cap) l.length (entsC l)) (hl : l.length ≤ 50000)
  (hI : ∀ e ∈ l, I64 e.index ∧ I64 e.term ∧ I64 e.kind ∧ e.data.length ≤ 1000000) (hX : (recsL (.hard t v :: l.map .ent)).length ≤ 1000000) {p : Int × (LogD × DiskD)} (hp : saveL L D t v l = p) :
  Calls Tryz.prog 54 #[.pointer (some ⟨lp, 0, none⟩), .agg #[.int .i64 t, .int .i64 v], .slice a l.length cap] W fun e w' => e = .returned (.int .i64 p.1) ∧ ShAt w' (AH w h w') lp pb mb p.2.1 p.2.2 ∧ Fr (AH w h wi) wi w' := by
 refine (sh_save (hS.quiet hq) hf ht hv l hr (fun k hk => ⟨hk.2, fun e => by have := e.2.1; omega⟩) hl hI hX hp).mono ?_
 rintro e w' ⟨rfl, h1, h2⟩
 have hs := hq.size
 have hs2 := h2.size
 refine ⟨rfl, h1.mono (fun k hk => ?_) (fun k hk => hk.2.1), (hq.mono (o2 := AH w h wi) fun _ _ h => h.elim).next h2⟩
 rcases hk with hk | hk
 ·exact ⟨hk.1, by have := hk.2.1; omega, hk.2.2⟩
 ·refine ⟨?_, hk.2, by omega⟩
  obtain ⟨S, ve, vs, g1, g2, g3⟩ := hS
  have h3 := g2 lp (.inl g1.log.slp)
  have := h3.1
  have := h3.2.1
  omega
/-- the same of entries that have just been made a slice -/
theorem sh_made {w wi W : World} {h : Nat} (hS : ShAt wi (AH w h wi) lp pb mb L D) (hh : h < wi.heap.size) (hq : Fr (fun _ => False) wi W) (hf : Fit L D) {t v : Int} (ht : I64 t) (hv : I64 v) {k n : Nat} (l : List EntD) (hn : l.length = n) (hb : W.heap[k]? = some (.cells (entsC l).toArray 95 (0, 0))) (hk : wi.heap.size ≤ k) (hl : l.length ≤ 50000)
  (hI : ∀ e ∈ l, I64 e.index ∧ I64 e.term ∧ I64 e.kind ∧ e.data.length ≤ 1000000) (hX : (recsL (.hard t v :: l.map .ent)).length ≤ 1000000) {p : Int × (LogD × DiskD)} (hp : saveL L D t v l = p) :
  Calls Tryz.prog 54 #[.pointer (some ⟨lp, 0, none⟩), .agg #[.int .i64 t, .int .i64 v], .slice (some ⟨k, 0, none⟩) n n] W fun e w' => e = .returned (.int .i64 p.1) ∧ ShAt w' (AH w h w') lp pb mb p.2.1 p.2.2 ∧ Fr (AH w h wi) wi w' := by
 subst hn
 exact sh_next hS hh hq hf ht hv l (SRow.of_block hb (ents_len l) (by unfold maxLen; omega) ⟨hk, lt_of_block hb⟩) hl hI hX hp
end
end Go.Proofs.YtgmghopcppniaaaGreatDoor

/- wal's laws: the chapter's examples: walked. -/
namespace Go.Proofs.YtgmghopcppniaaaGreatDoor
open Go.RowKit Go.Lib

section
variable {w : World}
set_option maxRecDepth 100000 in
set_option maxHeartbeats 16000000 in
theorem wshown_h (hE : Env w) (h8 : 8 ≤ w.heap.size) : Calls Tryz.prog 30 #[] w fun e w' => e = .returned (.bool true) ∧ Fr (fun _ => False) w w' := by
 obtain ⟨L1, D1, L2, D2, L3, D3, L4, D4, p1, p2, p3, p4, k2, k3, k4, ft1, ft2, ft3⟩ := shown_plain
 have HN := Lib.hid (new_yes (w := w) (most := 10000) (by decide) (by decide))
 have HE := Lib.hid hE
 have HBO := Lib.hid (begin_open (most := 10000) (by decide))
 have ft0 : Fit beginL (beginD 10000) := (RunInv.start (M := 10000) (by decide) (by decide)).fit (by decide) (by decide)
 have HP := Lib.hid (And.intro p1 (And.intro p2 (And.intro p3 p4)))
 have HK := Lib.hid (And.intro k2 (And.intro k3 k4))
 have HFT := Lib.hid (And.intro ft0 (And.intro ft1 (And.intro ft2 ft3)))
 unfold NewPost2 at HN
 clear hE p1 p2 p3 p4 k2 k3 k4 ft0 ft1 ft2 ft3
 go_enter Tryz.func30, Tryz.ntmps30
 go_wp2_with fail
 refine Calls.mono HN.out ?_
 rintro e w1 ⟨pb, mb, rfl, hD1, hf1, hpb, hmb⟩
 have HD1 := Lib.hid hD1
 have HF1 := Lib.hid hf1
 have hs1 := hf1.size
 clear hD1 hf1 HN
 have hpl := lt_of_block HD1.out.head
 have hml := HD1.out.map.lt
 have HOP := Lib.hid (open_h HD1.out (HE.out.grow HF1.out) ⟨by omega, by omega⟩ (by decide))
 unfold OpenPost at HOP
 rw [HBO.out] at HOP
 dsimp only at HOP
 go_wp2_with fail
 refine Calls.mono HOP.out ?_
 rintro e w2 ⟨lp, rfl, hwal, hD2, hf2⟩
 obtain ⟨ve, vs, hw2⟩ := hwal trivial
 have hs2 := hf2.size
 have HF2 : Hid (Fr (fun _ => False) w w2) := HF1.out.trans hf2 fun k hk => .inr (by rcases hk with e | e <;> omega)
 have HSA : Hid (ShAt w2 (fun k => w.heap.size ≤ k ∧ k < w2.heap.size) lp pb mb beginL (beginD 10000)) := ⟨_, ve, vs, hw2, fun k hk => by
  rcases hk with ⟨h1, h2⟩ | (h1 | h1)
  ·exact ⟨by omega, h2⟩
  ·omega
  ·omega, fun k hk => hk.2⟩
 clear hwal hD2 hf2 hw2 HOP
 have HSG := Lib.hid (fun (W : World) (hq : Fr (fun _ => False) w2 W) => sh_segments (HSA.out.quiet hq) (fun s hs => by rw [begin_segs, List.mem_singleton] at hs; subst hs; exact ⟨by decide, by decide⟩) (by decide) (l := [[119, 49]]) (by rw [begin_segs]; show [nameW 1] = _; rw [name_one]))
 have HHD := Lib.hid (fun (W : World) (hq : Fr (fun _ => False) w2 W) => (sh_hard (HSA.out.quiet hq) : Calls Tryz.prog 37 #[.pointer (some ⟨lp, 0, none⟩)] W fun r w' => r = .returned (.agg #[.int .i64 0, .int .i64 0]) ∧ Fr (fun _ => False) W w'))
 have hn0 := neq61 0 0 0 0
 go_wp2_with fail
 refine Calls.mono (HSG.out _ (Fr.refl _ _)) ?_
 rintro e w3 ⟨a3, c3, rfl, hr3, hf3⟩
 have HF3 := Lib.hid hf3
 clear hr3 hf3
 go_wp2_with fail
 refine Calls.mono (HSG.out _ HF3.out) ?_
 rintro e w4 ⟨a4, c4, rfl, hr4, hf4⟩
 have HF4 := Lib.hid (HF3.out.next hf4)
 obtain ⟨g4, o4, rfl, hc4⟩ := hr4.cell (by decide)
 have x4 := hc4 0 (.string (bs [119, 49])) rfl
 rw [Nat.add_zero] at x4
 have e4 : (bs [119, 49]).toList = [119, 49] := bs_toList _
 clear hr4 hf4 hc4
 go_wp2_with fail
 refine Calls.mono (HHD.out _ HF4.out) ?_
 rintro e w5 ⟨rfl, hf5⟩
 have HF5 := Lib.hid (HF4.out.next hf5)
 clear hf5 x4 e4
 go_upto_region 7 with fail
 obtain ⟨w6, hw6⟩ : ∃ w6, w6 = w5.alloc (.cells #[.int .i64 1, .int .i64 2] 61) := ⟨_, rfl⟩
 have HF6 : Hid (Fr (fun _ => False) w2 w6) := by show Fr _ _ _; rw [hw6]; exact HF5.out.alloc _
 have hb6 : w6.heap[w5.heap.size]? = some (.cells #[.int .i64 1, .int .i64 2] 61 (0, 0)) := by rw [hw6]; exact block_new _ _
 have HB6 := Lib.hid hb6
 have hlt6 := lt_of_block hb6
 have hs5 := HF5.out.size
 go_upto_region 8 with fail
 rw [← hw6]
 clear hw6 hn0 HSG HHD
 have y0 := cell_of hb6 (i := 0) (v := .int .i64 1) rfl
 have y1 := cell_of hb6 (i := 1) (v := .int .i64 2) rfl
 clear hb6
 have HS : Hid (ShAt w6 (AH w w5.heap.size w6) lp pb mb beginL (beginD 10000)) := (HSA.out.quiet HF6.out).mono (fun k hk => ⟨hk.1, by have := hk.2; have := HF6.out.size; omega, by have := hk.2; omega⟩) (fun k hk => hk.2.1)
 have HF : Hid (Fr (fun _ => False) w w6) := HF2.out.next HF6.out
 have HB := Lib.hid HB6.out
 have hlt := hlt6
 clear HB6 HF6 HF5 HF4 HF3 HF2 HSA hlt6
 obtain ⟨qa, qb, qc, qx⟩ := (show (_ ∧ _ ∧ _ ∧ _) from ⟨small_ent (i := 1) (t := 1) (c := 97) (by decide) (by decide) (by decide) (by decide), small_ent (i := 2) (t := 1) (c := 98) (by decide) (by decide) (by decide) (by decide), small_ent (i := 2) (t := 1) (c := 99) (by decide) (by decide) (by decide) (by decide), small_ent (i := 7) (t := 2) (c := 120) (by decide) (by decide) (by decide) (by decide)⟩)
 have hI1 : I64 1 := i64_small (by decide) (by decide)
 have hI2 : I64 2 := i64_small (by decide) (by decide)
 have hhard := hard_bytes hI1 hI2
 have HE0 : Hid (∀ W : World, Calls Tryz.prog 55 #[.int .i64 1, .int .i64 1, .string ⟨#[97]⟩] W fun e w' => e = .returned (.agg #[.int .i64 1, .int .i64 1, .int .i64 2, .string ⟨#[97]⟩]) ∧ Fr (fun _ => False) W w') := Lib.hid (fun W => wentry_h (w := W) 1 1 [97])
 have HE1 : Hid (∀ W : World, Calls Tryz.prog 55 #[.int .i64 2, .int .i64 1, .string ⟨#[98]⟩] W fun e w' => e = .returned (.agg #[.int .i64 2, .int .i64 1, .int .i64 2, .string ⟨#[98]⟩]) ∧ Fr (fun _ => False) W w') := Lib.hid (fun W => wentry_h (w := W) 2 1 [98])
 have HSV : Hid (∀ (W : World) (_ : Fr (fun _ => False) w6 W) (k : Nat) (_ : W.heap[k]? = some (.cells #[.int .i64 1, .int .i64 1, .int .i64 2, .string ⟨#[97]⟩, .int .i64 2, .int .i64 1, .int .i64 2, .string ⟨#[98]⟩] 95 (0, 0))) (_ : w6.heap.size ≤ k), Calls Tryz.prog 54 #[.pointer (some ⟨lp, 0, none⟩), .agg #[.int .i64 1, .int .i64 2], .slice (some ⟨k, 0, none⟩) 2 2] W fun e w' => e = .returned (.int .i64 0) ∧ ShAt w' (AH w w5.heap.size w') lp pb mb L1 D1 ∧ Fr (AH w w5.heap.size w6) w6 w') := Lib.hid (fun W hq k hb hk =>
  (sh_made HS.out hlt hq HFT.out.1 hI1 hI2 (k := k) (n := 2) [ea, eb] rfl hb hk (by decide) (fun e he => by
   simp only [List.mem_cons, List.not_mem_nil, or_false] at he
   rcases he with rfl | rfl
   ·exact qa.1
   ·exact qb.1) (by
   rw [recsL_cons, List.length_append]
   show _ + (recF (.ent ea) ++ (recF (.ent eb) ++ [])).length ≤ _
   rw [List.append_nil, List.length_append]
   have h1 := qa.2.2.1
   have h2 := qb.2.2.1
   unfold ea eb
   omega) HP.out.1))
 have HCW := Lib.hid (fun (o : Nat → Prop) (W : World) (hq : Fr o w6 W) (h1 : ¬ o w5.heap.size) => And.intro (hq.cell y0 h1) (hq.cell y1 h1))
 clear qa qb qc qx hhard hI1 hI2
 go_upto_region 8 with fail
 go_cut [6] (fun s6 wx => s6 = .int .i64 0 ∧ Hid (ShAt wx (AH w w5.heap.size wx) lp pb mb L1 D1 ∧ Fr (AH w w5.heap.size w6) w6 wx))
 case first =>
  go_region_held (fun W => W.cell? ⟨w5.heap.size, 0, none⟩ = some (.int .i64 1) ∧ W.cell? ⟨w5.heap.size, 1, none⟩ = some (.int .i64 2))
   (first | go_keep | (with_reducible exact pC) | (with_reducible exact p1) | (with_reducible exact p0) | fail)
   (first
    | (go_at_call 55; (with_reducible refine Calls.mono (HE0.out _) ?_); clear HE0; rintro r wA0 ⟨rfl, hq⟩; have f0 := (show Fr (fun _ => False) w6 _ by repeat (first | exact Fr.refl _ _ | refine Fr.drew ?_)).next hq; have p0 := HCW.out _ _ f0 (fun h => h); have s0 := f0.size; have n0 : ¬ w5.heap.size = wA0.heap.size := (by omega); clear hq)
    | (have tok := p0; clear tok; go_at_call 55; (with_reducible refine Calls.mono (HE1.out _) ?_); clear HE1; rintro r wA1 ⟨rfl, hq⟩; have f1 := (show Fr (fun _ => False) w6 _ by repeat (first | exact f0 | refine Fr.drew ?_)).next hq; have p1 := HCW.out _ _ f1 (fun h => h); have s1 := f1.size; have n1 : ¬ w5.heap.size = wA1.heap.size := (by omega); clear hq)
    | (have tok := p1; clear tok; go_at_call 54; (with_reducible refine Calls.mono (HSV.out _ (show Fr (fun _ => False) w6 _ by repeat (first | exact f1 | refine Fr.drew ?_ | refine Fr.alloc ?_ _)) wA1.heap.size (by first | exact block_new _ _ | exact block_new_drew rfl) s1) ?_); clear HSV; rintro r wC ⟨rfl, hsC, hq⟩; have HSC := Lib.hid (And.intro hsC hq); have pC := HCW.out _ _ hq (fun h => h.2.2 rfl); clear hq hsC)
    | fail)
  all_goals
   go_wp2_with fail
   go_meet
   exact ⟨rfl, HSC.out⟩
 case rest =>
 obtain ⟨rfl, HSX⟩ := hcut
 clear HE0 HE1 HSV HCW
 obtain ⟨w7, hwn⟩ : ∃ x, x = wc := ⟨_, rfl⟩
 rw [← hwn] at HSX ⊢
 clear hwn
 have HS := Lib.hid HSX.out.1
 have HFN := Lib.hid HSX.out.2
 have hb := HFN.out.keep HB.out (fun h => h.2.2 rfl)
 have HB := Lib.hid hb
 have y0 := cell_of hb (i := 0) (v := .int .i64 1) rfl
 have y1 := cell_of hb (i := 1) (v := .int .i64 2) rfl
 have hlt := lt_of_block hb
 have HF : Hid (Fr (fun _ => False) w w7) := HF.out.trans HFN.out fun k hk => .inr hk.1
 clear hb HSX HFN
 obtain ⟨qa, qb, qc, qx⟩ := (show (_ ∧ _ ∧ _ ∧ _) from ⟨small_ent (i := 1) (t := 1) (c := 97) (by decide) (by decide) (by decide) (by decide), small_ent (i := 2) (t := 1) (c := 98) (by decide) (by decide) (by decide) (by decide), small_ent (i := 2) (t := 1) (c := 99) (by decide) (by decide) (by decide) (by decide), small_ent (i := 7) (t := 2) (c := 120) (by decide) (by decide) (by decide) (by decide)⟩)
 have hI1 : I64 1 := i64_small (by decide) (by decide)
 have hI2 : I64 2 := i64_small (by decide) (by decide)
 have hhard := hard_bytes hI1 hI2
 have HE0 : Hid (∀ W : World, Calls Tryz.prog 55 #[.int .i64 2, .int .i64 1, .string ⟨#[99]⟩] W fun e w' => e = .returned (.agg #[.int .i64 2, .int .i64 1, .int .i64 2, .string ⟨#[99]⟩]) ∧ Fr (fun _ => False) W w') := Lib.hid (fun W => wentry_h (w := W) 2 1 [99])
 have HSV : Hid (∀ (W : World) (_ : Fr (fun _ => False) w7 W) (k : Nat) (_ : W.heap[k]? = some (.cells #[.int .i64 2, .int .i64 1, .int .i64 2, .string ⟨#[99]⟩] 95 (0, 0))) (_ : w7.heap.size ≤ k), Calls Tryz.prog 54 #[.pointer (some ⟨lp, 0, none⟩), .agg #[.int .i64 1, .int .i64 2], .slice (some ⟨k, 0, none⟩) 1 1] W fun e w' => e = .returned (.int .i64 0) ∧ ShAt w' (AH w w5.heap.size w') lp pb mb L2 D2 ∧ Fr (AH w w5.heap.size w7) w7 w') := Lib.hid (fun W hq k hb hk =>
  (sh_made HS.out hlt hq HFT.out.2.1 hI1 hI2 (k := k) (n := 1) [ec] rfl hb hk (by decide) (fun e he => by
   rw [List.mem_singleton.1 he]
   exact qc.1) (by
   rw [recsL_cons, List.length_append]
   show _ + (recF (.ent ec) ++ []).length ≤ _
   rw [List.append_nil]
   have h1 := qc.2.2.1
   unfold ec
   omega) HP.out.2.1))
 have HCW := Lib.hid (fun (o : Nat → Prop) (W : World) (hq : Fr o w7 W) (h1 : ¬ o w5.heap.size) => And.intro (hq.cell y0 h1) (hq.cell y1 h1))
 clear qa qb qc qx hhard hI1 hI2
 go_upto_region 9 with fail
 go_cut [7] (fun s7 wx => s7 = .int .i64 0 ∧ Hid (ShAt wx (AH w w5.heap.size wx) lp pb mb L2 D2 ∧ Fr (AH w w5.heap.size w7) w7 wx))
 case first =>
  go_region_held (fun W => W.cell? ⟨w5.heap.size, 0, none⟩ = some (.int .i64 1) ∧ W.cell? ⟨w5.heap.size, 1, none⟩ = some (.int .i64 2))
   (first | go_keep | (with_reducible exact pC) | (with_reducible exact p1) | (with_reducible exact p0) | fail)
   (first
    | (go_at_call 55; (with_reducible refine Calls.mono (HE0.out _) ?_); clear HE0; rintro r wA0 ⟨rfl, hq⟩; have f0 := (show Fr (fun _ => False) w7 _ by repeat (first | exact Fr.refl _ _ | refine Fr.drew ?_)).next hq; have p0 := HCW.out _ _ f0 (fun h => h); have s0 := f0.size; have n0 : ¬ w5.heap.size = wA0.heap.size := (by omega); clear hq)
    | (have tok := p0; clear tok; go_at_call 54; (with_reducible refine Calls.mono (HSV.out _ (show Fr (fun _ => False) w7 _ by repeat (first | exact f0 | refine Fr.drew ?_ | refine Fr.alloc ?_ _)) wA0.heap.size (by first | exact block_new _ _ | exact block_new_drew rfl) s0) ?_); clear HSV; rintro r wC ⟨rfl, hsC, hq⟩; have HSC := Lib.hid (And.intro hsC hq); have pC := HCW.out _ _ hq (fun h => h.2.2 rfl); clear hq hsC)
    | fail)
  all_goals
   go_wp2_with fail
   go_meet
   exact ⟨rfl, HSC.out⟩
 case rest =>
 obtain ⟨rfl, HSX⟩ := hcut
 clear HE0 HSV HCW
 obtain ⟨w8, hwn⟩ : ∃ x, x = wc := ⟨_, rfl⟩
 rw [← hwn] at HSX ⊢
 clear hwn
 have HS := Lib.hid HSX.out.1
 have HFN := Lib.hid HSX.out.2
 have hb := HFN.out.keep HB.out (fun h => h.2.2 rfl)
 have HB := Lib.hid hb
 have y0 := cell_of hb (i := 0) (v := .int .i64 1) rfl
 have y1 := cell_of hb (i := 1) (v := .int .i64 2) rfl
 have hlt := lt_of_block hb
 have HF : Hid (Fr (fun _ => False) w w8) := HF.out.trans HFN.out fun k hk => .inr hk.1
 clear hb HSX HFN
 have HL := Lib.hid (sh_entries HS.out (by rw [HK.out.1]; decide) (l := [ea, ec]) (by rw [HK.out.1]))
 go_wp2_with fail
 refine Calls.mono HL.out ?_
 rintro e w9 ⟨la, lc, rfl, hr9, hf9⟩
 have HR9 := Lib.hid hr9
 have HF9 := Lib.hid hf9
 have hs9 := hf9.size
 have z0 := hf9.cell y0 (fun h => h)
 have z1 := hf9.cell y1 (fun h => h)
 have HS9 := Lib.hid (HS.out.quiet hf9)
 clear hr9 hf9 HL
 have HE0 : Hid (∀ W : World, Calls Tryz.prog 55 #[.int .i64 1, .int .i64 1, .string ⟨#[97]⟩] W fun e w' => e = .returned (.agg #[.int .i64 1, .int .i64 1, .int .i64 2, .string ⟨#[97]⟩]) ∧ Fr (fun _ => False) W w') := Lib.hid (fun W => wentry_h (w := W) 1 1 [97])
 have HE1 : Hid (∀ W : World, Calls Tryz.prog 55 #[.int .i64 2, .int .i64 1, .string ⟨#[99]⟩] W fun e w' => e = .returned (.agg #[.int .i64 2, .int .i64 1, .int .i64 2, .string ⟨#[99]⟩]) ∧ Fr (fun _ => False) W w') := Lib.hid (fun W => wentry_h (w := W) 2 1 [99])
 have HSE : Hid (∀ (W : World) (_ : Fr (fun _ => False) w9 W) (k : Nat) (_ : W.heap[k]? = some (.cells #[.int .i64 1, .int .i64 1, .int .i64 2, .string ⟨#[97]⟩, .int .i64 2, .int .i64 1, .int .i64 2, .string ⟨#[99]⟩] 95 (0, 0))), Calls Tryz.prog 38 #[.slice la 2 lc, .slice (some ⟨k, 0, none⟩) 2 2] W fun e w' => e = .returned (.bool true) ∧ Fr (fun _ => False) W w') := Lib.hid (fun W hq k hb =>
  (sameents_h (l := [ea, ec]) (m := [ea, ec]) (HR9.out.fr hq fun _ _ h => h) (SRow.of_block (S := fun _ => True) (xs := entsC [ea, ec]) (n := 2) hb rfl (by decide) trivial) (by decide)).mono fun e w' h => by
   rw [decide_eq_true rfl] at h; exact h)
 have HHD : Hid (∀ (W : World) (_ : Fr (fun _ => False) w9 W), Calls Tryz.prog 37 #[.pointer (some ⟨lp, 0, none⟩)] W fun r w' => r = .returned (.agg #[.int .i64 1, .int .i64 2]) ∧ Fr (fun _ => False) W w') := Lib.hid (fun W hq => by
  have h := sh_hard (HS9.out.quiet hq)
  rw [HK.out.1] at h
  exact h)
 have HCW := Lib.hid (fun (W : World) (hq : Fr (fun _ => False) w9 W) => And.intro (hq.cell z0 (fun h => h)) (hq.cell z1 (fun h => h)))
 have hn12 := neq61 1 2 1 2
 have nb : ¬ w5.heap.size = w9.heap.size := by omega
 clear y0 y1
 go_upto_region 11 with fail
 go_cut [81] (fun s81 wx => s81 = .bool false ∧ Hid (Fr (fun _ => False) w9 wx))
 case first =>
  go_region_held (fun W => W.cell? ⟨w5.heap.size, 0, none⟩ = some (.int .i64 1) ∧ W.cell? ⟨w5.heap.size, 1, none⟩ = some (.int .i64 2))
   (first | go_keep | (with_reducible exact p3) | (with_reducible exact p2) | (with_reducible exact p1) | (with_reducible exact p0) | fail)
   (first
    | (go_at_call 55; (with_reducible refine Calls.mono (HE0.out _) ?_); clear HE0; rintro r wA0 ⟨rfl, hq⟩; have f0 := (show Fr (fun _ => False) w9 _ by repeat (first | exact Fr.refl _ _ | refine Fr.drew ?_)).next hq; have p0 := HCW.out _ f0; have s0 := f0.size; have n0 : ¬ w5.heap.size = wA0.heap.size := (by omega); clear hq)
    | (have tok := p0; clear tok; go_at_call 55; (with_reducible refine Calls.mono (HE1.out _) ?_); clear HE1; rintro r wA1 ⟨rfl, hq⟩; have f1 := (show Fr (fun _ => False) w9 _ by repeat (first | exact f0 | refine Fr.drew ?_)).next hq; have p1 := HCW.out _ f1; have s1 := f1.size; have n1 : ¬ w5.heap.size = wA1.heap.size := (by omega); clear hq)
    | (have tok := p1; clear tok; go_at_call 38; (with_reducible refine Calls.mono (HSE.out _ (show Fr (fun _ => False) w9 _ by repeat (first | exact f1 | refine Fr.drew ?_ | refine Fr.alloc ?_ _)) wA1.heap.size (by first | exact block_new _ _ | exact block_new_drew rfl)) ?_); clear HSE; rintro r wA2 ⟨rfl, hq⟩; have f2 := (show Fr (fun _ => False) w9 _ by repeat (first | exact f1 | refine Fr.drew ?_ | refine Fr.alloc ?_ _)).next hq; have p2 := HCW.out _ f2; clear hq)
    | (have tok := p2; clear tok; go_at_call 37; (with_reducible refine Calls.mono (HHD.out _ (show Fr (fun _ => False) w9 _ by repeat (first | exact f2 | refine Fr.drew ?_))) ?_); clear HHD; rintro r wA3 ⟨rfl, hq⟩; have f3 := (show Fr (fun _ => False) w9 _ by repeat (first | exact f2 | refine Fr.drew ?_)).next hq; have p3 := HCW.out _ f3; clear hq)
    | fail)
  all_goals
   go_wp2_with fail
   go_meet
   exact ⟨rfl, by first | exact f3 | exact f3.drew⟩
 case rest =>
 obtain ⟨rfl, HFC⟩ := hcut
 obtain ⟨w10, hwn⟩ : ∃ x, x = wc := ⟨_, rfl⟩
 rw [← hwn] at HFC ⊢
 clear hwn
 have hf10 := HF9.out.next HFC.out
 have hs10 := hf10.size
 have hb := hf10.keep HB.out (fun h => h)
 have HB := Lib.hid hb
 have y0 := cell_of hb (i := 0) (v := .int .i64 1) rfl
 have y1 := cell_of hb (i := 1) (v := .int .i64 2) rfl
 have hlt2 := lt_of_block hb
 have HS2 : Hid (ShAt w10 (AH w w5.heap.size w10) lp pb mb L2 D2) := (HS.out.quiet hf10).mono (fun k hk => ⟨hk.1, by have := hk.2.1; omega, hk.2.2⟩) (fun k hk => hk.2.1)
 have HF3 := Lib.hid (HF.out.next hf10)
 clear HS HF hlt
 have HS := HS2
 have HF := HF3
 have hlt := hlt2
 clear HS2 HF3 hlt2 hb hf10 HFC z0 z1 HSE HHD HCW HS9 hn12 HE0 HE1
 obtain ⟨qa, qb, qc, qx⟩ := (show (_ ∧ _ ∧ _ ∧ _) from ⟨small_ent (i := 1) (t := 1) (c := 97) (by decide) (by decide) (by decide) (by decide), small_ent (i := 2) (t := 1) (c := 98) (by decide) (by decide) (by decide) (by decide), small_ent (i := 2) (t := 1) (c := 99) (by decide) (by decide) (by decide) (by decide), small_ent (i := 7) (t := 2) (c := 120) (by decide) (by decide) (by decide) (by decide)⟩)
 have hI1 : I64 1 := i64_small (by decide) (by decide)
 have hI2 : I64 2 := i64_small (by decide) (by decide)
 have hhard := hard_bytes hI1 hI2
 have HE0 : Hid (∀ W : World, Calls Tryz.prog 55 #[.int .i64 7, .int .i64 2, .string ⟨#[120]⟩] W fun e w' => e = .returned (.agg #[.int .i64 7, .int .i64 2, .int .i64 2, .string ⟨#[120]⟩]) ∧ Fr (fun _ => False) W w') := Lib.hid (fun W => wentry_h (w := W) 7 2 [120])
 have HSV : Hid (∀ (W : World) (_ : Fr (fun _ => False) w10 W) (k : Nat) (_ : W.heap[k]? = some (.cells #[.int .i64 7, .int .i64 2, .int .i64 2, .string ⟨#[120]⟩] 95 (0, 0))) (_ : w10.heap.size ≤ k), Calls Tryz.prog 54 #[.pointer (some ⟨lp, 0, none⟩), .agg #[.int .i64 1, .int .i64 2], .slice (some ⟨k, 0, none⟩) 1 1] W fun e w' => e = .returned (.int .i64 0) ∧ ShAt w' (AH w w5.heap.size w') lp pb mb L3 D3 ∧ Fr (AH w w5.heap.size w10) w10 w') := Lib.hid (fun W hq k hb hk =>
  (sh_made HS.out hlt hq HFT.out.2.2.1 hI1 hI2 (k := k) (n := 1) [ex] rfl hb hk (by decide) (fun e he => by
   rw [List.mem_singleton.1 he]
   exact qx.1) (by
   rw [recsL_cons, List.length_append]
   show _ + (recF (.ent ex) ++ []).length ≤ _
   rw [List.append_nil]
   have h1 := qx.2.2.1
   unfold ex
   omega) HP.out.2.2.1))
 have HCW := Lib.hid (fun (o : Nat → Prop) (W : World) (hq : Fr o w10 W) (h1 : ¬ o w5.heap.size) => And.intro (hq.cell y0 h1) (hq.cell y1 h1))
 clear qa qb qc qx hhard hI1 hI2
 go_upto_region 13 with fail
 go_cut [9] (fun s9 wx => s9 = .int .i64 0 ∧ Hid (ShAt wx (AH w w5.heap.size wx) lp pb mb L3 D3 ∧ Fr (AH w w5.heap.size w10) w10 wx))
 case first =>
  go_region_held (fun W => W.cell? ⟨w5.heap.size, 0, none⟩ = some (.int .i64 1) ∧ W.cell? ⟨w5.heap.size, 1, none⟩ = some (.int .i64 2))
   (first | go_keep | (with_reducible exact pC) | (with_reducible exact p1) | (with_reducible exact p0) | fail)
   (first
    | (go_at_call 55; (with_reducible refine Calls.mono (HE0.out _) ?_); clear HE0; rintro r wA0 ⟨rfl, hq⟩; have f0 := (show Fr (fun _ => False) w10 _ by repeat (first | exact Fr.refl _ _ | refine Fr.drew ?_)).next hq; have p0 := HCW.out _ _ f0 (fun h => h); have s0 := f0.size; have n0 : ¬ w5.heap.size = wA0.heap.size := (by omega); clear hq)
    | (have tok := p0; clear tok; go_at_call 54; (with_reducible refine Calls.mono (HSV.out _ (show Fr (fun _ => False) w10 _ by repeat (first | exact f0 | refine Fr.drew ?_ | refine Fr.alloc ?_ _)) wA0.heap.size (by first | exact block_new _ _ | exact block_new_drew rfl) s0) ?_); clear HSV; rintro r wC ⟨rfl, hsC, hq⟩; have HSC := Lib.hid (And.intro hsC hq); have pC := HCW.out _ _ hq (fun h => h.2.2 rfl); clear hq hsC)
    | fail)
  all_goals
   go_wp2_with fail
   go_meet
   exact ⟨rfl, HSC.out⟩
 case rest =>
 obtain ⟨rfl, HSX⟩ := hcut
 clear HE0 HSV HCW
 obtain ⟨w11, hwn⟩ : ∃ x, x = wc := ⟨_, rfl⟩
 rw [← hwn] at HSX ⊢
 clear hwn
 have HS := Lib.hid HSX.out.1
 have HFN := Lib.hid HSX.out.2
 have hb := HFN.out.keep HB.out (fun h => h.2.2 rfl)
 have HB := Lib.hid hb
 have y0 := cell_of hb (i := 0) (v := .int .i64 1) rfl
 have y1 := cell_of hb (i := 1) (v := .int .i64 2) rfl
 have hlt := lt_of_block hb
 have HF : Hid (Fr (fun _ => False) w w11) := HF.out.trans HFN.out fun k hk => .inr hk.1
 clear hb HSX HFN
 have HM := Lib.hid (sh_entries HS.out (by rw [HK.out.2.1]; decide) (l := [ex]) (by rw [HK.out.2.1]))
 go_wp2_with fail
 refine Calls.mono HM.out ?_
 rintro e w12 ⟨ma, mc, rfl, hr12, hf12⟩
 have HR12 := Lib.hid hr12
 have HF12 := Lib.hid hf12
 have hs12 := hf12.size
 clear hr12 hf12 HM
 have HRS := Lib.hid (sh_reset (HS.out.quiet HF12.out) HFT.out.2.2.2 HP.out.2.2.2)
 unfold ShPost at HRS
 dsimp only at HRS
 go_wp2_with fail
 refine Calls.mono HRS.out ?_
 rintro e w13 ⟨rfl, hs13, hf13⟩
 have HS13 := Lib.hid hs13
 have HF13 := Lib.hid hf13
 have hsz13 := hf13.size
 clear hs13 hf13 HRS
 have HEX : Hid (∀ W : World, Calls Tryz.prog 55 #[.int .i64 7, .int .i64 2, .string ⟨#[120]⟩] W fun e w' => e = .returned (.agg #[.int .i64 7, .int .i64 2, .int .i64 2, .string ⟨#[120]⟩]) ∧ Fr (fun _ => False) W w') := Lib.hid (fun W => wentry_h (w := W) 7 2 [120])
 go_wp2_with fail
 refine Calls.mono (HEX.out _) ?_
 rintro e w14 ⟨rfl, hf14⟩
 have HF14 := Lib.hid hf14
 clear hf14
 have HSE : Hid (Calls Tryz.prog 38 #[.slice ma 1 mc, .slice (some ⟨w14.heap.size, 0, none⟩) 1 1] (w14.alloc (.cells #[.int .i64 7, .int .i64 2, .int .i64 2, .string ⟨#[120]⟩] 95)) fun e w' => e = .returned (.bool true) ∧ Fr (fun _ => False) (w14.alloc (.cells #[.int .i64 7, .int .i64 2, .int .i64 2, .string ⟨#[120]⟩] 95)) w') :=
  (sameents_h (l := [ex]) (m := [ex]) ((HR12.out.fr HF13.out fun k hk h => by have := h.2.1; omega).fr (HF14.out.alloc (.cells #[.int .i64 7, .int .i64 2, .int .i64 2, .string ⟨#[120]⟩] 95)) fun _ _ h => h) (SRow.of_block (S := fun _ => True) (xs := entsC [ex]) (n := 1) (block_new _ _) rfl (by decide) trivial) (by decide)).mono fun e w' h => by
   rw [decide_eq_true rfl] at h; exact h
 go_wp2_with fail
 refine Calls.mono HSE.out ?_
 rintro e w15 ⟨rfl, hf15⟩
 have HF15 : Hid (Fr (fun _ => False) w13 w15) := (HF14.out.alloc _).next hf15
 clear hf15 HSE
 have HL := Lib.hid (sh_entries (HS13.out.quiet HF15.out) (by rw [HK.out.2.2]; decide) (l := []) HK.out.2.2)
 go_wp2_with fail
 refine Calls.mono HL.out ?_
 rintro e w16 ⟨na, nc, rfl, hr16, hf16⟩
 have HF16 := Lib.hid hf16
 clear hr16 hf16 HL
 go_wp2_with fail
 go_ret
 refine ⟨rfl, ?_⟩
 have h1 := (HF.out.next HF12.out).trans HF13.out fun k hk => .inr hk.1
 exact (h1.next HF15.out).next HF16.out
end
end Go.Proofs.YtgmghopcppniaaaGreatDoor
