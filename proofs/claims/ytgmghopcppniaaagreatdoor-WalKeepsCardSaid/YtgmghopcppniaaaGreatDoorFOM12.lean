/- Layer 3 in plain words: what a law finds behind a crash (no program). -/
import Derived.Test.YtgmghopcppniaaaGreatDoorFC
import Derived.Test.YtgmghopcppniaaaGreatDoorFOa
namespace Go.Proofs.YtgmghopcppniaaaGreatDoor

/-! ### the capacity stays -/
theorem then_cap (D : DiskD) (l : List FileD) : (thenD D l).2.most = D.most := by unfold thenD; split; exact turn_files.2; exact turn_files.2
theorem append_cap (D : DiskD) (n x : Str) : (appendD D n x).2.most = D.most := by
  unfold appendD
  repeat' split
  all_goals first | rfl | exact then_cap _ _
theorem sync_cap (D : DiskD) (n : Str) : (syncD D n).2.most = D.most := by
  unfold syncD
  repeat' split
  all_goals first | rfl | exact then_cap _ _
theorem trunc_cap (D : DiskD) (n : Str) (k : Int) : (truncD D n k).2.most = D.most := by
  unfold truncD
  repeat' split
  all_goals first | rfl | exact then_cap _ _
theorem readSeg_cap (D : DiskD) (st : StD) (n : Nat) (b : Bool) : (readSeg D st n b).2.most = D.most := by
  unfold readSeg
  split
  · rfl
  · dsimp only
    repeat' split
    all_goals first | rfl | exact trunc_cap _ _ _ | exact (sync_cap _ _).trans (trunc_cap _ _ _)
theorem readAll_cap : ∀ (l : List Nat) (st : StD) (segs : List SegD) (D : DiskD), (readAll l st segs D).2.most = D.most
  | [], _, _, _ => rfl
  | n :: t, st, segs, D => by
    unfold readAll
    dsimp only
    split
    · exact readSeg_cap _ _ _ _
    · exact (readAll_cap t _ _ _).trans (readSeg_cap _ _ _ _)
theorem openD_cap (D : DiskD) : (openD D).2.most = D.most := by
  unfold openD
  split
  · unfold firstD
    split
    · exact append_cap _ _ _
    · exact (sync_cap _ _).trans (append_cap _ _ _)
  · exact readAll_cap _ _ _ _

/-! ### acts under a fuse -/
section
variable {L : LogD} {D : DiskD} {R : Nat → List RecD} {b i : Nat} {a : ActW} {xb : UInt8 → Int → UInt8} {keep noise : List Int} {again : Int}
theorem Whole.fused (h : Whole L D R b) {k : Int} (hk : k ≤ 9223372036854775807) : Whole L (fuseD D k) R b :=
  ⟨⟨⟨h.ok.held.at'.same (h.ok.held.at'.inv.fused k hk) rfl, h.ok.held.segs, h.ok.held.last, h.ok.held.fresh, h.ok.held.alive, h.ok.held.ok⟩, h.ok.head, h.ok.many, h.ok.full, h.ok.thin⟩, h.st, h.pos⟩
structure KInv (L : LogD) (D : DiskD) (i : Nat) : Prop where
  whole : ∃ R b, Whole L D R b
  num : L.last.num ≤ 1 + i
  len : L.st.ents.length ≤ 5 * i
  most : D.most = 100000
theorem KInv.start {k : Int} (hk : k ≤ 9223372036854775807) : KInv beginL (fuseD (beginD 100000) k) 0 :=
  ⟨⟨beginR, 38, (whole_begin (by decide) (by decide)).fused hk⟩, Nat.le_refl _, Nat.le_refl _, rfl⟩
theorem KInv.skip (h : KInv L D i) : KInv L D (i + 1) := ⟨h.whole, by have := h.num; omega, by have := h.len; omega, h.most⟩
theorem KInv.fit (h : KInv L D i) (hi : i ≤ 100) : Fit L D := by
  obtain ⟨R, b, hw⟩ := h.whole
  have := h.num
  have := h.len
  exact hw.ok.fit (by omega) (by omega) (by rw [h.most]; decide)
theorem KInv.step (h : KInv L D i) (ha : GoodW a) (hi : i ≤ 100) (h7 : (doesL L D a).1 ≠ 7) : KInv (doesL L D a).2.1 (doesL L D a).2.2 (i + 1) := by
  obtain ⟨R, b, hw⟩ := h.whole
  have hn := h.num
  have h5 := doesL_len (a := a) hw.ok (by omega) ha
  have hl := h.len
  cases hw.ok.does (a := a) (by omega) ha with
  | same e hp he => rw [hp] at h5 ⊢; exact ⟨⟨R, b, hw⟩, by dsimp only; omega, by dsimp only at h5 ⊢; omega, h.most⟩
  | done rs _ hne h0 R' hH hrec hst hnum hpos hf2 hm =>
    exact ⟨⟨R', _, hH, by rw [hst, hw.st, hrec, foldS_app], hpos⟩, by omega, by omega, hm.trans h.most⟩
  | dies h hst hD hf2 => exact absurd h h7
  | torn M hg rs hrs h hst hd hS hgood hf2 hm => exact absurd h h7
theorem KInv.died_cap (h : KInv L D i) (ha : GoodW a) (hi : i ≤ 100) : (doesL L D a).2.2.most = 100000 := by
  obtain ⟨R, b, hw⟩ := h.whole
  have hn := h.num
  cases hw.ok.does (a := a) (by omega) ha with
  | same e hp he => rw [hp]; exact h.most
  | done rs _ hne h0 R' hH hrec hst hnum hpos hf2 hm => exact hm.trans h.most
  | dies h7 hst hD hf2 => rw [hD]; exact h.most
  | torn M hg rs hrs h7 hst hd hS hgood hf2 hm => exact hm.trans h.most
/-- what is found: all as it was; or a part of what was to come -/
def Found (L : LogD) (a : ActW) (s : StD) : Prop :=
  (s.t = L.st.t ∧ s.v = L.st.v ∧ s.ents = L.st.ents) ∨
  (pickZ a.op 10 = 6 ∧ s.t = L.st.t ∧ s.v = L.st.v ∧ s.ents = []) ∨
  (pickZ a.op 10 ≠ 6 ∧ ((s.t = L.st.t ∧ s.v = L.st.v) ∨ (s.t = (hardW a).1 ∧ s.v = (hardW a).2)) ∧ (∃ k, k ≤ (entriesW a).length ∧ s.ents = ((entriesW a).take k).foldl putE L.st.ents) ∧ ∀ e ∈ entriesW a, GoodE e)
theorem Whole.found (h : Whole L D R b) (hn : L.last.num + 1 < 1000000) (ha : GoodW a) (h7 : (doesL L D a).1 = 7) (hg : again ≤ 100) :
    (reopenD xb (doesL L D a).2.2 keep noise again).1.1 = 0 ∧ Found L a (reopenD xb (doesL L D a).2.2 keep noise again).1.2.1 := by
  obtain ⟨h0, j, hj, hs⟩ := h.reopen_died hn ha h7 (xb := xb) (keep := keep) (noise := noise) hg rfl
  cases h.ok.does hn ha with
  | same e hp he => rw [hp] at h7; dsimp only at h7; omega
  | done rs2 hrs2 hne h0 R' hH hrec hst hnum hpos hf2 hm => rw [h0] at h7; cases h7
  | dies _ hst hD hf2 =>
    rw [hD]
    have hS : SegsAt { D with dead := true } (L.pre.map (·.num)) L.last.num R [] 0 := h.ok.held.at'.same ⟨h.ok.held.at'.inv.sorted, h.ok.held.at'.inv.names, h.ok.held.at'.inv.synced, h.ok.held.at'.inv.full, h.ok.held.at'.inv.most, h.ok.held.at'.inv.many, h.ok.held.at'.inv.fuse⟩ rfl
    have h1 := crash_same (xb := xb) (keep := keep) (noise := noise) hS
    have h2 := reopen_torn hg h1 (show readS [] = (([], 0), 0) from rfl)
    refine ⟨h2.1, .inl ?_⟩
    rw [h2.2, h.st]
    exact ⟨rfl, rfl, rfl⟩
  | torn M hg2 rs2 hrs2 _ hst hd hS hgood hf2 hm =>
    refine ⟨h0, ?_⟩
    rw [hs]
    by_cases h6 : pickZ a.op 10 = 6
    · rw [if_pos h6]
      obtain ⟨⟨h1, h2⟩, h3 | h3⟩ := reset_part (L := L) (j := j)
      · exact .inl ⟨h1, h2, h3⟩
      · exact .inr (.inl ⟨h6, h1, h2, h3⟩)
    · rw [if_neg h6] at hrs2 ⊢
      obtain ⟨h1, h2⟩ := save_part (L := L) (t := (hardW a).1) (v := (hardW a).2) (l := entriesW a) (j := j)
      refine .inr (.inr ⟨h6, h1, h2, fun e he => (hgood (.ent e) ?_).1⟩)
      rw [hrs2]
      unfold saveRs layRs
      split
      · exact List.mem_cons_of_mem _ (List.mem_map_of_mem he)
      · exact List.mem_map_of_mem he
theorem KInv.found (h : KInv L D i) (hi : i ≤ 100) (ha : GoodW a) (h7 : (doesL L D a).1 = 7) (hg : again ≤ 100) :
    (reopenD xb (doesL L D a).2.2 keep noise again).1.1 = 0 ∧ Found L a (reopenD xb (doesL L D a).2.2 keep noise again).1.2.1 := by
  obtain ⟨R, b, hw⟩ := h.whole
  exact hw.found (by have := h.num; omega) ha h7 hg
theorem KInv.same (h : KInv L D i) (hg : again ≤ 100) : (reopenD xb D keep noise again).1.1 = 0 ∧ (reopenD xb D keep noise again).1.2.1 = L.st := by
  obtain ⟨R, b, hw⟩ := h.whole
  exact hw.reopen hg
end
end Go.Proofs.YtgmghopcppniaaaGreatDoor

/- wal's laws: WalKeeps: what the law holds between two acts. -/
namespace Go.Proofs.YtgmghopcppniaaaGreatDoor
open Go.RowKit Go.Lib

/-- where the law's two lists lie -/
def KSet (w : World) (A : Nat → Prop) (hb nb : Nat) (wr : World) (k : Nat) : Prop := (k < wr.heap.size ∧ w.heap.size ≤ k) ∧ (k ≠ hb ∧ k ≠ nb) ∧ ¬ A k
/-- the law's own variables: the vote and the entries that are held, the ones that are to come -/
structure KMem (w : World) (A : Nat → Prop) (hb nb : Nat) (t u : Int) (was now : List EntD) (tn un : Int) (vw vn : Value) (wr : World) : Prop where
  h : wr.heap[hb]? = some (.cells #[.int .i64 t, .int .i64 u] 61 (0, 0))
  n : wr.heap[nb]? = some (.cells #[.int .i64 tn, .int .i64 un] 61 (0, 0))
  ne : hb ≠ nb
  fh : ¬ A hb ∧ w.heap.size ≤ hb
  fn : ¬ A nb ∧ w.heap.size ≤ nb
  was : SRow wr (KSet w A hb nb wr) 4 vw was.length (entsC was)
  now : SRow wr (KSet w A hb nb wr) 4 vn now.length (entsC now)
  low : ∀ k, A k → w.heap.size ≤ k
  fr : Fr (fun _ => False) w wr
section
variable {w wr w' : World} {A : Nat → Prop} {hb nb xb i : Nat} {t u tn un : Int} {was now l : List EntD} {vw vn v : Value} {L : LogD} {D : DiskD}
theorem KMem.quiet (h : KMem w A hb nb t u was now tn un vw vn wr) (hf : Fr (fun _ => False) wr w') : KMem w A hb nb t u was now tn un vw vn w' := by
  have hs := hf.size
  have hm : ∀ k, KSet w A hb nb wr k → KSet w A hb nb w' k := fun k hk => ⟨⟨by have := hk.1.1; omega, hk.1.2⟩, hk.2⟩
  exact ⟨hf.keep h.h (fun h => h), hf.keep h.n (fun h => h), h.ne, h.fh, h.fn, (h.was.fr hf (fun _ _ h => h)).mono hm, (h.now.fr hf (fun _ _ h => h)).mono hm, h.low, h.fr.next hf⟩
theorem KMem.does (h : KMem w A hb nb t u was now tn un vw vn wr) (hf : Fr A wr w') : KMem w (Plus A wr w') hb nb t u was now tn un vw vn w' := by
  have hs := hf.size
  have hs0 := h.fr.size
  have hlh := lt_of_block h.h
  have hln := lt_of_block h.n
  have hm : ∀ k, KSet w A hb nb wr k → KSet w (Plus A wr w') hb nb w' k := fun k hk => ⟨⟨by have := hk.1.1; omega, hk.1.2⟩, hk.2.1, fun e => by
    rcases e with e | e
    · exact hk.2.2 e
    · have := hk.1.1; omega⟩
  refine ⟨hf.keep h.h h.fh.1, hf.keep h.n h.fn.1, h.ne, ⟨fun e => ?_, h.fh.2⟩, ⟨fun e => ?_, h.fn.2⟩, (h.was.fr hf (fun k hk => hk.2.2)).mono hm, (h.now.fr hf (fun k hk => hk.2.2)).mono hm, fun k hk => ?_, h.fr.trans hf fun k hk => .inr (h.low k hk)⟩
  · rcases e with e | e
    · exact h.fh.1 e
    · omega
  · rcases e with e | e
    · exact h.fn.1 e
    · omega
  · rcases hk with hk | hk
    · exact h.low k hk
    · omega
/-- the ones to come are told anew -/
theorem KMem.setN (h : KMem w A hb nb t u was now tn un vw vn wr) (a b : Int) : KMem w A hb nb t u was now a b vw vn ((wr.setCell ⟨nb, 0, none⟩ (.int .i64 a)).setCell ⟨nb, 1, none⟩ (.int .i64 b)) := by
  have hf : Fr (fun k => k = nb) wr ((wr.setCell ⟨nb, 0, none⟩ (.int .i64 a)).setCell ⟨nb, 1, none⟩ (.int .i64 b)) := ((Fr.refl (fun k => k = nb) wr).setCell (p := ⟨nb, 0, none⟩) (.inl rfl) _).setCell (p := ⟨nb, 1, none⟩) (.inl rfl) _
  have hs := hf.size
  have hm : ∀ k, KSet w A hb nb wr k → KSet w A hb nb ((wr.setCell ⟨nb, 0, none⟩ (.int .i64 a)).setCell ⟨nb, 1, none⟩ (.int .i64 b)) k := fun k hk => ⟨⟨by have := hk.1.1; omega, hk.1.2⟩, hk.2⟩
  exact ⟨hf.keep h.h h.ne, sets2 h.n _ _, h.ne, h.fh, h.fn, (h.was.fr hf (fun k hk => hk.2.1.2)).mono hm, (h.now.fr hf (fun k hk => hk.2.1.2)).mono hm, h.low, h.fr.trans hf fun k hk => .inr (by rw [hk]; exact h.fn.2)⟩
theorem KMem.setH (h : KMem w A hb nb t u was now tn un vw vn wr) (a b : Int) : KMem w A hb nb a b was now tn un vw vn ((wr.setCell ⟨hb, 0, none⟩ (.int .i64 a)).setCell ⟨hb, 1, none⟩ (.int .i64 b)) := by
  have hf : Fr (fun k => k = hb) wr ((wr.setCell ⟨hb, 0, none⟩ (.int .i64 a)).setCell ⟨hb, 1, none⟩ (.int .i64 b)) := ((Fr.refl (fun k => k = hb) wr).setCell (p := ⟨hb, 0, none⟩) (.inl rfl) _).setCell (p := ⟨hb, 1, none⟩) (.inl rfl) _
  have hs := hf.size
  have hm : ∀ k, KSet w A hb nb wr k → KSet w A hb nb ((wr.setCell ⟨hb, 0, none⟩ (.int .i64 a)).setCell ⟨hb, 1, none⟩ (.int .i64 b)) k := fun k hk => ⟨⟨by have := hk.1.1; omega, hk.1.2⟩, hk.2⟩
  exact ⟨sets2 h.h _ _, hf.keep h.n (fun e => h.ne e.symm), h.ne, h.fh, h.fn, (h.was.fr hf (fun k hk => hk.2.1.1)).mono hm, (h.now.fr hf (fun k hk => hk.2.1.1)).mono hm, h.low, h.fr.trans hf fun k hk => .inr (by rw [hk]; exact h.fh.2)⟩
theorem KMem.new (h : KMem w A hb nb t u was now tn un vw vn wr) (hA : ∀ k, A k → k < wr.heap.size) {k : Nat} (hk : wr.heap.size ≤ k ∧ k < w'.heap.size) : KSet w A hb nb w' k := by
  have := h.fr.size
  have := lt_of_block h.h
  have := lt_of_block h.n
  exact ⟨⟨hk.2, by omega⟩, ⟨by omega, by omega⟩, fun e => by have := hA k e; omega⟩
theorem KMem.putW (h : KMem w A hb nb t u was now tn un vw vn wr) (hA : ∀ k, A k → k < wr.heap.size) (hf : Fr (fun _ => False) wr w') (hr : SRow w' (fun k => wr.heap.size ≤ k ∧ k < w'.heap.size) 4 v l.length (entsC l)) : KMem w A hb nb t u l now tn un v vn w' :=
  let q := h.quiet hf
  ⟨q.h, q.n, q.ne, q.fh, q.fn, hr.mono fun _ hk => h.new hA hk, q.now, q.low, q.fr⟩
theorem KMem.putN (h : KMem w A hb nb t u was now tn un vw vn wr) (hA : ∀ k, A k → k < wr.heap.size) (hf : Fr (fun _ => False) wr w') (hr : SRow w' (fun k => wr.heap.size ≤ k ∧ k < w'.heap.size) 4 v l.length (entsC l)) : KMem w A hb nb t u was l tn un vw v w' :=
  let q := h.quiet hf
  ⟨q.h, q.n, q.ne, q.fh, q.fn, q.was, hr.mono fun _ hk => h.new hA hk, q.low, q.fr⟩
theorem KMem.nilN (h : KMem w A hb nb t u was now tn un vw vn wr) : KMem w A hb nb t u was [] tn un vw (.slice none 0 0) wr :=
  ⟨h.h, h.n, h.ne, h.fh, h.fn, h.was, SRow.nil _ _ _, h.low, h.fr⟩
/-- behind so many acts, the power on -/
def KLive (w : World) (xb hb nb i : Nat) (vw vn : Value) (wr : World) : Prop := ∃ (A : Nat → Prop) (L : LogD) (D : DiskD) (now : List EntD) (tn un : Int), WLaw wr A xb L D ∧ KInv L D i ∧ KMem w A hb nb L.st.t L.st.v L.st.ents now tn un vw vn wr
def nowK (a : ActW) : List EntD := if pickZ a.op 10 = 6 then [] else entriesW a
def nextK (L : LogD) (a : ActW) : Int × Int := if pickZ a.op 10 = 6 then (L.st.t, L.st.v) else hardW a
/-- the power went while an act was done -/
def KDead (w : World) (xb hb nb : Nat) (rs : Bool) (vw vn : Value) (wr : World) : Prop := ∃ (A : Nat → Prop) (L : LogD) (D : DiskD) (a : ActW) (L2 : LogD) (i : Nat), WLaw wr A xb L2 (doesL L D a).2.2 ∧ (KInv L D i ∧ i ≤ 100 ∧ GoodW a ∧ (doesL L D a).1 = 7) ∧ rs = decide (pickZ a.op 10 = 6) ∧ KMem w A hb nb L.st.t L.st.v L.st.ents (nowK a) (nextK L a).1 (nextK L a).2 vw vn wr
def KRel (w : World) (xb hb nb i : Nat) (rs dd : Bool) (vw vn : Value) (wr : World) : Prop := if dd = true then KDead w xb hb nb rs vw vn wr else KLive w xb hb nb i vw vn wr
theorem KLive.quiet (h : KLive w xb hb nb i vw vn wr) (hf : Fr (fun _ => False) wr w') : KLive w xb hb nb i vw vn w' := by
  obtain ⟨A, L, D, now, tn, un, h1, h2, h3⟩ := h
  exact ⟨A, L, D, now, tn, un, h1.quiet hf, h2, h3.quiet hf⟩
theorem KLive.skip (h : KLive w xb hb nb i vw vn wr) : KLive w xb hb nb (i + 1) vw vn wr := by
  obtain ⟨A, L, D, now, tn, un, h1, h2, h3⟩ := h
  exact ⟨A, L, D, now, tn, un, h1, h2.skip, h3⟩
theorem KRel.fr {rs dd : Bool} (h : KRel w xb hb nb i rs dd vw vn wr) : Fr (fun _ => False) w wr := by
  unfold KRel at h
  split at h
  · obtain ⟨_, _, _, _, _, _, _, _, _, h⟩ := h; exact h.fr
  · obtain ⟨_, _, _, _, _, _, _, _, h⟩ := h; exact h.fr
theorem KRel.live {rs : Bool} (h : KLive w xb hb nb i vw vn wr) : KRel w xb hb nb i rs false vw vn wr := by unfold KRel; exact h
theorem KRel.dead {rs : Bool} (h : KDead w xb hb nb rs vw vn wr) : KRel w xb hb nb i rs true vw vn wr := by unfold KRel; exact h
/-- a call upon the law's world, the law's own variables are not met -/
theorem KMem.own (h : KMem w A hb nb t u was now tn un vw vn wr) (hf : Fr A wr w') : KMem w A hb nb t u was now tn un vw vn w' := by
  have hs := hf.size
  have hm : ∀ k, KSet w A hb nb wr k → KSet w A hb nb w' k := fun k hk => ⟨⟨by have := hk.1.1; omega, hk.1.2⟩, hk.2⟩
  exact ⟨hf.keep h.h h.fh.1, hf.keep h.n h.fn.1, h.ne, h.fh, h.fn, (h.was.fr hf (fun k hk => hk.2.2)).mono hm, (h.now.fr hf (fun k hk => hk.2.2)).mono hm, h.low, h.fr.trans hf fun k hk => .inr (h.low k hk)⟩
/-- what an opened log may hold -/
def KOut (rs dd : Bool) (t u : Int) (was now : List EntD) (tn un : Int) (s : StD) : Prop :=
  (s.t = t ∧ s.v = u ∧ s.ents = was) ∨
  (dd = true ∧ ((rs = true ∧ s.t = t ∧ s.v = u ∧ s.ents = []) ∨
    (rs = false ∧ ((s.t = t ∧ s.v = u) ∨ (s.t = tn ∧ s.v = un)) ∧ BegunE s.ents was now ∧ (∀ e ∈ now, GoodE e) ∧ now.length ≤ 10000)))
/-- behind all acts -/
def KFin (w : World) (xb hb nb : Nat) (rs dd : Bool) (keep noise : List Int) (g : Int) (vw vn : Value) (wr : World) : Prop :=
  ∃ (A : Nat → Prop) (L2 : LogD) (D2 : DiskD) (t u : Int) (was now : List EntD) (tn un : Int), WLaw wr A xb L2 D2 ∧ D2.most = 100000 ∧ KMem w A hb nb t u was now tn un vw vn wr ∧ (RunE was ∧ was.length ≤ 800000) ∧ (reopenD xbG D2 keep noise g).1.1 = 0 ∧ KOut rs dd t u was now tn un (reopenD xbG D2 keep noise g).1.2.1
theorem KRel.fin {rs dd : Bool} {keep noise : List Int} {g : Int} (h : KRel w xb hb nb i rs dd vw vn wr) (hi : i ≤ 100) (hg : g ≤ 100) : KFin w xb hb nb rs dd keep noise g vw vn wr := by
  unfold KRel at h
  split at h
  · rename_i hd
    obtain ⟨A, L, D, a, L2, j, h1, ⟨h2, hj, ha, h7⟩, h3, h4⟩ := h
    obtain ⟨h5, h6⟩ := h2.found (xb := xbG) (keep := keep) (noise := noise) hj ha h7 hg
    have hF := h2.fit hj
    refine ⟨A, L2, _, _, _, _, _, _, _, h1, h2.died_cap ha hj, h4, ⟨hF.ok.run, hF.few⟩, h5, ?_⟩
    rcases h6 with h6 | ⟨h6, h7, h8, h9⟩ | ⟨h6, h7, h8, h9⟩
    · exact .inl h6
    · refine .inr ⟨hd, .inl ⟨by rw [h3]; exact decide_eq_true h6, h7, h8, h9⟩⟩
    · refine .inr ⟨hd, .inr ⟨by rw [h3]; exact decide_eq_false h6, ?_, ?_, ?_, ?_⟩⟩
      · unfold nextK; rw [if_neg h6]; exact h7
      · unfold nowK; rw [if_neg h6]; exact h8
      · unfold nowK; rw [if_neg h6]; exact h9
      · unfold nowK; rw [if_neg h6]; have := entriesW_len a; omega
  · obtain ⟨A, L, D, now, tn, un, h1, h2, h3⟩ := h
    obtain ⟨h5, h6⟩ := h2.same (xb := xbG) (keep := keep) (noise := noise) hg
    have hF := h2.fit hi
    exact ⟨A, L, D, _, _, _, _, _, _, h1, h2.most, h3, ⟨hF.ok.run, hF.few⟩, h5, .inl (by rw [h6]; exact ⟨rfl, rfl, rfl⟩)⟩
theorem fold_few : ∀ (l was : List EntD), (l.foldl putE was).length ≤ was.length + l.length
  | [], _ => Nat.le_refl _
  | e :: l, was => by
    have h1 := fold_few l (putE was e)
    have h2 := putE_len was e
    show (l.foldl putE (putE was e)).length ≤ _
    rw [List.length_cons]
    omega
theorem KOut.few {rs dd : Bool} {s : StD} (h : KOut rs dd t u was now tn un s) (hw : was.length ≤ 800000) : s.ents.length ≤ 1000000 := by
  rcases h with ⟨_, _, h⟩ | ⟨_, ⟨_, _, _, h⟩ | ⟨_, _, ⟨k, hk, h⟩, _, hn⟩⟩
  · rw [h]; omega
  · rw [h]; simp
  · rw [h]
    have h1 := fold_few (now.take k) was
    have h2 : (now.take k).length ≤ k := by simp; omega
    omega
theorem log_entries {S : Nat → Prop} {lp : Nat} {dv ve vs : Value} {st : StD} {segs : List SegD} (h : LogAt w S lp dv ve vs st segs) (hl : st.ents.length ≤ 10000000) {l : List EntD} (he : st.ents = l) :
    Calls Tryz.prog 39 #[.pointer (some ⟨lp, 0, none⟩)] w fun e w' => ∃ (a : Option Addr) (cap : Nat), e = .returned (.slice a l.length cap) ∧ SRow w' (fun k => w.heap.size ≤ k ∧ k < w'.heap.size) 4 (.slice a l.length cap) l.length (entsC l) ∧ Fr (fun _ => False) w w' := by
  refine (entries_h h hl).mono ?_
  rintro e w' ⟨v', rfl, hr, hf⟩
  rw [he] at hr
  obtain ⟨a, cap, rfl⟩ := ownsRow_shape hr
  exact ⟨a, cap, rfl, (SRow.of_owns hr).mono fun k hk => hr.lt k hk, hf⟩
/-- the log is opened again -/
def KAft (w : World) (A : Nat → Prop) (hb nb : Nat) (t u : Int) (was now : List EntD) (tn un : Int) (vw vn : Value) (lp pb mb : Nat) (s : StD) (wr : World) : Prop :=
  (∃ (S : Nat → Prop) (ve vs : Value) (segs : List SegD) (D : DiskD), WalAt wr S lp pb mb ve vs s segs D) ∧ KMem w A hb nb t u was now tn un vw vn wr
end
end Go.Proofs.YtgmghopcppniaaaGreatDoor

/- wal's laws: WalKeeps: walked. -/
namespace Go.Proofs.YtgmghopcppniaaaGreatDoor
open Go.RowKit Go.Lib

section
variable {w wr w' : World}
set_option maxRecDepth 100000 in
set_option maxHeartbeats 16000000 in
theorem walkeeps_h {v vk vz : Value} {l : List ActWM} {turn again : Int} {keep noise : List Int} (hE : Env w) (h8 : 8 ≤ w.heap.size) (hA : ActsW w (fun k => k < w.heap.size) v l) (hturn : I64 turn) (hke : IR w (fun k => k < w.heap.size) vk keep) (hno : IR w (fun k => k < w.heap.size) vz noise) (hag : I64 again) :
    Calls Tryz.prog 10 #[v, .int .i64 turn, vk, vz, .int .i64 again] w fun e w' => e = .returned (.bool true) ∧ Fr (fun _ => False) w w' := by
  have HSH := Lib.hid (wshown_h hE h8)
  have HA := Lib.hid hA
  have HE := Lib.hid hE
  have HPT := Lib.hid (fun W : World => wpick_h (w := W) hturn.1 hturn.2 (n := 120) (by decide) (by decide))
  have HPG := Lib.hid (fun W : World => wpick_h (w := W) hag.1 hag.2 (n := 6) (by decide) (by decide))
  have hk1 := pick_in (c := turn) (n := 120) (by decide)
  have hk6 := pick_in (c := again) (n := 6) (by decide)
  obtain ⟨K1, hK1⟩ : ∃ K, pickZ turn 120 = K := ⟨_, rfl⟩
  obtain ⟨K6, hK6⟩ : ∃ K, pickZ again 6 = K := ⟨_, rfl⟩
  rw [hK1] at HPT hk1
  rw [hK6] at HPG hk6
  obtain ⟨ka, kc, rfl, _, _⟩ := hke.form
  obtain ⟨za, zc, rfl, _, _⟩ := hno.form
  have HKE := Lib.hid hke
  have HNO := Lib.hid hno
  clear hA hE hturn hag hK1 hK6 hke hno
  go_enter Tryz.func10, Tryz.ntmps10
  go_wp2_with fail
  refine Calls.mono HSH.out ?_
  rintro e w1 ⟨rfl, hf1⟩
  have HF1 := Lib.hid hf1
  have hs1 := hf1.size
  clear hf1 HSH
  have HSM := Lib.hid (wsmall_h (HA.out.grow HF1.out))
  unfold SmallWPost at HSM
  go_wp2_with fail
  refine Calls.mono HSM.out ?_
  rintro e w2 ⟨r, rfl, hrl, rfl⟩
  clear HSM
  cases r with
  | false =>
    clear hrl
    go_wp2_with fail
    go_ret
    exact ⟨rfl, HF1.out⟩
  | true =>
  have HSL := Lib.hid (hrl.1 rfl)
  by_cases hkl : 60 < keep.length
  · have hki : (60 : Int) < (keep.length : Int) := by omega
    clear hrl
    go_wp2_with fail
    go_ret
    exact ⟨rfl, HF1.out⟩
  have hki : ¬ (60 : Int) < (keep.length : Int) := by omega
  by_cases hzl : 60 < noise.length
  · have hzi : (60 : Int) < (noise.length : Int) := by omega
    clear hrl
    go_wp2_with fail
    go_ret
    exact ⟨rfl, HF1.out⟩
  have hzi : ¬ (60 : Int) < (noise.length : Int) := by omega
  have HBE := Lib.hid (begin_h (HE.out.grow HF1.out) (by omega) (most := 100000) (by decide) (by decide))
  unfold BeginPost at HBE
  clear hrl
  have hl40 := HSL.out.1
  go_wp2_with fail
  refine Calls.mono HBE.out ?_
  rintro e w2 ⟨xb, yb, A, B, rfl, ⟨S, lp, pb, mb, ve, vs, hW⟩, hAA, hR, hBB, hf2⟩
  have HF2 := Lib.hid (HF1.out.next hf2)
  have HW := Lib.hid hW
  have HAA : Hid (∀ k, A k → w.heap.size ≤ k) := Lib.hid (fun k hk => by have := hAA k hk; omega)
  have HFU : Hid (∀ (W : World) (_ : Fr (fun _ => False) w2 W), Calls Tryz.prog 25 #[.pointer (some ⟨pb, 0, none⟩), .int .i64 K1] W fun e w' => e = .returned (.tuple #[]) ∧ DiskAt w' pb mb (fuseD (beginD 100000) K1) ∧ Fr (Own pb mb) W w') := Lib.hid (fun W hq => fuse_h (hW.wal.disk.grow hq) (by omega))
  have x0 := cell_of hW.head (i := 0) (v := .pointer (some ⟨pb, 0, none⟩)) rfl
  have HCW := Lib.hid (fun (W : World) (hq : Fr (Own pb mb) w2 W) => hq.cell x0 hW.far.2)
  clear hW hAA hR hBB hf2 HBE
  go_upto_region 8 with fail
  go_cut [] (fun wx => Hid (DiskAt wx pb mb (fuseD (beginD 100000) K1) ∧ Fr (Own pb mb) w2 wx))
  case first =>
    go_region_held (fun W => W.cell? ⟨xb, 0, none⟩ = some (.pointer (some ⟨pb, 0, none⟩)))
      (first | go_keep | (with_reducible exact p1) | fail)
      (first
        | (go_at_call 42; (with_reducible refine Calls.mono (HPT.out _) ?_); clear HPT; rintro r wA ⟨rfl, rfl⟩)
        | (go_at_call 25; (with_reducible refine Calls.mono (HFU.out _ (show Fr (fun _ => False) w2 _ by repeat (first | exact Fr.refl _ _ | refine Fr.drew ?_))) ?_); clear HFU; rintro r wA1 ⟨rfl, hd, hq⟩; have f1 := ((show Fr (fun _ => False) w2 _ by repeat (first | exact Fr.refl _ _ | refine Fr.drew ?_)).mono (o2 := Own pb mb) fun _ _ h => h.elim).next hq; have p1 := HCW.out _ f1; have HD1 := Lib.hid hd; clear hq hd)
        | fail)
    all_goals
      go_wp2_with fail
      go_meet
      first | exact Lib.hid ⟨HD1.out, f1⟩ | exact Lib.hid ⟨HD1.out.grow ((Fr.refl _ _).drew), f1.drew⟩
  case rest =>
  have HFD := Lib.hid hcut.out
  obtain ⟨w3, hwn⟩ : ∃ x, x = wc := ⟨_, rfl⟩
  rw [← hwn] at HFD hcut ⊢
  clear hwn hcut HFU HCW HPT x0
  have HW3 : Hid (WLawAt w3 A S xb lp pb mb ve vs beginL (fuseD (beginD 100000) K1)) := ⟨HFD.out.2.keep HW.out.head HW.out.far.2, HW.out.wal.done HFD.out.1 HFD.out.2, HW.out.sub, HW.out.own, HW.out.axb, HW.out.far, fun k hk => Nat.lt_of_lt_of_le (HW.out.lt k hk) HFD.out.2.size⟩
  have HF3 : Hid (Fr (fun _ => False) w w3) := HF2.out.trans HFD.out.2 fun k hk => .inr (HAA.out k (HW.out.own k hk))
  have HKI : Hid (KInv beginL (fuseD (beginD 100000) K1) 0) := Lib.hid (KInv.start (by omega))
  obtain ⟨DB, hDB⟩ : ∃ DB, fuseD (beginD 100000) K1 = DB := ⟨_, rfl⟩
  rw [hDB] at HW3 HKI
  have x1 := cell_of HW3.out.head (i := 1) (v := .pointer (some ⟨lp, 0, none⟩)) rfl
  have HHD := Lib.hid (sh_hard HW3.out.sh)
  obtain ⟨LB, hLB⟩ : ∃ LB, beginL = LB := ⟨_, rfl⟩
  rw [hLB] at HHD HW3 HKI
  obtain ⟨t0, ht0⟩ : ∃ t, LB.st.t = t := ⟨_, rfl⟩
  obtain ⟨u0, hu0⟩ : ∃ t, LB.st.v = t := ⟨_, rfl⟩
  obtain ⟨l0, hl0⟩ : ∃ t, LB.st.ents = t := ⟨_, rfl⟩
  rw [ht0, hu0] at HHD
  have HT0 := Lib.hid (And.intro ht0 (And.intro hu0 hl0))
  clear HFD HW hDB hLB ht0 hu0 hl0
  go_wp2_with fail
  refine Calls.mono HHD.out ?_
  rintro e w4 ⟨rfl, hf4⟩
  have HF4 := Lib.hid (HF3.out.next hf4)
  have HW4 := Lib.hid (HW3.out.quiet hf4)
  clear hf4 HHD x1
  go_upto_region 10 with fail
  obtain ⟨hb, hhb⟩ : ∃ hb, hb = w4.heap.size := ⟨_, rfl⟩
  obtain ⟨w5, hw5⟩ : ∃ w5, w5 = w4.alloc (.cells #[.int .i64 t0, .int .i64 u0] 61) := ⟨_, rfl⟩
  rw [← hw5, ← hhb]
  have hf5 : Fr (fun _ => False) w4 w5 := by rw [hw5]; exact (Fr.refl _ _).alloc _
  have hb5 : w5.heap[hb]? = some (.cells #[.int .i64 t0, .int .i64 u0] 61 (0, 0)) := by rw [hw5, hhb]; exact block_new _ _
  have HHB := Lib.hid hhb
  have HF5 := Lib.hid (HF4.out.next hf5)
  have HW5 := Lib.hid (HW4.out.quiet hf5)
  have HB5 := Lib.hid hb5
  have hs45 := hf5.size
  have hlb5 := lt_of_block hb5
  have x2 := cell_of HW5.out.head (i := 1) (v := .pointer (some ⟨lp, 0, none⟩)) rfl
  have HEN := Lib.hid (sh_entries HW5.out.sh (by have := (HKI.out.fit (by omega)).few; omega) HT0.out.2.2)
  clear hw5 hf5 hb5 hhb
  go_wp2_with fail
  refine Calls.mono HEN.out ?_
  rintro e w6 ⟨wa, wcp, rfl, hr6, hf6⟩
  have HR6 := Lib.hid hr6
  have HF6 := Lib.hid hf6
  have hb6 := hf6.keep HB5.out (fun h => h)
  have h0 := cell_of hb6 (i := 0) (v := .int .i64 t0) rfl
  have h1 := cell_of hb6 (i := 1) (v := .int .i64 u0) rfl
  have hs56 := hf6.size
  clear hr6 hf6 HEN x2 hb6
  go_upto_region 13 with fail
  obtain ⟨nb, hnb⟩ : ∃ nb, nb = w6.heap.size := ⟨_, rfl⟩
  obtain ⟨w7, hw7⟩ : ∃ w7, w7 = w6.alloc (.cells #[.int .i64 t0, .int .i64 u0] 61) := ⟨_, rfl⟩
  rw [← hw7, ← hnb]
  have hf7 : Fr (fun _ => False) w6 w7 := by rw [hw7]; exact (Fr.refl _ _).alloc _
  have hn7 : w7.heap[nb]? = some (.cells #[.int .i64 t0, .int .i64 u0] 61 (0, 0)) := by rw [hw7, hnb]; exact block_new _ _
  have hs67 := hf7.size
  have hs04 := HF4.out.size
  have hlA : ∀ k, A k → k < w4.heap.size := HW4.out.lt
  have HLV : Hid (KLive w xb hb nb 0 (.slice wa l0.length wcp) (.slice none 0 0) w7) := ⟨A, LB, DB, [], t0, u0, ⟨S, lp, pb, mb, ve, vs, (HW5.out.quiet HF6.out).quiet hf7⟩, HKI.out, by
    rw [HT0.out.1, HT0.out.2.1, HT0.out.2.2]
    exact ⟨hf7.keep (HF6.out.keep HB5.out (fun h => h)) (fun h => h), hn7, by omega, ⟨fun e => by have := hlA _ e; have := HHB.out; omega, by have := HHB.out; omega⟩, ⟨fun e => by have := hlA _ e; omega, by omega⟩, (HR6.out.fr hf7 (fun _ _ h => h)).mono (fun k hk => ⟨⟨by omega, by omega⟩, ⟨by omega, by omega⟩, fun e => by have := hlA _ e; omega⟩), SRow.nil _ _ _, HAA.out, (HF5.out.next HF6.out).next hf7⟩⟩
  clear h0 h1 hw7 hf7 hn7 hlA HHB HR6 HB5 HKI HF6 HW3 HW4 HW5 HF3 HF4 HF5 HT0 HAA hs67 hs56 hs45 hs04 hlb5 hnb
  go_upto_block 0 with fail
  go_cut [17, 18, 20, 21, 22] (fun s17 s18 s20 s21 s22 wx => ∃ (i : Nat) (rs dd : Bool) (vw vn : Value), i ≤ 40 ∧ s17 = vw ∧ s18 = vn ∧ s20 = .bool rs ∧ s21 = .bool dd ∧ s22 = .int .i64 (i : Int) ∧ Hid (KRel w xb hb nb i rs dd vw vn wx))
  case first =>
   go_wp2_with fail
   go_loopg [17, 18, 20, 21, 22] l.length (fun j v17 v18 v20 v21 v22 wr => ∃ (i : Nat) (rs dd : Bool) (vw vn : Value), i + j = l.length ∧ v17 = vw ∧ v18 = vn ∧ v20 = .bool rs ∧ v21 = .bool dd ∧ v22 = .int .i64 (i : Int) ∧ Hid (KRel w xb hb nb i rs dd vw vn wr))
   case atStart => exact ⟨0, false, false, _, _, by omega, rfl, rfl, rfl, rfl, rfl, KRel.live HLV.out⟩
   case round =>
    obtain ⟨i, rs, dd, vw, vn, hi, e17, e18, rfl, rfl, rfl, HK⟩ := hrel
    have e17 := e17.symm
    subst e17
    have e18 := e18.symm
    subst e18
    have HI := Lib.hid hi
    clear hi HLV
    by_cases hex : dd = false ∧ i < l.length
    · obtain ⟨rfl, hlt⟩ := hex
      have hlti : (i : Int) < (l.length : Int) := by omega
      have HK : Hid (KLive w xb hb nb i vw vn wr) := HK.out
      obtain ⟨A2, L, D, now, tn, un, hw4, hki, hm4⟩ := HK.out
      have HKI := Lib.hid hki
      have HM := Lib.hid hm4
      have HWL := Lib.hid hw4
      obtain ⟨⟨a, cap, rfl, hc1, hc2, hcell⟩, hacts⟩ := HA.out.grow hm4.fr
      obtain ⟨m, hm⟩ : ∃ m, l[i]? = some m := ⟨_, List.getElem?_eq_getElem hlt⟩
      obtain ⟨g, off, rfl, hS, hcs⟩ := hcell (by omega)
      have hin := hacts m (List.mem_of_getElem? hm)
      have hsm := HSL.out.2 m (List.mem_of_getElem? hm)
      have HCS : Hid (∀ (W : World) (o : Nat → Prop) (_ : Fr o wr W) (_ : ¬ o g) (j : Nat) (x : Value), (cellsWM m)[j]? = some x → W.cell? ⟨g, off + i * 8 + j, none⟩ = some x) := Lib.hid (fun W o hq hn j x hx => hq.cell (hcs i m j x hm hx) hn)
      have q0 := hcs i m 0 _ hm rfl
      rw [Nat.add_zero] at q0
      have HPO := Lib.hid (fun W : World => wpick_h (w := W) hin.op.1 hin.op.2 (n := 10) (by decide) (by decide))
      obtain ⟨o, ho⟩ : ∃ o, pickZ m.act.op 10 = o := ⟨_, rfl⟩
      rw [ho] at HPO
      have HIN := Lib.hid hin
      have HSMA := Lib.hid hsm
      have HGD := Lib.hid (hin.good hsm)
      have HO := Lib.hid ho
      have hgw : g < w.heap.size := hS
      have hog : 0 ≤ o ∧ o < 10 := by rw [← ho]; exact pick_in (by decide)
      clear hm hcs hin hsm hS hcell hacts ho hw4 hki hm4
      go_wp2_with fail
      refine Calls.mono (HPO.out _) ?_
      rintro e w3 ⟨rfl, hw3⟩
      subst hw3
      by_cases h7 : 7 ≤ o
      · have HK4 := Lib.hid (KLive.skip HK.out)
        clear q0
        go_wp2_with fail
        go_roundg (l.length - (i + 1))
        case measure => have := HI.out; omega
        case rel => exact ⟨i + 1, rs, false, _, _, by omega, rfl, rfl, rfl, rfl, by go_num, KRel.live HK4.out⟩
      obtain ⟨t, ht⟩ : ∃ t, L.st.t = t := ⟨_, rfl⟩
      obtain ⟨u, hu⟩ : ∃ u, L.st.v = u := ⟨_, rfl⟩
      rw [ht, hu] at HM
      have HTU := Lib.hid (And.intro ht hu)
      have a0 := cell_of HM.out.h (i := 0) (v := .int .i64 t) rfl
      have a1 := cell_of HM.out.h (i := 1) (v := .int .i64 u) rfl
      have n0 := cell_of HM.out.n (i := 0) (v := .int .i64 tn) rfl
      have n1 := cell_of HM.out.n (i := 1) (v := .int .i64 un) rfl
      have g0 := free_of 0 HM.out.n
      have g1 := free_of 1 HM.out.n
      have hln := lt_of_block HM.out.n
      clear ht hu HK q0
      go_upto_region 22 with fail
      have HM3 := Lib.hid ((HM.out.setN t u).nilN)
      have hf3 : Fr (fun k => k = nb) wr ((wr.setCell ⟨nb, 0, none⟩ (.int .i64 t)).setCell ⟨nb, 1, none⟩ (.int .i64 u)) := ((Fr.refl (fun k => k = nb) wr).setCell (p := ⟨nb, 0, none⟩) (.inl rfl) _).setCell (p := ⟨nb, 1, none⟩) (.inl rfl) _
      obtain ⟨w3, hw3⟩ : ∃ w3, w3 = (wr.setCell ⟨nb, 0, none⟩ (.int .i64 t)).setCell ⟨nb, 1, none⟩ (.int .i64 u) := ⟨_, rfl⟩
      rw [← hw3] at HM3 hf3 ⊢
      have hnw : w.heap.size ≤ nb := HM3.out.fn.2
      have HWL3 : Hid (WLaw w3 A2 xb L D) := by
        obtain ⟨S, lp, pb, mb, ve, vs, h⟩ := HWL.out
        exact ⟨S, lp, pb, mb, ve, vs, h.fr hf3 (fun k hk e => HM3.out.fn.1 (by rw [← e]; exact hk)) (h.wal.env.fr hf3 (fun k hk => by omega))⟩
      have HIN3 := Lib.hid (HIN.out.fr hf3 (fun k hk e => by omega))
      have HF3 := Lib.hid hf3
      have HALL0 : Hid (∀ k, A2 k → k < w3.heap.size) := by obtain ⟨_, _, _, _, _, _, h⟩ := HWL3.out; exact h.lt
      clear a0 a1 n0 n1 g0 g1 hln hw3 hf3 HWL HM
      by_cases h6 : o = 6
      · have r6 : (o == 6) = true := by rw [h6]; rfl
        have l6 : ¬ o < 6 := by omega
        have HWL4 := HWL3
        have HM4 := HM3
        have h4e : Hid (pickZ m.act.op 10 = 6) := by show _ = _; rw [HO.out]; exact h6
        have HDO := Lib.hid (wdoes_h HWL3.out (HKI.out.fit (by have := HI.out; omega)) HIN3.out HSMA.out (by rw [HO.out]; omega))
        unfold DoesPost actWV cellsWM at HDO
        have q0 := HCS.out w3 _ HF3.out (by omega) 0 _ rfl
        rw [Nat.add_zero] at q0
        have q1 := HCS.out w3 _ HF3.out (by omega) 1 _ rfl
        have q2 := HCS.out w3 _ HF3.out (by omega) 2 _ rfl
        have q3 := HCS.out w3 _ HF3.out (by omega) 3 _ rfl
        have q4 := HCS.out w3 _ HF3.out (by omega) 4 _ rfl
        have q5 := HCS.out w3 _ HF3.out (by omega) 5 _ rfl
        have q6 := HCS.out w3 _ HF3.out (by omega) 6 _ rfl
        have q7 := HCS.out w3 _ HF3.out (by omega) 7 _ rfl
        obtain ⟨w4, hw4⟩ : ∃ x, x = w3 := ⟨_, rfl⟩
        rw [← hw4] at HM4 HWL4 HDO HIN3 q0 q1 q2 q3 q4 q5 q6 q7 ⊢
        clear hw4 h6
        go_wp2_with fail
        refine Calls.mono HDO.out ?_
        rintro e w5 ⟨rfl, hw5, hf5⟩
        have HW5 := Lib.hid hw5
        have HM5 := Lib.hid (HM4.out.does hf5)
        have hall : ∀ k, Plus A2 w4 w5 k → k < w5.heap.size := by obtain ⟨_, _, _, _, _, _, h⟩ := hw5; exact h.lt
        have HALL := Lib.hid hall
        clear hw5 hf5 hall HDO HM4
        by_cases h7 : (doesL L D m.act).1 = 7
        · have HDD : Hid (KDead w xb hb nb true vw (.slice none 0 0) w5) := ⟨_, L, D, m.act, _, i, HW5.out, ⟨HKI.out, by have := HI.out; omega, HGD.out, h7⟩, (decide_eq_true h4e.out).symm, by unfold nowK nextK; rw [if_pos h4e.out, if_pos h4e.out]; dsimp only; rw [HTU.out.1, HTU.out.2]; exact HM5.out⟩
          have r7 : ((doesL L D m.act).1 == 7) = true := by rw [h7]; rfl
          clear h7
          go_wp2_with fail
          go_roundg (l.length - (i + 1))
          case measure => have := HI.out; omega
          case rel => exact ⟨i + 1, true, true, _, _, by omega, rfl, rfl, rfl, rfl, by go_num, KRel.dead HDD.out⟩
        · have r7 : ((doesL L D m.act).1 == 7) = false := by simpa using h7
          have HK5 := Lib.hid (HKI.out.step HGD.out (by have := HI.out; omega) h7)
          obtain ⟨L3, hL3⟩ : ∃ L3, (doesL L D m.act).2.1 = L3 := ⟨_, rfl⟩
          obtain ⟨D3, hD3⟩ : ∃ D3, (doesL L D m.act).2.2 = D3 := ⟨_, rfl⟩
          rw [hL3, hD3] at HK5 HW5
          obtain ⟨S3, lp3, pb3, mb3, ve3, vs3, hw5⟩ := HW5.out
          have HWA := Lib.hid hw5
          have x1 := cell_of hw5.head (i := 1) (v := .pointer (some ⟨lp3, 0, none⟩)) rfl
          have HHD := Lib.hid (sh_hard hw5.sh)
          obtain ⟨t3, ht3⟩ : ∃ t, L3.st.t = t := ⟨_, rfl⟩
          obtain ⟨u3, hu3⟩ : ∃ t, L3.st.v = t := ⟨_, rfl⟩
          rw [ht3, hu3] at HHD
          have HT3 := Lib.hid (And.intro ht3 hu3)
          clear h7 hL3 hD3 hw5 ht3 hu3
          go_wp2_with fail
          refine Calls.mono HHD.out ?_
          rintro e w6 ⟨rfl, hf6⟩
          have HM6 := Lib.hid (HM5.out.quiet hf6)
          have HWA6 := Lib.hid (HWA.out.quiet hf6)
          have q0 := cell_of HM6.out.h (i := 0) (v := .int .i64 t) rfl
          have q1 := cell_of HM6.out.h (i := 1) (v := .int .i64 u) rfl
          have g0 := free_of 0 HM6.out.h
          have g1 := free_of 1 HM6.out.h
          have hlh := lt_of_block HM6.out.h
          have hs6 := hf6.size
          clear hf6 HHD x1
          go_upto_region 29 with fail
          have HM7 := Lib.hid (HM6.out.setH t3 u3)
          have hf7 : Fr (fun k => k = hb) w6 ((w6.setCell ⟨hb, 0, none⟩ (.int .i64 t3)).setCell ⟨hb, 1, none⟩ (.int .i64 u3)) := ((Fr.refl (fun k => k = hb) w6).setCell (p := ⟨hb, 0, none⟩) (.inl rfl) _).setCell (p := ⟨hb, 1, none⟩) (.inl rfl) _
          obtain ⟨w7, hw7⟩ : ∃ w7, w7 = (w6.setCell ⟨hb, 0, none⟩ (.int .i64 t3)).setCell ⟨hb, 1, none⟩ (.int .i64 u3) := ⟨_, rfl⟩
          rw [← hw7] at HM7 hf7 ⊢
          have HWA7 := Lib.hid (HWA6.out.fr hf7 (fun k hk e => HM6.out.fh.1 (by rw [← e]; exact hk)) (HWA6.out.wal.env.fr hf7 (fun k hk => by have := HM6.out.fh.2; omega)))
          have y1 := cell_of HWA7.out.head (i := 1) (v := .pointer (some ⟨lp3, 0, none⟩)) rfl
          obtain ⟨l3, hl3⟩ : ∃ l3, L3.st.ents = l3 := ⟨_, rfl⟩
          have HEN := Lib.hid (sh_entries HWA7.out.sh (by have := (HK5.out.fit (by have := HI.out; omega)).few; omega) hl3)
          have HL3 := Lib.hid hl3
          have hs7 := hf7.size
          clear hw7 hf7 q0 q1 g0 g1 hlh hl3
          go_wp2_with fail
          refine Calls.mono HEN.out ?_
          rintro e w8 ⟨ea, ec, rfl, hr8, hf8⟩
          have HM8 := Lib.hid (HM7.out.putW (fun k hk => by have := HALL.out k hk; omega) hf8 hr8)
          have HLV : Hid (KLive w xb hb nb (i + 1) (.slice ea l3.length ec) (.slice none 0 0) w8) := ⟨_, L3, D3, _, _, _, ⟨_, _, _, _, _, _, HWA7.out.quiet hf8⟩, HK5.out, by rw [HL3.out, HT3.out.1, HT3.out.2]; exact HM8.out⟩
          clear hr8 hf8 HEN y1
          go_wp2_with fail
          go_roundg (l.length - (i + 1))
          case measure => have := HI.out; omega
          case rel => exact ⟨i + 1, true, false, _, _, by omega, rfl, rfl, rfl, rfl, by go_num, KRel.live HLV.out⟩
      · have r6 : (o == 6) = false := by simpa using h6
        have l6 : o < 6 := by omega
        have h4e : Hid (¬ pickZ m.act.op 10 = 6) := by show ¬ _; rw [HO.out]; exact h6
        have q0 := HCS.out w3 _ HF3.out (by omega) 0 _ rfl
        rw [Nat.add_zero] at q0
        have q1 := HCS.out w3 _ HF3.out (by omega) 1 _ rfl
        have q2 := HCS.out w3 _ HF3.out (by omega) 2 _ rfl
        have q3 := HCS.out w3 _ HF3.out (by omega) 3 _ rfl
        have q4 := HCS.out w3 _ HF3.out (by omega) 4 _ rfl
        have q5 := HCS.out w3 _ HF3.out (by omega) 5 _ rfl
        have q6 := HCS.out w3 _ HF3.out (by omega) 6 _ rfl
        have q7 := HCS.out w3 _ HF3.out (by omega) 7 _ rfl
        have HES := Lib.hid (wentries_h HIN3.out HSMA.out.1)
        unfold EntsPost actWV cellsWM at HES
        clear h6
        go_wp2_with fail
        refine Calls.mono HES.out ?_
        rintro e w31 ⟨vn2, rfl, hr31, hf31⟩
        have HM31 := Lib.hid (HM3.out.putN HALL0.out hf31 ((SRow.of_owns hr31).mono fun k hk => hr31.lt k hk))
        have HWL31 := Lib.hid (HWL3.out.quiet hf31)
        have HIN31 := Lib.hid (HIN3.out.fr hf31 (fun _ _ h => h))
        have HF31 := Lib.hid (HF3.out.next (hf31.mono (o2 := fun k => k = nb) fun _ _ h => h.elim))
        have HHW := Lib.hid (whard_h HIN31.out)
        unfold actWV cellsWM at HHW
        obtain ⟨th, hth⟩ : ∃ th, (hardW m.act).1 = th := ⟨_, rfl⟩
        obtain ⟨uh, huh⟩ : ∃ uh, (hardW m.act).2 = uh := ⟨_, rfl⟩
        rw [hth, huh] at HHW
        have HTH := Lib.hid (And.intro hth huh)
        have q0 := hf31.cell q0 (fun h => h)
        have q1 := hf31.cell q1 (fun h => h)
        have q2 := hf31.cell q2 (fun h => h)
        have q3 := hf31.cell q3 (fun h => h)
        have q4 := hf31.cell q4 (fun h => h)
        have q5 := hf31.cell q5 (fun h => h)
        have q6 := hf31.cell q6 (fun h => h)
        have q7 := hf31.cell q7 (fun h => h)
        clear hr31 hf31 HES HM3 HWL3 HIN3 hth huh
        go_wp2_with fail
        refine Calls.mono HHW.out ?_
        rintro e w32 ⟨rfl, hf32⟩
        have HM32 := Lib.hid (HM31.out.quiet hf32)
        have HWL32 := Lib.hid (HWL31.out.quiet hf32)
        have HIN32 := Lib.hid (HIN31.out.fr hf32 (fun _ _ h => h))
        have HF32 := Lib.hid (HF31.out.next (hf32.mono (o2 := fun k => k = nb) fun _ _ h => h.elim))
        have n0 := cell_of HM32.out.n (i := 0) (v := .int .i64 t) rfl
        have n1 := cell_of HM32.out.n (i := 1) (v := .int .i64 u) rfl
        have g0 := free_of 0 HM32.out.n
        have g1 := free_of 1 HM32.out.n
        have hln := lt_of_block HM32.out.n
        clear hf32 HHW HM31 HWL31 HIN31 HF31 q0 q1 q2 q3 q4 q5 q6 q7
        go_upto_region 26 with fail
        have HM4 := Lib.hid (HM32.out.setN th uh)
        have hf4 : Fr (fun k => k = nb) w32 ((w32.setCell ⟨nb, 0, none⟩ (.int .i64 th)).setCell ⟨nb, 1, none⟩ (.int .i64 uh)) := ((Fr.refl (fun k => k = nb) w32).setCell (p := ⟨nb, 0, none⟩) (.inl rfl) _).setCell (p := ⟨nb, 1, none⟩) (.inl rfl) _
        obtain ⟨w4, hw4⟩ : ∃ w4, w4 = (w32.setCell ⟨nb, 0, none⟩ (.int .i64 th)).setCell ⟨nb, 1, none⟩ (.int .i64 uh) := ⟨_, rfl⟩
        rw [← hw4] at HM4 hf4 ⊢
        have HWL4 : Hid (WLaw w4 A2 xb L D) := by
          obtain ⟨S, lp, pb, mb, ve, vs, h⟩ := HWL32.out
          exact ⟨S, lp, pb, mb, ve, vs, h.fr hf4 (fun k hk e => HM4.out.fn.1 (by rw [← e]; exact hk)) (h.wal.env.fr hf4 (fun k hk => by omega))⟩
        have HIN4 := Lib.hid (HIN32.out.fr hf4 (fun k hk e => by omega))
        have HF4 := Lib.hid (HF32.out.next hf4)
        have HDO := Lib.hid (wdoes_h HWL4.out (HKI.out.fit (by have := HI.out; omega)) HIN4.out HSMA.out (by rw [HO.out]; omega))
        unfold DoesPost actWV cellsWM at HDO
        have q0 := HCS.out w4 _ HF4.out (by omega) 0 _ rfl
        rw [Nat.add_zero] at q0
        have q1 := HCS.out w4 _ HF4.out (by omega) 1 _ rfl
        have q2 := HCS.out w4 _ HF4.out (by omega) 2 _ rfl
        have q3 := HCS.out w4 _ HF4.out (by omega) 3 _ rfl
        have q4 := HCS.out w4 _ HF4.out (by omega) 4 _ rfl
        have q5 := HCS.out w4 _ HF4.out (by omega) 5 _ rfl
        have q6 := HCS.out w4 _ HF4.out (by omega) 6 _ rfl
        have q7 := HCS.out w4 _ HF4.out (by omega) 7 _ rfl
        clear hw4 hf4 n0 n1 g0 g1 hln HM32 HWL32 HIN32 HF32
        go_wp2_with fail
        refine Calls.mono HDO.out ?_
        rintro e w5 ⟨rfl, hw5, hf5⟩
        have HW5 := Lib.hid hw5
        have HM5 := Lib.hid (HM4.out.does hf5)
        have hall : ∀ k, Plus A2 w4 w5 k → k < w5.heap.size := by obtain ⟨_, _, _, _, _, _, h⟩ := hw5; exact h.lt
        have HALL := Lib.hid hall
        clear hw5 hf5 hall HDO HM4
        by_cases h7 : (doesL L D m.act).1 = 7
        · have HDD : Hid (KDead w xb hb nb false vw vn2 w5) := ⟨_, L, D, m.act, _, i, HW5.out, ⟨HKI.out, by have := HI.out; omega, HGD.out, h7⟩, (decide_eq_false h4e.out).symm, by unfold nowK nextK; rw [if_neg h4e.out, if_neg h4e.out, HTH.out.1, HTH.out.2, HTU.out.1, HTU.out.2]; exact HM5.out⟩
          have r7 : ((doesL L D m.act).1 == 7) = true := by rw [h7]; rfl
          clear h7
          go_wp2_with fail
          go_roundg (l.length - (i + 1))
          case measure => have := HI.out; omega
          case rel => exact ⟨i + 1, false, true, _, _, by omega, rfl, rfl, rfl, rfl, by go_num, KRel.dead HDD.out⟩
        · have r7 : ((doesL L D m.act).1 == 7) = false := by simpa using h7
          have HK5 := Lib.hid (HKI.out.step HGD.out (by have := HI.out; omega) h7)
          obtain ⟨L3, hL3⟩ : ∃ L3, (doesL L D m.act).2.1 = L3 := ⟨_, rfl⟩
          obtain ⟨D3, hD3⟩ : ∃ D3, (doesL L D m.act).2.2 = D3 := ⟨_, rfl⟩
          rw [hL3, hD3] at HK5 HW5
          obtain ⟨S3, lp3, pb3, mb3, ve3, vs3, hw5⟩ := HW5.out
          have HWA := Lib.hid hw5
          have x1 := cell_of hw5.head (i := 1) (v := .pointer (some ⟨lp3, 0, none⟩)) rfl
          have HHD := Lib.hid (sh_hard hw5.sh)
          obtain ⟨t3, ht3⟩ : ∃ t, L3.st.t = t := ⟨_, rfl⟩
          obtain ⟨u3, hu3⟩ : ∃ t, L3.st.v = t := ⟨_, rfl⟩
          rw [ht3, hu3] at HHD
          have HT3 := Lib.hid (And.intro ht3 hu3)
          clear h7 hL3 hD3 hw5 ht3 hu3
          go_wp2_with fail
          refine Calls.mono HHD.out ?_
          rintro e w6 ⟨rfl, hf6⟩
          have HM6 := Lib.hid (HM5.out.quiet hf6)
          have HWA6 := Lib.hid (HWA.out.quiet hf6)
          have q0 := cell_of HM6.out.h (i := 0) (v := .int .i64 t) rfl
          have q1 := cell_of HM6.out.h (i := 1) (v := .int .i64 u) rfl
          have g0 := free_of 0 HM6.out.h
          have g1 := free_of 1 HM6.out.h
          have hlh := lt_of_block HM6.out.h
          have hs6 := hf6.size
          clear hf6 HHD x1
          go_upto_region 29 with fail
          have HM7 := Lib.hid (HM6.out.setH t3 u3)
          have hf7 : Fr (fun k => k = hb) w6 ((w6.setCell ⟨hb, 0, none⟩ (.int .i64 t3)).setCell ⟨hb, 1, none⟩ (.int .i64 u3)) := ((Fr.refl (fun k => k = hb) w6).setCell (p := ⟨hb, 0, none⟩) (.inl rfl) _).setCell (p := ⟨hb, 1, none⟩) (.inl rfl) _
          obtain ⟨w7, hw7⟩ : ∃ w7, w7 = (w6.setCell ⟨hb, 0, none⟩ (.int .i64 t3)).setCell ⟨hb, 1, none⟩ (.int .i64 u3) := ⟨_, rfl⟩
          rw [← hw7] at HM7 hf7 ⊢
          have HWA7 := Lib.hid (HWA6.out.fr hf7 (fun k hk e => HM6.out.fh.1 (by rw [← e]; exact hk)) (HWA6.out.wal.env.fr hf7 (fun k hk => by have := HM6.out.fh.2; omega)))
          have y1 := cell_of HWA7.out.head (i := 1) (v := .pointer (some ⟨lp3, 0, none⟩)) rfl
          obtain ⟨l3, hl3⟩ : ∃ l3, L3.st.ents = l3 := ⟨_, rfl⟩
          have HEN := Lib.hid (sh_entries HWA7.out.sh (by have := (HK5.out.fit (by have := HI.out; omega)).few; omega) hl3)
          have HL3 := Lib.hid hl3
          have hs7 := hf7.size
          clear hw7 hf7 q0 q1 g0 g1 hlh hl3
          go_wp2_with fail
          refine Calls.mono HEN.out ?_
          rintro e w8 ⟨ea, ec, rfl, hr8, hf8⟩
          have HM8 := Lib.hid (HM7.out.putW (fun k hk => by have := HALL.out k hk; omega) hf8 hr8)
          have HLV : Hid (KLive w xb hb nb (i + 1) (.slice ea l3.length ec) vn2 w8) := ⟨_, L3, D3, _, _, _, ⟨_, _, _, _, _, _, HWA7.out.quiet hf8⟩, HK5.out, by rw [HL3.out, HT3.out.1, HT3.out.2]; exact HM8.out⟩
          clear hr8 hf8 HEN y1
          go_wp2_with fail
          go_roundg (l.length - (i + 1))
          case measure => have := HI.out; omega
          case rel => exact ⟨i + 1, false, false, _, _, by omega, rfl, rfl, rfl, rfl, by go_num, KRel.live HLV.out⟩
    · have HK2 := HK.out
      obtain ⟨⟨a, cap, rfl, hc1, hc2, _⟩, _⟩ := HA.out.grow HK.out.fr
      have hi40 : i ≤ 40 := by have := HI.out; omega
      clear HA
      by_cases hlt : i < l.length
      · have hlti : (i : Int) < (l.length : Int) := by omega
        obtain rfl : dd = true := by
          cases dd
          · exact absurd ⟨rfl, hlt⟩ hex
          · rfl
        clear hex
        go_wp2_with fail
        go_meet
        exact ⟨i, rs, true, _, _, hi40, rfl, rfl, rfl, rfl, rfl, HK⟩
      · have hlti : ¬ (i : Int) < (l.length : Int) := by omega
        clear hex
        go_wp2_with fail
        go_meet
        exact ⟨i, rs, dd, _, _, hi40, rfl, rfl, rfl, rfl, rfl, HK⟩
  case rest =>
      obtain ⟨i, rs, dd, vw, vn, hi40, e17, e18, rfl, rfl, rfl, HK⟩ := hcut
      have e17 := e17.symm
      subst e17
      have e18 := e18.symm
      subst e18
      obtain ⟨wr, hwn⟩ : ∃ x, x = wc := ⟨_, rfl⟩
      rw [← hwn] at HK ⊢
      clear hwn
      obtain ⟨A2, L2, D2, t, u, was, now, tn, un, ⟨S2, lp2, pb2, mb2, ve2, vs2, hW⟩, hmost, hm, ⟨hrun, hfew⟩, hr0, hout⟩ := HK.out.fin (keep := keep) (noise := noise) (g := K6) (by omega) (by omega)
      have HW := Lib.hid hW
      have HM := Lib.hid hm
      have HO := Lib.hid hout
      have HR0 := Lib.hid hr0
      have HRUN := Lib.hid hrun
      have HMO := Lib.hid hmost
      have HLO : Hid (∀ k, k < w.heap.size → ¬ Own pb2 mb2 k) := Lib.hid (fun k hk h => by have := hm.low k (hW.own k h); omega)
      have HKE1 := Lib.hid (HKE.out.fr hm.fr (fun _ _ h => h))
      have HNO1 := Lib.hid (HNO.out.fr hm.fr (fun _ _ h => h))
      have HCR := Lib.hid (crash_h hW.wal.disk HKE1.out HNO1.out HLO.out HLO.out (by omega) (by omega))
      have x0 := cell_of hW.head (i := 0) (v := .pointer (some ⟨pb2, 0, none⟩)) rfl
      clear hW hm hout hr0 hrun hmost HK HLV
      go_wp2_with fail
      refine Calls.mono HCR.out ?_
      rintro e w5 ⟨rfl, hd5, hf5⟩
      have HD5 := Lib.hid hd5
      have HF5 := Lib.hid hf5
      have HM5 := Lib.hid (HM.out.own (hf5.mono (o2 := A2) fun k _ hk => HW.out.own k hk))
      have HX5 := Lib.hid (hf5.keep HW.out.head HW.out.far.2)
      have x5 := cell_of HX5.out (i := 0) (v := .pointer (some ⟨pb2, 0, none⟩)) rfl
      have HFU : Hid (∀ (W : World) (_ : Fr (fun _ => False) w5 W), Calls Tryz.prog 25 #[.pointer (some ⟨pb2, 0, none⟩), .int .i64 K6] W fun e w' => e = .returned (.tuple #[]) ∧ DiskAt w' pb2 mb2 (fuseD (crashD xbG D2 keep noise) K6) ∧ Fr (Own pb2 mb2) W w') := Lib.hid (fun W hq => fuse_h (HD5.out.grow hq) (by omega))
      have HCW := Lib.hid (fun (W : World) (hq : Fr (Own pb2 mb2) w5 W) => hq.cell x5 HW.out.far.2)
      clear hd5 hf5 HCR x0
      go_upto_region 31 with fail
      go_cut [] (fun wx => Hid (DiskAt wx pb2 mb2 (fuseD (crashD xbG D2 keep noise) K6) ∧ Fr (Own pb2 mb2) w5 wx))
      case first =>
        go_region_held (fun W => W.cell? ⟨xb, 0, none⟩ = some (.pointer (some ⟨pb2, 0, none⟩)))
          (first | go_keep | (with_reducible exact p1) | fail)
          (first
            | (go_at_call 42; (with_reducible refine Calls.mono (HPG.out _) ?_); clear HPG; rintro r wA ⟨rfl, rfl⟩)
            | (go_at_call 25; (with_reducible refine Calls.mono (HFU.out _ (show Fr (fun _ => False) w5 _ by repeat (first | exact Fr.refl _ _ | refine Fr.drew ?_))) ?_); clear HFU; rintro r wA1 ⟨rfl, hd, hq⟩; have f1 := ((show Fr (fun _ => False) w5 _ by repeat (first | exact Fr.refl _ _ | refine Fr.drew ?_)).mono (o2 := Own pb2 mb2) fun _ _ h => h.elim).next hq; have p1 := HCW.out _ f1; have HD1 := Lib.hid hd; clear hq hd)
            | fail)
        all_goals
          go_wp2_with fail
          go_meet
          first | exact Lib.hid ⟨HD1.out, f1⟩ | exact Lib.hid ⟨HD1.out.grow ((Fr.refl _ _).drew), f1.drew⟩
      case rest =>
      have HFD := Lib.hid hcut.out
      obtain ⟨w6, hwn⟩ : ∃ x, x = wc := ⟨_, rfl⟩
      rw [← hwn] at HFD hcut ⊢
      clear hwn hcut HFU HCW HPG x5
      have HF56 : Hid (Fr (Own pb2 mb2) wr w6) := HF5.out.next HFD.out.2
      have HM6 := Lib.hid (HM5.out.own (HFD.out.2.mono (o2 := A2) fun k _ hk => HW.out.own k hk))
      have HX6 := Lib.hid (HFD.out.2.keep HX5.out HW.out.far.2)
      have x6 := cell_of HX6.out (i := 0) (v := .pointer (some ⟨pb2, 0, none⟩)) rfl
      have HE6 : Hid (Env w6) := (HW.out.wal.done HFD.out.1 HF56.out).env
      have HOP := Lib.hid (open_h HFD.out.1 HE6.out HW.out.wal.dlow (by show D2.most ≤ 100000; rw [HMO.out]; decide))
      obtain ⟨q, hq⟩ : ∃ q, openD (fuseD (crashD xbG D2 keep noise) K6) = q := ⟨_, rfl⟩
      have hqm : q.2.most = 100000 := by rw [← hq, openD_cap]; exact HMO.out
      have HRE : Hid (reopenD xbG D2 keep noise K6 = if q.1.1 ≠ 0 then openD (crashD xbG q.2 noise keep) else q) := by show _ = _; unfold reopenD; rw [hq]
      rw [hq] at HOP
      have HQM := Lib.hid hqm
      rw [HRE.out] at HR0 HO
      unfold OpenPost at HOP
      clear hq hqm HM HM5 HX5 HD5 HFD HRE
      go_wp2_with fail
      refine Calls.mono HOP.out ?_
      rintro e w7 ⟨lp7, rfl, h7, hd7, hf7⟩
      obtain ⟨c, hc⟩ : ∃ c, q.1.1 = c := ⟨_, rfl⟩
      rw [hc] at h7 HR0 HO ⊢
      obtain ⟨pv, hpv⟩ : ∃ pv : Value, (if c = 0 then .pointer (some ⟨lp7, 0, none⟩) else .pointer none) = pv := ⟨_, rfl⟩
      rw [hpv]
      have H7 := Lib.hid h7
      have HD7 := Lib.hid hd7
      have HPV := Lib.hid hpv
      have HC := Lib.hid hc
      have HM7 := Lib.hid (HM6.out.own (hf7.mono (o2 := A2) fun k _ hk => HW.out.own k hk))
      have HF7 : Hid (Fr (Own pb2 mb2) wr w7) := HF56.out.next hf7
      have HX7 := Lib.hid (hf7.keep HX6.out HW.out.far.2)
      have x7 := cell_of HX7.out (i := 0) (v := .pointer (some ⟨pb2, 0, none⟩)) rfl
      obtain ⟨s, hs⟩ : ∃ s, (if c ≠ 0 then openD (crashD xbG q.2 noise keep) else q).1.2.1 = s := ⟨_, rfl⟩
      rw [hs] at HO
      have HS := Lib.hid hs
      clear h7 hd7 hpv hc hs hf7 HOP HM6 HX6 x6 HF56 HF5 HE6
      go_upto_region 33 with fail
      go_cut [146] (fun s146 wx => s146 = .bool (decide (c ≠ 0)) ∧ wx = w7)
      case first =>
        by_cases hc0 : c = 0
        · have r0 : (c != 0) = false := by simpa using hc0
          have D0 := Lib.hid (show decide (c ≠ 0) = false from decide_eq_false (fun h => h hc0))
          clear hc0
          go_wp2_with fail
          go_meet
          exact ⟨by rw [D0.out], rfl⟩
        · have r0 : (c != 0) = true := by simpa using hc0
          have D0 := Lib.hid (show decide (c ≠ 0) = true from decide_eq_true hc0)
          clear hc0
          go_wp2_with fail
          go_meet
          exact ⟨by rw [D0.out], rfl⟩
      case rest =>
      obtain ⟨rfl, hwq⟩ := hcut
      obtain rfl := hwq
      go_upto_if 146 with fail
      go_cut [24, 25] (fun s24 s25 wx => ∃ lp9 : Nat, s24 = .pointer (some ⟨lp9, 0, none⟩) ∧ s25 = .int .i64 0 ∧ Hid (KAft w A2 hb nb t u was now tn un vw vn lp9 pb2 mb2 s wx))
      case first =>
        by_cases hc0 : c = 0
        · rw [show decide (c ≠ 0) = false from decide_eq_false (fun h => h hc0)]
          have HC0 := Lib.hid hc0
          clear hc0
          go_wp2_with fail
          go_meet
          obtain ⟨ve9, vs9, h9⟩ := H7.out HC0.out
          have hqs : q.1.2.1 = s := by rw [← HS.out, if_neg (fun h => h HC0.out)]
          rw [hqs] at h9
          exact ⟨lp7, by rw [← HPV.out, if_pos HC0.out], by rw [HC0.out], Lib.hid ⟨⟨_, ve9, vs9, _, _, h9⟩, HM7.out⟩⟩
        · rw [show decide (c ≠ 0) = true from decide_eq_true hc0]
          have HC0 := Lib.hid hc0
          have HKE7 := Lib.hid (HKE1.out.fr HF7.out HLO.out)
          have HNO7 := Lib.hid (HNO1.out.fr HF7.out HLO.out)
          have HCR := Lib.hid (crash_h HD7.out HNO7.out HKE7.out HLO.out HLO.out (by omega) (by omega))
          clear hc0
          go_wp2_with fail
          refine Calls.mono HCR.out ?_
          rintro e w8 ⟨rfl, hd8, hf8⟩
          have HM8 := Lib.hid (HM7.out.own (hf8.mono (o2 := A2) fun k _ hk => HW.out.own k hk))
          have HX8 := Lib.hid (hf8.keep HX7.out HW.out.far.2)
          have x8 := cell_of HX8.out (i := 0) (v := .pointer (some ⟨pb2, 0, none⟩)) rfl
          have HE8 : Hid (Env w8) := (HW.out.wal.done hd8 (HF7.out.next hf8)).env
          have HOP := Lib.hid (open_h hd8 HE8.out HW.out.wal.dlow (by show q.2.most ≤ 100000; rw [HQM.out]; decide))
          obtain ⟨q9, hq9⟩ : ∃ q9, openD (crashD xbG q.2 noise keep) = q9 := ⟨_, rfl⟩
          rw [hq9] at HOP
          have hq0 : q9.1.1 = 0 := by rw [← hq9, ← HR0.out, if_pos HC0.out]
          have hqs : q9.1.2.1 = s := by rw [← hq9, ← HS.out, if_pos HC0.out]
          unfold OpenPost at HOP
          rw [hq0] at HOP
          have HQS := Lib.hid hqs
          clear hd8 hf8 HCR x7 hq9 hq0 hqs
          go_wp2_with fail
          refine Calls.mono HOP.out ?_
          rintro e w9 ⟨lp9, rfl, h9, _, hf9⟩
          first | rw [if_pos trivial] | rw [if_pos rfl] | simp only [↓reduceIte]
          have H9 := Lib.hid (h9 (by first | rfl | trivial))
          have HM9 := Lib.hid (HM8.out.own (hf9.mono (o2 := A2) fun k _ hk => HW.out.own k hk))
          clear h9 hf9 HOP x8
          go_wp2_with fail
          go_meet
          obtain ⟨ve9, vs9, h9⟩ := H9.out
          rw [HQS.out] at h9
          exact ⟨lp9, rfl, rfl, Lib.hid ⟨⟨_, ve9, vs9, _, _, h9⟩, HM9.out⟩⟩
      case rest =>
      obtain ⟨lp9, rfl, rfl, HAF⟩ := hcut
      obtain ⟨w10, hwn⟩ : ∃ x, x = wc := ⟨_, rfl⟩
      rw [← hwn] at HAF ⊢
      clear hwn H7 HD7 HPV HC HM7 HF7 HX7 x7 HS HR0 HQM
      obtain ⟨⟨S9, ve9, vs9, segs9, D9, hWA⟩, hKM⟩ := HAF.out
      have HWA := Lib.hid hWA
      have HKM := Lib.hid hKM
      have HSF := Lib.hid (HO.out.few hfew)
      obtain ⟨ts, hts⟩ : ∃ x, s.t = x := ⟨_, rfl⟩
      obtain ⟨us, hus⟩ : ∃ x, s.v = x := ⟨_, rfl⟩
      obtain ⟨es, hes⟩ : ∃ x, s.ents = x := ⟨_, rfl⟩
      have HXH : Hid (∀ (W : World) (_ : Fr (fun _ => False) w10 W), Calls Tryz.prog 37 #[.pointer (some ⟨lp9, 0, none⟩)] W fun r w' => r = .returned (.agg #[.int .i64 ts, .int .i64 us]) ∧ Fr (fun _ => False) W w') := Lib.hid (fun W hq => by rw [← hts, ← hus]; exact hard_h (HWA.out.log.quiet hq))
      have HXE := Lib.hid (fun (W : World) (hq : Fr (fun _ => False) w10 W) => log_entries (HWA.out.log.quiet hq) (by have := HSF.out; omega) hes)
      have hesl : es.length ≤ 1000000 := by rw [← hes]; exact HSF.out
      have HOK : Hid ((ts = t ∧ us = u ∧ es = was) ∨ (dd = true ∧ ((rs = true ∧ ts = t ∧ us = u ∧ es = []) ∨ (rs = false ∧ ((ts = t ∧ us = u) ∨ (ts = tn ∧ us = un)) ∧ BegunE es was now ∧ (∀ e ∈ now, GoodE e) ∧ now.length ≤ 10000)))) := by
        have h := HO.out
        unfold KOut at h
        rw [hts, hus, hes] at h
        exact h
      have a0 := cell_of hKM.h (i := 0) (v := .int .i64 t) rfl
      have a1 := cell_of hKM.h (i := 1) (v := .int .i64 u) rfl
      have n0 := cell_of hKM.n (i := 0) (v := .int .i64 tn) rfl
      have n1 := cell_of hKM.n (i := 1) (v := .int .i64 un) rfl
      have HCW := Lib.hid (fun (W : World) (hq : Fr (fun _ => False) w10 W) => And.intro (hq.cell a0 (fun h => h)) (And.intro (hq.cell a1 (fun h => h)) (And.intro (hq.cell n0 (fun h => h)) (hq.cell n1 (fun h => h)))))
      have HSE : Hid (∀ (W : World) (Q1 Q2 : Nat → Prop) (a : Option Addr) (vb : Value) (c : Nat) (_ : SRow W Q1 4 (.slice a es.length c) es.length (entsC es)) (_ : SRow W Q2 4 vb was.length (entsC was)), Calls Tryz.prog 38 #[.slice a es.length c, vb] W fun e w' => e = .returned (.bool (decide (es = was))) ∧ Fr (fun _ => False) W w') := Lib.hid (fun W Q1 Q2 a vb c g1 g2 => sameents_h g1 g2 hesl)
      have hq61 := eqq61 ts us t u
      clear hWA hKM hts hus hes HO HSF HAF
      go_upto_region 38 with fail
      by_cases hsame : ts = t ∧ us = u ∧ es = was
      · have hbb : (ts == t && us == u) = true := by rw [hsame.1, hsame.2.1]; simp
        rw [hbb] at hq61
        rw [decide_eq_true hsame.2.2] at HSE
        clear hbb hsame HOK n0 n1
        go_region_held (fun W => W.cell? ⟨hb, 0, none⟩ = some (.int .i64 t) ∧ W.cell? ⟨hb, 1, none⟩ = some (.int .i64 u))
          (first | go_keep | (with_reducible exact p2) | (with_reducible exact p1) | (with_reducible exact p0) | fail)
          (first
            | (go_at_call 37; (with_reducible refine Calls.mono (HXH.out _ (show Fr (fun _ => False) w10 _ by repeat (first | exact Fr.refl _ _ | refine Fr.drew ?_))) ?_); clear HXH; rintro r wA0 ⟨rfl, hq⟩; have f0 := (show Fr (fun _ => False) w10 _ by repeat (first | exact Fr.refl _ _ | refine Fr.drew ?_)).next hq; have p0 := And.intro (HCW.out _ f0).1 (HCW.out _ f0).2.1; clear hq)
            | (have tok := p0; clear tok; go_at_call 39; (with_reducible refine Calls.mono (HXE.out _ (show Fr (fun _ => False) w10 _ by repeat (first | exact f0 | refine Fr.drew ?_))) ?_); clear HXE; rintro r wA1 ⟨na, nc, rfl, hr2, hq⟩; have f1 := (show Fr (fun _ => False) w10 _ by repeat (first | exact f0 | refine Fr.drew ?_)).next hq; have p1 := And.intro (HCW.out _ f1).1 (HCW.out _ f1).2.1; have HR2 := Lib.hid hr2; clear hq hr2)
            | (have tok := p1; clear tok; go_at_call 38; (with_reducible refine Calls.mono (HSE.out _ _ _ _ _ _ (by first | exact HR2.out | exact HR2.out.fr ((Fr.refl (fun _ => False) _).drew) (fun _ _ h => h)) (HKM.out.was.fr (show Fr (fun _ => False) w10 _ by repeat (first | exact f1 | refine Fr.drew ?_)) (fun _ _ h => h))) ?_); clear HSE; rintro r wA2 ⟨rfl, hq⟩; have f2 := (show Fr (fun _ => False) w10 _ by repeat (first | exact f1 | refine Fr.drew ?_)).next hq; have p2 := And.intro (HCW.out _ f2).1 (HCW.out _ f2).2.1; clear hq)
            | fail)
        all_goals
          go_wp2_with fail
          go_ret
          exact ⟨rfl, by first | exact HKM.out.fr.next f2 | exact HKM.out.fr.next f2.drew⟩
      · have HNS := Lib.hid hsame
        have HTW := Lib.hid (HOK.out.resolve_left hsame)
        clear hsame HOK
        go_cut [177] (fun s177 wx => s177 = .bool false ∧ Hid (Fr (fun _ => False) w10 wx))
        case first =>
          as_aux_lemma =>
            by_cases hh : ts = t ∧ us = u
            · have hbb : (ts == t && us == u) = true := by rw [hh.1, hh.2]; simp
              rw [hbb] at hq61
              rw [decide_eq_false (fun h => HNS.out ⟨hh.1, hh.2, h⟩)] at HSE
              clear hbb hh n0 n1
              go_region_held (fun W => W.cell? ⟨hb, 0, none⟩ = some (.int .i64 t) ∧ W.cell? ⟨hb, 1, none⟩ = some (.int .i64 u))
                (first | go_keep | (with_reducible exact p2) | (with_reducible exact p1) | (with_reducible exact p0) | fail)
                (first
                  | (go_at_call 37; (with_reducible refine Calls.mono (HXH.out _ (show Fr (fun _ => False) w10 _ by repeat (first | exact Fr.refl _ _ | refine Fr.drew ?_))) ?_); clear HXH; rintro r wA0 ⟨rfl, hq⟩; have f0 := (show Fr (fun _ => False) w10 _ by repeat (first | exact Fr.refl _ _ | refine Fr.drew ?_)).next hq; have p0 := And.intro (HCW.out _ f0).1 (HCW.out _ f0).2.1; clear hq)
                  | (have tok := p0; clear tok; go_at_call 39; (with_reducible refine Calls.mono (HXE.out _ (show Fr (fun _ => False) w10 _ by repeat (first | exact f0 | refine Fr.drew ?_))) ?_); clear HXE; rintro r wA1 ⟨na, nc, rfl, hr2, hq⟩; have f1 := (show Fr (fun _ => False) w10 _ by repeat (first | exact f0 | refine Fr.drew ?_)).next hq; have p1 := And.intro (HCW.out _ f1).1 (HCW.out _ f1).2.1; have HR2 := Lib.hid hr2; clear hq hr2)
                  | (have tok := p1; clear tok; go_at_call 38; (with_reducible refine Calls.mono (HSE.out _ _ _ _ _ _ (by first | exact HR2.out | exact HR2.out.fr ((Fr.refl (fun _ => False) _).drew) (fun _ _ h => h)) (HKM.out.was.fr (show Fr (fun _ => False) w10 _ by repeat (first | exact f1 | refine Fr.drew ?_)) (fun _ _ h => h))) ?_); clear HSE; rintro r wA2 ⟨rfl, hq⟩; have f2 := (show Fr (fun _ => False) w10 _ by repeat (first | exact f1 | refine Fr.drew ?_)).next hq; have p2 := And.intro (HCW.out _ f2).1 (HCW.out _ f2).2.1; clear hq)
                  | fail)
              all_goals
                go_wp2_with fail
                go_meet
                exact ⟨rfl, by first | exact f2 | exact f2.drew⟩
            · have hbb : (ts == t && us == u) = false := by
                rw [Bool.and_eq_false_iff]
                by_cases h1 : ts = t
                · right; simp; exact fun h => hh ⟨h1, h⟩
                · left; simpa using h1
              rw [hbb] at hq61
              clear hbb hh n0 n1
              first
              | (go_region_held (fun W => W.cell? ⟨hb, 0, none⟩ = some (.int .i64 t) ∧ W.cell? ⟨hb, 1, none⟩ = some (.int .i64 u))
                (first | go_keep | (with_reducible exact p0) | fail)
                (first
                  | (go_at_call 37; (with_reducible refine Calls.mono (HXH.out _ (show Fr (fun _ => False) w10 _ by repeat (first | exact Fr.refl _ _ | refine Fr.drew ?_))) ?_); clear HXH; rintro r wA0 ⟨rfl, hq⟩; have f0 := (show Fr (fun _ => False) w10 _ by repeat (first | exact Fr.refl _ _ | refine Fr.drew ?_)).next hq; have p0 := And.intro (HCW.out _ f0).1 (HCW.out _ f0).2.1; clear hq)
                  | fail))
              | fail
              all_goals
                go_wp2_with fail
                go_meet
                exact ⟨rfl, by first | exact f0 | exact f0.drew⟩
        case rest =>
        obtain ⟨rfl, HFC⟩ := hcut
        obtain ⟨w11, hwn⟩ : ∃ x, x = wc := ⟨_, rfl⟩
        rw [← hwn] at HFC ⊢
        obtain ⟨rfl, hrs⟩ := HTW.out
        have HRS := Lib.hid hrs
        have HX2 : Hid (∀ (W : World) (_ : Fr (fun _ => False) w11 W), Calls Tryz.prog 37 #[.pointer (some ⟨lp9, 0, none⟩)] W fun r w' => r = .returned (.agg #[.int .i64 ts, .int .i64 us]) ∧ Fr (fun _ => False) W w') := Lib.hid (fun W hq => HXH.out W (HFC.out.next hq))
        have HXB : Hid (∀ (W : World) (_ : Fr (fun _ => False) w11 W), Calls Tryz.prog 37 #[.pointer (some ⟨lp9, 0, none⟩)] W fun r w' => r = .returned (.agg #[.int .i64 ts, .int .i64 us]) ∧ Fr (fun _ => False) W w') := HX2
        have HCW2 := Lib.hid (fun (W : World) (hq : Fr (fun _ => False) w11 W) => HCW.out W (HFC.out.next hq))
        have b0 := HFC.out.cell a0 (fun h => h)
        have b1 := HFC.out.cell a1 (fun h => h)
        have b2 := HFC.out.cell n0 (fun h => h)
        have b3 := HFC.out.cell n1 (fun h => h)
        have hn1 := neq61 ts us t u
        have hn2 := neq61 ts us tn un
        clear hwn HXH HCW HSE hq61 a0 a1 n0 n1 HTW HNS hrs
        go_upto_region 40 with fail
        go_cut [191] (fun s191 wx => s191 = .bool false ∧ Hid (Fr (fun _ => False) w11 wx))
        case first =>
          as_aux_lemma =>
            by_cases hh : ts = t ∧ us = u
            · have hbb : (!(ts == t && us == u)) = false := by rw [hh.1, hh.2]; simp
              rw [hbb] at hn1
              clear hbb hh hn2 HXB
              first
              | (go_region_with (first
                  | (go_at_call 37; (with_reducible refine Calls.mono (HX2.out _ (show Fr (fun _ => False) w11 _ by repeat (first | exact Fr.refl _ _ | refine Fr.drew ?_))) ?_); clear HX2; rintro r wA0 ⟨rfl, hq⟩; have f0 := (show Fr (fun _ => False) w11 _ by repeat (first | exact Fr.refl _ _ | refine Fr.drew ?_)).next hq; obtain ⟨p0, p1, _, _⟩ := HCW2.out _ f0; clear hq)
                  | fail))
              | fail
              all_goals
                go_wp2_with fail
                go_meet
                exact ⟨rfl, by first | exact f0 | exact f0.drew⟩
            · have hbb : (!(ts == t && us == u)) = true := by
                rw [Bool.not_eq_true', Bool.and_eq_false_iff]
                by_cases h1 : ts = t
                · right; simp; exact fun h => hh ⟨h1, h⟩
                · left; simpa using h1
              have h2 : ts = tn ∧ us = un := by
                rcases HRS.out with ⟨_, h1, h2, _⟩ | ⟨_, h1 | h1, _⟩
                · exact absurd ⟨h1, h2⟩ hh
                · exact absurd h1 hh
                · exact h1
              have hbc : (!(ts == tn && us == un)) = false := by rw [h2.1, h2.2]; simp
              rw [hbb] at hn1
              rw [hbc] at hn2
              clear hbb hbc hh h2
              go_region_held (fun W => W.cell? ⟨hb, 0, none⟩ = some (.int .i64 t) ∧ W.cell? ⟨hb, 1, none⟩ = some (.int .i64 u) ∧ W.cell? ⟨nb, 0, none⟩ = some (.int .i64 tn) ∧ W.cell? ⟨nb, 1, none⟩ = some (.int .i64 un))
                (first | go_keep | (with_reducible exact p1) | (with_reducible exact p0) | fail)
                (first
                  | (go_at_call 37; (with_reducible refine Calls.mono (HX2.out _ (show Fr (fun _ => False) w11 _ by repeat (first | exact Fr.refl _ _ | refine Fr.drew ?_))) ?_); clear HX2; rintro r wA0 ⟨rfl, hq⟩; have f0 := (show Fr (fun _ => False) w11 _ by repeat (first | exact Fr.refl _ _ | refine Fr.drew ?_)).next hq; have p0 := HCW2.out _ f0; clear hq)
                  | (have tok := p0; clear tok; go_at_call 37; (with_reducible refine Calls.mono (HXB.out _ (show Fr (fun _ => False) w11 _ by repeat (first | exact f0 | refine Fr.drew ?_))) ?_); clear HXB; rintro r wA1 ⟨rfl, hq⟩; have f1 := (show Fr (fun _ => False) w11 _ by repeat (first | exact f0 | refine Fr.drew ?_)).next hq; have p1 := HCW2.out _ f1; clear hq)
                  | fail)
              all_goals
                go_wp2_with fail
                go_meet
                exact ⟨rfl, by first | exact f1 | exact f1.drew⟩
        case rest =>
        obtain ⟨rfl, HFC2⟩ := hcut
        obtain ⟨w12, hwn⟩ : ∃ x, x = wc := ⟨_, rfl⟩
        rw [← hwn] at HFC2 ⊢
        have HF12 := Lib.hid (HFC.out.next HFC2.out)
        have HEN := Lib.hid (HXE.out _ HF12.out)
        have HKM12 := Lib.hid (HKM.out.quiet HF12.out)
        clear hwn HX2 HXB HCW2 hn1 hn2 b0 b1 b2 b3 HXE
        cases rs with
        | true =>
          have hes0 : es = [] := by
            rcases HRS.out with ⟨_, _, _, h⟩ | ⟨h, _⟩
            · exact h
            · cases h
          have hz : (es.length : Int) = 0 := by rw [hes0]; rfl
          clear hes0
          go_wp2_with fail
          refine Calls.mono HEN.out ?_
          rintro e w13 ⟨xa, xc, rfl, _, hf13⟩
          have HF13 := Lib.hid hf13
          clear hf13 HEN
          go_wp2_with fail
          go_ret
          exact ⟨by first | rfl | (rw [hz]; rfl), HKM12.out.fr.next HF13.out⟩
        | false =>
          have hbg : BegunE es was now ∧ (∀ e ∈ now, GoodE e) ∧ now.length ≤ 10000 := by
            rcases HRS.out with ⟨h, _⟩ | ⟨_, _, h⟩
            · cases h
            · exact h
          have HBG := Lib.hid hbg
          clear hbg
          go_wp2_with fail
          refine Calls.mono HEN.out ?_
          rintro e w13 ⟨xa, xc, rfl, hr13, hf13⟩
          have HKM13 := Lib.hid (HKM12.out.quiet hf13)
          have HBE := Lib.hid (begun_h hr13 (HKM13.out.was.mono fun k hk => hk.1.1) HKM13.out.now hesl hfew HBG.out.2.2 HRUN.out HBG.out.2.1)
          unfold BegunPost at HBE
          clear hr13 hf13 HEN
          go_wp2_with fail
          refine Calls.mono HBE.out ?_
          rintro e w14 ⟨bb, rfl, hbb, hf14⟩
          obtain rfl : bb = true := hbb.2 HBG.out.1
          go_wp2_with fail
          go_ret
          exact ⟨rfl, HKM13.out.fr.next hf14⟩
end
end Go.Proofs.YtgmghopcppniaaaGreatDoor
