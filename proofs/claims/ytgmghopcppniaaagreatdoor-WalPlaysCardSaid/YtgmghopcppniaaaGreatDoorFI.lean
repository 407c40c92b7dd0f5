/- wal's Save: what its walk leans on. -/
import Derived.Test.YtgmghopcppniaaaGreatDoorFH
import Derived.Laws.StructEq
import Derived.Test.YtgmghopcppniaaaGreatDoorShelfI
import Derived.Sort.OwnSortedInts
import Derived.Test.YtgmghopcppniaaaGreatDoorFC
namespace Go.Proofs.YtgmghopcppniaaaGreatDoor
open Go.RowKit Go.Lib

theorem eq61 (a b c d : Int) (w : World) : (Op.equalIn 10000 61 (.agg #[.int .i64 a, .int .i64 b]) (.agg #[.int .i64 c, .int .i64 d])).run Tryz.prog w = .ok (a == c && b == d) w := by
 have u3 := Tryz.underlying3
 have a3 := Tryz.isAgg3
 have z3 := Tryz.sizeOf3
 have hS : Tryz.prog.underlying 61 = some (.struct (Tryz.prog.fieldsOf 61)) := by kernel_rfl
 have hp : Tryz.prog.stoodInHeld 61 = false := by kernel_rfl
 rw [show (10000 : Nat) = 9999 + 1 from rfl, run_equalIn_agg w 9999 61 _ _ hS hp]
 simp only [Program.fieldsOf, Tryz.underlying61]
 go_simp
 by_cases h1 : a = c <;> by_cases h2 : b = d <;> simp [h1, h2]
theorem guard61 : Tryz.prog.eqGuardType Tryz.prog.depth 61 = false := by kernel_rfl
/-- the first entries' texts -/
structure STRel (w : World) (t v : Int) (l : List EntD) (i : Nat) (rv : Value) (wr : World) : Prop where
 row : wr.ownsRow w.heap.size 9 1 rv i (paysC ((l.take i).map .ent))
 short : ∀ e ∈ l.take i, (entTx e).length ≤ 65536
 fr : Fr (fun _ => False) w wr
 box : wr.heap[w.heap.size]? = some (.cells #[.int .i64 t, .int .i64 v] 61 (0, 0))
theorem anyZ_two {P : Program} {ops : Array Oper} {Q : Exit → Act → World → Prop} {md : Region.Mode} {S : World → Prop} {z : Nat} {i j : Nat} {oi oj : Oper} {k : Nat} {listed : Array Bool} {a : Act} {w : World} (hi : ops[i]? = some oi) (hj : ops[j]? = some oj) (hr : Region.ready md ops listed = [i, j])
  (h1 : ∀ K : Act → World → Prop, Shut (∀ a2 w2, (i ≠ z → S w2) → anyZ P md ops Q S z k (listed.setIfInBounds i true) a2 w2 → K a2 w2) → if Region.wanted oi (yielded ops a.tmps) = true then Oper.wp P oi a w K Q else K (a.put oi.dst undef) w)
  (h2 : ∀ K : Act → World → Prop, Shut (∀ a2 w2, (j ≠ z → S w2) → anyZ P md ops Q S z k (listed.setIfInBounds j true) a2 w2 → K a2 w2) → if Region.wanted oj (yielded ops a.tmps) = true then Oper.wp P oj a w K Q else K (a.put oj.dst undef) w) : anyZ P md ops Q S z (k + 1) listed a w := by
 refine ⟨fun h0 => (by rw [hr] at h0; cases h0), fun m hm => ?_⟩
 rw [hr] at hm
 rcases List.mem_cons.1 hm with rfl | hm
 ·exact wpOp_step hi fun K hK => h1 K fun a2 w2 h1 h2 => hK a2 w2 ⟨h1, h2⟩
 ·obtain rfl := List.mem_singleton.1 hm
  exact wpOp_step hj fun K hK => h2 K fun a2 w2 h1 h2 => hK a2 w2 ⟨h1, h2⟩
theorem segC_one {s : SegD} : ∀ u ∈ segC s, u.oneCell' = true := by
 intro u hu
 simp [segC] at hu
 rcases hu with rfl | rfl | rfl <;> rfl
/-- ahead of laying down: the log has its last segment; the old row stands -/
structure SaveMid (w : World) (S : Nat → Prop) (lp pb mb : Nat) (ve vs vs2 : Value) (st : StD) (pre : List SegD) (last : SegD) (D : DiskD) (t v : Int) (l : List EntD) (pv : Value) (W : World) : Prop where
 wal : WalAt W (Plus S w W) lp pb mb ve vs2 st ((grownL ⟨st, pre, last⟩).pre ++ [(grownL ⟨st, pre, last⟩).last]) D
 fr : Fr S w W
 box : W.heap[w.heap.size]? = some (.cells #[.int .i64 t, .int .i64 v] 61 (0, 0))
 row : W.ownsRow w.heap.size 9 1 pv l.length (paysC (l.map .ent))
 old : W.ownsRow 0 143 3 vs (pre ++ [last]).length (segsC (pre ++ [last]))
 same : (grownL ⟨st, pre, last⟩ = ⟨st, pre, last⟩ ∧ vs2 = vs) ∨ (∀ k, vs2.ownBlock = some k → w.heap.size ≤ k)
theorem SaveMid.grown {w wc w8 : World} {S : Nat → Prop} {lp pb mb : Nat} {ve vs v8 pv : Value} {st : StD} {pre : List SegD} {last : SegD} {D : DiskD} {t v : Int} {l : List EntD} (h0 : WalAt w S lp pb mb ve vs st (pre ++ [last]) D) (HW : WalAt wc S lp pb mb ve vs st (pre ++ [last]) D) (hF : Fr (fun _ => False) w wc)
  (hb : wc.heap[w.heap.size]? = some (.cells #[.int .i64 t, .int .i64 v] 61 (0, 0))) (hp : wc.ownsRow w.heap.size 9 1 pv l.length (paysC (l.map .ent))) (hf : Fr (fun _ => False) wc w8)
  (hr : w8.ownsRow wc.heap.size 143 3 v8 (pre.length + 1 + 1) (segsC (pre ++ [last]) ++ segC ⟨last.num + 1, 0, 0⟩)) (hg : grownL ⟨st, pre, last⟩ = ⟨st, pre ++ [last], ⟨last.num + 1, 0, 0⟩⟩) :
  SaveMid w S lp pb mb ve vs v8 st pre last D t v l pv (w8.setCell ⟨lp, 4, none⟩ v8) := by
 have hlp := h0.log.lt lp h0.log.slp
 have hz : (w8.setCell ⟨lp, 4, none⟩ v8).heap.size = w8.heap.size := by simp
 have e1 : segsC (pre ++ [last]) ++ segC ⟨last.num + 1, 0, 0⟩ = segsC ((pre ++ [last]) ++ [⟨last.num + 1, 0, 0⟩]) := by rw [segs_app (pre ++ [last])]; simp [segsC]
 have e2 : pre.length + 1 + 1 = ((pre ++ [last]) ++ [(⟨last.num + 1, 0, 0⟩ : SegD)]).length := by simp
 rw [e1, e2] at hr
 have hset := HW.log.setsegs hf hr
 have hfs : Fr S wc (w8.setCell ⟨lp, 4, none⟩ v8) := (hf.mono (o2 := S) fun _ _ h => h.elim).setCell (p := ⟨lp, 4, none⟩) (.inl HW.log.slp) _
 have hw := HW.logs hset hfs
 refine ⟨?_, (hF.mono (o2 := S) fun _ _ h => h.elim).next hfs, ?_, ?_, ?_, .inr fun k hk => ?_⟩
 ·rw [hg]; exact h0.widen hw hF hfs.size
 ·rw [block_set_ne (by omega)]; exact hf.keep hb (fun h => h)
 ·exact ownsRow_keep (ownsRow_keep hp fun k hk => hf.block k (hp.lt k hk).2 (fun h => h)) fun k hk => block_set_ne (by have := (hp.lt k hk).1; omega)
 ·have h2 := HW.log.quiet hf
  exact ownsRow_keep h2.segr fun k hk => block_set_ne (by rintro rfl; exact own_ne h2.segr h2.head (by decide) hk)
 ·exact Nat.le_trans hF.size (hr.lt k hk).1
/-! ### the blocks that lay may touch: not the old row, not what Save has made -/
def SaveS (S : Nat → Prop) (vs vs2 : Value) (k : Nat) : Prop := (S k ∧ (vs2 = vs ∨ vs.ownBlock ≠ some k)) ∨ vs2.ownBlock = some k
theorem own_ne2 {w : World} {b1 b2 e1 e2 s1 s2 n1 n2 : Nat} {v1 v2 : Value} {x1 x2 : List Value} (h1 : w.ownsRow b1 e1 s1 v1 n1 x1) (h2 : w.ownsRow b2 e2 s2 v2 n2 x2) (he : e1 ≠ e2) {k : Nat} (hk1 : v1.ownBlock = some k) (hk2 : v2.ownBlock = some k) : False := by
 rcases h2.2 with ⟨h3, _⟩ | ⟨g, cap, cur, h3, _, hh, _⟩
 ·rw [h3] at hk2; simp [Value.ownBlock] at hk2
 ·rw [h3] at hk2
  simp [Value.ownBlock] at hk2
  subst hk2
  exact own_ne h1 hh (fun e => he e.symm) hk1
section
variable {w W : World} {S : Nat → Prop} {lp pb mb : Nat} {ve vs vs2 pv : Value} {st : StD} {pre : List SegD} {last : SegD} {D : DiskD} {t v : Int} {l : List EntD}
theorem SaveMid.sub (h : SaveMid w S lp pb mb ve vs vs2 st pre last D t v l pv W) {k : Nat} (hk : SaveS S vs vs2 k) : Plus S w W k := by
 rcases hk with ⟨hk, _⟩ | hk
 ·exact .inl hk
 ·exact h.wal.log.svs k hk
theorem SaveMid.narrow (h : SaveMid w S lp pb mb ve vs vs2 st pre last D t v l pv W) (h0 : WalAt w S lp pb mb ve vs st (pre ++ [last]) D) :
  WalAt W (SaveS S vs vs2) lp pb mb ve vs2 st ((grownL ⟨st, pre, last⟩).pre ++ [(grownL ⟨st, pre, last⟩).last]) D := by
 have h2 := h.wal.log
 refine ⟨⟨h2.head, h2.ents, h2.segr, .inl ⟨h0.log.slp, .inr fun e => own_ne h0.log.segr h0.log.head (by decide) e⟩, fun k hk => .inl ⟨h0.log.sve k hk, .inr fun e => own_ne2 h0.log.ents h0.log.segr (by decide) hk e⟩, fun k hk => .inr hk, fun k hk => h2.lt k (h.sub hk)⟩, h.wal.disk, fun k hk => h.wal.far k (h.sub hk), h.wal.env, fun k hk => h.wal.low k (h.sub hk), h.wal.dlow⟩
theorem SaveMid.boxfar (h : SaveMid w S lp pb mb ve vs vs2 st pre last D t v l pv W) (h0 : WalAt w S lp pb mb ve vs st (pre ++ [last]) D) : ¬ WAll (SaveS S vs vs2) pb mb w.heap.size := by
 rintro ((⟨hk, _⟩ | hk) | hk)
 ·exact Nat.lt_irrefl _ (h0.log.lt _ hk)
 ·exact own_ne h.wal.log.segr h.box (by decide) hk
 ·have := h0.own_lt; rcases hk with e | e <;> omega
theorem SaveMid.oldfar (_h : SaveMid w S lp pb mb ve vs vs2 st pre last D t v l pv W) (h0 : WalAt w S lp pb mb ve vs st (pre ++ [last]) D) (hs : ∀ k, vs2.ownBlock = some k → w.heap.size ≤ k) {k : Nat} (hk : vs.ownBlock = some k) : ¬ WAll (SaveS S vs vs2) pb mb k := by
 have hlt := h0.log.lt k (h0.log.svs k hk)
 rintro ((⟨_, h1 | h1⟩ | h1) | h1)
 ·rw [h1] at hs; have := hs k hk; omega
 ·exact h1 hk
 ·have := hs k h1; omega
 ·exact h0.far k (h0.log.svs k hk) h1
end
theorem WalAt.up {w w' : World} {S S' : Nat → Prop} {lp pb mb : Nat} {ve vs ve2 vs2 : Value} {st st2 : StD} {segs segs2 : List SegD} {D D2 : DiskD} (h : WalAt w S lp pb mb ve vs st segs D) (h2 : WalAt w' S' lp pb mb ve2 vs2 st2 segs2 D2) (hs : ∀ k, S' k → Plus S w w' k) (hz : w.heap.size ≤ w'.heap.size) : WalAt w' (Plus S w w') lp pb mb ve2 vs2 st2 segs2 D2 := by
 have ho := h.own_lt
 refine h2.mono hs (Plus.lt h.log.lt hz) (fun k hk => ?_) (fun k hk => ?_)
 ·rcases hk with hk | ⟨hk, _⟩
  ·exact h.far k hk
  ·rintro (e | e) <;> omega
 ·rcases hk with hk | ⟨hk, _⟩
  ·exact h.low k hk
  ·have := h.dlow; omega
theorem LogAt.swapsegs {w : World} {S : Nat → Prop} {lp : Nat} {dv ve vs v2 : Value} {st : StD} {segs segs2 : List SegD} {n : Nat} (h : LogAt w S lp dv ve vs st segs) (hr : w.ownsRow 0 143 3 v2 n (segsC segs2)) (hn : n = segs2.length) (hv : ∀ k, v2.ownBlock = some k → S k) : LogAt (w.setCell ⟨lp, 4, none⟩ v2) S lp dv ve v2 st segs2 := by
 subst hn
 refine ⟨block_set h.head 4 v2, ownsRow_keep h.ents (fun k hk => block_set_ne ?_), ownsRow_keep hr (fun k hk => block_set_ne ?_), h.slp, h.sve, hv, fun k hk => by have := h.lt k hk; simpa using this⟩
 ·rintro rfl; exact own_ne h.ents h.head (by decide) hk
 ·rintro rfl; exact own_ne hr h.head (by decide) hk
theorem then_files {D : DiskD} {l : List FileD} : (thenD D l).2.files = l ∨ (thenD D l).2.files = D.files := by
 unfold thenD turnD
 by_cases hf : D.fuse = 0
 ·rw [if_pos hf]; exact .inr rfl
 ·rw [if_neg hf]; exact .inl rfl
theorem append_there {D : DiskD} {n x : Str} (hD : InvD D) (h : (appendD D n x).1 = 0) : (getF (appendD D n x).2.files n).isSome = true := by
 unfold appendD at h ⊢
 by_cases h1 : D.dead = true
 ·rw [if_pos h1] at h; cases h
 ·rw [if_neg h1] at h ⊢
  by_cases h2 : nameOK n = false
  ·rw [if_pos h2] at h; cases h
  ·rw [if_neg h2] at h ⊢
   by_cases h3 : getF D.files n = none ∧ D.files.length = 40
   ·rw [if_pos h3] at h; cases h
   ·rw [if_neg h3] at h ⊢
    by_cases h4 : D.most < (total D.files : Int) + x.length
    ·rw [if_pos h4] at h; cases h
    ·rw [if_neg h4] at h ⊢
     by_cases hf : D.fuse = 0
     ·rw [then_dies hf] at h; cases h
     ·rw [then_does hf]
      show (getF (putF _ _) n).isSome = true
      rw [get_put hD.sorted, if_pos grown_name.symm]; rfl
theorem sync_there {D : DiskD} {n m : Str} (hD : InvD D) (h : (getF D.files m).isSome = true) : (getF (syncD D n).2.files m).isSome = true := by
 unfold syncD
 split
 ·exact h
 ·split
  ·exact h
  ·rename_i f hf
   rcases then_files (D := D) (l := putF D.files ⟨n, f.bytes, f.bytes.length⟩) with e | e
   ·rw [e, get_put hD.sorted]
    split
    ·rfl
    ·exact h
   ·rw [e]; exact h
/-- an append that was done leaves the file -/
theorem lay_gone {M : LogD} {D : DiskD} {rs : List RecD} (hD : InvD D) (h : ¬ (getF (layL M D rs).2.2.files (nameW M.last.num)).isSome = true) : (layL M D rs).2.1 = M := by
 unfold layL at h ⊢
 split
 ·rfl
 ·rename_i h0
  exfalso
  rw [if_neg h0] at h
  have h1 : (appendD D (nameW M.last.num) (recsL rs)).1 = 0 := Classical.byContradiction h0
  exact h (sync_there (hD.append _ _) (append_there hD h1))
/-- behind laying down -/
structure SaveLaid (w : World) (S : Nat → Prop) (lp pb mb : Nat) (ve vs vs2 : Value) (st : StD) (pre : List SegD) (last : SegD) (M : LogD) (p : Int × (LogD × DiskD)) (t v : Int) (w' : World) : Prop where
 wal : WalAt w' (Plus S w w') lp pb mb ve vs2 st (M.pre ++ [p.2.1.last]) p.2.2
 fr : Fr (WAll S pb mb) w w'
 box : w'.heap[w.heap.size]? = some (.cells #[.int .i64 t, .int .i64 v] 61 (0, 0))
 old : (vs2 = vs ∧ M = ⟨st, pre, last⟩) ∨ w'.ownsRow 0 143 3 vs (pre ++ [last]).length (segsC (pre ++ [last]))
theorem SaveMid.laid {w wc W w' : World} {S : Nat → Prop} {lp pb mb : Nat} {ve vs vs2 pv : Value} {st : StD} {pre : List SegD} {last : SegD} {D : DiskD} {t v : Int} {l : List EntD} {M : LogD} {rs : List RecD} {e : Ending} {p : Int × (LogD × DiskD)} (h : SaveMid w S lp pb mb ve vs vs2 st pre last D t v l pv wc) (h0 : WalAt w S lp pb mb ve vs st (pre ++ [last]) D) (hF : Fr (fun _ => False) wc W)
  (hM : grownL ⟨st, pre, last⟩ = M) (hp : layL ⟨st, M.pre, M.last⟩ D rs = p) (hl : LayPost st M.pre M.last D rs (SaveS S vs vs2) lp pb mb ve vs2 W e w') : e = .returned (.int .i64 p.1) ∧ SaveLaid w S lp pb mb ve vs vs2 st pre last M p t v w' := by
 obtain ⟨h1, h2, h3⟩ := hl
 rw [hp] at h1 h2
 have hz1 := h.fr.size
 have hz2 := hF.size
 have hz3 := h3.size
 refine ⟨h1, h0.up h2 (fun k hk => ?_) (by omega), ?_, ?_, ?_⟩
 ·rcases hk with hk | ⟨hk1, hk2⟩
  ·rcases h.sub hk with hk | ⟨hk1, hk2⟩
   ·exact .inl hk
   ·exact .inr ⟨hk1, by omega⟩
  ·exact .inr ⟨by omega, hk2⟩
 ·refine ((h.fr.mono (o2 := WAll S pb mb) fun _ _ h => .inl h).next (hF.mono fun _ _ h => h.elim)).trans h3 fun i hi => ?_
  rcases hi with hi | hi
  ·rcases h.sub hi with hk | ⟨hk1, hk2⟩
   ·exact .inl (.inl hk)
   ·exact .inr hk1
  ·exact .inl (.inr hi)
 ·exact h3.keep (hF.keep h.box (fun h => h)) (h.boxfar h0)
 ·rcases h.same with ⟨h4, h5⟩ | h4
  ·exact .inl ⟨h5, by rw [← hM, h4]⟩
  ·refine .inr (ownsRow_keep (ownsRow_keep h.old fun k hk => hF.block k (h.old.lt k hk).2 (fun h => h)) fun k hk => h3.block k ?_ (h.oldfar h0 h4 hk))
   have := (h.old.lt k hk).2
   omega
theorem grown_facts {st : StD} {pre : List SegD} {last : SegD} {M : LogD} (hM : grownL ⟨st, pre, last⟩ = M) (hn0 : 0 < last.num) (hn1 : last.num + 1 < 1000000) (hz : last.size ≤ 1000000000) (hp : pre.length ≤ 900) : M.st = st ∧ 0 < M.last.num ∧ M.last.num < 1000000 ∧ M.last.size ≤ 1000000000 ∧ M.pre.length ≤ 1000 := by
 subst hM
 unfold grownL
 split
 ·refine ⟨rfl, by show 0 < last.num + 1; omega, hn1, by show (0 : Nat) ≤ _; omega, by show (pre ++ [last]).length ≤ _; simp; omega⟩
 ·exact ⟨rfl, hn0, by show last.num < _; omega, hz, by show pre.length ≤ _; omega⟩
theorem grown_top {st : StD} {pre : List SegD} {last : SegD} {M : LogD} (hM : grownL ⟨st, pre, last⟩ = M) (h : I64 last.top) : I64 M.last.top := by
 subst hM
 unfold grownL
 split
 ·show I64 (0 : Int); exact i64_small (by decide) (by decide)
 ·exact h
theorem lay_parts (M : LogD) (D : DiskD) (rs : List RecD) : (layL M D rs).2.1.st = M.st ∧ (layL M D rs).2.1.pre = M.pre ∧ (layL M D rs).2.1.last.num = M.last.num ∧ (layL M D rs).2.1.last.top = M.last.top := by
 unfold layL; split <;> exact ⟨rfl, rfl, rfl, rfl⟩
theorem save_fold {st : StD} {pre : List SegD} {last lm : SegD} {t v : Int} {l : List EntD} {M : LogD} (_hM : grownL ⟨st, pre, last⟩ = M) : foldR ⟨st, M.pre, lm⟩ (saveRs ⟨st, pre, last⟩ t v l) = ⟨foldS { st with t := t, v := v } (l.map .ent), M.pre, { lm with top := (l.map RecD.ent).foldl topR lm.top }⟩ := by
 rw [foldR_is]
 unfold saveRs layRs
 split
 ·rfl
 ·rename_i h
  have h1 : t = st.t ∧ v = st.v := by
   simp only [not_or] at h
   have := h.1
   simpa using this
  rw [h1.1, h1.2]
/-- the entries put, one by one -/
structure SPRel (w : World) (S : Nat → Prop) (lp pb mb : Nat) (vs2 : Value) (st : StD) (mpre : List SegD) (lm : SegD) (D : DiskD) (l : List EntD) (i : Nat) (ve' : Value) (wr : World) : Prop where
 wal : WalAt wr (Plus S w wr) lp pb mb ve' vs2 (foldS st ((l.take i).map .ent)) (mpre ++ [{ lm with top := ((l.take i).map RecD.ent).foldl topR lm.top }]) D
 fr : Fr (WAll S pb mb) w wr
 ok : OkS (foldS st ((l.take i).map .ent))
 len : (foldS st ((l.take i).map .ent)).ents.length ≤ 900000 + i
 top : I64 (((l.take i).map RecD.ent).foldl topR lm.top)
theorem SPRel.next {w wr W w' : World} {S : Nat → Prop} {lp pb mb : Nat} {vs2 ve' ve2 ve vs : Value} {st st0 : StD} {mpre segs0 : List SegD} {lm : SegD} {D D0 : DiskD} {l : List EntD} {i : Nat} {e : EntD} (h : SPRel w S lp pb mb vs2 st mpre lm D l i ve' wr) (h0 : WalAt w S lp pb mb ve vs st0 segs0 D0) (hF : Fr (fun _ => False) wr W) (he : l[i]? = some e) (hg : GoodE e)
  (hl : LogAt w' (Plus (Plus S w wr) W w') lp (.pointer (some ⟨pb, 0, none⟩)) ve2 vs2 { foldS st ((l.take i).map .ent) with ents := putE (foldS st ((l.take i).map .ent)).ents e } (mpre ++ [{ ({ lm with top := ((l.take i).map RecD.ent).foldl topR lm.top } : SegD) with top := max (((l.take i).map RecD.ent).foldl topR lm.top) e.index }])) (hf : Fr (Plus S w wr) W w') : SPRel w S lp pb mb vs2 st mpre lm D l (i + 1) ve2 w' := by
 have htk : l.take (i + 1) = l.take i ++ [e] := by
  obtain ⟨h1, h2⟩ := List.getElem?_eq_some_iff.1 he
  rw [List.take_succ_eq_append_getElem h1, h2]
 have e1 : foldS st ((l.take (i + 1)).map .ent) = { foldS st ((l.take i).map .ent) with ents := putE (foldS st ((l.take i).map .ent)).ents e } := by rw [htk, List.map_append, foldS_app]; rfl
 have e2 : ((l.take (i + 1)).map RecD.ent).foldl topR lm.top = max (((l.take i).map RecD.ent).foldl topR lm.top) e.index := by rw [htk, List.map_append, List.foldl_append]; rfl
 have hz1 := h.fr.size
 have hz2 := hF.size
 have hz3 := hf.size
 refine ⟨?_, ?_, ?_, ?_, ?_⟩
 ·rw [e1, e2]
  refine h0.up ((h.wal.quiet hF).logs hl hf) (fun k hk => ?_) (by omega)
  rcases hk with (hk | ⟨h1, h2⟩) | ⟨h1, h2⟩
  ·exact .inl hk
  ·exact .inr ⟨h1, by omega⟩
  ·exact .inr ⟨by omega, h2⟩
 ·refine (h.fr.next (hF.mono fun _ _ h => h.elim)).trans hf fun k hk => ?_
  rcases hk with hk | ⟨h1, h2⟩
  ·exact .inl (.inl hk)
  ·exact .inr h1
 ·rw [e1]; exact h.ok.step (r := .ent e) hg
 ·rw [e1]
  have := putE_len (foldS st ((l.take i).map .ent)).ents e
  have := h.len
  dsimp only; omega
 ·rw [e2]
  have h1 := h.top
  have h2 := hg.parts
  unfold I64 at *
  omega
end Go.Proofs.YtgmghopcppniaaaGreatDoor

/- wal's Save: walked. -/
namespace Go.Proofs.YtgmghopcppniaaaGreatDoor
open Go.RowKit Go.Lib

attribute [local go_sem] eq61 guard61
set_option linter.unusedSimpArgs false in
set_option maxRecDepth 100000 in
set_option maxHeartbeats 16000000 in
theorem wsave_h {w : World} {S Q : Nat → Prop} {lp pb mb : Nat} {ve vs : Value} {st : StD} {pre : List SegD} {last : SegD} {D : DiskD} (h : WalAt w S lp pb mb ve vs st (pre ++ [last]) D) (hn0 : 0 < last.num) (hn1 : last.num + 1 < 1000000) (hz : last.size ≤ 1000000000) (hp : pre.length ≤ 900) (hok : OkS st) (htop : I64 last.top) (hst : st.ents.length ≤ 900000)
  {t v : Int} (ht : I64 t) (hv : I64 v) {a : Option Addr} {cap : Nat} (l : List EntD) (hr : SRow w Q 4 (.slice a l.length cap) l.length (entsC l)) (hQ : ∀ k, Q k → k < w.heap.size ∧ ¬ WAll S pb mb k) (hl : l.length ≤ 50000)
  (hI : ∀ e ∈ l, I64 e.index ∧ I64 e.term ∧ I64 e.kind ∧ e.data.length ≤ 1000000) (hX : (recsL (.hard t v :: l.map .ent)).length ≤ 1000000) :
  Calls Tryz.prog 54 #[.pointer (some ⟨lp, 0, none⟩), .agg #[.int .i64 t, .int .i64 v], .slice a l.length cap] w (LPost (saveL ⟨st, pre, last⟩ D t v l) S lp pb mb w) := by
 obtain ⟨i0, hi, hi0, hi1, hi2⟩ := info_parts winfo9
 have HWA := Lib.hid h
 have HR := Lib.hid hr
 have HQ := Lib.hid hQ
 have HI := Lib.hid hI
 have HOK := Lib.hid hok
 have HTV := Lib.hid (And.intro ht hv)
 have HTOP := Lib.hid htop
 obtain ⟨w1, hw1⟩ : ∃ w1, w1 = w.alloc (.cells #[.int .i64 t, .int .i64 v] 61) := ⟨_, rfl⟩
 have HF1 : Hid (Fr (fun _ => False) w w1) := by show Fr _ _ _; rw [hw1]; exact (Fr.refl _ _).alloc _
 have hbk : w1.heap[w.heap.size]? = some (.cells #[.int .i64 t, .int .i64 v] 61 (0, 0)) := by rw [hw1]; exact block_new _ _
 have HBK := Lib.hid hbk
 have x0 := cell_of hbk (i := 0) (v := .int .i64 t) rfl
 have x1 := cell_of hbk (i := 1) (v := .int .i64 v) rfl
 obtain ⟨b, hb⟩ : ∃ b, (!l.all rightE) = b := ⟨_, rfl⟩
 have HCF := Lib.hid (containsf_h (HR.out.fr HF1.out (fun _ _ h => h)) (by omega) (fun k hk => Nat.lt_of_lt_of_le (HQ.out k hk).1 HF1.out.size) hb)
 have HB := Lib.hid hb
 clear h hr hQ hI hok ht hv htop hbk hb
 go_enter Tryz.func54, Tryz.ntmps54
 go_upto_region 1 with fail
 rw [← hw1]
 clear hw1
 go_cut [4, 6, 26] (fun s4 s6 s26 wx => s4 = .pointer (some ⟨w.heap.size, 0, none⟩) ∧ s6 = .int .i64 0 ∧ s26 = .bool (decide (t < 0) || (decide (v < 0) || b)) ∧ Hid (Fr (fun _ => False) w1 wx))
 case first =>
  cases hd1 : decide (t < 0) with
  | true =>
   go_wp2_with fail
   go_meet
   exact ⟨rfl, rfl, by rw [hd1]; rfl, Fr.refl _ _⟩
  | false =>
   cases hd2 : decide (v < 0) with
   | true =>
    go_wp2_with fail
    go_meet
    exact ⟨rfl, rfl, by rw [hd1, hd2]; rfl, Fr.refl _ _⟩
   | false =>
    go_wp2_with fail
    refine Calls.mono HCF.out ?_
    rintro e w2 ⟨rfl, hf2⟩
    have HF2 := Lib.hid hf2
    clear hf2
    go_wp2_with fail
    go_meet
    exact ⟨rfl, rfl, by rw [hd1, hd2]; cases b <;> rfl, HF2.out⟩
 case rest =>
 obtain ⟨rfl, rfl, rfl, HF2⟩ := hcut
 clear x0 x1 HCF
 have HFA := Lib.hid (HF1.out.next HF2.out)
 have HBA := Lib.hid (HF2.out.keep HBK.out (fun h => h))
 clear HBK HF1 HF2
 obtain ⟨c, hc⟩ : ∃ c, (decide (t < 0) || (decide (v < 0) || b)) = c := ⟨_, rfl⟩
 rw [hc]
 have HC := Lib.hid hc
 clear hc
 cases c with
 | true =>
  have HE : Hid (saveL ⟨st, pre, last⟩ D t v l = (1, (⟨st, pre, last⟩, D))) := by
   show saveL _ _ _ _ _ = _
   unfold saveL
   rw [if_pos]
   have h1 := HC.out
   rw [← HB.out] at h1
   unfold wrongA
   cases h2 : decide (t < 0) <;> cases h3 : decide (v < 0) <;> cases h4 : l.all rightE <;> simp [h2, h3, h4] at h1 ⊢
  go_wp2_with fail
  go_ret
  exact lpost HE.out (HWA.out.plus0 (HWA.out.quiet HFA.out) HFA.out.size) (HFA.out.mono fun _ _ h => h.elim)
 | false =>
 have hwr : wrongA t v l = l.any fun e => decide (65536 < (entTx e).length) := by
  have h1 := HC.out
  rw [← HB.out] at h1
  unfold wrongA
  rw [Bool.or_eq_false_iff, Bool.or_eq_false_iff] at h1
  rw [h1.1, h1.2.1, h1.2.2]; rfl
 have HWR := Lib.hid hwr
 have hall : l.all rightE = true ∧ 0 ≤ t ∧ 0 ≤ v := by
  have h1 := HC.out
  rw [← HB.out, Bool.or_eq_false_iff, Bool.or_eq_false_iff] at h1
  refine ⟨by simpa using h1.2.2, ?_, ?_⟩
  ·have := h1.1; simp at this; omega
  ·have := h1.2.1; simp at this; omega
 have HALL := Lib.hid hall
 have HR0 : Hid (STRel w t v l 0 (.slice none 0 0) wc) := ⟨by simpa [paysC] using World.ownsRow_nil wc _ _ _, fun _ h => by simp at h, HFA.out, HBA.out⟩
 have hws := HFA.out.size
 clear hwr hall HC HB
 go_wp2_with fail
 go_loopg [7, 29] (l.length) (fun j v7 v29 wr => ∃ i : Nat, i + j = l.length ∧ v29 = .int .i64 (i : Int) ∧ Hid (STRel w t v l i v7 wr))
 case atStart => exact ⟨0, by omega, rfl, by have := HR0.out.row; exact ⟨by simpa [paysC] using World.ownsRow_nil wc _ _ _, HR0.out.short, HFA.out, HBA.out⟩⟩
 case round =>
  obtain ⟨i, hi3, rfl, HK⟩ := hrel
  have HI3 := Lib.hid hi3
  clear hi3 HR0
  obtain ⟨sa, sc, rfl⟩ : ∃ a c, u7 = .slice a i c := ownsRow_shape HK.out.row
  by_cases hlt : i < l.length
  ·obtain ⟨e, he⟩ : ∃ e, l[i]? = some e := ⟨_, List.getElem?_eq_getElem hlt⟩
   have hlti : (i : Int) < (l.length : Int) := by omega
   obtain ⟨ge, off, rfl, hc⟩ := ent_at (HR.out.fr HK.out.fr (fun _ _ h => h)) (by omega)
   obtain ⟨z0, z1, z2, z3⟩ := hc i e he
   have hei := HI.out e (List.mem_of_getElem? he)
   have HET := Lib.hid (fun W : World => enttext_h (w := W) hei.1 hei.2.1 hei.2.2.1 hei.2.2.2)
   unfold entV at HET
   have htk : l.take (i + 1) = l.take i ++ [e] := by
    obtain ⟨h1, h2⟩ := List.getElem?_eq_some_iff.1 he
    rw [List.take_succ_eq_append_getElem h1, h2]
   have HTK := Lib.hid htk
   have HEE := Lib.hid he
   obtain ⟨T, hT⟩ : ∃ T, entTx e = T := ⟨_, rfl⟩
   rw [hT] at HET
   have HT := Lib.hid hT
   have i3 : IntKind.i64.wrap (i : Int) = (i : Int) := IntWalk.i64_in _ (by omega)
   have i4 : (i : Int) < (i : Int) + 1 := by omega
   clear hc he hei htk hT
   go_wp2_with fail
   refine Calls.mono (HET.out _) ?_
   rintro r w2 ⟨rfl, hf2⟩
   have HF2 : Hid (Fr (fun _ => False) wr w2) := ((Fr.refl _ _).alloc _).next hf2
   clear hf2
   have hown : w2.ownsRow w.heap.size 9 1 (.slice sa i sc) i (paysC ((l.take i).map .ent)) := ownsRow_keep HK.out.row fun k hk => HF2.out.block k (HK.out.row.lt k hk).2 (fun h => h)
   have HOWN := Lib.hid hown
   have hsz : w.heap.size ≤ w2.heap.size := Nat.le_trans HK.out.fr.size HF2.out.size
   clear hown
   go_wp2_with (at_builtin; refine wpList_append_shape rfl _ _ 48 rfl w.heap.size 9 i0 (.string ⟨#[]⟩) 1 16 Tryz.underlying48 hi hi0 hi1 hi2 rfl (by decide) _ _ _ rfl (HOWN.out.alloc _) ⟨w2.heap.size, 0, none⟩ 1 1 [.string (bs T)] rfl rfl ?c1 ?c2 ?c3 ?c4 ?c5 (by omega) ?_)
   case c1 =>
    intro j u hj
    match j, hj with
    | 0, hj => simp at hj; subst hj; simp [Addr.add] <;> exact cell_of (block_new w2 (.cells #[.string (bs T)] 9)) rfl
   case c2 => intro u hu; simp at hu; subst hu; rfl
   case c3 => unfold maxLen; omega
   case c4 => omega
   case c5 => simp; omega
   intro g cap3 w3 hown3 hg3 _
   have hf3 : Fr (fun _ => False) w w3 := ((HK.out.fr.next HF2.out).alloc (.cells #[.string (bs T)] 9)).grown hg3 fun k hk => .inr (HK.out.row.lt k hk).1
   have hpc : paysC ((l.take (i + 1)).map .ent) = paysC ((l.take i).map .ent) ++ [.string (bs T)] := by rw [HTK.out, ← HT.out]; simp [paysC, payL]
   replace hown3 : w3.ownsRow w.heap.size 9 1 (.slice (some ⟨g, 0, none⟩) (i + 1) cap3) (i + 1) (paysC ((l.take (i + 1)).map .ent)) := by rw [hpc, List.map_take]; exact hown3
   have c8 : w3.cell? ⟨g, i, none⟩ = some (.string (bs T)) := by
    have := hown3.cells (g := g) rfl i (.string (bs T)) (by rw [hpc, List.getElem?_append_right (by simp [paysC]; omega)]; simp [paysC]; rw [Nat.min_eq_left (by omega)]; simp)
    rwa [Addr.add_lit, Nat.zero_add] at this
   have hgc : i + 1 ≤ cap3 := by
    obtain ⟨_, _, hv, _, h1, _⟩ := ownsRow_form hown3 (by omega)
    injection hv with _ _ h3
    omega
   have hgci : (i : Int) + 1 ≤ (cap3 : Int) := by omega
   have hTs : (bs T).size = T.length := rfl
   have HBX : Hid (w3.heap[w.heap.size]? = some (.cells #[.int .i64 t, .int .i64 v] 61 (0, 0))) := block_grown (((HF2.out.alloc (.cells #[.string (bs T)] 9))).keep HK.out.box (fun h => h)) hg3 (by
    intro e
    have hb := HK.out.box
    exact own_ne HK.out.row hb (by decide) e.symm)
   have HOWN3 := Lib.hid hown3
   have HF3 := Lib.hid hf3
   clear hown3 hg3 hf3 hpc HET
   by_cases hlong : 65536 < T.length
   ·have hlongi : (65536 : Int) < (T.length : Int) := by omega
    have HE : Hid (saveL ⟨st, pre, last⟩ D t v l = (1, (⟨st, pre, last⟩, D))) := by
     show saveL _ _ _ _ _ = _
     unfold saveL
     rw [if_pos]
     rw [HWR.out, List.any_eq_true]
     exact ⟨e, List.mem_of_getElem? HEE.out, by rw [HT.out]; simpa using hlong⟩
    clear hlong
    go_wp2_with fail
    go_ret
    exact lpost HE.out (HWA.out.plus0 (HWA.out.quiet HF3.out) HF3.out.size) (HF3.out.mono fun _ _ h => h.elim)
   ·have hlongi : ¬ (65536 : Int) < (T.length : Int) := by omega
    have HR3 : Hid (STRel w t v l (i + 1) (.slice (some ⟨g, 0, none⟩) (i + 1) cap3) w3) := by
     refine ⟨HOWN3.out, ?_, HF3.out, HBX.out⟩
     intro x hx
     rw [HTK.out] at hx
     rcases List.mem_append.1 hx with hx | hx
     ·exact HK.out.short x hx
     ·rw [List.mem_singleton.1 hx, HT.out]; omega
    clear hlong
    go_wp2_with fail
    go_roundg (l.length - (i + 1))
    case measure => have := HI3.out; omega
    case rel => exact ⟨i + 1, by omega, by go_num, HR3⟩
  ·obtain rfl : i = l.length := by have := HI3.out; omega
   have hlti : ¬ (l.length : Int) < (l.length : Int) := by omega
   have HK2 := Lib.hid HK.out
   have hrowp := HK.out.row
   rw [List.take_length] at hrowp
   have HPR := Lib.hid hrowp
   have HSH : Hid (∀ e ∈ l, (entTx e).length ≤ 65536) := fun e he => HK.out.short e (by rw [List.take_length]; exact he)
   have HWN : Hid (wrongA t v l = false) := by
    show _ = false
    rw [HWR.out]
    refine List.any_eq_false.2 fun e he => ?_
    have := HSH.out e he
    simp; omega
   have hw0 := HWA.out.quiet HK.out.fr
   have HW0 := Lib.hid hw0
   have k1 := cell_of hw0.log.head (i := 1) (v := .int .i64 st.t) rfl
   have k2 := cell_of hw0.log.head (i := 2) (v := .int .i64 st.v) rfl
   have HF0 := Lib.hid HK.out.fr
   clear hrowp hw0 HK2
   go_upto_region 11 with fail
   go_cut [57] (fun s57 wx => s57 = .bool (idleA ⟨st, pre, last⟩ t v l) ∧ Hid (Fr (fun _ => False) wr wx))
   case first =>
    have hb5 : wr.heap[w.heap.size]? = some (.cells #[.int .i64 t, .int .i64 v] 61 (0, 0)) := HK.out.box
    have x0 := cell_of hb5 (i := 0) (v := .int .i64 t) rfl
    have x1 := cell_of hb5 (i := 1) (v := .int .i64 v) rfl
    clear hb5
    by_cases hl0 : l = []
    ·have q0 : ((l.length : Int) == 0) = true := by rw [hl0]; rfl
     have HID : Hid (idleA ⟨st, pre, last⟩ t v l = (decide (t = st.t) && decide (v = st.v))) := by show idleA _ _ _ _ = _; unfold idleA; rw [hl0]; rfl
     clear hl0
     by_cases h1 : t = st.t
     ·subst h1
      by_cases h2 : v = st.v
      ·subst h2
       go_big_quiet (fail)
       go_wp2_with fail
       go_meet
       exact ⟨by rw [HID.out]; simp, (Fr.refl _ _).drewN _⟩
      ·go_big_quiet (fail)
       go_wp2_with fail
       go_meet
       exact ⟨by rw [HID.out, decide_eq_false h2]; simp, (Fr.refl _ _).drewN _⟩
     ·go_big_quiet (fail)
      go_wp2_with fail
      go_meet
      exact ⟨by rw [HID.out, decide_eq_false h1]; simp, (Fr.refl _ _).drewN _⟩
    ·have q0 : ((l.length : Int) == 0) = false := by
      have := List.length_pos_iff.2 hl0
      simp; exact hl0
     have HID : Hid (idleA ⟨st, pre, last⟩ t v l = false) := by show idleA _ _ _ _ = _; unfold idleA; rw [List.isEmpty_eq_false_iff.2 hl0]; rfl
     clear hl0
     go_big_quiet (fail)
     go_wp2_with fail
     go_meet
     exact ⟨by rw [HID.out], (Fr.refl _ _).drewN _⟩
   case rest =>
   obtain ⟨rfl, HF1⟩ := hcut
   cases hid : idleA ⟨st, pre, last⟩ t v l with
   | true =>
    have HE : Hid (saveL ⟨st, pre, last⟩ D t v l = (0, (⟨st, pre, last⟩, D))) := by
     show saveL _ _ _ _ _ = _
     unfold saveL
     rw [if_neg (by rw [HWN.out]; simp), if_pos hid]
    have HFF := Lib.hid (HF0.out.next HF1.out)
    clear hid k1 k2
    go_wp2_with fail
    go_ret
    exact lpost HE.out (HWA.out.plus0 (HWA.out.quiet HFF.out) HFF.out.size) (HFF.out.mono fun _ _ h => h.elim)
   | false =>
    have HID := Lib.hid hid
    clear hid k1 k2
    have HFW := Lib.hid (HF0.out.next HF1.out)
    have HBX := Lib.hid (HF1.out.keep HK.out.box (fun h => h))
    have HPX : Hid (wc.ownsRow w.heap.size 9 1 (.slice sa l.length sc) l.length (paysC (l.map .ent))) := ownsRow_keep HPR.out fun k hk => HF1.out.block k (HPR.out.lt k hk).2 (fun h => h)
    have HWC := Lib.hid (HWA.out.quiet HFW.out)
    clear HF0 HF1 HPR HW0
    obtain ⟨wb, rfl⟩ : ∃ x, x = wc := ⟨_, rfl⟩
    have hlog := HWC.out.log
    have hnl : (pre ++ [last]).length = pre.length + 1 := by simp
    obtain ⟨gs, scap, rfl, hsc, hscm, hgl, hgS⟩ := hlog.segrow (by rw [hnl]; omega)
    rw [hnl] at hsc
    have hscI : (pre.length : Int) + 1 ≤ scap := by omega
    have i5 : (0 : Int) ≤ (pre.length : Int) := by omega
    have i6 : (pre.length : Int) < (pre.length : Int) + 1 := by omega
    have i7 : IntKind.i64.wrap (pre.length : Int) = (pre.length : Int) := IntWalk.i64_in _ (by omega)
    have l4 := cell_of hlog.head (i := 4) (v := .slice (some ⟨gs, 0, none⟩) (pre.length + 1) scap) (by rw [hnl]; rfl)
    obtain ⟨y0, y1, y2⟩ := hlog.segcell (i := pre.length) (s := last) (by simp)
    have HVX : Hid (Value.slice (some ⟨gs, 0, none⟩) (pre ++ [last]).length scap = Value.slice (some ⟨gs, 0, none⟩) (pre.length + 1) scap) := by show _ = _; rw [hnl]
    clear hlog hnl
    obtain ⟨w4, hw4⟩ : ∃ w4, w4 = wb.alloc (.cells #[.int .i64 (last.num : Int), .int .i64 (last.size : Int), .int .i64 last.top] 143) := ⟨_, rfl⟩
    have HF4 : Hid (Fr (fun _ => False) wb w4) := by show Fr _ _ _; rw [hw4]; exact (Fr.refl _ _).alloc _
    have hb4 : w4.heap[wb.heap.size]? = some (.cells #[.int .i64 (last.num : Int), .int .i64 (last.size : Int), .int .i64 last.top] 143 (0, 0)) := by rw [hw4]; exact block_new _ _
    go_upto_region 15 with fail
    rw [← hw4]
    clear hw4 l4 y0 y1 y2
    have b0 := cell_of hb4 (i := 0) (v := .int .i64 (last.num : Int)) rfl
    have b1 := cell_of hb4 (i := 1) (v := .int .i64 (last.size : Int)) rfl
    clear hb4
    go_cut [75] (fun s75 wx => s75 = .bool (decide (2000 ≤ last.size) && decide (pre.length + 1 < 20)) ∧ wx = w4)
    case first =>
     by_cases h1 : 2000 ≤ last.size
     ·have d1 : (2000 : Int) ≤ (last.size : Int) := by omega
      have H1 := Lib.hid h1
      by_cases h2 : pre.length + 1 < 20
      ·have d2 : (pre.length : Int) + 1 < 20 := by omega
       have H2 := Lib.hid h2
       clear h1 h2
       go_wp2_with fail
       go_meet
       exact ⟨by rw [decide_eq_true H1.out, decide_eq_true H2.out]; rfl, rfl⟩
      ·have d2 : ¬ (pre.length : Int) + 1 < 20 := by omega
       have H2 := Lib.hid h2
       clear h1 h2
       go_wp2_with fail
       go_meet
       exact ⟨by rw [decide_eq_true H1.out, decide_eq_false H2.out]; rfl, rfl⟩
     ·have d1 : ¬ (2000 : Int) ≤ (last.size : Int) := by omega
      have H1 := Lib.hid h1
      clear h1
      go_wp2_with fail
      go_meet
      exact ⟨by rw [decide_eq_false H1.out]; rfl, rfl⟩
    case rest =>
    obtain ⟨rfl, rfl⟩ := hcut
    go_upto_if 75 with fail
    go_cut [] (fun wx => ∃ vs2 : Value, Hid (SaveMid w S lp pb mb ve (.slice (some ⟨gs, 0, none⟩) (pre.length + 1) scap) vs2 st pre last D t v l (.slice sa l.length sc) wx))
    case first =>
     cases hg : (decide (2000 ≤ last.size) && decide (pre.length + 1 < 20)) with
     | false =>
      have hgr : grownL ⟨st, pre, last⟩ = ⟨st, pre, last⟩ := by
       unfold grownL
       rw [if_neg]
       rintro ⟨h1, h2⟩
       simp [h1, h2] at hg
      have HGR := Lib.hid hgr
      clear hg hgr
      go_wp2_with fail
      go_meet
      refine ⟨.slice (some ⟨gs, 0, none⟩) (pre.length + 1) scap, ?_, ?_, ?_, ?_, ?_, .inl ⟨HGR.out, rfl⟩⟩
      ·rw [HGR.out, ← HVX.out]
       have := HWC.out.quiet HF4.out
       exact this.mono (fun k hk => .inl hk) (fun k hk => by rcases hk with hk | ⟨_, hk⟩; exact this.log.lt k hk; exact hk) (fun k hk => by rcases hk with hk | ⟨hk, _⟩; exact this.far k hk; have := HWA.out.own_lt; rintro (e | e) <;> omega) (fun k hk => by rcases hk with hk | ⟨hk, _⟩; exact this.low k hk; have := HWA.out.dlow; have := HWA.out.own_lt; omega)
      ·exact (HFW.out.next HF4.out).mono fun _ _ h => h.elim
      ·exact HF4.out.keep HBX.out (fun h => h)
      ·exact ownsRow_keep HPX.out fun k hk => HF4.out.block k (HPX.out.lt k hk).2 (fun h => h)
      ·rw [← HVX.out]
       exact (HWC.out.quiet HF4.out).log.segr
     | true =>
      have hgr : grownL ⟨st, pre, last⟩ = ⟨st, pre ++ [last], ⟨last.num + 1, 0, 0⟩⟩ := by
       unfold grownL
       rw [if_pos]
       simpa using hg
      have HGR := Lib.hid hgr
      clear hg hgr
      go_upto_region 16 with fail
      refine wp_region_noPanic ?_
      refine region_Z (S := fun w' => w'.cell? ⟨wb.heap.size, 0, none⟩ = some (.int .i64 (last.num : Int))) (z := 11) (by kernel_rfl) ?_
      have hHeld : (fun w' : World => w'.cell? ⟨wb.heap.size, 0, none⟩ = some (.int .i64 (last.num : Int))) wc.drew := b0
      have hwn : IntKind.i64.wrap ((last.num : Int) + 1) = (last.num : Int) + 1 := IntWalk.i64_in _ (by omega)
      obtain ⟨i3, hj, hj0, hj1, hj2⟩ := info_parts info143
      have HNL : Hid ((pre ++ [last]).length = pre.length + 1) := by show _ = _; simp
      have HWQ := Lib.hid (HWC.out.quiet HF4.out)
      have HFQ := Lib.hid (HFW.out.next HF4.out)
      have HBQ := Lib.hid (HF4.out.keep HBX.out (fun h => h))
      have HPQ : Hid (wc.ownsRow w.heap.size 9 1 (.slice sa l.length sc) l.length (paysC (l.map .ent))) := ownsRow_keep HPX.out fun k hk => HF4.out.block k (HPX.out.lt k hk).2 (fun h => h)
      have HCS := Lib.hid (fun (W : World) (hF : Fr (fun _ => False) wc W) => cloneS_h ((SRow.of_owns HWQ.out.log.segr).fr hF (fun _ _ h => h)) (by simp; omega))
      rw [HVX.out] at HCS
      refine anyZ_take (i := 0) (v := ?v0) rfl (by kernel_rfl) (by kernel_rfl) (by kernel_rfl) (by kernel_rfl) (fun _ _ _ h => h) (Or.inl ⟨by rfl, ?hy0⟩) hHeld ?rest0
      case hy0 => intro w' hSw; (try dsimp only at hSw); go_simp; (try with_reducible rfl)
      (try simp only [Act.put, List.setIfInBounds_toArray, List.set_cons_zero, List.set_cons_succ])
      refine anyZ_take (i := 1) (v := ?v1) rfl (by kernel_rfl) (by kernel_rfl) (by kernel_rfl) (by kernel_rfl) (fun _ _ _ h => h) (Or.inl ⟨by rfl, ?hy1⟩) hHeld ?rest1
      case hy1 => intro w' hSw; (try dsimp only at hSw); go_simp; (try with_reducible rfl)
      (try simp only [Act.put, List.setIfInBounds_toArray, List.set_cons_zero, List.set_cons_succ])
      refine anyZ_take (i := 3) (v := ?v3) rfl (by kernel_rfl) (by kernel_rfl) (by kernel_rfl) (by kernel_rfl) (fun _ _ _ h => h) (Or.inl ⟨by rfl, ?hy3⟩) hHeld ?rest3
      case hy3 => intro w' hSw; (try dsimp only at hSw); go_simp; (try with_reducible rfl)
      (try simp only [Act.put, List.setIfInBounds_toArray, List.set_cons_zero, List.set_cons_succ])
      refine anyZ_take (i := 4) (v := ?v4) rfl (by kernel_rfl) (by kernel_rfl) (by kernel_rfl) (by kernel_rfl) (fun _ _ _ h => h) (Or.inl ⟨by rfl, ?hy4⟩) hHeld ?rest4
      case hy4 => intro w' hSw; (try dsimp only at hSw); go_simp; (try with_reducible rfl)
      (try simp only [Act.put, List.setIfInBounds_toArray, List.set_cons_zero, List.set_cons_succ])
      refine anyZ_take (i := 5) (v := ?v5) rfl (by kernel_rfl) (by kernel_rfl) (by kernel_rfl) (by kernel_rfl) (fun _ _ _ h => h) (Or.inl ⟨by rfl, ?hy5⟩) hHeld ?rest5
      case hy5 => intro w' hSw; (try dsimp only at hSw); go_simp; (try with_reducible rfl)
      (try simp only [Act.put, List.setIfInBounds_toArray, List.set_cons_zero, List.set_cons_succ])
      refine anyZ_take (i := 6) (v := ?v6) rfl (by kernel_rfl) (by kernel_rfl) (by kernel_rfl) (by kernel_rfl) (fun _ _ _ h => h) (Or.inl ⟨by rfl, ?hy6⟩) hHeld ?rest6
      case hy6 => intro w' hSw; (try dsimp only at hSw); go_simp; (try with_reducible rfl)
      (try simp only [Act.put, List.setIfInBounds_toArray, List.set_cons_zero, List.set_cons_succ])
      refine anyZ_two (i := 2) (j := 7) rfl rfl (by kernel_rfl) (fun K1 hK1 => ?_) (fun K1 hK1 => ?_)
      ·have HK2 := Lib.hid hK1
       clear hK1
       go_simp
       refine Calls.mono (HCS.out _ (Fr.refl _ _).drew) ?_
       rintro e w7 ⟨v7, rfl, hrow7, hf7⟩
       rw [HNL.out] at hrow7
       obtain ⟨a7, c7, rfl⟩ : ∃ a c, v7 = .slice a (pre.length + 1) c := ownsRow_shape hrow7
       have HF7 : Hid (Fr (fun _ => False) wc w7) := (Fr.refl _ _).drew.next hf7
       have b7c := HF7.out.cell b0 (fun h => h)
       have HR7 := Lib.hid hrow7
       clear hf7 hrow7
       refine HK2.out.out _ _ (fun _ => b7c) ?_
       clear HK2
       (try simp only [Act.put, List.setIfInBounds_toArray, List.set_cons_zero, List.set_cons_succ])
       refine anyZ_one (i := 7) rfl (by kernel_rfl) (fun K1 hK1 => ?_)
       have HK7 := Lib.hid hK1
       clear hK1
       go_simp
       have b7d := (Fr.alloc (Fr.refl (fun _ => False) w7) (.cells #[.int .i64 ((last.num : Int) + 1), .int .i64 0, .int .i64 0] 143)).cell b7c (fun h => h)
       refine HK7.out.out _ _ (fun _ => by first | exact b7d | exact b7c | (simp <;> done)) ?_
       clear HK7
       (try simp only [Act.put, List.setIfInBounds_toArray, List.set_cons_zero, List.set_cons_succ])
       have HFX : Hid (Fr (fun _ => False) wc (w7.alloc (.cells #[.int .i64 ((last.num : Int) + 1), .int .i64 0, .int .i64 0] 143))) := HF7.out.alloc _
       have HROW : Hid ((w7.alloc (.cells #[.int .i64 ((last.num : Int) + 1), .int .i64 0, .int .i64 0] 143)).ownsRow wc.heap.size 143 3 (.slice a7 (pre.length + 1) c7) (pre.length + 1) (segsC (pre ++ [last]))) := World.ownsRow.alloc (ownsRow_base HR7.out (by simp)) _
       have HNEW : Hid (SRow (w7.alloc (.cells #[.int .i64 ((last.num : Int) + 1), .int .i64 0, .int .i64 0] 143)) (fun _ => True) 3 (.slice (some ⟨w7.heap.size, 0, none⟩) 1 1) 1 (segC ⟨last.num + 1, 0, 0⟩)) := SRow.of_block (e := 143) (f := (0, 0)) (by rw [block_new]; simp [segC]) rfl (by simp [maxLen]) trivial
       have HSZ : Hid (wc.heap.size ≤ (w7.alloc (.cells #[.int .i64 ((last.num : Int) + 1), .int .i64 0, .int .i64 0] 143)).heap.size) := HFX.out.size
       refine anyZ_one (i := 8) rfl (by kernel_rfl) (fun K1 hK1 => ?_)
       have HK8 := Lib.hid hK1
       clear hK1
       refine step_append_row rfl (.tmp 78) (.tmp 83) 138 rfl wc.heap.size 143 i3 (.agg #[.int .i64 0, .int .i64 0, .int .i64 0]) 3 24 Tryz.underlying138 hj hj0 hj1 hj2 rfl (by decide) (.slice a7 (pre.length + 1) c7) (pre.length + 1) (segsC (pre ++ [last])) rfl HROW.out (fun _ => True) _ 1 (segC ⟨last.num + 1, 0, 0⟩) rfl HNEW.out segC_one (by unfold maxLen; omega) (by omega) HSZ.out ?_
       intro b8 c8 w8 hown8 hgrow8 _
       have HF8 : Hid (Fr (fun _ => False) wc w8) := HFX.out.grown hgrow8 fun k hk => .inr (HROW.out.lt k hk).1
       have HOWN8 := Lib.hid hown8
       have b8c := HF8.out.cell b0 (fun h => h)
       have hh8 := HF8.out.keep HWQ.out.log.head (fun h => h)
       have m4 := cell_of hh8 (i := 4) (v := .slice (some ⟨gs, 0, none⟩) (pre.length + 1) scap) (by rw [HNL.out]; rfl)
       have mf := free_of 4 hh8
       have hll := lt_of_block hh8
       clear hown8 hgrow8 hh8
       refine HK8.out.out _ _ (fun _ => b8c) ?_
       clear HK8
       (try simp only [Act.put, List.setIfInBounds_toArray, List.set_cons_zero, List.set_cons_succ])
       refine anyZ_one (i := 9) rfl (by kernel_rfl) (fun K1 hK1 => ?_)
       have HK9 := Lib.hid hK1
       clear hK1
       go_simp
       refine HK9.out.out _ _ (fun _ => b8c) ?_
       clear HK9
       (try simp only [Act.put, List.setIfInBounds_toArray, List.set_cons_zero, List.set_cons_succ])
       refine anyZ_one (i := 10) rfl (by kernel_rfl) (fun K1 hK1 => ?_)
       have HK10 := Lib.hid hK1
       clear hK1
       go_simp
       refine HK10.out.out _ _ (fun _ => b8c) ?_
       clear HK10
       (try simp only [Act.put, List.setIfInBounds_toArray, List.set_cons_zero, List.set_cons_succ])
       refine anyZ_one (i := 11) rfl (by kernel_rfl) (fun K1 hK1 => ?_)
       have HK11 := Lib.hid hK1
       clear hK1
       go_simp
       refine HK11.out.out _ _ (fun h => absurd rfl h) ?_
       clear HK11
       refine anyZ_done (by kernel_rfl) ?_ _
       refine NoPanic.normal ?_
       go_wp2_with fail
       go_meet
       refine ⟨.slice b8 (pre.length + 1 + 1) c8, ?_⟩
       rw [← HVX.out]
       exact SaveMid.grown HWA.out HWQ.out HFQ.out HBQ.out HPQ.out HF8.out HOWN8.out HGR.out
      ·have HK7 := Lib.hid hK1
       clear hK1
       go_simp
       refine HK7.out.out _ _ (fun _ => by first | exact hHeld | exact ((Fr.refl (fun _ => False) wc).alloc _).drew.cell b0 (fun h => h)) ?_
       clear HK7
       (try simp only [Act.put, List.setIfInBounds_toArray, List.set_cons_zero, List.set_cons_succ])
       refine anyZ_one (i := 2) rfl (by kernel_rfl) (fun K1 hK1 => ?_)
       have HK2 := Lib.hid hK1
       clear hK1
       go_simp
       refine Calls.mono (HCS.out _ ((Fr.refl _ _).alloc _).drew) ?_
       rintro e w7 ⟨v7, rfl, hrow7, hf7⟩
       rw [HNL.out] at hrow7
       obtain ⟨a7, c7, rfl⟩ : ∃ a c, v7 = .slice a (pre.length + 1) c := ownsRow_shape hrow7
       have HFX : Hid (Fr (fun _ => False) wc w7) := ((Fr.refl _ _).alloc _).drew.next hf7
       have b7c := HFX.out.cell b0 (fun h => h)
       have HROW : Hid (w7.ownsRow wc.heap.size 143 3 (.slice a7 (pre.length + 1) c7) (pre.length + 1) (segsC (pre ++ [last]))) := ownsRow_base hrow7 (by simp)
       have HNEW : Hid (SRow w7 (fun _ => True) 3 (.slice (some ⟨wc.heap.size, 0, none⟩) 1 1) 1 (segC ⟨last.num + 1, 0, 0⟩)) := SRow.of_block (e := 143) (f := (0, 0)) (by rw [hf7.keep (block_new_drew rfl) (fun h => h)]; simp [segC]) rfl (by simp [maxLen]) trivial
       have HSZ : Hid (wc.heap.size ≤ w7.heap.size) := HFX.out.size
       clear hf7 hrow7
       refine HK2.out.out _ _ (fun _ => b7c) ?_
       clear HK2
       (try simp only [Act.put, List.setIfInBounds_toArray, List.set_cons_zero, List.set_cons_succ])
       refine anyZ_one (i := 8) rfl (by kernel_rfl) (fun K1 hK1 => ?_)
       have HK8 := Lib.hid hK1
       clear hK1
       refine step_append_row rfl (.tmp 78) (.tmp 83) 138 rfl wc.heap.size 143 i3 (.agg #[.int .i64 0, .int .i64 0, .int .i64 0]) 3 24 Tryz.underlying138 hj hj0 hj1 hj2 rfl (by decide) (.slice a7 (pre.length + 1) c7) (pre.length + 1) (segsC (pre ++ [last])) rfl HROW.out (fun _ => True) _ 1 (segC ⟨last.num + 1, 0, 0⟩) rfl HNEW.out segC_one (by unfold maxLen; omega) (by omega) HSZ.out ?_
       intro b8 c8 w8 hown8 hgrow8 _
       have HF8 : Hid (Fr (fun _ => False) wc w8) := HFX.out.grown hgrow8 fun k hk => .inr (HROW.out.lt k hk).1
       have HOWN8 := Lib.hid hown8
       have b8c := HF8.out.cell b0 (fun h => h)
       have hh8 := HF8.out.keep HWQ.out.log.head (fun h => h)
       have m4 := cell_of hh8 (i := 4) (v := .slice (some ⟨gs, 0, none⟩) (pre.length + 1) scap) (by rw [HNL.out]; rfl)
       have mf := free_of 4 hh8
       have hll := lt_of_block hh8
       clear hown8 hgrow8 hh8
       refine HK8.out.out _ _ (fun _ => b8c) ?_
       clear HK8
       (try simp only [Act.put, List.setIfInBounds_toArray, List.set_cons_zero, List.set_cons_succ])
       refine anyZ_one (i := 9) rfl (by kernel_rfl) (fun K1 hK1 => ?_)
       have HK9 := Lib.hid hK1
       clear hK1
       go_simp
       refine HK9.out.out _ _ (fun _ => b8c) ?_
       clear HK9
       (try simp only [Act.put, List.setIfInBounds_toArray, List.set_cons_zero, List.set_cons_succ])
       refine anyZ_one (i := 10) rfl (by kernel_rfl) (fun K1 hK1 => ?_)
       have HK10 := Lib.hid hK1
       clear hK1
       go_simp
       refine HK10.out.out _ _ (fun _ => b8c) ?_
       clear HK10
       (try simp only [Act.put, List.setIfInBounds_toArray, List.set_cons_zero, List.set_cons_succ])
       refine anyZ_one (i := 11) rfl (by kernel_rfl) (fun K1 hK1 => ?_)
       have HK11 := Lib.hid hK1
       clear hK1
       go_simp
       refine HK11.out.out _ _ (fun h => absurd rfl h) ?_
       clear HK11
       refine anyZ_done (by kernel_rfl) ?_ _
       refine NoPanic.normal ?_
       go_wp2_with fail
       go_meet
       refine ⟨.slice b8 (pre.length + 1 + 1) c8, ?_⟩
       rw [← HVX.out]
       exact SaveMid.grown HWA.out HWQ.out HFQ.out HBQ.out HPQ.out HF8.out HOWN8.out HGR.out
    case rest =>
    obtain ⟨vs2, HM⟩ := hcut
    obtain ⟨a2, m2, c2, rfl⟩ : ∃ a n c, vs2 = .slice a n c := by
     obtain ⟨a, c, h⟩ := ownsRow_shape HM.out.wal.log.segr
     exact ⟨a, _, c, h⟩
    have hwa := HWA.out
    rw [HVX.out] at hwa
    have HA := Lib.hid hwa
    obtain ⟨M, hM⟩ : ∃ M, grownL ⟨st, pre, last⟩ = M := ⟨_, rfl⟩
    obtain ⟨hMst, hMn0, hMn1, hMz, hMp⟩ := grown_facts hM hn0 hn1 hz hp
    obtain ⟨rs, hrs⟩ : ∃ rs, saveRs ⟨st, pre, last⟩ t v l = rs := ⟨_, rfl⟩
    have hMe : (⟨st, M.pre, M.last⟩ : LogD) = M := by rw [← hMst]
    obtain ⟨p, hpp⟩ : ∃ p, layL M D rs = p := ⟨_, rfl⟩
    have hps : ∀ r ∈ rs, (payL r).length ≤ 65536 := by
     intro r hr
     rw [← hrs] at hr
     unfold saveRs layRs at hr
     have h1 : r = .hard t v ∨ r ∈ l.map RecD.ent := by
      split at hr
      ·exact List.mem_cons.1 hr
      ·exact .inr hr
     rcases h1 with rfl | h1
     ·exact Nat.le_trans (hard_len HTV.out.1 HTV.out.2) (by decide)
     ·obtain ⟨e, he, rfl⟩ := List.mem_map.1 h1
      exact HSH.out e he
    have hXX : (recsL rs).length ≤ 1000000 := by
     refine Nat.le_trans ?_ hX
     rw [← hrs]
     unfold saveRs layRs
     split
     ·exact Nat.le_refl _
     ·unfold recsL; rw [List.flatMap_cons, List.length_append]; omega
    have HL : Hid (∀ (W : World) (_ : Fr (fun _ => False) wc W) (tell : Bool) (_ : tell = (!(decide (t = st.t) && decide (v = st.v)))), Calls Tryz.prog 84 #[.pointer (some ⟨lp, 0, none⟩), .agg #[.int .i64 t, .int .i64 v], .bool tell, .slice sa l.length sc] W fun e w' => e = .returned (.int .i64 p.1) ∧ SaveLaid w S lp pb mb ve (.slice (some ⟨gs, 0, none⟩) (pre.length + 1) scap) (.slice a2 m2 c2) st pre last M p t v w') := by
     intro W hF tell htl
     have hnar := (HM.out.narrow HA.out).quiet hF
     rw [hM] at hnar
     have hrow : SRow W (fun k => k < W.heap.size ∧ ¬ Own pb mb k) 1 (.slice sa (l.map RecD.ent).length sc) (l.map RecD.ent).length (paysC (l.map .ent)) := by
      rw [List.length_map]
      exact ((SRow.of_owns HM.out.row).fr hF (fun _ _ h => h)).mono fun k hk => ⟨Nat.lt_of_lt_of_le (HM.out.row.lt k hk).2 hF.size, by have := (HM.out.row.lt k hk).1; have := HA.out.own_lt; rintro (e | e) <;> omega⟩
     have hlay := lay_h hnar hMn0 hMn1 hMz hMp HTV.out.1 HTV.out.2 tell (l.map .ent) hrow (fun k hk => hk) (by rw [List.length_map]; omega) (rs := rs) (by rw [htl, hMe, ← hrs]; unfold saveRs; rw [hM]) hps hXX
     rw [List.length_map] at hlay
     exact hlay.mono fun e w' hpost => HM.out.laid HA.out hF hM (by rw [hMe]; exact hpp) hpost
    have HP := Lib.hid hpp
    have HMM := Lib.hid hM
    have HME := Lib.hid hMe
    have HRS := Lib.hid hrs
    have HMS := Lib.hid hMst
    have n1 := cell_of HM.out.wal.log.head (i := 1) (v := .int .i64 st.t) rfl
    have n2 := cell_of HM.out.wal.log.head (i := 2) (v := .int .i64 st.v) rfl
    have x0 := cell_of HM.out.box (i := 0) (v := .int .i64 t) rfl
    have x1 := cell_of HM.out.box (i := 1) (v := .int .i64 v) rfl
    clear hwa hM hrs hMe hps hXX hpp hMst
    go_upto_region 17 with fail
    go_cut [12] (fun s12 wx => s12 = .int .i64 p.1 ∧ Hid (SaveLaid w S lp pb mb ve (.slice (some ⟨gs, 0, none⟩) (pre.length + 1) scap) (.slice a2 m2 c2) st pre last M p t v wx))
    case first =>
     by_cases h1 : t = st.t
     ·subst h1
      by_cases h2 : v = st.v
      ·subst h2
       go_region_held3 (fun w' => w'.cell? ⟨w.heap.size, 0, none⟩ = some (.int .i64 st.t) ∧ w'.cell? ⟨w.heap.size, 1, none⟩ = some (.int .i64 st.v) ∧ w'.cell? ⟨lp, 1, none⟩ = some (.int .i64 st.t) ∧ w'.cell? ⟨lp, 2, none⟩ = some (.int .i64 st.v))
        (first | go_keep | (with_reducible exact ⟨s0_B, s1_B, s2_B, s3_B⟩) | fail)
        (first
         | (go_at_call 84; (with_reducible refine Calls.mono (HL.out _ (show Fr (fun _ => False) wc _ by repeat (first | exact Fr.refl _ _ | refine Fr.drew ?_ | refine Fr.alloc ?_ _)) _ (by simp)) ?_); clear HL; rintro r wB ⟨rfl, hB⟩; have HSB := Lib.hid hB; have s0_B := cell_of hB.box (i := 0) (v := .int .i64 st.t) rfl; have s1_B := cell_of hB.box (i := 1) (v := .int .i64 st.v) rfl; have s2_B := cell_of hB.wal.log.head (i := 1) (v := .int .i64 st.t) rfl; have s3_B := cell_of hB.wal.log.head (i := 2) (v := .int .i64 st.v) rfl; clear hB)
         | fail)
       all_goals
        go_wp2_with fail
        go_meet
        exact ⟨rfl, by first | exact HSB.out | exact HSB.out.drew⟩
      ·have HT2 : Hid (true = (!(decide (st.t = st.t) && decide (v = st.v)))) := by show _ = _; rw [decide_eq_false h2]; simp
       go_region_held3 (fun w' => w'.cell? ⟨w.heap.size, 0, none⟩ = some (.int .i64 st.t) ∧ w'.cell? ⟨w.heap.size, 1, none⟩ = some (.int .i64 v) ∧ w'.cell? ⟨lp, 1, none⟩ = some (.int .i64 st.t) ∧ w'.cell? ⟨lp, 2, none⟩ = some (.int .i64 st.v))
        (first | go_keep | (with_reducible exact ⟨s0_B, s1_B, s2_B, s3_B⟩) | fail)
        (first
         | (go_at_call 84; (with_reducible refine Calls.mono (HL.out _ (show Fr (fun _ => False) wc _ by repeat (first | exact Fr.refl _ _ | refine Fr.drew ?_ | refine Fr.alloc ?_ _)) _ (HT2.out)) ?_); clear HL; rintro r wB ⟨rfl, hB⟩; have HSB := Lib.hid hB; have s0_B := cell_of hB.box (i := 0) (v := .int .i64 st.t) rfl; have s1_B := cell_of hB.box (i := 1) (v := .int .i64 v) rfl; have s2_B := cell_of hB.wal.log.head (i := 1) (v := .int .i64 st.t) rfl; have s3_B := cell_of hB.wal.log.head (i := 2) (v := .int .i64 st.v) rfl; clear hB)
         | fail)
       all_goals
        go_wp2_with fail
        go_meet
        exact ⟨rfl, by first | exact HSB.out | exact HSB.out.drew⟩
     ·have HT2 : Hid (true = (!(decide (t = st.t) && decide (v = st.v)))) := by show _ = _; rw [decide_eq_false h1]; rfl
      go_region_held3 (fun w' => w'.cell? ⟨w.heap.size, 0, none⟩ = some (.int .i64 t) ∧ w'.cell? ⟨w.heap.size, 1, none⟩ = some (.int .i64 v) ∧ w'.cell? ⟨lp, 1, none⟩ = some (.int .i64 st.t) ∧ w'.cell? ⟨lp, 2, none⟩ = some (.int .i64 st.v))
       (first | go_keep | (with_reducible exact ⟨s0_B, s1_B, s2_B, s3_B⟩) | fail)
       (first
        | (go_at_call 84; (with_reducible refine Calls.mono (HL.out _ (show Fr (fun _ => False) wc _ by repeat (first | exact Fr.refl _ _ | refine Fr.drew ?_ | refine Fr.alloc ?_ _)) _ (HT2.out)) ?_); clear HL; rintro r wB ⟨rfl, hB⟩; have HSB := Lib.hid hB; have s0_B := cell_of hB.box (i := 0) (v := .int .i64 t) rfl; have s1_B := cell_of hB.box (i := 1) (v := .int .i64 v) rfl; have s2_B := cell_of hB.wal.log.head (i := 1) (v := .int .i64 st.t) rfl; have s3_B := cell_of hB.wal.log.head (i := 2) (v := .int .i64 st.v) rfl; clear hB)
        | fail)
      all_goals
       go_wp2_with fail
       go_meet
       exact ⟨rfl, by first | exact HSB.out | exact HSB.out.drew⟩
    case rest =>
    obtain ⟨rfl, HSL⟩ := hcut
    clear n1 n2 x0 x1 HL
    obtain ⟨q1, q2, q3, q4⟩ := lay_parts M D rs
    rw [HP.out] at q1 q2 q3 q4
    obtain ⟨p1, ⟨⟨sm, pm, lm⟩, Dm⟩⟩ := p
    dsimp only at q1 q2 q3 q4
    rw [HMS.out] at q1
    subst q1 q2
    have hI : InvD D := HWA.out.disk.inv
    have HST := Lib.hid (fun wv : Value => still_h (wv := wv) HSL.out.wal (by show 0 < lm.num; omega) (by show lm.num < 1000000; omega) hMp)
    by_cases hp0 : p1 = 0
    ·subst hp0
     have HE : Hid (saveL ⟨sm, pre, last⟩ D t v l = (0, (⟨foldS { sm with t := t, v := v } (l.map .ent), M.pre, { lm with top := (l.map RecD.ent).foldl topR lm.top }⟩, Dm))) := by
      show saveL _ _ _ _ _ = _
      unfold saveL
      rw [if_neg (by rw [HWN.out]; simp), if_neg (by rw [HID.out]; simp), HRS.out, HMM.out, HP.out, if_neg (by simp)]
      dsimp only
      rw [← HRS.out, save_fold HMM.out]
     have hh := HSL.out.wal.log.head
     have x0 := cell_of HSL.out.box (i := 0) (v := .int .i64 t) rfl
     have x1 := cell_of HSL.out.box (i := 1) (v := .int .i64 v) rfl
     have y1 := cell_of hh (i := 1) (v := .int .i64 sm.t) rfl
     have y2 := cell_of hh (i := 2) (v := .int .i64 sm.v) rfl
     have f1 := free_of 1 hh
     have f2 := free_of 2 (block_set hh 1 (.int .i64 t))
     have hll := lt_of_block hh
     have HSH := Lib.hid (HSL.out.wal.log.sethard t v)
     clear hh HST
     go_upto_region 22 with fail
     obtain ⟨w9, hw9⟩ : ∃ w9, w9 = (wc.setCell ⟨lp, 1, none⟩ (.int .i64 t)).setCell ⟨lp, 2, none⟩ (.int .i64 v) := ⟨_, rfl⟩
     rw [← hw9]
     have hpl : Plus S w wc lp := .inl HWA.out.log.slp
     have hfs : Fr (Plus S w wc) wc w9 := by rw [hw9]; exact ((Fr.refl _ _).setCell (p := ⟨lp, 1, none⟩) (.inl hpl) _).setCell (p := ⟨lp, 2, none⟩) (.inl hpl) _
     have hsz := hfs.size
     have hsz2 := HSL.out.fr.size
     have HS0 : Hid (SPRel w S lp pb mb (.slice a2 m2 c2) { sm with t := t, v := v } M.pre lm Dm l 0 ve w9) := by
      refine ⟨?_, ?_, ?_, ?_, ?_⟩
      ·have hlg := HSH.out
       rw [← hw9] at hlg
       refine HWA.out.up (HSL.out.wal.local hlg hfs) (fun k hk => ?_) (by omega)
       rcases hk with hk | ⟨h1, h2⟩
       ·exact .inl hk
       ·exact .inr ⟨h1, by omega⟩
      ·refine HSL.out.fr.trans hfs fun k hk => ?_
       rcases hk with hk | ⟨h1, h2⟩
       ·exact .inl (.inl hk)
       ·exact .inr h1
      ·exact ⟨⟨HALL.out.2.1, HALL.out.2.2, HTV.out.1, HTV.out.2⟩, HOK.out.run⟩
      ·exact Nat.le_trans hst (by omega)
      ·show I64 lm.top
       rw [q4]
       exact grown_top HMM.out HTOP.out
     clear hw9 hfs hsz hsz2 x0 x1 y1 y2 f1 f2 hll
     go_wp2_with fail
     go_loopg [112] (l.length) (fun j v112 wr => ∃ (i : Nat) (ve' : Value), i + j = l.length ∧ v112 = .int .i64 (i : Int) ∧ Hid (SPRel w S lp pb mb (.slice a2 m2 c2) { sm with t := t, v := v } M.pre lm Dm l i ve' wr))
     case atStart => exact ⟨0, ve, by omega, rfl, HS0.out⟩
     case round =>
      obtain ⟨i, ve', hi4, rfl, HJ⟩ := hrel
      have HI4 := Lib.hid hi4
      clear hi4 HS0
      by_cases hlt : i < l.length
      ·obtain ⟨e, he⟩ : ∃ e, l[i]? = some e := ⟨_, List.getElem?_eq_getElem hlt⟩
       have hlti2 : (i : Int) < (l.length : Int) := by omega
       obtain ⟨ge, off, rfl, hc⟩ := ent_at (HR.out.fr HJ.out.fr (fun k hk => (HQ.out k hk).2)) (by omega)
       obtain ⟨z0, z1, z2, z3⟩ := hc i e he
       have hei := HI.out e (List.mem_of_getElem? he)
       have hge : GoodE e := ⟨List.all_eq_true.1 HALL.out.1 e (List.mem_of_getElem? he), hei.1, hei.2.1, hei.2.2.1, by have := hei.2.2.2; omega⟩
       have HGE := Lib.hid hge
       have HEE := Lib.hid he
       have HPU := Lib.hid (fun (W : World) (hF : Fr (fun _ => False) wr W) => put_h (HJ.out.wal.quiet hF).log HJ.out.ok.run hge (by have := HJ.out.len; omega) (by omega) HJ.out.top)
       unfold entV at HPU
       clear hc he hei hge
       go_wp2_with fail
       refine Calls.mono (HPU.out _ ((Fr.refl _ _).alloc _)) ?_
       rintro r w5 ⟨rfl, ⟨ve2, hl5⟩, hf5⟩
       have HN5 := Lib.hid (HJ.out.next HWA.out ((Fr.refl _ _).alloc _) HEE.out HGE.out hl5 hf5)
       clear hl5 hf5 HPU
       go_wp2_with fail
       go_roundg (l.length - (i + 1))
       case measure => have := HI4.out; omega
       case rel => exact ⟨i + 1, ve2, by omega, by go_num, HN5.out⟩
      ·obtain rfl : i = l.length := by have := HI4.out; omega
       have hlti2 : ¬ (l.length : Int) < (l.length : Int) := by omega
       have hw := HJ.out.wal
       rw [List.take_length] at hw
       have HWF := Lib.hid hw
       clear hw
       go_wp2_with fail
       go_ret
       exact lpost HE.out HWF.out HJ.out.fr
    ·have r1 : (p1 == 0) = false := by simpa using hp0
     by_cases hth : (getF Dm.files (nameW lm.num)).isSome = true
     ·have HS2 := Lib.hid (fun wv : Value => (HST.out wv).mono (R' := fun e w' => e = .returned (.slice a2 m2 c2) ∧ Fr (fun _ => False) wc w') (by rintro e w' ⟨h1, h2⟩; exact ⟨by rw [h1]; dsimp only; rw [if_pos hth], h2⟩))
      have HE : Hid (saveL ⟨sm, pre, last⟩ D t v l = (p1, (⟨sm, M.pre, lm⟩, Dm))) := by
       show saveL _ _ _ _ _ = _
       unfold saveL
       rw [if_neg (by rw [HWN.out]; simp), if_neg (by rw [HID.out]; simp), HRS.out, HMM.out, HP.out, if_pos hp0]
       unfold stillL
       dsimp only
       rw [if_pos hth]
      clear HST hth hp0
      go_wp2_with fail
      refine Calls.mono (HS2.out _) ?_
      rintro e w5 ⟨rfl, hf5⟩
      have HF5 := Lib.hid hf5
      have HW5 := Lib.hid (HSL.out.wal.quiet hf5)
      have hh5 := HW5.out.log.head
      have m4 := cell_of hh5 (i := 4) (v := .slice a2 m2 c2) rfl
      have mf := free_of 4 hh5
      have hll := lt_of_block hh5
      clear hf5 hh5 HS2
      go_wp2_with fail
      go_ret
      have hsz := HF5.out.size
      have hsz2 := HSL.out.fr.size
      have hzz : (w5.setCell ⟨lp, 4, none⟩ (.slice a2 m2 c2)).heap.size = w5.heap.size := by simp
      have hfs : Fr (Plus S w wc) w5 (w5.setCell ⟨lp, 4, none⟩ (.slice a2 m2 c2)) := (Fr.refl _ _).setCell (p := ⟨lp, 4, none⟩) (.inl HW5.out.log.slp) _
      refine lpost HE.out (ve := ve) (vs := (.slice a2 m2 c2)) ?_ ?_
      ·refine HWA.out.up (HW5.out.local (HW5.out.log.swapsegs (segs2 := M.pre ++ [lm]) HW5.out.log.segr rfl HW5.out.log.svs) hfs) (fun k hk => ?_) (by omega)
       rcases hk with hk | ⟨h1, h2⟩
       ·exact .inl hk
       ·exact .inr ⟨h1, by omega⟩
      ·exact (HSL.out.fr.next (HF5.out.mono fun _ _ h => h.elim)).setCell (p := ⟨lp, 4, none⟩) (.inl (.inl HWA.out.log.slp)) _
     ·have HS2 := Lib.hid (fun wv : Value => (HST.out wv).mono (R' := fun e w' => e = .returned wv ∧ Fr (fun _ => False) wc w') (by rintro e w' ⟨h1, h2⟩; exact ⟨by rw [h1]; dsimp only; rw [if_neg hth], h2⟩))
      have HE : Hid (saveL ⟨sm, pre, last⟩ D t v l = (p1, (⟨sm, pre, last⟩, Dm))) := by
       show saveL _ _ _ _ _ = _
       unfold saveL
       rw [if_neg (by rw [HWN.out]; simp), if_neg (by rw [HID.out]; simp), HRS.out, HMM.out, HP.out, if_pos hp0]
       unfold stillL
       dsimp only
       rw [if_neg hth]
      have hrow : wc.ownsRow 0 143 3 (.slice (some ⟨gs, 0, none⟩) (pre.length + 1) scap) (pre ++ [last]).length (segsC (pre ++ [last])) := by
       rcases HSL.out.old with ⟨hv, hm⟩ | h
       ·have hg := lay_gone (M := M) (D := D) (rs := rs) hI (by rw [HP.out, ← q3]; exact hth)
        rw [HP.out] at hg
        have h1 := HSL.out.wal.log.segr
        rw [← hv]
        have h2 : M.pre = pre := by rw [hm]
        have h3 : lm = last := by have := congrArg LogD.last hg; rw [hm] at this; exact this
        rw [h2, h3] at h1
        exact h1
       ·exact h
      have HROW := Lib.hid hrow
      clear HST hth hp0 hrow
      go_wp2_with fail
      refine Calls.mono (HS2.out _) ?_
      rintro e w5 ⟨rfl, hf5⟩
      have HF5 := Lib.hid hf5
      have HW5 := Lib.hid (HSL.out.wal.quiet hf5)
      have hh5 := HW5.out.log.head
      have m4 := cell_of hh5 (i := 4) (v := .slice a2 m2 c2) rfl
      have mf := free_of 4 hh5
      have hll := lt_of_block hh5
      clear hf5 hh5 HS2
      go_wp2_with fail
      go_ret
      have hsz := HF5.out.size
      have hsz2 := HSL.out.fr.size
      have hzz : (w5.setCell ⟨lp, 4, none⟩ (.slice (some ⟨gs, 0, none⟩) (pre.length + 1) scap)).heap.size = w5.heap.size := by simp
      have hfs : Fr (Plus S w wc) w5 (w5.setCell ⟨lp, 4, none⟩ (.slice (some ⟨gs, 0, none⟩) (pre.length + 1) scap)) := (Fr.refl _ _).setCell (p := ⟨lp, 4, none⟩) (.inl HW5.out.log.slp) _
      refine lpost HE.out (ve := ve) (vs := (.slice (some ⟨gs, 0, none⟩) (pre.length + 1) scap)) ?_ ?_
      ·refine HWA.out.up (HW5.out.local (HW5.out.log.swapsegs (segs2 := pre ++ [last]) (ownsRow_keep HROW.out fun k hk => HF5.out.block k (HROW.out.lt k hk).2 (fun h => h)) rfl (fun k hk => .inl (HA.out.log.svs k hk))) hfs) (fun k hk => ?_) (by omega)
       rcases hk with hk | ⟨h1, h2⟩
       ·exact .inl hk
       ·exact .inr ⟨h1, by omega⟩
      ·exact (HSL.out.fr.next (HF5.out.mono fun _ _ h => h.elim)).setCell (p := ⟨lp, 4, none⟩) (.inl (.inl HWA.out.log.slp)) _
end Go.Proofs.YtgmghopcppniaaaGreatDoor

/- wal's Open: the numbers sorted. -/
namespace Go.Proofs.YtgmghopcppniaaaGreatDoor
open Go.RowKit Go.Lib

/-- slices.Sort of a row of one's own -/
theorem sortI_h {w : World} {base : Nat} {v : Value} {l : List Int} (h : w.ownsRow base 3 1 v l.length (l.map (Value.int .i64))) (hl : l.length ≤ 1000000) :
  Calls Tryz.prog 83 #[v] w fun e w' => e = .returned (.tuple #[]) ∧ w'.ownsRow base 3 1 v l.length ((l.mergeSort fun x y => decide (x ≤ y)).map (Value.int .i64)) ∧ w.grownBy w' v.ownBlock := by
 rcases h.2 with ⟨hv, hn⟩ | ⟨g, cap, cur, hv, hg, hh, hnc, hcm, hcs, ht⟩
 ·have hnil : l = [] := by simpa using hn
  subst hnil
  rw [hv]
  refine (Tryz.slices_Sort_int_none none 0 w).mono ?_
  rintro e w' ⟨rfl, rfl⟩
  exact ⟨rfl, by simpa using World.ownsRow_nil _ _ _ _, World.grownBy.refl _ _⟩
 ·rw [hv]
  rw [Nat.mul_one] at ht
  refine (Tryz.slices_Sort_int g 0 cap l w (holds_of_blockI hh ht) (lt_of_block hh) (by omega)).mono ?_
  rintro e w' ⟨rfl, n, os, rfl⟩
  exact ⟨rfl, ownsRow_sortedI (by rw [List.length_mergeSort]) hg hh hnc hcm hcs, grownBy_sortedI _⟩
end Go.Proofs.YtgmghopcppniaaaGreatDoor

/- wal's Open: what its walk leans on. -/
namespace Go.Proofs.YtgmghopcppniaaaGreatDoor
open Go.RowKit Go.Lib

theorem turned_most {D : DiskD} {l : List FileD} {p : Int × DiskD} (h : Turned D l p) : p.2.most = D.most := by
 rcases h with ⟨_, h⟩ | ⟨_, h, _⟩ | ⟨_, _, h⟩ | ⟨_, _, h⟩ <;> (try rw [h]) <;> (try rfl)
theorem trunc_most (D : DiskD) (n : Str) (k : Int) : (truncD D n k).2.most = D.most := by
 obtain ⟨l, _, h⟩ := turned_trunc D n k
 exact turned_most h
theorem wsync_most (D : DiskD) (n : Str) : (syncD D n).2.most = D.most := by
 obtain ⟨l, _, _, h⟩ := turned_sync D n
 exact turned_most h
theorem fold_len : ∀ (l : List RecD) (s : StD), (foldS s l).ents.length ≤ s.ents.length + l.length
 | [], s => Nat.le_refl _
 | r :: l, s => by
  show (foldS (stepS s r) l).ents.length ≤ _
  have h1 := fold_len l (stepS s r)
  have h2 := stepS_len s r
  rw [List.length_cons]; omega
theorem recs_many : ∀ (l : List RecD), l.length * 9 ≤ (recsL l).length
 | [] => by simp [recsL]
 | r :: l => by
  have h1 := recs_many l
  have h2 := recF_len r
  rw [recsL_cons, List.length_append, List.length_cons]; omega
theorem readseg_keep {D : DiskD} {st : StD} {n : Nat} {last : Bool} (hi : InvD D) (hm : D.most ≤ 100000) (hok : OkS st) : OkS (readSeg D st n last).1.2.1 ∧ (readSeg D st n last).1.2.1.ents.length ≤ st.ents.length + 12000 ∧ (readSeg D st n last).2.most = D.most ∧ (readSeg D st n last).1.2.2.num = n := by
 have hb : (readD D (nameW n)).1.length ≤ 100000 := by
  have hf := hi.full
  unfold readD
  split
  ·simp
  ·cases hg : getF D.files (nameW n) with
   | none => simp
   | some f =>
    have := mem_total (get_mem hg).1
    dsimp only; omega
 obtain ⟨h1, h2, h3, _, _, h6⟩ := readS_back (readD D (nameW n)).1
 have hk : OkS (foldS st (readS (readD D (nameW n)).1).1.1) ∧ (foldS st (readS (readD D (nameW n)).1).1.1).ents.length ≤ st.ents.length + 12000 := by
  refine ⟨OkS.fold _ hok fun r hr => (h6 r hr).1, ?_⟩
  have := fold_len (readS (readD D (nameW n)).1).1.1 st
  have := recs_many (readS (readD D (nameW n)).1).1.1
  omega
 unfold readSeg
 dsimp only
 split
 ·exact ⟨hok, by simp, rfl, rfl⟩
 ·split
  ·exact ⟨hk.1, hk.2, rfl, rfl⟩
  ·split
   ·exact ⟨hk.1, hk.2, rfl, rfl⟩
   ·split
    ·exact ⟨hk.1, hk.2, trunc_most _ _ _, rfl⟩
    ·exact ⟨hk.1, hk.2, (wsync_most _ _).trans (trunc_most _ _ _), rfl⟩
theorem ownsRow_up {w : World} {base B e size n : Nat} {v : Value} {xs : List Value} (h : w.ownsRow base e size v n xs) (hB : ∀ k, v.ownBlock = some k → B ≤ k) : w.ownsRow B e size v n xs := by
 refine ⟨h.1, ?_⟩
 rcases h.2 with h2 | ⟨g, cap, cur, hv, hg, r⟩
 ·exact .inl h2
 ·exact .inr ⟨g, cap, cur, hv, hB g (by rw [hv]; rfl), r⟩
/-- the row of segments with one more, in its place or in a new one -/
theorem LogAt.appsegs {w w2 : World} {S S2 : Nat → Prop} {lp B : Nat} {dv ve vs v2 : Value} {st : StD} {segs segs2 : List SegD} (h : LogAt w S lp dv ve vs st segs) (hf : Fr (fun k => vs.ownBlock = some k) w w2) (hr : w2.ownsRow B 143 3 v2 segs2.length (segsC segs2)) (hB : lp < B)
  (h1 : ∀ k, S k → S2 k) (h2 : ∀ k, B ≤ k → k < w2.heap.size → S2 k) (h3 : ∀ k, S2 k → k < w2.heap.size) :
  LogAt (w2.setCell ⟨lp, 4, none⟩ v2) S2 lp dv ve v2 st segs2 := by
 have hz : (w2.setCell ⟨lp, 4, none⟩ v2).heap.size = w2.heap.size := by simp
 have hlp : ¬ (vs.ownBlock = some lp) := fun e => own_ne h.segr h.head (by decide) e
 have hhead := hf.keep h.head hlp
 have hfar : ∀ k, ve.ownBlock = some k → ¬ (vs.ownBlock = some k) := by
  intro k hk hk2
  rcases h.segr.2 with ⟨h4, _⟩ | ⟨g, cap, cur, hv, _, hh, _⟩
  ·rw [h4] at hk2; cases hk2
  ·rw [hv] at hk2
   have : g = k := by simpa [Value.ownBlock] using hk2
   subst this
   exact own_ne h.ents hh (by decide) hk
 refine ⟨block_set hhead 4 v2, ownsRow_keep (ownsRow_keep h.ents fun k hk => hf.block k (h.ents.lt k hk).2 (hfar k hk)) (fun k hk => block_set_ne ?_), ownsRow_keep (ownsRow_base hr (Nat.zero_le _)) (fun k hk => block_set_ne ?_), h1 _ h.slp, fun k hk => h1 _ (h.sve k hk), fun k hk => ?_, fun k hk => by rw [hz]; exact h3 k hk⟩
 ·rintro rfl; exact own_ne h.ents h.head (by decide) hk
 ·rintro rfl; have := (hr.lt _ hk).1; omega
 ·have := hr.lt k hk; exact h2 k this.1 this.2
/-- while the segments are read -/
structure OpRel (w w3 : World) (D : DiskD) (pb mb i : Nat) (st : StD) (segs : List SegD) (Dr : DiskD) (ve vs : Value) (wr : World) : Prop where
 all : readAll (numsN D) zeroS [] D = readAll ((numsN D).drop i) st segs Dr
 len : segs.length = i
 wal : WalAt wr (Plus (fun k => k = w.heap.size) w3 wr) w.heap.size pb mb ve vs st segs Dr
 up : ∀ k, vs.ownBlock = some k → w3.heap.size ≤ k
 fr : Fr (WAll (fun k => k = w.heap.size) pb mb) w3 wr
 ok : OkS st
 few : st.ents.length ≤ i * 12000
 most : Dr.most = D.most
 base : (pb < w.heap.size ∧ mb < w.heap.size) ∧ 8 ≤ w.heap.size ∧ w.heap.size < w3.heap.size
theorem plus_mono {w w3 W : World} {pb mb lp : Nat} {S2 : Nat → Prop} {ve vs : Value} {st : StD} {segs : List SegD} {D : DiskD} (h : WalAt W S2 lp pb mb ve vs st segs D) (hb : (pb < w.heap.size ∧ mb < w.heap.size) ∧ 8 ≤ w.heap.size ∧ w.heap.size < w3.heap.size) (h2 : ∀ k, S2 k → k = w.heap.size ∨ w3.heap.size ≤ k) (hl : w3.heap.size ≤ W.heap.size) :
  WalAt W (Plus (fun k => k = w.heap.size) w3 W) lp pb mb ve vs st segs D := by
 refine h.mono (fun k hk => ?_) (fun k hk => ?_) (fun k hk => ?_) (fun k hk => ?_)
 ·rcases h2 k hk with e | e
  ·exact .inl e
  ·exact .inr ⟨e, h.log.lt k hk⟩
 ·rcases hk with rfl | hk
  ·omega
  ·exact hk.2
 ·rcases hk with rfl | hk
  ·rintro (e | e) <;> omega
  ·rintro (e | e) <;> omega
 ·rcases hk with rfl | hk <;> omega
theorem plus_old {w w3 wr : World} {k : Nat} (h : Plus (fun k => k = w.heap.size) w3 wr k) : k = w.heap.size ∨ w3.heap.size ≤ k := by
 rcases h with h | h
 ·exact .inl h
 ·exact .inr h.1
/-- one segment more: the row grown, the field stored -/
theorem OpRel.app {w w3 wr w8 : World} {D : DiskD} {pb mb i : Nat} {st : StD} {segs : List SegD} {Dr : DiskD} {ve vs v2 : Value} {s2 : List SegD} (h : OpRel w w3 D pb mb i st segs Dr ve vs wr) (hf : Fr (fun k => vs.ownBlock = some k) wr w8) (hr : w8.ownsRow w3.heap.size 143 3 v2 s2.length (segsC s2)) :
  WalAt (w8.setCell ⟨w.heap.size, 4, none⟩ v2) (Plus (fun k => k = w.heap.size) w3 (w8.setCell ⟨w.heap.size, 4, none⟩ v2)) w.heap.size pb mb ve v2 st s2 Dr ∧ Fr (WAll (fun k => k = w.heap.size) pb mb) w3 (w8.setCell ⟨w.heap.size, 4, none⟩ v2) := by
 have hz : (w8.setCell ⟨w.heap.size, 4, none⟩ v2).heap.size = w8.heap.size := by simp
 have hs := hf.size
 have hs0 := h.fr.size
 have hb := h.base
 have hlog := h.wal.log.appsegs (S2 := Plus (Plus (fun k => k = w.heap.size) w3 wr) wr (w8.setCell ⟨w.heap.size, 4, none⟩ v2)) hf hr hb.2.2 (fun k hk => .inl hk) (fun k h1 h2 => by
  by_cases hk : k < wr.heap.size
  ·exact .inl (.inr ⟨h1, hk⟩)
  ·exact .inr ⟨by omega, by omega⟩) (fun k hk => by
   rcases hk with (hk | hk) | hk
   ·omega
   ·omega
   ·omega)
 have hfs : Fr (Plus (fun k => k = w.heap.size) w3 wr) wr (w8.setCell ⟨w.heap.size, 4, none⟩ v2) :=
  (hf.mono (o2 := Plus (fun k => k = w.heap.size) w3 wr) fun k hk e => .inr ⟨h.up k e, hk⟩).setCell (p := ⟨w.heap.size, 4, none⟩) (.inl (.inl rfl)) _
 have hw := h.wal.logs hlog hfs
 refine ⟨plus_mono hw hb (fun k hk => ?_) (by omega), h.fr.trans hfs fun k hk => ?_⟩
 ·rcases hk with hk | hk
  ·exact plus_old hk
  ·exact .inr (by omega)
 ·rcases hk with hk | hk
  ·exact .inl (.inl hk)
  ·exact .inr hk.1
theorem OpRel.read {w w3 W w2 : World} {pb mb : Nat} {st : StD} {segs : List SegD} {Dr : DiskD} {ve vs : Value} (hb : (pb < w.heap.size ∧ mb < w.heap.size) ∧ 8 ≤ w.heap.size ∧ w.heap.size < w3.heap.size) (hf : Fr (WAll (fun k => k = w.heap.size) pb mb) w3 W)
  (hw : WalAt w2 (Plus (Plus (fun k => k = w.heap.size) w3 W) W w2) w.heap.size pb mb ve vs st segs Dr) (hf2 : Fr (WAll (Plus (fun k => k = w.heap.size) w3 W) pb mb) W w2) :
  WalAt w2 (Plus (fun k => k = w.heap.size) w3 w2) w.heap.size pb mb ve vs st segs Dr ∧ Fr (WAll (fun k => k = w.heap.size) pb mb) w3 w2 := by
 have h1 := hf.size
 have h2 := hf2.size
 refine ⟨plus_mono hw hb (fun k hk => ?_) (by omega), hf.trans hf2 fun k hk => ?_⟩
 ·rcases hk with hk | hk
  ·exact plus_old hk
  ·exact .inr (by omega)
 ·rcases hk with (hk | hk) | hk
  ·exact .inl (.inl hk)
  ·exact .inr hk.1
  ·exact .inl (.inr hk)
/-- what Open leaves behind the last segment -/
theorem OpRel.all_read {w w3 wr : World} {D : DiskD} {pb mb i : Nat} {st : StD} {segs : List SegD} {Dr : DiskD} {ve vs : Value} (h : OpRel w w3 D pb mb i st segs Dr ve vs wr) :
  WalAt wr (fun k => w.heap.size ≤ k ∧ k < wr.heap.size) w.heap.size pb mb ve vs st segs Dr := by
 have hb := h.base
 have hs := h.fr.size
 refine h.wal.mono (fun k hk => ?_) (fun k hk => hk.2) (fun k hk => ?_) (fun k hk => by omega)
 ·rcases hk with hk | hk <;> omega
 ·rintro (e | e) <;> omega
theorem OpRel.seg {w w3 : World} {D : DiskD} {pb mb i : Nat} {st : StD} {segs : List SegD} {Dr : DiskD} {ve vs : Value} {wr : World} (h : OpRel w w3 D pb mb i st segs Dr ve vs wr) {n : Nat} (hn : (numsN D)[i]? = some n) {last : Bool} (hl : last = decide (i + 1 = (numsN D).length)) :
  ((readSeg Dr st n last).1.1 ≠ 0 → readAll (numsN D) zeroS [] D = (((readSeg Dr st n last).1.1, ((readSeg Dr st n last).1.2.1, segs ++ [(readSeg Dr st n last).1.2.2])), (readSeg Dr st n last).2)) ∧
  ((readSeg Dr st n last).1.1 = 0 → readAll (numsN D) zeroS [] D = readAll ((numsN D).drop (i + 1)) (readSeg Dr st n last).1.2.1 (segs ++ [(readSeg Dr st n last).1.2.2]) (readSeg Dr st n last).2) := by
 obtain ⟨h1, h2⟩ := List.getElem?_eq_some_iff.1 hn
 have hd : (numsN D).drop i = n :: (numsN D).drop (i + 1) := by rw [List.drop_eq_getElem_cons h1, h2]
 have he : ((numsN D).drop (i + 1)).isEmpty = last := by
  rw [hl]
  by_cases h3 : i + 1 = (numsN D).length
  ·rw [h3, List.drop_length]; simp
  ·rw [decide_eq_false h3, List.isEmpty_eq_false_iff]
   intro h4
   have := List.drop_eq_nil_iff.1 h4
   omega
 have ha := h.all
 rw [hd] at ha
 unfold readAll at ha
 rw [he] at ha
 dsimp only at ha
 constructor
 ·intro h0
  have ha2 := ha
  rw [if_pos h0] at ha2
  conv => lhs; unfold readAll
  exact ha2
 ·intro h0
  rw [if_neg (by simpa using h0)] at ha
  conv => lhs; unfold readAll
  exact ha
theorem OpRel.next {w w3 wr w2 : World} {D : DiskD} {pb mb i : Nat} {st : StD} {segs : List SegD} {Dr : DiskD} {ve vs ve2 vs2 : Value} (h : OpRel w w3 D pb mb i st segs Dr ve vs wr) (hi : InvD Dr) (hm : D.most ≤ 100000) {n : Nat} (hn : (numsN D)[i]? = some n) {last : Bool} (hl : last = decide (i + 1 = (numsN D).length)) (h0 : (readSeg Dr st n last).1.1 = 0)
  (hw : WalAt w2 (Plus (fun k => k = w.heap.size) w3 w2) w.heap.size pb mb ve2 vs2 (readSeg Dr st n last).1.2.1 (segs ++ [(readSeg Dr st n last).1.2.2]) (readSeg Dr st n last).2) (hu : ∀ k, vs2.ownBlock = some k → w3.heap.size ≤ k) (hf : Fr (WAll (fun k => k = w.heap.size) pb mb) w3 w2) :
  OpRel w w3 D pb mb (i + 1) (readSeg Dr st n last).1.2.1 (segs ++ [(readSeg Dr st n last).1.2.2]) (readSeg Dr st n last).2 ve2 vs2 w2 := by
 have hk := readseg_keep (n := n) (last := last) hi (by rw [h.most]; exact hm) h.ok
 have := h.few
 exact ⟨(h.seg hn hl).2 h0, by rw [List.length_append, h.len]; rfl, hw, hu, hf, hk.1, by have := hk.2.1; omega, hk.2.2.1.trans h.most, h.base⟩
end Go.Proofs.YtgmghopcppniaaaGreatDoor

/- wal's Open: walked. -/
namespace Go.Proofs.YtgmghopcppniaaaGreatDoor
open Go.RowKit Go.Lib

/-- what Open leaves: p is the plain law's answer -/
def OpenPost (p : (Int × (StD × List SegD)) × DiskD) (pb mb : Nat) (w : World) (e : Ending) (w' : World) : Prop :=
 ∃ lp : Nat, e = .returned (.tuple #[if p.1.1 = 0 then .pointer (some ⟨lp, 0, none⟩) else .pointer none, .int .i64 p.1.1]) ∧
  (p.1.1 = 0 → ∃ ve vs, WalAt w' (fun k => w.heap.size ≤ k ∧ k < w'.heap.size) lp pb mb ve vs p.1.2.1 p.1.2.2 p.2) ∧ DiskAt w' pb mb p.2 ∧ Fr (Own pb mb) w w'
/-- the numbers of the first names -/
def numsOf (l : List Str) : List Int := (l.map fun n => ((numW n : Nat) : Int)).filter fun n => decide (0 < n)
theorem numsOf_snoc {l : List Str} {i : Nat} {n : Str} (h : l[i]? = some n) : numsOf (l.take (i + 1)) = if 0 < numW n then numsOf (l.take i) ++ [((numW n : Nat) : Int)] else numsOf (l.take i) := by
 obtain ⟨h1, h2⟩ := List.getElem?_eq_some_iff.1 h
 rw [List.take_succ_eq_append_getElem h1, h2]
 unfold numsOf
 rw [List.map_append, List.filter_append]
 by_cases h3 : 0 < numW n
 ·rw [if_pos h3]; simp [h3]
 ·rw [if_neg h3]; simp; omega
theorem wname_len {D : DiskD} (h : InvD D) {n : Str} (hn : n ∈ names D.files) : n.length ≤ 24 := by
 unfold names at hn
 obtain ⟨f, hf, rfl⟩ := List.mem_map.1 hn
 have := h.names f hf
 unfold nameOK at this
 simp only [Bool.and_eq_true, decide_eq_true_eq] at this
 exact this.1.2
structure NumRel (w w2 : World) (l : List Str) (i : Nat) (v : Value) (wr : World) : Prop where
 row : wr.ownsRow w2.heap.size 3 1 v (numsOf (l.take i)).length ((numsOf (l.take i)).map (Value.int .i64))
 fr : Fr (fun _ => False) w wr
def firstM : LogD := ⟨zeroS, [], ⟨1, 0, 0⟩⟩
theorem recs_first : recsL [.hard 0 0] = frameL (hardTx 0 0) := by unfold recsL; rw [List.flatMap_cons, List.flatMap_nil, List.append_nil]; rfl
theorem lay_first (D : DiskD) : ((layL firstM D [.hard 0 0]).1, (layL firstM D [.hard 0 0]).2.2) = firstD D := by
 unfold layL firstD firstM
 rw [recs_first]
 dsimp only
 split <;> rfl
theorem lay_first_ok {D : DiskD} (h : (layL firstM D [.hard 0 0]).1 = 0) : (layL firstM D [.hard 0 0]).2.1.last = ⟨1, (frameL (hardTx 0 0)).length, 0⟩ := by
 unfold layL at h ⊢
 split
 ·rename_i h0
  rw [if_pos h0] at h
  exact absurd h h0
 ·rw [recs_first]
  show (⟨1, 0 + _, 0⟩ : SegD) = _
  rw [Nat.zero_add]
theorem open_first {D : DiskD} (h : numsD D.files = []) : openD D = (((layL firstM D [.hard 0 0]).1, (zeroS, [⟨1, (frameL (hardTx 0 0)).length, 0⟩])), (layL firstM D [.hard 0 0]).2.2) := by
 have h1 : numsN D = [] := by unfold numsN; rw [h]; rfl
 unfold openD
 rw [if_pos h1]
 have := lay_first D
 rw [← this]
/-- the first segment's row -/
theorem first_log {w3 : World} {k pb : Nat} (hb : w3.heap[k]? = some (.cells #[.pointer (some ⟨pb, 0, none⟩), .int .i64 0, .int .i64 0, .slice none 0 0, .slice none 0 0] 140 (0, 0))) {S : Nat → Prop} (hk : S k) (hs : S w3.heap.size) (hS : ∀ j, S j → j < w3.heap.size + 1) :
  LogAt ((w3.setCell ⟨k, 4, none⟩ (.slice (some ⟨w3.heap.size, 0, none⟩) 1 1)).alloc (.cells #[.int .i64 1, .int .i64 0, .int .i64 0] 143)) S k (.pointer (some ⟨pb, 0, none⟩)) (.slice none 0 0) (.slice (some ⟨w3.heap.size, 0, none⟩) 1 1) zeroS [⟨1, 0, 0⟩] := by
 refine ⟨block_old (block_set hb 4 _) _, World.ownsRow_nil _ _ _ _, ?_, hk, fun j hj => (by simp [Value.ownBlock] at hj), fun j hj => ?_, fun j hj => by have := hS j hj; simpa using this⟩
 ·refine ⟨rfl, .inr ⟨w3.heap.size, 1, #[.int .i64 1, .int .i64 0, .int .i64 0], rfl, Nat.zero_le _, ?_, Nat.le_refl _, by decide, rfl, rfl⟩⟩
  exact block_new_at (by simp)
 ·simp [Value.ownBlock] at hj
  subst hj; exact hs
set_option maxRecDepth 100000 in
set_option maxHeartbeats 16000000 in
theorem open_h {w : World} {pb mb : Nat} {D : DiskD} (hD : DiskAt w pb mb D) (hE : Env w) (hlow : 8 ≤ pb ∧ 8 ≤ mb) (hm : D.most ≤ 100000) :
  Calls Tryz.prog 34 #[.pointer (some ⟨pb, 0, none⟩)] w (OpenPost (openD D) pb mb w) := by
 obtain ⟨i0, hi, hi0, hi1, hi2⟩ := info_parts info3
 have HD := Lib.hid hD
 have HEN := Lib.hid hE
 have hnlen : (names D.files).length ≤ 40 := by have := hD.inv.many; unfold names; simp; omega
 obtain ⟨w1, hw1⟩ : ∃ w1, w1 = w.alloc (.cells #[.pointer (some ⟨pb, 0, none⟩), .int .i64 0, .int .i64 0, .slice none 0 0, .slice none 0 0] 140) := ⟨_, rfl⟩
 have HF1 : Hid (Fr (fun _ => False) w w1) := by show Fr _ _ _; rw [hw1]; exact (Fr.refl _ _).alloc _
 have hbk : w1.heap[w.heap.size]? = some (.cells #[.pointer (some ⟨pb, 0, none⟩), .int .i64 0, .int .i64 0, .slice none 0 0, .slice none 0 0] 140 (0, 0)) := by rw [hw1]; exact block_new _ _
 have HBK := Lib.hid hbk
 have HLI := Lib.hid (list_h (hD.grow HF1.out))
 clear hD hE hbk
 go_enter Tryz.func34, Tryz.ntmps34
 go_upto_region 3 with fail
 rw [← hw1]
 clear hw1
 go_wp2_with fail
 refine Calls.mono HLI.out ?_
 rintro e w2 ⟨v', rfl, hrow, hf2⟩
 obtain ⟨la, lc, rfl⟩ : ∃ a c, v' = .slice a (names D.files).length c := ownsRow_shape hrow
 have HRW := Lib.hid (SRow.of_owns hrow)
 have HF2 := Lib.hid hf2
 have HB2 := Lib.hid (hf2.keep HBK.out (fun h => h))
 have HFA := Lib.hid (HF1.out.next hf2)
 clear hrow hf2 HLI HBK
 go_wp2_with fail
 have HR0 : Hid (NumRel w w2 (names D.files) 0 (.slice none 0 0) w2) := ⟨by simpa [numsOf] using World.ownsRow_nil w2 _ _ _, HFA.out⟩
 go_loopg [5, 19] ((names D.files).length) (fun j v5 v19 wr => ∃ i : Nat, i + j = (names D.files).length ∧ v19 = .int .i64 (i : Int) ∧ Hid (NumRel w w2 (names D.files) i v5 wr ∧ Fr (fun _ => False) w2 wr))
 case atStart => exact ⟨0, by omega, rfl, HR0.out, Fr.refl _ _⟩
 case round =>
  obtain ⟨i, hi3, rfl, HK⟩ := hrel
  have HI3 := Lib.hid hi3
  clear hi3 HR0
  obtain ⟨sa, sc, rfl⟩ : ∃ a c, u5 = .slice a (numsOf ((names D.files).take i)).length c := ownsRow_shape HK.out.1.row
  by_cases hlt : i < (names D.files).length
  ·obtain ⟨n, hn⟩ : ∃ n, (names D.files)[i]? = some n := ⟨_, List.getElem?_eq_getElem hlt⟩
   have hlti : (i : Int) < ((names D.files).length : Int) := by omega
   obtain ⟨g, off, rfl, hc⟩ := (HRW.out.fr HK.out.2 (fun _ _ h => h)).cell (by omega)
   have c0 := hc i _ (by rw [List.getElem?_map, hn]; rfl)
   have HSN := Lib.hid (numsOf_snoc hn)
   have HNU := Lib.hid (fun W : World => number_h (w := W) n (by have := wname_len HD.out.inv (List.mem_of_getElem? hn); omega))
   have hnl2 : (numsOf ((names D.files).take i)).length ≤ i := by
    have h1 : (numsOf ((names D.files).take i)).length ≤ (((names D.files).take i).map fun n => ((numW n : Nat) : Int)).length := List.length_filter_le _ _
    rw [List.length_map, List.length_take] at h1; omega
   clear hc hn
   go_wp2_with fail
   refine Calls.mono (HNU.out _) ?_
   rintro e w3 ⟨rfl, hf3⟩
   have HF3 := Lib.hid (HK.out.2.next hf3)
   have HFW := Lib.hid (HK.out.1.fr.next hf3)
   have HOWN : Hid (w3.ownsRow w2.heap.size 3 1 (.slice sa (numsOf ((names D.files).take i)).length sc) (numsOf ((names D.files).take i)).length ((numsOf ((names D.files).take i)).map (Value.int .i64))) := ownsRow_keep HK.out.1.row fun k hk => hf3.block k (HK.out.1.row.lt k hk).2 (fun h => h)
   have hsz := HF3.out.size
   have hsz2 := HFA.out.size
   clear hf3 HNU
   by_cases hpos : 0 < numW n
   ·have hpi : (0 : Int) < ((numW n : Nat) : Int) := by omega
    have HST : Hid (numsOf ((names D.files).take (i + 1)) = numsOf ((names D.files).take i) ++ [((numW n : Nat) : Int)]) := by show _ = _; rw [HSN.out, if_pos hpos]
    clear hpos
    go_wp2_with (at_builtin; refine wpList_append_shape rfl _ _ 22 rfl w2.heap.size 3 i0 (.int .i64 0) 1 8 Tryz.underlying22 hi hi0 hi1 hi2 rfl (by decide) _ _ _ rfl (HOWN.out.alloc _) ⟨w3.heap.size, 0, none⟩ 1 1 [.int .i64 ((numW n : Nat) : Int)] rfl rfl ?c1 ?c2 ?c3 ?c4 ?c5 (by omega) ?_)
    case c1 =>
     intro j u hj
     match j, hj with
     | 0, hj => simp at hj; subst hj; simp [Addr.add] <;> exact cell_of (block_new w3 (.cells #[.int .i64 ((numW n : Nat) : Int)] 3)) rfl
    case c2 => intro u hu; simp at hu; subst hu; rfl
    case c3 => unfold maxLen; omega
    case c4 => omega
    case c5 => simp; omega
    intro g2 cap2 w4 hown4 hg4 _
    have HR4 : Hid (NumRel w w2 (names D.files) (i + 1) (.slice (some ⟨g2, 0, none⟩) (numsOf ((names D.files).take (i + 1))).length cap2) w4) := by
     refine ⟨?_, (HFW.out.alloc (.cells #[.int .i64 ((numW n : Nat) : Int)] 3)).grown hg4 fun k hk => .inr (Nat.le_trans hsz2 (HOWN.out.lt k hk).1)⟩
     rw [HST.out, List.length_append, List.map_append]
     exact hown4
    have HF4 : Hid (Fr (fun _ => False) w2 w4) := (HF3.out.alloc (.cells #[.int .i64 ((numW n : Nat) : Int)] 3)).grown hg4 fun k hk => .inr (HOWN.out.lt k hk).1
    rw [HST.out, List.length_append, List.length_singleton] at HR4
    clear hown4 hg4
    go_wp2_with fail
    go_roundg ((names D.files).length - (i + 1))
    case measure => have := HI3.out; omega
    case rel => exact ⟨i + 1, by omega, by go_num, HR4.out, HF4.out⟩
   ·have hpi : ¬ (0 : Int) < ((numW n : Nat) : Int) := by omega
    have HST : Hid (numsOf ((names D.files).take (i + 1)) = numsOf ((names D.files).take i)) := by show _ = _; rw [HSN.out, if_neg hpos]
    have HR4 : Hid (NumRel w w2 (names D.files) (i + 1) (.slice sa (numsOf ((names D.files).take i)).length sc) w3) := ⟨by rw [HST.out]; exact HOWN.out, HFW.out⟩
    clear hpos
    go_wp2_with fail
    go_roundg ((names D.files).length - (i + 1))
    case measure => have := HI3.out; omega
    case rel => exact ⟨i + 1, by omega, by go_num, HR4.out, HF3.out⟩
  ·obtain rfl : i = (names D.files).length := by have := HI3.out; omega
   have hlti : ¬ ((names D.files).length : Int) < ((names D.files).length : Int) := by omega
   have hnl := HK.out.1.row
   rw [List.take_length] at hnl
   obtain ⟨ns, hns⟩ : ∃ ns, numsOf (names D.files) = ns := ⟨_, rfl⟩
   have hnsl : ns.length ≤ 40 := by
    rw [← hns]
    have h1 : (numsOf (names D.files)).length ≤ ((names D.files).map fun n => ((numW n : Nat) : Int)).length := List.length_filter_le _ _
    rw [List.length_map] at h1; omega
   have HNS : Hid ((ns.mergeSort fun x y => decide (x ≤ y)) = numsD D.files) := by
    show _ = _
    rw [← hns]; unfold numsOf numsD names; rw [List.map_map]; rfl
   rw [List.take_length, hns] at HK
   rw [hns] at hnl
   rw [List.take_length, hns]
   have HSO := Lib.hid (sortI_h hnl (by omega))
   clear hns hnl
   go_wp2_with fail
   refine Calls.mono HSO.out ?_
   rintro e w3 ⟨rfl, hrow3, hg3⟩
   have HF3 : Hid (Fr (fun _ => False) w2 w3) := HK.out.2.grown hg3 fun k hk => .inr (HK.out.1.row.lt k hk).1
   rw [HNS.out] at hrow3
   have HROW3 := Lib.hid hrow3
   clear hrow3 hg3 HSO
   by_cases hn0 : ns.length = 0
   ·have q0 : ((ns.length : Int) == 0) = true := by simp [hn0]
    have hb3 := HF3.out.keep HB2.out (fun h => h)
    have f4 := free_of 4 hb3
    have k4 := cell_of hb3 (i := 4) (v := .slice none 0 0) rfl
    have hll := lt_of_block hb3
    have HB3 := Lib.hid hb3
    clear hb3
    go_upto_region 13 with fail
    obtain ⟨w5, hw5⟩ : ∃ w5, w5 = (w3.setCell ⟨w.heap.size, 4, none⟩ (.slice (some ⟨w3.heap.size, 0, none⟩) 1 1)).alloc (.cells #[.int .i64 1, .int .i64 0, .int .i64 0] 143) := ⟨_, rfl⟩
    rw [← hw5]
    have hFW : Fr (fun _ => False) w w5 := by rw [hw5]; exact ((HFA.out.next HF3.out).setCell (p := ⟨w.heap.size, 4, none⟩) (.inr (Nat.le_refl _)) _).alloc _
    have hw3s := (HFA.out.next HF3.out).size
    have hpl := lt_of_block HD.out.head
    have hml := HD.out.map.lt
    have hlg := first_log (S := fun k => w.heap.size ≤ k ∧ k < w3.heap.size + 1) HB3.out ⟨Nat.le_refl _, by omega⟩ ⟨hw3s, by omega⟩ (fun j hj => hj.2)
    rw [← hw5] at hlg
    have hwal : WalAt w5 (fun k => w.heap.size ≤ k ∧ k < w3.heap.size + 1) w.heap.size pb mb (.slice none 0 0) (.slice (some ⟨w3.heap.size, 0, none⟩) 1 1) zeroS ([] ++ [⟨1, 0, 0⟩]) D :=
     ⟨hlg, HD.out.grow hFW, fun k hk => by rintro (e | e) <;> omega, HEN.out.grow hFW, fun k hk => by omega, hlow⟩
    have hnd : numsD D.files = [] := by
     rw [← HNS.out, List.eq_nil_of_length_eq_zero hn0]; simp
    have HOP := Lib.hid (open_first hnd)
    have HLY := Lib.hid (lay_h (Q := fun _ => False) (a := none) (cap := 0) hwal (by decide) (by decide) (by decide) (by decide) (t := 0) (v := 0) (i64_small (by decide) (by decide)) (i64_small (by decide) (by decide)) true [] (SRow.nil _ _ _) (fun _ h => h.elim) (by decide) (rs := [.hard 0 0]) rfl (fun r hr => by rw [List.mem_singleton.1 hr]; exact Nat.le_trans (hard_len (i64_small (by decide) (by decide)) (i64_small (by decide) (by decide))) (by decide)) (by
     have h1 := recs_len_le (k := 30) (l := [.hard 0 0]) (fun r hr => by rw [List.mem_singleton.1 hr]; exact hard_len (i64_small (by decide) (by decide)) (i64_small (by decide) (by decide)))
     exact Nat.le_trans h1 (by decide)))
    have hlok := lay_first_ok (D := D)
    unfold LayPost at HLY
    unfold firstM at HOP hlok
    obtain ⟨p, hpp⟩ : ∃ p, layL ⟨zeroS, [], ⟨1, 0, 0⟩⟩ D [.hard 0 0] = p := ⟨_, rfl⟩
    rw [hpp] at HLY HOP hlok
    have HLK := Lib.hid hlok
    have HWL := Lib.hid hwal
    clear hlok hpp
    have HFW := Lib.hid hFW
    clear hwal hlg hw5 hFW hnd f4 k4 hll
    go_wp2_with fail
    refine Calls.mono HLY.out ?_
    rintro e w6 ⟨rfl, hw6, hf6⟩
    have HW6 := Lib.hid hw6
    have HF6 : Hid (Fr (Own pb mb) w w6) := (HFW.out.mono (o2 := Own pb mb) fun _ _ h => h.elim).trans hf6 fun k hk => by
     rcases hk with ⟨h1, _⟩ | hk
     ·exact .inr h1
     ·exact .inl hk
    have hs56 := hf6.size
    clear hw6 hf6 HLY
    by_cases hp0 : p.1 = 0
    ·have r1 : (p.1 == 0) = true := by simpa using hp0
     have HP0 := Lib.hid hp0
     clear hp0
     go_wp2_with fail
     go_ret2
     refine ⟨w.heap.size, ?_, fun _ => ⟨.slice none 0 0, .slice (some ⟨w3.heap.size, 0, none⟩) 1 1, ?_⟩, ?_, HF6.out⟩
     ·rw [HOP.out]; dsimp only; rw [if_pos HP0.out, HP0.out]; rfl
     ·have h := HW6.out
      rw [HLK.out HP0.out] at h
      rw [HOP.out]
      have hz5 := HFW.out.size
      refine h.mono (fun k hk => ?_) (fun k hk => hk.2) (fun k hk => by rintro (e | e) <;> omega) (fun k hk => by omega)
      rcases hk with hk | ⟨h1, h2⟩
      ·exact ⟨hk.1, Nat.lt_of_lt_of_le (HWL.out.log.lt k hk) hs56⟩
      ·exact ⟨by omega, h2⟩
     ·rw [HOP.out]; exact HW6.out.disk
    ·have r1 : (p.1 == 0) = false := by simpa using hp0
     have HP0 := Lib.hid hp0
     clear hp0
     go_wp2_with fail
     go_ret2
     refine ⟨0, ?_, fun h => absurd (by rw [HOP.out] at h; exact h) HP0.out, ?_, HF6.out⟩
     ·rw [HOP.out]; dsimp only; rw [if_neg HP0.out]; rfl
     ·rw [HOP.out]; exact HW6.out.disk
   ·have q0 : ((ns.length : Int) == 0) = false := by
     simp
     intro h
     exact hn0 (by rw [h]; rfl)
    have hnsp : 0 < ns.length := by omega
    have hnlt : ns.length = (numsD D.files).length := by rw [← HNS.out, List.length_mergeSort]
    have hnln : (numsN D).length = ns.length := by unfold numsN; rw [List.length_map, hnlt]
    have HNL := Lib.hid hnln
    have hpl := lt_of_block HD.out.head
    have hml := HD.out.map.lt
    have hws3 := (HFA.out.next HF3.out).size
    have hw23 := HF3.out.size
    have hw2s := HFA.out.size
    have hb3 := HF3.out.keep HB2.out (fun h => h)
    have hl3 := lt_of_block hb3
    have hw1s : w.heap.size < w2.heap.size := lt_of_block HB2.out
    have HQR : Hid (SRow w3 (fun k => w.heap.size < k ∧ k < w3.heap.size) 1 (.slice sa ns.length sc) ns.length ((numsD D.files).map (Value.int .i64))) := by
     have h := HROW3.out
     refine (SRow.of_owns h).mono fun k hk => ?_
     have := h.lt k hk
     exact ⟨by omega, this.2⟩
    have hD3 : DiskAt w3 pb mb D := HD.out.grow (HFA.out.next HF3.out)
    have HR1 : Hid (OpRel w w3 D pb mb 0 zeroS [] D (.slice none 0 0) (.slice none 0 0) w3) := by
     have hlg : LogAt w3 (fun k => k = w.heap.size) w.heap.size (.pointer (some ⟨pb, 0, none⟩)) (.slice none 0 0) (.slice none 0 0) zeroS [] :=
      ⟨hb3, World.ownsRow_nil _ _ _ _, World.ownsRow_nil _ _ _ _, rfl, fun k hk => (by simp [Value.ownBlock] at hk), fun k hk => (by simp [Value.ownBlock] at hk), fun k hk => (by omega)⟩
     have hwal : WalAt w3 (fun k => k = w.heap.size) w.heap.size pb mb (.slice none 0 0) (.slice none 0 0) zeroS [] D :=
      ⟨hlg, hD3, fun k hk => (by rintro (e | e) <;> omega), HEN.out.grow (HFA.out.next HF3.out), fun k hk => (by omega), hlow⟩
     exact ⟨rfl, rfl, plus_mono hwal ⟨⟨hpl, hml⟩, by omega, hl3⟩ (fun k hk => .inl hk) (Nat.le_refl _), fun k hk => (by simp [Value.ownBlock] at hk), Fr.refl _ _, OkS.zero, Nat.zero_le _, rfl, ⟨hpl, hml⟩, by omega, hl3⟩
    have hopen : openD D = readAll (numsN D) zeroS [] D := by
     unfold openD
     rw [if_neg]
     intro h0
     rw [h0] at hnln
     simp at hnln
     omega
    have HOPN := Lib.hid hopen
    have HINV := Lib.hid HD.out.inv
    have HF03 := Lib.hid (HFA.out.next HF3.out)
    have i9 : IntKind.i64.wrap ((ns.length : Int) - 1) = (ns.length : Int) - 1 := IntWalk.i64_in _ (by omega)
    clear hb3 hD3 hopen hnln hn0 hnlt
    go_wp2_with fail
    go_loopg [51] (ns.length) (fun j v51 wr => ∃ i : Nat, i + j = ns.length ∧ v51 = .int .i64 (i : Int) ∧ ∃ (st : StD) (segs : List SegD) (Dr : DiskD) (ve vs : Value), Hid (OpRel w w3 D pb mb i st segs Dr ve vs wr))
    case atStart => exact ⟨0, by omega, rfl, _, _, _, _, _, HR1.out⟩
    case round =>
     obtain ⟨i, hi4, rfl, st, segs, Dr, ve, vs, HO⟩ := hrel
     have HI4 := Lib.hid hi4
     clear hi4 HR1
     by_cases hlt2 : i < ns.length
     ·have hlti2 : (i : Int) < (ns.length : Int) := by omega
      obtain ⟨n, hn⟩ : ∃ n, (numsN D)[i]? = some n := ⟨_, List.getElem?_eq_getElem (by rw [HNL.out]; exact hlt2)⟩
      have hnD : (numsD D.files)[i]? = some ((n : Nat) : Int) ∧ 0 < n ∧ n < 1000000 := by
       have h1 := hn
       unfold numsN at h1
       rw [List.getElem?_map] at h1
       cases h2 : (numsD D.files)[i]? with
       | none => rw [h2] at h1; cases h1
       | some y =>
        rw [h2] at h1
        simp only [Option.map_some, Option.some.injEq] at h1
        obtain ⟨h3, f, hf, h4⟩ := mem_numsD.1 (List.mem_of_getElem? h2)
        have := numW_lt f.name
        refine ⟨by rw [← h1]; congr 1; omega, by omega, by omega⟩
      have HND := Lib.hid hnD
      obtain ⟨g, off, rfl, hc⟩ := (HQR.out.fr HO.out.fr (fun k hk e => by
       have hb := HO.out.base
       rcases e with e | e | e <;> omega)).cell hnsp
      have c0 := hc i (.int .i64 (n : Int)) (by rw [List.getElem?_map, hnD.1]; rfl)
      have HN := Lib.hid hn
      have HLEN := Lib.hid HO.out.len
      obtain ⟨va, vc, rfl⟩ : ∃ a c, vs = .slice a i c := by
       have := ownsRow_shape HO.out.wal.log.segr
       rwa [HLEN.out] at this
      have hh := HO.out.wal.log.head
      have l4 := cell_of hh (i := 4) (v := .slice va i vc) rfl
      have hll := lt_of_block hh
      obtain ⟨i3, hj, hj0, hj1, hj2⟩ := info_parts info143
      obtain ⟨lastb, hlast⟩ : ∃ b, ((i : Int) == (ns.length : Int) - 1) = b := ⟨_, rfl⟩
      have HLB : Hid (lastb = decide (i + 1 = (numsN D).length)) := by
       show _ = _
       rw [← hlast, HNL.out]
       by_cases h1 : i + 1 = ns.length
       ·rw [decide_eq_true h1]; simp; omega
       ·rw [decide_eq_false h1]; simp; omega
      clear hc hnD hn hh
      go_upto_region 20 with fail
      have HFX : Hid (Fr (fun _ => False) wr (wr.alloc (.cells #[.int .i64 (n : Int), .int .i64 0, .int .i64 0] 143))) := (Fr.refl _ _).alloc _
      have HROW : Hid ((wr.alloc (.cells #[.int .i64 (n : Int), .int .i64 0, .int .i64 0] 143)).ownsRow w3.heap.size 143 3 (.slice va i vc) i (segsC segs)) := by
       have h := HO.out.wal.log.segr
       rw [HLEN.out] at h
       have h2 := ownsRow_up h HO.out.up
       exact ownsRow_keep h2 fun k hk => HFX.out.block k (h2.lt k hk).2 (fun h => h)
      have HNEW : Hid (SRow (wr.alloc (.cells #[.int .i64 (n : Int), .int .i64 0, .int .i64 0] 143)) (fun _ => True) 3 (.slice (some ⟨wr.heap.size, 0, none⟩) 1 1) 1 (segC ⟨n, 0, 0⟩)) := SRow.of_block (e := 143) (f := (0, 0)) (by rw [block_new_at rfl]; simp [segC]) rfl (by simp [maxLen]) trivial
      have HSZ : Hid (w3.heap.size ≤ (wr.alloc (.cells #[.int .i64 (n : Int), .int .i64 0, .int .i64 0] 143)).heap.size) := Nat.le_trans HO.out.fr.size HFX.out.size
      go_wp2_with (at_builtin; refine wpList_append_row rfl (.tmp 60) (.tmp 63) 138 rfl w3.heap.size 143 i3 (.agg #[.int .i64 0, .int .i64 0, .int .i64 0]) 3 24 Tryz.underlying138 hj hj0 hj1 hj2 rfl (by decide) (.slice va i vc) i (segsC segs) rfl HROW.out (fun _ => True) _ 1 (segC ⟨n, 0, 0⟩) rfl HNEW.out segC_one ?c1 (by omega) HSZ.out ?_)
      case c1 => unfold maxLen; omega
      intro b8 c8 w8 hown8 hgrow8 _
      have HF8 : Hid (Fr (fun k => (Value.slice va i vc).ownBlock = some k) wr w8) := (HFX.out.mono (o2 := fun k => (Value.slice va i vc).ownBlock = some k) fun _ _ h => h.elim).grown hgrow8 fun k hk => .inl hk
      have HOWN8 : Hid (w8.ownsRow w3.heap.size 143 3 (.slice b8 (i + 1) c8) (segs ++ [(⟨n, 0, 0⟩ : SegD)]).length (segsC (segs ++ [(⟨n, 0, 0⟩ : SegD)]))) := by
       have e1 : segsC (segs ++ [(⟨n, 0, 0⟩ : SegD)]) = segsC segs ++ segC ⟨n, 0, 0⟩ := by rw [segs_app]; simp [segsC]
       rw [e1, List.length_append, HLEN.out]
       exact hown8
      have HUP : Hid (∀ k, (Value.slice b8 (i + 1) c8).ownBlock = some k → w3.heap.size ≤ k) := fun k hk => (HOWN8.out.lt k hk).1
      have hne8 : ¬ ((Value.slice va i vc).ownBlock = some w.heap.size) := fun e => by
       have := HO.out.up _ e
       have := HO.out.base
       omega
      have hh8 := HF8.out.keep HO.out.wal.log.head hne8
      have b8c := cell_of hh8 (i := 4) (v := .slice va i vc) rfl
      have mf := free_of 4 hh8
      have hll8 := lt_of_block hh8
      clear hown8 hgrow8 hh8 hne8 l4 hll
      go_upto_region 21 with fail
      obtain ⟨HW9, HF9⟩ := HO.out.app HF8.out HOWN8.out
      obtain ⟨w9, hw9⟩ : ∃ w9, w9 = w8.setCell ⟨w.heap.size, 4, none⟩ (.slice b8 (i + 1) c8) := ⟨_, rfl⟩
      rw [← hw9] at HW9 HF9
      rw [← hw9]
      have HRD := Lib.hid (wread_h HW9 HND.out.2.1 HND.out.2.2 HO.out.ok (by have := HO.out.few; omega) (by rw [HLEN.out]; omega) (by rw [HO.out.most]; exact hm) lastb)
      unfold WReadPost at HRD
      obtain ⟨p, hp⟩ : ∃ p, readSeg Dr st n lastb = p := ⟨_, rfl⟩
      have HP := Lib.hid hp
      rw [hp] at HRD
      have HW9 := Lib.hid HW9
      have HF9 := Lib.hid HF9
      clear hw9 hp mf b8c hll8 HROW HNEW HFX HSZ HOWN8 HF8 c0
      go_wp2_with fail
      refine Calls.mono HRD.out ?_
      rintro e w10 ⟨rfl, ⟨ve2, hw10⟩, hf10⟩
      obtain ⟨hw11, hf11⟩ := OpRel.read HO.out.base HF9.out hw10 hf10
      have HW11 := Lib.hid hw11
      have HF11 := Lib.hid hf11
      clear hw10 hf10 hw11 hf11 HRD
      by_cases hp0 : p.1.1 = 0
      ·have r1 : (p.1.1 == 0) = true := by simpa using hp0
       have HNX : Hid (OpRel w w3 D pb mb (i + 1) p.1.2.1 (segs ++ [p.1.2.2]) p.2 ve2 (.slice b8 (i + 1) c8) w10) := by
        have h := HO.out.next (w2 := w10) (ve2 := ve2) (vs2 := .slice b8 (i + 1) c8) (last := lastb) HW9.out.disk.inv hm HN.out HLB.out (by rw [HP.out]; exact hp0)
        rw [HP.out] at h
        refine h HW11.out (fun k hk => ?_) HF11.out
        exact HUP.out k hk
       clear hp0
       go_wp2_with fail
       go_roundg (ns.length - (i + 1))
       case measure => have := HI4.out; omega
       case rel => exact ⟨i + 1, by omega, by go_num, _, _, _, _, _, HNX.out⟩
      ·have r1 : (p.1.1 == 0) = false := by simpa using hp0
       have HE : Hid (openD D = ((p.1.1, (p.1.2.1, segs ++ [p.1.2.2])), p.2)) := by
        have h := (HO.out.seg HN.out HLB.out).1 (by rw [HP.out]; exact hp0)
        rw [HP.out] at h
        exact HOPN.out.trans h
       have HP0 := Lib.hid hp0
       clear hp0
       go_wp2_with fail
       go_ret2
       refine ⟨0, ?_, fun h => absurd (by rw [HE.out] at h; exact h) HP0.out, ?_, ?_⟩
       ·rw [HE.out]; dsimp only; rw [if_neg HP0.out]; rfl
       ·rw [HE.out]; exact HW11.out.disk
       ·refine (HF03.out.mono (o2 := Own pb mb) fun _ _ h => h.elim).trans HF11.out fun k hk => ?_
        rcases hk with rfl | hk
        ·exact .inr (Nat.le_refl _)
        ·exact .inl hk
     ·obtain rfl : i = ns.length := by have := HI4.out; omega
      have hlti2 : ¬ (ns.length : Int) < (ns.length : Int) := by omega
      have HE : Hid (openD D = ((0, (st, segs)), Dr)) := by
       have h := HO.out.all
       rw [← HNL.out, List.drop_length] at h
       exact HOPN.out.trans h
      go_wp2_with fail
      go_ret2
      refine ⟨w.heap.size, ?_, fun _ => ⟨ve, vs, ?_⟩, ?_, ?_⟩
      ·rw [HE.out]; rfl
      ·rw [HE.out]; exact HO.out.all_read
      ·rw [HE.out]; exact HO.out.wal.disk
      ·refine (HF03.out.mono (o2 := Own pb mb) fun _ _ h => h.elim).trans HO.out.fr fun k hk => ?_
       rcases hk with rfl | hk
       ·exact .inr (Nat.le_refl _)
       ·exact .inl hk
end Go.Proofs.YtgmghopcppniaaaGreatDoor
