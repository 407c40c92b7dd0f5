/- flush: the words gathered so far become a token. -/
import Derived.Test.YtpinjgdnhbogoaaGreatDoorV2
import Derived.Deep.RegionLaw
import Derived.BigCall
import Derived.Outline
namespace Go.Proofs.YtpinjgdnhbogoaaGreatDoor
open Go.RowKit Go.Lib

/-- a call of a Go function, as one step of a region that draws -/
theorem step_call {P : Program} {w : World} {ops : Array Oper} {o : Oper} {a : Act} {K : Act → World → Prop} {Q : Exit → Act → World → Prop} {E : Prop} (hgd : o.guard = none) (f : FuncId) (xs : Array Operand) (ats : Array TypeId)
    (ho : o.op = .call { callee := .value (.func f), args := xs, argTypes := ats }) (vs : List Value) (hv : xs.toList.map a.eval = vs) (hen : ∀ args w, (callFunc f args).run P w = .ok (.enter f args) w)
    (R : Ending → World → Prop) (hC : Calls P f vs.toArray w R) (h : ∀ e w', R e w' → ∃ v, e = .returned v ∧ K (a.put o.dst v) w') :
    if Region.wanted o (yielded ops a.tmps) = true then Oper.wp P o a w K Q else E := by
  rw [if_pos (by simp [Region.wanted, hgd])]
  obtain ⟨dst, op, ty, pos, after, guard⟩ := o
  simp only at ho h
  subst ho
  unfold Oper.wp
  have hv2 : xs.map a.eval = vs.toArray := by rw [← hv]; apply Array.ext'; simp
  rw [execOp_call_go, hen, Oper.upon_enter, hv2]
  have e : #[] ++ vs.toArray ++ #[] = vs.toArray := by simp
  rw [e]
  refine hC.mono fun e w' hR => ?_
  obtain ⟨v, rfl, hK⟩ := h e w' hR
  exact hK
theorem ent77 : ∀ args w, (callFunc 77 args).run Tryz.prog w = .ok (.enter 77 args) w := enters_of Tryz.func77 (by kernel_rfl) rfl
structure RIn (w : World) (lv : Value) (l : List TokD) (words : Str) (wr : World) : Prop where
  blk : wr.heap[w.heap.size]? = some (.cells #[lv] 22 (0, 0))
  tok : Toks w.heap.size wr lv l
  bld : Lib.IsBuilderF 115 5 (w.heap.size + 1) (w.heap.size + 1) (Lib.byteCells words) wr
  low : Below w.heap.size w wr
  big : w.heap.size + 1 < wr.heap.size
theorem isB_block {B b : Nat} {l : List Value} {w : World} (h : Lib.IsBuilderF 115 5 B b l w) : ∃ c f, w.heap[b]? = some (.cells c 115 f) := by
  rcases h with ⟨_, v, hb, _⟩ | ⟨_, v, hb, _⟩ <;> exact ⟨_, _, hb⟩
theorem RIn.fr {w wr w2 : World} {lv : Value} {l : List TokD} {words : Str} (h : RIn w lv l words wr) (hf : Fr (fun _ => False) wr w2) : RIn w lv l words w2 := by
  obtain ⟨h1, h2, h3, h4, h5⟩ := h
  exact ⟨hf.keep h1 (fun h => h), h2.fr hf, isB_fr h3 hf, h4.trans (hf.below h4.size (fun _ h => h.elim)), Nat.lt_of_lt_of_le h5 hf.size⟩
/-- behind a call that writes the builder alone -/
theorem RIn.bw {w wr w2 : World} {lv : Value} {l : List TokD} {words words2 : Str} (h : RIn w lv l words wr) (hb : Lib.IsBuilderF 115 5 (w.heap.size + 1) (w.heap.size + 1) (Lib.byteCells words2) w2) (hlo : Below (w.heap.size + 1) wr w2) (hk : Lib.OthersKept 5 (some (w.heap.size + 1)) wr w2) : RIn w lv l words2 w2 := by
  obtain ⟨h1, h2, h3, h4, h5⟩ := h
  exact ⟨hk _ _ h1 (by simp) (fun c fz e => by injection e with _ e; exact absurd e (by decide)), h2.others hk hlo.size (isB_block h3), hb, h4.trans (hlo.mono (by omega)), Nat.lt_of_lt_of_le h5 hlo.size⟩
theorem isB_own {B b B2 : Nat} {l : List Value} {w w' : World} {e size n : Nat} {v : Value} {xs : List Value} (h : Lib.IsBuilderF 115 5 B b l w) (hg : w.grownBy w' v.ownBlock) (hv : w.ownsRow B2 e size v n xs) (he : e ≠ 5) (he2 : e ≠ 115) : Lib.IsBuilderF 115 5 B b l w' := by
  have key : ∀ p, Lib.BuilderAtF 115 5 B b p l w → Lib.BuilderAtF 115 5 B b p l w' := by
    rintro p ⟨hB, u, hb, hown, hne⟩
    refine ⟨hB, u, block_grown hb hg (fun e1 => own_ne hv hb (fun e2 => he2 e2.symm) e1.symm), ⟨hown.1, ?_⟩, hne⟩
    rcases hown.2 with h2 | ⟨g, cap, cur, fz, hv2, hgB, hh, r⟩
    · exact .inl h2
    · exact .inr ⟨g, cap, cur, fz, hv2, hgB, block_grown hh hg (fun e1 => own_ne hv hh (fun e2 => he e2.symm) e1.symm), r⟩
  exact h.imp (key _) (key _)
/-- the tokens' row has grown, and its slice is stored -/
theorem RIn.push {w wr w7 : World} {lv lv2 : Value} {l : List TokD} {ps qs : List (TokD × Value)} {words : Str} (h : RIn w lv l words wr) (hps : ps.map Prod.fst = l) (hrow : wr.ownsRow w.heap.size 54 4 lv ps.length (tcells ps)) (hatt : ∀ p ∈ ps, wr.ownsRow w.heap.size 64 2 p.2 p.1.attrs.length (acells p.1.attrs)) (hqs : ∀ p ∈ qs, wr.ownsRow w.heap.size 64 2 p.2 p.1.attrs.length (acells p.1.attrs))
    (hg : wr.grownBy w7 lv.ownBlock) (hr : w7.ownsRow w.heap.size 54 4 lv2 (ps.length + qs.length) (tcells ps ++ tcells qs)) :
    w7.heap[w.heap.size]? = some (.cells #[lv] 22 (0, 0)) ∧ RIn w lv2 (l ++ qs.map Prod.fst) words (w7.setCell ⟨w.heap.size, 0, none⟩ lv2) := by
  obtain ⟨h1, h2, h3, h4, h5⟩ := h
  have hb7 := block_grown h1 hg (fun e => own_ne hrow h1 (by decide) e.symm)
  have hne := own_ne hr hb7 (by decide)
  have hB7 := isB_own h3 hg hrow (by decide) (by decide)
  have hsz := hg.size
  have hlow : Below w.heap.size w w7 := h4.grown hg h4.size (fun k hk => (hrow.lt k hk).1)
  have hatt2 : ∀ p ∈ ps ++ qs, w7.ownsRow w.heap.size 64 2 p.2 p.1.attrs.length (acells p.1.attrs) := by
    intro p hp
    have h6 : wr.ownsRow w.heap.size 64 2 p.2 p.1.attrs.length (acells p.1.attrs) := by
      rcases List.mem_append.1 hp with h | h
      · exact hatt p h
      · exact hqs p h
    refine ownsRow_keep h6 fun k hk => hg.block k (h6.lt k hk).2 fun e => ?_
    obtain ⟨c, f, hc⟩ : ∃ c f, wr.heap[k]? = some (.cells c 64 f) := by
      rcases h6.2 with ⟨h7, _⟩ | ⟨g, cap, cur, h7, _, h8, _⟩
      · rw [h7] at hk; simp [Value.ownBlock] at hk
      · rw [h7] at hk; simp [Value.ownBlock] at hk; subst hk; exact ⟨_, _, h8⟩
    exact own_ne hrow hc (by decide) e.symm
  refine ⟨hb7, ⟨block_set hb7 0 _, ⟨ps ++ qs, by rw [List.map_append, hps], ?_, fun p hp => ?_⟩, ?_, hlow.setCell (p := ⟨w.heap.size, 0, none⟩) (Nat.le_refl _) _, by simp; omega⟩⟩
  · rw [List.length_append, ← tcells_app]
    exact ownsRow_keep hr fun k hk => block_set_ne (fun e => hne (by rw [hk, e]))
  · have h6 := hatt2 p hp
    exact ownsRow_keep h6 fun k hk => block_set_ne (fun e => own_ne h6 hb7 (by decide) (by rw [hk, e]))
  · have key : ∀ p, Lib.BuilderAtF 115 5 (w.heap.size + 1) (w.heap.size + 1) p (Lib.byteCells words) w7 → Lib.BuilderAtF 115 5 (w.heap.size + 1) (w.heap.size + 1) p (Lib.byteCells words) (w7.setCell ⟨w.heap.size, 0, none⟩ lv2) := by
      rintro p ⟨hB, u, hb, hown, hne2⟩
      refine ⟨hB, u, (block_set_ne (by omega)).trans hb, ⟨hown.1, ?_⟩, hne2⟩
      rcases hown.2 with h2 | ⟨g, cap, cur, fz, hv2, hgB, hh, r⟩
      · exact .inl h2
      · exact .inr ⟨g, cap, cur, fz, hv2, hgB, (block_set_ne (by omega)).trans hh, r⟩
    exact hB7.imp (key _) (key _)
/-- what flush leaves as it was -/
def KeptX (lb wb : Nat) (lv : Value) (w w' : World) : Prop := ∀ k o, w.heap[k]? = some o → k ≠ lb → k ≠ wb → lv.ownBlock ≠ some k → (∀ c f, o ≠ .cells c 5 f) → w'.heap[k]? = some o
theorem KeptX.refl (lb wb : Nat) (lv : Value) (w : World) : KeptX lb wb lv w w := fun _ _ h _ _ _ _ => h
theorem KeptX.others {lb wb : Nat} {lv : Value} {a b c : World} (h : KeptX lb wb lv a b) (hk : Lib.OthersKept 5 (some wb) b c) : KeptX lb wb lv a c :=
  fun k o h1 h2 h3 h4 h5 => hk k o (h k o h1 h2 h3 h4 h5) (fun e => h3 (Option.some.inj e)) h5
theorem KeptX.fr {lb wb : Nat} {lv : Value} {a b c : World} (h : KeptX lb wb lv a b) (hf : Fr (fun _ => False) b c) : KeptX lb wb lv a c :=
  fun k o h1 h2 h3 h4 h5 => hf.keep (h k o h1 h2 h3 h4 h5) (fun h => h)
theorem KeptX.grown {lb wb : Nat} {lv : Value} {a b c : World} (h : KeptX lb wb lv a b) (hg : b.grownBy c lv.ownBlock) : KeptX lb wb lv a c :=
  fun k o h1 h2 h3 h4 h5 => block_grown (h k o h1 h2 h3 h4 h5) hg (fun e => h4 e.symm)
theorem KeptX.set {lb wb : Nat} {lv : Value} {a b : World} (h : KeptX lb wb lv a b) (u : Value) : KeptX lb wb lv a (b.setCell ⟨lb, 0, none⟩ u) :=
  fun k o h1 h2 h3 h4 h5 => (block_set_ne h2).trans (h k o h1 h2 h3 h4 h5)
theorem info54 : (Tryz.prog.info? 54).map (fun i => (i.zero, i.size, i.bytes)) = some (some (.agg #[.int .i64 0, .string ⟨#[]⟩, .slice none 0 0, .string ⟨#[]⟩]), 4, 64) := by kernel_rfl
theorem tcells_one {ps : List (TokD × Value)} (h : ∀ p ∈ ps, ∃ a n c, p.2 = .slice a n c) : ∀ u ∈ tcells ps, u.oneCell' = true := by
  intro u hu
  obtain ⟨p, hp, hp2⟩ := List.mem_flatMap.1 hu
  obtain ⟨a, n, c, h2⟩ := h p hp
  simp [tc] at hp2
  rcases hp2 with rfl | rfl | rfl | rfl
  · rfl
  · rfl
  · rw [h2]; rfl
  · rfl
theorem tcells_one' {w : World} {B : Nat} {ps : List (TokD × Value)} (h : ∀ p ∈ ps, w.ownsRow B 64 2 p.2 p.1.attrs.length (acells p.1.attrs)) : ∀ u ∈ tcells ps, u.oneCell' = true :=
  tcells_one fun p hp => by
    rcases (h p hp).2 with ⟨h1, _⟩ | ⟨g, cap, cur, h1, _⟩
    · exact ⟨_, _, _, h1⟩
    · exact ⟨_, _, _, h1⟩
set_option maxRecDepth 100000 in
set_option maxHeartbeats 8000000 in
theorem flush_h {w wr : World} {lv : Value} {l : List TokD} {words : Str} (h : RIn w lv l words wr) (hl : l.length ≤ 1000000) (hw : words.length ≤ 100000000) :
    Calls Tryz.prog 75 #[.pointer (some ⟨w.heap.size + 1, 0, none⟩), .pointer (some ⟨w.heap.size, 0, none⟩)] wr fun e w' => e = .returned (.tuple #[]) ∧ (∃ lv', RIn w lv' (flushL l words) [] w') ∧ KeptX w.heap.size (w.heap.size + 1) lv wr w' := by
  have HL := Lib.hid (Tryz.Builder_Len_f _ _ _ _ h.bld)
  rw [byteCells_len] at HL
  have HH := Lib.hid h
  by_cases h0 : words = []
  · subst h0
    clear h
    go_enter Tryz.func75, Tryz.ntmps75
    go_wp2_with fail
    refine HL.out.mono ?_
    rintro e w1 ⟨rfl, hw1⟩
    subst hw1
    go_wp2_with fail
    go_end0
    exact ⟨rfl, ⟨lv, HH.out⟩, KeptX.refl _ _ _ _⟩
  · have hpos : 0 < words.length := by cases words with | nil => exact absurd rfl h0 | cons _ _ => simp
    have HF := Lib.hid (flush_words l h0)
    have c0 := cell_of h.blk (i := 0) (v := lv) rfl
    have hbig := h.big
    have HS := Lib.hid (fun (W : World) (hF : Fr (fun _ => False) wr W) => Tryz.Builder_String_any_k _ _ _ W (isB_fr h.bld hF) (by have := hF.size; omega))
    clear h h0
    obtain ⟨i0, hi0, hz0, hz1, hz2⟩ := info_parts info54
    go_enter Tryz.func75, Tryz.ntmps75
    go_wp2_with fail
    refine HL.out.mono ?_
    rintro e w1 ⟨rfl, hw1⟩
    subst hw1
    go_wp2_with fail
    go_region_law (first
        | (refine step_call rfl 77 #[.tmp 0] #[115] rfl [.pointer (some ⟨w.heap.size + 1, 0, none⟩)] rfl ent77 _ (HS.out _ (by repeat (first | exact Fr.refl _ _ | refine Fr.drew ?_ | refine Fr.alloc ?_ _))) ?_; rintro e w2 ⟨rfl, hI2, hb2, hk2⟩; have HR2 := Lib.hid ((HH.out.fr (by repeat (first | exact Fr.refl _ _ | refine Fr.drew ?_ | refine Fr.alloc ?_ _))).bw hI2 hb2 hk2); have HK2 := Lib.hid (((KeptX.refl w.heap.size (w.heap.size + 1) lv w1).fr (by repeat (first | exact Fr.refl _ _ | refine Fr.drew ?_ | refine Fr.alloc ?_ _))).others hk2); clear hI2 hb2 hk2; have d2 := cell_of HR2.out.blk (i := 0) (v := lv) rfl; have hsz2 : w.heap.size < w2.heap.size := Nat.lt_of_succ_lt HR2.out.big; obtain ⟨ps, hps, hrow, hatt⟩ := HR2.out.tok; have hpl : ps.length ≤ 1000000 := Nat.le_trans (Nat.le_of_eq ((List.length_map _).symm.trans (congrArg List.length hps))) hl; have HP := Lib.hid (And.intro hps (And.intro hrow hatt)); clear hps hrow hatt; refine ⟨_, rfl, ?_⟩)
        | (refine step_append_row rfl (.tmp 4) (.tmp 7) 22 rfl w.heap.size 54 i0 (.agg #[.int .i64 0, .string ⟨#[]⟩, .slice none 0 0, .string ⟨#[]⟩]) 4 64 Tryz.underlying22 hi0 hz0 hz1 hz2 rfl (by decide) lv ps.length (tcells ps) rfl (ownsRow_fr HP.out.2.1 (by repeat (first | exact Fr.refl _ _ | refine Fr.drew ?_ | refine Fr.alloc ?_ _))) (fun _ => True) _ 1 (tcells [((⟨3, [], [], words⟩ : TokD), Value.slice none 0 0)]) rfl (SRow.of_block (S := fun _ => True) (e := 54) (f := (0, 0)) (by first | exact block_new_at (by simp) | exact block_new_drew (by simp)) rfl (by decide) trivial) (tcells_one (by simp)) (by unfold maxLen; omega) (by omega) (by have := HR2.out.low.size; simp; omega) ?_; intro b7 cap7 w7 hown7 hgrow7 _; obtain ⟨hb7, hR7⟩ := (HR2.out.fr (by repeat (first | exact Fr.refl _ _ | refine Fr.drew ?_ | refine Fr.alloc ?_ _))).push HP.out.1 (ownsRow_fr HP.out.2.1 (by repeat (first | exact Fr.refl _ _ | refine Fr.drew ?_ | refine Fr.alloc ?_ _))) (fun p hp => ownsRow_fr (HP.out.2.2 p hp) (by repeat (first | exact Fr.refl _ _ | refine Fr.drew ?_ | refine Fr.alloc ?_ _))) (qs := [((⟨3, [], [], words⟩ : TokD), Value.slice none 0 0)]) (by intro p hp; rw [List.mem_singleton.1 hp]; exact World.ownsRow_nil _ _ _ _) hgrow7 hown7; have HR7 := Lib.hid hR7; have HK7 := Lib.hid ((HK2.out.fr (by repeat (first | exact Fr.refl _ _ | refine Fr.drew ?_ | refine Fr.alloc ?_ _))).grown hgrow7); have g7 := cell_of hb7 (i := 0) (v := lv) rfl; have j7 := free_of 0 hb7; clear hown7 hgrow7 hb7 hR7 d2 c0)
        | fail)
    all_goals
      go_wp2_with fail
      refine (breset_h _ _ _ _ HR7.out.bld).mono ?_
      rintro e w8 ⟨rfl, hI8, hb8, hk8⟩
      go_wp2_with fail
      go_end0
      have hfin := HR7.out.bw (words2 := []) hI8 hb8 hk8
      rw [show l ++ List.map Prod.fst [((⟨3, [], [], words⟩ : TokD), Value.slice none 0 0)] = flushL l words from HF.out.symm] at hfin
      exact ⟨rfl, ⟨_, hfin⟩, (HK7.out.set _).others hk8⟩
end Go.Proofs.YtpinjgdnhbogoaaGreatDoor
