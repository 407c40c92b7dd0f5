/- Tokens of a tree. -/
import Derived.Test.YtpinjgdnhbogoaaGreatDoorN8
import Derived.Test.YtpinjgdnhbogoaaGreatDoorNA
import Derived.Test.YtpinjgdnhbogoaaGreatDoorN4
import Derived.Deep.DeepCutAuto
import Derived.Test.YtpinjgdnhbogoaaGreatDoorNE
namespace Go.Proofs.YtpinjgdnhbogoaaGreatDoor
open Go.RowKit Go.Lib

theorem ent73 : ∀ args w, (callFunc 73 args).run Tryz.prog w = .ok (.enter 73 args) w := enters_of Tryz.func73 (by kernel_rfl) rfl
def tkF (lb wb : Nat) : Value := .func (.func 72) #[] #[.pointer (some ⟨lb, 0, none⟩), .pointer (some ⟨wb, 0, none⟩)]
def TkPost (lb B : Nat) (lv : Value) (l : List TokD) (n : NodeD) (w : World) (e : Ending) (w' : World) : Prop :=
  e = .returned (.tuple #[]) ∧ ∃ lv', w'.heap[lb]? = some (.cells #[lv'] 22 (0, 0)) ∧ TokO 54 B (fun _ => False) w' lv' (l ++ tokN n) ∧ Fr (fun k => k = lb ∨ lv.ownBlock = some k) w w' ∧ ∀ k, lv'.ownBlock = some k → lv.ownBlock = some k ∨ w.heap.size ≤ k
structure TkIn (lb wb B : Nat) (lv0 : Value) (w0 : World) (bx : Array Value) (ps : List (TokD × Value)) (lv : Value) (W : World) : Prop where
  cell : W.heap[lb]? = some (.cells #[lv] 22 (0, 0))
  row : W.ownsRow B 54 4 lv ps.length (tcells ps)
  att : ∀ p ∈ ps, SRow W (fun k => (False ∧ k < B) ∨ (B ≤ k ∧ k < W.heap.size ∧ lv.ownBlock ≠ some k)) 2 p.2 p.1.attrs.length (acells p.1.attrs)
  wbc : W.heap[wb]? = some (.cells #[tkF lb wb] 109 (0, 0))
  box : W.heap[w0.heap.size]? = some (.cells bx 30 (0, 0))
  fr : Fr (fun k => k = lb ∨ lv0.ownBlock = some k) w0 W
  own : ∀ k, lv.ownBlock = some k → lv0.ownBlock = some k ∨ w0.heap.size ≤ k
  pos : lb < B ∧ wb < B ∧ lb ≠ wb ∧ B ≤ w0.heap.size
theorem TkIn.fr2 {lb wb B : Nat} {lv0 lv : Value} {w0 W W2 : World} {bx : Array Value} {ps : List (TokD × Value)} (h : TkIn lb wb B lv0 w0 bx ps lv W) (hF : Fr (fun _ => False) W W2) : TkIn lb wb B lv0 w0 bx ps lv W2 where
  cell := hF.keep h.cell (fun h => h)
  row := ownsRow_fr h.row hF
  att := fun p hp => ((h.att p hp).fr hF fun _ _ h => h).mono fun k hk => by
    rcases hk with hk | hk
    · exact .inl hk
    · exact .inr ⟨hk.1, Nat.lt_of_lt_of_le hk.2.1 hF.size, hk.2.2⟩
  wbc := hF.keep h.wbc (fun h => h)
  box := hF.keep h.box (fun h => h)
  fr := h.fr.trans hF fun _ h => h.elim
  own := h.own
  pos := h.pos
theorem TkIn.toks {lb wb B : Nat} {lv0 lv : Value} {w0 W : World} {bx : Array Value} {ps : List (TokD × Value)} (h : TkIn lb wb B lv0 w0 bx ps lv W) : TokO 54 B (fun _ => False) W lv (ps.map Prod.fst) := ⟨ps, rfl, h.row, h.att⟩
theorem TkIn.push {lb wb B B2 : Nat} {lv0 lv v7 av : Value} {w0 W W2 w7 : World} {bx : Array Value} {ps : List (TokD × Value)} {x : TokD} (h : TkIn lb wb B lv0 w0 bx ps lv W) (hF : Fr (fun _ => False) W W2)
    (hq : SRow W2 (fun k => B2 ≤ k ∧ k < W2.heap.size) 2 av x.attrs.length (acells x.attrs)) (hB2 : W.heap.size ≤ B2) (hg : W2.grownBy w7 lv.ownBlock) (hat : v7.ownBlock = lv.ownBlock ∨ v7.ownBlock = some W2.heap.size) (hr : w7.ownsRow B 54 4 v7 (ps.length + 1) (tcells ps ++ tcells [(x, av)])) :
    w7.heap[lb]? = some (.cells #[lv] 22 (0, 0)) ∧ TkIn lb wb B lv0 w0 bx (ps ++ [(x, av)]) v7 (w7.setCell ⟨lb, 0, none⟩ v7) := by
  have h2 := h.fr2 hF
  have hp := h.pos
  have hlt : ∀ k, lv.ownBlock = some k → B ≤ k ∧ k < W.heap.size := fun k hk => h.row.lt k hk
  have hs := h.fr.size
  have hs2 := hF.size
  have hs7 := hg.size
  have hc7 : w7.heap[lb]? = some (.cells #[lv] 22 (0, 0)) := block_grown h2.cell hg (fun e => by have := hlt lb e.symm; omega)
  have hw7 : w7.heap[wb]? = some (.cells #[tkF lb wb] 109 (0, 0)) := block_grown h2.wbc hg (fun e => by have := hlt wb e.symm; omega)
  have hb7 : w7.heap[w0.heap.size]? = some (.cells bx 30 (0, 0)) := block_grown h2.box hg (fun e => own_ne h2.row h2.box (by decide) e.symm)
  have hfs : Fr (fun k => k = lb) w7 (w7.setCell ⟨lb, 0, none⟩ v7) := fr_set _ _ _ _
  have hown7 : ∀ k, v7.ownBlock = some k → B ≤ k := fun k hk => (hr.lt k hk).1
  have hbs : w7.heap.size = (w7.setCell ⟨lb, 0, none⟩ v7).heap.size := by simp
  have hw0 : w0.heap.size < W.heap.size := lt_of_block h.box
  refine ⟨hc7, { cell := block_set hc7 0 v7, row := ?_, att := ?_, wbc := hfs.keep hw7 (fun e => hp.2.2.1 e.symm), box := hfs.keep hb7 (by omega), fr := ?_, own := ?_, pos := hp }⟩
  · rw [List.length_append, ← tcells_app]
    exact ownsRow_keep hr fun k hk => block_set_ne (by have := hown7 k hk; omega)
  · have hfg : Fr (fun k => lv.ownBlock = some k) W2 w7 := (Fr.refl _ _).grown hg fun k hk => .inl hk
    have key : ∀ {u : Value} {m : Nat} {xs : List Value}, SRow W2 (fun k => (False ∧ k < B) ∨ (B ≤ k ∧ k < W2.heap.size ∧ lv.ownBlock ≠ some k)) 2 u m xs → SRow (w7.setCell ⟨lb, 0, none⟩ v7) (fun k => (False ∧ k < B) ∨ (B ≤ k ∧ k < (w7.setCell ⟨lb, 0, none⟩ v7).heap.size ∧ v7.ownBlock ≠ some k)) 2 u m xs := by
      intro u m xs hu
      refine ((hu.fr hfg fun k hk e => ?_).fr hfs fun k hk e => ?_).mono fun k hk => ?_
      · rcases hk with hk | hk
        · exact hk.1
        · exact hk.2.2 e
      · rcases hk with hk | hk
        · exact hk.1
        · omega
      · rcases hk with hk | hk
        · exact .inl hk
        · refine .inr ⟨hk.1, by omega, fun e => ?_⟩
          rcases hat with h | h
          · rw [h] at e; exact hk.2.2 e
          · rw [h] at e; cases e; omega
    intro p hp'
    rcases List.mem_append.1 hp' with hp' | hp'
    · refine key (((h.att p hp').fr hF fun _ _ h => h).mono fun k hk => ?_)
      rcases hk with hk | hk
      · exact .inl hk
      · exact .inr ⟨hk.1, by omega, hk.2.2⟩
    · simp only [List.mem_singleton] at hp'; subst hp'
      exact key (row_behind hq (by omega) (fun k hk => by have := hlt k hk; omega))
  · exact (((h.fr.trans hF fun _ h => h.elim).trans ((Fr.refl (fun k => lv.ownBlock = some k) W2).grown hg fun k hk => .inl hk) fun k hk => by rcases h.own k hk with e | e; exact .inl (.inr e); exact .inr e)).setCell (p := ⟨lb, 0, none⟩) (.inl (.inl rfl)) v7
  · intro k hk
    rcases hat with e | e
    · rw [e] at hk; exact h.own k hk
    · rw [e] at hk; cases hk; exact .inr (by omega)
/-- behind a kid -/
theorem TkIn.kid {lb wb B : Nat} {lv0 lv : Value} {w0 W W2 w3 : World} {bx : Array Value} {ps : List (TokD × Value)} {x : NodeD} {e : Ending} (h : TkIn lb wb B lv0 w0 bx ps lv W) (hF : Fr (fun _ => False) W W2) (hp : TkPost lb B lv (ps.map Prod.fst) x W2 e w3) :
    ∃ ps' lv', ps'.map Prod.fst = ps.map Prod.fst ++ tokN x ∧ TkIn lb wb B lv0 w0 bx ps' lv' w3 := by
  obtain ⟨_, lv', h1, ⟨ps', h2, h3, h4⟩, h5, h6⟩ := hp
  have hh := h.fr2 hF
  have hs := hF.size
  have hw0 : w0.heap.size < W.heap.size := lt_of_block h.box
  have hlt : ∀ k, lv.ownBlock = some k → B ≤ k ∧ k < W.heap.size := fun k hk => h.row.lt k hk
  have hps := h.pos
  refine ⟨ps', lv', h2, { cell := h1, row := h3, att := h4, wbc := h5.keep hh.wbc (by rintro (e | e); exact hps.2.2.1 e.symm; have := hlt _ e; omega), box := h5.keep hh.box (by rintro (e | e); have := hps; omega; exact own_ne hh.row hh.box (by decide) e), fr := ?_, own := ?_, pos := hps }⟩
  · refine (h.fr.trans hF fun _ h => h.elim).trans h5 fun k hk => ?_
    rcases hk with e | e
    · exact .inl (.inl e)
    · rcases h.own k e with e | e
      · exact .inl (.inr e)
      · exact .inr e
  · intro k hk
    rcases h6 k hk with e | e
    · exact h.own k e
    · exact .inr (by omega)
theorem info54b : (Tryz.prog.info? 54).map (fun i => (i.zero, i.size, i.bytes)) = some (some (.agg #[.int .i64 0, .string ⟨#[]⟩, .slice none 0 0, .string ⟨#[]⟩]), 4, 64) := by kernel_rfl
theorem tk_start {lb wb B : Nat} {lv : Value} {w : World} {l : List TokD} {bx : Array Value} (h1 : w.heap[lb]? = some (.cells #[lv] 22 (0, 0))) (h2 : TokO 54 B (fun _ => False) w lv l) (h3 : w.heap[wb]? = some (.cells #[tkF lb wb] 109 (0, 0))) (h4 : lb < B ∧ wb < B ∧ lb ≠ wb ∧ B ≤ w.heap.size) :
    ∃ ps, ps.map Prod.fst = l ∧ TkIn lb wb B lv w bx ps lv (w.alloc (.cells bx 30)) := by
  obtain ⟨ps, e, hr, ha⟩ := h2
  have hF : Fr (fun _ => False) w (w.alloc (.cells bx 30)) := (Fr.refl _ _).alloc _
  exact ⟨ps, e, { cell := hF.keep h1 (fun h => h), row := ownsRow_fr hr hF, att := fun p hp => ((ha p hp).fr hF fun _ _ h => h).mono fun _ hk => hk.imp id fun h => ⟨h.1, Nat.lt_of_lt_of_le h.2.1 hF.size, h.2.2⟩, wbc := hF.keep h3 (fun h => h), box := block_new _ _, fr := hF.mono fun _ _ h => h.elim, own := fun k hk => .inl hk, pos := h4 }⟩
theorem tokN_parts (n : NodeD) : tokN n = [⟨1, n.name, n.attrs, []⟩] ++ (wordsT n.text ++ (tokK n.kids ++ [⟨2, n.name, [], []⟩])) := by rw [tokN_eq]; rfl
set_option maxRecDepth 100000 in
set_option maxHeartbeats 4000000 in
theorem tokwalk_h : ∀ (m : Nat) (n : NodeD), weighN n < m → ∀ (w : World) (S : Nat → Prop) (c0 c1 c2 c3 : Value) (lb wb B : Nat) (lv : Value) (l : List TokD),
    NodeV w S n [c0, c1, c2, c3] → (∀ k, S k → k < B ∧ k ≠ lb) → w.heap[lb]? = some (.cells #[lv] 22 (0, 0)) → TokO 54 B (fun _ => False) w lv l → w.heap[wb]? = some (.cells #[tkF lb wb] 109 (0, 0)) → (lb < B ∧ wb < B ∧ lb ≠ wb ∧ B ≤ w.heap.size) → fewN n → l.length + 3 * manyN n ≤ 100000 →
    Calls Tryz.prog 72 #[.agg #[c0, c1, c2, c3], .pointer (some ⟨lb, 0, none⟩), .pointer (some ⟨wb, 0, none⟩)] w (TkPost lb B lv l n w)
  | 0, _, h => by omega
  | m + 1, n, hm => by
    intro w S c0 c1 c2 c3 lb wb B lv l hn hS hlb hT hwb hpos hfew hlen
    obtain ⟨av, kv, xs, hcs, ha, hk, hks⟩ := hn.parts
    simp only [List.cons.injEq, and_true] at hcs
    obtain ⟨rfl, rfl, rfl, rfl⟩ := hcs
    obtain ⟨-, a1, p1, rfl, -⟩ := id ha
    obtain ⟨-, a3, p3, rfl, -, -, -, -⟩ := id hk
    obtain ⟨i54, hi54, hz54, hs54, hby54⟩ := info_parts info54b
    obtain ⟨ps, hps, hin⟩ := tk_start (bx := #[.string (bs n.name), .slice a1 n.attrs.length p1, .string (bs n.text), .slice a3 n.kids.length p3]) hlb hT hwb hpos
    have hmn := many_node n
    have hkl := manyK_len n.kids
    obtain ⟨kn, hkn⟩ : ∃ kn, n.kids.length = kn := ⟨_, rfl⟩
    rw [hkn] at hk hkl hin ⊢
    have hfa := (few_node hfew).1
    have HCl0 := Lib.hid (fun (W : World) (hF : Fr (fun k => k = lb ∨ lv.ownBlock = some k) w W) (hb : ∀ k, lv.ownBlock = some k → B ≤ k) => clone_h (w := W) (ha.fr hF fun k hk e => by have := hS k hk; rcases e with e | e; omega; have := hb k e; omega) (by omega))
    have hplen : ps.length = l.length := by rw [← hps, List.length_map]
    have hpl : ps.length + 3 * manyN n ≤ 100000 := by omega
    have hkn2 : kn ≤ 100000 := by omega
    have HK := Lib.hid (And.intro hk hks)
    have HS := Lib.hid hS
    have HM := Lib.hid hm
    have HX := Lib.hid (And.intro hmn (And.intro hfew hps))
    have HL := Lib.hid hkn
    have hIH := Lib.hid (tokwalk_h m)
    have HI := Lib.hid hin
    obtain ⟨bl, cl, rfl⟩ := ownsRow_shape hin.row
    have z0 := cell_of hin.cell (i := 0) (v := .slice bl ps.length cl) rfl
    have z1 := free_of 0 hin.cell
    have z2 := cell_of hin.box (i := 0) (v := .string (bs n.name)) rfl
    have z3 := cell_of hin.box (i := 1) (v := .slice a1 n.attrs.length p1) rfl
    have z4 := cell_of hin.box (i := 2) (v := .string (bs n.text)) rfl
    have z5 := cell_of hin.box (i := 3) (v := .slice a3 kn p3) rfl
    have hw0 : w.heap.size < (w.alloc (.cells #[.string (bs n.name), .slice a1 n.attrs.length p1, .string (bs n.text), .slice a3 kn p3] 30)).heap.size := by simp
    have hl0 : lb < (w.alloc (.cells #[.string (bs n.name), .slice a1 n.attrs.length p1, .string (bs n.text), .slice a3 kn p3] 30)).heap.size := by simp; omega
    have HBo : Hid (∀ k, Value.ownBlock (.slice bl ps.length cl) = some k → B ≤ k) := fun k hk => (hin.row.lt k hk).1
    have HPos := Lib.hid hpos
    clear hn ha hk hks hS hlb hT hwb hpos hfew hlen hm hmn hkn hps hin hplen
    go_enter Tryz.func72, Tryz.ntmps72
    go_upto_region 1 with fail
    go_cut [] (fun wx => ∃ ps2 lv2, ps2.map Prod.fst = ps.map Prod.fst ++ [⟨1, n.name, n.attrs, []⟩] ∧ TkIn lb wb B (.slice bl ps.length cl) w #[.string (bs n.name), .slice a1 n.attrs.length p1, .string (bs n.text), .slice a3 kn p3] ps2 lv2 wx)
    case rest =>
      obtain ⟨ps2, lv2, he2, hI2⟩ := hcut
      clear z0 z1 z2 z3 z4 z5 hw0 hl0
      obtain ⟨bl2, cl2, rfl⟩ := ownsRow_shape hI2.row
      have hpl2 : ps2.length = ps.length + 1 := by have := congrArg List.length he2; simpa using this
      have hb2 : ps2.length ≤ 100001 := by have := many_pos n; omega
      have HE2 := Lib.hid (And.intro he2 hpl2)
      have HI2 := Lib.hid hI2
      have z0 := cell_of hI2.cell (i := 0) (v := .slice bl2 ps2.length cl2) rfl
      have z1 := free_of 0 hI2.cell
      have z2 := cell_of hI2.box (i := 2) (v := .string (bs n.text)) rfl
      have hl0 := lt_of_block hI2.cell
      have hw0 := lt_of_block hI2.box
      clear hI2 he2 hpl2
      obtain ⟨bt, hbt⟩ : ∃ b, (bs n.text).toList.isEmpty = b := ⟨_, rfl⟩
      have HBt := Lib.hid (show n.text.isEmpty = bt by rw [← hbt, bs_toList])
      go_upto_if 17 with fail
      go_cut [] (fun wx => ∃ ps3 lv3, ps3.map Prod.fst = ps2.map Prod.fst ++ wordsT n.text ∧ ps3.length ≤ ps2.length + 1 ∧ TkIn lb wb B (.slice bl ps.length cl) w #[.string (bs n.name), .slice a1 n.attrs.length p1, .string (bs n.text), .slice a3 kn p3] ps3 lv3 wx)
      case first =>
        cases bt with
        | true =>
          have HTx : Hid (n.text = []) := List.isEmpty_iff.1 HBt.out
          clear hbt
          go_wp2_with fail
          go_meet
          exact ⟨ps2, _, by rw [HTx.out]; unfold wordsT; simp, by omega, HI2.out⟩
        | false =>
          have HTx : Hid (n.text ≠ []) := fun e => by have := HBt.out; rw [e] at this; cases this
          have HA : Hid (Fr (fun _ => False) wc (wc.alloc (.cells #[.int .i64 3, .string ⟨#[]⟩, .slice none 0 0, .string (bs n.text)] 54))) := (Fr.refl _ _).alloc _
          clear hbt
          go_wp2_with (at_builtin; refine wpList_append_shape rfl (.tmp 18) (.tmp 22) 22 rfl B 54 i54 (.agg #[.int .i64 0, .string ⟨#[]⟩, .slice none 0 0, .string ⟨#[]⟩]) 4 64 Tryz.underlying22 hi54 hz54 hs54 hby54 rfl (by decide) (.slice bl2 ps2.length cl2) ps2.length (tcells ps2) rfl (ownsRow_fr HI2.out.row HA.out) ⟨wc.heap.size, 0, none⟩ 1 1 (tcells [(⟨3, [], [], n.text⟩, .slice none 0 0)]) rfl rfl (news_at (block_new _ _)) (tcells_one2 (fun p hp => by simp at hp; subst hp; exact ⟨_, _, _, rfl⟩)) (by unfold maxLen; omega) (by omega) (by have h1 := HPos.out; have h2 := HI2.out.fr.size; simp; omega) (by omega) ?_; intro g7 cap7 w7 hown7 hgrow7 hat7; obtain ⟨hc7, hI7⟩ := HI2.out.push (x := ⟨3, [], [], n.text⟩) (B2 := wc.heap.size) HA.out (SRow.nil _ _ _) (Nat.le_refl _) hgrow7 (hat7.elim (fun e => .inl (by rw [e]; rfl)) (fun e => .inr (by rw [e]; rfl))) hown7; have HI7 := Lib.hid hI7; have c7 := cell_of hc7 (i := 0) (v := .slice bl2 ps2.length cl2) rfl; have j7 := free_of 0 hc7; have l7 := lt_of_block hc7; clear hown7 hgrow7 hat7 hc7 hI7)
          go_meet
          exact ⟨_, _, by rw [List.map_append]; unfold wordsT; rw [if_neg (by simpa using HTx.out)]; rfl, by rw [List.length_append]; simp, HI7.out⟩
      case rest =>
        rename World => wc2
        obtain ⟨ps3, lv3, he3, hpl3, hI3⟩ := hcut
        clear z0 z1 z2 hl0 hw0
        have hwl : ps3.length ≤ ps.length + 2 := by have := HE2.out.2; omega
        have HE3 := Lib.hid (show ps3.map Prod.fst = l ++ (⟨1, n.name, n.attrs, []⟩ :: wordsT n.text) by rw [he3, HE2.out.1, HX.out.2.2]; simp)
        have HI3 := Lib.hid hI3
        have z5 := cell_of hI3.box (i := 3) (v := .slice a3 kn p3) rfl
        clear he3 hpl3 hI3
        go_wp2_with fail
        go_loopg [27] kn (fun j v27 w' => ∃ W, W = w' ∧ ∃ i : Nat, i + j = kn ∧ v27 = .int .i64 i ∧ Hid (∃ ps4 lv4, ps4.map Prod.fst = l ++ (⟨1, n.name, n.attrs, []⟩ :: (wordsT n.text ++ tokK (n.kids.take i))) ∧ TkIn lb wb B (.slice bl ps.length cl) w #[.string (bs n.name), .slice a1 n.attrs.length p1, .string (bs n.text), .slice a3 kn p3] ps4 lv4 W))
        case atStart => exact ⟨_, rfl, 0, by omega, rfl, ps3, lv3, by rw [HE3.out]; simp [tokK], HI3.out⟩
        case round =>
          obtain ⟨W, rfl, i, hi, rfl, HR⟩ := hrel
          obtain ⟨ps4, lv4, he4, hI4⟩ := HR.out
          have hlen4 : ps4.length ≤ ps.length + 2 + 3 * manyK (n.kids.take i) := by
            have h1 := congrArg List.length he4
            have h2 := congrArg List.length HE3.out
            have h3 := tokK_len (n.kids.take i)
            simp only [List.length_map, List.length_append, List.length_cons] at h1 h2
            omega
          by_cases hlt : i < kn
          · obtain ⟨x, hx⟩ : ∃ x, n.kids[i]? = some x := ⟨_, List.getElem?_eq_getElem (by rw [HL.out]; exact hlt)⟩
            have hfo : ∀ k, S k → ¬ (k = lb ∨ Value.ownBlock (.slice bl ps.length cl) = some k) := fun k hk e => by
              have h1 := HS.out k hk
              rcases e with e | e
              · omega
              · have := HBo.out k e; omega
            have hkr := HK.out.1.fr hI4.fr hfo
            have hkk := KidsV.fr hI4.fr hfo n.kids HK.out.2
            obtain ⟨g, off, rfl, hc⟩ := hkr.cell (by omega)
            obtain ⟨j1, j2, j3, j4, j5, j6, hxv, q0, q1, q2, q3⟩ := kid_cells hc hkk hx
            have y1 := cell_of hI4.wbc (i := 0) (v := tkF lb wb) rfl
            unfold tkF at y1
            have b5 := lt_of_block hI4.wbc
            have HC := Lib.hid (fun (W' : World) (hF : Fr (fun _ => False) W W') => hIH.out x (by have := weigh_in hx; have := HM.out; omega) W' S _ _ _ _ lb wb B lv4 (ps4.map Prod.fst) (NodeV.fr hF (fun _ _ h => h) x hxv) HS.out (hF.keep hI4.cell (fun h => h)) (hI4.fr2 hF).toks (hF.keep hI4.wbc (fun h => h)) ⟨HPos.out.1, HPos.out.2.1, HPos.out.2.2.1, by have := HPos.out; have := hI4.fr.size; have := hF.size; omega⟩ (few_kid HX.out.2.1 hx) (by have := many_kid hx; have := HX.out.1; rw [List.length_map]; omega))
            have HXx := Lib.hid (And.intro hx (And.intro hi he4))
            have HI4 := Lib.hid hI4
            clear hx hi hkr hkk hc hxv he4 hI4 hfo z5 HR
            go_wp2_with fail
            refine Calls.mono (HC.out _ ((Fr.refl _ _).alloc _)) ?_
            intro e w3 hp
            have HN := Lib.hid (HI4.out.kid ((Fr.refl _ _).alloc _) hp)
            obtain ⟨rfl, -⟩ := hp
            go_wp2_with fail
            go_roundg (kn - (i + 1))
            case measure => have := HXx.out.2.1; omega
            case rel =>
              obtain ⟨ps5, lv5, he5, hI5⟩ := HN.out
              exact ⟨_, rfl, i + 1, by have := HXx.out.2.1; omega, by go_num, ps5, lv5, by rw [he5, HXx.out.2.2, tokK_take HXx.out.1]; simp, hI5⟩
          · have hik : i = kn := by omega
            have htk : n.kids.take i = n.kids := by rw [hik, ← HL.out, List.take_length]
            rw [htk] at he4 hlen4
            have hb4 : ps4.length ≤ 100000 := by have := HX.out.1; omega
            obtain ⟨bl4, cl4, rfl⟩ := ownsRow_shape hI4.row
            have HE4 := Lib.hid he4
            have HI4 := Lib.hid hI4
            have z0 := cell_of hI4.cell (i := 0) (v := .slice bl4 ps4.length cl4) rfl
            have z1 := free_of 0 hI4.cell
            have z2 := cell_of hI4.box (i := 0) (v := .string (bs n.name)) rfl
            have hl0 := lt_of_block hI4.cell
            have HA : Hid (Fr (fun _ => False) W (W.alloc (.cells #[.int .i64 2, .string (bs n.name), .slice none 0 0, .string ⟨#[]⟩] 54))) := (Fr.refl _ _).alloc _
            clear he4 hI4 hi hik htk hlen4 z5 HR
            go_wp2_with (at_builtin; refine wpList_append_shape rfl (.tmp 35) (.tmp 39) 22 rfl B 54 i54 (.agg #[.int .i64 0, .string ⟨#[]⟩, .slice none 0 0, .string ⟨#[]⟩]) 4 64 Tryz.underlying22 hi54 hz54 hs54 hby54 rfl (by decide) (.slice bl4 ps4.length cl4) ps4.length (tcells ps4) rfl (ownsRow_fr HI4.out.row HA.out) ⟨W.heap.size, 0, none⟩ 1 1 (tcells [(⟨2, n.name, [], []⟩, .slice none 0 0)]) rfl rfl (news_at (block_new _ _)) (tcells_one2 (fun p hp => by simp at hp; subst hp; exact ⟨_, _, _, rfl⟩)) (by unfold maxLen; omega) (by omega) (by have h1 := HPos.out; have h2 := HI4.out.fr.size; simp; omega) (by omega) ?_; intro g7 cap7 w7 hown7 hgrow7 hat7; obtain ⟨hc7, hI7⟩ := HI4.out.push (x := ⟨2, n.name, [], []⟩) (B2 := W.heap.size) HA.out (SRow.nil _ _ _) (Nat.le_refl _) hgrow7 (hat7.elim (fun e => .inl (by rw [e]; rfl)) (fun e => .inr (by rw [e]; rfl))) hown7; have HI7 := Lib.hid hI7; have c7 := cell_of hc7 (i := 0) (v := .slice bl4 ps4.length cl4) rfl; have j7 := free_of 0 hc7; have l7 := lt_of_block hc7; clear hown7 hgrow7 hat7 hc7 hI7)
            go_end0
            obtain ⟨h1, h2, h3, h4, h5, h6, h7, h8⟩ := HI7.out
            refine ⟨rfl, _, h1, ?_, h6, h7⟩
            have ht := HI7.out.toks
            rw [List.map_append, HE4.out] at ht
            have e : l ++ (⟨1, n.name, n.attrs, []⟩ :: (wordsT n.text ++ tokK n.kids)) ++ [⟨2, n.name, [], []⟩] = l ++ tokN n := by rw [tokN_eq]; simp
            rw [← e]
            exact ht
    case first =>
    generalize hWd : w.alloc (.cells #[.string (bs n.name), .slice a1 n.attrs.length p1, .string (bs n.text), .slice a3 kn p3] 30) = W0 at *
    have HWF : Hid (Fr (fun _ => False) w W0) := by rw [← hWd]; exact (Fr.refl _ _).alloc _
    clear hWd
    have HCl := Lib.hid (fun (W : World) (hF : Fr (fun _ => False) W0 W) => HCl0.out W ((HWF.out.next hF).mono fun _ _ h => h.elim) HBo.out)
    go_region_law (first
      | (refine step_call rfl 73 #[.tmp 10] #[27] rfl [.slice a1 n.attrs.length p1] rfl ent73 _ (HCl.out _ (by repeat (first | exact Fr.refl _ _ | refine Fr.drew ?_))) ?_; rintro e w5 ⟨v5, rfl, hsr5, hF5⟩; obtain ⟨-, aq, cq, rfl, -, -, -, -⟩ := id hsr5; have H5 := Lib.hid (And.intro hsr5 (show Fr (fun _ => False) W0 w5 from hF5.start rfl rfl rfl rfl)); have k0 := H5.out.2.cell z0 (fun h => h); have k2 := H5.out.2.cell z2 (fun h => h); have hw5 := Nat.lt_of_lt_of_le hw0 H5.out.2.size; have hl5 := Nat.lt_of_lt_of_le hl0 H5.out.2.size; clear hsr5 hF5; refine ⟨_, rfl, ?_⟩)
      | (refine step_append_at rfl (.tmp 6) (.tmp 13) 22 rfl B 54 i54 (.agg #[.int .i64 0, .string ⟨#[]⟩, .slice none 0 0, .string ⟨#[]⟩]) 4 64 Tryz.underlying22 hi54 hz54 hs54 hby54 rfl (by decide) (.slice bl ps.length cl) ps.length (tcells ps) rfl (ownsRow_fr HI.out.row (H5.out.2.next (show Fr (fun _ => False) w5 _ by repeat (first | exact Fr.refl _ _ | refine Fr.drew ?_ | refine Fr.alloc ?_ _)))) ⟨w5.heap.size, 0, none⟩ 1 1 (tcells [(⟨1, n.name, n.attrs, []⟩, .slice aq n.attrs.length cq)]) rfl rfl (news_at (by first | exact block_new _ _ | exact block_new_drew rfl)) (tcells_one2 (fun p hp => by simp at hp; subst hp; exact ⟨_, _, _, rfl⟩)) (by unfold maxLen; omega) (by omega) (by have h1 := HPos.out; have h2 := HWF.out.size; have h3 := H5.out.2.size; simp; omega) (by omega) ?_; intro g7 cap7 w7 hown7 hgrow7 hat7; obtain ⟨hc7, hI7⟩ := HI.out.push (x := ⟨1, n.name, n.attrs, []⟩) (B2 := W0.heap.size) (H5.out.2.next (show Fr (fun _ => False) w5 _ by repeat (first | exact Fr.refl _ _ | refine Fr.drew ?_ | refine Fr.alloc ?_ _))) ((H5.out.1.fr (show Fr (fun _ => False) w5 _ by repeat (first | exact Fr.refl _ _ | refine Fr.drew ?_ | refine Fr.alloc ?_ _)) (fun _ _ h => h)).mono (fun k hk => ⟨by have h := hk.1; simp at h; omega, by have h := hk.2; simp; omega⟩)) (Nat.le_refl _) hgrow7 hat7 hown7; have HI7 := Lib.hid hI7; have c7 := cell_of hc7 (i := 0) (v := .slice bl ps.length cl) rfl; have j7 := free_of 0 hc7; have l7 := lt_of_block hc7; clear hown7 hgrow7 hat7 hc7 hI7)
      | fail)
    all_goals
      go_wp2_with fail
      go_meet
      exact ⟨_, _, by rw [List.map_append]; rfl, HI7.out⟩
def ToksPost (l : List TokD) (w : World) (e : Ending) (w' : World) : Prop := ∃ a c, e = .returned (.slice a l.length c) ∧ TokV w' (fun k => w.heap.size ≤ k ∧ k < w'.heap.size) (.slice a l.length c) l ∧ Fr (fun _ => False) w w'
set_option maxRecDepth 100000 in
set_option maxHeartbeats 4000000 in
theorem tokens_h {w : World} {S : Nat → Prop} {n : NodeD} {c0 c1 c2 c3 : Value} (hn : NodeV w S n [c0, c1, c2, c3]) (hS : ∀ k, S k → k < w.heap.size) (hf : fewN n) (hm : manyN n ≤ 1000) :
    Calls Tryz.prog 33 #[.agg #[c0, c1, c2, c3]] w (ToksPost (tokN n) w) := by
  have hmf : ∀ (fn : Fn) (first cap : Array Value) (w : World), (Instr.makeFunc fn first cap).run Tryz.prog w = .ok (.func fn first cap) w := fun _ _ _ _ => rfl
  have hW := Lib.hid (fun (W : World) (hF : Fr (fun _ => False) w W) (h0 : w.heap.size + 3 ≤ W.heap.size) (h1 : W.heap[w.heap.size + 1]? = some (.cells #[.slice none 0 0] 22 (0, 0))) (h3 : W.heap[w.heap.size + 1 + 1]? = some (.cells #[tkF (w.heap.size + 1) (w.heap.size + 1 + 1)] 109 (0, 0))) =>
    tokwalk_h (weighN n + 1) n (Nat.lt_succ_self _) W S c0 c1 c2 c3 (w.heap.size + 1) (w.heap.size + 1 + 1) (w.heap.size + 3) (.slice none 0 0) [] (NodeV.fr hF (fun _ _ h => h) n hn) (fun k hk => by have := hS k hk; omega) h1 (TokO.nil _ _ _ _) h3 ⟨by omega, by omega, by omega, h0⟩ hf (by simp; omega))
  obtain ⟨av, kv, xs, hcs, ha, hk, hks⟩ := hn.parts
  simp only [List.cons.injEq, and_true] at hcs
  obtain ⟨rfl, rfl, rfl, rfl⟩ := hcs
  obtain ⟨-, a1, p1, rfl, -⟩ := id ha
  obtain ⟨-, a3, p3, rfl, -, -, -, -⟩ := id hk
  clear hn ha hk hks hS hm hf
  go_enter Tryz.func33, Tryz.ntmps33
  go_wp2_with fail
  refine Calls.mono (hW.out _ ?_ ?_ ?_ ?_) ?_
  · exact ((((Fr.refl _ _).alloc _).alloc _).alloc _)
  · simp
  · exact block_old (block_new_at (by simp)) _
  · exact block_new_at (by simp)
  rintro e w3 ⟨rfl, lv, h1, h2, h3, h4⟩
  rw [List.nil_append] at h2
  have hv := h2.view
  obtain ⟨a, c, rfl, _, _, _⟩ := hv.elems
  have x1 := cell_of h1 (i := 0) (v := .slice a (tokN n).length c) rfl
  have HF : Hid (Fr (fun _ => False) w w3) := (((((Fr.refl (fun _ => False) w).alloc _).alloc _).alloc _).trans h3 fun k e => by rcases e with e | e; exact .inr (by omega); cases e)
  have HV := Lib.hid hv
  clear h1 h2 h3 h4 hv
  go_wp2_with fail
  go_ret
  refine ⟨_, _, rfl, ?_, HF.out⟩
  obtain ⟨ps, e1, e2, e3⟩ := HV.out
  have key : ∀ k, ((fun _ : Nat => False) k ∧ k < w.heap.size + 3) ∨ (w.heap.size + 3 ≤ k ∧ k < w3.heap.size) → w.heap.size ≤ k ∧ k < w3.heap.size := fun k hk => by rcases hk with hk | hk; exact hk.1.elim; omega
  exact ⟨ps, e1, e2.mono key, fun p hp => (e3 p hp).mono key⟩
end Go.Proofs.YtpinjgdnhbogoaaGreatDoor
