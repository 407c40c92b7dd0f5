/- How long the writing of what is read may be (no program). -/
import Derived.Test.YtpinjgdnhbogoaaGreatDoorWR
import Derived.Test.YtpinjgdnhbogoaaGreatDoorM2
import Derived.Test.YtpinjgdnhbogoaaGreatDoorM7
import Derived.Deep.RegionLaw
import Derived.Deep.RegionHeldLaw
namespace Go.Proofs.YtpinjgdnhbogoaaGreatDoor

theorem attrL_w {s a v left : Str} (h : attrL s = some (a, v, left)) : (attrW (a, v)).length + 30 * left.length ≤ 30 * s.length := by
  unfold attrL at h
  split at h
  · cases h
  · have h0 := name_le s
    have h1 := trim_le (s.drop (nameL s).length)
    rw [List.length_drop] at h1
    split at h
    · rename_i s2 he
      have h2 := trim_le s2
      rw [he] at h1
      simp only [List.length_cons] at h1
      split at h
      · rename_i q s4 he2
        rw [he2] at h2
        simp only [List.length_cons] at h2
        split at h
        · cases hc : cutL [q] s4 with
          | none => rw [hc] at h; cases h
          | some p =>
            rw [hc] at h
            have h3 := cutL_lens (a := p.1) (b := p.2) hc
            dsimp only at h
            cases hs : saidL p.1 with
            | error k => rw [hs] at h; cases h
            | ok u =>
              rw [hs] at h
              have h4 := said_len _ _ (Nat.lt_succ_self _) hs
              have h5 := esc_le u
              dsimp only at h
              split at h
              · cases h
              · simp only [Option.some.injEq, Prod.mk.injEq] at h
                obtain ⟨rfl, rfl, rfl⟩ := h
                have e : (attrW (nameL s, u)).length = 1 + (nameL s).length + 2 + (escL u).length + 1 := by unfold attrW; simp; omega
                rw [e]
                simp only [List.length_singleton] at h3
                omega
        · cases h
      · cases h
    · cases h
theorem attrsF_w : ∀ (n : Nat) (l : List (Str × Str)) (s : Str) {l' : List (Str × Str)} {b : Bool} {left : Str}, attrsF n l s = some (l', b, left) → (l'.flatMap attrW).length + 30 * left.length + 30 ≤ (l.flatMap attrW).length + 30 * s.length
  | 0, _, _, _, _, _, h => by cases h
  | n + 1, l, s, l', b, left, h => by
    have h0 := trim_le s
    unfold attrsF at h
    dsimp only at h
    split at h
    · rename_i hp
      have := (List.isPrefixOf_iff_prefix.1 hp).length_le
      simp only [Option.some.injEq, Prod.mk.injEq] at h
      rw [← h.2.2, ← h.1, List.length_drop]; simp at this; omega
    split at h
    · rename_i hp
      have := (List.isPrefixOf_iff_prefix.1 hp).length_le
      simp only [Option.some.injEq, Prod.mk.injEq] at h
      rw [← h.2.2, ← h.1, List.length_drop]; simp at this; omega
    split at h
    · cases h
    cases ha : attrL (trimL s) with
    | none => rw [ha] at h; cases h
    | some p =>
      obtain ⟨a, v, r⟩ := p
      rw [ha] at h
      dsimp only at h
      have h1 := attrL_w ha
      split at h
      · cases h
      · have h2 := attrsF_w n _ _ h
        rw [List.flatMap_append, List.length_append] at h2
        have h3 : ([(a, v)] : List (Str × Str)).flatMap attrW = attrW (a, v) := by simp
        rw [h3] at h2
        omega
theorem tagL_w {s left : Str} {l : List TokD} (h : tagL s = some (l, left)) : (writeL l).length + 30 * left.length ≤ 30 * s.length := by
  unfold tagL at h
  split at h
  · cases h
  rename_i hne
  have h0 := name_le s
  have hn : 0 < (nameL s).length := by cases hx : nameL s with | nil => rw [hx] at hne; exact absurd rfl hne | cons _ _ => simp
  cases ha : attrsF (s.length + 1) [] (s.drop (nameL s).length) with
  | none => rw [ha] at h; cases h
  | some p =>
    obtain ⟨la, b, r⟩ := p
    have h1 := attrsF_w _ _ _ ha
    rw [List.length_drop] at h1
    simp only [List.flatMap_nil, List.length_nil] at h1
    rw [ha] at h
    have e1 : ∀ t, (writeL [t]).length = (tokW t).length := fun t => by unfold writeL; simp
    have e2 : ∀ t t', (writeL [t, t']).length = (tokW t).length + (tokW t').length := fun t t' => by unfold writeL; simp
    cases b with
    | true =>
      simp only [Option.some.injEq, Prod.mk.injEq] at h
      obtain ⟨rfl, rfl⟩ := h
      rw [e2, tokW_open rfl, tokW_close rfl]
      simp only [List.length_cons, List.length_append, List.length_nil]
      omega
    | false =>
      simp only [Option.some.injEq, Prod.mk.injEq] at h
      obtain ⟨rfl, rfl⟩ := h
      rw [e1, tokW_open rfl]
      simp only [List.length_cons, List.length_append, List.length_nil]
      omega
theorem closeL_w {s left : Str} {l : List TokD} (h : closeL s = some (l, left)) : (writeL l).length + 30 * left.length ≤ 30 * s.length := by
  unfold closeL at h
  split at h
  · cases h
  rename_i hne
  have h0 := name_le s
  have hn : 0 < (nameL s).length := by cases hx : nameL s with | nil => rw [hx] at hne; exact absurd rfl hne | cons _ _ => simp
  split at h
  · rename_i rest he
    have h1 := trim_le (s.drop (nameL s).length)
    rw [he, List.length_drop] at h1
    simp only [Option.some.injEq, Prod.mk.injEq] at h
    obtain ⟨rfl, rfl⟩ := h
    have e1 : ∀ t, (writeL [t]).length = (tokW t).length := fun t => by unfold writeL; simp
    rw [e1, tokW_close rfl]
    simp only [List.length_cons, List.length_append, List.length_nil] at h1 ⊢
    omega
  · cases h
theorem partL_w {s u left : Str} {l : List TokD} (h : partL s = some (u, l, left)) : 6 * u.length + (writeL l).length + 30 * left.length ≤ 30 * s.length := by
  have ho := partL_out h
  have hl := partL_len h
  have w0 : (writeL []).length = 0 := rfl
  have cut0 : ∀ (c r : Str) , (cutL c r).map (fun q => (([], [], q.2) : Str × List TokD × Str)) = some (u, l, left) → l = [] := by
    intro c r h
    cases hq : cutL c r with
    | none => rw [hq] at h; cases h
    | some q => rw [hq] at h; cases h; rfl
  unfold partL at h
  split at h
  · rw [cut0 _ _ h, w0]; omega
  split at h
  · rw [cut0 _ _ h, w0]; omega
  split at h
  · rename_i r hr
    cases hq : cutL [93, 93, 62] r with
    | none => rw [hq] at h; cases h
    | some q => rw [hq] at h; cases h; rw [w0]; omega
  split at h
  · split at h
    · cases h
    · split at h
      · cases h
      · cases h; rw [w0]; omega
  split at h
  · rename_i r hr
    have h4 := congrArg List.length (stripL_some hr)
    rw [List.length_append] at h4
    cases hq : closeL r with
    | none => rw [hq] at h; cases h
    | some q =>
      rw [hq] at h
      have h5 := closeL_w (l := q.1) (left := q.2) hq
      cases h
      simp at h4 ⊢; omega
  · cases hq : tagL (s.drop 1) with
    | none => rw [hq] at h; cases h
    | some q =>
      rw [hq] at h
      have h5 := tagL_w (l := q.1) (left := q.2) hq
      rw [List.length_drop] at h5
      cases h
      simp; omega
theorem write_app (a b : List TokD) : (writeL (a ++ b)).length = (writeL a).length + (writeL b).length := by unfold writeL; rw [List.flatMap_append, List.length_append]
theorem flush_w (l : List TokD) (w : Str) : (writeL (flushL l w)).length ≤ (writeL l).length + 6 * w.length := by
  unfold flushL
  split
  · omega
  · have := esc_le w
    rw [write_app]
    have e : writeL [⟨3, [], [], w⟩] = escL w := by unfold writeL; simp [tokW]
    rw [e]; omega
theorem readG_w : ∀ (n : Nat) (s : Str) (k : Nat) (l : List TokD) (w : Str) {r : List TokD}, s.length < n → readG k l w s = .ok r → (writeL r).length ≤ (writeL l).length + 6 * w.length + 30 * s.length
  | 0, _, _, _, _, _, h, _ => by omega
  | n + 1, s, k, l, w, r, hn, h => by
    obtain ⟨seg, rest, rfl, hno, hrest⟩ := split_text s
    by_cases hs : seg = []
    · subst hs
      rw [List.nil_append] at h hn ⊢
      rcases hrest with rfl | ⟨t, rfl⟩
      · rw [readG_nil] at h
        have := flush_w l w
        rw [← Except.ok.inj h]; omega
      · cases hp : partL (60 :: t) with
        | none => rw [readG_bad hp] at h; cases h
        | some p =>
          obtain ⟨u, toks, left⟩ := p
          have hlen := partL_len hp
          have hw := partL_w hp
          rw [readG_part hp] at h
          by_cases ht : toks.isEmpty = true
          · rw [if_pos ht] at h
            have := readG_w n left _ _ _ (by omega) h
            rw [List.length_append] at this
            omega
          · rw [if_neg ht] at h
            have h1 := readG_w n left _ _ _ (by omega) h
            have h2 := flush_w l (w ++ u)
            rw [List.length_append] at h2
            rw [write_app] at h1
            simp only [List.length_nil] at h1
            omega
    · rw [readG_text hs hno hrest] at h
      have hpos := List.length_pos_iff.2 hs
      rw [List.length_append] at hn ⊢
      cases hsd : saidL seg with
      | error j => rw [hsd] at h; cases h
      | ok u =>
        rw [hsd] at h
        have h1 := readG_w n rest _ _ _ (by omega) h
        have h2 := said_len _ _ (Nat.lt_succ_self _) hsd
        rw [List.length_append] at h1
        omega
theorem readL_w {s : Str} {r : List TokD} (h : readL s = .ok r) : (writeL r).length ≤ 30 * s.length := by
  have := readG_w _ s 0 [] [] (Nat.lt_succ_self _) h
  simpa [writeL] using this
theorem small_of_write {l : List TokD} (h : (writeL l).length ≤ 1000000) : ∀ x ∈ l, (x.kind = 3 → x.text.length ≤ 1000000) ∧ (x.kind = 1 → ∀ p ∈ x.attrs, p.2.length ≤ 1000000) := by
  intro x hx
  obtain ⟨i, hi⟩ := List.getElem?_of_mem hx
  have h1 := write_part hi
  refine ⟨fun k => ?_, fun k p hp => ?_⟩
  · rw [tokW_words k] at h1
    have := esc_ge x.text
    omega
  · obtain ⟨j, hj⟩ := List.getElem?_of_mem hp
    have h2 := attrs_part hj
    rw [tokW_open k] at h1
    simp only [List.length_cons, List.length_append] at h1
    have e : (attrW p).length = 1 + p.1.length + 2 + (escL p.2).length + 1 := by unfold attrW; simp; omega
    have := esc_ge p.2
    omega
/-- no token has more attributes than its writing has bytes -/
theorem attrs_w : ∀ l : List (Str × Str), l.length ≤ (l.flatMap attrW).length
  | [] => Nat.zero_le _
  | p :: l => by
    have h := attrs_w l
    have h1 : 1 ≤ (attrW p).length := by unfold attrW; simp
    rw [List.flatMap_cons, List.length_append, List.length_cons]
    omega
end Go.Proofs.YtpinjgdnhbogoaaGreatDoor

/- The walk of the law XmlEscapes. -/
namespace Go.Proofs.YtpinjgdnhbogoaaGreatDoor
open Go.RowKit Go.Lib

theorem readD_ok {s : Str} {l : List TokD} (h : readL s = .ok l) (hs : s.length ≤ 20000) : readD s = (l, 0, 0) := by
  unfold readD; rw [if_neg (by omega), h]
theorem Toks.cells {B : Nat} {w : World} {a : Option Addr} {cap : Nat} {l : List TokD} (h : Toks B w (.slice a l.length cap) l) (hp : 0 < l.length) :
    ∃ g off, a = some ⟨g, off, none⟩ ∧ ∀ i x, l[i]? = some x → ∃ av, ElemAt w (fun k => B ≤ k ∧ k < w.heap.size) g off i x av := by
  obtain ⟨a', cap', e, h2, h3, h4⟩ := h.view.elems
  cases e
  exact h4 hp
def escT (s : Str) : List TokD := flushL [⟨1, [97], [([120], s)], []⟩] s ++ [⟨2, [97], [], []⟩]
theorem escT_nil : (escT []).length = 2 := rfl
theorem escT_cons {s : Str} (h : s ≠ []) : (escT s).length = 3 := by cases s with | nil => exact absurd rfl h | cons c s => rfl
theorem flush_cons {s : Str} (h : s ≠ []) : flushL [] s = [⟨3, [], [], s⟩] := by cases s with | nil => exact absurd rfl h | cons c s => rfl
theorem escT_0 (s : Str) : (escT s)[0]? = some ⟨1, [97], [([120], s)], []⟩ := by cases s <;> rfl
theorem escT_1 {s : Str} (h : s ≠ []) : (escT s)[1]? = some ⟨3, [], [], s⟩ := by cases s with | nil => exact absurd rfl h | cons c s => rfl
set_option maxRecDepth 100000 in
set_option maxHeartbeats 8000000 in
theorem escapes_h {w : World} (hE : Env w) (s : Str) : Calls Tryz.prog 8 #[.string (bs s)] w fun e w' => e = .returned (.bool true) ∧ Fr (fun _ => False) w w' := by
  have hsz : (bs s).size = s.length := rfl
  have HE := Lib.hid hE
  have HS := Lib.hid (shown_h hE)
  clear hE
  by_cases hlong : 1500 < s.length
  · have hd : decide ((1500 : Int) < (s.length : Int)) = true := decide_eq_true (by omega)
    go_enter Tryz.func8, Tryz.ntmps8
    go_wp2_with fail
    refine Calls.mono HS.out ?_
    rintro e w1 ⟨rfl, hF⟩
    have HF := Lib.hid hF
    clear hF
    go_wp2_with fail
    go_ret
    exact ⟨rfl, HF.out⟩
  · have hd : decide ((1500 : Int) < (s.length : Int)) = false := decide_eq_false (by omega)
    have hle := esc_le s
    have hszE : (bs (escL s)).size = (escL s).length := rfl
    have hle9 : (escL s).length ≤ 9000 := by omega
    have hr1 := readD_ok (read_esc s) (by omega)
    have HR1 := Lib.hid hr1
    clear hr1
    go_enter Tryz.func8, Tryz.ntmps8
    go_wp2_with fail
    refine Calls.mono HS.out ?_
    rintro e w1 ⟨rfl, hF⟩
    have HF := Lib.hid hF
    clear hF
    go_wp2_with fail
    refine Calls.mono (escape_h s (by omega)) ?_
    rintro e w2 ⟨rfl, hF2⟩
    have HF2 := Lib.hid (HF.out.next hF2)
    clear hF2
    go_wp2_with fail
    refine Calls.mono (read_at (HE.out.grow HF2.out) HR1.out (by omega)) ?_
    rintro e w3 ⟨⟨v, rfl, hT⟩, hF3⟩
    obtain ⟨a, cap, rfl, hc1, hc2⟩ := hT.sliced
    have HF3 := Lib.hid (HF2.out.next hF3)
    clear hF3
    have hr2 := readD_ok (read_esc_tag s) (by simp only [List.length_cons, List.length_append, List.length_nil]; omega)
    have HR2 : Hid (readD _ = (escT s, 0, 0)) := Lib.hid hr2
    clear hr2
    have hcat : (⟨#[60, 97, 32, 120, 61, 39]⟩ : ByteArray) ++ bs (escL s) ++ ⟨#[39, 62]⟩ ++ bs (escL s) ++ ⟨#[60, 47, 97, 62]⟩ = bs (60 :: 97 :: 32 :: 120 :: 61 :: 39 :: (escL s ++ 39 :: 62 :: (escL s ++ [60, 47, 97, 62]))) := by
      rw [show (⟨#[60, 97, 32, 120, 61, 39]⟩ : ByteArray) = bs [60, 97, 32, 120, 61, 39] from rfl, show (⟨#[39, 62]⟩ : ByteArray) = bs [39, 62] from rfl, show (⟨#[60, 47, 97, 62]⟩ : ByteArray) = bs [60, 47, 97, 62] from rfl]
      simp only [bs_append, List.cons_append, List.nil_append, List.append_assoc]
    have HCat := Lib.hid hcat
    clear hcat
    have HRead := Lib.hid (fun (W : World) (hF : Fr (fun _ => False) w W) => read_at (HE.out.grow hF) HR2.out (by simp only [List.length_cons, List.length_append, List.length_nil]; omega))
    by_cases hs0 : s = []
    · subst hs0
      have hb0 : (bs []).toList = [] := bs_toList []
      rw [show flushL [] [] = ([] : List TokD) from rfl]
      clear hT
      go_wp2_with fail
      rw [HCat.out]
      refine Calls.mono (HRead.out _ HF3.out) ?_
      rintro e w4 ⟨⟨v4, rfl, hT4⟩, hF4⟩
      obtain ⟨a4, cap4, rfl, hc41, hc42⟩ := hT4.sliced
      have HF4 := Lib.hid (HF3.out.next hF4)
      clear hF4
      obtain ⟨g, off, rfl, hel⟩ := hT4.cells (by rw [escT_nil]; decide)
      obtain ⟨av, h0⟩ := hel 0 _ (escT_0 _)
      have d2 := h0.c2
      obtain ⟨_, aa, acap, rfl, hac, _, _, _⟩ := id h0.row
      obtain ⟨ga, oa, rfl, hca⟩ := h0.row.cell (Nat.lt_succ_self 0)
      have f0 := hca 0 (.string (bs [120])) rfl
      have f1 := hca 1 (.string (bs [])) rfl
      rw [escT_nil]
      simp only [Nat.zero_mul, Nat.add_zero] at d2 f0
      have hx0 : bs [120] = ⟨#[120]⟩ := rfl
      clear hT4 hel h0 hca
      go_wp2_with fail
      go_ret
      exact ⟨rfl, HF4.out⟩
    · rw [flush_cons hs0] at hT ⊢
      obtain ⟨g0, off0, rfl, hel0⟩ := hT.cells (Nat.lt_succ_self 0)
      obtain ⟨av0, h00⟩ := hel0 0 _ rfl
      have k0 := h00.c0
      have k3 := h00.c3
      simp only [Nat.zero_mul, Nat.add_zero] at k0 k3
      clear hT hel0 h00
      have hb1 : ¬ (bs s).toList = [] := by rw [bs_toList]; exact hs0
      have hb2 : (bs s).toList.isEmpty = false := by rw [bs_toList]; exact List.isEmpty_eq_false_iff.2 hs0
      have hlen1 : ([⟨3, [], [], s⟩] : List TokD).length = 1 := rfl
      rw [hlen1]
      have HS0 := Lib.hid hs0
      clear hlen1 hs0
      go_wp2_with fail
      rw [HCat.out]
      refine Calls.mono (HRead.out _ HF3.out) ?_
      rintro e w4 ⟨⟨v4, rfl, hT4⟩, hF4⟩
      obtain ⟨a4, cap4, rfl, hc41, hc42⟩ := hT4.sliced
      have HF4 := Lib.hid (HF3.out.next hF4)
      clear hF4
      obtain ⟨g, off, rfl, hel⟩ := hT4.cells (by rw [escT_cons HS0.out]; decide)
      obtain ⟨av, h0⟩ := hel 0 _ (escT_0 _)
      obtain ⟨av1, h1⟩ := hel 1 _ (escT_1 HS0.out)
      have d2 := h0.c2
      have d7 := h1.c3
      obtain ⟨_, aa, acap, rfl, hac, _, _, _⟩ := id h0.row
      obtain ⟨ga, oa, rfl, hca⟩ := h0.row.cell (Nat.lt_succ_self 0)
      have f0 := hca 0 (.string (bs [120])) rfl
      have f1 := hca 1 (.string (bs s)) rfl
      rw [escT_cons HS0.out]
      simp only [Nat.zero_mul, Nat.one_mul, Nat.add_zero] at d2 d7 f0
      have hx0 : bs [120] = ⟨#[120]⟩ := rfl
      clear hT4 hel h0 h1 hca
      go_wp2_with fail
      trace_state
      go_ret
      exact ⟨rfl, HF4.out⟩
end Go.Proofs.YtpinjgdnhbogoaaGreatDoor

/- The walk of the law XmlJoins. -/
namespace Go.Proofs.YtpinjgdnhbogoaaGreatDoor
open Go.RowKit Go.Lib

theorem readD_bad {s : Str} {i : Nat} (h : readL s = .error i) (hs : s.length ≤ 20000) : readD s = ([], 8, (i : Int)) := by
  unfold readD; rw [if_neg (by omega), h]
theorem join_cat (s t : Str) : bs s ++ (⟨#[60, 113, 47, 62]⟩ : ByteArray) ++ bs t = bs (s ++ (qTag ++ t)) := by
  rw [show (⟨#[60, 113, 47, 62]⟩ : ByteArray) = bs qTag from rfl, bs_append, bs_append, List.append_assoc]
def joinT (a b : List TokD) : List TokD := a ++ (⟨1, [113], [], []⟩ :: ⟨2, [113], [], []⟩ :: b)
theorem joinT_len (a b : List TokD) : (joinT a b).length = a.length + 2 + b.length := by unfold joinT; simp; omega
theorem joinT_0 (a b : List TokD) : (joinT a b)[a.length]? = some ⟨1, [113], [], []⟩ := by unfold joinT; simp
theorem joinT_1 (a b : List TokD) : (joinT a b)[a.length + 1]? = some ⟨2, [113], [], []⟩ := by unfold joinT; simp
theorem Toks.low {B : Nat} {w : World} {v : Value} {l : List TokD} (h : Toks B w v l) : TokV w (fun k => k < w.heap.size) v l := h.view.mono fun _ h => h.2
theorem ent37 : ∀ args w, (callFunc 37 args).run Tryz.prog w = .ok (.enter 37 args) w := enters_of Tryz.func37 (by kernel_rfl) rfl
/-- alike of tokens that are put together, and the reference's -/
theorem alike_eq {B : Nat} {w7 w11 W : World} {S : Nat → Prop} {v u : Value} {l m : List TokD} (hm : l = m) (hv : TokV w11 S v l) (hu : TokV w7 (fun k => B ≤ k ∧ k < w7.heap.size) u m) (hf : Fr (fun _ => False) w7 w11) (hl : m.length ≤ 100 ∧ ∀ x ∈ m, x.attrs.length ≤ 20) (hw : Fr (fun _ => False) w11 W) :
    Calls Tryz.prog 37 #[v, u] W fun e w' => e = .returned (.bool true) ∧ Fr (fun _ => False) w11 w' := by
  subst hm
  refine (alike_h (hv.fr hw fun _ _ h => h) (hu.fr (hf.next hw) fun _ _ h => h) (by omega) (fun x hx => by have := hl.2 x hx; omega)).mono ?_
  rintro e w' ⟨rfl, p, rfl⟩
  exact ⟨by simp, hw.drewN p⟩
set_option maxRecDepth 100000 in
set_option maxHeartbeats 16000000 in
theorem joins_h {w : World} (hE : Env w) (s t : Str) : Calls Tryz.prog 11 #[.string (bs s), .string (bs t)] w fun e w' => e = .returned (.bool true) ∧ Fr (fun _ => False) w w' := by
  have hsz : (bs s).size = s.length := rfl
  have htz : (bs t).size = t.length := rfl
  have HE := Lib.hid hE
  have HS := Lib.hid (shown_h hE)
  clear hE
  by_cases hlong : 3000 < s.length
  · have hd : decide ((3000 : Int) < (s.length : Int)) = true := decide_eq_true (by omega)
    go_enter Tryz.func11, Tryz.ntmps11
    go_wp2_with fail
    refine Calls.mono HS.out ?_
    rintro e w1 ⟨rfl, hF⟩
    have HF := Lib.hid hF
    clear hF
    go_wp2_with fail
    go_ret
    exact ⟨rfl, HF.out⟩
  have hd : decide ((3000 : Int) < (s.length : Int)) = false := decide_eq_false (by omega)
  by_cases hlong2 : 3000 < t.length
  · have hd2 : decide ((3000 : Int) < (t.length : Int)) = true := decide_eq_true (by omega)
    go_enter Tryz.func11, Tryz.ntmps11
    go_wp2_with fail
    refine Calls.mono HS.out ?_
    rintro e w1 ⟨rfl, hF⟩
    have HF := Lib.hid hF
    clear hF
    go_wp2_with fail
    go_ret
    exact ⟨rfl, HF.out⟩
  have hd2 : decide ((3000 : Int) < (t.length : Int)) = false := decide_eq_false (by omega)
  have hs3 : s.length ≤ 3000 := by omega
  have ht3 : t.length ≤ 3000 := by omega
  clear hlong hlong2
  have hul : (s ++ (qTag ++ t)).length ≤ 7000 := by simp [qTag]; omega
  have HCat := Lib.hid (join_cat s t)
  have HRead := Lib.hid (fun (W : World) (hF : Fr (fun _ => False) w W) {x : Str} {l : List TokD} {a b : Int} (hr : readD x = (l, a, b)) (hs : x.length ≤ 1000000) => read_at (HE.out.grow hF) hr hs)
  cases hrs : readL s with
  | error k =>
    have hR1 := Lib.hid (readD_bad hrs (by omega))
    obtain ⟨b0, f0, at0, hR2⟩ : ∃ b0 f0 at0, readD t = (b0, f0, at0) := ⟨_, _, _, rfl⟩
    have HR2 := Lib.hid hR2
    obtain ⟨c0, g0, to0, hR3, hg0⟩ : ∃ c0 g0 to0, readD (s ++ (qTag ++ t)) = (c0, g0, to0) ∧ (g0 = 8 ∨ g0 = 0) := by
      cases hu : readL (s ++ (qTag ++ t)) with
      | error i => exact ⟨_, _, _, readD_bad hu (by omega), .inl rfl⟩
      | ok l => exact ⟨_, _, _, readD_ok hu (by omega), .inr rfl⟩
    have HR3 := Lib.hid hR3
    clear hR2 hR3 hrs
    rcases hg0 with rfl | rfl
    all_goals
      go_enter Tryz.func11, Tryz.ntmps11
      go_wp2_with fail
      refine Calls.mono HS.out ?_
      rintro e w1 ⟨rfl, hF⟩
      have HF := Lib.hid hF
      clear hF
      go_wp2_with fail
      refine Calls.mono (HRead.out _ HF.out hR1.out (by omega)) ?_
      rintro e w2 ⟨⟨v2, rfl, _⟩, hF2⟩
      have HF2 := Lib.hid (HF.out.next hF2)
      clear hF2
      go_wp2_with fail
      refine Calls.mono (HRead.out _ HF2.out HR2.out (by omega)) ?_
      rintro e w3 ⟨⟨v3, rfl, _⟩, hF3⟩
      have HF3 := Lib.hid (HF2.out.next hF3)
      clear hF3
      go_wp2_with fail
      rw [HCat.out]
      refine Calls.mono (HRead.out _ HF3.out HR3.out (by omega)) ?_
      rintro e w4 ⟨⟨v4, rfl, _⟩, hF4⟩
      have HF4 := Lib.hid (HF3.out.next hF4)
      clear hF4
      go_wp2_with fail
      go_ret
      exact ⟨rfl, HF4.out⟩
  | ok a =>
    have hJ := read_join hrs t
    have hR1 := Lib.hid (readD_ok hrs (by omega))
    have hal := readL_many hrs
    have hal2 : a.length ≤ 9001 := by omega
    clear hal hrs
    cases hrt : readL t with
    | error i =>
      have hR2 := Lib.hid (readD_bad hrt (by omega))
      rw [hrt] at hJ
      have hR3 := Lib.hid (readD_bad hJ (by omega))
      have hi := readL_place hrt
      have hi2 : i ≤ 3000 := by omega
      clear hi hrt hJ
      go_enter Tryz.func11, Tryz.ntmps11
      go_wp2_with fail
      refine Calls.mono HS.out ?_
      rintro e w1 ⟨rfl, hF⟩
      have HF := Lib.hid hF
      clear hF
      go_wp2_with fail
      refine Calls.mono (HRead.out _ HF.out hR1.out (by omega)) ?_
      rintro e w2 ⟨⟨v2, rfl, _⟩, hF2⟩
      have HF2 := Lib.hid (HF.out.next hF2)
      clear hF2
      go_wp2_with fail
      refine Calls.mono (HRead.out _ HF2.out hR2.out (by omega)) ?_
      rintro e w3 ⟨⟨v3, rfl, _⟩, hF3⟩
      have HF3 := Lib.hid (HF2.out.next hF3)
      clear hF3
      go_wp2_with fail
      rw [HCat.out]
      refine Calls.mono (HRead.out _ HF3.out hR3.out (by omega)) ?_
      rintro e w4 ⟨⟨v4, rfl, _⟩, hF4⟩
      have HF4 := Lib.hid (HF3.out.next hF4)
      have h9 : (((s.length + 4 + i : Nat) : Int) == (s.length : Int) + 4 + (i : Int)) = true := by rw [beq_iff_eq]; omega
      clear hF4
      go_wp2_with fail
      go_ret
      exact ⟨rfl, HF4.out⟩
    | ok b =>
      have hR2 := Lib.hid (readD_ok hrt (by omega))
      rw [hrt] at hJ
      have hR3 := Lib.hid (readD_ok (l := joinT a b) hJ (by omega))
      have hbl := readL_many hrt
      have hbl2 : b.length ≤ 9001 := by omega
      clear hbl hrt hJ
      obtain ⟨i0, hi0, hz0, hz1, hz2⟩ := info_parts info54
      go_enter Tryz.func11, Tryz.ntmps11
      go_wp2_with fail
      refine Calls.mono HS.out ?_
      rintro e w1 ⟨rfl, hF⟩
      have HF := Lib.hid hF
      clear hF
      go_wp2_with fail
      refine Calls.mono (HRead.out _ HF.out hR1.out (by omega)) ?_
      rintro e w2 ⟨⟨v2, rfl, hT2⟩, hF2⟩
      obtain ⟨a2, cap2, rfl, _, _⟩ := hT2.sliced
      have HF2 := Lib.hid (HF.out.next hF2)
      have HT2 := Lib.hid hT2
      clear hF2 hT2
      go_wp2_with fail
      refine Calls.mono (HRead.out _ HF2.out hR2.out (by omega)) ?_
      rintro e w3 ⟨⟨v3, rfl, hT3⟩, hF3⟩
      obtain ⟨a3, cap3, rfl, _, _⟩ := hT3.sliced
      have HF3 := Lib.hid (HF2.out.next hF3)
      have HT23 := Lib.hid (HT2.out.fr hF3)
      have HT3 := Lib.hid hT3
      clear hF3 hT3
      go_wp2_with fail
      rw [HCat.out]
      refine Calls.mono (HRead.out _ HF3.out hR3.out (by omega)) ?_
      rintro e w4 ⟨⟨v4, rfl, hT4⟩, hF4⟩
      obtain ⟨a4, cap4, rfl, hc41, hc42⟩ := hT4.sliced
      have HF4 := Lib.hid (HF3.out.next hF4)
      obtain ⟨ps, hps1, hps2, hps3, hps4, hps5⟩ := (HT23.out.fr hF4).low.parts
      obtain ⟨qs, hqs1, hqs2, hqs3, hqs4, hqs5⟩ := (HT3.out.fr hF4).low.parts
      rw [hps2] at hps3
      rw [hqs2] at hqs3
      have HP := Lib.hid (And.intro hps1 (And.intro hps2 (And.intro hps3 hps4)))
      have HQ := Lib.hid (And.intro hqs1 (And.intro hqs2 (And.intro hqs3 hqs4)))
      have HT4 := Lib.hid hT4
      have H0 : Hid (TokApp w4.heap.size (w4.alloc (.cells #[] 54)) (.slice (some ⟨w4.heap.size, 0, none⟩) 0 0) []) := TokApp.nil (block_new _ _) (Nat.le_refl _)
      have HFa : Hid (Fr (fun _ => False) w4 (w4.alloc (.cells #[] 54))) := (Fr.refl _ _).alloc _
      clear hF4 hT4 hps1 hps2 hps3 hps4 hqs1 hqs2 hqs3 hqs4
      go_wp2_with (first
        | (at_builtin; refine wpList_append_row rfl (.tmp 75) (.tmp 76) 22 rfl w4.heap.size 54 i0 (.agg #[.int .i64 0, .string ⟨#[]⟩, .slice none 0 0, .string ⟨#[]⟩]) 4 64 Tryz.underlying22 hi0 hz0 hz1 hz2 rfl (by decide) (.slice (some ⟨w4.heap.size, 0, none⟩) 0 0) 0 [] rfl H0.out.row _ _ a.length (tcells ps) rfl (HP.out.2.2.1.fr HFa.out fun _ _ h => h) hps5 (by unfold maxLen; omega) (by omega) (by simp) ?_; intro b5 cap5 w5 hown5 hgrow5 hfr5; have H5 := Lib.hid (H0.out.first HP.out.2.1 (fun p hp => (HP.out.2.2.2 p hp).fr HFa.out fun _ _ h => h) hfr5 hown5); have HF5 := Lib.hid (fr_to_base ((HFa.out.mono (o2 := fun k => w4.heap.size ≤ k) fun _ _ h => h.elim).next hfr5) (Nat.le_refl _)); have hs5 := HF5.out.size; clear hown5 hgrow5 hfr5)
        | (at_builtin; refine wpList_append_row rfl (.tmp 77) (.tmp 78) 22 rfl w4.heap.size 54 i0 (.agg #[.int .i64 0, .string ⟨#[]⟩, .slice none 0 0, .string ⟨#[]⟩]) 4 64 Tryz.underlying22 hi0 hz0 hz1 hz2 rfl (by decide) (.slice b5 a.length cap5) a.length (tcells ps) rfl (by have h := H5.out.row; rw [HP.out.2.1] at h; exact h) _ _ b.length (tcells qs) rfl (HQ.out.2.2.1.fr HF5.out fun _ _ h => h) hqs5 (by unfold maxLen; omega) (by omega) (by omega) ?_; intro b6 cap6 w6 hown6 hgrow6 hfr6; have H6 := Lib.hid (H5.out.then HP.out.2.1 HQ.out.2.1 (fun p hp => (HQ.out.2.2.2 p hp).fr HF5.out fun _ _ h => h) hfr6 hown6); have HF6 := Lib.hid (fr_to_base ((HF5.out.mono (o2 := fun k => w4.heap.size ≤ k) fun _ _ h => h.elim).next hfr6) (Nat.le_refl _)); clear hown6 hgrow6 hfr6))
      have hv6 := H6.out.view
      rw [List.map_append, HP.out.1, HQ.out.1] at hv6
      refine Calls.mono (as_h hv6) ?_
      rintro e w7 ⟨u, bb, rfl, hbb, hR7, hF7⟩
      have HF7 := Lib.hid (HF6.out.next hF7)
      have HR7 := Lib.hid hR7
      have HBB := Lib.hid hbb
      clear hv6 hF7 hR7
      cases hfit : fitsA (a ++ b) with
      | false =>
        rw [hfit] at hbb
        subst hbb
        clear hfit
        go_wp2_with fail
        go_ret
        exact ⟨rfl, HF4.out.next HF7.out⟩
      | true =>
        rw [hfit] at hbb
        subst hbb
        obtain ⟨g4, off4, rfl, hel⟩ := HT4.out.cells (by rw [joinT_len]; omega)
        obtain ⟨av0, h0⟩ := hel _ _ (joinT_0 a b)
        obtain ⟨av1, h1⟩ := hel _ _ (joinT_1 a b)
        have d1 := HF7.out.cell h0.c1 (fun h => h)
        have d2 := HF7.out.cell h1.c0 (fun h => h)
        have HFit := Lib.hid hfit
        have hq : (bs [113]).toList = [113] := bs_toList _
        obtain ⟨rs, hrs1, hrs2, hrs3, hrs4, hrs5⟩ := (HT4.out.fr HF7.out).low.parts
        rw [joinT_len] at hrs2
        rw [hrs2, joinT_len] at hrs3
        obtain ⟨a9, c9, hsl9, htl9⟩ := tail_run (a := some ⟨g4, off4, none⟩) (len := a.length + 2 + b.length) (cap := cap4) (k := a.length + 2) (i := (a.length : Int) + 2) (by omega) (by omega)
        rw [show a.length + 2 + b.length - (a.length + 2) = b.length by omega] at hsl9 htl9
        have hsl8 := head_run (a := some ⟨g4, off4, none⟩) (len := a.length + 2 + b.length) (cap := cap4) (k := a.length) (i := (a.length : Int)) rfl (by rw [joinT_len] at hc41; omega)
        have hrow8 := hrs3.head (k := a.length) (by omega)
        have hrow9 := htl9 hrs3
        rw [tcells_take] at hrow8
        rw [tcells_drop] at hrow9
        have HR8 := Lib.hid (And.intro (show (rs.take a.length).length = a.length by rw [List.length_take]; omega) hrow8)
        have HR9 := Lib.hid (And.intro (show (rs.drop (a.length + 2)).length = b.length by rw [List.length_drop]; omega) hrow9)
        have h8 := tcells_sub (qs := rs.take a.length) hrs5 fun p hp => List.mem_of_mem_take hp
        have h9 := tcells_sub (qs := rs.drop (a.length + 2)) hrs5 fun p hp => List.mem_of_mem_drop hp
        have HA4 := Lib.hid hrs4
        have HM : Hid ((rs.take a.length ++ rs.drop (a.length + 2)).map Prod.fst = a ++ b) := by
          show _ = _
          rw [List.map_append, List.map_take, List.map_drop, hrs1]
          unfold joinT
          rw [List.take_left, show a.length + 2 = (a ++ [(⟨1, [113], [], []⟩ : TokD), ⟨2, [113], [], []⟩]).length by simp, show a ++ (⟨1, [113], [], []⟩ :: ⟨2, [113], [], []⟩ :: b) = (a ++ [(⟨1, [113], [], []⟩ : TokD), ⟨2, [113], [], []⟩]) ++ b by simp, List.drop_left]
        have HB7 : Hid (TokApp w7.heap.size (w7.alloc (.cells #[] 54)) (.slice (some ⟨w7.heap.size, 0, none⟩) 0 0) []) := TokApp.nil (block_new _ _) (Nat.le_refl _)
        have HFb : Hid (Fr (fun _ => False) w7 (w7.alloc (.cells #[] 54))) := (Fr.refl _ _).alloc _
        have HU := Lib.hid (HR7.out rfl).view
        have HL9 := Lib.hid (fits_len2 hfit)
        rw [joinT_len]
        clear hfit hel h0 h1 hrs1 hrs2 hrs3 hrs4 hrs5 htl9 hrow8 hrow9 hc41 hc42
        go_wp2_with fail
        have hwr : IntKind.i64.wrap ((a.length : Int) + 2) = (a.length : Int) + 2 := IntWalk.i64_in _ (by omega)
        go_region_law (first
          | (refine step_append_row rfl (.tmp 117) (.tmp 121) 22 rfl w7.heap.size 54 i0 (.agg #[.int .i64 0, .string ⟨#[]⟩, .slice none 0 0, .string ⟨#[]⟩]) 4 64 Tryz.underlying22 hi0 hz0 hz1 hz2 rfl (by decide) (.slice (some ⟨w7.heap.size, 0, none⟩) 0 0) 0 [] rfl (HB7.out.fr (by repeat (first | exact Fr.refl _ _ | refine Fr.drew ?_))).row (fun k => k < w7.heap.size) _ a.length (tcells (rs.take a.length)) rfl (HR8.out.2.fr (HFb.out.next (by repeat (first | exact Fr.refl _ _ | refine Fr.drew ?_))) fun _ _ h => h) h8 (by unfold maxLen; omega) (by omega) (by simp) ?_; intro b10 cap10 w10 hown10 hgrow10 hfr10; have H10 := Lib.hid ((HB7.out.fr (by repeat (first | exact Fr.refl _ _ | refine Fr.drew ?_))).first HR8.out.1 (fun p hp => (HA4.out p (List.mem_of_mem_take hp)).fr (HFb.out.next (by repeat (first | exact Fr.refl _ _ | refine Fr.drew ?_))) fun _ _ h => h) hfr10 hown10); have HF10 := Lib.hid (fr_to_base (((HFb.out.next (by repeat (first | exact Fr.refl _ _ | refine Fr.drew ?_))).mono (o2 := fun k => w7.heap.size ≤ k) fun _ _ h => h.elim).next hfr10) (Nat.le_refl _)); have hs10 := HF10.out.size; clear hown10 hgrow10 hfr10)
          | (refine step_append_row rfl (.tmp 122) (.tmp 127) 22 rfl w7.heap.size 54 i0 (.agg #[.int .i64 0, .string ⟨#[]⟩, .slice none 0 0, .string ⟨#[]⟩]) 4 64 Tryz.underlying22 hi0 hz0 hz1 hz2 rfl (by decide) (.slice b10 a.length cap10) a.length (tcells (rs.take a.length)) rfl (H10.out.row2 HR8.out.1 (by repeat (first | exact Fr.refl _ _ | refine Fr.drew ?_))) (fun k => k < w7.heap.size) _ b.length (tcells (rs.drop (a.length + 2))) rfl (HR9.out.2.fr (HF10.out.next (by repeat (first | exact Fr.refl _ _ | refine Fr.drew ?_))) fun _ _ h => h) h9 (by unfold maxLen; omega) (by omega) (show w7.heap.size ≤ w10.heap.size from hs10) ?_; intro b11 cap11 w11 hown11 hgrow11 hfr11; have H11 := Lib.hid ((H10.out.fr (show Fr (fun _ => False) w10 _ by repeat (first | exact Fr.refl _ _ | refine Fr.drew ?_))).then HR8.out.1 HR9.out.1 (fun p hp => (HA4.out p (List.mem_of_mem_drop hp)).fr (HF10.out.next (by repeat (first | exact Fr.refl _ _ | refine Fr.drew ?_))) fun _ _ h => h) hfr11 hown11); have HF11 := Lib.hid (fr_to_base (((HF10.out.next (by repeat (first | exact Fr.refl _ _ | refine Fr.drew ?_))).mono (o2 := fun k => w7.heap.size ≤ k) fun _ _ h => h.elim).next hfr11) (Nat.le_refl _)); clear hown11 hgrow11 hfr11)
          | (refine step_call rfl 37 #[.tmp 128, .tmp 129] #[22, 24] rfl [.slice b11 (a.length + b.length) cap11, u] rfl ent37 _ (alike_eq HM.out H11.out.view HU.out HF11.out HL9.out (by repeat (first | exact Fr.refl _ _ | refine Fr.drew ?_))) ?_; rintro e w12 ⟨rfl, hF12⟩; have HF12 := Lib.hid hF12; clear hF12; refine ⟨_, rfl, ?_⟩)
          | fail)
        go_wp2_with fail
        go_ret
        exact ⟨rfl, (HF4.out.next HF7.out).next (HF11.out.next HF12.out)⟩
end Go.Proofs.YtpinjgdnhbogoaaGreatDoor

/- The walk of the law XmlBack. -/
namespace Go.Proofs.YtpinjgdnhbogoaaGreatDoor
open Go.RowKit Go.Lib

theorem good_tok : ∀ {l : List TokD}, Good l → ∀ x ∈ l, TokOK x
  | [], _, _, h => by cases h
  | t :: l, .cons h1 _ h3, x, h => by
    rcases List.mem_cons.1 h with rfl | h
    · exact h1
    · exact good_tok h3 x h
theorem tok_attrs {l : List TokD} (h : Good l) {n : Nat} (hw : (writeL l).length ≤ n) : ∀ x ∈ l, x.attrs.length ≤ n := by
  intro x hx
  obtain ⟨i, hi⟩ := List.getElem?_of_mem hx
  have h1 := write_part hi
  rcases good_tok h x hx with ⟨k, _⟩ | ⟨_, _, k, _⟩ | ⟨_, _, k, _⟩
  · rw [tokW_open k] at h1
    have := attrs_w x.attrs
    simp only [List.length_cons, List.length_append] at h1
    omega
  · rw [k]; exact Nat.zero_le _
  · rw [k]; exact Nat.zero_le _
theorem alike_at {w : World} {S S2 : Nat → Prop} {v u : Value} {a : List TokD} (ha : TokV w S v a) (hb : TokV w S2 u a) (hl : a.length ≤ 100 ∧ ∀ x ∈ a, x.attrs.length ≤ 20) :
    Calls Tryz.prog 37 #[v, u] w fun e w' => e = .returned (.bool true) ∧ Fr (fun _ => False) w w' := by
  refine (alike_h ha hb (by omega) (fun x hx => by have := hl.2 x hx; omega)).mono ?_
  rintro e w' ⟨rfl, p, rfl⟩
  exact ⟨by simp, (Fr.refl _ _).drewN p⟩
set_option maxRecDepth 100000 in
set_option maxHeartbeats 16000000 in
theorem back_h {w : World} (hE : Env w) (s : Str) : Calls Tryz.prog 14 #[.string (bs s)] w fun e w' => e = .returned (.bool true) ∧ Fr (fun _ => False) w w' := by
  have hsz : (bs s).size = s.length := rfl
  have HE := Lib.hid hE
  have HS := Lib.hid (shown_h hE)
  clear hE
  by_cases hlong : 3000 < s.length
  · have hd : decide ((3000 : Int) < (s.length : Int)) = true := decide_eq_true (by omega)
    go_enter Tryz.func14, Tryz.ntmps14
    go_wp2_with fail
    refine Calls.mono HS.out ?_
    rintro e w1 ⟨rfl, hF⟩
    have HF := Lib.hid hF
    clear hF
    go_wp2_with fail
    go_ret
    exact ⟨rfl, HF.out⟩
  have hd : decide ((3000 : Int) < (s.length : Int)) = false := decide_eq_false (by omega)
  have hs3 : s.length ≤ 3000 := by omega
  clear hlong
  have HRead := Lib.hid (fun (W : World) (hF : Fr (fun _ => False) w W) {x : Str} {l : List TokD} {a b : Int} (hr : readD x = (l, a, b)) (hs : x.length ≤ 1000000) => read_at (HE.out.grow hF) hr hs)
  cases hrs : readL s with
  | error k =>
    have hR1 := Lib.hid (readD_bad hrs (by omega))
    have hn0 : ([] : List TokD).length = 0 := rfl
    have HN0 := Lib.hid hn0
    clear hrs hn0
    go_enter Tryz.func14, Tryz.ntmps14
    go_wp2_with fail
    refine Calls.mono HS.out ?_
    rintro e w1 ⟨rfl, hF⟩
    have HF := Lib.hid hF
    clear hF
    go_wp2_with fail
    refine Calls.mono (HRead.out _ HF.out hR1.out (by omega)) ?_
    rintro e w2 ⟨⟨v2, rfl, hT2⟩, hF2⟩
    obtain ⟨a2, cap2, rfl, _, _⟩ := hT2.sliced
    have HF2 := Lib.hid (HF.out.next hF2)
    rw [HN0.out]
    clear hF2 hT2
    go_wp2_with fail
    go_ret
    exact ⟨rfl, HF2.out⟩
  | ok a =>
    have hR1 := Lib.hid (readD_ok hrs (by omega))
    have hwl := readL_w hrs
    have hwl2 : (writeL a).length ≤ 90000 := by omega
    have hal := readL_many hrs
    have hal2 : a.length ≤ 9001 := by omega
    have HAT := Lib.hid (tok_attrs (readL_good hrs) (n := 1000000) (by omega))
    have HBK := Lib.hid (read_back hrs)
    obtain ⟨t, ht⟩ : ∃ t, writeL a = t := ⟨_, rfl⟩
    rw [ht] at hwl2 HBK
    have HT := Lib.hid ht
    have hzt : (bs t).size = t.length := rfl
    have HWR := Lib.hid (fun (W : World) (v : Value) (hv : TokV W (fun k => k < W.heap.size) v a) => show Calls Tryz.prog 51 #[v] W fun e w' => e = .returned (.string (bs t)) ∧ Fr (fun _ => False) W w' by
      have h := write_h hv (by rw [HT.out]; omega) (small_of_write (by rw [HT.out]; omega)) (by omega) HAT.out
      rw [HT.out] at h; exact h)
    clear hwl hal hrs ht
    obtain ⟨l2, f2, at2, hR2, hcl⟩ : ∃ l2 f2 at2, readD t = (l2, f2, at2) ∧ (20000 < t.length ∨ (¬ 20000 < t.length ∧ l2 = a ∧ f2 = 0 ∧ at2 = 0)) := by
      by_cases h : 20000 < t.length
      · exact ⟨_, _, _, rfl, .inl h⟩
      · exact ⟨_, _, _, readD_ok HBK.out (by omega), .inr ⟨h, rfl, rfl, rfl⟩⟩
    have HR2 := Lib.hid hR2
    have HCL := Lib.hid hcl
    clear hR2 hcl
    go_enter Tryz.func14, Tryz.ntmps14
    go_wp2_with fail
    refine Calls.mono HS.out ?_
    rintro e w1 ⟨rfl, hF⟩
    have HF := Lib.hid hF
    clear hF
    go_wp2_with fail
    refine Calls.mono (HRead.out _ HF.out hR1.out (by omega)) ?_
    rintro e w2 ⟨⟨v2, rfl, hT2⟩, hF2⟩
    obtain ⟨a2, cap2, rfl, _, _⟩ := hT2.sliced
    have HF2 := Lib.hid (HF.out.next hF2)
    have HT2 := Lib.hid hT2
    clear hF2 hT2
    go_wp2_with fail
    refine Calls.mono (HWR.out _ _ HT2.out.low) ?_
    rintro e w3 ⟨rfl, hF3⟩
    have HF3 := Lib.hid (HF2.out.next hF3)
    have HT23 := Lib.hid (HT2.out.fr hF3)
    clear hF3
    go_wp2_with fail
    refine Calls.mono (HRead.out _ HF3.out HR2.out (by omega)) ?_
    rintro e w4 ⟨⟨v4, rfl, hT4⟩, hF4⟩
    obtain ⟨a4, cap4, rfl, _, _⟩ := hT4.sliced
    have HF4 := Lib.hid (HF3.out.next hF4)
    have HT24 := Lib.hid (HT23.out.fr hF4)
    have HT4 := Lib.hid hT4
    clear hF4 hT4
    go_wp2_with fail
    refine Calls.mono (as_h HT24.out.view) ?_
    rintro e w5 ⟨u, bb, rfl, hbb, hR5, hF5⟩
    have HF5 := Lib.hid (HF4.out.next hF5)
    have HT45 := Lib.hid (HT4.out.fr hF5)
    have HR5 := Lib.hid hR5
    clear hF5 hR5
    cases hfit : fitsA a with
    | false =>
      rw [hfit] at hbb
      subst hbb
      clear hfit
      go_wp2_with fail
      go_ret
      exact ⟨rfl, HF5.out⟩
    | true =>
      rw [hfit] at hbb
      subst hbb
      have HL9 := Lib.hid (fits_len2 hfit)
      have HU := Lib.hid (HR5.out rfl)
      clear hfit
      rcases HCL.out with hbig | ⟨hsm, hq1, rfl, rfl⟩
      · have hd2 : decide ((20000 : Int) < (t.length : Int)) = true := decide_eq_true (by omega)
        have hd3 : (20000 : Int) < (t.length : Int) := by omega
        clear hbig
        go_wp2_with fail
        go_ret
        exact ⟨rfl, HF5.out⟩
      · subst hq1
        have hd2 : decide ((20000 : Int) < (t.length : Int)) = false := decide_eq_false (by omega)
        clear hsm
        go_wp2_with fail
        refine Calls.mono (alike_at HT45.out.view HU.out.view HL9.out) ?_
        rintro e w6 ⟨rfl, hF6⟩
        have HF6 := Lib.hid (HF5.out.next hF6)
        have HT46 := Lib.hid (HT45.out.fr hF6)
        clear hF6
        go_wp2_with fail
        refine Calls.mono (HWR.out _ _ HT46.out.low) ?_
        rintro e w7 ⟨rfl, hF7⟩
        have HF7 := Lib.hid (HF6.out.next hF7)
        have hee : ((bs t).toList == (bs t).toList) = true := by simp
        clear hF7
        go_wp2_with fail
        go_ret
        exact ⟨rfl, HF7.out⟩
end Go.Proofs.YtpinjgdnhbogoaaGreatDoor
