/- How long the writing of what is read may be (no program). -/
import Derived.Test.YtpinjgdnhbogoaaGreatDoorWR
import Derived.Test.YtpinjgdnhbogoaaGreatDoorM2
import Derived.Test.YtpinjgdnhbogoaaGreatDoorM7
import Derived.Deep.RegionLaw
import Derived.Deep.RegionHeldLaw
namespace Go.Proofs.YtpinjgdnhbogoaaGreatDoor

theorem attrL_w {s a v left : Str} (h : attrL s = some (a, v, left)) : (attrW (a, v)).length + 30 * left.length ≤ 30 * s.length := by
  unfold attrL at h
  split at h
  · cases h
  · have h0 := name_le s
    have h1 := trim_le (s.drop (nameL s).length)
    rw [List.length_drop] at h1
    split at h
    · rename_i s2 he
      have h2 := trim_le s2
      rw [he] at h1
      simp only [List.length_cons] at h1
      split at h
      · rename_i q s4 he2
        rw [he2] at h2
        simp only [List.length_cons] at h2
        split at h
        · cases hc : cutL [q] s4 with
          | none => rw [hc] at h; cases h
          | some p =>
            rw [hc] at h
            have h3 := cutL_lens (a := p.1) (b := p.2) hc
            dsimp only at h
            cases hs : saidL p.1 with
            | error k => rw [hs] at h; cases h
            | ok u =>
              rw [hs] at h
              have h4 := said_len _ _ (Nat.lt_succ_self _) hs
              have h5 := esc_le u
              dsimp only at h
              split at h
              · cases h
              · simp only [Option.some.injEq, Prod.mk.injEq] at h
                obtain ⟨rfl, rfl, rfl⟩ := h
                have e : (attrW (nameL s, u)).length = 1 + (nameL s).length + 2 + (escL u).length + 1 := by unfold attrW; simp; omega
                rw [e]
                simp only [List.length_singleton] at h3
                omega
        · cases h
      · cases h
    · cases h
theorem attrsF_w : ∀ (n : Nat) (l : List (Str × Str)) (s : Str) {l' : List (Str × Str)} {b : Bool} {left : Str}, attrsF n l s = some (l', b, left) → (l'.flatMap attrW).length + 30 * left.length + 30 ≤ (l.flatMap attrW).length + 30 * s.length
  | 0, _, _, _, _, _, h => by cases h
  | n + 1, l, s, l', b, left, h => by
    have h0 := trim_le s
    unfold attrsF at h
    dsimp only at h
    split at h
    · rename_i hp
      have := (List.isPrefixOf_iff_prefix.1 hp).length_le
      simp only [Option.some.injEq, Prod.mk.injEq] at h
      rw [← h.2.2, ← h.1, List.length_drop]; simp at this; omega
    split at h
    · rename_i hp
      have := (List.isPrefixOf_iff_prefix.1 hp).length_le
      simp only [Option.some.injEq, Prod.mk.injEq] at h
      rw [← h.2.2, ← h.1, List.length_drop]; simp at this; omega
    split at h
    · cases h
    cases ha : attrL (trimL s) with
    | none => rw [ha] at h; cases h
    | some p =>
      obtain ⟨a, v, r⟩ := p
      rw [ha] at h
      dsimp only at h
      have h1 := attrL_w ha
      split at h
      · cases h
      · have h2 := attrsF_w n _ _ h
        rw [List.flatMap_append, List.length_append] at h2
        have h3 : ([(a, v)] : List (Str × Str)).flatMap attrW = attrW (a, v) := by simp
        rw [h3] at h2
        omega
theorem tagL_w {s left : Str} {l : List TokD} (h : tagL s = some (l, left)) : (writeL l).length + 30 * left.length ≤ 30 * s.length := by
  unfold tagL at h
  split at h
  · cases h
  rename_i hne
  have h0 := name_le s
  have hn : 0 < (nameL s).length := by cases hx : nameL s with | nil => rw [hx] at hne; exact absurd rfl hne | cons _ _ => simp
  cases ha : attrsF (s.length + 1) [] (s.drop (nameL s).length) with
  | none => rw [ha] at h; cases h
  | some p =>
    obtain ⟨la, b, r⟩ := p
    have h1 := attrsF_w _ _ _ ha
    rw [List.length_drop] at h1
    simp only [List.flatMap_nil, List.length_nil] at h1
    rw [ha] at h
    have e1 : ∀ t, (writeL [t]).length = (tokW t).length := fun t => by unfold writeL; simp
    have e2 : ∀ t t', (writeL [t, t']).length = (tokW t).length + (tokW t').length := fun t t' => by unfold writeL; simp
    cases b with
    | true =>
      simp only [Option.some.injEq, Prod.mk.injEq] at h
      obtain ⟨rfl, rfl⟩ := h
      rw [e2, tokW_open rfl, tokW_close rfl]
      simp only [List.length_cons, List.length_append, List.length_nil]
      omega
    | false =>
      simp only [Option.some.injEq, Prod.mk.injEq] at h
      obtain ⟨rfl, rfl⟩ := h
      rw [e1, tokW_open rfl]
      simp only [List.length_cons, List.length_append, List.length_nil]
      omega
theorem closeL_w {s left : Str} {l : List TokD} (h : closeL s = some (l, left)) : (writeL l).length + 30 * left.length ≤ 30 * s.length := by
  unfold closeL at h
  split at h
  · cases h
  rename_i hne
  have h0 := name_le s
  have hn : 0 < (nameL s).length := by cases hx : nameL s with | nil => rw [hx] at hne; exact absurd rfl hne | cons _ _ => simp
  split at h
  · rename_i rest he
    have h1 := trim_le (s.drop (nameL s).length)
    rw [he, List.length_drop] at h1
    simp only [Option.some.injEq, Prod.mk.injEq] at h
    obtain ⟨rfl, rfl⟩ := h
    have e1 : ∀ t, (writeL [t]).length = (tokW t).length := fun t => by unfold writeL; simp
    rw [e1, tokW_close rfl]
    simp only [List.length_cons, List.length_append, List.length_nil] at h1 ⊢
    omega
  · cases h
theorem partL_w {s u left : Str} {l : List TokD} (h : partL s = some (u, l, left)) : 6 * u.length + (writeL l).length + 30 * left.length ≤ 30 * s.length := by
  have ho := partL_out h
  have hl := partL_len h
  have w0 : (writeL []).length = 0 := rfl
  have cut0 : ∀ (c r : Str) , (cutL c r).map (fun q => (([], [], q.2) : Str × List TokD × Str)) = some (u, l, left) → l = [] := by
    intro c r h
    cases hq : cutL c r with
    | none => rw [hq] at h; cases h
    | some q => rw [hq] at h; cases h; rfl
  unfold partL at h
  split at h
  · rw [cut0 _ _ h, w0]; omega
  split at h
  · rw [cut0 _ _ h, w0]; omega
  split at h
  · rename_i r hr
    cases hq : cutL [93, 93, 62] r with
    | none => rw [hq] at h; cases h
    | some q => rw [hq] at h; cases h; rw [w0]; omega
  split at h
  · split at h
    · cases h
    · split at h
      · cases h
      · cases h; rw [w0]; omega
  split at h
  · rename_i r hr
    have h4 := congrArg List.length (stripL_some hr)
    rw [List.length_append] at h4
    cases hq : closeL r with
    | none => rw [hq] at h; cases h
    | some q =>
      rw [hq] at h
      have h5 := closeL_w (l := q.1) (left := q.2) hq
      cases h
      simp at h4 ⊢; omega
  · cases hq : tagL (s.drop 1) with
    | none => rw [hq] at h; cases h
    | some q =>
      rw [hq] at h
      have h5 := tagL_w (l := q.1) (left := q.2) hq
      rw [List.length_drop] at h5
      cases h
      simp; omega
theorem write_app (a b : List TokD) : (writeL (a ++ b)).length = (writeL a).length + (writeL b).length := by unfold writeL; rw [List.flatMap_append, List.length_append]
theorem flush_w (l : List TokD) (w : Str) : (writeL (flushL l w)).length ≤ (writeL l).length + 6 * w.length := by
  unfold flushL
  split
  · omega
  · have := esc_le w
    rw [write_app]
    have e : writeL [⟨3, [], [], w⟩] = escL w := by unfold writeL; simp [tokW]
    rw [e]; omega
theorem readG_w : ∀ (n : Nat) (s : Str) (k : Nat) (l : List TokD) (w : Str) {r : List TokD}, s.length < n → readG k l w s = .ok r → (writeL r).length ≤ (writeL l).length + 6 * w.length + 30 * s.length
  | 0, _, _, _, _, _, h, _ => by omega
  | n + 1, s, k, l, w, r, hn, h => by
    obtain ⟨seg, rest, rfl, hno, hrest⟩ := split_text s
    by_cases hs : seg = []
    · subst hs
      rw [List.nil_append] at h hn ⊢
      rcases hrest with rfl | ⟨t, rfl⟩
      · rw [readG_nil] at h
        have := flush_w l w
        rw [← Except.ok.inj h]; omega
      · cases hp : partL (60 :: t) with
        | none => rw [readG_bad hp] at h; cases h
        | some p =>
          obtain ⟨u, toks, left⟩ := p
          have hlen := partL_len hp
          have hw := partL_w hp
          rw [readG_part hp] at h
          by_cases ht : toks.isEmpty = true
          · rw [if_pos ht] at h
            have := readG_w n left _ _ _ (by omega) h
            rw [List.length_append] at this
            omega
          · rw [if_neg ht] at h
            have h1 := readG_w n left _ _ _ (by omega) h
            have h2 := flush_w l (w ++ u)
            rw [List.length_append] at h2
            rw [write_app] at h1
            simp only [List.length_nil] at h1
            omega
    · rw [readG_text hs hno hrest] at h
      have hpos := List.length_pos_iff.2 hs
      rw [List.length_append] at hn ⊢
      cases hsd : saidL seg with
      | error j => rw [hsd] at h; cases h
      | ok u =>
        rw [hsd] at h
        have h1 := readG_w n rest _ _ _ (by omega) h
        have h2 := said_len _ _ (Nat.lt_succ_self _) hsd
        rw [List.length_append] at h1
        omega
theorem readL_w {s : Str} {r : List TokD} (h : readL s = .ok r) : (writeL r).length ≤ 30 * s.length := by
  have := readG_w _ s 0 [] [] (Nat.lt_succ_self _) h
  simpa [writeL] using this
/-- no token has more attributes than its writing has bytes -/
theorem attrs_w : ∀ l : List (Str × Str), l.length ≤ (l.flatMap attrW).length
  | [] => Nat.zero_le _
  | p :: l => by
    have h := attrs_w l
    have h1 : 1 ≤ (attrW p).length := by unfold attrW; simp
    rw [List.flatMap_cons, List.length_append, List.length_cons]
    omega
end Go.Proofs.YtpinjgdnhbogoaaGreatDoor

/- The walk of the law XmlEscapes. -/
namespace Go.Proofs.YtpinjgdnhbogoaaGreatDoor
open Go.RowKit Go.Lib

theorem readD_ok {s : Str} {l : List TokD} (h : readL s = .ok l) (hs : s.length ≤ 20000) : readD s = (l, 0, 0) := by
  unfold readD; rw [if_neg (by omega), h]
theorem Toks.cells {B : Nat} {w : World} {a : Option Addr} {cap : Nat} {l : List TokD} (h : Toks B w (.slice a l.length cap) l) (hp : 0 < l.length) :
    ∃ g off, a = some ⟨g, off, none⟩ ∧ ∀ i x, l[i]? = some x → ∃ av, ElemAt w (fun k => B ≤ k ∧ k < w.heap.size) g off i x av := by
  obtain ⟨a', cap', e, h2, h3, h4⟩ := h.view.elems
  cases e
  exact h4 hp
def escT (s : Str) : List TokD := flushL [⟨1, [97], [([120], s)], []⟩] s ++ [⟨2, [97], [], []⟩]
end Go.Proofs.YtpinjgdnhbogoaaGreatDoor

/- The walk of the law XmlJoins. -/
namespace Go.Proofs.YtpinjgdnhbogoaaGreatDoor
open Go.RowKit Go.Lib

theorem readD_bad {s : Str} {i : Nat} (h : readL s = .error i) (hs : s.length ≤ 20000) : readD s = ([], 8, (i : Int)) := by
  unfold readD; rw [if_neg (by omega), h]
def joinT (a b : List TokD) : List TokD := a ++ (⟨1, [113], [], []⟩ :: ⟨2, [113], [], []⟩ :: b)
theorem Toks.low {B : Nat} {w : World} {v : Value} {l : List TokD} (h : Toks B w v l) : TokV w (fun k => k < w.heap.size) v l := h.view.mono fun _ h => h.2
end Go.Proofs.YtpinjgdnhbogoaaGreatDoor

/- The walk of the law XmlBack. -/
namespace Go.Proofs.YtpinjgdnhbogoaaGreatDoor
open Go.RowKit Go.Lib

theorem good_tok : ∀ {l : List TokD}, Good l → ∀ x ∈ l, TokOK x
  | [], _, _, h => by cases h
  | t :: l, .cons h1 _ h3, x, h => by
    rcases List.mem_cons.1 h with rfl | h
    · exact h1
    · exact good_tok h3 x h
theorem tok_attrs {l : List TokD} (h : Good l) {n : Nat} (hw : (writeL l).length ≤ n) : ∀ x ∈ l, x.attrs.length ≤ n := by
  intro x hx
  obtain ⟨i, hi⟩ := List.getElem?_of_mem hx
  have h1 := write_part hi
  rcases good_tok h x hx with ⟨k, _⟩ | ⟨_, _, k, _⟩ | ⟨_, _, k, _⟩
  · rw [tokW_open k] at h1
    have := attrs_w x.attrs
    simp only [List.length_cons, List.length_append] at h1
    omega
  · rw [k]; exact Nat.zero_le _
  · rw [k]; exact Nat.zero_le _
end Go.Proofs.YtpinjgdnhbogoaaGreatDoor
