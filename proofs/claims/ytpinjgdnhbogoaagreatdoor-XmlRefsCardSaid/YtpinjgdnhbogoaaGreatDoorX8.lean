/- Tokens that are read are right (no program). -/
import Derived.Test.YtpinjgdnhbogoaaGreatDoorX7
namespace Go.Proofs.YtpinjgdnhbogoaaGreatDoor

theorem attrL_name {s a v left : Str} (h : attrL s = some (a, v, left)) : NameOK a := by
  unfold attrL at h
  split at h
  · cases h
  rename_i hn
  split at h
  · split at h
    · split at h
      · rename_i q s4 _ _
        cases hc : cutL [q] s4 with
        | none => rw [hc] at h; cases h
        | some p =>
          rw [hc] at h
          dsimp only at h
          cases hs : saidL p.1 with
          | error k => rw [hs] at h; cases h
          | ok u =>
            rw [hs] at h
            dsimp only at h
            split at h
            · cases h
            · simp only [Option.some.injEq, Prod.mk.injEq] at h
              rw [← h.1]; exact nameOK_of hn
      · cases h
    · cases h
  · cases h
theorem attrsF_ok : ∀ (n : Nat) (l : List (Str × Str)) (s : Str) {l' : List (Str × Str)} {b : Bool} {left : Str}, AttrsOK l → attrsF n l s = some (l', b, left) → AttrsOK l'
  | 0, _, _, _, _, _, _, h => by cases h
  | n + 1, l, s, l', b, left, hok, h => by
    unfold attrsF at h
    dsimp only at h
    split at h
    · simp only [Option.some.injEq, Prod.mk.injEq] at h; rw [← h.1]; exact hok
    split at h
    · simp only [Option.some.injEq, Prod.mk.injEq] at h; rw [← h.1]; exact hok
    split at h
    · cases h
    cases ha : attrL (trimL s) with
    | none => rw [ha] at h; cases h
    | some p =>
      obtain ⟨a, v, r⟩ := p
      rw [ha] at h
      dsimp only at h
      split at h
      · cases h
      · rename_i hany
        have hn := attrL_name ha
        refine attrsF_ok n _ _ ⟨fun x hx => ?_, ?_⟩ h
        · rcases List.mem_append.1 hx with hx | hx
          · exact hok.1 x hx
          · rw [List.mem_singleton.1 hx]; exact hn
        · rw [List.map_append, List.nodup_append]
          refine ⟨hok.2, by simp, fun x hx y hy => ?_⟩
          rintro rfl
          apply hany
          obtain ⟨z, hz, hzx⟩ := List.mem_map.1 hx
          rw [List.any_eq_true]
          exact ⟨z, hz, by rw [hzx]; simpa using hy⟩
theorem attrs_nil : AttrsOK [] := ⟨(fun _ h => by cases h), List.nodup_nil⟩
def TagOK (l : List TokD) : Prop := ∀ t ∈ l, TokOK t ∧ t.kind ≠ 3
theorem tagL_ok {s left : Str} {l : List TokD} (h : tagL s = some (l, left)) : TagOK l := by
  unfold tagL at h
  split at h
  · cases h
  rename_i hn
  have hn' := nameOK_of hn
  cases ha : attrsF (s.length + 1) [] (s.drop (nameL s).length) with
  | none => rw [ha] at h; cases h
  | some p =>
    obtain ⟨as, b, r⟩ := p
    have hok := attrsF_ok _ _ _ attrs_nil ha
    rw [ha] at h
    cases b with
    | false =>
      simp only [Option.some.injEq, Prod.mk.injEq] at h
      rw [← h.1]
      intro t ht
      rw [List.mem_singleton.1 ht]
      exact ⟨.inl ⟨rfl, hn', hok, rfl⟩, by simp⟩
    | true =>
      simp only [Option.some.injEq, Prod.mk.injEq] at h
      rw [← h.1]
      intro t ht
      rcases List.mem_cons.1 ht with rfl | ht
      · exact ⟨.inl ⟨rfl, hn', hok, rfl⟩, by simp⟩
      · rw [List.mem_singleton.1 ht]
        exact ⟨.inr (.inl ⟨rfl, hn', rfl, rfl⟩), by simp⟩
theorem closeL_ok {s left : Str} {l : List TokD} (h : closeL s = some (l, left)) : TagOK l := by
  unfold closeL at h
  split at h
  · cases h
  rename_i hn
  split at h
  · simp only [Option.some.injEq, Prod.mk.injEq] at h
    rw [← h.1]
    intro t ht
    rw [List.mem_singleton.1 ht]
    exact ⟨.inr (.inl ⟨rfl, nameOK_of hn, rfl, rfl⟩), by simp⟩
  · cases h
theorem cut_map_nil {c r : Str} {f : Str × Str → Str × List TokD × Str} {x : Str × List TokD × Str} (hf : ∀ q, (f q).2.1 = []) (h : (cutL c r).map f = some x) : TagOK x.2.1 := by
  cases hq : cutL c r with
  | none => rw [hq] at h; cases h
  | some q =>
    rw [hq] at h
    rw [← Option.some.inj h, hf]
    intro t ht; cases ht
theorem partL_ok {s u left : Str} {l : List TokD} (h : partL s = some (u, l, left)) : TagOK l := by
  unfold partL at h
  split at h
  · exact cut_map_nil (fun _ => rfl) h
  split at h
  · exact cut_map_nil (fun _ => rfl) h
  split at h
  · exact cut_map_nil (fun _ => rfl) h
  split at h
  · split at h
    · cases h
    · split at h
      · cases h
      · simp only [Option.some.injEq, Prod.mk.injEq] at h
        rw [← h.2.1]; intro t ht; cases ht
  split at h
  · rename_i r _
    cases hc : closeL r with
    | none => rw [hc] at h; cases h
    | some q =>
      rw [hc] at h
      simp only [Option.map_some, Option.some.injEq, Prod.mk.injEq] at h
      rw [← h.2.1]; exact closeL_ok (left := q.2) hc
  · cases hc : tagL (s.drop 1) with
    | none => rw [hc] at h; cases h
    | some q =>
      rw [hc] at h
      simp only [Option.map_some, Option.some.injEq, Prod.mk.injEq] at h
      rw [← h.2.1]; exact tagL_ok (left := q.2) hc

def lastOK (l : List TokD) : Prop := ∀ t, l.getLast? = some t → t.kind ≠ 3
theorem good_app : ∀ {l m : List TokD}, Good l → Good m → (lastOK l ∨ notWords m) → Good (l ++ m)
  | [], _, _, hm, _ => hm
  | t :: l, m, .cons ht hw hl, hm, hor => by
    refine .cons ht (fun hk => ?_) (good_app hl hm ?_)
    · cases l with
      | nil =>
        rcases hor with h | h
        · exact absurd hk (h t rfl)
        · exact h
      | cons x y => exact hw hk
    · rcases hor with h | h
      · cases l with
        | nil => exact .inl fun _ h => by cases h
        | cons x y => exact .inl fun z hz => h z (by rw [List.getLast?_cons_cons]; exact hz)
      · exact .inr h
theorem tag_good : ∀ {l : List TokD}, TagOK l → Good l
  | [], _ => .nil
  | t :: l, h => .cons (h t (List.mem_cons_self ..)).1 (fun hk => absurd hk (h t (List.mem_cons_self ..)).2) (tag_good fun x hx => h x (List.mem_cons_of_mem _ hx))
theorem tag_notWords {l : List TokD} (h : TagOK l) : notWords l := by
  cases l with
  | nil => trivial
  | cons t l => exact (h t (List.mem_cons_self ..)).2
theorem flush_good {l : List TokD} (h : Good l) (hl : lastOK l) (w : Str) : Good (flushL l w) := by
  by_cases hw : w = []
  · rw [hw, flush_nil]; exact h
  · rw [flush_words l hw]
    exact good_app h (.cons (.inr (.inr ⟨rfl, rfl, rfl, hw⟩)) (fun _ => trivial) .nil) (.inl hl)
theorem readG_good : ∀ (n : Nat) (s : Str) (k : Nat) (l : List TokD) (w : Str) {r : List TokD}, s.length < n → Good l → lastOK l → readG k l w s = .ok r → Good r
  | 0, _, _, _, _, _, h, _, _, _ => by omega
  | n + 1, s, k, l, w, r, hn, hg, hl, h => by
    obtain ⟨seg, rest, rfl, hno, hrest⟩ := split_text s
    by_cases hs : seg = []
    · subst hs
      rw [List.nil_append] at h hn
      rcases hrest with rfl | ⟨t, rfl⟩
      · rw [readG_nil] at h
        rw [← Except.ok.inj h]; exact flush_good hg hl w
      · cases hp : partL (60 :: t) with
        | none => rw [readG_bad hp] at h; cases h
        | some p =>
          obtain ⟨u, toks, left⟩ := p
          have hlen := partL_len hp
          have hok := partL_ok hp
          rw [readG_part hp] at h
          by_cases ht : toks.isEmpty = true
          · rw [if_pos ht] at h
            exact readG_good n left _ _ _ (by omega) hg hl h
          · rw [if_neg ht] at h
            refine readG_good n left _ _ _ (by omega) (good_app (flush_good hg hl _) (tag_good hok) (.inr (tag_notWords hok))) (fun x hx => ?_) h
            have hne : toks ≠ [] := fun e => ht (by rw [e]; rfl)
            have hx2 : toks.getLast? = some x := by
              rw [List.getLast?_append] at hx
              cases hq : toks.getLast? with
              | none => exact absurd (List.getLast?_eq_none_iff.1 hq) hne
              | some y => rw [hq] at hx; simpa using hx
            exact (hok x (List.mem_of_getLast? hx2)).2
    · rw [readG_text hs hno hrest] at h
      cases hsd : saidL seg with
      | error j => rw [hsd] at h; cases h
      | ok u =>
        rw [hsd] at h
        dsimp only at h
        have hpos := List.length_pos_iff.2 hs
        rw [List.length_append] at hn
        exact readG_good n rest _ _ _ (by omega) hg hl h
theorem readL_good {s : Str} {l : List TokD} (h : readL s = .ok l) : Good l :=
  readG_good _ s 0 [] [] (Nat.lt_succ_self _) .nil (fun _ h => by cases h) h
/-- XmlBack: what is read of a text, written and read again, is the same -/
theorem read_back {s : Str} {l : List TokD} (h : readL s = .ok l) : readL (writeL l) = .ok l := by
  have := read_write (readL_good h) 0 [] [] (.inl rfl)
  rw [flush_nil, List.nil_append] at this
  exact this
/-- XmlEscapes -/
theorem read_esc (s : Str) : readL (escL s) = .ok (flushL [] s) := by
  by_cases hs : s = []
  · subst hs; rfl
  · have := readG_text (k := 0) (l := []) (w := []) (rest := []) (esc_ne hs) (esc_mem (.inl rfl) s) (.inl rfl)
    rw [List.append_nil, saidL_esc] at this
    exact this
theorem read_esc_tag (s : Str) : readL (60 :: 97 :: 32 :: 120 :: 61 :: 39 :: (escL s ++ 39 :: 62 :: (escL s ++ [60, 47, 97, 62]))) = .ok (flushL [⟨1, [97], [([120], s)], []⟩] s ++ [⟨2, [97], [], []⟩]) := by
  have hx : NameOK [120] := ⟨by simp, by decide⟩
  have ha : NameOK [97] := ⟨by simp, by decide⟩
  have h1 : partL (60 :: 97 :: 32 :: 120 :: 61 :: 39 :: (escL s ++ 39 :: 62 :: (escL s ++ [60, 47, 97, 62]))) = some ([], [⟨1, [97], [([120], s)], []⟩], escL s ++ [60, 47, 97, 62]) := by
    rw [part_tag (by decide)]
    have hn : nameL (97 :: 32 :: 120 :: 61 :: 39 :: (escL s ++ 39 :: 62 :: (escL s ++ [60, 47, 97, 62]))) = [97] := ha.stop (c := 32) (by decide) _
    unfold tagL
    rw [hn, if_neg (by simp), attrsL_eq (by simp)]
    have e := attrs_one hx (.inr rfl) [] s (62 :: (escL s ++ [60, 47, 97, 62])) rfl
    rw [attrs_end] at e
    have e2 : attrsL [] (List.drop ([97] : Str).length (97 :: 32 :: 120 :: 61 :: 39 :: (escL s ++ 39 :: 62 :: (escL s ++ [60, 47, 97, 62])))) = some ([([120], s)], false, escL s ++ [60, 47, 97, 62]) := e
    rw [e2]
    rfl
  show readG 0 [] [] _ = _
  rw [readG_part h1, if_neg (by simp)]
  have hclose := part_close ha []
  by_cases hs : s = []
  · subst hs
    show readG _ _ _ (60 :: 47 :: ([97] ++ [62])) = _
    rw [readG_part hclose, if_neg (by simp)]
    rfl
  · rw [readG_text (esc_ne hs) (esc_mem (.inl rfl) s) (.inr ⟨_, rfl⟩), saidL_esc]
    dsimp only
    show readG _ _ _ (60 :: 47 :: ([97] ++ [62])) = _
    rw [readG_part hclose, if_neg (by simp)]
    simp only [List.nil_append, List.append_nil]
    rfl
end Go.Proofs.YtpinjgdnhbogoaaGreatDoor
