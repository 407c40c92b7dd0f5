/- How many tokens are read, and where a text is refused; rows of tokens put together. -/
import Derived.Test.YtpinjgdnhbogoaaGreatDoorA2
namespace Go.Proofs.YtpinjgdnhbogoaaGreatDoor
open Go.RowKit Go.Lib

theorem readG_place : ∀ (n : Nat) (s : Str) (k : Nat) (l : List TokD) (w : Str) {i : Nat}, s.length < n → readG k l w s = .error i → i ≤ k + s.length
  | 0, _, _, _, _, _, h, _ => by omega
  | n + 1, s, k, l, w, i, hn, h => by
    obtain ⟨seg, rest, rfl, hno, hrest⟩ := split_text s
    by_cases hs : seg = []
    · subst hs
      rw [List.nil_append] at h hn ⊢
      rcases hrest with rfl | ⟨t, rfl⟩
      · rw [readG_nil] at h; cases h
      · cases hp : partL (60 :: t) with
        | none => rw [readG_bad hp] at h; cases h; omega
        | some p =>
          obtain ⟨u, toks, left⟩ := p
          have hlen := partL_len hp
          rw [readG_part hp] at h
          by_cases ht : toks.isEmpty = true
          · rw [if_pos ht] at h
            have := readG_place n left _ _ _ (by omega) h
            omega
          · rw [if_neg ht] at h
            have := readG_place n left _ _ _ (by omega) h
            omega
    · rw [readG_text hs hno hrest] at h
      have hpos := List.length_pos_iff.2 hs
      rw [List.length_append] at hn ⊢
      cases hsd : saidL seg with
      | error j =>
        rw [hsd] at h
        have := said_place _ _ (Nat.lt_succ_self _) hsd
        cases h
        omega
      | ok u =>
        rw [hsd] at h
        have := readG_place n rest _ _ _ (by omega) h
        omega
theorem readG_many : ∀ (n : Nat) (s : Str) (k : Nat) (l : List TokD) (w : Str) {r : List TokD}, s.length < n → readG k l w s = .ok r → r.length ≤ l.length + 3 * s.length + 1
  | 0, _, _, _, _, _, h, _ => by omega
  | n + 1, s, k, l, w, r, hn, h => by
    obtain ⟨seg, rest, rfl, hno, hrest⟩ := split_text s
    by_cases hs : seg = []
    · subst hs
      rw [List.nil_append] at h hn ⊢
      rcases hrest with rfl | ⟨t, rfl⟩
      · rw [readG_nil] at h
        have := flush_len l w
        rw [← Except.ok.inj h]; simp; omega
      · cases hp : partL (60 :: t) with
        | none => rw [readG_bad hp] at h; cases h
        | some p =>
          obtain ⟨u, toks, left⟩ := p
          have hlen := partL_len hp
          have hout := partL_out hp
          rw [readG_part hp] at h
          by_cases ht : toks.isEmpty = true
          · rw [if_pos ht] at h
            have := readG_many n left _ _ _ (by omega) h
            omega
          · rw [if_neg ht] at h
            have h1 := readG_many n left _ _ _ (by omega) h
            have h2 := flush_len l (w ++ u)
            rw [List.length_append] at h1
            omega
    · rw [readG_text hs hno hrest] at h
      have hpos := List.length_pos_iff.2 hs
      rw [List.length_append] at hn ⊢
      cases hsd : saidL seg with
      | error j => rw [hsd] at h; cases h
      | ok u =>
        rw [hsd] at h
        have := readG_many n rest _ _ _ (by omega) h
        omega
theorem readL_place {s : Str} {i : Nat} (h : readL s = .error i) : i ≤ s.length := by
  have := readG_place _ s 0 [] [] (Nat.lt_succ_self _) h
  omega
theorem readL_many {s : Str} {r : List TokD} (h : readL s = .ok r) : r.length ≤ 3 * s.length + 1 := by
  have := readG_many _ s 0 [] [] (Nat.lt_succ_self _) h
  simpa using this

/-- tokens' headers in a row of one's own, the attributes wherever they lie below B -/
structure TokApp (B : Nat) (w : World) (v : Value) (ps : List (TokD × Value)) : Prop where
  row : w.ownsRow B 54 4 v ps.length (tcells ps)
  att : ∀ p ∈ ps, SRow w (fun k => k < B) 2 p.2 p.1.attrs.length (acells p.1.attrs)
theorem TokApp.view {B : Nat} {w : World} {v : Value} {ps : List (TokD × Value)} (h : TokApp B w v ps) : TokV w (fun _ => True) v (ps.map Prod.fst) :=
  ⟨ps, rfl, (SRow.of_owns h.row).mono fun _ _ => trivial, fun p hp => (h.att p hp).mono fun _ _ => trivial⟩
theorem TokApp.fr {B : Nat} {w w' : World} {v : Value} {ps : List (TokD × Value)} (h : TokApp B w v ps) (hf : Fr (fun _ => False) w w') : TokApp B w' v ps :=
  ⟨ownsRow_fr h.row hf, fun p hp => (h.att p hp).fr hf fun _ _ h => h⟩
theorem TokApp.nil {B b : Nat} {w : World} (h : w.heap[b]? = some (.cells #[] 54 (0, 0))) (hb : B ≤ b) : TokApp B w (.slice (some ⟨b, 0, none⟩) 0 0) [] :=
  ⟨ownsRow_empty h hb, fun p hp => by cases hp⟩
theorem TokApp.app {B : Nat} {w w' : World} {v v' : Value} {ps qs : List (TokD × Value)} (h : TokApp B w v ps) (hq : ∀ p ∈ qs, SRow w (fun k => k < B) 2 p.2 p.1.attrs.length (acells p.1.attrs))
    (hf : Fr (fun k => B ≤ k) w w') (hr : w'.ownsRow B 54 4 v' (ps.length + qs.length) (tcells ps ++ tcells qs)) : TokApp B w' v' (ps ++ qs) :=
  ⟨by rw [List.length_append, ← tcells_app]; exact hr, fun p hp => by
    rcases List.mem_append.1 hp with hp | hp
    · exact (h.att p hp).fr hf fun k hk hB => by omega
    · exact (hq p hp).fr hf fun k hk hB => by omega⟩
theorem TokApp.first {B m cap : Nat} {b : Option Addr} {w w' : World} {v : Value} {qs : List (TokD × Value)} (h : TokApp B w v []) (hm : qs.length = m) (hq : ∀ p ∈ qs, SRow w (fun k => k < B) 2 p.2 p.1.attrs.length (acells p.1.attrs))
    (hf : Fr (fun k => B ≤ k) w w') (hr : w'.ownsRow B 54 4 (.slice b (0 + m) cap) (0 + m) ([] ++ tcells qs)) : TokApp B w' (.slice b m cap) qs := by
  rw [Nat.zero_add] at hr
  subst hm
  exact h.app hq hf (by simpa [tcells] using hr)
theorem TokApp.then {B n m cap : Nat} {b : Option Addr} {w w' : World} {v : Value} {ps qs : List (TokD × Value)} (h : TokApp B w v ps) (hn : ps.length = n) (hm : qs.length = m) (hq : ∀ p ∈ qs, SRow w (fun k => k < B) 2 p.2 p.1.attrs.length (acells p.1.attrs))
    (hf : Fr (fun k => B ≤ k) w w') (hr : w'.ownsRow B 54 4 (.slice b (n + m) cap) (n + m) (tcells ps ++ tcells qs)) : TokApp B w' (.slice b (n + m) cap) (ps ++ qs) := by
  subst hm; subst hn
  exact h.app hq hf hr
theorem fr_to_base {B : Nat} {w w' : World} (h : Fr (fun k => B ≤ k) w w') (hB : w.heap.size ≤ B) : Fr (fun _ => False) w w' := h.mono fun k hk hB2 => by omega
theorem TokApp.row2 {B n : Nat} {w W : World} {v : Value} {ps : List (TokD × Value)} (h : TokApp B w v ps) (hn : ps.length = n) (hf : Fr (fun _ => False) w W) : W.ownsRow B 54 4 v n (tcells ps) := by
  subst hn; exact (h.fr hf).row
/-- tokens that lie below B -/
theorem TokV.parts {w : World} {B : Nat} {v : Value} {l : List TokD} (h : TokV w (fun k => k < B) v l) : ∃ ps : List (TokD × Value), ps.map Prod.fst = l ∧ ps.length = l.length ∧ SRow w (fun k => k < B) 4 v ps.length (tcells ps) ∧ (∀ p ∈ ps, SRow w (fun k => k < B) 2 p.2 p.1.attrs.length (acells p.1.attrs)) ∧ ∀ u ∈ tcells ps, u.oneCell' = true := by
  obtain ⟨ps, h1, h2, h3⟩ := h
  refine ⟨ps, h1, by rw [← h1, List.length_map], h2, h3, tcells_one fun p hp => ?_⟩
  obtain ⟨_, a, c, h4, _⟩ := h3 p hp
  exact ⟨_, _, _, h4⟩
theorem TokV.mono {w : World} {S S' : Nat → Prop} {v : Value} {l : List TokD} (h : TokV w S v l) (hs : ∀ k, S k → S' k) : TokV w S' v l := by
  obtain ⟨ps, h1, h2, h3⟩ := h
  exact ⟨ps, h1, h2.mono hs, fun p hp => (h3 p hp).mono hs⟩
theorem fits_len2 {a : List TokD} (h : fitsA a = true) : a.length ≤ 100 ∧ ∀ x ∈ a, x.attrs.length ≤ 20 := by
  unfold fitsA at h
  simp only [Bool.and_eq_true, decide_eq_true_eq, Bool.not_eq_true', List.any_eq_false] at h
  refine ⟨h.1, fun x hx => ?_⟩
  have := h.2 x hx
  unfold bigT at this
  simp only [Bool.or_eq_true, decide_eq_true_eq, not_or] at this
  omega
theorem elem22 : Tryz.prog.elem 22 = 54 := by kernel_rfl
theorem under22 : Tryz.prog.underlying 22 = some (.slice (Tryz.prog.elem 22)) := by rw [elem22]; exact Tryz.underlying22
theorem size54 (w : World) : (sizeOf (Tryz.prog.elem 22)).run Tryz.prog w = .ok 4 w := by
  rw [elem22]
  obtain ⟨i, hi, _, hs, _⟩ := info_parts info54
  simp [sizeOf, typeInfo, hi, hs]
theorem head_run {a : Option Addr} {len cap k : Nat} {i : Int} (hi : i = (k : Int)) (hk : k ≤ cap) (w : World) :
    (Instr.slice 22 (.slice a len cap) none (some (.int .i64 i)) none).run Tryz.prog w = .ok (.slice a k cap) w := by
  subst hi
  rw [run_slice_h w 22 a len cap under22 .i64 k (by omega) (by omega), size54]
  have h : a.map (fun x => x.add 0) = a := by
    cases a with
    | none => rfl
    | some p => cases p with | mk b o s => cases s <;> simp [Addr.add]
  simp only [Result.andThen, sliced, Int.toNat_natCast, Nat.zero_mul, Nat.sub_zero, h, ite_self]
theorem tail_run {a : Option Addr} {len cap k : Nat} {i : Int} (hi : i = (k : Int)) (hk : k ≤ len) : ∃ a2 c2,
    (∀ w : World, (Instr.slice 22 (.slice a len cap) (some (.int .i64 i)) none none).run Tryz.prog w = .ok (.slice a2 (len - k) c2) w) ∧
    ∀ {W : World} {S : Nat → Prop} {xs : List Value}, SRow W S 4 (.slice a len cap) len xs → SRow W S 4 (.slice a2 (len - k) c2) (len - k) (xs.drop (k * 4)) := by
  subst hi
  refine ⟨_, _, fun w => ?_, fun {W S xs} h => h.tail hk⟩
  rw [run_slice_l w 22 a len cap under22 .i64 k (by omega) (by omega), size54]
  rfl
theorem tcells_drop : ∀ (k : Nat) (ps : List (TokD × Value)), (tcells ps).drop (k * 4) = tcells (ps.drop k)
  | 0, ps => by simp
  | k + 1, [] => by simp [tcells]
  | k + 1, p :: ps => by
    have e : tcells (p :: ps) = .int .i64 p.1.kind :: .string (bs p.1.name) :: p.2 :: .string (bs p.1.text) :: tcells ps := by simp [tcells, tc]
    rw [e, show (k + 1) * 4 = k * 4 + 1 + 1 + 1 + 1 by omega]
    simp only [List.drop_succ_cons]
    exact tcells_drop k ps
theorem tcells_take : ∀ (k : Nat) (ps : List (TokD × Value)), (tcells ps).take (k * 4) = tcells (ps.take k)
  | 0, ps => by simp [tcells]
  | k + 1, [] => by simp [tcells]
  | k + 1, p :: ps => by
    have e : ∀ ps, tcells (p :: ps) = .int .i64 p.1.kind :: .string (bs p.1.name) :: p.2 :: .string (bs p.1.text) :: tcells ps := by intro ps; simp [tcells, tc]
    rw [e, List.take_succ_cons, e, show (k + 1) * 4 = k * 4 + 1 + 1 + 1 + 1 by omega]
    simp only [List.take_succ_cons]
    rw [tcells_take k ps]
theorem tcells_sub {ps qs : List (TokD × Value)} (h : ∀ u ∈ tcells ps, u.oneCell' = true) (hs : ∀ p ∈ qs, p ∈ ps) : ∀ u ∈ tcells qs, u.oneCell' = true := by
  intro u hu
  obtain ⟨p, hp, hp2⟩ := List.mem_flatMap.1 hu
  exact h u (List.mem_flatMap.2 ⟨p, hs p hp, hp2⟩)
end Go.Proofs.YtpinjgdnhbogoaaGreatDoor
