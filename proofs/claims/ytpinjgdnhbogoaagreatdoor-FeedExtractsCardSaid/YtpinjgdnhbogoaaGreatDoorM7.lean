/- as: tokens as the reference has them. -/
import Derived.Test.YtpinjgdnhbogoaaGreatDoorM2
import Derived.BigQuiet
import Derived.StillTailTactics
import Derived.Deep.RegionHeld3
namespace Go.Proofs.YtpinjgdnhbogoaaGreatDoor
open Go.RowKit Go.Lib

theorem info95 : (Tryz.prog.info? 95).map (fun i => (i.zero, i.size, i.bytes)) = some (some (.agg #[.string ⟨#[]⟩, .string ⟨#[]⟩]), 2, 32) := by kernel_rfl
theorem info97 : (Tryz.prog.info? 97).map (fun i => (i.zero, i.size, i.bytes)) = some (some (.agg #[.int .i64 0, .string ⟨#[]⟩, .slice none 0 0, .string ⟨#[]⟩]), 4, 64) := by kernel_rfl
def bigA (p : Str × Str) : Bool := decide (100 < p.1.length) || decide (300 < p.2.length)
def bigT (x : TokD) : Bool := decide (100 < x.name.length) || decide (500 < x.text.length) || decide (20 < x.attrs.length) || x.attrs.any bigA
def fitsA (a : List TokD) : Bool := decide (a.length ≤ 100) && !a.any bigT
/-- the reference's tokens in memory, in rows of one's own -/
def RToks (B : Nat) (w : World) (v : Value) (l : List TokD) : Prop :=
  ∃ ps : List (TokD × Value), ps.map Prod.fst = l ∧ w.ownsRow B 97 4 v ps.length (tcells ps) ∧ ∀ p ∈ ps, w.ownsRow B 95 2 p.2 p.1.attrs.length (acells p.1.attrs)
theorem RToks.fr {B : Nat} {w w' : World} {v : Value} {l : List TokD} (h : RToks B w v l) (hf : Fr (fun _ => False) w w') : RToks B w' v l := by
  obtain ⟨ps, h1, h2, h3⟩ := h
  exact ⟨ps, h1, ownsRow_fr h2 hf, fun p hp => ownsRow_fr (h3 p hp) hf⟩
theorem RToks.view {B : Nat} {w : World} {v : Value} {l : List TokD} (h : RToks B w v l) : TokV w (fun k => B ≤ k ∧ k < w.heap.size) v l := by
  obtain ⟨ps, h1, h2, h3⟩ := h
  exact ⟨ps, h1, (SRow.of_owns h2).mono fun k hk => h2.lt k hk, fun p hp => (SRow.of_owns (h3 p hp)).mono fun k hk => (h3 p hp).lt k hk⟩
theorem TokV.fr {w w' : World} {S o : Nat → Prop} {v : Value} {l : List TokD} (h : TokV w S v l) (hf : Fr o w w') (ho : ∀ k, S k → ¬ o k) : TokV w' S v l := by
  obtain ⟨ps, h1, h2, h3⟩ := h
  exact ⟨ps, h1, h2.fr hf ho, fun p hp => (h3 p hp).fr hf ho⟩
/-- a row grows by one token -/
theorem RToks.push {B : Nat} {w w7 : World} {v v2 av : Value} {l : List TokD} {x : TokD} {ps : List (TokD × Value)} (h1 : ps.map Prod.fst = l) (h2 : w.ownsRow B 97 4 v ps.length (tcells ps)) (h3 : ∀ p ∈ ps, w.ownsRow B 95 2 p.2 p.1.attrs.length (acells p.1.attrs))
    (hav : w.ownsRow B 95 2 av x.attrs.length (acells x.attrs)) (hg : w.grownBy w7 v.ownBlock) (hr : w7.ownsRow B 97 4 v2 (ps.length + 1) (tcells ps ++ tcells [(x, av)])) : RToks B w7 v2 (l ++ [x]) := by
  refine ⟨ps ++ [(x, av)], by simp [h1], by rw [List.length_append, ← tcells_app]; exact hr, fun p hp => ?_⟩
  have key : ∀ {q : Value} {n : Nat} {xs : List Value}, w.ownsRow B 95 2 q n xs → w7.ownsRow B 95 2 q n xs := by
    intro q n xs hq
    refine ownsRow_keep hq fun k hk => hg.block k (hq.lt k hk).2 fun e => ?_
    rcases hq.2 with ⟨rfl, _⟩ | ⟨g, cap, cur, rfl, _, hh, _⟩
    · simp [Value.ownBlock] at hk
    · simp only [Value.ownBlock, Option.some.injEq] at hk
      subst hk
      exact own_ne h2 hh (by decide) e.symm
  rcases List.mem_append.1 hp with hp | hp
  · exact key (h3 p hp)
  · simp only [List.mem_singleton] at hp; subst hp; exact key hav
/-- within a token: its struct t in block b6, its attributes so far -/
structure AttrIn (w9 : World) (x : TokD) (k : Nat) (av : Value) (W : World) : Prop where
  blk : W.heap[w9.heap.size]? = some (.cells #[.int .i64 x.kind, .string (bs x.name), av, .string (bs x.text)] 97 (0, 0))
  row : W.ownsRow (w9.heap.size + 1) 95 2 av k (acells (x.attrs.take k))
  ok : (x.attrs.take k).any bigA = false
  fr : Fr (fun _ => False) w9 W
theorem AttrIn.push {w9 W W2 w7 : World} {x : TokD} {k : Nat} {av av2 : Value} {p : Str × Str} (h : AttrIn w9 x k av W) (hx : x.attrs[k]? = some p) (hp : bigA p = false) (hF : Fr (fun _ => False) W W2)
    (hg : W2.grownBy w7 av.ownBlock) (hr : w7.ownsRow (w9.heap.size + 1) 95 2 av2 (k + 1) (acells (x.attrs.take k) ++ acells [p])) :
    w7.heap[w9.heap.size]? = some (.cells #[.int .i64 x.kind, .string (bs x.name), av, .string (bs x.text)] 97 (0, 0)) ∧ AttrIn w9 x (k + 1) av2 (w7.setCell ⟨w9.heap.size, 2, none⟩ av2) := by
  obtain ⟨h1, h2, h3, h4⟩ := h
  have htk : x.attrs.take (k + 1) = x.attrs.take k ++ [p] := by rw [List.take_add_one, hx]; rfl
  have hr2 := ownsRow_fr h2 hF
  have hb2 := hF.keep h1 (fun h => h)
  have hb7 := block_grown hb2 hg (fun e => by have := (hr2.lt _ e.symm).1; omega)
  have hne := own_ne hr hb7 (by decide)
  refine ⟨hb7, block_set hb7 2 av2, ?_, by rw [htk, List.any_append, h3]; simp [hp], ?_⟩
  · rw [htk, ← acells_app]
    exact ownsRow_keep hr fun j hj => block_set_ne (fun e => hne (by rw [hj, e]))
  · exact Fr.setCell (p := ⟨w9.heap.size, 2, none⟩) ((h4.next hF).grown hg fun j hj => .inr (by have := (hr2.lt _ hj).1; omega)) (.inr (Nat.le_refl _)) _
end Go.Proofs.YtpinjgdnhbogoaaGreatDoor

/- as, walked. -/
namespace Go.Proofs.YtpinjgdnhbogoaaGreatDoor
open Go.RowKit Go.Lib

theorem own_one {w : World} {B e size n : Nat} {v : Value} {xs : List Value} (h : w.ownsRow B e size v n xs) : v.oneCell' = true := by
  rcases h.2 with ⟨rfl, _⟩ | ⟨g, cap, cur, rfl, _⟩ <;> rfl
def AsPost (a : List TokD) (w : World) (e : Ending) (w' : World) : Prop :=
  ∃ u b, e = .returned (.tuple #[u, .bool b]) ∧ b = fitsA a ∧ (b = true → RToks w.heap.size w' u a) ∧ Fr (fun _ => False) w w'
end Go.Proofs.YtpinjgdnhbogoaaGreatDoor

/- How many tokens are read, and where a text is refused; rows of tokens put together. -/
namespace Go.Proofs.YtpinjgdnhbogoaaGreatDoor
open Go.RowKit Go.Lib

theorem readG_many : ∀ (n : Nat) (s : Str) (k : Nat) (l : List TokD) (w : Str) {r : List TokD}, s.length < n → readG k l w s = .ok r → r.length ≤ l.length + 3 * s.length + 1
  | 0, _, _, _, _, _, h, _ => by omega
  | n + 1, s, k, l, w, r, hn, h => by
    obtain ⟨seg, rest, rfl, hno, hrest⟩ := split_text s
    by_cases hs : seg = []
    · subst hs
      rw [List.nil_append] at h hn ⊢
      rcases hrest with rfl | ⟨t, rfl⟩
      · rw [readG_nil] at h
        have := flush_len l w
        rw [← Except.ok.inj h]; simp; omega
      · cases hp : partL (60 :: t) with
        | none => rw [readG_bad hp] at h; cases h
        | some p =>
          obtain ⟨u, toks, left⟩ := p
          have hlen := partL_len hp
          have hout := partL_out hp
          rw [readG_part hp] at h
          by_cases ht : toks.isEmpty = true
          · rw [if_pos ht] at h
            have := readG_many n left _ _ _ (by omega) h
            omega
          · rw [if_neg ht] at h
            have h1 := readG_many n left _ _ _ (by omega) h
            have h2 := flush_len l (w ++ u)
            rw [List.length_append] at h1
            omega
    · rw [readG_text hs hno hrest] at h
      have hpos := List.length_pos_iff.2 hs
      rw [List.length_append] at hn ⊢
      cases hsd : saidL seg with
      | error j => rw [hsd] at h; cases h
      | ok u =>
        rw [hsd] at h
        have := readG_many n rest _ _ _ (by omega) h
        omega
theorem readL_many {s : Str} {r : List TokD} (h : readL s = .ok r) : r.length ≤ 3 * s.length + 1 := by
  have := readG_many _ s 0 [] [] (Nat.lt_succ_self _) h
  simpa using this

/-- tokens' headers in a row of one's own, the attributes wherever they lie below B -/
structure TokApp (B : Nat) (w : World) (v : Value) (ps : List (TokD × Value)) : Prop where
  row : w.ownsRow B 54 4 v ps.length (tcells ps)
  att : ∀ p ∈ ps, SRow w (fun k => k < B) 2 p.2 p.1.attrs.length (acells p.1.attrs)
theorem TokApp.view {B : Nat} {w : World} {v : Value} {ps : List (TokD × Value)} (h : TokApp B w v ps) : TokV w (fun _ => True) v (ps.map Prod.fst) :=
  ⟨ps, rfl, (SRow.of_owns h.row).mono fun _ _ => trivial, fun p hp => (h.att p hp).mono fun _ _ => trivial⟩
theorem TokApp.fr {B : Nat} {w w' : World} {v : Value} {ps : List (TokD × Value)} (h : TokApp B w v ps) (hf : Fr (fun _ => False) w w') : TokApp B w' v ps :=
  ⟨ownsRow_fr h.row hf, fun p hp => (h.att p hp).fr hf fun _ _ h => h⟩
theorem TokApp.nil {B b : Nat} {w : World} (h : w.heap[b]? = some (.cells #[] 54 (0, 0))) (hb : B ≤ b) : TokApp B w (.slice (some ⟨b, 0, none⟩) 0 0) [] :=
  ⟨ownsRow_empty h hb, fun p hp => by cases hp⟩
theorem TokApp.app {B : Nat} {w w' : World} {v v' : Value} {ps qs : List (TokD × Value)} (h : TokApp B w v ps) (hq : ∀ p ∈ qs, SRow w (fun k => k < B) 2 p.2 p.1.attrs.length (acells p.1.attrs))
    (hf : Fr (fun k => B ≤ k) w w') (hr : w'.ownsRow B 54 4 v' (ps.length + qs.length) (tcells ps ++ tcells qs)) : TokApp B w' v' (ps ++ qs) :=
  ⟨by rw [List.length_append, ← tcells_app]; exact hr, fun p hp => by
    rcases List.mem_append.1 hp with hp | hp
    · exact (h.att p hp).fr hf fun k hk hB => by omega
    · exact (hq p hp).fr hf fun k hk hB => by omega⟩
theorem TokApp.first {B m cap : Nat} {b : Option Addr} {w w' : World} {v : Value} {qs : List (TokD × Value)} (h : TokApp B w v []) (hm : qs.length = m) (hq : ∀ p ∈ qs, SRow w (fun k => k < B) 2 p.2 p.1.attrs.length (acells p.1.attrs))
    (hf : Fr (fun k => B ≤ k) w w') (hr : w'.ownsRow B 54 4 (.slice b (0 + m) cap) (0 + m) ([] ++ tcells qs)) : TokApp B w' (.slice b m cap) qs := by
  rw [Nat.zero_add] at hr
  subst hm
  exact h.app hq hf (by simpa [tcells] using hr)
theorem TokApp.then {B n m cap : Nat} {b : Option Addr} {w w' : World} {v : Value} {ps qs : List (TokD × Value)} (h : TokApp B w v ps) (hn : ps.length = n) (hm : qs.length = m) (hq : ∀ p ∈ qs, SRow w (fun k => k < B) 2 p.2 p.1.attrs.length (acells p.1.attrs))
    (hf : Fr (fun k => B ≤ k) w w') (hr : w'.ownsRow B 54 4 (.slice b (n + m) cap) (n + m) (tcells ps ++ tcells qs)) : TokApp B w' (.slice b (n + m) cap) (ps ++ qs) := by
  subst hm; subst hn
  exact h.app hq hf hr
theorem fr_to_base {B : Nat} {w w' : World} (h : Fr (fun k => B ≤ k) w w') (hB : w.heap.size ≤ B) : Fr (fun _ => False) w w' := h.mono fun k hk hB2 => by omega
/-- tokens that lie below B -/
theorem TokV.parts {w : World} {B : Nat} {v : Value} {l : List TokD} (h : TokV w (fun k => k < B) v l) : ∃ ps : List (TokD × Value), ps.map Prod.fst = l ∧ ps.length = l.length ∧ SRow w (fun k => k < B) 4 v ps.length (tcells ps) ∧ (∀ p ∈ ps, SRow w (fun k => k < B) 2 p.2 p.1.attrs.length (acells p.1.attrs)) ∧ ∀ u ∈ tcells ps, u.oneCell' = true := by
  obtain ⟨ps, h1, h2, h3⟩ := h
  refine ⟨ps, h1, by rw [← h1, List.length_map], h2, h3, tcells_one fun p hp => ?_⟩
  obtain ⟨_, a, c, h4, _⟩ := h3 p hp
  exact ⟨_, _, _, h4⟩
theorem TokV.mono {w : World} {S S' : Nat → Prop} {v : Value} {l : List TokD} (h : TokV w S v l) (hs : ∀ k, S k → S' k) : TokV w S' v l := by
  obtain ⟨ps, h1, h2, h3⟩ := h
  exact ⟨ps, h1, h2.mono hs, fun p hp => (h3 p hp).mono hs⟩
theorem elem22 : Tryz.prog.elem 22 = 54 := by kernel_rfl
theorem under22 : Tryz.prog.underlying 22 = some (.slice (Tryz.prog.elem 22)) := by rw [elem22]; exact Tryz.underlying22
theorem size54 (w : World) : (sizeOf (Tryz.prog.elem 22)).run Tryz.prog w = .ok 4 w := by
  rw [elem22]
  obtain ⟨i, hi, _, hs, _⟩ := info_parts info54
  simp [sizeOf, typeInfo, hi, hs]
theorem tail_run {a : Option Addr} {len cap k : Nat} {i : Int} (hi : i = (k : Int)) (hk : k ≤ len) : ∃ a2 c2,
    (∀ w : World, (Instr.slice 22 (.slice a len cap) (some (.int .i64 i)) none none).run Tryz.prog w = .ok (.slice a2 (len - k) c2) w) ∧
    ∀ {W : World} {S : Nat → Prop} {xs : List Value}, SRow W S 4 (.slice a len cap) len xs → SRow W S 4 (.slice a2 (len - k) c2) (len - k) (xs.drop (k * 4)) := by
  subst hi
  refine ⟨_, _, fun w => ?_, fun {W S xs} h => h.tail hk⟩
  rw [run_slice_l w 22 a len cap under22 .i64 k (by omega) (by omega), size54]
  rfl
theorem tcells_drop : ∀ (k : Nat) (ps : List (TokD × Value)), (tcells ps).drop (k * 4) = tcells (ps.drop k)
  | 0, ps => by simp
  | k + 1, [] => by simp [tcells]
  | k + 1, p :: ps => by
    have e : tcells (p :: ps) = .int .i64 p.1.kind :: .string (bs p.1.name) :: p.2 :: .string (bs p.1.text) :: tcells ps := by simp [tcells, tc]
    rw [e, show (k + 1) * 4 = k * 4 + 1 + 1 + 1 + 1 by omega]
    simp only [List.drop_succ_cons]
    exact tcells_drop k ps
end Go.Proofs.YtpinjgdnhbogoaaGreatDoor
