/- The reference's log: entries that are right, the record of a payload: walked. -/
import Derived.Test.YtgmghopcppniaaaGreatDoorFX
import Derived.Test.YtgmghopcppniaaaGreatDoorFG
import Derived.Deep.CutBlock
namespace Go.Proofs.YtgmghopcppniaaaGreatDoor
open Go.RowKit Go.Lib

theorem tk {P : Program} {ops : Array Oper} {Q : Exit → Act → World → Prop} {md : Region.Mode} {S : World → Prop} {i : Nat} {o : Oper} {v : Value} {k : Nat} {l : Array Bool} {a : Act} {w : World} (hi : ops[i]? = some o) (hy : YieldsIf P ops S o v a) (hS : S w)
  (h : wpAnyH P md ops Q S k (l.setIfInBounds i true) (a.put o.dst v) w) (h1 : Region.noSelect ops = true := by kernel_rfl) (h2 : Region.free md ops l i = true := by kernel_rfl) (h3 : (Region.ready md ops l).contains i = true := by kernel_rfl)
  (h4 : ∀ c a w, Q (.panic c) (a.put o.dst v) w → Q (.panic c) a w := by exact fun _ _ _ h => h) : wpAnyH P md ops Q S (k + 1) l a w := wpAnyH_take hi h1 h2 h3 h4 hy hS h
set_option maxRecDepth 100000 in
set_option maxHeartbeats 4000000 in
theorem rrightE_h {w : World} (e : EntD) : Calls Tryz.prog 143 #[entV e] w fun r w' => r = .returned (.bool (rightE e)) ∧ Fr (fun _ => False) w w' := by
 unfold entV
 obtain ⟨w1, hw1⟩ : ∃ w1, w1 = w.alloc (.cells #[.int .i64 e.index, .int .i64 e.term, .int .i64 e.kind, .string (bs e.data)] 95) := ⟨_, rfl⟩
 have HF1 : Hid (Fr (fun _ => False) w w1) := by show Fr _ _ _; rw [hw1]; exact (Fr.refl _ _).alloc _
 have hb : w1.heap[w.heap.size]? = some (.cells #[.int .i64 e.index, .int .i64 e.term, .int .i64 e.kind, .string (bs e.data)] 95 (0, 0)) := by rw [hw1]; exact block_new _ _
 have x0 := cell_of hb (i := 0) (v := .int .i64 e.index) rfl
 have x1 := cell_of hb (i := 1) (v := .int .i64 e.term) rfl
 have x2 := cell_of hb (i := 2) (v := .int .i64 e.kind) rfl
 clear hb
 have key : ∀ b, rightE e = b → (b = true ↔ 1 ≤ e.index ∧ 0 ≤ e.term ∧ 1 ≤ e.kind ∧ e.kind ≤ 3) := fun b hb => by rw [← hb]; exact rightE_parts
 obtain ⟨b, hb⟩ : ∃ b, rightE e = b := ⟨_, rfl⟩
 have hk := key b hb
 rw [hb]
 clear key hb
 go_enter Tryz.func143, Tryz.ntmps143
 go_upto_region 1 with fail
 rw [← hw1]
 clear hw1
 by_cases h1 : 1 ≤ e.index
 ·by_cases h2 : 0 ≤ e.term
  ·by_cases h3 : 1 ≤ e.kind
   ·by_cases h4 : e.kind ≤ 3
    ·obtain rfl : b = true := hk.2 ⟨h1, h2, h3, h4⟩
     clear hk
     go_wp2_with fail
     go_ret
     exact ⟨rfl, HF1.out⟩
    ·obtain rfl : b = false := by cases b with | false => rfl | true => exact absurd (hk.1 rfl).2.2.2 h4
     have d4 : decide (e.kind ≤ 3) = false := decide_eq_false h4
     clear hk
     go_wp2_with fail
     go_ret
     exact ⟨rfl, HF1.out⟩
   ·obtain rfl : b = false := by cases b with | false => rfl | true => exact absurd (hk.1 rfl).2.2.1 h3
    have d4 : decide (1 ≤ e.kind) = false := decide_eq_false h3
    clear hk
    go_wp2_with fail
    go_ret
    exact ⟨rfl, HF1.out⟩
  ·obtain rfl : b = false := by cases b with | false => rfl | true => exact absurd (hk.1 rfl).2.1 h2
   have d4 : decide (0 ≤ e.term) = false := decide_eq_false h2
   clear hk
   go_wp2_with fail
   go_ret
   exact ⟨rfl, HF1.out⟩
 ·obtain rfl : b = false := by cases b with | false => rfl | true => exact absurd (hk.1 rfl).1 h1
  have d4 : decide (1 ≤ e.index) = false := decide_eq_false h1
  clear hk
  go_wp2_with fail
  go_ret
  exact ⟨rfl, HF1.out⟩

/-! ### numbers, as far as they go -/
def intsF : Nat → Str → List Int × Str
 | 0, s => ([], s)
 | k + 1, s => match toIntL s with
  | none => ([], s)
  | some (n, t) => (n :: (intsF k t).1, (intsF k t).2)
theorem intsF_none {k : Nat} {s : Str} (h : toIntL s = none) : intsF k s = ([], s) := by
 cases k with
 | zero => rfl
 | succ k => show (match toIntL s with | none => ([], s) | some (n, t) => (n :: (intsF k t).1, (intsF k t).2)) = _; rw [h]
theorem intsF_some {k : Nat} {s t : Str} {n : Int} (h : toIntL s = some (n, t)) : intsF (k + 1) s = (n :: (intsF k t).1, (intsF k t).2) := by
 show (match toIntL s with | none => ([], s) | some (n, t) => (n :: (intsF k t).1, (intsF k t).2)) = _; rw [h]
theorem intsF_int {k : Nat} {n : Int} (h : I64 n) (x : Str) : intsF (k + 1) (intL n ++ x) = (n :: (intsF k x).1, (intsF k x).2) := intsF_some (toInt_int h x)
theorem intsF_i64 : ∀ (k : Nat) (s : Str), (∀ n ∈ (intsF k s).1, I64 n) ∧ (intsF k s).2.length ≤ s.length
 | 0, s => ⟨fun n hn => (by cases hn), Nat.le_refl _⟩
 | k + 1, s => by
  cases h : toIntL s with
  | none => rw [intsF_none h]; exact ⟨fun n hn => (by cases hn), Nat.le_refl _⟩
  | some p =>
   obtain ⟨n, t⟩ := p
   rw [intsF_some h]
   have h1 := toInt_back h
   have h2 := intsF_i64 k t
   have h3 := congrArg List.length h1.1
   rw [List.length_append] at h3
   refine ⟨fun m hm => ?_, by dsimp only; omega⟩
   rcases List.mem_cons.1 hm with rfl | hm
   ·exact h1.2
   ·exact h2.1 m hm
theorem i64_at {l : List Int} (h : ∀ n ∈ l, I64 n) (k : Nat) : I64 (l.getD k 0) := by
 by_cases hk : k < l.length
 ·rw [show l.getD k 0 = l[k] by simp [hk]]; exact h _ (List.getElem_mem hk)
 ·rw [show l.getD k 0 = 0 by simp [List.getElem?_eq_none (Nat.le_of_not_lt hk)]]; exact i64_small (by decide) (by decide)

/-! ### the record that is read -/
structure RecQ where
 k : Int
 t : Int
 v : Int
 e : EntD
def recQ (s : Str) : RecQ :=
 if (intsF 4 s).1.getD 0 0 = 1 then ⟨1, (intsF 4 s).1.getD 1 0, (intsF 4 s).1.getD 2 0, zeroE⟩
 else if (intsF 4 s).1.getD 0 0 = 2 then ⟨2, 0, 0, ⟨(intsF 4 s).1.getD 1 0, (intsF 4 s).1.getD 2 0, (intsF 4 s).1.getD 3 0, (toTextD (intsF 4 s).2).1.1⟩⟩
 else if (intsF 4 s).1.getD 0 0 = 3 then ⟨3, 0, 0, zeroE⟩ else ⟨0, 0, 0, zeroE⟩
def RecQ.val (q : RecQ) : Value := recV q.k q.t q.v q.e
def RecQ.pay (q : RecQ) : Str := payX q.k q.t q.v q.e
def RecQ.of : RecD → RecQ
 | .hard t v => ⟨1, t, v, zeroE⟩
 | .ent e => ⟨2, 0, 0, e⟩
 | .reset => ⟨3, 0, 0, zeroE⟩
structure RecQ.OK (q : RecQ) (s : Str) : Prop where
 k : 0 < q.k
 pay : q.pay = s
 t : 0 ≤ q.t
 v : 0 ≤ q.v
 e : q.k ≠ 2 ∨ rightE q.e = true
theorem text_len {s : Str} : (toTextD s).1.1.length ≤ s.length := by
 unfold toTextD
 cases h : toTextL s with
 | none => exact Nat.zero_le _
 | some p =>
  obtain ⟨d, r⟩ := p
  have h1 := congrArg List.length (toText_back h).1
  unfold textL at h1
  rw [List.length_append, List.length_append] at h1
  dsimp only
  omega
theorem recQ_in (s : Str) : I64 (recQ s).t ∧ I64 (recQ s).v ∧ I64 (recQ s).e.index ∧ I64 (recQ s).e.term ∧ I64 (recQ s).e.kind ∧ (recQ s).e.data.length ≤ s.length := by
 have h := intsF_i64 4 s
 have h1 := i64_at h.1
 have z := i64_small (n := 0) (by decide) (by decide)
 have h2 := text_len (s := (intsF 4 s).2)
 unfold recQ
 split
 ·exact ⟨h1 1, h1 2, z, z, z, Nat.zero_le _⟩
 ·split
  ·exact ⟨z, z, h1 1, h1 2, h1 3, by dsimp only; omega⟩
  ·split
   ·exact ⟨z, z, z, z, z, Nat.zero_le _⟩
   ·exact ⟨z, z, z, z, z, Nat.zero_le _⟩
theorem recQ_cases (s : Str) : ((recQ s).k = 0 ∨ (recQ s).k = 1 ∨ ((recQ s).k = 2 ∧ (recQ s).t = 0 ∧ (recQ s).v = 0) ∨ ((recQ s).k = 3 ∧ (recQ s).t = 0 ∧ (recQ s).v = 0)) := by
 unfold recQ
 split
 ·exact .inr (.inl rfl)
 ·split
  ·exact .inr (.inr (.inl ⟨rfl, rfl, rfl⟩))
  ·split
   ·exact .inr (.inr (.inr ⟨rfl, rfl, rfl⟩))
   ·exact .inl rfl
theorem toTextD_text {s : Str} (h : s.length ≤ 9223372036854775807) : (toTextD (textL s)).1.1 = s := by
 have h1 := toText_text h []
 rw [List.append_nil] at h1
 unfold toTextD; rw [h1]
theorem toIntL_nil : toIntL [] = none := by rfl
theorem recQ_pay {r : RecD} (h : GoodR r) : recQ (payL r) = RecQ.of r := by
 cases r with
 | hard t v =>
  obtain ⟨h0, ht, hv⟩ := h
  have e : payL (.hard t v) = intL 1 ++ (intL t ++ (intL v ++ [])) := by show hardTx t v = _; unfold hardTx; simp [intsL]
  have e2 : intsF 4 (payL (.hard t v)) = ([1, t, v], []) := by
   rw [e, intsF_int (i64_small (by decide) (by decide)), intsF_int ht, intsF_int hv, intsF_none toIntL_nil]
  unfold recQ
  rw [e2]; rfl
 | ent x =>
  have hp := GoodE.parts (e := x) h
  have hd : x.data.length ≤ 9223372036854775807 := h.2.2.2.2
  have e : payL (.ent x) = intL 2 ++ (intL x.index ++ (intL x.term ++ (intL x.kind ++ textL x.data))) := by show entTx x = _; unfold entTx; simp [intsL]
  have e2 : intsF 4 (payL (.ent x)) = ([2, x.index, x.term, x.kind], textL x.data) := by
   rw [e, intsF_int (i64_small (by decide) (by decide)), intsF_int (by unfold I64; omega), intsF_int (by unfold I64; omega), intsF_int (by unfold I64; omega)]
   rfl
  unfold recQ
  rw [e2]
  dsimp only
  rw [toTextD_text hd]; rfl
 | reset =>
  have e : payL .reset = intL 3 ++ [] := by show intL 3 = _; simp
  have e2 : intsF 4 (payL .reset) = ([3], []) := by
   rw [e, intsF_int (i64_small (by decide) (by decide)), intsF_none toIntL_nil]
  unfold recQ
  rw [e2]; rfl
theorem of_ok {r : RecD} (h : GoodR r) : (RecQ.of r).OK (payL r) := by
 cases r with
 | hard t v => exact ⟨show (0 : Int) < 1 by decide, rfl, h.1.1, h.1.2, .inl (show (1 : Int) ≠ 2 by decide)⟩
 | ent e => exact ⟨show (0 : Int) < 2 by decide, rfl, Int.le_refl 0, Int.le_refl 0, .inr h.1⟩
 | reset => exact ⟨show (0 : Int) < 3 by decide, rfl, Int.le_refl 0, Int.le_refl 0, .inl (show (3 : Int) ≠ 2 by decide)⟩
theorem recQ_some {s : Str} {r : RecD} (h : recL s = some r) : recQ s = RecQ.of r ∧ (recQ s).OK s := by
 obtain ⟨rfl, hg⟩ := rec_back h
 rw [recQ_pay hg]
 exact ⟨rfl, of_ok hg⟩
theorem recQ_none {s : Str} (hs : s.length ≤ 1000000) (h : recL s = none) : ¬ (recQ s).OK s := fun hk => by
 have hin := recQ_in s
 have hr : ∃ r, GoodR r ∧ payL r = s := by
  have hp := hk.pay
  rcases recQ_cases s with h1 | h1 | ⟨h1, h2, h3⟩ | ⟨h1, h2, h3⟩
  ·exact absurd hk.k (by rw [h1]; decide)
  ·refine ⟨.hard (recQ s).t (recQ s).v, ⟨⟨hk.t, hk.v⟩, hin.1, hin.2.1⟩, ?_⟩
   refine Eq.trans ?_ hp; unfold RecQ.pay payX; rw [if_pos h1]; rfl
  ·refine ⟨.ent (recQ s).e, ?_, ?_⟩
   ·have h5 := hin.2.2
    exact ⟨hk.e.resolve_left fun hn => hn h1, h5.1, h5.2.1, h5.2.2.1, by omega⟩
   ·refine Eq.trans ?_ hp; unfold RecQ.pay payX; rw [if_neg (by rw [h1]; decide), if_pos h1]; rfl
  ·refine ⟨.reset, trivial, ?_⟩
   refine Eq.trans ?_ hp; unfold RecQ.pay payX; rw [if_neg (by rw [h1]; decide), if_neg (by rw [h1]; decide)]; rfl
 obtain ⟨r, hg, rfl⟩ := hr
 rw [rec_pay hg] at h
 cases h

/-! ### the walk of record -/
def Arr4 (w : World) (nb : Nat) (l : List Int) : Prop := w.heap[nb]? = some (.cells #[.int .i64 (l.getD 0 0), .int .i64 (l.getD 1 0), .int .i64 (l.getD 2 0), .int .i64 (l.getD 3 0)] 222 (0, 0))
def RecPost (s : Str) (w : World) (e : Ending) (w' : World) : Prop := ∃ ok : Bool, e = .returned (.tuple #[(recQ s).val, .bool ok]) ∧ (ok = true ↔ (recQ s).OK s) ∧ Fr (fun _ => False) w w'
structure RcRel (s : Str) (w0 : World) (nb i : Nat) (l : List Int) (rest : Str) (wr : World) : Prop where
 eq : intsF 4 s = (l ++ (intsF (4 - i) rest).1, (intsF (4 - i) rest).2)
 len : l.length = i
 arr : Arr4 wr nb l
 fr : Fr (fun k => k = nb) w0 wr
 le : rest.length ≤ s.length
theorem sets7 {w : World} {b ty : Nat} {x0 x1 x2 x3 x4 x5 x6 : Value} (hb : w.heap[b]? = some (.cells #[x0, x1, x2, x3, x4, x5, x6] ty (0, 0))) (y0 y1 y2 y3 y4 y5 y6 : Value) :
  (((((((w.setCell ⟨b, 0, none⟩ y0).setCell ⟨b, 1, none⟩ y1).setCell ⟨b, 2, none⟩ y2).setCell ⟨b, 3, none⟩ y3).setCell ⟨b, 4, none⟩ y4).setCell ⟨b, 5, none⟩ y5).setCell ⟨b, 6, none⟩ y6).heap[b]? = some (.cells #[y0, y1, y2, y3, y4, y5, y6] ty (0, 0)) := by
 have h0 : (w.setCell ⟨b, 0, none⟩ y0).heap[b]? = some (.cells #[y0, x1, x2, x3, x4, x5, x6] ty (0, 0)) := block_set hb 0 y0
 have h1 : ((w.setCell ⟨b, 0, none⟩ y0).setCell ⟨b, 1, none⟩ y1).heap[b]? = some (.cells #[y0, y1, x2, x3, x4, x5, x6] ty (0, 0)) := block_set h0 1 y1
 have h2 : (((w.setCell ⟨b, 0, none⟩ y0).setCell ⟨b, 1, none⟩ y1).setCell ⟨b, 2, none⟩ y2).heap[b]? = some (.cells #[y0, y1, y2, x3, x4, x5, x6] ty (0, 0)) := block_set h1 2 y2
 have h3 : ((((w.setCell ⟨b, 0, none⟩ y0).setCell ⟨b, 1, none⟩ y1).setCell ⟨b, 2, none⟩ y2).setCell ⟨b, 3, none⟩ y3).heap[b]? = some (.cells #[y0, y1, y2, y3, x4, x5, x6] ty (0, 0)) := block_set h2 3 y3
 have h4 : (((((w.setCell ⟨b, 0, none⟩ y0).setCell ⟨b, 1, none⟩ y1).setCell ⟨b, 2, none⟩ y2).setCell ⟨b, 3, none⟩ y3).setCell ⟨b, 4, none⟩ y4).heap[b]? = some (.cells #[y0, y1, y2, y3, y4, x5, x6] ty (0, 0)) := block_set h3 4 y4
 have h5 : ((((((w.setCell ⟨b, 0, none⟩ y0).setCell ⟨b, 1, none⟩ y1).setCell ⟨b, 2, none⟩ y2).setCell ⟨b, 3, none⟩ y3).setCell ⟨b, 4, none⟩ y4).setCell ⟨b, 5, none⟩ y5).heap[b]? = some (.cells #[y0, y1, y2, y3, y4, y5, x6] ty (0, 0)) := block_set h4 5 y5
 have h6 : (((((((w.setCell ⟨b, 0, none⟩ y0).setCell ⟨b, 1, none⟩ y1).setCell ⟨b, 2, none⟩ y2).setCell ⟨b, 3, none⟩ y3).setCell ⟨b, 4, none⟩ y4).setCell ⟨b, 5, none⟩ y5).setCell ⟨b, 6, none⟩ y6).heap[b]? = some (.cells #[y0, y1, y2, y3, y4, y5, y6] ty (0, 0)) := block_set h5 6 y6
 exact h6
theorem heap_drew_eq (W : World) : W.drew.heap = W.heap := rfl
theorem sets7d {w : World} {b ty : Nat} {x0 x1 x2 x3 x4 x5 x6 : Value} (hb : w.heap[b]? = some (.cells #[x0, x1, x2, x3, x4, x5, x6] ty (0, 0))) (y0 y1 y2 y3 y4 y5 y6 : Value) :
  (((((((w.setCell ⟨b, 0, none⟩ y0).setCell ⟨b, 1, none⟩ y1).setCell ⟨b, 2, none⟩ y2).setCell ⟨b, 3, none⟩ y3).setCell ⟨b, 4, none⟩ y4).setCell ⟨b, 5, none⟩ y5).setCell ⟨b, 6, none⟩ y6).drew.heap[b]? = some (.cells #[y0, y1, y2, y3, y4, y5, y6] ty (0, 0)) := by
 rw [heap_drew_eq]; exact sets7 hb y0 y1 y2 y3 y4 y5 y6
theorem frs7 {o : Nat → Prop} {w w1 : World} (hf : Fr o w w1) {b : Nat} (hb : o b ∨ w.heap.size ≤ b) (y0 y1 y2 y3 y4 y5 y6 : Value) :
  Fr o w (((((((w1.setCell ⟨b, 0, none⟩ y0).setCell ⟨b, 1, none⟩ y1).setCell ⟨b, 2, none⟩ y2).setCell ⟨b, 3, none⟩ y3).setCell ⟨b, 4, none⟩ y4).setCell ⟨b, 5, none⟩ y5).setCell ⟨b, 6, none⟩ y6) :=
 ((((((hf.setCell (p := ⟨b, 0, none⟩) hb _).setCell (p := ⟨b, 1, none⟩) hb _).setCell (p := ⟨b, 2, none⟩) hb _).setCell (p := ⟨b, 3, none⟩) hb _).setCell (p := ⟨b, 4, none⟩) hb _).setCell (p := ⟨b, 5, none⟩) hb _).setCell (p := ⟨b, 6, none⟩) hb _
theorem hlen2 {l : List Int} (h : l.length = 2) : ∃ a b, l = [a, b] := by
 match l, h with
 | [a, b], _ => exact ⟨a, b, rfl⟩
theorem hlen3 {l : List Int} (h : l.length = 3) : ∃ a b c, l = [a, b, c] := by
 match l, h with
 | [a, b, c], _ => exact ⟨a, b, c, rfl⟩
theorem arr_next {s t rest : Str} {w0 wr w5 : World} {nb i : Nat} {l : List Int} {n : Int} (h : RcRel s w0 nb i l rest wr) (hi : i < 4) (ht : toIntL rest = some (n, t)) (hf : Fr (fun _ => False) wr w5) :
  RcRel s w0 nb (i + 1) (l ++ [n]) t (w5.setCell ⟨nb, i, none⟩ (.int .i64 n)) := by
 have hb := hf.keep h.arr (fun h => h)
 refine ⟨?_, by rw [List.length_append, h.len]; rfl, ?_, (h.fr.next (hf.mono (o2 := fun k => k = nb) fun _ _ h => h.elim)).setCell (p := ⟨nb, i, none⟩) (.inl rfl) _, ?_⟩
 ·rw [h.eq]
  obtain ⟨k, hk⟩ : ∃ k, 4 - i = k + 1 := ⟨3 - i, by omega⟩
  rw [hk, intsF_some ht, show 4 - (i + 1) = k by omega]
  simp
 ·have h1 := block_set hb i (.int .i64 n)
  unfold Arr4
  rw [h1]
  have hl := h.len
  clear h1 hb h
  match i, hi with
  | 0, _ => obtain rfl := List.length_eq_zero_iff.1 hl; rfl
  | 1, _ => obtain ⟨a, rfl⟩ := List.length_eq_one_iff.1 hl; rfl
  | 2, _ => obtain ⟨a, b, rfl⟩ := hlen2 hl; rfl
  | 3, _ => obtain ⟨a, b, c, rfl⟩ := hlen3 hl; rfl
 ·have h1 := congrArg List.length (toInt_back ht).1
  rw [List.length_append] at h1
  have := h.le
  omega
set_option maxRecDepth 100000 in
set_option maxHeartbeats 16000000 in
theorem rrecord_h {w : World} (s : Str) (hs : s.length ≤ 1000000) : Calls Tryz.prog 140 #[.string (bs s)] w (RecPost s w) := by
 go_enter Tryz.func140, Tryz.ntmps140
 obtain ⟨w1, hw1⟩ : ∃ w1, w1 = w.alloc (.cells #[.int .i64 0, .int .i64 0, .int .i64 0, .int .i64 0, .int .i64 0, .int .i64 0, .string ⟨#[]⟩] 148) := ⟨_, rfl⟩
 have hb1 : w1.heap[w.heap.size]? = some (.cells #[.int .i64 0, .int .i64 0, .int .i64 0, .int .i64 0, .int .i64 0, .int .i64 0, .string ⟨#[]⟩] 148 (0, 0)) := by rw [hw1]; exact block_new _ _
 have HB1 := Lib.hid hb1
 have HF1 : Hid (Fr (fun _ => False) w w1) := by show Fr _ _ _; rw [hw1]; exact (Fr.refl _ _).alloc _
 clear hb1
 go_upto_region 1 with fail
 rw [← hw1]
 clear hw1
 go_cut [4] (fun s4 wx => ∃ b : Nat, s4 = .pointer (some ⟨b, 0, none⟩) ∧ Hid (w1.heap.size ≤ b ∧ wx.heap[b]? = some (.cells (recX 0 0 0 zeroE).toArray 148 (0, 0)) ∧ Fr (fun _ => False) w1 wx))
 case first =>
  go_wp2_with fail
  go_meet
  exact ⟨_, rfl, Lib.hid ⟨Nat.le_refl _, block_new _ _, (Fr.refl _ _).alloc _⟩⟩
 case rest =>
 obtain ⟨b, rfl, HB⟩ := hcut
 obtain ⟨w2, hwn⟩ : ∃ x, x = wc := ⟨_, rfl⟩
 rw [← hwn] at HB ⊢
 clear hwn
 obtain ⟨w3, hw3⟩ : ∃ w3, w3 = w2.alloc (.cells #[.int .i64 0, .int .i64 0, .int .i64 0, .int .i64 0] 222) := ⟨_, rfl⟩
 obtain ⟨nb, hnb⟩ : ∃ nb, nb = w2.heap.size := ⟨_, rfl⟩
 have hn3 : w3.heap[nb]? = some (.cells #[.int .i64 0, .int .i64 0, .int .i64 0, .int .i64 0] 222 (0, 0)) := by rw [hw3, hnb]; exact block_new _ _
 have HF3 : Hid (Fr (fun _ => False) w2 w3) := by show Fr _ _ _; rw [hw3]; exact (Fr.refl _ _).alloc _
 have HNB := Lib.hid hnb
 have hb2l := lt_of_block HB.out.2.1
 have hb1l := lt_of_block HB1.out
 have h12 := HB.out.1
 have h22 := HB.out.2.2.size
 have hbnb : b < nb := by omega
 have hanb : w.heap.size < nb := by omega
 have HR0 : Hid (RcRel s w3 nb 0 [] s w3) := ⟨by simp, rfl, hn3, Fr.refl _ _, Nat.le_refl _⟩
 clear hn3
 go_upto_region 3 with fail
 rw [← hw3, ← hnb]
 clear hw3 hnb
 go_upto_block 0 with fail
 go_cut [6] (fun s6 wx => s6 = .string (bs (intsF 4 s).2) ∧ Hid (Arr4 wx nb (intsF 4 s).1 ∧ Fr (fun k => k = nb) w3 wx))
 case first =>
  go_wp2_with fail
  go_loopg [6, 7] 4 (fun j v6 v7 wr => ∃ (i : Nat) (z : Int) (l : List Int) (rest : Str), i + j = 4 ∧ v7 = .int .i64 z ∧ z = (i : Int) ∧ v6 = .string (bs rest) ∧ Hid (RcRel s w3 nb i l rest wr))
  case atStart => exact ⟨0, 0, [], s, rfl, rfl, rfl, rfl, HR0⟩
  case round =>
   obtain ⟨i, z, l, rest, hi, rfl, hz, rfl, HK⟩ := hrel
   have hi4 : i = 0 ∨ i = 1 ∨ i = 2 ∨ i = 3 ∨ i = 4 := by omega
   clear HR0
   rcases hi4 with rfl | rfl | rfl | rfl | rfl
   ·obtain rfl : z = 0 := by omega
    have hrl := HK.out.le
    cases ht : toIntL rest with
    | none =>
     have HT := Lib.hid (fun W : World => rtoInt_none (w := W) (s := rest) (by omega) ht)
     have HE : Hid (intsF 4 s = (l, rest)) := by
      show _ = _
      rw [HK.out.eq, intsF_none ht, List.append_nil]
     clear hi hz ht
     go_wp2_with fail
     refine Calls.mono (HT.out _) ?_
     rintro e w5 ⟨rfl, hf5⟩
     have HF5 := Lib.hid hf5
     clear hf5
     go_wp2_with fail
     go_meet
     exact ⟨by rw [HE.out], Lib.hid ⟨by rw [HE.out]; exact HF5.out.keep HK.out.arr (fun h => h), HK.out.fr.next (HF5.out.mono (o2 := fun k => k = nb) fun _ _ h => h.elim)⟩⟩
    | some p =>
     obtain ⟨n, t⟩ := p
     have HT := Lib.hid (fun W : World => rtoInt_some (w := W) (s := rest) (by omega) ht)
     have HN := Lib.hid (fun (w5 : World) (hf : Fr (fun _ => False) wr w5) => arr_next HK.out (by decide) ht hf)
     have HI := Lib.hid hi
     clear hi hz ht
     go_wp2_with fail
     refine Calls.mono (HT.out _) ?_
     rintro e w5 ⟨rfl, hf5⟩
     have HN5 := Lib.hid (HN.out _ hf5)
     have hb5 := hf5.keep HK.out.arr (fun h => h)
     have g5 := free_of 0 hb5
     have c5 := cell_of hb5 (i := 0) (v := .int .i64 (l.getD 0 0)) rfl
     have hl5 := lt_of_block hb5
     clear hf5 hb5
     go_wp2_with fail
     go_roundg 3
     case measure => have := HI.out; omega
     case rel => exact ⟨1, _, _, _, by omega, rfl, by first | rfl | decide, rfl, HN5⟩
   ·obtain rfl : z = 1 := by omega
    have hrl := HK.out.le
    cases ht : toIntL rest with
    | none =>
     have HT := Lib.hid (fun W : World => rtoInt_none (w := W) (s := rest) (by omega) ht)
     have HE : Hid (intsF 4 s = (l, rest)) := by
      show _ = _
      rw [HK.out.eq, intsF_none ht, List.append_nil]
     clear hi hz ht
     go_wp2_with fail
     refine Calls.mono (HT.out _) ?_
     rintro e w5 ⟨rfl, hf5⟩
     have HF5 := Lib.hid hf5
     clear hf5
     go_wp2_with fail
     go_meet
     exact ⟨by rw [HE.out], Lib.hid ⟨by rw [HE.out]; exact HF5.out.keep HK.out.arr (fun h => h), HK.out.fr.next (HF5.out.mono (o2 := fun k => k = nb) fun _ _ h => h.elim)⟩⟩
    | some p =>
     obtain ⟨n, t⟩ := p
     have HT := Lib.hid (fun W : World => rtoInt_some (w := W) (s := rest) (by omega) ht)
     have HN := Lib.hid (fun (w5 : World) (hf : Fr (fun _ => False) wr w5) => arr_next HK.out (by decide) ht hf)
     have HI := Lib.hid hi
     clear hi hz ht
     go_wp2_with fail
     refine Calls.mono (HT.out _) ?_
     rintro e w5 ⟨rfl, hf5⟩
     have HN5 := Lib.hid (HN.out _ hf5)
     have hb5 := hf5.keep HK.out.arr (fun h => h)
     have g5 := free_of 1 hb5
     have c5 := cell_of hb5 (i := 1) (v := .int .i64 (l.getD 1 0)) rfl
     have hl5 := lt_of_block hb5
     clear hf5 hb5
     go_wp2_with fail
     go_roundg 2
     case measure => have := HI.out; omega
     case rel => exact ⟨2, _, _, _, by omega, rfl, by first | rfl | decide, rfl, HN5⟩
   ·obtain rfl : z = 2 := by omega
    have hrl := HK.out.le
    cases ht : toIntL rest with
    | none =>
     have HT := Lib.hid (fun W : World => rtoInt_none (w := W) (s := rest) (by omega) ht)
     have HE : Hid (intsF 4 s = (l, rest)) := by
      show _ = _
      rw [HK.out.eq, intsF_none ht, List.append_nil]
     clear hi hz ht
     go_wp2_with fail
     refine Calls.mono (HT.out _) ?_
     rintro e w5 ⟨rfl, hf5⟩
     have HF5 := Lib.hid hf5
     clear hf5
     go_wp2_with fail
     go_meet
     exact ⟨by rw [HE.out], Lib.hid ⟨by rw [HE.out]; exact HF5.out.keep HK.out.arr (fun h => h), HK.out.fr.next (HF5.out.mono (o2 := fun k => k = nb) fun _ _ h => h.elim)⟩⟩
    | some p =>
     obtain ⟨n, t⟩ := p
     have HT := Lib.hid (fun W : World => rtoInt_some (w := W) (s := rest) (by omega) ht)
     have HN := Lib.hid (fun (w5 : World) (hf : Fr (fun _ => False) wr w5) => arr_next HK.out (by decide) ht hf)
     have HI := Lib.hid hi
     clear hi hz ht
     go_wp2_with fail
     refine Calls.mono (HT.out _) ?_
     rintro e w5 ⟨rfl, hf5⟩
     have HN5 := Lib.hid (HN.out _ hf5)
     have hb5 := hf5.keep HK.out.arr (fun h => h)
     have g5 := free_of 2 hb5
     have c5 := cell_of hb5 (i := 2) (v := .int .i64 (l.getD 2 0)) rfl
     have hl5 := lt_of_block hb5
     clear hf5 hb5
     go_wp2_with fail
     go_roundg 1
     case measure => have := HI.out; omega
     case rel => exact ⟨3, _, _, _, by omega, rfl, by first | rfl | decide, rfl, HN5⟩
   ·obtain rfl : z = 3 := by omega
    have hrl := HK.out.le
    cases ht : toIntL rest with
    | none =>
     have HT := Lib.hid (fun W : World => rtoInt_none (w := W) (s := rest) (by omega) ht)
     have HE : Hid (intsF 4 s = (l, rest)) := by
      show _ = _
      rw [HK.out.eq, intsF_none ht, List.append_nil]
     clear hi hz ht
     go_wp2_with fail
     refine Calls.mono (HT.out _) ?_
     rintro e w5 ⟨rfl, hf5⟩
     have HF5 := Lib.hid hf5
     clear hf5
     go_wp2_with fail
     go_meet
     exact ⟨by rw [HE.out], Lib.hid ⟨by rw [HE.out]; exact HF5.out.keep HK.out.arr (fun h => h), HK.out.fr.next (HF5.out.mono (o2 := fun k => k = nb) fun _ _ h => h.elim)⟩⟩
    | some p =>
     obtain ⟨n, t⟩ := p
     have HT := Lib.hid (fun W : World => rtoInt_some (w := W) (s := rest) (by omega) ht)
     have HN := Lib.hid (fun (w5 : World) (hf : Fr (fun _ => False) wr w5) => arr_next HK.out (by decide) ht hf)
     have HI := Lib.hid hi
     clear hi hz ht
     go_wp2_with fail
     refine Calls.mono (HT.out _) ?_
     rintro e w5 ⟨rfl, hf5⟩
     have HN5 := Lib.hid (HN.out _ hf5)
     have hb5 := hf5.keep HK.out.arr (fun h => h)
     have g5 := free_of 3 hb5
     have c5 := cell_of hb5 (i := 3) (v := .int .i64 (l.getD 3 0)) rfl
     have hl5 := lt_of_block hb5
     clear hf5 hb5
     go_wp2_with fail
     go_roundg 0
     case measure => have := HI.out; omega
     case rel => exact ⟨4, _, _, _, by omega, rfl, by first | rfl | decide, rfl, HN5⟩
   ·obtain rfl : z = 4 := by omega
    have HE : Hid (intsF 4 s = (l, rest)) := by
     show _ = _
     have := HK.out.eq
     rw [this]
     show (l ++ [], rest) = _
     rw [List.append_nil]
    clear hi hz
    go_wp2_with fail
    go_meet
    exact ⟨by rw [HE.out], Lib.hid ⟨by rw [HE.out]; exact HK.out.arr, HK.out.fr⟩⟩
 case rest =>
 obtain ⟨rfl, HA⟩ := hcut
 obtain ⟨w4, hwn⟩ : ∃ x, x = wc := ⟨_, rfl⟩
 rw [← hwn] at HA ⊢
 clear hwn HR0
 have HBX := Lib.hid (HA.out.2.keep (HF3.out.keep HB.out.2.1 (fun h => h)) (by omega))
 have HAX := Lib.hid (HA.out.2.keep (HF3.out.keep (HB.out.2.2.keep HB1.out (fun h => h)) (fun h => h)) (by omega))
 have HF4 : Hid (Fr (fun _ => False) w w4) := (HF1.out.next (HB.out.2.2.next HF3.out)).trans HA.out.2 fun k hk => .inr (by omega)
 have hin := recQ_in s
 have hrl := (intsF_i64 4 s).2
 have HTX := Lib.hid (fun W : World => rtotext_h (w := W) (intsF 4 s).2 (by omega))
 obtain ⟨q, hq⟩ : ∃ q, q = recQ s := ⟨_, rfl⟩
 have HQ := Lib.hid hq
 have HD := Lib.hid hq
 rw [← hq] at hin
 clear hq
 unfold recQ at HD
 have har := HA.out.1
 unfold Arr4 at har
 obtain ⟨n0, h0⟩ : ∃ n, (intsF 4 s).1.getD 0 0 = n := ⟨_, rfl⟩
 obtain ⟨n1, h1⟩ : ∃ n, (intsF 4 s).1.getD 1 0 = n := ⟨_, rfl⟩
 obtain ⟨n2, h2⟩ : ∃ n, (intsF 4 s).1.getD 2 0 = n := ⟨_, rfl⟩
 obtain ⟨n3, h3⟩ : ∃ n, (intsF 4 s).1.getD 3 0 = n := ⟨_, rfl⟩
 obtain ⟨rest, hr⟩ : ∃ r, (intsF 4 s).2 = r := ⟨_, rfl⟩
 obtain ⟨tx, htx⟩ : ∃ t, (toTextD rest).1.1 = t := ⟨_, rfl⟩
 rw [h0, h1, h2, h3] at har
 rw [hr] at HTX ⊢
 rw [htx] at HTX
 rw [h0, h1, h2, h3, hr, htx] at HD
 have a0 := cell_of har (i := 0) (v := .int .i64 n0) rfl
 have a1 := cell_of har (i := 1) (v := .int .i64 n1) rfl
 have a2 := cell_of har (i := 2) (v := .int .i64 n2) rfl
 have a3 := cell_of har (i := 3) (v := .int .i64 n3) rfl
 have hb4 := HBX.out
 unfold recX zeroE at hb4
 have b0 := cell_of hb4 (i := 0) (v := .int .i64 0) rfl
 have b1 := cell_of hb4 (i := 1) (v := .int .i64 0) rfl
 have b2 := cell_of hb4 (i := 2) (v := .int .i64 0) rfl
 have b3 := cell_of hb4 (i := 3) (v := .int .i64 0) rfl
 have b4 := cell_of hb4 (i := 4) (v := .int .i64 0) rfl
 have b5 := cell_of hb4 (i := 5) (v := .int .i64 0) rfl
 have b6 := cell_of hb4 (i := 6) (v := .string (bs [])) rfl
 have g0 := free_of 0 hb4
 have g1 := free_of 1 hb4
 have g2 := free_of 2 hb4
 have g3 := free_of 3 hb4
 have g4 := free_of 4 hb4
 have g5 := free_of 5 hb4
 have g6 := free_of 6 hb4
 have hbl := lt_of_block hb4
 have HH4 := Lib.hid hb4
 have HIN := Lib.hid hin
 clear har hb4 h0 h1 h2 h3 hr htx hin hrl
 go_upto_block 2 with fail
 obtain ⟨c1, hc1⟩ : ∃ c : Bool, (n0 == 1) = c := ⟨_, rfl⟩
 go_cut [] (fun wx => Hid (wx.heap[b]? = some (.cells (recX q.k q.t q.v q.e).toArray 148 (0, 0)) ∧ Fr (fun k => k = b) w4 wx))
 case first =>
  cases c1 with
  | true =>
   have e1 : n0 = 1 := by simpa using hc1
   have HE : Hid (q = ⟨1, n1, n2, zeroE⟩) := HD.out.trans (if_pos e1)
   clear e1
   go_wp2_with fail
   go_meet
   rw [HE.out]
   exact Lib.hid ⟨sets7 HH4.out _ _ _ _ _ _ _, frs7 (o := fun k => k = b) (Fr.refl _ _) (.inl rfl) _ _ _ _ _ _ _⟩
  | false =>
   have e1 : ¬ n0 = 1 := by simpa using hc1
   by_cases e2 : n0 = 2
   ·have q2 : (n0 == 2) = true := by simpa using e2
    have HE : Hid (q = ⟨2, 0, 0, ⟨n1, n2, n3, tx⟩⟩) := HD.out.trans ((if_neg e1).trans (if_pos e2))
    clear e1 e2
    go_wp2_with fail
    refine Calls.mono (HTX.out _) ?_
    rintro e w5 ⟨rfl, hf5⟩
    have HF5 := Lib.hid hf5
    have hb5 := hf5.keep HH4.out (fun h => h)
    have HH5 := Lib.hid hb5
    have a1' := hf5.cell a1 (fun h => h)
    have a2' := hf5.cell a2 (fun h => h)
    have a3' := hf5.cell a3 (fun h => h)
    have b0' := cell_of hb5 (i := 0) (v := .int .i64 0) rfl
    have b1' := cell_of hb5 (i := 1) (v := .int .i64 0) rfl
    have b2' := cell_of hb5 (i := 2) (v := .int .i64 0) rfl
    have b3' := cell_of hb5 (i := 3) (v := .int .i64 0) rfl
    have b4' := cell_of hb5 (i := 4) (v := .int .i64 0) rfl
    have b5' := cell_of hb5 (i := 5) (v := .int .i64 0) rfl
    have b6' := cell_of hb5 (i := 6) (v := .string (bs [])) rfl
    have g0' := free_of 0 hb5
    have g1' := free_of 1 hb5
    have g2' := free_of 2 hb5
    have g3' := free_of 3 hb5
    have g4' := free_of 4 hb5
    have g5' := free_of 5 hb5
    have g6' := free_of 6 hb5
    have hbl5 := lt_of_block hb5
    clear hf5 hb5 a0 a1 a2 a3 b0 b1 b2 b3 b4 b5 b6 g0 g1 g2 g3 g4 g5 g6
    go_wp2_with fail
    go_meet
    rw [HE.out]
    exact Lib.hid ⟨sets7 HH5.out _ _ _ _ _ _ _, frs7 (o := fun k => k = b) (HF5.out.mono fun _ _ h => h.elim) (.inl rfl) _ _ _ _ _ _ _⟩
   ·have q2 : (n0 == 2) = false := by simpa using e2
    by_cases e3 : n0 = 3
    ·have q3 : (n0 == 3) = true := by simpa using e3
     have HE : Hid (q = ⟨3, 0, 0, zeroE⟩) := HD.out.trans ((if_neg e1).trans ((if_neg e2).trans (if_pos e3)))
     clear e1 e2 e3
     go_wp2_with fail
     go_meet
     rw [HE.out]
     exact Lib.hid ⟨sets7 HH4.out _ _ _ _ _ _ _, frs7 (o := fun k => k = b) (Fr.refl _ _) (.inl rfl) _ _ _ _ _ _ _⟩
    ·have q3 : (n0 == 3) = false := by simpa using e3
     have HE : Hid (q = ⟨0, 0, 0, zeroE⟩) := HD.out.trans ((if_neg e1).trans ((if_neg e2).trans (if_neg e3)))
     clear e1 e2 e3
     go_wp2_with fail
     go_meet
     rw [HE.out]
     exact Lib.hid ⟨HH4.out, Fr.refl _ _⟩
 case rest =>
 obtain ⟨w5, hwn⟩ : ∃ x, x = wc := ⟨_, rfl⟩
 rw [← hwn] at hcut ⊢
 have HC := Lib.hid hcut.out
 have HA5 := Lib.hid (HC.out.2.keep HAX.out (by omega))
 have HF5 : Hid (Fr (fun _ => False) w w5) := HF4.out.trans HC.out.2 fun k hk => .inr (by omega)
 clear hwn hcut a0 a1 a2 a3 b0 b1 b2 b3 b4 b5 b6 g0 g1 g2 g3 g4 g5 g6 hc1 HTX HD
 have HCS := Lib.hid (show recQ s = q from HQ.out.symm)
 have hcs := recQ_cases s
 rw [HCS.out] at hcs
 have HP : Hid (∀ W : World, Calls Tryz.prog 138 #[recV q.k q.t q.v q.e] W fun r w' => r = .returned (.string (bs q.pay)) ∧ Fr (fun _ => False) W w') := Lib.hid (fun W => rpayload_h HIN.out.1 HIN.out.2.1 HIN.out.2.2.1 HIN.out.2.2.2.1 HIN.out.2.2.2.2.1 (by have := HIN.out.2.2.2.2.2; omega))
 have HRT := Lib.hid (fun W : World => rrightE_h (w := W) q.e)
 unfold entV at HRT
 unfold recV at HP
 have HOK : Hid (∀ (ok : Bool) (wx : World), (ok = true ↔ q.OK s) → Fr (fun _ => False) w wx → RecPost s w (.returned (.tuple #[recV q.k q.t q.v q.e, .bool ok])) wx) := Lib.hid (fun ok wx h hf => ⟨ok, by rw [HCS.out]; rfl, by rw [HCS.out]; exact h, hf⟩)
 obtain ⟨k, t, v, ⟨ei, et, ek, ed⟩⟩ := q
 dsimp only at hcs HP HRT HC
 have hb5 := HC.out.1
 unfold recX at hb5
 dsimp only at hb5
 have b0 := cell_of hb5 (i := 0) (v := .int .i64 k) rfl
 have b1 := cell_of hb5 (i := 1) (v := .int .i64 t) rfl
 have b2 := cell_of hb5 (i := 2) (v := .int .i64 v) rfl
 have b3 := cell_of hb5 (i := 3) (v := .int .i64 ei) rfl
 have b4 := cell_of hb5 (i := 4) (v := .int .i64 et) rfl
 have b5 := cell_of hb5 (i := 5) (v := .int .i64 ek) rfl
 have b6 := cell_of hb5 (i := 6) (v := .string (bs ed)) rfl
 have hbl5 := lt_of_block hb5
 clear hb5
 go_wp2_with fail
 refine Calls.mono (HRT.out _) ?_
 rintro e w6 ⟨rfl, hf6⟩
 obtain ⟨rt, hrt⟩ : ∃ b, rightE ⟨ei, et, ek, ed⟩ = b := ⟨_, rfl⟩
 rw [hrt]
 have HRT2 := Lib.hid hrt
 have HF6 := Lib.hid (HF5.out.next hf6)
 have hb6 := hf6.keep HC.out.1 (fun h => h)
 unfold recX at hb6
 dsimp only at hb6
 have ha6 := hf6.keep HA5.out (fun h => h)
 have HBB := Lib.hid hb6
 have HAA := Lib.hid ha6
 have hAb : w.heap.size < b := by omega
 have hAb1 : ¬ w.heap.size = b := by omega
 have hAb2 : ¬ b = w.heap.size := by omega
 clear hrt b0 b1 b2 b3 b4 b5 b6
 have b0 := cell_of hb6 (i := 0) (v := .int .i64 k) rfl
 have b1 := cell_of hb6 (i := 1) (v := .int .i64 t) rfl
 have b2 := cell_of hb6 (i := 2) (v := .int .i64 v) rfl
 have b3 := cell_of hb6 (i := 3) (v := .int .i64 ei) rfl
 have b4 := cell_of hb6 (i := 4) (v := .int .i64 et) rfl
 have b5 := cell_of hb6 (i := 5) (v := .int .i64 ek) rfl
 have b6 := cell_of hb6 (i := 6) (v := .string (bs ed)) rfl
 have HNE := Lib.hid (And.intro hAb1 hAb2)
 have HPX : Hid (∀ W : World, Calls Tryz.prog 138 #[.agg #[.int .i64 k, .int .i64 t, .int .i64 v, .int .i64 ei, .int .i64 et, .int .i64 ek, .string (bs ed)]] W fun r w' => r = .returned (.string (bs (RecQ.pay ⟨k, t, v, ⟨ei, et, ek, ed⟩⟩))) ∧ Fr (fun _ => False) W w') := HP
 obtain ⟨p, hp⟩ : ∃ p, RecQ.pay ⟨k, t, v, ⟨ei, et, ek, ed⟩⟩ = p := ⟨_, rfl⟩
 rw [hp] at HPX
 have HPE := Lib.hid hp
 have HPE0 := Lib.hid hp
 clear hb6 ha6 hp HP hf6 hAb hAb1 hAb2 hb2l hb1l h12 h22 hbnb hanb hbl5 hbl HIN HCS HC HA5 HF5 HH4 HQ HF4 HAX HBX HA HB HB1 HF1 HF3 HNB HPE0 hs
 go_upto_region 20 with fail
 go_cut [3] (fun s3 wx => ∃ ok : Bool, s3 = .bool ok ∧ Hid ((ok = true ↔ RecQ.OK ⟨k, t, v, ⟨ei, et, ek, ed⟩⟩ s) ∧ wx.heap[w.heap.size]? = some (.cells #[.int .i64 k, .int .i64 t, .int .i64 v, .int .i64 ei, .int .i64 et, .int .i64 ek, .string (bs ed)] 148 (0, 0)) ∧ Fr (fun _ => False) w wx))
 case first =>
  have K0 : Hid (p ≠ s → ¬ RecQ.OK ⟨k, t, v, ⟨ei, et, ek, ed⟩⟩ s) := Lib.hid (fun h h2 => h (HPE.out.symm.trans h2.pay))
  by_cases hk0 : 0 < k
  ·by_cases hps : p = s
   ·subst hps
    by_cases ht0 : 0 ≤ t
    ·by_cases hv0 : 0 ≤ v
     ·by_cases hk2 : k = 2
      ·subst hk2
       have KN : Hid (rt = true ↔ RecQ.OK ⟨2, t, v, ⟨ei, et, ek, ed⟩⟩ p) := Lib.hid ⟨fun h => ⟨show (0 : Int) < 2 by decide, HPE.out, ht0, hv0, .inr (HRT2.out.trans h)⟩, fun h => HRT2.out.symm.trans (h.e.resolve_left fun h => h rfl)⟩
       clear hcs K0
       refine wp_region_held_drew (S := (fun W => W.cell? ⟨b, 0, none⟩ = some (.int .i64 2) ∧ W.cell? ⟨b, 1, none⟩ = some (.int .i64 t) ∧ W.cell? ⟨b, 2, none⟩ = some (.int .i64 v) ∧ W.cell? ⟨b, 3, none⟩ = some (.int .i64 ei) ∧ W.cell? ⟨b, 4, none⟩ = some (.int .i64 et) ∧ W.cell? ⟨b, 5, none⟩ = some (.int .i64 ek) ∧ W.cell? ⟨b, 6, none⟩ = some (.string (bs ed)))) (by kernel_rfl) ?hS0_1 (fun hHeld => ?hR0_1)
       case hS0_1 => (try dsimp only); go_keep
       clear b0 b1 b2 b3 b4 b5 b6
       refine tk (i := 0) (o := ⟨some 66, _, _, _, _, _⟩) (v := ?v0_1) rfl (Or.inl ⟨by rfl, ?hy0_1⟩) hHeld ?rest0_1
       case hy0_1 => intro wS hSw; (try dsimp only at hSw); go_simp; (try with_reducible rfl)
       try simp only [Act.put, List.setIfInBounds_toArray, List.set_cons_zero, List.set_cons_succ]
       refine tk (i := 1) (o := ⟨some 67, _, _, _, _, _⟩) (v := ?v1_1) rfl (Or.inl ⟨by rfl, ?hy1_1⟩) hHeld ?rest1_1
       case hy1_1 => intro wS hSw; (try dsimp only at hSw); go_simp; (try with_reducible rfl)
       try simp only [Act.put, List.setIfInBounds_toArray, List.set_cons_zero, List.set_cons_succ]
       refine tk (i := 2) (o := ⟨some 68, _, _, _, _, _⟩) (v := ?v2_1) rfl (Or.inl ⟨by rfl, ?hy2_1⟩) hHeld ?rest2_1
       case hy2_1 => intro wS hSw; (try dsimp only at hSw); go_simp; (try with_reducible rfl)
       try simp only [Act.put, List.setIfInBounds_toArray, List.set_cons_zero, List.set_cons_succ]
       refine tk (i := 3) (o := ⟨some 69, _, _, _, _, _⟩) (v := ?v3_1) rfl (Or.inl ⟨by rfl, ?hy3_1⟩) hHeld ?rest3_1
       case hy3_1 => intro wS hSw; (try dsimp only at hSw); go_simp; (try with_reducible rfl)
       try simp only [Act.put, List.setIfInBounds_toArray, List.set_cons_zero, List.set_cons_succ]
       refine tk (i := 4) (o := ⟨some 70, _, _, _, _, _⟩) (v := ?v4_1) rfl (Or.inl ⟨by rfl, ?hy4_1⟩) hHeld ?rest4_1
       case hy4_1 => intro wS hSw; (try dsimp only at hSw); go_simp; (try with_reducible rfl)
       try simp only [Act.put, List.setIfInBounds_toArray, List.set_cons_zero, List.set_cons_succ]
       refine tk (i := 5) (o := ⟨some 71, _, _, _, _, _⟩) (v := ?v5_1) rfl (Or.inl ⟨by rfl, ?hy5_1⟩) hHeld ?rest5_1
       case hy5_1 => intro wS hSw; (try dsimp only at hSw); go_simp; (try with_reducible rfl)
       try simp only [Act.put, List.setIfInBounds_toArray, List.set_cons_zero, List.set_cons_succ]
       refine tk (i := 7) (o := ⟨some 73, _, _, _, _, _⟩) (v := ?v7_1) rfl (Or.inl ⟨by rfl, ?hy7_1⟩) hHeld ?rest7_1
       case hy7_1 => intro wS hSw; (try dsimp only at hSw); go_simp; (try with_reducible rfl)
       try simp only [Act.put, List.setIfInBounds_toArray, List.set_cons_zero, List.set_cons_succ]
       refine wpAnyH_ready (rs := [6]) (by kernel_rfl) (by simp) ?_
       refine AllReadyH.cons rfl (fun K hK => ?_) AllReadyH.nil
       go_simp
       refine Calls.mono (HPX.out _) ?_
       rintro r w7 ⟨rfl, hq⟩
       have f7 := ((Fr.refl (fun _ => False) w6).drew).next hq
       have hb7 := f7.keep HBB.out (fun h => h)
       have ha7 := f7.keep HAA.out (fun h => h)
       have y0 := cell_of hb7 (i := 0) (v := .int .i64 2) rfl
       have y1 := cell_of hb7 (i := 1) (v := .int .i64 t) rfl
       have y2 := cell_of hb7 (i := 2) (v := .int .i64 v) rfl
       have y3 := cell_of hb7 (i := 3) (v := .int .i64 ei) rfl
       have y4 := cell_of hb7 (i := 4) (v := .int .i64 et) rfl
       have y5 := cell_of hb7 (i := 5) (v := .int .i64 ek) rfl
       have y6 := cell_of hb7 (i := 6) (v := .string (bs ed)) rfl
       have HA7 := Lib.hid ha7
       have F7 := Lib.hid f7
       clear hq hb7 ha7 f7 hHeld HPX
       refine hK.out _ _ ⟨y0, y1, y2, y3, y4, y5, y6⟩ (fun hHeld => ?_)
       clear hK K y0 y1 y2 y3 y4 y5 y6
       try simp only [Act.put, List.setIfInBounds_toArray, List.set_cons_zero, List.set_cons_succ]
       refine tk (i := 8) (o := ⟨some 74, _, _, _, _, _⟩) (v := ?v8_1) rfl (Or.inl ⟨by rfl, ?hy8_1⟩) hHeld ?rest8_1
       case hy8_1 => intro wS hSw; (try dsimp only at hSw); go_simp; (try with_reducible rfl)
       try simp only [Act.put, List.setIfInBounds_toArray, List.set_cons_zero, List.set_cons_succ]
       refine tk (i := 9) (o := ⟨some 75, _, _, _, _, _⟩) (v := ?v9_1) rfl (Or.inl ⟨by rfl, ?hy9_1⟩) hHeld ?rest9_1
       case hy9_1 => intro wS hSw; (try dsimp only at hSw); go_simp; (try with_reducible rfl)
       try simp only [Act.put, List.setIfInBounds_toArray, List.set_cons_zero, List.set_cons_succ]
       refine tk (i := 10) (o := ⟨some 76, _, _, _, _, _⟩) (v := ?v10_1) rfl (Or.inl ⟨by rfl, ?hy10_1⟩) hHeld ?rest10_1
       case hy10_1 => intro wS hSw; (try dsimp only at hSw); go_simp; (try with_reducible rfl)
       try simp only [Act.put, List.setIfInBounds_toArray, List.set_cons_zero, List.set_cons_succ]
       refine tk (i := 11) (o := ⟨some 77, _, _, _, _, _⟩) (v := ?v11_1) rfl (Or.inl ⟨by rfl, ?hy11_1⟩) hHeld ?rest11_1
       case hy11_1 => intro wS hSw; (try dsimp only at hSw); go_simp; (try with_reducible rfl)
       try simp only [Act.put, List.setIfInBounds_toArray, List.set_cons_zero, List.set_cons_succ]
       refine tk (i := 12) (o := ⟨some 78, _, _, _, _, _⟩) (v := ?v12_1) rfl (Or.inl ⟨by rfl, ?hy12_1⟩) hHeld ?rest12_1
       case hy12_1 => intro wS hSw; (try dsimp only at hSw); go_simp; (try with_reducible rfl)
       try simp only [Act.put, List.setIfInBounds_toArray, List.set_cons_zero, List.set_cons_succ]
       refine tk (i := 13) (o := ⟨some 79, _, _, _, _, _⟩) (v := ?v13_1) rfl (Or.inl ⟨by rfl, ?hy13_1⟩) hHeld ?rest13_1
       case hy13_1 => intro wS hSw; (try dsimp only at hSw); go_simp; (try with_reducible rfl)
       try simp only [Act.put, List.setIfInBounds_toArray, List.set_cons_zero, List.set_cons_succ]
       refine tk (i := 14) (o := ⟨some 80, _, _, _, _, _⟩) (v := ?v14_1) rfl (Or.inl ⟨by rfl, ?hy14_1⟩) hHeld ?rest14_1
       case hy14_1 => intro wS hSw; (try dsimp only at hSw); go_simp; (try with_reducible rfl)
       try simp only [Act.put, List.setIfInBounds_toArray, List.set_cons_zero, List.set_cons_succ]
       refine tk (i := 15) (o := ⟨some 81, _, _, _, _, _⟩) (v := ?v15_1) rfl (Or.inl ⟨by rfl, ?hy15_1⟩) hHeld ?rest15_1
       case hy15_1 => intro wS hSw; (try dsimp only at hSw); go_simp; (try with_reducible rfl)
       try simp only [Act.put, List.setIfInBounds_toArray, List.set_cons_zero, List.set_cons_succ]
       refine tk (i := 16) (o := ⟨some 82, _, _, _, _, _⟩) (v := ?v16_1) rfl (Or.inl ⟨by rfl, ?hy16_1⟩) hHeld ?rest16_1
       case hy16_1 => intro wS hSw; (try dsimp only at hSw); go_simp; (try with_reducible rfl)
       try simp only [Act.put, List.setIfInBounds_toArray, List.set_cons_zero, List.set_cons_succ]
       refine tk (i := 17) (o := ⟨some 83, _, _, _, _, _⟩) (v := ?v17_1) rfl (Or.inl ⟨by rfl, ?hy17_1⟩) hHeld ?rest17_1
       case hy17_1 => intro wS hSw; (try dsimp only at hSw); go_simp; (try with_reducible rfl)
       try simp only [Act.put, List.setIfInBounds_toArray, List.set_cons_zero, List.set_cons_succ]
       refine tk (i := 18) (o := ⟨some 84, _, _, _, _, _⟩) (v := ?v18_1) rfl (Or.inl ⟨by rfl, ?hy18_1⟩) hHeld ?rest18_1
       case hy18_1 => intro wS hSw; (try dsimp only at hSw); go_simp; (try with_reducible rfl)
       try simp only [Act.put, List.setIfInBounds_toArray, List.set_cons_zero, List.set_cons_succ]
       refine tk (i := 19) (o := ⟨some 85, _, _, _, _, _⟩) (v := ?v19_1) rfl (Or.inl ⟨by rfl, ?hy19_1⟩) hHeld ?rest19_1
       case hy19_1 => intro wS hSw; (try dsimp only at hSw); go_simp; (try with_reducible rfl)
       try simp only [Act.put, List.setIfInBounds_toArray, List.set_cons_zero, List.set_cons_succ]
       refine tk (i := 20) (o := ⟨some 86, _, _, _, _, _⟩) (v := ?v20_1) rfl (Or.inl ⟨by rfl, ?hy20_1⟩) hHeld ?rest20_1
       case hy20_1 => intro wS hSw; (try dsimp only at hSw); go_simp; (try with_reducible rfl)
       try simp only [Act.put, List.setIfInBounds_toArray, List.set_cons_zero, List.set_cons_succ]
       refine tk (i := 21) (o := ⟨some 87, _, _, _, _, _⟩) (v := ?v21_1) rfl (Or.inl ⟨by rfl, ?hy21_1⟩) hHeld ?rest21_1
       case hy21_1 => intro wS hSw; (try dsimp only at hSw); go_simp; (try with_reducible rfl)
       try simp only [Act.put, List.setIfInBounds_toArray, List.set_cons_zero, List.set_cons_succ]
       refine tk (i := 22) (o := ⟨some 88, _, _, _, _, _⟩) (v := ?v22_1) rfl (Or.inl ⟨by rfl, ?hy22_1⟩) hHeld ?rest22_1
       case hy22_1 => intro wS hSw; (try dsimp only at hSw); go_simp; (try with_reducible rfl)
       try simp only [Act.put, List.setIfInBounds_toArray, List.set_cons_zero, List.set_cons_succ]
       refine tk (i := 23) (o := ⟨some 89, _, _, _, _, _⟩) (v := ?v23_1) rfl (Or.inl ⟨by rfl, ?hy23_1⟩) hHeld ?rest23_1
       case hy23_1 => intro wS hSw; (try dsimp only at hSw); go_simp; (try with_reducible rfl)
       try simp only [Act.put, List.setIfInBounds_toArray, List.set_cons_zero, List.set_cons_succ]
       refine tk (i := 24) (o := ⟨some 90, _, _, _, _, _⟩) (v := ?v24_1) rfl (Or.inl ⟨by rfl, ?hy24_1⟩) hHeld ?rest24_1
       case hy24_1 => intro wS hSw; (try dsimp only at hSw); go_simp; (try with_reducible rfl)
       try simp only [Act.put, List.setIfInBounds_toArray, List.set_cons_zero, List.set_cons_succ]
       refine tk (i := 25) (o := ⟨some 91, _, _, _, _, _⟩) (v := ?v25_1) rfl (Or.inl ⟨by rfl, ?hy25_1⟩) hHeld ?rest25_1
       case hy25_1 => intro wS hSw; (try dsimp only at hSw); go_simp; (try with_reducible rfl)
       try simp only [Act.put, List.setIfInBounds_toArray, List.set_cons_zero, List.set_cons_succ]
       refine tk (i := 26) (o := ⟨some 92, _, _, _, _, _⟩) (v := ?v26_1) rfl (Or.inl ⟨by rfl, ?hy26_1⟩) hHeld ?rest26_1
       case hy26_1 => intro wS hSw; (try dsimp only at hSw); go_simp; (try with_reducible rfl)
       try simp only [Act.put, List.setIfInBounds_toArray, List.set_cons_zero, List.set_cons_succ]
       refine tk (i := 27) (o := ⟨some 93, _, _, _, _, _⟩) (v := ?v27_1) rfl (Or.inl ⟨by rfl, ?hy27_1⟩) hHeld ?rest27_1
       case hy27_1 => intro wS hSw; (try dsimp only at hSw); go_simp; (try with_reducible rfl)
       try simp only [Act.put, List.setIfInBounds_toArray, List.set_cons_zero, List.set_cons_succ]
       refine tk (i := 28) (o := ⟨some 94, _, _, _, _, _⟩) (v := ?v28_1) rfl (Or.inl ⟨by rfl, ?hy28_1⟩) hHeld ?rest28_1
       case hy28_1 => intro wS hSw; (try dsimp only at hSw); go_simp; (try with_reducible rfl)
       try simp only [Act.put, List.setIfInBounds_toArray, List.set_cons_zero, List.set_cons_succ]
       refine tk (i := 29) (o := ⟨some 95, _, _, _, _, _⟩) (v := ?v29_1) rfl (Or.inl ⟨by rfl, ?hy29_1⟩) hHeld ?rest29_1
       case hy29_1 => intro wS hSw; (try dsimp only at hSw); go_simp; (try with_reducible rfl)
       try simp only [Act.put, List.setIfInBounds_toArray, List.set_cons_zero, List.set_cons_succ]
       have ha9 := HA7.out
       have z0 := cell_of ha9 (i := 0) (v := .int .i64 0) rfl
       have z1 := cell_of ha9 (i := 1) (v := .int .i64 0) rfl
       have z2 := cell_of ha9 (i := 2) (v := .int .i64 0) rfl
       have z3 := cell_of ha9 (i := 3) (v := .int .i64 0) rfl
       have z4 := cell_of ha9 (i := 4) (v := .int .i64 0) rfl
       have z5 := cell_of ha9 (i := 5) (v := .int .i64 0) rfl
       have z6 := cell_of ha9 (i := 6) (v := .string ⟨#[]⟩) rfl
       have q0 := free_of 0 ha9
       have q1 := free_of 1 ha9
       have q2 := free_of 2 ha9
       have q3 := free_of 3 ha9
       have q4 := free_of 4 ha9
       have q5 := free_of 5 ha9
       have q6 := free_of 6 ha9
       have hl9 := lt_of_block ha9
       have hAb1 := HNE.out.1
       have hAb2 := HNE.out.2
       clear ha9
       refine wpAnyH_ready (rs := [30]) (by kernel_rfl) (by simp) ?_
       refine AllReadyH.cons rfl (fun K hK => ?_) AllReadyH.nil
       go_simp
       refine hK.out _ _ ?hS30_1 (fun hHeld => ?hR30_1)
       case hS30_1 => (try dsimp only); go_keep
       clear hK K
       try simp only [Act.put, List.setIfInBounds_toArray, List.set_cons_zero, List.set_cons_succ]
       refine tk (i := 31) (o := ⟨some 3, _, _, _, _, _⟩) (v := ?v31_1) rfl (Or.inl ⟨by rfl, ?hy31_1⟩) hHeld ?rest31_1
       case hy31_1 => intro wS hSw; (try dsimp only at hSw); go_simp; (try with_reducible rfl)
       try simp only [Act.put, List.setIfInBounds_toArray, List.set_cons_zero, List.set_cons_succ]
       refine wpAnyH_done (by kernel_rfl) ?_ _
       go_wp2_with fail
       go_meet
       exact ⟨rt, rfl, Lib.hid ⟨KN.out, sets7 HA7.out _ _ _ _ _ _ _, frs7 (HF6.out.next F7.out) (.inr (Nat.le_refl _)) _ _ _ _ _ _ _⟩⟩
      ·have KN : Hid (RecQ.OK ⟨k, t, v, ⟨ei, et, ek, ed⟩⟩ p) := ⟨hk0, HPE.out, ht0, hv0, .inl hk2⟩
       have dk : (k != 2) = true := by simpa using hk2
       clear hcs K0
       refine wp_region_held_drew (S := (fun W => W.cell? ⟨b, 0, none⟩ = some (.int .i64 k) ∧ W.cell? ⟨b, 1, none⟩ = some (.int .i64 t) ∧ W.cell? ⟨b, 2, none⟩ = some (.int .i64 v) ∧ W.cell? ⟨b, 3, none⟩ = some (.int .i64 ei) ∧ W.cell? ⟨b, 4, none⟩ = some (.int .i64 et) ∧ W.cell? ⟨b, 5, none⟩ = some (.int .i64 ek) ∧ W.cell? ⟨b, 6, none⟩ = some (.string (bs ed)))) (by kernel_rfl) ?hS0_2 (fun hHeld => ?hR0_2)
       case hS0_2 => (try dsimp only); go_keep
       clear b0 b1 b2 b3 b4 b5 b6
       refine tk (i := 0) (o := ⟨some 66, _, _, _, _, _⟩) (v := ?v0_2) rfl (Or.inl ⟨by rfl, ?hy0_2⟩) hHeld ?rest0_2
       case hy0_2 => intro wS hSw; (try dsimp only at hSw); go_simp; (try with_reducible rfl)
       try simp only [Act.put, List.setIfInBounds_toArray, List.set_cons_zero, List.set_cons_succ]
       refine tk (i := 1) (o := ⟨some 67, _, _, _, _, _⟩) (v := ?v1_2) rfl (Or.inl ⟨by rfl, ?hy1_2⟩) hHeld ?rest1_2
       case hy1_2 => intro wS hSw; (try dsimp only at hSw); go_simp; (try with_reducible rfl)
       try simp only [Act.put, List.setIfInBounds_toArray, List.set_cons_zero, List.set_cons_succ]
       refine tk (i := 2) (o := ⟨some 68, _, _, _, _, _⟩) (v := ?v2_2) rfl (Or.inl ⟨by rfl, ?hy2_2⟩) hHeld ?rest2_2
       case hy2_2 => intro wS hSw; (try dsimp only at hSw); go_simp; (try with_reducible rfl)
       try simp only [Act.put, List.setIfInBounds_toArray, List.set_cons_zero, List.set_cons_succ]
       refine tk (i := 3) (o := ⟨some 69, _, _, _, _, _⟩) (v := ?v3_2) rfl (Or.inl ⟨by rfl, ?hy3_2⟩) hHeld ?rest3_2
       case hy3_2 => intro wS hSw; (try dsimp only at hSw); go_simp; (try with_reducible rfl)
       try simp only [Act.put, List.setIfInBounds_toArray, List.set_cons_zero, List.set_cons_succ]
       refine tk (i := 4) (o := ⟨some 70, _, _, _, _, _⟩) (v := ?v4_2) rfl (Or.inl ⟨by rfl, ?hy4_2⟩) hHeld ?rest4_2
       case hy4_2 => intro wS hSw; (try dsimp only at hSw); go_simp; (try with_reducible rfl)
       try simp only [Act.put, List.setIfInBounds_toArray, List.set_cons_zero, List.set_cons_succ]
       refine tk (i := 5) (o := ⟨some 71, _, _, _, _, _⟩) (v := ?v5_2) rfl (Or.inl ⟨by rfl, ?hy5_2⟩) hHeld ?rest5_2
       case hy5_2 => intro wS hSw; (try dsimp only at hSw); go_simp; (try with_reducible rfl)
       try simp only [Act.put, List.setIfInBounds_toArray, List.set_cons_zero, List.set_cons_succ]
       refine tk (i := 7) (o := ⟨some 73, _, _, _, _, _⟩) (v := ?v7_2) rfl (Or.inl ⟨by rfl, ?hy7_2⟩) hHeld ?rest7_2
       case hy7_2 => intro wS hSw; (try dsimp only at hSw); go_simp; (try with_reducible rfl)
       try simp only [Act.put, List.setIfInBounds_toArray, List.set_cons_zero, List.set_cons_succ]
       refine wpAnyH_ready (rs := [6]) (by kernel_rfl) (by simp) ?_
       refine AllReadyH.cons rfl (fun K hK => ?_) AllReadyH.nil
       go_simp
       refine Calls.mono (HPX.out _) ?_
       rintro r w7 ⟨rfl, hq⟩
       have f7 := ((Fr.refl (fun _ => False) w6).drew).next hq
       have hb7 := f7.keep HBB.out (fun h => h)
       have ha7 := f7.keep HAA.out (fun h => h)
       have y0 := cell_of hb7 (i := 0) (v := .int .i64 k) rfl
       have y1 := cell_of hb7 (i := 1) (v := .int .i64 t) rfl
       have y2 := cell_of hb7 (i := 2) (v := .int .i64 v) rfl
       have y3 := cell_of hb7 (i := 3) (v := .int .i64 ei) rfl
       have y4 := cell_of hb7 (i := 4) (v := .int .i64 et) rfl
       have y5 := cell_of hb7 (i := 5) (v := .int .i64 ek) rfl
       have y6 := cell_of hb7 (i := 6) (v := .string (bs ed)) rfl
       have HA7 := Lib.hid ha7
       have F7 := Lib.hid f7
       clear hq hb7 ha7 f7 hHeld HPX
       refine hK.out _ _ ⟨y0, y1, y2, y3, y4, y5, y6⟩ (fun hHeld => ?_)
       clear hK K y0 y1 y2 y3 y4 y5 y6
       try simp only [Act.put, List.setIfInBounds_toArray, List.set_cons_zero, List.set_cons_succ]
       refine tk (i := 8) (o := ⟨some 74, _, _, _, _, _⟩) (v := ?v8_2) rfl (Or.inl ⟨by rfl, ?hy8_2⟩) hHeld ?rest8_2
       case hy8_2 => intro wS hSw; (try dsimp only at hSw); go_simp; (try with_reducible rfl)
       try simp only [Act.put, List.setIfInBounds_toArray, List.set_cons_zero, List.set_cons_succ]
       refine tk (i := 9) (o := ⟨some 75, _, _, _, _, _⟩) (v := ?v9_2) rfl (Or.inl ⟨by rfl, ?hy9_2⟩) hHeld ?rest9_2
       case hy9_2 => intro wS hSw; (try dsimp only at hSw); go_simp; (try with_reducible rfl)
       try simp only [Act.put, List.setIfInBounds_toArray, List.set_cons_zero, List.set_cons_succ]
       refine tk (i := 10) (o := ⟨some 76, _, _, _, _, _⟩) (v := ?v10_2) rfl (Or.inl ⟨by rfl, ?hy10_2⟩) hHeld ?rest10_2
       case hy10_2 => intro wS hSw; (try dsimp only at hSw); go_simp; (try with_reducible rfl)
       try simp only [Act.put, List.setIfInBounds_toArray, List.set_cons_zero, List.set_cons_succ]
       refine tk (i := 11) (o := ⟨some 77, _, _, _, _, _⟩) (v := ?v11_2) rfl (Or.inl ⟨by rfl, ?hy11_2⟩) hHeld ?rest11_2
       case hy11_2 => intro wS hSw; (try dsimp only at hSw); go_simp; (try with_reducible rfl)
       try simp only [Act.put, List.setIfInBounds_toArray, List.set_cons_zero, List.set_cons_succ]
       refine tk (i := 12) (o := ⟨some 78, _, _, _, _, _⟩) (v := ?v12_2) rfl (Or.inl ⟨by rfl, ?hy12_2⟩) hHeld ?rest12_2
       case hy12_2 => intro wS hSw; (try dsimp only at hSw); go_simp; (try with_reducible rfl)
       try simp only [Act.put, List.setIfInBounds_toArray, List.set_cons_zero, List.set_cons_succ]
       refine tk (i := 13) (o := ⟨some 79, _, _, _, _, _⟩) (v := ?v13_2) rfl (Or.inl ⟨by rfl, ?hy13_2⟩) hHeld ?rest13_2
       case hy13_2 => intro wS hSw; (try dsimp only at hSw); go_simp; (try with_reducible rfl)
       try simp only [Act.put, List.setIfInBounds_toArray, List.set_cons_zero, List.set_cons_succ]
       refine tk (i := 14) (o := ⟨some 80, _, _, _, _, _⟩) (v := ?v14_2) rfl (Or.inl ⟨by rfl, ?hy14_2⟩) hHeld ?rest14_2
       case hy14_2 => intro wS hSw; (try dsimp only at hSw); go_simp; (try with_reducible rfl)
       try simp only [Act.put, List.setIfInBounds_toArray, List.set_cons_zero, List.set_cons_succ]
       refine tk (i := 15) (o := ⟨some 81, _, _, _, _, _⟩) (v := ?v15_2) rfl (Or.inl ⟨by rfl, ?hy15_2⟩) hHeld ?rest15_2
       case hy15_2 => intro wS hSw; (try dsimp only at hSw); go_simp; (try with_reducible rfl)
       try simp only [Act.put, List.setIfInBounds_toArray, List.set_cons_zero, List.set_cons_succ]
       refine tk (i := 16) (o := ⟨some 82, _, _, _, _, _⟩) (v := ?v16_2) rfl (Or.inl ⟨by rfl, ?hy16_2⟩) hHeld ?rest16_2
       case hy16_2 => intro wS hSw; (try dsimp only at hSw); go_simp; (try with_reducible rfl)
       try simp only [Act.put, List.setIfInBounds_toArray, List.set_cons_zero, List.set_cons_succ]
       refine tk (i := 17) (o := ⟨some 83, _, _, _, _, _⟩) (v := ?v17_2) rfl (Or.inl ⟨by rfl, ?hy17_2⟩) hHeld ?rest17_2
       case hy17_2 => intro wS hSw; (try dsimp only at hSw); go_simp; (try with_reducible rfl)
       try simp only [Act.put, List.setIfInBounds_toArray, List.set_cons_zero, List.set_cons_succ]
       refine tk (i := 18) (o := ⟨some 84, _, _, _, _, _⟩) (v := ?v18_2) rfl (Or.inl ⟨by rfl, ?hy18_2⟩) hHeld ?rest18_2
       case hy18_2 => intro wS hSw; (try dsimp only at hSw); go_simp; (try with_reducible rfl)
       try simp only [Act.put, List.setIfInBounds_toArray, List.set_cons_zero, List.set_cons_succ]
       refine tk (i := 19) (o := ⟨some 85, _, _, _, _, _⟩) (v := ?v19_2) rfl (Or.inl ⟨by rfl, ?hy19_2⟩) hHeld ?rest19_2
       case hy19_2 => intro wS hSw; (try dsimp only at hSw); go_simp; (try with_reducible rfl)
       try simp only [Act.put, List.setIfInBounds_toArray, List.set_cons_zero, List.set_cons_succ]
       refine tk (i := 20) (o := ⟨some 86, _, _, _, _, _⟩) (v := ?v20_2) rfl (Or.inl ⟨by rfl, ?hy20_2⟩) hHeld ?rest20_2
       case hy20_2 => intro wS hSw; (try dsimp only at hSw); go_simp; (try with_reducible rfl)
       try simp only [Act.put, List.setIfInBounds_toArray, List.set_cons_zero, List.set_cons_succ]
       refine tk (i := 21) (o := ⟨some 87, _, _, _, _, _⟩) (v := ?v21_2) rfl (Or.inl ⟨by rfl, ?hy21_2⟩) hHeld ?rest21_2
       case hy21_2 => intro wS hSw; (try dsimp only at hSw); go_simp; (try with_reducible rfl)
       try simp only [Act.put, List.setIfInBounds_toArray, List.set_cons_zero, List.set_cons_succ]
       refine tk (i := 22) (o := ⟨some 88, _, _, _, _, _⟩) (v := ?v22_2) rfl (Or.inl ⟨by rfl, ?hy22_2⟩) hHeld ?rest22_2
       case hy22_2 => intro wS hSw; (try dsimp only at hSw); go_simp; (try with_reducible rfl)
       try simp only [Act.put, List.setIfInBounds_toArray, List.set_cons_zero, List.set_cons_succ]
       refine tk (i := 23) (o := ⟨some 89, _, _, _, _, _⟩) (v := ?v23_2) rfl (Or.inl ⟨by rfl, ?hy23_2⟩) hHeld ?rest23_2
       case hy23_2 => intro wS hSw; (try dsimp only at hSw); go_simp; (try with_reducible rfl)
       try simp only [Act.put, List.setIfInBounds_toArray, List.set_cons_zero, List.set_cons_succ]
       refine tk (i := 24) (o := ⟨some 90, _, _, _, _, _⟩) (v := ?v24_2) rfl (Or.inl ⟨by rfl, ?hy24_2⟩) hHeld ?rest24_2
       case hy24_2 => intro wS hSw; (try dsimp only at hSw); go_simp; (try with_reducible rfl)
       try simp only [Act.put, List.setIfInBounds_toArray, List.set_cons_zero, List.set_cons_succ]
       refine tk (i := 25) (o := ⟨some 91, _, _, _, _, _⟩) (v := ?v25_2) rfl (Or.inl ⟨by rfl, ?hy25_2⟩) hHeld ?rest25_2
       case hy25_2 => intro wS hSw; (try dsimp only at hSw); go_simp; (try with_reducible rfl)
       try simp only [Act.put, List.setIfInBounds_toArray, List.set_cons_zero, List.set_cons_succ]
       refine tk (i := 26) (o := ⟨some 92, _, _, _, _, _⟩) (v := ?v26_2) rfl (Or.inl ⟨by rfl, ?hy26_2⟩) hHeld ?rest26_2
       case hy26_2 => intro wS hSw; (try dsimp only at hSw); go_simp; (try with_reducible rfl)
       try simp only [Act.put, List.setIfInBounds_toArray, List.set_cons_zero, List.set_cons_succ]
       refine tk (i := 27) (o := ⟨some 93, _, _, _, _, _⟩) (v := undef) rfl (Or.inr ⟨by rfl, rfl⟩) hHeld ?rest27_2
       try simp only [Act.put, List.setIfInBounds_toArray, List.set_cons_zero, List.set_cons_succ]
       refine tk (i := 28) (o := ⟨some 94, _, _, _, _, _⟩) (v := ?v28_2) rfl (Or.inl ⟨by rfl, ?hy28_2⟩) hHeld ?rest28_2
       case hy28_2 => intro wS hSw; (try dsimp only at hSw); go_simp; (try with_reducible rfl)
       try simp only [Act.put, List.setIfInBounds_toArray, List.set_cons_zero, List.set_cons_succ]
       refine tk (i := 29) (o := ⟨some 95, _, _, _, _, _⟩) (v := ?v29_2) rfl (Or.inl ⟨by rfl, ?hy29_2⟩) hHeld ?rest29_2
       case hy29_2 => intro wS hSw; (try dsimp only at hSw); go_simp; (try with_reducible rfl)
       try simp only [Act.put, List.setIfInBounds_toArray, List.set_cons_zero, List.set_cons_succ]
       have ha9 := HA7.out
       have z0 := cell_of ha9 (i := 0) (v := .int .i64 0) rfl
       have z1 := cell_of ha9 (i := 1) (v := .int .i64 0) rfl
       have z2 := cell_of ha9 (i := 2) (v := .int .i64 0) rfl
       have z3 := cell_of ha9 (i := 3) (v := .int .i64 0) rfl
       have z4 := cell_of ha9 (i := 4) (v := .int .i64 0) rfl
       have z5 := cell_of ha9 (i := 5) (v := .int .i64 0) rfl
       have z6 := cell_of ha9 (i := 6) (v := .string ⟨#[]⟩) rfl
       have q0 := free_of 0 ha9
       have q1 := free_of 1 ha9
       have q2 := free_of 2 ha9
       have q3 := free_of 3 ha9
       have q4 := free_of 4 ha9
       have q5 := free_of 5 ha9
       have q6 := free_of 6 ha9
       have hl9 := lt_of_block ha9
       have hAb1 := HNE.out.1
       have hAb2 := HNE.out.2
       clear ha9
       refine wpAnyH_ready (rs := [30]) (by kernel_rfl) (by simp) ?_
       refine AllReadyH.cons rfl (fun K hK => ?_) AllReadyH.nil
       go_simp
       refine hK.out _ _ ?hS30_2 (fun hHeld => ?hR30_2)
       case hS30_2 => (try dsimp only); go_keep
       clear hK K
       try simp only [Act.put, List.setIfInBounds_toArray, List.set_cons_zero, List.set_cons_succ]
       refine tk (i := 31) (o := ⟨some 3, _, _, _, _, _⟩) (v := ?v31_2) rfl (Or.inl ⟨by rfl, ?hy31_2⟩) hHeld ?rest31_2
       case hy31_2 => intro wS hSw; (try dsimp only at hSw); go_simp; (try with_reducible rfl)
       try simp only [Act.put, List.setIfInBounds_toArray, List.set_cons_zero, List.set_cons_succ]
       refine wpAnyH_done (by kernel_rfl) ?_ _
       go_wp2_with fail
       go_meet
       exact ⟨true, rfl, Lib.hid ⟨⟨fun _ => KN.out, fun _ => rfl⟩, sets7 HA7.out _ _ _ _ _ _ _, frs7 (HF6.out.next F7.out) (.inr (Nat.le_refl _)) _ _ _ _ _ _ _⟩⟩
     ·have KN : Hid (false = true ↔ RecQ.OK ⟨k, t, v, ⟨ei, et, ek, ed⟩⟩ p) := Lib.hid ⟨fun h => (by cases h), fun h => absurd h.v hv0⟩
      have dv : decide (0 ≤ v) = false := decide_eq_false hv0
      clear hcs K0
      refine wp_region_held_drew (S := (fun W => W.cell? ⟨b, 0, none⟩ = some (.int .i64 k) ∧ W.cell? ⟨b, 1, none⟩ = some (.int .i64 t) ∧ W.cell? ⟨b, 2, none⟩ = some (.int .i64 v) ∧ W.cell? ⟨b, 3, none⟩ = some (.int .i64 ei) ∧ W.cell? ⟨b, 4, none⟩ = some (.int .i64 et) ∧ W.cell? ⟨b, 5, none⟩ = some (.int .i64 ek) ∧ W.cell? ⟨b, 6, none⟩ = some (.string (bs ed)))) (by kernel_rfl) ?hS0_3 (fun hHeld => ?hR0_3)
      case hS0_3 => (try dsimp only); go_keep
      clear b0 b1 b2 b3 b4 b5 b6
      refine tk (i := 0) (o := ⟨some 66, _, _, _, _, _⟩) (v := ?v0_3) rfl (Or.inl ⟨by rfl, ?hy0_3⟩) hHeld ?rest0_3
      case hy0_3 => intro wS hSw; (try dsimp only at hSw); go_simp; (try with_reducible rfl)
      try simp only [Act.put, List.setIfInBounds_toArray, List.set_cons_zero, List.set_cons_succ]
      refine tk (i := 1) (o := ⟨some 67, _, _, _, _, _⟩) (v := ?v1_3) rfl (Or.inl ⟨by rfl, ?hy1_3⟩) hHeld ?rest1_3
      case hy1_3 => intro wS hSw; (try dsimp only at hSw); go_simp; (try with_reducible rfl)
      try simp only [Act.put, List.setIfInBounds_toArray, List.set_cons_zero, List.set_cons_succ]
      refine tk (i := 2) (o := ⟨some 68, _, _, _, _, _⟩) (v := ?v2_3) rfl (Or.inl ⟨by rfl, ?hy2_3⟩) hHeld ?rest2_3
      case hy2_3 => intro wS hSw; (try dsimp only at hSw); go_simp; (try with_reducible rfl)
      try simp only [Act.put, List.setIfInBounds_toArray, List.set_cons_zero, List.set_cons_succ]
      refine tk (i := 3) (o := ⟨some 69, _, _, _, _, _⟩) (v := ?v3_3) rfl (Or.inl ⟨by rfl, ?hy3_3⟩) hHeld ?rest3_3
      case hy3_3 => intro wS hSw; (try dsimp only at hSw); go_simp; (try with_reducible rfl)
      try simp only [Act.put, List.setIfInBounds_toArray, List.set_cons_zero, List.set_cons_succ]
      refine tk (i := 4) (o := ⟨some 70, _, _, _, _, _⟩) (v := ?v4_3) rfl (Or.inl ⟨by rfl, ?hy4_3⟩) hHeld ?rest4_3
      case hy4_3 => intro wS hSw; (try dsimp only at hSw); go_simp; (try with_reducible rfl)
      try simp only [Act.put, List.setIfInBounds_toArray, List.set_cons_zero, List.set_cons_succ]
      refine tk (i := 5) (o := ⟨some 71, _, _, _, _, _⟩) (v := ?v5_3) rfl (Or.inl ⟨by rfl, ?hy5_3⟩) hHeld ?rest5_3
      case hy5_3 => intro wS hSw; (try dsimp only at hSw); go_simp; (try with_reducible rfl)
      try simp only [Act.put, List.setIfInBounds_toArray, List.set_cons_zero, List.set_cons_succ]
      refine tk (i := 7) (o := ⟨some 73, _, _, _, _, _⟩) (v := ?v7_3) rfl (Or.inl ⟨by rfl, ?hy7_3⟩) hHeld ?rest7_3
      case hy7_3 => intro wS hSw; (try dsimp only at hSw); go_simp; (try with_reducible rfl)
      try simp only [Act.put, List.setIfInBounds_toArray, List.set_cons_zero, List.set_cons_succ]
      refine wpAnyH_ready (rs := [6]) (by kernel_rfl) (by simp) ?_
      refine AllReadyH.cons rfl (fun K hK => ?_) AllReadyH.nil
      go_simp
      refine Calls.mono (HPX.out _) ?_
      rintro r w7 ⟨rfl, hq⟩
      have f7 := ((Fr.refl (fun _ => False) w6).drew).next hq
      have hb7 := f7.keep HBB.out (fun h => h)
      have ha7 := f7.keep HAA.out (fun h => h)
      have y0 := cell_of hb7 (i := 0) (v := .int .i64 k) rfl
      have y1 := cell_of hb7 (i := 1) (v := .int .i64 t) rfl
      have y2 := cell_of hb7 (i := 2) (v := .int .i64 v) rfl
      have y3 := cell_of hb7 (i := 3) (v := .int .i64 ei) rfl
      have y4 := cell_of hb7 (i := 4) (v := .int .i64 et) rfl
      have y5 := cell_of hb7 (i := 5) (v := .int .i64 ek) rfl
      have y6 := cell_of hb7 (i := 6) (v := .string (bs ed)) rfl
      have HA7 := Lib.hid ha7
      have F7 := Lib.hid f7
      clear hq hb7 ha7 f7 hHeld HPX
      refine hK.out _ _ ⟨y0, y1, y2, y3, y4, y5, y6⟩ (fun hHeld => ?_)
      clear hK K y0 y1 y2 y3 y4 y5 y6
      try simp only [Act.put, List.setIfInBounds_toArray, List.set_cons_zero, List.set_cons_succ]
      refine tk (i := 8) (o := ⟨some 74, _, _, _, _, _⟩) (v := ?v8_3) rfl (Or.inl ⟨by rfl, ?hy8_3⟩) hHeld ?rest8_3
      case hy8_3 => intro wS hSw; (try dsimp only at hSw); go_simp; (try with_reducible rfl)
      try simp only [Act.put, List.setIfInBounds_toArray, List.set_cons_zero, List.set_cons_succ]
      refine tk (i := 9) (o := ⟨some 75, _, _, _, _, _⟩) (v := ?v9_3) rfl (Or.inl ⟨by rfl, ?hy9_3⟩) hHeld ?rest9_3
      case hy9_3 => intro wS hSw; (try dsimp only at hSw); go_simp; (try with_reducible rfl)
      try simp only [Act.put, List.setIfInBounds_toArray, List.set_cons_zero, List.set_cons_succ]
      refine tk (i := 10) (o := ⟨some 76, _, _, _, _, _⟩) (v := ?v10_3) rfl (Or.inl ⟨by rfl, ?hy10_3⟩) hHeld ?rest10_3
      case hy10_3 => intro wS hSw; (try dsimp only at hSw); go_simp; (try with_reducible rfl)
      try simp only [Act.put, List.setIfInBounds_toArray, List.set_cons_zero, List.set_cons_succ]
      refine tk (i := 11) (o := ⟨some 77, _, _, _, _, _⟩) (v := ?v11_3) rfl (Or.inl ⟨by rfl, ?hy11_3⟩) hHeld ?rest11_3
      case hy11_3 => intro wS hSw; (try dsimp only at hSw); go_simp; (try with_reducible rfl)
      try simp only [Act.put, List.setIfInBounds_toArray, List.set_cons_zero, List.set_cons_succ]
      refine tk (i := 12) (o := ⟨some 78, _, _, _, _, _⟩) (v := ?v12_3) rfl (Or.inl ⟨by rfl, ?hy12_3⟩) hHeld ?rest12_3
      case hy12_3 => intro wS hSw; (try dsimp only at hSw); go_simp; (try with_reducible rfl)
      try simp only [Act.put, List.setIfInBounds_toArray, List.set_cons_zero, List.set_cons_succ]
      refine tk (i := 13) (o := ⟨some 79, _, _, _, _, _⟩) (v := ?v13_3) rfl (Or.inl ⟨by rfl, ?hy13_3⟩) hHeld ?rest13_3
      case hy13_3 => intro wS hSw; (try dsimp only at hSw); go_simp; (try with_reducible rfl)
      try simp only [Act.put, List.setIfInBounds_toArray, List.set_cons_zero, List.set_cons_succ]
      refine tk (i := 14) (o := ⟨some 80, _, _, _, _, _⟩) (v := ?v14_3) rfl (Or.inl ⟨by rfl, ?hy14_3⟩) hHeld ?rest14_3
      case hy14_3 => intro wS hSw; (try dsimp only at hSw); go_simp; (try with_reducible rfl)
      try simp only [Act.put, List.setIfInBounds_toArray, List.set_cons_zero, List.set_cons_succ]
      refine tk (i := 15) (o := ⟨some 81, _, _, _, _, _⟩) (v := ?v15_3) rfl (Or.inl ⟨by rfl, ?hy15_3⟩) hHeld ?rest15_3
      case hy15_3 => intro wS hSw; (try dsimp only at hSw); go_simp; (try with_reducible rfl)
      try simp only [Act.put, List.setIfInBounds_toArray, List.set_cons_zero, List.set_cons_succ]
      refine tk (i := 16) (o := ⟨some 82, _, _, _, _, _⟩) (v := ?v16_3) rfl (Or.inl ⟨by rfl, ?hy16_3⟩) hHeld ?rest16_3
      case hy16_3 => intro wS hSw; (try dsimp only at hSw); go_simp; (try with_reducible rfl)
      try simp only [Act.put, List.setIfInBounds_toArray, List.set_cons_zero, List.set_cons_succ]
      refine tk (i := 17) (o := ⟨some 83, _, _, _, _, _⟩) (v := ?v17_3) rfl (Or.inl ⟨by rfl, ?hy17_3⟩) hHeld ?rest17_3
      case hy17_3 => intro wS hSw; (try dsimp only at hSw); go_simp; (try with_reducible rfl)
      try simp only [Act.put, List.setIfInBounds_toArray, List.set_cons_zero, List.set_cons_succ]
      refine tk (i := 18) (o := ⟨some 84, _, _, _, _, _⟩) (v := ?v18_3) rfl (Or.inl ⟨by rfl, ?hy18_3⟩) hHeld ?rest18_3
      case hy18_3 => intro wS hSw; (try dsimp only at hSw); go_simp; (try with_reducible rfl)
      try simp only [Act.put, List.setIfInBounds_toArray, List.set_cons_zero, List.set_cons_succ]
      refine tk (i := 19) (o := ⟨some 85, _, _, _, _, _⟩) (v := ?v19_3) rfl (Or.inl ⟨by rfl, ?hy19_3⟩) hHeld ?rest19_3
      case hy19_3 => intro wS hSw; (try dsimp only at hSw); go_simp; (try with_reducible rfl)
      try simp only [Act.put, List.setIfInBounds_toArray, List.set_cons_zero, List.set_cons_succ]
      refine tk (i := 20) (o := ⟨some 86, _, _, _, _, _⟩) (v := ?v20_3) rfl (Or.inl ⟨by rfl, ?hy20_3⟩) hHeld ?rest20_3
      case hy20_3 => intro wS hSw; (try dsimp only at hSw); go_simp; (try with_reducible rfl)
      try simp only [Act.put, List.setIfInBounds_toArray, List.set_cons_zero, List.set_cons_succ]
      refine tk (i := 21) (o := ⟨some 87, _, _, _, _, _⟩) (v := ?v21_3) rfl (Or.inl ⟨by rfl, ?hy21_3⟩) hHeld ?rest21_3
      case hy21_3 => intro wS hSw; (try dsimp only at hSw); go_simp; (try with_reducible rfl)
      try simp only [Act.put, List.setIfInBounds_toArray, List.set_cons_zero, List.set_cons_succ]
      refine tk (i := 22) (o := ⟨some 88, _, _, _, _, _⟩) (v := ?v22_3) rfl (Or.inl ⟨by rfl, ?hy22_3⟩) hHeld ?rest22_3
      case hy22_3 => intro wS hSw; (try dsimp only at hSw); go_simp; (try with_reducible rfl)
      try simp only [Act.put, List.setIfInBounds_toArray, List.set_cons_zero, List.set_cons_succ]
      refine tk (i := 23) (o := ⟨some 89, _, _, _, _, _⟩) (v := undef) rfl (Or.inr ⟨by rfl, rfl⟩) hHeld ?rest23_3
      try simp only [Act.put, List.setIfInBounds_toArray, List.set_cons_zero, List.set_cons_succ]
      refine tk (i := 24) (o := ⟨some 90, _, _, _, _, _⟩) (v := undef) rfl (Or.inr ⟨by rfl, rfl⟩) hHeld ?rest24_3
      try simp only [Act.put, List.setIfInBounds_toArray, List.set_cons_zero, List.set_cons_succ]
      refine tk (i := 25) (o := ⟨some 91, _, _, _, _, _⟩) (v := undef) rfl (Or.inr ⟨by rfl, rfl⟩) hHeld ?rest25_3
      try simp only [Act.put, List.setIfInBounds_toArray, List.set_cons_zero, List.set_cons_succ]
      refine tk (i := 26) (o := ⟨some 92, _, _, _, _, _⟩) (v := undef) rfl (Or.inr ⟨by rfl, rfl⟩) hHeld ?rest26_3
      try simp only [Act.put, List.setIfInBounds_toArray, List.set_cons_zero, List.set_cons_succ]
      refine tk (i := 27) (o := ⟨some 93, _, _, _, _, _⟩) (v := undef) rfl (Or.inr ⟨by rfl, rfl⟩) hHeld ?rest27_3
      try simp only [Act.put, List.setIfInBounds_toArray, List.set_cons_zero, List.set_cons_succ]
      refine tk (i := 28) (o := ⟨some 94, _, _, _, _, _⟩) (v := undef) rfl (Or.inr ⟨by rfl, rfl⟩) hHeld ?rest28_3
      try simp only [Act.put, List.setIfInBounds_toArray, List.set_cons_zero, List.set_cons_succ]
      refine tk (i := 29) (o := ⟨some 95, _, _, _, _, _⟩) (v := ?v29_3) rfl (Or.inl ⟨by rfl, ?hy29_3⟩) hHeld ?rest29_3
      case hy29_3 => intro wS hSw; (try dsimp only at hSw); go_simp; (try with_reducible rfl)
      try simp only [Act.put, List.setIfInBounds_toArray, List.set_cons_zero, List.set_cons_succ]
      have ha9 := HA7.out
      have z0 := cell_of ha9 (i := 0) (v := .int .i64 0) rfl
      have z1 := cell_of ha9 (i := 1) (v := .int .i64 0) rfl
      have z2 := cell_of ha9 (i := 2) (v := .int .i64 0) rfl
      have z3 := cell_of ha9 (i := 3) (v := .int .i64 0) rfl
      have z4 := cell_of ha9 (i := 4) (v := .int .i64 0) rfl
      have z5 := cell_of ha9 (i := 5) (v := .int .i64 0) rfl
      have z6 := cell_of ha9 (i := 6) (v := .string ⟨#[]⟩) rfl
      have q0 := free_of 0 ha9
      have q1 := free_of 1 ha9
      have q2 := free_of 2 ha9
      have q3 := free_of 3 ha9
      have q4 := free_of 4 ha9
      have q5 := free_of 5 ha9
      have q6 := free_of 6 ha9
      have hl9 := lt_of_block ha9
      have hAb1 := HNE.out.1
      have hAb2 := HNE.out.2
      clear ha9
      refine wpAnyH_ready (rs := [30]) (by kernel_rfl) (by simp) ?_
      refine AllReadyH.cons rfl (fun K hK => ?_) AllReadyH.nil
      go_simp
      refine hK.out _ _ ?hS30_3 (fun hHeld => ?hR30_3)
      case hS30_3 => (try dsimp only); go_keep
      clear hK K
      try simp only [Act.put, List.setIfInBounds_toArray, List.set_cons_zero, List.set_cons_succ]
      refine tk (i := 31) (o := ⟨some 3, _, _, _, _, _⟩) (v := ?v31_3) rfl (Or.inl ⟨by rfl, ?hy31_3⟩) hHeld ?rest31_3
      case hy31_3 => intro wS hSw; (try dsimp only at hSw); go_simp; (try with_reducible rfl)
      try simp only [Act.put, List.setIfInBounds_toArray, List.set_cons_zero, List.set_cons_succ]
      refine wpAnyH_done (by kernel_rfl) ?_ _
      go_wp2_with fail
      go_meet
      exact ⟨false, rfl, Lib.hid ⟨KN.out, sets7 HA7.out _ _ _ _ _ _ _, frs7 (HF6.out.next F7.out) (.inr (Nat.le_refl _)) _ _ _ _ _ _ _⟩⟩
    ·have KN : Hid (false = true ↔ RecQ.OK ⟨k, t, v, ⟨ei, et, ek, ed⟩⟩ p) := Lib.hid ⟨fun h => (by cases h), fun h => absurd h.t ht0⟩
     have dt : decide (0 ≤ t) = false := decide_eq_false ht0
     clear hcs K0
     refine wp_region_held_drew (S := (fun W => W.cell? ⟨b, 0, none⟩ = some (.int .i64 k) ∧ W.cell? ⟨b, 1, none⟩ = some (.int .i64 t) ∧ W.cell? ⟨b, 2, none⟩ = some (.int .i64 v) ∧ W.cell? ⟨b, 3, none⟩ = some (.int .i64 ei) ∧ W.cell? ⟨b, 4, none⟩ = some (.int .i64 et) ∧ W.cell? ⟨b, 5, none⟩ = some (.int .i64 ek) ∧ W.cell? ⟨b, 6, none⟩ = some (.string (bs ed)))) (by kernel_rfl) ?hS0_4 (fun hHeld => ?hR0_4)
     case hS0_4 => (try dsimp only); go_keep
     clear b0 b1 b2 b3 b4 b5 b6
     refine tk (i := 0) (o := ⟨some 66, _, _, _, _, _⟩) (v := ?v0_4) rfl (Or.inl ⟨by rfl, ?hy0_4⟩) hHeld ?rest0_4
     case hy0_4 => intro wS hSw; (try dsimp only at hSw); go_simp; (try with_reducible rfl)
     try simp only [Act.put, List.setIfInBounds_toArray, List.set_cons_zero, List.set_cons_succ]
     refine tk (i := 1) (o := ⟨some 67, _, _, _, _, _⟩) (v := ?v1_4) rfl (Or.inl ⟨by rfl, ?hy1_4⟩) hHeld ?rest1_4
     case hy1_4 => intro wS hSw; (try dsimp only at hSw); go_simp; (try with_reducible rfl)
     try simp only [Act.put, List.setIfInBounds_toArray, List.set_cons_zero, List.set_cons_succ]
     refine tk (i := 2) (o := ⟨some 68, _, _, _, _, _⟩) (v := ?v2_4) rfl (Or.inl ⟨by rfl, ?hy2_4⟩) hHeld ?rest2_4
     case hy2_4 => intro wS hSw; (try dsimp only at hSw); go_simp; (try with_reducible rfl)
     try simp only [Act.put, List.setIfInBounds_toArray, List.set_cons_zero, List.set_cons_succ]
     refine tk (i := 3) (o := ⟨some 69, _, _, _, _, _⟩) (v := ?v3_4) rfl (Or.inl ⟨by rfl, ?hy3_4⟩) hHeld ?rest3_4
     case hy3_4 => intro wS hSw; (try dsimp only at hSw); go_simp; (try with_reducible rfl)
     try simp only [Act.put, List.setIfInBounds_toArray, List.set_cons_zero, List.set_cons_succ]
     refine tk (i := 4) (o := ⟨some 70, _, _, _, _, _⟩) (v := ?v4_4) rfl (Or.inl ⟨by rfl, ?hy4_4⟩) hHeld ?rest4_4
     case hy4_4 => intro wS hSw; (try dsimp only at hSw); go_simp; (try with_reducible rfl)
     try simp only [Act.put, List.setIfInBounds_toArray, List.set_cons_zero, List.set_cons_succ]
     refine tk (i := 5) (o := ⟨some 71, _, _, _, _, _⟩) (v := ?v5_4) rfl (Or.inl ⟨by rfl, ?hy5_4⟩) hHeld ?rest5_4
     case hy5_4 => intro wS hSw; (try dsimp only at hSw); go_simp; (try with_reducible rfl)
     try simp only [Act.put, List.setIfInBounds_toArray, List.set_cons_zero, List.set_cons_succ]
     refine tk (i := 7) (o := ⟨some 73, _, _, _, _, _⟩) (v := ?v7_4) rfl (Or.inl ⟨by rfl, ?hy7_4⟩) hHeld ?rest7_4
     case hy7_4 => intro wS hSw; (try dsimp only at hSw); go_simp; (try with_reducible rfl)
     try simp only [Act.put, List.setIfInBounds_toArray, List.set_cons_zero, List.set_cons_succ]
     refine wpAnyH_ready (rs := [6]) (by kernel_rfl) (by simp) ?_
     refine AllReadyH.cons rfl (fun K hK => ?_) AllReadyH.nil
     go_simp
     refine Calls.mono (HPX.out _) ?_
     rintro r w7 ⟨rfl, hq⟩
     have f7 := ((Fr.refl (fun _ => False) w6).drew).next hq
     have hb7 := f7.keep HBB.out (fun h => h)
     have ha7 := f7.keep HAA.out (fun h => h)
     have y0 := cell_of hb7 (i := 0) (v := .int .i64 k) rfl
     have y1 := cell_of hb7 (i := 1) (v := .int .i64 t) rfl
     have y2 := cell_of hb7 (i := 2) (v := .int .i64 v) rfl
     have y3 := cell_of hb7 (i := 3) (v := .int .i64 ei) rfl
     have y4 := cell_of hb7 (i := 4) (v := .int .i64 et) rfl
     have y5 := cell_of hb7 (i := 5) (v := .int .i64 ek) rfl
     have y6 := cell_of hb7 (i := 6) (v := .string (bs ed)) rfl
     have HA7 := Lib.hid ha7
     have F7 := Lib.hid f7
     clear hq hb7 ha7 f7 hHeld HPX
     refine hK.out _ _ ⟨y0, y1, y2, y3, y4, y5, y6⟩ (fun hHeld => ?_)
     clear hK K y0 y1 y2 y3 y4 y5 y6
     try simp only [Act.put, List.setIfInBounds_toArray, List.set_cons_zero, List.set_cons_succ]
     refine tk (i := 8) (o := ⟨some 74, _, _, _, _, _⟩) (v := ?v8_4) rfl (Or.inl ⟨by rfl, ?hy8_4⟩) hHeld ?rest8_4
     case hy8_4 => intro wS hSw; (try dsimp only at hSw); go_simp; (try with_reducible rfl)
     try simp only [Act.put, List.setIfInBounds_toArray, List.set_cons_zero, List.set_cons_succ]
     refine tk (i := 9) (o := ⟨some 75, _, _, _, _, _⟩) (v := ?v9_4) rfl (Or.inl ⟨by rfl, ?hy9_4⟩) hHeld ?rest9_4
     case hy9_4 => intro wS hSw; (try dsimp only at hSw); go_simp; (try with_reducible rfl)
     try simp only [Act.put, List.setIfInBounds_toArray, List.set_cons_zero, List.set_cons_succ]
     refine tk (i := 10) (o := ⟨some 76, _, _, _, _, _⟩) (v := ?v10_4) rfl (Or.inl ⟨by rfl, ?hy10_4⟩) hHeld ?rest10_4
     case hy10_4 => intro wS hSw; (try dsimp only at hSw); go_simp; (try with_reducible rfl)
     try simp only [Act.put, List.setIfInBounds_toArray, List.set_cons_zero, List.set_cons_succ]
     refine tk (i := 11) (o := ⟨some 77, _, _, _, _, _⟩) (v := ?v11_4) rfl (Or.inl ⟨by rfl, ?hy11_4⟩) hHeld ?rest11_4
     case hy11_4 => intro wS hSw; (try dsimp only at hSw); go_simp; (try with_reducible rfl)
     try simp only [Act.put, List.setIfInBounds_toArray, List.set_cons_zero, List.set_cons_succ]
     refine tk (i := 12) (o := ⟨some 78, _, _, _, _, _⟩) (v := ?v12_4) rfl (Or.inl ⟨by rfl, ?hy12_4⟩) hHeld ?rest12_4
     case hy12_4 => intro wS hSw; (try dsimp only at hSw); go_simp; (try with_reducible rfl)
     try simp only [Act.put, List.setIfInBounds_toArray, List.set_cons_zero, List.set_cons_succ]
     refine tk (i := 13) (o := ⟨some 79, _, _, _, _, _⟩) (v := ?v13_4) rfl (Or.inl ⟨by rfl, ?hy13_4⟩) hHeld ?rest13_4
     case hy13_4 => intro wS hSw; (try dsimp only at hSw); go_simp; (try with_reducible rfl)
     try simp only [Act.put, List.setIfInBounds_toArray, List.set_cons_zero, List.set_cons_succ]
     refine tk (i := 14) (o := ⟨some 80, _, _, _, _, _⟩) (v := ?v14_4) rfl (Or.inl ⟨by rfl, ?hy14_4⟩) hHeld ?rest14_4
     case hy14_4 => intro wS hSw; (try dsimp only at hSw); go_simp; (try with_reducible rfl)
     try simp only [Act.put, List.setIfInBounds_toArray, List.set_cons_zero, List.set_cons_succ]
     refine tk (i := 15) (o := ⟨some 81, _, _, _, _, _⟩) (v := ?v15_4) rfl (Or.inl ⟨by rfl, ?hy15_4⟩) hHeld ?rest15_4
     case hy15_4 => intro wS hSw; (try dsimp only at hSw); go_simp; (try with_reducible rfl)
     try simp only [Act.put, List.setIfInBounds_toArray, List.set_cons_zero, List.set_cons_succ]
     refine tk (i := 16) (o := ⟨some 82, _, _, _, _, _⟩) (v := ?v16_4) rfl (Or.inl ⟨by rfl, ?hy16_4⟩) hHeld ?rest16_4
     case hy16_4 => intro wS hSw; (try dsimp only at hSw); go_simp; (try with_reducible rfl)
     try simp only [Act.put, List.setIfInBounds_toArray, List.set_cons_zero, List.set_cons_succ]
     refine tk (i := 17) (o := ⟨some 83, _, _, _, _, _⟩) (v := undef) rfl (Or.inr ⟨by rfl, rfl⟩) hHeld ?rest17_4
     try simp only [Act.put, List.setIfInBounds_toArray, List.set_cons_zero, List.set_cons_succ]
     refine tk (i := 18) (o := ⟨some 84, _, _, _, _, _⟩) (v := undef) rfl (Or.inr ⟨by rfl, rfl⟩) hHeld ?rest18_4
     try simp only [Act.put, List.setIfInBounds_toArray, List.set_cons_zero, List.set_cons_succ]
     refine tk (i := 19) (o := ⟨some 85, _, _, _, _, _⟩) (v := undef) rfl (Or.inr ⟨by rfl, rfl⟩) hHeld ?rest19_4
     try simp only [Act.put, List.setIfInBounds_toArray, List.set_cons_zero, List.set_cons_succ]
     refine tk (i := 20) (o := ⟨some 86, _, _, _, _, _⟩) (v := undef) rfl (Or.inr ⟨by rfl, rfl⟩) hHeld ?rest20_4
     try simp only [Act.put, List.setIfInBounds_toArray, List.set_cons_zero, List.set_cons_succ]
     refine tk (i := 21) (o := ⟨some 87, _, _, _, _, _⟩) (v := ?v21_4) rfl (Or.inl ⟨by rfl, ?hy21_4⟩) hHeld ?rest21_4
     case hy21_4 => intro wS hSw; (try dsimp only at hSw); go_simp; (try with_reducible rfl)
     try simp only [Act.put, List.setIfInBounds_toArray, List.set_cons_zero, List.set_cons_succ]
     refine tk (i := 22) (o := ⟨some 88, _, _, _, _, _⟩) (v := ?v22_4) rfl (Or.inl ⟨by rfl, ?hy22_4⟩) hHeld ?rest22_4
     case hy22_4 => intro wS hSw; (try dsimp only at hSw); go_simp; (try with_reducible rfl)
     try simp only [Act.put, List.setIfInBounds_toArray, List.set_cons_zero, List.set_cons_succ]
     refine tk (i := 23) (o := ⟨some 89, _, _, _, _, _⟩) (v := undef) rfl (Or.inr ⟨by rfl, rfl⟩) hHeld ?rest23_4
     try simp only [Act.put, List.setIfInBounds_toArray, List.set_cons_zero, List.set_cons_succ]
     refine tk (i := 24) (o := ⟨some 90, _, _, _, _, _⟩) (v := undef) rfl (Or.inr ⟨by rfl, rfl⟩) hHeld ?rest24_4
     try simp only [Act.put, List.setIfInBounds_toArray, List.set_cons_zero, List.set_cons_succ]
     refine tk (i := 25) (o := ⟨some 91, _, _, _, _, _⟩) (v := undef) rfl (Or.inr ⟨by rfl, rfl⟩) hHeld ?rest25_4
     try simp only [Act.put, List.setIfInBounds_toArray, List.set_cons_zero, List.set_cons_succ]
     refine tk (i := 26) (o := ⟨some 92, _, _, _, _, _⟩) (v := undef) rfl (Or.inr ⟨by rfl, rfl⟩) hHeld ?rest26_4
     try simp only [Act.put, List.setIfInBounds_toArray, List.set_cons_zero, List.set_cons_succ]
     refine tk (i := 27) (o := ⟨some 93, _, _, _, _, _⟩) (v := undef) rfl (Or.inr ⟨by rfl, rfl⟩) hHeld ?rest27_4
     try simp only [Act.put, List.setIfInBounds_toArray, List.set_cons_zero, List.set_cons_succ]
     refine tk (i := 28) (o := ⟨some 94, _, _, _, _, _⟩) (v := undef) rfl (Or.inr ⟨by rfl, rfl⟩) hHeld ?rest28_4
     try simp only [Act.put, List.setIfInBounds_toArray, List.set_cons_zero, List.set_cons_succ]
     refine tk (i := 29) (o := ⟨some 95, _, _, _, _, _⟩) (v := ?v29_4) rfl (Or.inl ⟨by rfl, ?hy29_4⟩) hHeld ?rest29_4
     case hy29_4 => intro wS hSw; (try dsimp only at hSw); go_simp; (try with_reducible rfl)
     try simp only [Act.put, List.setIfInBounds_toArray, List.set_cons_zero, List.set_cons_succ]
     have ha9 := HA7.out
     have z0 := cell_of ha9 (i := 0) (v := .int .i64 0) rfl
     have z1 := cell_of ha9 (i := 1) (v := .int .i64 0) rfl
     have z2 := cell_of ha9 (i := 2) (v := .int .i64 0) rfl
     have z3 := cell_of ha9 (i := 3) (v := .int .i64 0) rfl
     have z4 := cell_of ha9 (i := 4) (v := .int .i64 0) rfl
     have z5 := cell_of ha9 (i := 5) (v := .int .i64 0) rfl
     have z6 := cell_of ha9 (i := 6) (v := .string ⟨#[]⟩) rfl
     have q0 := free_of 0 ha9
     have q1 := free_of 1 ha9
     have q2 := free_of 2 ha9
     have q3 := free_of 3 ha9
     have q4 := free_of 4 ha9
     have q5 := free_of 5 ha9
     have q6 := free_of 6 ha9
     have hl9 := lt_of_block ha9
     have hAb1 := HNE.out.1
     have hAb2 := HNE.out.2
     clear ha9
     refine wpAnyH_ready (rs := [30]) (by kernel_rfl) (by simp) ?_
     refine AllReadyH.cons rfl (fun K hK => ?_) AllReadyH.nil
     go_simp
     refine hK.out _ _ ?hS30_4 (fun hHeld => ?hR30_4)
     case hS30_4 => (try dsimp only); go_keep
     clear hK K
     try simp only [Act.put, List.setIfInBounds_toArray, List.set_cons_zero, List.set_cons_succ]
     refine tk (i := 31) (o := ⟨some 3, _, _, _, _, _⟩) (v := ?v31_4) rfl (Or.inl ⟨by rfl, ?hy31_4⟩) hHeld ?rest31_4
     case hy31_4 => intro wS hSw; (try dsimp only at hSw); go_simp; (try with_reducible rfl)
     try simp only [Act.put, List.setIfInBounds_toArray, List.set_cons_zero, List.set_cons_succ]
     refine wpAnyH_done (by kernel_rfl) ?_ _
     go_wp2_with fail
     go_meet
     exact ⟨false, rfl, Lib.hid ⟨KN.out, sets7 HA7.out _ _ _ _ _ _ _, frs7 (HF6.out.next F7.out) (.inr (Nat.le_refl _)) _ _ _ _ _ _ _⟩⟩
   ·have KN : Hid (false = true ↔ RecQ.OK ⟨k, t, v, ⟨ei, et, ek, ed⟩⟩ s) := Lib.hid ⟨fun h => (by cases h), fun h => absurd h (K0.out hps)⟩
    have dp : ((bs p).toList == (bs s).toList) = false := by rw [bs_toList, bs_toList]; simpa using hps
    clear hps hcs K0
    refine wp_region_held_drew (S := (fun W => W.cell? ⟨b, 0, none⟩ = some (.int .i64 k) ∧ W.cell? ⟨b, 1, none⟩ = some (.int .i64 t) ∧ W.cell? ⟨b, 2, none⟩ = some (.int .i64 v) ∧ W.cell? ⟨b, 3, none⟩ = some (.int .i64 ei) ∧ W.cell? ⟨b, 4, none⟩ = some (.int .i64 et) ∧ W.cell? ⟨b, 5, none⟩ = some (.int .i64 ek) ∧ W.cell? ⟨b, 6, none⟩ = some (.string (bs ed)))) (by kernel_rfl) ?hS0_5 (fun hHeld => ?hR0_5)
    case hS0_5 => (try dsimp only); go_keep
    clear b0 b1 b2 b3 b4 b5 b6
    refine tk (i := 0) (o := ⟨some 66, _, _, _, _, _⟩) (v := ?v0_5) rfl (Or.inl ⟨by rfl, ?hy0_5⟩) hHeld ?rest0_5
    case hy0_5 => intro wS hSw; (try dsimp only at hSw); go_simp; (try with_reducible rfl)
    try simp only [Act.put, List.setIfInBounds_toArray, List.set_cons_zero, List.set_cons_succ]
    refine tk (i := 1) (o := ⟨some 67, _, _, _, _, _⟩) (v := ?v1_5) rfl (Or.inl ⟨by rfl, ?hy1_5⟩) hHeld ?rest1_5
    case hy1_5 => intro wS hSw; (try dsimp only at hSw); go_simp; (try with_reducible rfl)
    try simp only [Act.put, List.setIfInBounds_toArray, List.set_cons_zero, List.set_cons_succ]
    refine tk (i := 2) (o := ⟨some 68, _, _, _, _, _⟩) (v := ?v2_5) rfl (Or.inl ⟨by rfl, ?hy2_5⟩) hHeld ?rest2_5
    case hy2_5 => intro wS hSw; (try dsimp only at hSw); go_simp; (try with_reducible rfl)
    try simp only [Act.put, List.setIfInBounds_toArray, List.set_cons_zero, List.set_cons_succ]
    refine tk (i := 3) (o := ⟨some 69, _, _, _, _, _⟩) (v := ?v3_5) rfl (Or.inl ⟨by rfl, ?hy3_5⟩) hHeld ?rest3_5
    case hy3_5 => intro wS hSw; (try dsimp only at hSw); go_simp; (try with_reducible rfl)
    try simp only [Act.put, List.setIfInBounds_toArray, List.set_cons_zero, List.set_cons_succ]
    refine tk (i := 4) (o := ⟨some 70, _, _, _, _, _⟩) (v := ?v4_5) rfl (Or.inl ⟨by rfl, ?hy4_5⟩) hHeld ?rest4_5
    case hy4_5 => intro wS hSw; (try dsimp only at hSw); go_simp; (try with_reducible rfl)
    try simp only [Act.put, List.setIfInBounds_toArray, List.set_cons_zero, List.set_cons_succ]
    refine tk (i := 5) (o := ⟨some 71, _, _, _, _, _⟩) (v := ?v5_5) rfl (Or.inl ⟨by rfl, ?hy5_5⟩) hHeld ?rest5_5
    case hy5_5 => intro wS hSw; (try dsimp only at hSw); go_simp; (try with_reducible rfl)
    try simp only [Act.put, List.setIfInBounds_toArray, List.set_cons_zero, List.set_cons_succ]
    refine tk (i := 7) (o := ⟨some 73, _, _, _, _, _⟩) (v := ?v7_5) rfl (Or.inl ⟨by rfl, ?hy7_5⟩) hHeld ?rest7_5
    case hy7_5 => intro wS hSw; (try dsimp only at hSw); go_simp; (try with_reducible rfl)
    try simp only [Act.put, List.setIfInBounds_toArray, List.set_cons_zero, List.set_cons_succ]
    refine wpAnyH_ready (rs := [6]) (by kernel_rfl) (by simp) ?_
    refine AllReadyH.cons rfl (fun K hK => ?_) AllReadyH.nil
    go_simp
    refine Calls.mono (HPX.out _) ?_
    rintro r w7 ⟨rfl, hq⟩
    have f7 := ((Fr.refl (fun _ => False) w6).drew).next hq
    have hb7 := f7.keep HBB.out (fun h => h)
    have ha7 := f7.keep HAA.out (fun h => h)
    have y0 := cell_of hb7 (i := 0) (v := .int .i64 k) rfl
    have y1 := cell_of hb7 (i := 1) (v := .int .i64 t) rfl
    have y2 := cell_of hb7 (i := 2) (v := .int .i64 v) rfl
    have y3 := cell_of hb7 (i := 3) (v := .int .i64 ei) rfl
    have y4 := cell_of hb7 (i := 4) (v := .int .i64 et) rfl
    have y5 := cell_of hb7 (i := 5) (v := .int .i64 ek) rfl
    have y6 := cell_of hb7 (i := 6) (v := .string (bs ed)) rfl
    have HA7 := Lib.hid ha7
    have F7 := Lib.hid f7
    clear hq hb7 ha7 f7 hHeld HPX
    refine hK.out _ _ ⟨y0, y1, y2, y3, y4, y5, y6⟩ (fun hHeld => ?_)
    clear hK K y0 y1 y2 y3 y4 y5 y6
    try simp only [Act.put, List.setIfInBounds_toArray, List.set_cons_zero, List.set_cons_succ]
    refine tk (i := 8) (o := ⟨some 74, _, _, _, _, _⟩) (v := ?v8_5) rfl (Or.inl ⟨by rfl, ?hy8_5⟩) hHeld ?rest8_5
    case hy8_5 => intro wS hSw; (try dsimp only at hSw); go_simp; (try with_reducible rfl)
    try simp only [Act.put, List.setIfInBounds_toArray, List.set_cons_zero, List.set_cons_succ]
    refine tk (i := 9) (o := ⟨some 75, _, _, _, _, _⟩) (v := ?v9_5) rfl (Or.inl ⟨by rfl, ?hy9_5⟩) hHeld ?rest9_5
    case hy9_5 => intro wS hSw; (try dsimp only at hSw); go_simp; (try with_reducible rfl)
    try simp only [Act.put, List.setIfInBounds_toArray, List.set_cons_zero, List.set_cons_succ]
    refine tk (i := 10) (o := ⟨some 76, _, _, _, _, _⟩) (v := ?v10_5) rfl (Or.inl ⟨by rfl, ?hy10_5⟩) hHeld ?rest10_5
    case hy10_5 => intro wS hSw; (try dsimp only at hSw); go_simp; (try with_reducible rfl)
    try simp only [Act.put, List.setIfInBounds_toArray, List.set_cons_zero, List.set_cons_succ]
    refine tk (i := 11) (o := ⟨some 77, _, _, _, _, _⟩) (v := undef) rfl (Or.inr ⟨by rfl, rfl⟩) hHeld ?rest11_5
    try simp only [Act.put, List.setIfInBounds_toArray, List.set_cons_zero, List.set_cons_succ]
    refine tk (i := 12) (o := ⟨some 78, _, _, _, _, _⟩) (v := undef) rfl (Or.inr ⟨by rfl, rfl⟩) hHeld ?rest12_5
    try simp only [Act.put, List.setIfInBounds_toArray, List.set_cons_zero, List.set_cons_succ]
    refine tk (i := 13) (o := ⟨some 79, _, _, _, _, _⟩) (v := undef) rfl (Or.inr ⟨by rfl, rfl⟩) hHeld ?rest13_5
    try simp only [Act.put, List.setIfInBounds_toArray, List.set_cons_zero, List.set_cons_succ]
    refine tk (i := 14) (o := ⟨some 80, _, _, _, _, _⟩) (v := undef) rfl (Or.inr ⟨by rfl, rfl⟩) hHeld ?rest14_5
    try simp only [Act.put, List.setIfInBounds_toArray, List.set_cons_zero, List.set_cons_succ]
    refine tk (i := 15) (o := ⟨some 81, _, _, _, _, _⟩) (v := ?v15_5) rfl (Or.inl ⟨by rfl, ?hy15_5⟩) hHeld ?rest15_5
    case hy15_5 => intro wS hSw; (try dsimp only at hSw); go_simp; (try with_reducible rfl)
    try simp only [Act.put, List.setIfInBounds_toArray, List.set_cons_zero, List.set_cons_succ]
    refine tk (i := 16) (o := ⟨some 82, _, _, _, _, _⟩) (v := ?v16_5) rfl (Or.inl ⟨by rfl, ?hy16_5⟩) hHeld ?rest16_5
    case hy16_5 => intro wS hSw; (try dsimp only at hSw); go_simp; (try with_reducible rfl)
    try simp only [Act.put, List.setIfInBounds_toArray, List.set_cons_zero, List.set_cons_succ]
    refine tk (i := 17) (o := ⟨some 83, _, _, _, _, _⟩) (v := undef) rfl (Or.inr ⟨by rfl, rfl⟩) hHeld ?rest17_5
    try simp only [Act.put, List.setIfInBounds_toArray, List.set_cons_zero, List.set_cons_succ]
    refine tk (i := 18) (o := ⟨some 84, _, _, _, _, _⟩) (v := undef) rfl (Or.inr ⟨by rfl, rfl⟩) hHeld ?rest18_5
    try simp only [Act.put, List.setIfInBounds_toArray, List.set_cons_zero, List.set_cons_succ]
    refine tk (i := 19) (o := ⟨some 85, _, _, _, _, _⟩) (v := undef) rfl (Or.inr ⟨by rfl, rfl⟩) hHeld ?rest19_5
    try simp only [Act.put, List.setIfInBounds_toArray, List.set_cons_zero, List.set_cons_succ]
    refine tk (i := 20) (o := ⟨some 86, _, _, _, _, _⟩) (v := undef) rfl (Or.inr ⟨by rfl, rfl⟩) hHeld ?rest20_5
    try simp only [Act.put, List.setIfInBounds_toArray, List.set_cons_zero, List.set_cons_succ]
    refine tk (i := 21) (o := ⟨some 87, _, _, _, _, _⟩) (v := ?v21_5) rfl (Or.inl ⟨by rfl, ?hy21_5⟩) hHeld ?rest21_5
    case hy21_5 => intro wS hSw; (try dsimp only at hSw); go_simp; (try with_reducible rfl)
    try simp only [Act.put, List.setIfInBounds_toArray, List.set_cons_zero, List.set_cons_succ]
    refine tk (i := 22) (o := ⟨some 88, _, _, _, _, _⟩) (v := ?v22_5) rfl (Or.inl ⟨by rfl, ?hy22_5⟩) hHeld ?rest22_5
    case hy22_5 => intro wS hSw; (try dsimp only at hSw); go_simp; (try with_reducible rfl)
    try simp only [Act.put, List.setIfInBounds_toArray, List.set_cons_zero, List.set_cons_succ]
    refine tk (i := 23) (o := ⟨some 89, _, _, _, _, _⟩) (v := undef) rfl (Or.inr ⟨by rfl, rfl⟩) hHeld ?rest23_5
    try simp only [Act.put, List.setIfInBounds_toArray, List.set_cons_zero, List.set_cons_succ]
    refine tk (i := 24) (o := ⟨some 90, _, _, _, _, _⟩) (v := undef) rfl (Or.inr ⟨by rfl, rfl⟩) hHeld ?rest24_5
    try simp only [Act.put, List.setIfInBounds_toArray, List.set_cons_zero, List.set_cons_succ]
    refine tk (i := 25) (o := ⟨some 91, _, _, _, _, _⟩) (v := undef) rfl (Or.inr ⟨by rfl, rfl⟩) hHeld ?rest25_5
    try simp only [Act.put, List.setIfInBounds_toArray, List.set_cons_zero, List.set_cons_succ]
    refine tk (i := 26) (o := ⟨some 92, _, _, _, _, _⟩) (v := undef) rfl (Or.inr ⟨by rfl, rfl⟩) hHeld ?rest26_5
    try simp only [Act.put, List.setIfInBounds_toArray, List.set_cons_zero, List.set_cons_succ]
    refine tk (i := 27) (o := ⟨some 93, _, _, _, _, _⟩) (v := undef) rfl (Or.inr ⟨by rfl, rfl⟩) hHeld ?rest27_5
    try simp only [Act.put, List.setIfInBounds_toArray, List.set_cons_zero, List.set_cons_succ]
    refine tk (i := 28) (o := ⟨some 94, _, _, _, _, _⟩) (v := undef) rfl (Or.inr ⟨by rfl, rfl⟩) hHeld ?rest28_5
    try simp only [Act.put, List.setIfInBounds_toArray, List.set_cons_zero, List.set_cons_succ]
    refine tk (i := 29) (o := ⟨some 95, _, _, _, _, _⟩) (v := ?v29_5) rfl (Or.inl ⟨by rfl, ?hy29_5⟩) hHeld ?rest29_5
    case hy29_5 => intro wS hSw; (try dsimp only at hSw); go_simp; (try with_reducible rfl)
    try simp only [Act.put, List.setIfInBounds_toArray, List.set_cons_zero, List.set_cons_succ]
    have ha9 := HA7.out
    have z0 := cell_of ha9 (i := 0) (v := .int .i64 0) rfl
    have z1 := cell_of ha9 (i := 1) (v := .int .i64 0) rfl
    have z2 := cell_of ha9 (i := 2) (v := .int .i64 0) rfl
    have z3 := cell_of ha9 (i := 3) (v := .int .i64 0) rfl
    have z4 := cell_of ha9 (i := 4) (v := .int .i64 0) rfl
    have z5 := cell_of ha9 (i := 5) (v := .int .i64 0) rfl
    have z6 := cell_of ha9 (i := 6) (v := .string ⟨#[]⟩) rfl
    have q0 := free_of 0 ha9
    have q1 := free_of 1 ha9
    have q2 := free_of 2 ha9
    have q3 := free_of 3 ha9
    have q4 := free_of 4 ha9
    have q5 := free_of 5 ha9
    have q6 := free_of 6 ha9
    have hl9 := lt_of_block ha9
    have hAb1 := HNE.out.1
    have hAb2 := HNE.out.2
    clear ha9
    refine wpAnyH_ready (rs := [30]) (by kernel_rfl) (by simp) ?_
    refine AllReadyH.cons rfl (fun K hK => ?_) AllReadyH.nil
    go_simp
    refine hK.out _ _ ?hS30_5 (fun hHeld => ?hR30_5)
    case hS30_5 => (try dsimp only); go_keep
    clear hK K
    try simp only [Act.put, List.setIfInBounds_toArray, List.set_cons_zero, List.set_cons_succ]
    refine tk (i := 31) (o := ⟨some 3, _, _, _, _, _⟩) (v := ?v31_5) rfl (Or.inl ⟨by rfl, ?hy31_5⟩) hHeld ?rest31_5
    case hy31_5 => intro wS hSw; (try dsimp only at hSw); go_simp; (try with_reducible rfl)
    try simp only [Act.put, List.setIfInBounds_toArray, List.set_cons_zero, List.set_cons_succ]
    refine wpAnyH_done (by kernel_rfl) ?_ _
    go_wp2_with fail
    go_meet
    exact ⟨false, rfl, Lib.hid ⟨KN.out, sets7 HA7.out _ _ _ _ _ _ _, frs7 (HF6.out.next F7.out) (.inr (Nat.le_refl _)) _ _ _ _ _ _ _⟩⟩
  ·have KN : Hid (false = true ↔ RecQ.OK ⟨k, t, v, ⟨ei, et, ek, ed⟩⟩ s) := Lib.hid ⟨fun h => (by cases h), fun h => absurd h.k hk0⟩
   have dk : decide (0 < k) = false := decide_eq_false hk0
   clear hcs K0
   refine wp_region_held_drew (S := (fun W => W.cell? ⟨b, 0, none⟩ = some (.int .i64 k) ∧ W.cell? ⟨b, 1, none⟩ = some (.int .i64 t) ∧ W.cell? ⟨b, 2, none⟩ = some (.int .i64 v) ∧ W.cell? ⟨b, 3, none⟩ = some (.int .i64 ei) ∧ W.cell? ⟨b, 4, none⟩ = some (.int .i64 et) ∧ W.cell? ⟨b, 5, none⟩ = some (.int .i64 ek) ∧ W.cell? ⟨b, 6, none⟩ = some (.string (bs ed)))) (by kernel_rfl) ?hS0_6 (fun hHeld => ?hR0_6)
   case hS0_6 => (try dsimp only); go_keep
   clear b0 b1 b2 b3 b4 b5 b6
   refine tk (i := 0) (o := ⟨some 66, _, _, _, _, _⟩) (v := ?v0_6) rfl (Or.inl ⟨by rfl, ?hy0_6⟩) hHeld ?rest0_6
   case hy0_6 => intro wS hSw; (try dsimp only at hSw); go_simp; (try with_reducible rfl)
   try simp only [Act.put, List.setIfInBounds_toArray, List.set_cons_zero, List.set_cons_succ]
   refine tk (i := 1) (o := ⟨some 67, _, _, _, _, _⟩) (v := ?v1_6) rfl (Or.inl ⟨by rfl, ?hy1_6⟩) hHeld ?rest1_6
   case hy1_6 => intro wS hSw; (try dsimp only at hSw); go_simp; (try with_reducible rfl)
   try simp only [Act.put, List.setIfInBounds_toArray, List.set_cons_zero, List.set_cons_succ]
   refine tk (i := 2) (o := ⟨some 68, _, _, _, _, _⟩) (v := ?v2_6) rfl (Or.inl ⟨by rfl, ?hy2_6⟩) hHeld ?rest2_6
   case hy2_6 => intro wS hSw; (try dsimp only at hSw); go_simp; (try with_reducible rfl)
   try simp only [Act.put, List.setIfInBounds_toArray, List.set_cons_zero, List.set_cons_succ]
   refine tk (i := 3) (o := ⟨some 69, _, _, _, _, _⟩) (v := ?v3_6) rfl (Or.inl ⟨by rfl, ?hy3_6⟩) hHeld ?rest3_6
   case hy3_6 => intro wS hSw; (try dsimp only at hSw); go_simp; (try with_reducible rfl)
   try simp only [Act.put, List.setIfInBounds_toArray, List.set_cons_zero, List.set_cons_succ]
   refine tk (i := 4) (o := ⟨some 70, _, _, _, _, _⟩) (v := ?v4_6) rfl (Or.inl ⟨by rfl, ?hy4_6⟩) hHeld ?rest4_6
   case hy4_6 => intro wS hSw; (try dsimp only at hSw); go_simp; (try with_reducible rfl)
   try simp only [Act.put, List.setIfInBounds_toArray, List.set_cons_zero, List.set_cons_succ]
   refine tk (i := 5) (o := ⟨some 71, _, _, _, _, _⟩) (v := undef) rfl (Or.inr ⟨by rfl, rfl⟩) hHeld ?rest5_6
   try simp only [Act.put, List.setIfInBounds_toArray, List.set_cons_zero, List.set_cons_succ]
   refine tk (i := 7) (o := ⟨some 73, _, _, _, _, _⟩) (v := undef) rfl (Or.inr ⟨by rfl, rfl⟩) hHeld ?rest7_6
   try simp only [Act.put, List.setIfInBounds_toArray, List.set_cons_zero, List.set_cons_succ]
   refine wpAnyH_ready (rs := [6]) (by kernel_rfl) (by simp) ?_
   refine AllReadyH.cons rfl (fun K hK => ?_) AllReadyH.nil
   go_simp
   refine hK.out _ _ hHeld (fun hHeld => ?_)
   clear hK K
   try simp only [Act.put, List.setIfInBounds_toArray, List.set_cons_zero, List.set_cons_succ]
   refine tk (i := 8) (o := ⟨some 74, _, _, _, _, _⟩) (v := undef) rfl (Or.inr ⟨by rfl, rfl⟩) hHeld ?rest8_6
   try simp only [Act.put, List.setIfInBounds_toArray, List.set_cons_zero, List.set_cons_succ]
   refine tk (i := 9) (o := ⟨some 75, _, _, _, _, _⟩) (v := ?v9_6) rfl (Or.inl ⟨by rfl, ?hy9_6⟩) hHeld ?rest9_6
   case hy9_6 => intro wS hSw; (try dsimp only at hSw); go_simp; (try with_reducible rfl)
   try simp only [Act.put, List.setIfInBounds_toArray, List.set_cons_zero, List.set_cons_succ]
   refine tk (i := 10) (o := ⟨some 76, _, _, _, _, _⟩) (v := ?v10_6) rfl (Or.inl ⟨by rfl, ?hy10_6⟩) hHeld ?rest10_6
   case hy10_6 => intro wS hSw; (try dsimp only at hSw); go_simp; (try with_reducible rfl)
   try simp only [Act.put, List.setIfInBounds_toArray, List.set_cons_zero, List.set_cons_succ]
   refine tk (i := 11) (o := ⟨some 77, _, _, _, _, _⟩) (v := undef) rfl (Or.inr ⟨by rfl, rfl⟩) hHeld ?rest11_6
   try simp only [Act.put, List.setIfInBounds_toArray, List.set_cons_zero, List.set_cons_succ]
   refine tk (i := 12) (o := ⟨some 78, _, _, _, _, _⟩) (v := undef) rfl (Or.inr ⟨by rfl, rfl⟩) hHeld ?rest12_6
   try simp only [Act.put, List.setIfInBounds_toArray, List.set_cons_zero, List.set_cons_succ]
   refine tk (i := 13) (o := ⟨some 79, _, _, _, _, _⟩) (v := undef) rfl (Or.inr ⟨by rfl, rfl⟩) hHeld ?rest13_6
   try simp only [Act.put, List.setIfInBounds_toArray, List.set_cons_zero, List.set_cons_succ]
   refine tk (i := 14) (o := ⟨some 80, _, _, _, _, _⟩) (v := undef) rfl (Or.inr ⟨by rfl, rfl⟩) hHeld ?rest14_6
   try simp only [Act.put, List.setIfInBounds_toArray, List.set_cons_zero, List.set_cons_succ]
   refine tk (i := 15) (o := ⟨some 81, _, _, _, _, _⟩) (v := ?v15_6) rfl (Or.inl ⟨by rfl, ?hy15_6⟩) hHeld ?rest15_6
   case hy15_6 => intro wS hSw; (try dsimp only at hSw); go_simp; (try with_reducible rfl)
   try simp only [Act.put, List.setIfInBounds_toArray, List.set_cons_zero, List.set_cons_succ]
   refine tk (i := 16) (o := ⟨some 82, _, _, _, _, _⟩) (v := ?v16_6) rfl (Or.inl ⟨by rfl, ?hy16_6⟩) hHeld ?rest16_6
   case hy16_6 => intro wS hSw; (try dsimp only at hSw); go_simp; (try with_reducible rfl)
   try simp only [Act.put, List.setIfInBounds_toArray, List.set_cons_zero, List.set_cons_succ]
   refine tk (i := 17) (o := ⟨some 83, _, _, _, _, _⟩) (v := undef) rfl (Or.inr ⟨by rfl, rfl⟩) hHeld ?rest17_6
   try simp only [Act.put, List.setIfInBounds_toArray, List.set_cons_zero, List.set_cons_succ]
   refine tk (i := 18) (o := ⟨some 84, _, _, _, _, _⟩) (v := undef) rfl (Or.inr ⟨by rfl, rfl⟩) hHeld ?rest18_6
   try simp only [Act.put, List.setIfInBounds_toArray, List.set_cons_zero, List.set_cons_succ]
   refine tk (i := 19) (o := ⟨some 85, _, _, _, _, _⟩) (v := undef) rfl (Or.inr ⟨by rfl, rfl⟩) hHeld ?rest19_6
   try simp only [Act.put, List.setIfInBounds_toArray, List.set_cons_zero, List.set_cons_succ]
   refine tk (i := 20) (o := ⟨some 86, _, _, _, _, _⟩) (v := undef) rfl (Or.inr ⟨by rfl, rfl⟩) hHeld ?rest20_6
   try simp only [Act.put, List.setIfInBounds_toArray, List.set_cons_zero, List.set_cons_succ]
   refine tk (i := 21) (o := ⟨some 87, _, _, _, _, _⟩) (v := ?v21_6) rfl (Or.inl ⟨by rfl, ?hy21_6⟩) hHeld ?rest21_6
   case hy21_6 => intro wS hSw; (try dsimp only at hSw); go_simp; (try with_reducible rfl)
   try simp only [Act.put, List.setIfInBounds_toArray, List.set_cons_zero, List.set_cons_succ]
   refine tk (i := 22) (o := ⟨some 88, _, _, _, _, _⟩) (v := ?v22_6) rfl (Or.inl ⟨by rfl, ?hy22_6⟩) hHeld ?rest22_6
   case hy22_6 => intro wS hSw; (try dsimp only at hSw); go_simp; (try with_reducible rfl)
   try simp only [Act.put, List.setIfInBounds_toArray, List.set_cons_zero, List.set_cons_succ]
   refine tk (i := 23) (o := ⟨some 89, _, _, _, _, _⟩) (v := undef) rfl (Or.inr ⟨by rfl, rfl⟩) hHeld ?rest23_6
   try simp only [Act.put, List.setIfInBounds_toArray, List.set_cons_zero, List.set_cons_succ]
   refine tk (i := 24) (o := ⟨some 90, _, _, _, _, _⟩) (v := undef) rfl (Or.inr ⟨by rfl, rfl⟩) hHeld ?rest24_6
   try simp only [Act.put, List.setIfInBounds_toArray, List.set_cons_zero, List.set_cons_succ]
   refine tk (i := 25) (o := ⟨some 91, _, _, _, _, _⟩) (v := undef) rfl (Or.inr ⟨by rfl, rfl⟩) hHeld ?rest25_6
   try simp only [Act.put, List.setIfInBounds_toArray, List.set_cons_zero, List.set_cons_succ]
   refine tk (i := 26) (o := ⟨some 92, _, _, _, _, _⟩) (v := undef) rfl (Or.inr ⟨by rfl, rfl⟩) hHeld ?rest26_6
   try simp only [Act.put, List.setIfInBounds_toArray, List.set_cons_zero, List.set_cons_succ]
   refine tk (i := 27) (o := ⟨some 93, _, _, _, _, _⟩) (v := undef) rfl (Or.inr ⟨by rfl, rfl⟩) hHeld ?rest27_6
   try simp only [Act.put, List.setIfInBounds_toArray, List.set_cons_zero, List.set_cons_succ]
   refine tk (i := 28) (o := ⟨some 94, _, _, _, _, _⟩) (v := undef) rfl (Or.inr ⟨by rfl, rfl⟩) hHeld ?rest28_6
   try simp only [Act.put, List.setIfInBounds_toArray, List.set_cons_zero, List.set_cons_succ]
   refine tk (i := 29) (o := ⟨some 95, _, _, _, _, _⟩) (v := ?v29_6) rfl (Or.inl ⟨by rfl, ?hy29_6⟩) hHeld ?rest29_6
   case hy29_6 => intro wS hSw; (try dsimp only at hSw); go_simp; (try with_reducible rfl)
   try simp only [Act.put, List.setIfInBounds_toArray, List.set_cons_zero, List.set_cons_succ]
   have ha9 := HAA.out
   have z0 := cell_of ha9 (i := 0) (v := .int .i64 0) rfl
   have z1 := cell_of ha9 (i := 1) (v := .int .i64 0) rfl
   have z2 := cell_of ha9 (i := 2) (v := .int .i64 0) rfl
   have z3 := cell_of ha9 (i := 3) (v := .int .i64 0) rfl
   have z4 := cell_of ha9 (i := 4) (v := .int .i64 0) rfl
   have z5 := cell_of ha9 (i := 5) (v := .int .i64 0) rfl
   have z6 := cell_of ha9 (i := 6) (v := .string ⟨#[]⟩) rfl
   have q0 := free_of 0 ha9
   have q1 := free_of 1 ha9
   have q2 := free_of 2 ha9
   have q3 := free_of 3 ha9
   have q4 := free_of 4 ha9
   have q5 := free_of 5 ha9
   have q6 := free_of 6 ha9
   have hl9 := lt_of_block ha9
   have hAb1 := HNE.out.1
   have hAb2 := HNE.out.2
   clear ha9
   have hb9 := HBB.out
   have b0 := cell_of hb9 (i := 0) (v := .int .i64 k) rfl
   have b1 := cell_of hb9 (i := 1) (v := .int .i64 t) rfl
   have b2 := cell_of hb9 (i := 2) (v := .int .i64 v) rfl
   have b3 := cell_of hb9 (i := 3) (v := .int .i64 ei) rfl
   have b4 := cell_of hb9 (i := 4) (v := .int .i64 et) rfl
   have b5 := cell_of hb9 (i := 5) (v := .int .i64 ek) rfl
   have b6 := cell_of hb9 (i := 6) (v := .string (bs ed)) rfl
   clear hb9
   refine wpAnyH_ready (rs := [30]) (by kernel_rfl) (by simp) ?_
   refine AllReadyH.cons rfl (fun K hK => ?_) AllReadyH.nil
   go_simp
   refine hK.out _ _ ?hS30_6 (fun hHeld => ?hR30_6)
   case hS30_6 => (try dsimp only); go_keep
   clear hK K
   try simp only [Act.put, List.setIfInBounds_toArray, List.set_cons_zero, List.set_cons_succ]
   refine tk (i := 31) (o := ⟨some 3, _, _, _, _, _⟩) (v := ?v31_6) rfl (Or.inl ⟨by rfl, ?hy31_6⟩) hHeld ?rest31_6
   case hy31_6 => intro wS hSw; (try dsimp only at hSw); go_simp; (try with_reducible rfl)
   try simp only [Act.put, List.setIfInBounds_toArray, List.set_cons_zero, List.set_cons_succ]
   refine wpAnyH_done (by kernel_rfl) ?_ _
   go_wp2_with fail
   go_meet
   exact ⟨false, rfl, Lib.hid ⟨KN.out, sets7d HAA.out _ _ _ _ _ _ _, (frs7 HF6.out (.inr (Nat.le_refl _)) _ _ _ _ _ _ _).drew⟩⟩
 case rest =>
 obtain ⟨ok, rfl, HZ⟩ := hcut
 have hz := HZ.out.2.1
 have e0 := cell_of hz (i := 0) (v := .int .i64 k) rfl
 have e1 := cell_of hz (i := 1) (v := .int .i64 t) rfl
 have e2 := cell_of hz (i := 2) (v := .int .i64 v) rfl
 have e3 := cell_of hz (i := 3) (v := .int .i64 ei) rfl
 have e4 := cell_of hz (i := 4) (v := .int .i64 et) rfl
 have e5 := cell_of hz (i := 5) (v := .int .i64 ek) rfl
 have e6 := cell_of hz (i := 6) (v := .string (bs ed)) rfl
 clear hz
 go_wp2_with fail
 refine bodyPost_ret (v := .tuple #[.agg #[.int .i64 k, .int .i64 t, .int .i64 v, .int .i64 ei, .int .i64 et, .int .i64 ek, .string (bs ed)], .bool ok]) (by simp [results, Tryz.results140, go_sem, e0, e1, e2, e3, e4, e5, e6] <;> rfl) rfl ?_
 exact HOK.out ok _ HZ.out.1 HZ.out.2.2
end Go.Proofs.YtgmghopcppniaaaGreatDoor
