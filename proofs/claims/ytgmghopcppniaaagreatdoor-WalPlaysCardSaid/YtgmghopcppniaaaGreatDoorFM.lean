/- wal's laws: acts in memory; pick, small, entry, hard, entries: walked. -/
import Derived.Test.YtgmghopcppniaaaGreatDoorFG
import Derived.Test.YtgmghopcppniaaaGreatDoorFC
import Derived.Laws.StructEq
import Derived.BigQuiet
import Derived.Test.YtgmghopcppniaaaGreatDoorFH
namespace Go.Proofs.YtgmghopcppniaaaGreatDoor
open Go.RowKit Go.Lib

theorem wpick_h {w : World} {c n : Int} (hc1 : -9223372036854775808 ≤ c) (hc2 : c ≤ 9223372036854775807) (hn : 0 < n) (hn2 : n ≤ 1000000) : Calls Tryz.prog 42 #[.int .i64 c, .int .i64 n] w fun e w' => e = .returned (.int .i64 (pickZ c n)) ∧ w = w' := by
 by_cases h : c < 0
 ·have d1 : decide (c < 0) = true := by simpa using h
  have HE := Lib.hid (show pickZ c n = (-(c + 1)) % n by unfold pickZ; rw [if_pos h])
  have hb : 0 ≤ -(c + 1) := by omega
  have hne : n ≠ 0 := by omega
  clear h
  go_enter Tryz.func42, Tryz.ntmps42
  go_wp2_with fail
  go_ret
  have HT : -((c + 1).tmod n) = -(c + 1) % n := by rw [← Int.neg_tmod, Int.tmod_eq_emod_of_nonneg hb]
  exact ⟨by rw [HE.out, ← HT]; rfl, rfl⟩
 ·have d1 : decide (c < 0) = false := by simpa using h
  have h0 : 0 ≤ c := by omega
  have HE := Lib.hid (show pickZ c n = c % n by unfold pickZ; rw [if_neg h])
  have hne : n ≠ 0 := by omega
  clear h
  go_enter Tryz.func42, Tryz.ntmps42
  go_wp2_with fail
  go_ret
  exact ⟨by rw [HE.out]; rfl, rfl⟩
/-- an act and the values of its keep and its noise -/
structure ActWM where
 act : ActW
 va : Value
 vb : Value
def cellsWM (m : ActWM) : List Value := [.int .i64 m.act.op, .int .i64 m.act.term, .int .i64 m.act.vote, .int .i64 m.act.index, .int .i64 m.act.n, .string (bs m.act.data), m.va, m.vb]
def actWV (m : ActWM) : Value := .agg (cellsWM m).toArray
/-- what is known of an act that came in -/
structure ActWIn (w : World) (S : Nat → Prop) (m : ActWM) : Prop where
 keep : IR w S m.va m.act.keep
 noise : IR w S m.vb m.act.noise
 op : I64 m.act.op
 term : I64 m.act.term
 vote : I64 m.act.vote
 index : I64 m.act.index
 n : I64 m.act.n
structure ActsW (w : World) (S : Nat → Prop) (v : Value) (l : List ActWM) : Prop where
 form : ∃ a cap, v = .slice a l.length cap ∧ l.length ≤ cap ∧ cap ≤ 9223372036854775807 ∧ (0 < l.length → ∃ g off, a = some ⟨g, off, none⟩ ∧ S g ∧ ∀ i m j u, l[i]? = some m → (cellsWM m)[j]? = some u → w.cell? ⟨g, off + i * 8 + j, none⟩ = some u)
 acts : ∀ m ∈ l, ActWIn w S m
def SmallWM (m : ActWM) : Prop := m.act.data.length ≤ 700 ∧ m.act.keep.length ≤ 60 ∧ m.act.noise.length ≤ 60
def SmallWL (l : List ActWM) : Prop := l.length ≤ 40 ∧ ∀ m ∈ l, SmallWM m
section
variable {w w' : World} {S : Nat → Prop} {v : Value} {l : List ActWM} {m : ActWM}
theorem ActWIn.fr {o : Nat → Prop} (h : ActWIn w S m) (hf : Fr o w w') (ho : ∀ k, S k → ¬ o k) : ActWIn w' S m := ⟨h.keep.fr hf ho, h.noise.fr hf ho, h.op, h.term, h.vote, h.index, h.n⟩
theorem ActWIn.good (h : ActWIn w S m) (hs : SmallWM m) : GoodW m.act := ⟨h.op, h.term, h.vote, h.index, h.n, hs.1⟩
theorem ActsW.fr {o : Nat → Prop} (h : ActsW w S v l) (hf : Fr o w w') (ho : ∀ k, S k → ¬ o k) : ActsW w' S v l := by
 obtain ⟨⟨a, cap, h1, h2, h3, h4⟩, h5⟩ := h
 refine ⟨⟨a, cap, h1, h2, h3, fun hn => ?_⟩, fun m hm => (h5 m hm).fr hf ho⟩
 obtain ⟨g, off, e1, e2, e3⟩ := h4 hn
 exact ⟨g, off, e1, e2, fun i m j u hm hu => hf.cell (e3 i m j u hm hu) (ho g e2)⟩
theorem ActsW.grow (h : ActsW w S v l) (hf : Fr (fun _ => False) w w') : ActsW w' S v l := h.fr hf fun _ _ h => h
def SmallWPost (l : List ActWM) (w : World) (e : Ending) (w' : World) : Prop := ∃ r : Bool, e = .returned (.bool r) ∧ (r = true ↔ SmallWL l) ∧ w = w'
theorem smallw_no {i : Nat} (hm : l[i]? = some m) (h : ¬ SmallWM m) : (false = true ↔ SmallWL l) := by
 simp only [Bool.false_eq_true, false_iff]; exact fun k => h (k.2 m (List.mem_of_getElem? hm))
def SmallWTo (l : List ActWM) (i : Nat) : Prop := ∀ j m, j < i → l[j]? = some m → SmallWM m
theorem smallw_next {i : Nat} (h : SmallWTo l i) (hm : l[i]? = some m) (hs : SmallWM m) : SmallWTo l (i + 1) := by
 intro j m' hj hm'
 by_cases e : j = i
 ·subst e; rw [hm] at hm'; obtain rfl := Option.some.inj hm'; exact hs
 ·exact h j m' (by omega) hm'
theorem smallw_all {i : Nat} (h : SmallWTo l i) (hi : l.length ≤ i) (hl : l.length ≤ 40) : SmallWL l := by
 refine ⟨hl, fun m hm => ?_⟩
 obtain ⟨j, hj⟩ := List.getElem?_of_mem hm
 exact h j m (by have := (List.getElem?_eq_some_iff.1 hj).1; omega) hj
set_option maxRecDepth 100000 in
set_option maxHeartbeats 4000000 in
theorem wsmall_h (hA : ActsW w S v l) : Calls Tryz.prog 40 #[v] w (SmallWPost l w) := by
 obtain ⟨⟨a, cap, rfl, hc1, hc2, hcell⟩, hacts⟩ := hA
 by_cases h80 : 40 < l.length
 ·have d1 : decide (40 < (l.length : Int)) = true := by rw [decide_eq_true_iff]; omega
  have d2 : decide (40 < l.length) = true := by simpa using h80
  have HE := Lib.hid (show false = true ↔ SmallWL l by simp only [Bool.false_eq_true, false_iff]; exact fun k => by have := k.1; omega)
  clear hcell hacts h80
  go_enter Tryz.func40, Tryz.ntmps40
  go_wp2_with fail
  go_ret
  exact ⟨false, rfl, HE.out, rfl⟩
 have d1 : decide (40 < (l.length : Int)) = false := by rw [decide_eq_false_iff_not]; omega
 have d2 : decide (40 < l.length) = false := by simpa using h80
 have HC := Lib.hid (And.intro hcell hacts)
 clear hcell hacts
 go_enter Tryz.func40, Tryz.ntmps40
 go_wp2_with fail
 go_loopg [3] (l.length) (fun j u wr => ∃ k : Nat, k + j = l.length ∧ u = .int .i64 k ∧ SmallWTo l k ∧ w = wr)
 case atStart => exact ⟨0, by omega, rfl, fun j m h => by omega, rfl⟩
 case round =>
  obtain ⟨k, hk, rfl, ht, rfl⟩ := hrel
  have HK := Lib.hid (And.intro hk ht)
  clear hk ht
  by_cases hlt : k < l.length
  ·obtain ⟨m, hm⟩ : ∃ m, l[k]? = some m := ⟨_, List.getElem?_eq_getElem hlt⟩
   obtain ⟨g, off, rfl, hS, hcs⟩ := HC.out.1 (by omega)
   have hin := HC.out.2 m (List.mem_of_getElem? hm)
   obtain ⟨va, vac, hva, hv1, hv2⟩ := hin.keep.form
   obtain ⟨vb, vbc, hvb, hv3, hv4⟩ := hin.noise.form
   have q5 := hcs k m 5 _ hm rfl
   have q6 := hcs k m 6 _ hm rfl
   have q7 := hcs k m 7 _ hm rfl
   rw [hva] at q6
   rw [hvb] at q7
   have z5 : (bs m.act.data).size = m.act.data.length := rfl
   have HM := Lib.hid hm
   have HN := Lib.hid (fun hs : SmallWM m => smallw_next HK.out.2 hm hs)
   have HZ := Lib.hid (fun hs : ¬ SmallWM m => smallw_no hm hs)
   have hlti : (k : Int) < (l.length : Int) := by omega
   clear hm hcs hin hva hvb hv1 hv2 hv3 hv4 hS
   by_cases s2 : m.act.data.length ≤ 700
   ·have e2 : ¬ (700 : Int) < (m.act.data.length : Int) := by omega
    by_cases s5 : m.act.keep.length ≤ 60
    ·have e5 : ¬ (60 : Int) < (m.act.keep.length : Int) := by omega
     by_cases s6 : m.act.noise.length ≤ 60
     ·have e6 : ¬ (60 : Int) < (m.act.noise.length : Int) := by omega
      have HS := Lib.hid (HN.out ⟨s2, s5, s6⟩)
      clear s2 s5 s6
      go_wp2_with fail
      go_roundg (l.length - (k + 1))
      case measure => have := HK.out.1; omega
      case rel => exact ⟨k + 1, by omega, by go_num, HS.out, rfl⟩
     ·have e6 : (60 : Int) < (m.act.noise.length : Int) := by omega
      have HS := Lib.hid (HZ.out fun h => s6 h.2.2)
      clear s2 s5 s6
      go_wp2_with fail
      go_ret
      exact ⟨false, rfl, HS.out, rfl⟩
    ·have e5 : (60 : Int) < (m.act.keep.length : Int) := by omega
     have HS := Lib.hid (HZ.out fun h => s5 h.2.1)
     clear s2 s5
     go_wp2_with fail
     go_ret
     exact ⟨false, rfl, HS.out, rfl⟩
   ·have e2 : (700 : Int) < (m.act.data.length : Int) := by omega
    have HS := Lib.hid (HZ.out fun h => s2 h.1)
    clear s2
    go_wp2_with fail
    go_ret
    exact ⟨false, rfl, HS.out, rfl⟩
  ·have hlti : ¬ (k : Int) < (l.length : Int) := by omega
   have HS := Lib.hid (smallw_all HK.out.2 (by omega) (by omega))
   go_wp2_with fail
   go_ret
   exact ⟨true, rfl, by simp only [true_iff]; exact HS.out, rfl⟩
theorem sets4 {w : World} {b ty : Nat} {x0 x1 x2 x3 : Value} (hb : w.heap[b]? = some (.cells #[x0, x1, x2, x3] ty (0, 0))) (y0 y1 y2 y3 : Value) :
  ((((w.setCell ⟨b, 0, none⟩ y0).setCell ⟨b, 1, none⟩ y1).setCell ⟨b, 2, none⟩ y2).setCell ⟨b, 3, none⟩ y3).heap[b]? = some (.cells #[y0, y1, y2, y3] ty (0, 0)) :=
 block_set (block_set (block_set (block_set hb 0 y0) 1 y1) 2 y2) 3 y3
theorem sets2 {w : World} {b ty : Nat} {x0 x1 : Value} (hb : w.heap[b]? = some (.cells #[x0, x1] ty (0, 0))) (y0 y1 : Value) :
  ((w.setCell ⟨b, 0, none⟩ y0).setCell ⟨b, 1, none⟩ y1).heap[b]? = some (.cells #[y0, y1] ty (0, 0)) :=
 block_set (block_set hb 0 y0) 1 y1
theorem frs4 {o : Nat → Prop} {w w1 : World} (hf : Fr o w w1) {b : Nat} (hb : w.heap.size ≤ b) (y0 y1 y2 y3 : Value) :
  Fr o w ((((w1.setCell ⟨b, 0, none⟩ y0).setCell ⟨b, 1, none⟩ y1).setCell ⟨b, 2, none⟩ y2).setCell ⟨b, 3, none⟩ y3) :=
 (((hf.setCell (p := ⟨b, 0, none⟩) (.inr hb) _).setCell (p := ⟨b, 1, none⟩) (.inr hb) _).setCell (p := ⟨b, 2, none⟩) (.inr hb) _).setCell (p := ⟨b, 3, none⟩) (.inr hb) _
theorem frs2 {o : Nat → Prop} {w w1 : World} (hf : Fr o w w1) {b : Nat} (hb : w.heap.size ≤ b) (y0 y1 : Value) :
  Fr o w ((w1.setCell ⟨b, 0, none⟩ y0).setCell ⟨b, 1, none⟩ y1) :=
 (hf.setCell (p := ⟨b, 0, none⟩) (.inr hb) _).setCell (p := ⟨b, 1, none⟩) (.inr hb) _
set_option maxHeartbeats 4000000 in
theorem wentry_h {w : World} (i t : Int) (s : Str) : Calls Tryz.prog 55 #[.int .i64 i, .int .i64 t, .string (bs s)] w fun e w' => e = .returned (entV ⟨i, t, 2, s⟩) ∧ Fr (fun _ => False) w w' := by
 go_enter Tryz.func55, Tryz.ntmps55
 go_upto_region 1 with fail
 obtain ⟨w1, hw1⟩ : ∃ w1, w1 = w.alloc (.cells #[.int .i64 0, .int .i64 0, .int .i64 0, .string ⟨#[]⟩] 95) := ⟨_, rfl⟩
 have hb : w1.heap[w.heap.size]? = some (.cells #[.int .i64 0, .int .i64 0, .int .i64 0, .string ⟨#[]⟩] 95 (0, 0)) := by rw [hw1]; exact block_new _ _
 have HF1 : Hid (Fr (fun _ => False) w w1) := by show Fr _ _ _; rw [hw1]; exact (Fr.refl _ _).alloc _
 rw [← hw1]
 clear hw1
 have q0 := cell_of hb (i := 0) (v := .int .i64 0) rfl
 have q1 := cell_of hb (i := 1) (v := .int .i64 0) rfl
 have q2 := cell_of hb (i := 2) (v := .int .i64 0) rfl
 have q3 := cell_of hb (i := 3) (v := .string ⟨#[]⟩) rfl
 have f0 := free_of 0 hb
 have f1 := free_of 1 hb
 have f2 := free_of 2 hb
 have f3 := free_of 3 hb
 have hll := lt_of_block hb
 go_wp2_with fail
 have hb2 := sets4 hb (.int .i64 i) (.int .i64 t) (.int .i64 2) (.string (bs s))
 have hf2 := frs4 HF1.out (Nat.le_refl _) (.int .i64 i) (.int .i64 t) (.int .i64 2) (.string (bs s))
 obtain ⟨w2, hw2⟩ : ∃ w2, w2 = (((w1.setCell ⟨w.heap.size, 0, none⟩ (.int .i64 i)).setCell ⟨w.heap.size, 1, none⟩ (.int .i64 t)).setCell ⟨w.heap.size, 2, none⟩ (.int .i64 2)).setCell ⟨w.heap.size, 3, none⟩ (.string (bs s)) := ⟨_, rfl⟩
 rw [← hw2] at hb2 hf2 ⊢
 have e0 := cell_of hb2 (i := 0) (v := .int .i64 i) rfl
 have e1 := cell_of hb2 (i := 1) (v := .int .i64 t) rfl
 have e2 := cell_of hb2 (i := 2) (v := .int .i64 2) rfl
 have e3 := cell_of hb2 (i := 3) (v := .string (bs s)) rfl
 refine bodyPost_ret (v := entV ⟨i, t, 2, s⟩) (by simp [results, Tryz.results55, go_sem, e0, e1, e2, e3] <;> rfl) rfl ⟨rfl, hf2⟩
/-! ### hard -/
set_option maxRecDepth 100000 in
set_option maxHeartbeats 8000000 in
theorem whard_h (hA : ActWIn w S m) : Calls Tryz.prog 49 #[actWV m] w fun e w' => e = .returned (.agg #[.int .i64 (hardW m.act).1, .int .i64 (hardW m.act).2]) ∧ Fr (fun _ => False) w w' := by
 have ht1 := hA.term
 have hv1 := hA.vote
 have HPT := Lib.hid (fun W : World => wpick_h (w := W) ht1.1 ht1.2 (n := 20) (by decide) (by decide))
 have HPV := Lib.hid (fun W : World => wpick_h (w := W) hv1.1 hv1.2 (n := 4) (by decide) (by decide))
 have HTI := Lib.hid ht1
 obtain ⟨⟨op, term, vote, index, n, data, keep, noise⟩, va, vb⟩ := m
 obtain ⟨p, hp⟩ : ∃ p, pickZ term 20 = p := ⟨_, rfl⟩
 obtain ⟨q, hq⟩ : ∃ q, pickZ vote 4 = q := ⟨_, rfl⟩
 obtain ⟨r, hr⟩ : ∃ r, term.tmod 41 = r := ⟨_, rfl⟩
 have HH : Hid (hardW ⟨op, term, vote, index, n, data, keep, noise⟩ = if r = 0 ∧ term ≠ 0 then (term, vote) else (p, q)) := by
  show _ = _
  unfold hardW
  have h1 : term % 41 = 0 ↔ r = 0 := by rw [← hr]; exact ⟨fun h => Int.tmod_eq_zero_of_dvd (Int.dvd_of_emod_eq_zero h), fun h => Int.emod_eq_zero_of_dvd (Int.dvd_of_tmod_eq_zero h)⟩
  rw [← hp, ← hq]
  simp only [h1]
 dsimp only at HPT HPV
 rw [hp] at HPT
 rw [hq] at HPV
 unfold actWV cellsWM
 clear hA ht1 hv1 hp hq
 obtain ⟨w1, hw1⟩ : ∃ w1, w1 = w.alloc (.cells #[.int .i64 op, .int .i64 term, .int .i64 vote, .int .i64 index, .int .i64 n, .string (bs data), va, vb] 77) := ⟨_, rfl⟩
 obtain ⟨w2, hw2⟩ : ∃ w2, w2 = w1.alloc (.cells #[.int .i64 0, .int .i64 0] 61) := ⟨_, rfl⟩
 have hf1 : Fr (fun _ => False) w w1 := by rw [hw1]; exact (Fr.refl _ _).alloc _
 have HF2 : Hid (Fr (fun _ => False) w w2) := by show Fr _ _ _; rw [hw2]; exact hf1.alloc _
 have hs1 : w1.heap.size = w.heap.size + 1 := by rw [hw1]; simp
 have ha : w2.heap[w.heap.size]? = some (.cells #[.int .i64 op, .int .i64 term, .int .i64 vote, .int .i64 index, .int .i64 n, .string (bs data), va, vb] 77 (0, 0)) := by rw [hw2]; refine block_old ?_ _; rw [hw1]; exact block_new _ _
 have hb : w2.heap[w.heap.size + 1]? = some (.cells #[.int .i64 0, .int .i64 0] 61 (0, 0)) := by rw [hw2, ← hs1]; exact block_new _ _
 have HB := Lib.hid hb
 have x1 := cell_of ha (i := 1) (v := .int .i64 term) rfl
 have x2 := cell_of ha (i := 2) (v := .int .i64 vote) rfl
 go_enter Tryz.func49, Tryz.ntmps49
 go_upto_region 1 with fail
 rw [← hw1, ← hw2]
 clear hw1 hw2 hf1 hs1 ha
 have q0 := cell_of hb (i := 0) (v := .int .i64 0) rfl
 have q1 := cell_of hb (i := 1) (v := .int .i64 0) rfl
 have f0 := free_of 0 hb
 have f1 := free_of 1 hb
 have hll := lt_of_block hb
 by_cases hc : r = 0 ∧ term ≠ 0
 ·have HE := Lib.hid (HH.out.trans (if_pos hc))
  have r0 : (r == 0) = true := by simpa using hc.1
  have t0 : (term == 0) = false := by simpa using hc.2
  have t1 : ¬ term = 0 := hc.2
  clear hc
  go_wp2_with fail
  have hb2 := sets2 hb (.int .i64 term) (.int .i64 vote)
  have hf2 := frs2 HF2.out (show w.heap.size ≤ w.heap.size + 1 by omega) (.int .i64 term) (.int .i64 vote)
  obtain ⟨w3, hw3⟩ : ∃ w3, w3 = (w2.setCell ⟨w.heap.size + 1, 0, none⟩ (.int .i64 term)).setCell ⟨w.heap.size + 1, 1, none⟩ (.int .i64 vote) := ⟨_, rfl⟩
  rw [← hw3] at hb2 hf2
  have e0 := cell_of hb2 (i := 0) (v := .int .i64 term) rfl
  have e1 := cell_of hb2 (i := 1) (v := .int .i64 vote) rfl
  rw [← hw3]
  refine bodyPost_ret (v := .agg #[.int .i64 term, .int .i64 vote]) (by simp [results, Tryz.results49, go_sem, e0, e1] <;> rfl) rfl ⟨by rw [HE.out], hf2⟩
 ·have HE := Lib.hid (HH.out.trans (if_neg hc))
  go_cut [11] (fun s11 wx => s11 = .bool false ∧ wx = w2)
  case first =>
   by_cases h0 : r = 0
   ·have ht0 : term = 0 := Classical.byContradiction fun h => hc ⟨h0, h⟩
    have r0 : (r == 0) = true := by simpa using h0
    have T0 : Hid ((term != 0) = false) := by show _ = _; simpa using ht0
    clear hc h0 ht0
    go_wp2_with fail
    go_meet
    exact ⟨by rw [T0.out], rfl⟩
   ·have r0 : (r == 0) = false := by simpa using h0
    clear hc h0
    go_wp2_with fail
    go_meet
    exact ⟨rfl, rfl⟩
  case rest =>
  obtain ⟨rfl, rfl⟩ := hcut
  clear hc hr
  go_upto_region 3 with fail
  go_region_held3 (fun w' => w'.cell? ⟨w.heap.size, 1, none⟩ = some (.int .i64 term) ∧ w'.cell? ⟨w.heap.size, 2, none⟩ = some (.int .i64 vote))
   (first | go_keep | fail)
   (first
    | (go_at_call 42; (with_reducible refine Calls.mono (HPT.out _) ?_); rintro r wA ⟨rfl, rfl⟩)
    | (go_at_call 42; (with_reducible refine Calls.mono (HPV.out _) ?_); rintro r wA ⟨rfl, rfl⟩)
    | fail)
  all_goals
   have hb2 := sets2 hb (.int .i64 p) (.int .i64 q)
   have hf2 := frs2 HF2.out (show w.heap.size ≤ w.heap.size + 1 by omega) (.int .i64 p) (.int .i64 q)
   obtain ⟨w3, hw3⟩ : ∃ w3, w3 = (wc.setCell ⟨w.heap.size + 1, 0, none⟩ (.int .i64 p)).setCell ⟨w.heap.size + 1, 1, none⟩ (.int .i64 q) := ⟨_, rfl⟩
   rw [← hw3] at hb2 hf2 ⊢
   have e0 := cell_of hb2 (i := 0) (v := .int .i64 p) rfl
   have e1 := cell_of hb2 (i := 1) (v := .int .i64 q) rfl
   go_wp2_with fail
   refine bodyPost_ret (v := .agg #[.int .i64 p, .int .i64 q]) (by simp [results, Tryz.results49, go_sem, e0, e1] <;> rfl) rfl ⟨by rw [HE.out], hf2.drew⟩
end
end Go.Proofs.YtgmghopcppniaaaGreatDoor

/- wal's laws: an act's entries: walked. -/
namespace Go.Proofs.YtgmghopcppniaaaGreatDoor
open Go.RowKit Go.Lib

section
variable {w : World} {S : Nat → Prop} {m : ActWM}
structure WERel (w : World) (m : ActWM) (i : Nat) (v : Value) (wr : World) : Prop where
 row : wr.ownsRow w.heap.size 95 4 v i (entsC ((List.range i).map (entW m.act)))
 box : wr.heap[w.heap.size]? = some (.cells (cellsWM m).toArray 77 (0, 0))
 fr : Fr (fun _ => False) w wr
def EntsPost (a : ActW) (w : World) (e : Ending) (w' : World) : Prop := ∃ v, e = .returned v ∧ w'.ownsRow w.heap.size 95 4 v (entriesW a).length (entsC (entriesW a)) ∧ Fr (fun _ => False) w w'
set_option maxRecDepth 100000 in
set_option maxHeartbeats 16000000 in
theorem wentries_h (hA : ActWIn w S m) (hd : m.act.data.length ≤ 700) : Calls Tryz.prog 48 #[actWV m] w (EntsPost m.act w) := by
 obtain ⟨i0, hi, hi0, hi1, hi2⟩ := info_parts info95
 have hn1 := hA.n
 have ht1 := hA.term
 have hx1 := hA.index
 have HPN := Lib.hid (fun W : World => wpick_h (w := W) hn1.1 hn1.2 (n := 5) (by decide) (by decide))
 have HPT := Lib.hid (fun W : World => wpick_h (w := W) ht1.1 ht1.2 (n := 20) (by decide) (by decide))
 have HPX := Lib.hid (fun W : World => wpick_h (w := W) hx1.1 hx1.2 (n := 30) (by decide) (by decide))
 obtain ⟨⟨op, term, vote, index, n, data, keep, noise⟩, va, vb⟩ := m
 dsimp only at HPN HPT HPX hd
 have hp5 := pick_in (c := n) (n := 5) (by decide)
 have hp30 := pick_in (c := index) (n := 30) (by decide)
 have hp20 := pick_in (c := term) (n := 20) (by decide)
 obtain ⟨k, hk⟩ : ∃ k : Nat, pickZ n 5 = (k : Int) := ⟨(pickZ n 5).toNat, by omega⟩
 obtain ⟨p, hp⟩ : ∃ p, pickZ term 20 = p := ⟨_, rfl⟩
 obtain ⟨q, hq⟩ : ∃ q, pickZ index 30 = q := ⟨_, rfl⟩
 obtain ⟨r, hr⟩ : ∃ r, index.tmod 37 = r := ⟨_, rfl⟩
 rw [hk] at hp5 HPN
 rw [hp] at hp20 HPT
 rw [hq] at hp30 HPX
 have HLEN : Hid (entriesW ⟨op, term, vote, index, n, data, keep, noise⟩ = (List.range k).map (entW ⟨op, term, vote, index, n, data, keep, noise⟩)) := by
  show _ = _
  unfold entriesW
  rw [hk]; rfl
 have HEW : Hid (∀ i : Nat, entW ⟨op, term, vote, index, n, data, keep, noise⟩ i = if r = 0 ∧ index ≠ 0 then ⟨index, p, n, data⟩ else ⟨1 + q + i, p, 2, data⟩) := by
  intro i
  have h1 : index % 37 = 0 ↔ r = 0 := by rw [← hr]; exact ⟨fun h => Int.tmod_eq_zero_of_dvd (Int.dvd_of_emod_eq_zero h), fun h => Int.emod_eq_zero_of_dvd (Int.dvd_of_tmod_eq_zero h)⟩
  unfold entW
  rw [← hp, ← hq]
  simp only [h1]
 unfold actWV cellsWM
 clear hA hn1 ht1 hx1 hk hp hq
 obtain ⟨w1, hw1⟩ : ∃ w1, w1 = w.alloc (.cells #[.int .i64 op, .int .i64 term, .int .i64 vote, .int .i64 index, .int .i64 n, .string (bs data), va, vb] 77) := ⟨_, rfl⟩
 have HR0 : Hid (WERel w ⟨⟨op, term, vote, index, n, data, keep, noise⟩, va, vb⟩ 0 (.slice none 0 0) w1) := by
  refine ⟨by simpa [entsC] using World.ownsRow_nil w1 _ _ _, ?_, ?_⟩
  ·rw [hw1]; exact block_new _ _
  ·rw [hw1]; exact (Fr.refl _ _).alloc _
 go_enter Tryz.func48, Tryz.ntmps48
 go_upto_region 1 with fail
 rw [← hw1]
 clear hw1
 go_wp2_with fail
 go_loopg [3, 4] k (fun j v3 v4 wr => ∃ i : Nat, i + j = k ∧ v4 = .int .i64 (i : Int) ∧ Hid (WERel w ⟨⟨op, term, vote, index, n, data, keep, noise⟩, va, vb⟩ i v3 wr))
 case atStart => exact ⟨0, by omega, rfl, HR0⟩
 case round =>
  obtain ⟨i, hi3, rfl, HK⟩ := hrel
  have HI3 := Lib.hid hi3
  clear hi3 HR0
  obtain ⟨sa, sc, rfl⟩ : ∃ a c, u3 = .slice a i c := ownsRow_shape HK.out.row
  have hbox : wr.heap[w.heap.size]? = some (.cells #[.int .i64 op, .int .i64 term, .int .i64 vote, .int .i64 index, .int .i64 n, .string (bs data), va, vb] 77 (0, 0)) := HK.out.box
  have x1 := cell_of hbox (i := 1) (v := .int .i64 term) rfl
  have x3 := cell_of hbox (i := 3) (v := .int .i64 index) rfl
  have x4 := cell_of hbox (i := 4) (v := .int .i64 n) rfl
  have x5 := cell_of hbox (i := 5) (v := .string (bs data)) rfl
  have HBX := Lib.hid hbox
  have hbl0 := lt_of_block hbox
  have hne0 : ¬ w.heap.size = wr.heap.size := by omega
  have hne0' : ¬ wr.heap.size = w.heap.size := by omega
  clear hbox
  by_cases hlt : i < k
  ·have hlti : (i : Int) < (k : Int) := by omega
   have e1 : IntKind.i64.wrap (1 + q) = 1 + q := IntWalk.i64_in _ (by omega)
   have e2 : IntKind.i64.wrap (1 + q + (i : Int)) = 1 + q + (i : Int) := IntWalk.i64_in _ (by omega)
   have HEN := Lib.hid (fun W : World => wentry_h (w := W) (1 + q + (i : Int)) p data)
   unfold entV at HEN
   go_wp2_with fail
   refine Calls.mono (HPN.out _) ?_
   rintro e w2 ⟨rfl, rfl⟩
   go_upto_region 5 with fail
   go_cut [5] (fun s5 wx => ∃ b : Nat, s5 = .pointer (some ⟨b, 0, none⟩) ∧ Hid (wr.heap.size ≤ b ∧ wx.heap[b]? = some (.cells #[.int .i64 (1 + q + (i : Int)), .int .i64 p, .int .i64 2, .string (bs data)] 95 (0, 0)) ∧ Fr (fun _ => False) wr wx))
   case first =>
    go_region_held3 (fun w' => w'.cell? ⟨w.heap.size, 1, none⟩ = some (.int .i64 term) ∧ w'.cell? ⟨w.heap.size, 3, none⟩ = some (.int .i64 index) ∧ w'.cell? ⟨w.heap.size, 5, none⟩ = some (.string (bs data)))
     (first | go_keep | (with_reducible exact ⟨s1_fA, s3_fA, s5_fA⟩) | fail)
     (first
      | (go_at_call 42; (with_reducible refine Calls.mono (HPX.out _) ?_); rintro r wA ⟨rfl, rfl⟩)
      | (go_at_call 42; (with_reducible refine Calls.mono (HPT.out _) ?_); rintro r wA ⟨rfl, rfl⟩)
      | (go_at_call 55; (with_reducible refine Calls.mono (HEN.out _) ?_); rintro r wA ⟨rfl, hq⟩; have fA := (show Fr (fun _ => False) wr _ by repeat (first | exact Fr.refl _ _ | refine Fr.drew ?_ | refine Fr.alloc ?_ _)).next hq; have s1_fA := fA.cell x1 (fun h => h); have s3_fA := fA.cell x3 (fun h => h); have s5_fA := fA.cell x5 (fun h => h); have hzA := fA.size; have hne1 : ¬ w.heap.size = wA.heap.size := (by omega); have hne1' : ¬ wA.heap.size = w.heap.size := (by omega); (try (have bo := hq.keep (block_new_drew rfl) (fun h => h); have o0 := cell_of bo (i := 0) (v := .int .i64 0) rfl; have o1 := cell_of bo (i := 1) (v := .int .i64 0) rfl; have o2 := cell_of bo (i := 2) (v := .int .i64 0) rfl; have o3 := cell_of bo (i := 3) (v := .string ⟨#[]⟩) rfl; have g0 := free_of 0 bo; have g1 := free_of 1 bo; have g2 := free_of 2 bo; have g3 := free_of 3 bo; have hbl := lt_of_block bo)); (try (have bn := block_new wA (.cells #[.int .i64 0, .int .i64 0, .int .i64 0, .string ⟨#[]⟩] 95); have n0 := cell_of bn (i := 0) (v := .int .i64 0) rfl; have n1 := cell_of bn (i := 1) (v := .int .i64 0) rfl; have n2 := cell_of bn (i := 2) (v := .int .i64 0) rfl; have n3 := cell_of bn (i := 3) (v := .string ⟨#[]⟩) rfl; have m0 := free_of 0 bn; have m1 := free_of 1 bn; have m2 := free_of 2 bn; have m3 := free_of 3 bn; have mbl := lt_of_block bn)))
      | fail)
    all_goals
     go_wp2_with fail
     go_meet
     first
      | (with_reducible exact ⟨wA.heap.size, rfl, Lib.hid ⟨hzA, block_new _ _, fA.alloc _⟩⟩)
      | (with_reducible exact ⟨wA.heap.size, rfl, Lib.hid ⟨hzA, block_new_drew rfl, (fA.alloc _).drew⟩⟩)
      | (with_reducible exact ⟨wr.heap.size, rfl, Lib.hid ⟨Nat.le_refl _, sets4 bo _ _ _ _, frs4 fA (Nat.le_refl _) _ _ _ _⟩⟩)
      | (with_reducible exact ⟨wr.heap.size, rfl, Lib.hid ⟨Nat.le_refl _, sets4 bo _ _ _ _, (frs4 fA (Nat.le_refl _) _ _ _ _).drew⟩⟩)
      | fail
   case rest =>
   obtain ⟨b, rfl, HX⟩ := hcut
   obtain ⟨wx, hwx⟩ : ∃ wx, wx = wc := ⟨_, rfl⟩
   have hbx := HX.out.2.1
   have hblt := lt_of_block hbx
   have hbge := HX.out.1
   have hbox2 := HX.out.2.2.keep HBX.out (fun h => h)
   have y3 := cell_of hbox2 (i := 3) (v := .int .i64 index) rfl
   have y4 := cell_of hbox2 (i := 4) (v := .int .i64 n) rfl
   have b0 := cell_of hbx (i := 0) (v := .int .i64 (1 + q + (i : Int))) rfl
   have b2 := cell_of hbx (i := 2) (v := .int .i64 2) rfl
   have g0 := free_of 0 hbx
   have g2 := free_of 2 hbx
   have HBX2 := Lib.hid hbox2
   have HBB := Lib.hid hbx
   clear x1 x3 x4 x5 hbox2 hbx hwx
   go_upto_region 6 with fail
   go_cut [33] (fun s33 wx => s33 = .bool (decide (r = 0 ∧ index ≠ 0)) ∧ wx = wc)
   case first =>
    by_cases hc : r = 0 ∧ index ≠ 0
    ·have r0 : (r == 0) = true := by simpa using hc.1
     have t0 : (index != 0) = true := by simpa using hc.2
     have t1 : ¬ index = 0 := hc.2
     have HC := Lib.hid (decide_eq_true hc)
     clear hc
     go_wp2_with fail
     go_meet
     exact ⟨by rw [HC.out], rfl⟩
    ·by_cases h0 : r = 0
     ·have ht0 : index = 0 := Classical.byContradiction fun h => hc ⟨h0, h⟩
      have r0 : (r == 0) = true := by simpa using h0
      have T0 : Hid ((index != 0) = false) := by show _ = _; simpa using ht0
      have HC := Lib.hid (decide_eq_false hc)
      clear hc h0 ht0
      go_wp2_with fail
      go_meet
      exact ⟨by rw [HC.out, T0.out], rfl⟩
     ·have r0 : (r == 0) = false := by simpa using h0
      have HC := Lib.hid (decide_eq_false hc)
      clear hc h0
      go_wp2_with fail
      go_meet
      exact ⟨by rw [HC.out], rfl⟩
   case rest =>
   obtain ⟨rfl, hwq⟩ := hcut
   obtain rfl := hwq
   go_upto_if 33 with fail
   go_cut [] (fun wx => Hid (wx.heap[b]? = some (.cells (entC (entW ⟨op, term, vote, index, n, data, keep, noise⟩ i)).toArray 95 (0, 0)) ∧ Fr (fun _ => False) wr wx))
   case first =>
    by_cases hc : r = 0 ∧ index ≠ 0
    ·have HE := Lib.hid ((HEW.out i).trans (if_pos hc))
     rw [decide_eq_true hc]
     clear hc
     go_wp2_with fail
     go_meet
     have h1 := block_set (block_set HBB.out 0 (.int .i64 index)) 2 (.int .i64 n)
     refine Lib.hid ⟨?_, ?_⟩
     ·rw [HE.out]; exact h1
     ·exact (HX.out.2.2.setCell (p := ⟨b, 0, none⟩) (.inr HX.out.1) _).setCell (p := ⟨b, 2, none⟩) (.inr HX.out.1) _
    ·have HE := Lib.hid ((HEW.out i).trans (if_neg hc))
     rw [decide_eq_false hc]
     clear hc
     go_wp2_with fail
     go_meet
     refine Lib.hid ⟨?_, HX.out.2.2⟩
     rw [HE.out]; exact HBB.out
   case rest =>
   have HC := Lib.hid hcut.out
   have hbz := HC.out.1
   obtain ⟨e, he⟩ : ∃ e, entW ⟨op, term, vote, index, n, data, keep, noise⟩ i = e := ⟨_, rfl⟩
   have HEQ := Lib.hid he
   rw [he] at hbz
   have z0 := cell_of hbz (i := 0) (v := .int .i64 e.index) rfl
   have z1 := cell_of hbz (i := 1) (v := .int .i64 e.term) rfl
   have z2 := cell_of hbz (i := 2) (v := .int .i64 e.kind) rfl
   have z3 := cell_of hbz (i := 3) (v := .string (bs e.data)) rfl
   have hblt2 := lt_of_block hbz
   have hwsz : w.heap.size ≤ wc.heap.size := Nat.le_trans HK.out.fr.size HC.out.2.size
   clear hbz he b0 b2 g0 g2 y3 y4
   have HOWN : Hid (wc.ownsRow w.heap.size 95 4 (.slice sa i sc) i (entsC ((List.range i).map (entW ⟨op, term, vote, index, n, data, keep, noise⟩)))) := ownsRow_keep HK.out.row fun k hk => HC.out.2.block k (HK.out.row.lt k hk).2 (fun h => h)
   have HFX : Hid (Fr (fun _ => False) wc (wc.alloc (.cells (entC e).toArray 95))) := (Fr.refl _ _).alloc _
   have HROW : Hid ((wc.alloc (.cells (entC e).toArray 95)).ownsRow w.heap.size 95 4 (.slice sa i sc) i (entsC ((List.range i).map (entW ⟨op, term, vote, index, n, data, keep, noise⟩)))) := HOWN.out.alloc _
   have HNEW : Hid (SRow (wc.alloc (.cells (entC e).toArray 95)) (fun _ => True) 4 (.slice (some ⟨wc.heap.size, 0, none⟩) 1 1) 1 (entC e)) := SRow.of_block (e := 95) (f := (0, 0)) (block_new _ _) rfl (by simp [maxLen]) trivial
   go_wp2_with (at_builtin; refine wpList_append_row rfl (.tmp 40) (.tmp 42) 63 rfl w.heap.size 95 i0 (.agg #[.int .i64 0, .int .i64 0, .int .i64 0, .string ⟨#[]⟩]) 4 40 Tryz.underlying63 hi hi0 hi1 hi2 rfl (by decide) (.slice sa i sc) i _ rfl HROW.out (fun _ => True) _ 1 (entC e) rfl HNEW.out ?c1 ?c2 (by omega) (Nat.le_trans hwsz HFX.out.size) ?_)
   case c1 => intro u hu; simp [entC] at hu; rcases hu with rfl | rfl | rfl | rfl <;> rfl
   case c2 => unfold maxLen; omega
   intro b8 c8 w8 hown8 hgrow8 _
   have HR3 : Hid (WERel w ⟨⟨op, term, vote, index, n, data, keep, noise⟩, va, vb⟩ (i + 1) (.slice b8 (i + 1) c8) w8) := by
    have hf8 : Fr (fun _ => False) w w8 := ((HK.out.fr.next HC.out.2).alloc _).grown hgrow8 fun k hk => .inr (HOWN.out.lt k hk).1
    refine ⟨?_, ?_, hf8⟩
    ·rw [List.range_succ, List.map_append, ents_app]
     have : entsC (List.map (entW ⟨op, term, vote, index, n, data, keep, noise⟩) [i]) = entC e := by simp [entsC, HEQ.out]
     rw [this]
     exact hown8
    ·have h1 := HFX.out.keep (HC.out.2.keep HK.out.box (fun h => h)) (fun h => h)
     exact block_grown h1 hgrow8 fun e2 => own_ne HROW.out h1 (by decide) e2.symm
   clear hown8 hgrow8
   go_wp2_with fail
   go_roundg (k - (i + 1))
   case measure => have := HI3.out; omega
   case rel => exact ⟨i + 1, by omega, by go_num, HR3⟩
  ·obtain rfl : i = k := by have := HI3.out; omega
   have hlti : ¬ (i : Int) < (i : Int) := by omega
   go_wp2_with fail
   refine Calls.mono (HPN.out _) ?_
   rintro e w2 ⟨rfl, rfl⟩
   go_wp2_with fail
   go_ret
   refine ⟨_, rfl, ?_, HK.out.fr⟩
   have h := HK.out.row
   rw [HLEN.out, List.length_map, List.length_range]
   exact h
end
end Go.Proofs.YtgmghopcppniaaaGreatDoor

/- wal's laws: sameEntries, has, the reference's Put, begun: walked. -/
namespace Go.Proofs.YtgmghopcppniaaaGreatDoor
open Go.RowKit Go.Lib

theorem eqE (a b c : Int) (s : Str) (a' b' c' : Int) (t : Str) (w : World) : Sem.run Tryz.prog (Op.equalIn 10000 95 (.agg #[.int .i64 a, .int .i64 b, .int .i64 c, .string (bs s)]) (.agg #[.int .i64 a', .int .i64 b', .int .i64 c', .string (bs t)])) w = .ok (decide ((⟨a, b, c, s⟩ : EntD) = ⟨a', b', c', t⟩)) w := by
 have u3 := Tryz.underlying3
 have a3 := Tryz.isAgg3
 have z3 := Tryz.sizeOf3
 have u9 := Tryz.underlying9
 have a9 := Tryz.isAgg9
 have z9 := Tryz.sizeOf9
 have hS : Tryz.prog.underlying 95 = some (.struct (Tryz.prog.fieldsOf 95)) := by kernel_rfl
 have hp : Tryz.prog.stoodInHeld 95 = false := by kernel_rfl
 rw [show (10000 : Nat) = 9999 + 1 from rfl, run_equalIn_agg w 9999 95 _ _ hS hp]
 simp only [Program.fieldsOf, Tryz.underlying95]
 go_simp
 have hst : ((bs s).toList = (bs t).toList) ↔ s = t := by rw [bs_toList, bs_toList]
 by_cases h1 : a = a' <;> by_cases h2 : b = b' <;> by_cases h3 : c = c' <;> by_cases h4 : s = t <;> simp [h1, h2, h3, h4, hst]
theorem neqE (a b c : Int) (s : Str) (a' b' c' : Int) (t : Str) (w : World) : Sem.run Tryz.prog (binOp .neq 95 (.agg #[.int .i64 a, .int .i64 b, .int .i64 c, .string (bs s)]) (.agg #[.int .i64 a', .int .i64 b', .int .i64 c', .string (bs t)])) w = .ok (.bool (!decide ((⟨a, b, c, s⟩ : EntD) = ⟨a', b', c', t⟩))) w := by
 rw [run_neq_struct, eqE]; rfl
section
variable {w : World} {S S' : Nat → Prop} {v u : Value} {l m : List EntD}
theorem ent_cells {a : Option Addr} {cap : Nat} (h : SRow w S 4 (.slice a l.length cap) l.length (entsC l)) (hn : 0 < l.length) : ∃ g off, a = some ⟨g, off, none⟩ ∧ ∀ i e, l[i]? = some e → w.cell? ⟨g, off + i * 4, none⟩ = some (.int .i64 e.index) ∧ w.cell? ⟨g, off + i * 4 + 1, none⟩ = some (.int .i64 e.term) ∧ w.cell? ⟨g, off + i * 4 + 2, none⟩ = some (.int .i64 e.kind) ∧ w.cell? ⟨g, off + i * 4 + 3, none⟩ = some (.string (bs e.data)) := by
 obtain ⟨g, off, h1, h2⟩ := h.cell hn
 refine ⟨g, off, h1, fun i e he => ?_⟩
 have key : ∀ j x, j < 4 → (entC e)[j]? = some x → w.cell? ⟨g, off + i * 4 + j, none⟩ = some x := fun j x hj hx => by
  have := h2 (i * 4 + j) x ((flat_get (f := entC) (c := 4) (fun _ => rfl) _ i j e he hj).trans hx)
  rwa [← Nat.add_assoc] at this
 exact ⟨key 0 _ (by decide) rfl, key 1 _ (by decide) rfl, key 2 _ (by decide) rfl, key 3 _ (by decide) rfl⟩
set_option maxRecDepth 100000 in
set_option maxHeartbeats 8000000 in
theorem sameents_h (hv : SRow w S 4 v l.length (entsC l)) (hu : SRow w S' 4 u m.length (entsC m)) (hl : l.length ≤ 1000000) :
  Calls Tryz.prog 38 #[v, u] w fun e w' => e = .returned (.bool (decide (l = m))) ∧ Fr (fun _ => False) w w' := by
 obtain ⟨_, a, cap, rfl, hc1, hc2, _⟩ := id hv
 obtain ⟨_, b, cbp, rfl, hd1, hd2, _⟩ := id hu
 have HV := Lib.hid hv
 have HU := Lib.hid hu
 clear hv hu
 by_cases hn : l.length = m.length
 ·have hne : ((l.length : Int) != (m.length : Int)) = false := by rw [hn]; simp
  have HN := Lib.hid hn
  have hmi : ¬ (l.length : Int) = (m.length : Int) → False := fun h => h (by rw [hn])
  clear hmi
  have hb2 : (m.length : Int) = (m.length : Int) := rfl
  clear hb2
  rw [hn] at hne hc1 hl ⊢
  go_enter Tryz.func38, Tryz.ntmps38
  go_wp2_with fail
  go_loopg [5] m.length (fun j v5 wr => ∃ i p : Nat, i + j = m.length ∧ v5 = .int .i64 i ∧ Hid (l.take i = m.take i) ∧ wr = w.drewN p)
  case atStart => exact ⟨0, 0, by omega, rfl, rfl, rfl⟩
  case round =>
   obtain ⟨i, p, hi, rfl, HT, rfl⟩ := hrel
   have HI := Lib.hid hi
   clear hi
   by_cases hlt : i < m.length
   ·have hlti : (i : Int) < (m.length : Int) := by omega
    obtain ⟨e, he⟩ : ∃ e, l[i]? = some e := ⟨_, List.getElem?_eq_getElem (by rw [HN.out]; exact hlt)⟩
    obtain ⟨f, hf⟩ : ∃ f, m[i]? = some f := ⟨_, List.getElem?_eq_getElem hlt⟩
    have HV2 := HV.out
    rw [HN.out] at HV2
    obtain ⟨g, off, rfl, hcs⟩ := ent_cells HV.out (by rw [HN.out]; omega)
    obtain ⟨g2, off2, rfl, hds⟩ := ent_cells HU.out (by omega)
    obtain ⟨x0, x1, x2, x3⟩ := hcs i e he
    obtain ⟨y0, y1, y2, y3⟩ := hds i f hf
    have HEE := Lib.hid (And.intro he hf)
    obtain ⟨e1, e2, e3, e4⟩ := e
    obtain ⟨f1, f2, f3, f4⟩ := f
    obtain ⟨bb, hbb⟩ : ∃ bb, decide ((⟨e1, e2, e3, e4⟩ : EntD) = ⟨f1, f2, f3, f4⟩) = bb := ⟨_, rfl⟩
    dsimp only at x0 x1 x2 x3 y0 y1 y2 y3
    have hneq := neqE e1 e2 e3 e4 f1 f2 f3 f4
    rw [hbb] at hneq
    clear HV2 hcs hds he hf
    go_upto_region 6 with fail
    go_cut [25] (fun s25 wx => s25 = .bool (!bb) ∧ ∃ q, wx = w.drewN q)
    case first =>
     go_big_quiet (fail)
     go_wp2_with fail
     go_meet
     refine ⟨?_, _, by first | rfl | exact World.drewN_drewN _ _ _⟩
     first | rfl | rw [hbb]
    case rest =>
    obtain ⟨rfl, q, rfl⟩ := hcut
    clear hneq x0 x1 x2 x3 y0 y1 y2 y3
    cases bb with
    | true =>
     have HS : Hid (l.take (i + 1) = m.take (i + 1)) := by
      obtain ⟨k1, k2⟩ := List.getElem?_eq_some_iff.1 HEE.out.1
      obtain ⟨k3, k4⟩ := List.getElem?_eq_some_iff.1 HEE.out.2
      show _ = _
      rw [List.take_succ_eq_append_getElem k1, List.take_succ_eq_append_getElem k3, HT.out, k2, k4, of_decide_eq_true hbb]
     clear hbb
     go_wp2_with fail
     go_roundg (m.length - (i + 1))
     case measure => have := HI.out; omega
     case rel => exact ⟨i + 1, _, by have := HI.out; omega, by go_num, HS, by first | rfl | exact World.drewN_drewN _ _ _⟩
    | false =>
     have HS : Hid (decide (l = m) = false) := by
      refine decide_eq_false fun h => ?_
      have h1 := HEE.out.1
      rw [h, HEE.out.2] at h1
      exact of_decide_eq_false hbb (Option.some.inj h1).symm
     clear hbb
     go_wp2_with fail
     go_ret
     exact ⟨by rw [HS.out] <;> rfl, (Fr.refl _ _).drewN _⟩
   ·obtain rfl : i = m.length := by have := HI.out; omega
    have hlti : ¬ (m.length : Int) < (m.length : Int) := by omega
    have HS : Hid (decide (l = m) = true) := by
     refine decide_eq_true ?_
     have h := HT.out
     rwa [List.take_of_length_le (by rw [HN.out]; exact Nat.le_refl _), List.take_length] at h
    go_wp2_with fail
    go_ret
    exact ⟨by rw [HS.out] <;> rfl, (Fr.refl _ _).drewN _⟩
 ·have hne : ((l.length : Int) != (m.length : Int)) = true := by simp; omega
  have hne2 : ¬ (l.length : Int) = (m.length : Int) := by omega
  have HS : Hid (decide (l = m) = false) := decide_eq_false fun h => hn (by rw [h])
  clear hn
  go_enter Tryz.func38, Tryz.ntmps38
  go_wp2_with fail
  go_ret
  exact ⟨by rw [HS.out] <;> rfl, Fr.refl _ _⟩
/-! ### has -/
end
end Go.Proofs.YtgmghopcppniaaaGreatDoor

/- The reference's Put, begun: walked. -/
namespace Go.Proofs.YtgmghopcppniaaaGreatDoor
open Go.RowKit Go.Lib

/-- a row of entries made -/
def EntsMade (l : List EntD) (w : World) (e : Ending) (w' : World) : Prop := ∃ v, e = .returned v ∧ w'.ownsRow w.heap.size 95 4 v l.length (entsC l) ∧ Fr (fun _ => False) w w'
theorem one_row {w : World} {base k : Nat} {e : EntD} (h : w.heap[k]? = some (.cells (entC e).toArray 95 (0, 0))) (hb : base ≤ k) : w.ownsRow base 95 4 (.slice (some ⟨k, 0, none⟩) 1 1) 1 (entsC [e]) := by
 have e1 : entsC [e] = entC e := by simp [entsC]
 rw [e1]
 exact ⟨rfl, .inr ⟨k, 1, _, rfl, hb, h, Nat.le_refl _, by decide, rfl, rfl⟩⟩
section
variable {w : World} {S S' : Nat → Prop} {v u : Value} {l m : List EntD}
set_option maxRecDepth 100000 in
set_option maxHeartbeats 8000000 in
theorem rput_h (hv : SRow w S 4 v l.length (entsC l)) (hS : ∀ k, S k → k < w.heap.size) (e : EntD) (hok : RunE l) (he : GoodE e) (hl : l.length ≤ 900000) :
  Calls Tryz.prog 102 #[v, entV e] w (EntsMade (putE l e) w) := by
 obtain ⟨i0, hi, hi0, hi1, hi2⟩ := info_parts info95
 obtain ⟨_, a, cap, rfl, hc1, hc2, _⟩ := id hv
 obtain ⟨w1, hw1⟩ : ∃ w1, w1 = w.alloc (.cells #[.int .i64 e.index, .int .i64 e.term, .int .i64 e.kind, .string (bs e.data)] 95) := ⟨_, rfl⟩
 have HF1 : Hid (Fr (fun _ => False) w w1) := by show Fr _ _ _; rw [hw1]; exact (Fr.refl _ _).alloc _
 have hb : w1.heap[w.heap.size]? = some (.cells #[.int .i64 e.index, .int .i64 e.term, .int .i64 e.kind, .string (bs e.data)] 95 (0, 0)) := by rw [hw1]; exact block_new _ _
 have HS1 := Lib.hid (fun k (h : S k) => Nat.lt_of_lt_of_le (hS k h) HF1.out.size)
 have hv1 := hv.fr HF1.out fun _ _ h => h
 have y0 := cell_of hb (i := 0) (v := .int .i64 e.index) rfl
 have y1 := cell_of hb (i := 1) (v := .int .i64 e.term) rfl
 have y2 := cell_of hb (i := 2) (v := .int .i64 e.kind) rfl
 have y3 := cell_of hb (i := 3) (v := .string (bs e.data)) rfl
 have hblt := lt_of_block hb
 have HB := Lib.hid hb
 have HV := Lib.hid hv1
 have HOK := Lib.hid (And.intro hok he)
 unfold entV
 clear hv hv1 hb hS hok he
 go_enter Tryz.func102, Tryz.ntmps102
 go_upto_region 1 with fail
 rw [← hw1]
 clear hw1
 by_cases hc : l = [] ∨ IntKind.i64.wrap ((lastE l).index + 1) < e.index ∨ e.index < (l.getD 0 zeroE).index
 ·have HE := Lib.hid (put_one hc)
  go_cut [29] (fun s29 wx => s29 = .bool true ∧ ∃ q, wx = w1.drewN q)
  case first =>
   by_cases h0 : l = []
   ·have q0 : ((l.length : Int) == 0) = true := by rw [h0]; rfl
    clear hc h0
    go_big_quiet (fail)
    go_wp2_with fail
    go_meet
    exact ⟨rfl, _, rfl⟩
   ·have hlp := List.length_pos_iff.2 h0
    have q0 : ((l.length : Int) == 0) = false := by simp; exact h0
    obtain ⟨n, hn⟩ : ∃ n, l.length = n + 1 := ⟨l.length - 1, by omega⟩
    obtain ⟨g, off, rfl, hcs⟩ := ent_cells HV.out hlp
    have hlast : l[n]? = some (lastE l) := by
     have := getD_some (l := l) (i := l.length - 1) (by omega)
     rw [hn, Nat.add_sub_cancel] at this
     rw [this]; unfold lastE; rw [hn, Nat.add_sub_cancel]
    obtain ⟨x0, _, _, _⟩ := hcs n _ hlast
    obtain ⟨z0, _, _, _⟩ := hcs 0 _ (getD_some hlp)
    rw [Nat.zero_mul, Nat.add_zero] at z0
    have hc' := hc.resolve_left h0
    obtain ⟨li, hli⟩ : ∃ x, (lastE l).index = x := ⟨_, rfl⟩
    obtain ⟨fi, hfi⟩ : ∃ x, (l.getD 0 zeroE).index = x := ⟨_, rfl⟩
    rw [hli] at x0 hc'
    rw [hfi] at z0 hc'
    have i1 : (n : Int) < (l.length : Int) := by omega
    have i4 : IntKind.i64.wrap ((l.length : Int) - 1) = (n : Int) := by rw [IntWalk.i64_in _ (by omega)]; omega
    have i5 : (0 : Int) ≤ (n : Int) := by omega
    have i6 : IntKind.i64.wrap (n : Int) = (n : Int) := IntWalk.i64_in _ (by omega)
    have i7 : (0 : Int) < (l.length : Int) := by omega
    have i9 : ¬ (l.length : Int) = 0 := by omega
    obtain ⟨li1, hli1⟩ : ∃ x, IntKind.i64.wrap (li + 1) = x := ⟨_, rfl⟩
    rw [hli1] at hc'
    clear hcs hlast hc h0 hlp hn hli hfi
    by_cases h1 : li1 < e.index
    ·clear hc'
     go_big_quiet (fail)
     go_wp2_with fail
     go_meet
     exact ⟨rfl, _, rfl⟩
    ·have h2 := hc'.resolve_left h1
     clear hc'
     go_big_quiet (fail)
     go_wp2_with fail
     go_meet
     exact ⟨rfl, _, rfl⟩
  case rest =>
  obtain ⟨rfl, q, hwq⟩ := hcut
  obtain ⟨w2, hw2⟩ : ∃ w2, w2 = wc := ⟨_, rfl⟩
  have HF2 : Hid (Fr (fun _ => False) w w2) := by show Fr _ _ _; rw [hw2, hwq]; exact HF1.out.drewN q
  have HF12 : Hid (Fr (fun _ => False) w1 w2) := by show Fr _ _ _; rw [hw2, hwq]; exact (Fr.refl _ _).drewN q
  rw [← hw2]
  clear hw2 hwq
  have hb2 := HF12.out.keep HB.out (fun h => h)
  have k0 := cell_of hb2 (i := 0) (v := .int .i64 e.index) rfl
  have k1 := cell_of hb2 (i := 1) (v := .int .i64 e.term) rfl
  have k2 := cell_of hb2 (i := 2) (v := .int .i64 e.kind) rfl
  have k3 := cell_of hb2 (i := 3) (v := .string (bs e.data)) rfl
  have hblt2 := lt_of_block hb2
  clear hb2 y0 y1 y2 y3
  go_wp2_with fail
  go_ret
  refine ⟨.slice (some ⟨w2.heap.size, 0, none⟩) 1 1, rfl, ?_, HF2.out.alloc _⟩
  rw [HE.out]
  exact one_row (block_new _ _) HF2.out.size
 ·have HE := Lib.hid (put_at hc)
  obtain ⟨hwl, k, hk, hkl⟩ := HOK.out.1.cut HOK.out.2 hc
  have h0 : l ≠ [] := fun h => hc (.inl h)
  have hlp := List.length_pos_iff.2 h0
  have hlp2 : 0 < l.length := hlp
  have q0 : ((l.length : Int) == 0) = false := by simp; exact h0
  obtain ⟨n, hn⟩ : ∃ n, l.length = n + 1 := ⟨l.length - 1, by omega⟩
  obtain ⟨g, off, rfl, hcs⟩ := ent_cells HV.out hlp
  have hSg : S g := by
   obtain ⟨_, _, _, e1, _, _, _, h6⟩ := HV.out
   injection e1 with e1 _ _
   obtain ⟨g', off', e2, h7, _⟩ := h6 hlp
   rw [e2] at e1
   injection e1 with e1
   injection e1 with e1 _ _
   rw [e1]; exact h7
  have hgl := HS1.out g hSg
  have hlast : l[n]? = some (lastE l) := by
   have := getD_some (l := l) (i := l.length - 1) (by omega)
   rw [hn, Nat.add_sub_cancel] at this
   rw [this]; unfold lastE; rw [hn, Nat.add_sub_cancel]
  obtain ⟨x0, _, _, _⟩ := hcs n _ hlast
  obtain ⟨z0, _, _, _⟩ := hcs 0 _ (getD_some hlp)
  rw [Nat.zero_mul, Nat.add_zero] at z0
  have hc' : ¬ (lastE l).index + 1 < e.index ∧ ¬ e.index < (l.getD 0 zeroE).index := ⟨fun h => hc (.inr (.inl (by rw [hwl]; exact h))), fun h => hc (.inr (.inr h))⟩
  obtain ⟨li, hli⟩ : ∃ x, (lastE l).index = x := ⟨_, rfl⟩
  obtain ⟨fi, hfi⟩ : ∃ x, (l.getD 0 zeroE).index = x := ⟨_, rfl⟩
  rw [hli] at x0 hc' hwl
  rw [hfi] at z0 hc' hk
  have i1 : (n : Int) < (l.length : Int) := by omega
  have i4 : IntKind.i64.wrap ((l.length : Int) - 1) = (n : Int) := by rw [IntWalk.i64_in _ (by omega)]; omega
  have i5 : (0 : Int) ≤ (n : Int) := by omega
  have i6 : IntKind.i64.wrap (n : Int) = (n : Int) := IntWalk.i64_in _ (by omega)
  have i7 : (0 : Int) < (l.length : Int) := by omega
  have i9 : ¬ (l.length : Int) = 0 := by omega
  have j1 := hc'.1
  have j2 := hc'.2
  have HZ := Lib.hid (And.intro z0 hk)
  have HFI := Lib.hid hfi
  clear hcs hlast hc h0 hlp hn hli hfi hc' hk
  go_cut [29] (fun s29 wx => s29 = .bool false ∧ ∃ q, wx = w1.drewN q)
  case first =>
   go_big_quiet (fail)
   go_wp2_with fail
   go_meet
   exact ⟨rfl, _, rfl⟩
  case rest =>
  obtain ⟨rfl, q, hwq⟩ := hcut
  obtain ⟨w2, hw2⟩ : ∃ w2, w2 = wc := ⟨_, rfl⟩
  have HF2 : Hid (Fr (fun _ => False) w w2) := by show Fr _ _ _; rw [hw2, hwq]; exact HF1.out.drewN q
  have HF12 : Hid (Fr (fun _ => False) w1 w2) := by show Fr _ _ _; rw [hw2, hwq]; exact (Fr.refl _ _).drewN q
  rw [← hw2]
  clear hw2 hwq
  have hb2 := HF12.out.keep HB.out (fun h => h)
  have k0 := cell_of hb2 (i := 0) (v := .int .i64 e.index) rfl
  have k1 := cell_of hb2 (i := 1) (v := .int .i64 e.term) rfl
  have k2 := cell_of hb2 (i := 2) (v := .int .i64 e.kind) rfl
  have k3 := cell_of hb2 (i := 3) (v := .string (bs e.data)) rfl
  have hblt2 := lt_of_block hb2
  clear hb2 y0 y1 y2 y3
  have hfz := HF12.out.cell HZ.out.1 (fun h => h)
  have hsub : IntKind.i64.wrap (e.index - fi) = (k : Int) := by rw [HZ.out.2]; exact IntWalk.i64_in _ (by omega)
  have hgl2 := Nat.lt_of_lt_of_le hgl HF12.out.size
  have hkc : k ≤ cap := by omega
  have HH : Hid (SRow w2 S 4 (.slice (some ⟨g, off, none⟩) k cap) k (entsC (l.take k))) := by
   have h := SRow.head (HV.out.fr HF12.out fun _ _ h => h) hkl
   rw [← ents_take] at h
   exact h
  have HCW := Lib.hid (fun (w3 : World) (hF : Fr (fun k => w2.heap.size ≤ k) w2 w3) => And.intro (hF.cell k0 (fun k => absurd k (Nat.not_le.2 hblt2))) (And.intro (hF.cell k1 (fun k => absurd k (Nat.not_le.2 hblt2))) (And.intro (hF.cell k2 (fun k => absurd k (Nat.not_le.2 hblt2))) (And.intro (hF.cell k3 (fun k => absurd k (Nat.not_le.2 hblt2))) (hF.cell hfz (fun k => absurd k (Nat.not_le.2 hgl2)))))))
  clear x0 z0 j1 j2 i1 i4 i5 i6 i9 hwl
  have H1E : Hid (∀ u ∈ [Value.int .i64 e.index, .int .i64 e.term, .int .i64 e.kind, .string (bs e.data)], u.oneCell' = true) := by intro u hu; simp at hu; rcases hu with rfl | rfl | rfl | rfl <;> rfl
  have hne1 : ¬ w.heap.size = w2.heap.size := by omega
  have hne2 : ¬ g = w2.heap.size := by omega
  have hne3 : ¬ w.heap.size = w2.heap.size + 1 := by omega
  have hne4 : ¬ g = w2.heap.size + 1 := by omega
  go_upto_region 3 with fail
  go_region_held3 (fun w' => w'.cell? ⟨w.heap.size, 0, none⟩ = some (.int .i64 e.index) ∧ w'.cell? ⟨w.heap.size, 1, none⟩ = some (.int .i64 e.term) ∧ w'.cell? ⟨w.heap.size, 2, none⟩ = some (.int .i64 e.kind) ∧ w'.cell? ⟨w.heap.size, 3, none⟩ = some (.string (bs e.data)) ∧ w'.cell? ⟨g, off, none⟩ = some (.int .i64 fi))
   (first | go_keep | (with_reducible exact HCW.out _ hF1) | (with_reducible exact HCW.out _ hF2) | fail)
   (first
    | (refine step_append_row rfl (.tmp 32) (.tmp 41) 63 rfl w2.heap.size 95 i0 (.agg #[.int .i64 0, .int .i64 0, .int .i64 0, .string ⟨#[]⟩]) 4 40 Tryz.underlying63 hi hi0 hi1 hi2 rfl (by decide) (.slice (some ⟨_, 0, none⟩) 0 0) 0 [] rfl (ownsRow_empty (by first | exact block_new_at (by simp) | exact block_old (block_new_at (by simp)) _) (by omega)) _ _ k (entsC (l.take k)) rfl (HH.out.fr (o := fun k => w2.heap.size ≤ k) (by repeat (first | exact Fr.refl _ _ | refine Fr.drew ?_ | refine Fr.alloc ?_ _)) (fun k hk => by have := HS1.out k hk; have := HF12.out.size; omega)) ents_one (by unfold maxLen; omega) (by omega) (by simp <;> omega) ?_; intro b1 cap1 w3 hrow1 hgrow1 hat1; have hF1 : Fr (fun k => w2.heap.size ≤ k) w2 w3 := Fr.next (by repeat (first | exact Fr.refl _ _ | refine Fr.drew ?_ | refine Fr.alloc ?_ _)) hat1; simp only [Nat.zero_add, List.nil_append] at hrow1; (try simp only [Nat.zero_add]); have hz3 := hF1.size; have hne5 : ¬ w.heap.size = w3.heap.size := (by omega); have hne6 : ¬ g = w3.heap.size := (by omega))
    | (refine step_append_row rfl (.tmp 42) (.tmp 44) 63 rfl w2.heap.size 95 i0 (.agg #[.int .i64 0, .int .i64 0, .int .i64 0, .string ⟨#[]⟩]) 4 40 Tryz.underlying63 hi hi0 hi1 hi2 rfl (by decide) (.slice b1 k cap1) k _ rfl (by first | exact hrow1 | exact hrow1.alloc _) (fun _ => True) _ 1 [.int .i64 e.index, .int .i64 e.term, .int .i64 e.kind, .string (bs e.data)] rfl (SRow.of_block (e := 95) (f := (0, 0)) (by first | exact block_new_at (by simp) | (refine block_grown ?_ hgrow1 (by simp [Value.ownBlock]); first | exact block_new_drew (by simp) | exact block_old_drew (block_new_at rfl) _)) rfl (by decide) trivial) H1E.out (by unfold maxLen; omega) (by omega) (by have := hF1.size; simp <;> omega) ?_; intro b2 cap2 w4 hrow2 hgrow2 hat2; have hF2 : Fr (fun k => w2.heap.size ≤ k) w2 w4 := Fr.next (by repeat (first | exact hF1 | refine Fr.drew ?_ | refine Fr.alloc ?_ _)) hat2)
    | fail)
  all_goals
   go_wp2_with fail
   go_ret
   have hpe : putE l e = l.take k ++ [e] := by rw [HE.out, HFI.out, HZ.out.2, Int.toNat_natCast]
   have hpl : (putE l e).length = k + 1 := by rw [hpe, List.length_append, List.length_take, List.length_singleton]; omega
   refine ⟨.slice b2 (k + 1) cap2, rfl, ?_, ?_⟩
   ·rw [hpl, hpe, ents_app]
    have e1 : entsC [e] = [.int .i64 e.index, .int .i64 e.term, .int .i64 e.kind, .string (bs e.data)] := by simp [entsC, entC]
    rw [e1]
    exact ownsRow_base hrow2 HF2.out.size
   ·exact HF2.out.trans hF2 fun k hk => .inr (Nat.le_trans HF2.out.size hk)
/-! ### begun -/
def BegunE (l was now : List EntD) : Prop := ∃ k, k ≤ now.length ∧ l = (now.take k).foldl putE was
def BegunPost (l was now : List EntD) (w : World) (e : Ending) (w' : World) : Prop := ∃ b : Bool, e = .returned (.bool b) ∧ (b = true ↔ BegunE l was now) ∧ Fr (fun _ => False) w w'
structure BgRel (w : World) (was now : List EntD) (i : Nat) (v : Value) (wr : World) : Prop where
 row : SRow wr (fun k => k < wr.heap.size) 4 v ((now.take i).foldl putE was).length (entsC ((now.take i).foldl putE was))
 fr : Fr (fun _ => False) w wr
 run : RunE ((now.take i).foldl putE was)
 few : ((now.take i).foldl putE was).length ≤ was.length + i
end
end Go.Proofs.YtgmghopcppniaaaGreatDoor
