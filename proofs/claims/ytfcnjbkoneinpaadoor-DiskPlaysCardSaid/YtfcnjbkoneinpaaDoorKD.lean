/- A slice of acts that is read; small and made. -/
import Derived.Test.YtfcnjbkoneinpaaDoorKC
namespace Go.Proofs.YtfcnjbkoneinpaaDoor
open Go.RowKit Go.Lib

/-- an act and the values of its keep and its noise -/
structure ActM where
  act : ActD
  va : Value
  vb : Value
def cellsM (m : ActM) : List Value := [.int .i64 m.act.op, .int .i64 m.act.n, .string (bs m.act.name), .string (bs m.act.to), .string (bs m.act.data), m.va, m.vb]
/-- what is known of an act that came in -/
structure ActIn (w : World) (S : Nat → Prop) (m : ActM) : Prop where
  keep : IR w S m.va m.act.keep
  noise : IR w S m.vb m.act.noise
  op : -9223372036854775808 ≤ m.act.op ∧ m.act.op ≤ 9223372036854775807
  num : m.act.n ≤ 9223372036854775807
structure ActsAt (w : World) (S : Nat → Prop) (v : Value) (l : List ActM) : Prop where
  form : ∃ a cap, v = .slice a l.length cap ∧ l.length ≤ cap ∧ cap ≤ 9223372036854775807 ∧ (0 < l.length → ∃ g off, a = some ⟨g, off, none⟩ ∧ S g ∧ ∀ i m j u, l[i]? = some m → (cellsM m)[j]? = some u → w.cell? ⟨g, off + i * 7 + j, none⟩ = some u)
  acts : ∀ m ∈ l, ActIn w S m
def SmallM (m : ActM) : Prop := m.act.name.length ≤ 100 ∧ m.act.to.length ≤ 100 ∧ m.act.data.length ≤ 600 ∧ m.act.keep.length ≤ 60 ∧ m.act.noise.length ≤ 60
def SmallL (l : List ActM) : Prop := l.length ≤ 80 ∧ ∀ m ∈ l, SmallM m

section
variable {w w' : World} {S : Nat → Prop} {v : Value} {l : List ActM} {m : ActM} {pb mb : Nat} {D : DiskD}
theorem ActIn.fr {o : Nat → Prop} (h : ActIn w S m) (hf : Fr o w w') (ho : ∀ k, S k → ¬ o k) : ActIn w' S m := ⟨h.keep.fr hf ho, h.noise.fr hf ho, h.op, h.num⟩
theorem ActIn.actV (h : ActIn w S m) (hs : SmallM m) : ActV w S m.va m.vb m.act := ⟨h.keep, h.noise, hs, h.op, h.num⟩
theorem ActsAt.fr {o : Nat → Prop} (h : ActsAt w S v l) (hf : Fr o w w') (ho : ∀ k, S k → ¬ o k) : ActsAt w' S v l := by
  obtain ⟨⟨a, cap, h1, h2, h3, h4⟩, h5⟩ := h
  refine ⟨⟨a, cap, h1, h2, h3, fun hn => ?_⟩, fun m hm => (h5 m hm).fr hf ho⟩
  obtain ⟨g, off, e1, e2, e3⟩ := h4 hn
  exact ⟨g, off, e1, e2, fun i m j u hm hu => hf.cell (e3 i m j u hm hu) (ho g e2)⟩
theorem ActsAt.grow (h : ActsAt w S v l) (hf : Fr (fun _ => False) w w') : ActsAt w' S v l := h.fr hf fun _ _ h => h

def SmallPost (l : List ActM) (w : World) (e : Ending) (w' : World) : Prop := ∃ r : Bool, e = .returned (.bool r) ∧ (r = true ↔ SmallL l) ∧ w = w'
theorem small_no {i : Nat} (hm : l[i]? = some m) (h : ¬ SmallM m) : (false = true ↔ SmallL l) := by
  simp only [Bool.false_eq_true, false_iff]; exact fun k => h (k.2 m (List.mem_of_getElem? hm))
def SmallTo (l : List ActM) (i : Nat) : Prop := ∀ j m, j < i → l[j]? = some m → SmallM m
theorem small_next {i : Nat} (h : SmallTo l i) (hm : l[i]? = some m) (hs : SmallM m) : SmallTo l (i + 1) := by
  intro j m' hj hm'
  by_cases e : j = i
  · subst e; rw [hm] at hm'; obtain rfl := Option.some.inj hm'; exact hs
  · exact h j m' (by omega) hm'
theorem small_all {i : Nat} (h : SmallTo l i) (hi : l.length ≤ i) (hl : l.length ≤ 80) : SmallL l := by
  refine ⟨hl, fun m hm => ?_⟩
  obtain ⟨j, hj⟩ := List.getElem?_of_mem hm
  exact h j m (by have := (List.getElem?_eq_some_iff.1 hj).1; omega) hj

set_option maxRecDepth 100000 in
set_option maxHeartbeats 4000000 in
theorem small_h (hA : ActsAt w S v l) : Calls Tryd.prog 10 #[v] w (SmallPost l w) := by
  obtain ⟨⟨a, cap, rfl, hc1, hc2, hcell⟩, hacts⟩ := hA
  by_cases h80 : 80 < l.length
  · have d1 : decide (80 < (l.length : Int)) = true := by rw [decide_eq_true_iff]; omega
    have d2 : decide (80 < l.length) = true := by simpa using h80
    have HE := Lib.hid (show false = true ↔ SmallL l by simp only [Bool.false_eq_true, false_iff]; exact fun k => by have := k.1; omega)
    clear hcell hacts h80
    go_enter Tryd.func10, Tryd.ntmps10
    go_wp2_with fail
    go_ret
    exact ⟨false, rfl, HE.out, rfl⟩
  have d1 : decide (80 < (l.length : Int)) = false := by rw [decide_eq_false_iff_not]; omega
  have d2 : decide (80 < l.length) = false := by simpa using h80
  have HC := Lib.hid (And.intro hcell hacts)
  clear hcell hacts
  go_enter Tryd.func10, Tryd.ntmps10
  go_wp2_with fail
  go_loopg [3] (l.length) (fun j u wr => ∃ k : Nat, k + j = l.length ∧ u = .int .i64 k ∧ SmallTo l k ∧ w = wr)
  case atStart => exact ⟨0, by omega, rfl, fun j m h => by omega, rfl⟩
  case round =>
    obtain ⟨k, hk, rfl, ht, rfl⟩ := hrel
    have HK := Lib.hid (And.intro hk ht)
    clear hk ht
    by_cases hlt : k < l.length
    · obtain ⟨m, hm⟩ : ∃ m, l[k]? = some m := ⟨_, List.getElem?_eq_getElem hlt⟩
      obtain ⟨g, off, rfl, hS, hcs⟩ := HC.out.1 (by omega)
      have hin := HC.out.2 m (List.mem_of_getElem? hm)
      obtain ⟨va, vac, hva, hv1, hv2⟩ := hin.keep.form
      obtain ⟨vb, vbc, hvb, hv3, hv4⟩ := hin.noise.form
      have q2 := hcs k m 2 _ hm rfl
      have q3 := hcs k m 3 _ hm rfl
      have q4 := hcs k m 4 _ hm rfl
      have q5 := hcs k m 5 _ hm rfl
      have q6 := hcs k m 6 _ hm rfl
      rw [hva] at q5
      rw [hvb] at q6
      have s2 : (bs m.act.name).size = m.act.name.length := rfl
      have s3 : (bs m.act.to).size = m.act.to.length := rfl
      have s4 : (bs m.act.data).size = m.act.data.length := rfl
      have HM := Lib.hid hm
      clear hm hcs hin hva hvb hv1 hv2 hv3 hv4
      by_cases b1 : 600 < m.act.data.length
      · have e1 : decide (600 < (m.act.data.length : Int)) = true := by rw [decide_eq_true_iff]; omega
        have e1' : decide (600 < m.act.data.length) = true := by simpa using b1
        have HE := Lib.hid (small_no HM.out (show ¬ SmallM m from fun h => by have := h.2.2.1; omega))
        clear b1
        go_wp2_with fail
        go_ret
        exact ⟨false, rfl, HE.out, rfl⟩
      have e1 : decide (600 < (m.act.data.length : Int)) = false := by rw [decide_eq_false_iff_not]; omega
      have e1' : decide (600 < m.act.data.length) = false := by simpa using b1
      by_cases b2 : 100 < m.act.name.length
      · have e2 : decide (100 < (m.act.name.length : Int)) = true := by rw [decide_eq_true_iff]; omega
        have e2' : decide (100 < m.act.name.length) = true := by simpa using b2
        have HE := Lib.hid (small_no HM.out (show ¬ SmallM m from fun h => by have := h.1; omega))
        clear b1 b2
        go_wp2_with fail
        go_ret
        exact ⟨false, rfl, HE.out, rfl⟩
      have e2 : decide (100 < (m.act.name.length : Int)) = false := by rw [decide_eq_false_iff_not]; omega
      have e2' : decide (100 < m.act.name.length) = false := by simpa using b2
      by_cases b3 : 100 < m.act.to.length
      · have e3 : decide (100 < (m.act.to.length : Int)) = true := by rw [decide_eq_true_iff]; omega
        have e3' : decide (100 < m.act.to.length) = true := by simpa using b3
        have HE := Lib.hid (small_no HM.out (show ¬ SmallM m from fun h => by have := h.2.1; omega))
        clear b1 b2 b3
        go_wp2_with fail
        go_ret
        exact ⟨false, rfl, HE.out, rfl⟩
      have e3 : decide (100 < (m.act.to.length : Int)) = false := by rw [decide_eq_false_iff_not]; omega
      have e3' : decide (100 < m.act.to.length) = false := by simpa using b3
      by_cases b4 : 60 < m.act.keep.length
      · have e4 : decide (60 < (m.act.keep.length : Int)) = true := by rw [decide_eq_true_iff]; omega
        have e4' : decide (60 < m.act.keep.length) = true := by simpa using b4
        have HE := Lib.hid (small_no HM.out (show ¬ SmallM m from fun h => by have := h.2.2.2.1; omega))
        clear b1 b2 b3 b4
        go_wp2_with fail
        go_ret
        exact ⟨false, rfl, HE.out, rfl⟩
      have e4 : decide (60 < (m.act.keep.length : Int)) = false := by rw [decide_eq_false_iff_not]; omega
      have e4' : decide (60 < m.act.keep.length) = false := by simpa using b4
      by_cases b5 : 60 < m.act.noise.length
      · have e5 : decide (60 < (m.act.noise.length : Int)) = true := by rw [decide_eq_true_iff]; omega
        have e5' : decide (60 < m.act.noise.length) = true := by simpa using b5
        have HE := Lib.hid (small_no HM.out (show ¬ SmallM m from fun h => by have := h.2.2.2.2; omega))
        clear b1 b2 b3 b4 b5
        go_wp2_with fail
        go_ret
        exact ⟨false, rfl, HE.out, rfl⟩
      have e5 : decide (60 < (m.act.noise.length : Int)) = false := by rw [decide_eq_false_iff_not]; omega
      have e5' : decide (60 < m.act.noise.length) = false := by simpa using b5
      have HN := Lib.hid (small_next HK.out.2 HM.out (show SmallM m by unfold SmallM; omega))
      clear b1 b2 b3 b4 b5
      go_wp2_with fail
      go_roundg (l.length - (k + 1))
      case measure => have := HK.out; omega
      case rel => exact ⟨k + 1, by omega, by go_num, HN.out, rfl⟩
    · have HE := Lib.hid (small_all HK.out.2 (by omega) (by omega))
      go_wp2_with fail
      go_ret
      exact ⟨true, rfl, by simp only [true_iff]; exact HE.out, rfl⟩

/-! ### made -/
def playM (D : DiskD) (l : List ActM) : DiskD := playD xbG D (l.map (·.act))
theorem play_app (D : DiskD) : ∀ (a b : List ActD), playD xbG D (a ++ b) = playD xbG (playD xbG D a) b
  | [], _ => rfl
  | x :: a, b => play_app (doesD xbG D x).2 a b
theorem play_next {i : Nat} (hm : l[i]? = some m) : playM D (l.take (i + 1)) = (doesD xbG (playM D (l.take i)) m.act).2 := by
  unfold playM
  rw [List.take_add_one, hm, List.map_append, play_app]
  rfl
def MadePost (D : DiskD) (w : World) (e : Ending) (w' : World) : Prop := ∃ pb mb, e = .returned (.tuple #[.pointer (some ⟨pb, 0, none⟩), .bool true]) ∧ DiskAt w' pb mb D ∧ Fr (fun _ => False) w w' ∧ w.heap.size ≤ pb ∧ w.heap.size ≤ mb
def MadeRel (w : World) (pb mb : Nat) (D : DiskD) (l : List ActM) (j : Nat) (u : Value) (wr : World) : Prop := ∃ k : Nat, k + j = l.length ∧ u = .int .i64 k ∧ DiskAt wr pb mb (playM D (l.take k)) ∧ Fr (fun _ => False) w wr

set_option maxRecDepth 100000 in
set_option maxHeartbeats 4000000 in
theorem made_h (hA : ActsAt w (fun k => k < w.heap.size) v l) (hs : SmallL l) {most : Int} (h1 : -9223372036854775808 ≤ most) (h2 : most ≤ 9223372036854775807) : Calls Tryd.prog 23 #[.int .i64 most, v] w (MadePost (playM (newD (pickZ most 3000)) l) w) := by
  have hpr : 0 ≤ pickZ most 3000 ∧ pickZ most 3000 < 3000 := by unfold pickZ; exact ⟨Int.emod_nonneg _ (by decide), Int.emod_lt_of_pos _ (by decide)⟩
  have HPK := Lib.hid (pick_h (w := w) h1 h2 (n := 3000) (by decide) (by decide))
  have HNW := Lib.hid (new_yes (w := w) hpr.1 (by omega))
  have HA := Lib.hid (And.intro hA hs)
  have hl80 := hs.1
  obtain ⟨⟨a, cap, rfl, hc1, hc2, _⟩, _⟩ := hA
  clear hs
  generalize pickZ most 3000 = p at *
  go_enter Tryd.func23, Tryd.ntmps23
  go_wp2_with fail
  refine Calls.mono HPK.out ?_
  rintro e w1 ⟨rfl, rfl⟩
  go_wp2_with fail
  refine Calls.mono HNW.out ?_
  rintro e w1 ⟨pb, mb, rfl, hD1, hf1, hp1, hm1⟩
  have HD := Lib.hid (And.intro hD1 hf1)
  clear hD1 hf1
  go_wp2_with fail
  go_loopg [8] (l.length) (fun j u wr => MadeRel w pb mb (newD p) l j u wr)
  case atStart => exact ⟨0, by omega, rfl, HD.out.1, HD.out.2⟩
  case round =>
    obtain ⟨k, hk, rfl, hD, hf⟩ := hrel
    have HK := Lib.hid (And.intro hk (And.intro hD hf))
    clear hk hD hf
    by_cases hlt : k < l.length
    · obtain ⟨m, hm⟩ : ∃ m, l[k]? = some m := ⟨_, List.getElem?_eq_getElem hlt⟩
      obtain ⟨⟨a', cap', e1, _, _, hcell⟩, hacts⟩ := HA.out.1.grow HK.out.2.2
      obtain ⟨rfl, rfl⟩ : a = a' ∧ cap = cap' := by injection e1 with h1 h2 h3; exact ⟨h1, h3⟩
      obtain ⟨g, off, rfl, hS, hcs⟩ := hcell (by omega)
      have hmm := List.mem_of_getElem? hm
      have hin := (hacts m hmm).actV (HA.out.2.2 m hmm)
      obtain ⟨va, vac, hva, hv1, hv2⟩ := hin.keep.form
      obtain ⟨vb, vbc, hvb, hv3, hv4⟩ := hin.noise.form
      have hdo := does_h HK.out.2.1 hin (fun i hi h => by rcases h with h | h <;> omega)
      have q0 := hcs k m 0 _ hm rfl
      have q1 := hcs k m 1 _ hm rfl
      have q2 := hcs k m 2 _ hm rfl
      have q3 := hcs k m 3 _ hm rfl
      have q4 := hcs k m 4 _ hm rfl
      have q5 := hcs k m 5 _ hm rfl
      have q6 := hcs k m 6 _ hm rfl
      unfold actV at hdo
      rw [hva] at q5 hdo
      rw [hvb] at q6 hdo
      rw [Nat.add_zero] at q0
      have HDO := Lib.hid hdo
      have HM := Lib.hid (play_next (D := newD p) hm)
      clear hm hcs hin hva hvb hv1 hv2 hv3 hv4 hdo e1 hcell hacts hmm
      go_wp2_with fail
      refine Calls.mono HDO.out ?_
      rintro e w2 ⟨rfl, hD2, hf2⟩
      have HX := Lib.hid (And.intro hD2 hf2)
      clear hD2 hf2
      go_wp2_with fail
      go_roundg (l.length - (k + 1))
      case measure => have := HK.out; omega
      case rel =>
        refine ⟨k + 1, by omega, by go_num, by rw [HM.out]; exact HX.out.1, HK.out.2.2.trans HX.out.2 fun i hi => ?_⟩
        rcases hi with h | h <;> exact .inr (by omega)
    · have hkl : l.take k = l := List.take_of_length_le (by omega)
      have hD := HK.out.2.1
      rw [hkl] at hD
      have HE := Lib.hid (And.intro hD HK.out.2.2)
      clear hkl hD
      go_wp2_with fail
      go_ret2
      exact ⟨pb, mb, rfl, HE.out.1, HE.out.2, hp1, hm1⟩
end
end Go.Proofs.YtfcnjbkoneinpaaDoor
