/- The laws' own: pick, small, same, sameTexts. -/
import Derived.Test.YtgmghopcppniaaaGreatDoorS22
namespace Go.Proofs.YtgmghopcppniaaaGreatDoor
open Go.RowKit Go.Lib

theorem pick_h {w : World} {c n : Int} (hc1 : -9223372036854775808 ≤ c) (hc2 : c ≤ 9223372036854775807) (hn : 0 < n) (hn2 : n ≤ 1000000) : Calls Tryz.prog 20 #[.int .i64 c, .int .i64 n] w fun e w' => e = .returned (.int .i64 (pickZ c n)) ∧ w = w' := by
  by_cases h : c < 0
  · have d1 : decide (c < 0) = true := by simpa using h
    have HE := Lib.hid (show pickZ c n = (-(c + 1)) % n by unfold pickZ; rw [if_pos h])
    have hb : 0 ≤ -(c + 1) := by omega
    have hne : n ≠ 0 := by omega
    clear h
    go_enter Tryz.func20, Tryz.ntmps20
    go_wp2_with fail
    go_ret
    have HT : -((c + 1).tmod n) = -(c + 1) % n := by rw [← Int.neg_tmod, Int.tmod_eq_emod_of_nonneg hb]
    exact ⟨by rw [HE.out, ← HT]; rfl, rfl⟩
  · have d1 : decide (c < 0) = false := by simpa using h
    have h0 : 0 ≤ c := by omega
    have HE := Lib.hid (show pickZ c n = c % n by unfold pickZ; rw [if_neg h])
    have hne : n ≠ 0 := by omega
    clear h
    go_enter Tryz.func20, Tryz.ntmps20
    go_wp2_with fail
    go_ret
    exact ⟨by rw [HE.out]; rfl, rfl⟩
def smallB (b : BaseD) : Bool := decide (b.voters.length ≤ 20) && decide (b.data.length ≤ 5000)
theorem small_h {w : World} {b : BaseD} {a : Option Addr} {cap : Nat} (hv : b.voters.length ≤ 9223372036854775807) (hd : b.data.length ≤ 9223372036854775807) :
    Calls Tryz.prog 15 #[baseV b (.slice a b.voters.length cap)] w fun e w' => e = .returned (.bool (smallB b)) ∧ Fr (fun _ => False) w w' := by
  have hln : (bs b.data).size = b.data.length := rfl
  unfold baseV
  by_cases h1 : b.voters.length ≤ 20
  · have h1i : (b.voters.length : Int) ≤ 20 := by omega
    by_cases h2 : b.data.length ≤ 5000
    · have h2i : (b.data.length : Int) ≤ 5000 := by omega
      have HE : Hid (smallB b = true) := by show smallB b = true; unfold smallB; rw [decide_eq_true h1, decide_eq_true h2]; rfl
      clear h1 h2
      go_enter Tryz.func15, Tryz.ntmps15
      go_wp2_with fail
      go_ret
      exact ⟨by rw [HE.out]; rfl, (Fr.refl _ _).alloc _⟩
    · have h2i : ¬ (b.data.length : Int) ≤ 5000 := by omega
      have h2d : decide ((b.data.length : Int) ≤ 5000) = false := decide_eq_false h2i
      have HE : Hid (smallB b = false) := by show smallB b = false; unfold smallB; rw [decide_eq_false h2, Bool.and_false]
      clear h1 h2
      go_enter Tryz.func15, Tryz.ntmps15
      go_wp2_with fail
      go_ret
      exact ⟨by rw [HE.out]; rfl, (Fr.refl _ _).alloc _⟩
  · have h1i : ¬ (b.voters.length : Int) ≤ 20 := by omega
    have h1d : decide ((b.voters.length : Int) ≤ 20) = false := decide_eq_false h1i
    have HE : Hid (smallB b = false) := by show smallB b = false; unfold smallB; rw [decide_eq_false h1, Bool.false_and]
    clear h1
    go_enter Tryz.func15, Tryz.ntmps15
    go_wp2_with fail
    go_ret
    exact ⟨by rw [HE.out]; rfl, (Fr.refl _ _).alloc _⟩
/-! ### same -/
def SamePost (a b : BaseD) (w : World) (e : Ending) (w' : World) : Prop := e = .returned (.bool (decide (a = b))) ∧ Fr (fun _ => False) w w'
theorem same_no {a b : BaseD} {w w' : World} (h : a ≠ b) (hf : Fr (fun _ => False) w w') : SamePost a b w (.returned (.bool false)) w' := ⟨by rw [decide_eq_false h], hf⟩
theorem same_yes {a b : BaseD} {w w' : World} (h : a = b) (hf : Fr (fun _ => False) w w') : SamePost a b w (.returned (.bool true)) w' := ⟨by rw [decide_eq_true h], hf⟩
theorem list_ne {l m : List Int} {i : Nat} {x y : Int} (h1 : l[i]? = some x) (h2 : m[i]? = some y) (h : x ≠ y) : l ≠ m := by
  rintro rfl; rw [h1] at h2; exact h (Option.some.inj h2)
theorem take_eq {l m : List Int} {i : Nat} {x : Int} (h : l.take i = m.take i) (h1 : l[i]? = some x) (h2 : m[i]? = some x) : l.take (i + 1) = m.take (i + 1) := by
  rw [List.take_add_one, List.take_add_one, h, h1, h2]
set_option maxRecDepth 100000 in
set_option maxHeartbeats 8000000 in
theorem same_h {w : World} {S S' : Nat → Prop} {a b : BaseD} {va vb : Value} (hA : BaseIn w S a va) (hB : BaseIn w S' b vb) : Calls Tryz.prog 18 #[baseV a va, baseV b vb] w (SamePost a b w) := by
  obtain ⟨aa, ac, rfl, ha1, ha2⟩ := hA.row.form
  obtain ⟨ba, bc, rfl, hb1, hb2⟩ := hB.row.form
  unfold baseV
  obtain ⟨w1, hw1⟩ : ∃ w1, w1 = (w.alloc (.cells #[.int .i64 a.index, .int .i64 a.term, .slice aa a.voters.length ac, .string (bs a.data)] 24)).alloc (.cells #[.int .i64 b.index, .int .i64 b.term, .slice ba b.voters.length bc, .string (bs b.data)] 24) := ⟨_, rfl⟩
  have HF : Hid (Fr (fun _ => False) w w1) := by show Fr _ _ _; rw [hw1]; exact ((Fr.refl _ _).alloc _).alloc _
  have h1 : w1.heap[w.heap.size]? = some (.cells #[.int .i64 a.index, .int .i64 a.term, .slice aa a.voters.length ac, .string (bs a.data)] 24 (0, 0)) := by rw [hw1]; exact block_old (block_new _ _) _
  have h2 : w1.heap[w.heap.size + 1]? = some (.cells #[.int .i64 b.index, .int .i64 b.term, .slice ba b.voters.length bc, .string (bs b.data)] 24 (0, 0)) := by rw [hw1]; exact block_new_at (by simp)
  have x0 := cell_of h1 (i := 0) (v := .int .i64 a.index) rfl
  have x1 := cell_of h1 (i := 1) (v := .int .i64 a.term) rfl
  have x2 := cell_of h1 (i := 2) (v := .slice aa a.voters.length ac) rfl
  have x3 := cell_of h1 (i := 3) (v := .string (bs a.data)) rfl
  have y0 := cell_of h2 (i := 0) (v := .int .i64 b.index) rfl
  have y1 := cell_of h2 (i := 1) (v := .int .i64 b.term) rfl
  have y2 := cell_of h2 (i := 2) (v := .slice ba b.voters.length bc) rfl
  have y3 := cell_of h2 (i := 3) (v := .string (bs b.data)) rfl
  have HRA := Lib.hid (hA.row.grow HF.out)
  have HRB := Lib.hid (hB.row.grow HF.out)
  clear hA hB h1 h2
  go_enter Tryz.func18, Tryz.ntmps18
  go_upto_region 1 with fail
  rw [← hw1]
  clear hw1
  by_cases q1 : a.index = b.index
  · have d1 : (a.index != b.index) = false := by simpa using q1
    have e1 : decide (a.index = b.index) = true := by simpa using q1
    by_cases q2 : a.term = b.term
    · have d2 : (a.term != b.term) = false := by simpa using q2
      have e2 : decide (a.term = b.term) = true := by simpa using q2
      by_cases q3 : a.data = b.data
      · have d3 : decide (bs a.data = bs b.data) = true := by rw [q3]; simp
        have e3 : ((bs a.data).toList != (bs b.data).toList) = false := by rw [q3]; simp
        by_cases q4 : a.voters.length = b.voters.length
        · have Q := Lib.hid (And.intro q1 (And.intro q2 (And.intro q3 q4)))
          have d4 : (a.voters.length != b.voters.length) = false := by simpa using q4
          have e4 : decide (a.voters.length = b.voters.length) = true := by simpa using q4
          have g4 : ((a.voters.length : Int) != (b.voters.length : Int)) = false := by rw [q4]; simp
          have hnl : a.voters.length ≤ 9223372036854775807 := by omega
          have hn3 : bs a.data = bs b.data := by rw [q3]
          clear q1 q2 q3 q4
          go_wp2_with fail
          clear d1 e1 d2 e2 d3 e3 d4 e4 g4
          go_loopg [5] (a.voters.length) (fun j v5 wr => ∃ (i p : Nat), i + j = a.voters.length ∧ v5 = .int .i64 (i : Int) ∧ w1.drewN p = wr ∧ Hid (a.voters.take i = b.voters.take i))
          case atStart => exact ⟨0, 0, by omega, rfl, rfl, rfl⟩
          case round =>
            obtain ⟨i, p, hi, rfl, rfl, HT⟩ := hrel
            have HX := Lib.hid hi
            clear hi
            by_cases hlt : i < a.voters.length
            · have hlb : i < b.voters.length := by have := Q.out.2.2.2; omega
              obtain ⟨u, hu⟩ : ∃ u, a.voters[i]? = some u := ⟨_, List.getElem?_eq_getElem hlt⟩
              obtain ⟨v, hv⟩ : ∃ v, b.voters[i]? = some v := ⟨_, List.getElem?_eq_getElem hlb⟩
              obtain ⟨ga, oa, rfl, hca⟩ := HRA.out.cells (by omega)
              obtain ⟨gb, ob, rfl, hcb⟩ := HRB.out.cells (by omega)
              have c1 := hca i u hu
              have c2 := hcb i v hv
              have hib : (i : Int) < b.voters.length := by omega
              have hia : (i : Int) < a.voters.length := by omega
              clear hca hcb
              by_cases huv : u = v
              · have r1 : (u != v) = false := by simpa using huv
                have r2 : decide (u = v) = true := by simpa using huv
                have HT2 := Lib.hid (take_eq HT.out hu (by rw [huv]; exact hv))
                clear huv hu hv
                go_wp2_with fail
                go_big_quiet (fail)
                go_wp2_with fail
                go_roundg (a.voters.length - (i + 1))
                case measure => have := HX.out; omega
                case rel => exact ⟨i + 1, p + nq, by omega, by go_num, rfl, HT2.out⟩
              · have r1 : (u != v) = true := by simpa using huv
                have r2 : decide (u = v) = false := by simpa using huv
                have HNE := Lib.hid (show a ≠ b from fun e => list_ne hu hv huv (by rw [e]))
                clear huv hu hv
                go_wp2_with fail
                go_big_quiet (fail)
                go_wp2_with fail
                go_ret
                exact same_no HNE.out ((HF.out.drewN _).drewN _)
            · obtain rfl : i = a.voters.length := by have := HX.out; omega
              have HEQ : Hid (a = b) := by
                show a = b
                have h := HT.out
                rw [List.take_length, Q.out.2.2.2, List.take_length] at h
                obtain ⟨e1, e2, e3, _⟩ := Q.out
                cases a; cases b
                simp only at e1 e2 e3 h
                rw [e1, e2, e3, h]
              go_wp2_with fail
              go_ret
              exact same_yes HEQ.out (HF.out.drewN _)
        · have HNE := Lib.hid (show a ≠ b from fun e => q4 (by rw [e]))
          have d4 : (a.voters.length != b.voters.length) = true := by simpa using q4
          have e4 : decide (a.voters.length = b.voters.length) = false := by simpa using q4
          have g4 : ((a.voters.length : Int) != (b.voters.length : Int)) = true := by simpa using (show ¬ (a.voters.length : Int) = b.voters.length by omega)
          have hn3 : bs a.data = bs b.data := by rw [q3]
          clear q1 q2 q3 q4
          go_wp2_with fail
          go_ret
          exact same_no HNE.out HF.out
      · have HNE := Lib.hid (show a ≠ b from fun e => q3 (by rw [e]))
        have hn3 : ¬ bs a.data = bs b.data := fun e => q3 (bs_inj e)
        have d3 : decide (bs a.data = bs b.data) = false := decide_eq_false hn3
        have e3 : ¬ (bs a.data).toList = (bs b.data).toList := by rw [bs_toList, bs_toList]; exact q3
        clear q1 q2 q3
        go_wp2_with fail
        go_ret
        exact same_no HNE.out HF.out
    · have HNE := Lib.hid (show a ≠ b from fun e => q2 (by rw [e]))
      have d2 : (a.term != b.term) = true := by simpa using q2
      have e2 : decide (a.term = b.term) = false := by simpa using q2
      clear q1 q2
      go_wp2_with fail
      go_ret
      exact same_no HNE.out HF.out
  · have HNE := Lib.hid (show a ≠ b from fun e => q1 (by rw [e]))
    have d1 : (a.index != b.index) = true := by simpa using q1
    have e1 : decide (a.index = b.index) = false := by simpa using q1
    clear q1
    go_wp2_with fail
    go_ret
    exact same_no HNE.out HF.out
/-! ### sameTexts -/
def SR (w : World) (S : Nat → Prop) (v : Value) (l : List Str) : Prop := SRow w S 1 v l.length (l.map encS)
theorem SR.form {w : World} {S : Nat → Prop} {v : Value} {l : List Str} (h : SR w S v l) : ∃ a cap, v = .slice a l.length cap ∧ l.length ≤ cap ∧ cap ≤ 9223372036854775807 := let ⟨_, a, cap, h2, h3, h4, _⟩ := h; ⟨a, cap, h2, h3, by unfold maxLen at h4; exact h4⟩
theorem SR.cells {w : World} {S : Nat → Prop} {a : Option Addr} {cap : Nat} {l : List Str} (h : SR w S (.slice a l.length cap) l) (hn : 0 < l.length) : ∃ g off, a = some ⟨g, off, none⟩ ∧ ∀ i s, l[i]? = some s → w.cell? ⟨g, off + i, none⟩ = some (.string (bs s)) := by
  obtain ⟨g, off, e, hc⟩ := SRow.cell h hn
  exact ⟨g, off, e, fun i s hs => hc i _ (by rw [List.getElem?_map, hs]; rfl)⟩
theorem SR.grow {w w' : World} {S : Nat → Prop} {v : Value} {l : List Str} (h : SR w S v l) (hf : Fr (fun _ => False) w w') : SR w' S v l := SRow.fr h hf fun _ _ h => h
theorem texts_ne {l m : List Str} {i : Nat} {x y : Str} (h1 : l[i]? = some x) (h2 : m[i]? = some y) (h : x ≠ y) : l ≠ m := by
  rintro rfl; rw [h1] at h2; exact h (Option.some.inj h2)
theorem texts_take {l m : List Str} {i : Nat} {x : Str} (h : l.take i = m.take i) (h1 : l[i]? = some x) (h2 : m[i]? = some x) : l.take (i + 1) = m.take (i + 1) := by
  rw [List.take_add_one, List.take_add_one, h, h1, h2]
def TextsPost (a b : List Str) (w : World) (e : Ending) (w' : World) : Prop := e = .returned (.bool (decide (a = b))) ∧ Fr (fun _ => False) w w'
theorem texts_no {a b : List Str} {w w' : World} (h : a ≠ b) (hf : Fr (fun _ => False) w w') : TextsPost a b w (.returned (.bool false)) w' := ⟨by rw [decide_eq_false h], hf⟩
theorem texts_yes {a b : List Str} {w w' : World} (h : a = b) (hf : Fr (fun _ => False) w w') : TextsPost a b w (.returned (.bool true)) w' := ⟨by rw [decide_eq_true h], hf⟩
set_option maxRecDepth 100000 in
set_option maxHeartbeats 8000000 in
theorem sametexts_h {w : World} {S S' : Nat → Prop} {a b : List Str} {va vb : Value} (hA : SR w S va a) (hB : SR w S' vb b) : Calls Tryz.prog 57 #[va, vb] w (TextsPost a b w) := by
  obtain ⟨aa, ac, rfl, ha1, ha2⟩ := hA.form
  obtain ⟨ba, bc, rfl, hb1, hb2⟩ := hB.form
  have HRA := Lib.hid hA
  have HRB := Lib.hid hB
  clear hA hB
  by_cases q4 : a.length = b.length
  · have Q := Lib.hid q4
    have d4 : (a.length != b.length) = false := by simpa using q4
    have g4 : ((a.length : Int) != (b.length : Int)) = false := by rw [q4]; simp
    have hnl : a.length ≤ 9223372036854775807 := by omega
    clear q4
    go_enter Tryz.func57, Tryz.ntmps57
    go_wp2_with fail
    clear d4 g4
    go_loopg [5] (a.length) (fun j v5 wr => ∃ (i p : Nat), i + j = a.length ∧ v5 = .int .i64 (i : Int) ∧ w.drewN p = wr ∧ Hid (a.take i = b.take i))
    case atStart => exact ⟨0, 0, by omega, rfl, rfl, rfl⟩
    case round =>
      obtain ⟨i, p, hi, rfl, rfl, HT⟩ := hrel
      have HX := Lib.hid hi
      clear hi
      by_cases hlt : i < a.length
      · have hlb : i < b.length := by have := Q.out; omega
        obtain ⟨u, hu⟩ : ∃ u, a[i]? = some u := ⟨_, List.getElem?_eq_getElem hlt⟩
        obtain ⟨v, hv⟩ : ∃ v, b[i]? = some v := ⟨_, List.getElem?_eq_getElem hlb⟩
        obtain ⟨ga, oa, rfl, hca⟩ := HRA.out.cells (by omega)
        obtain ⟨gb, ob, rfl, hcb⟩ := HRB.out.cells (by omega)
        have c1 := hca i u hu
        have c2 := hcb i v hv
        have hib : (i : Int) < b.length := by omega
        have hia : (i : Int) < a.length := by omega
        clear hca hcb
        by_cases huv : u = v
        · subst huv
          have HT2 := Lib.hid (texts_take HT.out hu hv)
          clear hu hv
          go_wp2_with fail
          go_big_quiet (fail)
          go_wp2_with fail
          go_roundg (a.length - (i + 1))
          case measure => have := HX.out; omega
          case rel => exact ⟨i + 1, p + nq, by omega, by go_num, rfl, HT2.out⟩
        · have r1 : ¬ (bs u).toList = (bs v).toList := by rw [bs_toList, bs_toList]; exact huv
          have r2 : ((bs u).toList == (bs v).toList) = false := by rw [bs_toList, bs_toList]; exact beq_eq_false_iff_ne.2 huv
          have HNE := Lib.hid (show a ≠ b from texts_ne hu hv huv)
          clear huv hu hv
          go_wp2_with fail
          go_big_quiet (fail)
          go_wp2_with fail
          go_ret
          exact texts_no HNE.out (((Fr.refl _ _).drewN _).drewN _)
      · obtain rfl : i = a.length := by have := HX.out; omega
        have HEQ : Hid (a = b) := by
          show a = b
          have h := HT.out
          rwa [List.take_length, Q.out, List.take_length] at h
        go_wp2_with fail
        go_ret
        exact texts_yes HEQ.out ((Fr.refl _ _).drewN _)
  · have HNE := Lib.hid (show a ≠ b from fun e => q4 (by rw [e]))
    have d4 : (a.length != b.length) = true := by simpa using q4
    have g4 : ((a.length : Int) != (b.length : Int)) = true := by simpa using (show ¬ (a.length : Int) = b.length by omega)
    clear q4
    go_enter Tryz.func57, Tryz.ntmps57
    go_wp2_with fail
    go_ret
    exact texts_no HNE.out (Fr.refl _ _)
end Go.Proofs.YtgmghopcppniaaaGreatDoor
