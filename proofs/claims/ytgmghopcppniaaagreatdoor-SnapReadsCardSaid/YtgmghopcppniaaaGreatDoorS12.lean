/- snap.Right: walked. -/
import Derived.Test.YtgmghopcppniaaaGreatDoorS11
import Derived.Test.YtgmghopcppniaaaGreatDoorC6
import Derived.Deep.RegionHeld3
import Derived.Deep.DeepMust
namespace Go.Proofs.YtgmghopcppniaaaGreatDoor
open Go.RowKit Go.Lib

/-- a base as a value: v is its voters' slice -/
def baseV (b : BaseD) (v : Value) : Value := .agg #[.int .i64 b.index, .int .i64 b.term, v, .string (bs b.data)]
/-- its numbers are a machine's -/
structure BaseIn (w : World) (S : Nat → Prop) (b : BaseD) (v : Value) : Prop where
  row : IR w S v b.voters
  nums : ∀ n ∈ b.voters, I64 n
  index : I64 b.index
  term : I64 b.term
  data : b.data.length ≤ 1000000
theorem BaseIn.fr {w w' : World} {S o : Nat → Prop} {b : BaseD} {v : Value} (h : BaseIn w S b v) (hf : Fr o w w') (ho : ∀ k, S k → ¬ o k) : BaseIn w' S b v := ⟨h.row.fr hf ho, h.nums, h.index, h.term, h.data⟩
theorem BaseIn.grow {w w' : World} {S : Nat → Prop} {b : BaseD} {v : Value} (h : BaseIn w S b v) (hf : Fr (fun _ => False) w w') : BaseIn w' S b v := h.fr hf fun _ _ h => h
theorem BaseIn.mono {w : World} {S S' : Nat → Prop} {b : BaseD} {v : Value} (h : BaseIn w S b v) (hs : ∀ k, S k → S' k) : BaseIn w S' b v := ⟨h.row.mono hs, h.nums, h.index, h.term, h.data⟩
theorem upL_at {l : List Int} {i : Nat} {x : Int} (last : Int) (h : l[i]? = some x) : upL last (l.drop i) = (decide (last < x) && decide (x ≤ 9) && upL x (l.drop (i + 1))) := by
  obtain ⟨hl, rfl⟩ := List.getElem?_eq_some_iff.1 h
  conv => lhs; rw [← List.getElem_cons_drop hl]
  rfl
/-- what comes behind the voters -/
def restB (b : BaseD) : Bool := (decide (0 < b.index) && (decide (b.index ≤ 1099511627776) && (decide (0 ≤ b.term) && (decide (b.term ≤ 1099511627776) && (decide (0 < b.voters.length) && decide (b.data.length ≤ 4000000))))))
theorem right_rest (b : BaseD) : rightB b = (upL 0 b.voters && restB b) := rfl
def RightPost (b : BaseD) (w : World) (e : Ending) (w' : World) : Prop := e = .returned (.bool (rightB b)) ∧ Fr (fun _ => False) w w'
theorem right_no {b : BaseD} {w w' : World} (h : rightB b = false) (hf : Fr (fun _ => False) w w') : RightPost b w (.returned (.bool false)) w' := ⟨by rw [h], hf⟩
theorem right_yes {b : BaseD} {w w' : World} (h : rightB b = true) (hf : Fr (fun _ => False) w w') : RightPost b w (.returned (.bool true)) w' := ⟨by rw [h], hf⟩
theorem right_is {b : BaseD} {w w' : World} {x : Bool} (h : rightB b = x) (hf : Fr (fun _ => False) w w') : RightPost b w (.returned (.bool x)) w' := ⟨by rw [h], hf⟩
set_option maxRecDepth 100000 in
set_option maxHeartbeats 8000000 in
theorem right_h {w : World} {S : Nat → Prop} {b : BaseD} {v : Value} (h : BaseIn w S b v) : Calls Tryz.prog 22 #[baseV b v] w (RightPost b w) := by
  obtain ⟨hrow, hnums, hidx, htrm, hdat⟩ := h
  obtain ⟨a, cap, rfl, hcap, hcap2⟩ := hrow.form
  unfold baseV
  obtain ⟨w1, hw1⟩ : ∃ w1, w1 = w.alloc (.cells #[.int .i64 b.index, .int .i64 b.term, .slice a b.voters.length cap, .string (bs b.data)] 24) := ⟨_, rfl⟩
  have HF : Hid (Fr (fun _ => False) w w1) := by show Fr _ _ _; rw [hw1]; exact (Fr.refl _ _).alloc _
  have hB : w1.heap[w.heap.size]? = some (.cells #[.int .i64 b.index, .int .i64 b.term, .slice a b.voters.length cap, .string (bs b.data)] 24 (0, 0)) := by rw [hw1]; exact block_new _ _
  have x0 := cell_of hB (i := 0) (v := .int .i64 b.index) rfl
  have x1 := cell_of hB (i := 1) (v := .int .i64 b.term) rfl
  have x2 := cell_of hB (i := 2) (v := .slice a b.voters.length cap) rfl
  have x3 := cell_of hB (i := 3) (v := .string (bs b.data)) rfl
  have HR := Lib.hid (hrow.grow HF.out)
  have HN := Lib.hid hnums
  have hln : (bs b.data).size = b.data.length := rfl
  clear hrow hnums hB
  go_enter Tryz.func22, Tryz.ntmps22
  go_wp2_with fail
  rw [← hw1]
  clear hw1
  go_loopg [3, 9] (b.voters.length) (fun j v3 v9 wr => ∃ (i : Nat) (last : Int), i + j = b.voters.length ∧ v3 = .int .i64 last ∧ v9 = .int .i64 (i : Int) ∧ Hid (upL 0 b.voters = upL last (b.voters.drop i)) ∧ 0 ≤ last ∧ last ≤ 9 ∧ wr = w1)
  case atStart => exact ⟨0, 0, by omega, rfl, rfl, rfl, by omega, by omega, rfl⟩
  case round =>
    obtain ⟨i, last, hi, rfl, rfl, HU, hl0, hl9, rfl⟩ := hrel
    have HX := Lib.hid hi
    clear hi
    by_cases hlt : i < b.voters.length
    · obtain ⟨n, hn⟩ : ∃ n, b.voters[i]? = some n := ⟨_, List.getElem?_eq_getElem hlt⟩
      obtain ⟨g, off, rfl, hc⟩ := HR.out.cells (by omega)
      have c0 := hc i n hn
      have HC := Lib.hid (upL_at last hn)
      have hnI := HN.out n (List.mem_of_getElem? hn)
      unfold I64 at hnI
      clear hc hn
      by_cases hv : last < n ∧ n ≤ 9
      · have q1 : ¬ n ≤ last := by omega
        have q2 : ¬ 9 < n := by omega
        have e1 : upL last (b.voters.drop i) = upL n (b.voters.drop (i + 1)) := by
          rw [HC.out, decide_eq_true hv.1, decide_eq_true hv.2]; rfl
        have HU2 := Lib.hid (HU.out.trans e1)
        clear e1
        go_wp2_with fail
        go_roundg (b.voters.length - (i + 1))
        case measure => have := HX.out; omega
        case rel => exact ⟨i + 1, n, by omega, rfl, by go_num, HU2.out, by omega, by omega, rfl⟩
      · have e1 : upL last (b.voters.drop i) = false := by
          rw [HC.out]
          rcases Decidable.not_and_iff_not_or_not.1 hv with h1 | h1
          · rw [decide_eq_false h1]; rfl
          · rw [decide_eq_false h1, Bool.and_false]; rfl
        have HE : Hid (rightB b = false) := by show rightB b = false; rw [right_rest, HU.out, e1]; rfl
        clear e1
        by_cases q1 : n ≤ last
        · go_wp2_with fail
          go_ret
          exact right_no HE.out HF.out
        · have q2 : 9 < n := by omega
          go_wp2_with fail
          go_ret
          exact right_no HE.out HF.out
    · have hge : ¬ i < b.voters.length := hlt
      have e1 : rightB b = restB b := by
        rw [right_rest, HU.out, List.drop_eq_nil_of_le (by omega)]; rfl
      have HE := Lib.hid e1
      clear e1
      unfold I64 at hidx htrm
      have hI : (i : Int) = b.voters.length := by have := HX.out; omega
      have hI2 : ¬ (i : Int) < b.voters.length := by omega
      clear hI
      by_cases r1 : 0 < b.index
      · by_cases r2 : b.index ≤ 1099511627776
        · by_cases r3 : 0 ≤ b.term
          · by_cases r4 : b.term ≤ 1099511627776
            · by_cases r5 : (0 : Int) < b.voters.length
              · have r6 : (b.data.length : Int) ≤ 4000000 := by omega
                go_wp2_with fail
                go_ret
                exact right_is (by rw [HE.out]; unfold restB; simp <;> omega) HF.out
              · go_wp2_with fail
                go_ret
                exact right_is (by rw [HE.out]; unfold restB; simp <;> omega) HF.out
            · go_wp2_with fail
              go_ret
              exact right_is (by rw [HE.out]; unfold restB; simp <;> omega) HF.out
          · go_wp2_with fail
            go_ret
            exact right_is (by rw [HE.out]; unfold restB; simp <;> omega) HF.out
        · go_wp2_with fail
          go_ret
          exact right_is (by rw [HE.out]; unfold restB; simp <;> omega) HF.out
      · go_wp2_with fail
        go_ret
        exact right_is (by rw [HE.out]; unfold restB; simp <;> omega) HF.out
end Go.Proofs.YtgmghopcppniaaaGreatDoor
