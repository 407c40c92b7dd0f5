/- The walks of Most and its reference. -/
import Derived.Test.YtnplikpjogoghaaC1
namespace Go.Proofs.Ytnplikpjogoghaa
open Go.RowKit Go.Lib

section
variable {w : World} {S S' : Nat → Prop} {a b : Value} {l m : List Int}

def cntB (l yes : List Int) : Nat := (l.filter (hasB yes)).length
theorem cnt_next {l yes : List Int} {k : Nat} {p : Int} (hp : l[k]? = some p) : cntB (l.take (k + 1)) yes = cntB (l.take k) yes + if hasB yes p then 1 else 0 := by
  unfold cntB
  rw [List.take_add_one, hp, List.filter_append, List.length_append]
  simp only [Option.toList, List.filter_cons, List.filter_nil]
  split <;> simp
theorem cnt_le (l yes : List Int) : cntB l yes ≤ l.length := List.length_filter_le _ _

set_option maxHeartbeats 1000000 in
theorem most_h (ha : IR w S a l) (hb : IR w S' b m) (hl : l.length < 1000000) (hm : m.length < 1000000) : Calls Try.prog 11 #[a, b] w fun e w' => e = .returned (.bool (decide (l.length / 2 < cntB l m))) ∧ w = w' := by
  have HH := Lib.hid (fun n => chas_h hb hm n)
  clear hb
  obtain ⟨a, cap, rfl, hc1, hc2⟩ := ha.form
  go_enter Try.func11, Try.ntmps11
  go_wp2_with fail
  go_loopg [5, 10] (l.length) (fun j v x wr => ∃ k n : Nat, k + j = l.length ∧ v = .int .i64 n ∧ x = .int .i64 k ∧ n = cntB (l.take k) m ∧ w = wr)
  case atStart => exact ⟨0, 0, by omega, rfl, rfl, rfl, rfl⟩
  case round =>
    obtain ⟨k, n, hk, rfl, rfl, hn, rfl⟩ := hrel
    have hn0 : n ≤ l.length := by rw [hn]; exact Nat.le_trans (cnt_le _ _) (by rw [List.length_take]; omega)
    have HK := Lib.hid (And.intro hk hn)
    clear hk hn
    by_cases hlt : k < l.length
    · obtain ⟨g, off, rfl, hc⟩ := ha.cells (by omega)
      obtain ⟨p, hp⟩ : ∃ p, l[k]? = some p := ⟨_, List.getElem?_eq_getElem hlt⟩
      have c1 := hc k p hp
      have HP := Lib.hid (cnt_next (yes := m) hp)
      clear hc hp
      go_wp2_with fail
      refine Calls.mono (HH.out p) ?_
      rintro e w' ⟨rfl, rfl⟩
      cases hB : hasB m p with
      | true =>
        have HQ := Lib.hid hB
        clear hB
        go_wp2_with fail
        go_roundg (l.length - (k + 1))
        case measure => have := HK.out; omega
        case rel => exact ⟨k + 1, n + 1, by omega, by go_num, by go_num, by rw [HP.out, HQ.out, if_pos rfl, HK.out.2], rfl⟩
      | false =>
        have HQ := Lib.hid hB
        clear hB
        go_wp2_with fail
        go_roundg (l.length - (k + 1))
        case measure => have := HK.out; omega
        case rel => exact ⟨k + 1, n, by omega, by go_num, by go_num, by rw [HP.out, HQ.out, if_neg (by simp), HK.out.2]; rfl, rfl⟩
    · have HE := Lib.hid (show n = cntB l m by have := HK.out.2; rwa [List.take_of_length_le (by omega)] at this)
      go_wp2_with fail
      go_ret
      refine ⟨?_, rfl⟩
      have := HE.out
      subst this
      show Ending.returned (.bool (decide ((l.length : Int) / 2 < (cntB l m : Int)))) = _
      congr 2
      rw [decide_eq_decide]
      omega

set_option maxHeartbeats 1000000 in
theorem rmost_h (ha : IR w S a l) (hb : IR w S' b m) (hl : l.length < 1000000) (hm : m.length < 1000000) : Calls Try.prog 12 #[a, b] w fun e w' => e = .returned (.bool (decide (l.length / 2 < cntB l m))) ∧ w = w' := by
  have HH := Lib.hid (fun n => rhas_h hb hm n)
  clear hb
  obtain ⟨a, cap, rfl, hc1, hc2⟩ := ha.form
  go_enter Try.func12, Try.ntmps12
  go_wp2_with fail
  go_loopg [5, 6] (l.length) (fun j v x wr => ∃ k n : Nat, k + j = l.length ∧ v = .int .i64 n ∧ x = .int .i64 k ∧ n = cntB (l.take k) m ∧ w = wr)
  case atStart => exact ⟨0, 0, by omega, rfl, rfl, rfl, rfl⟩
  case round =>
    obtain ⟨k, n, hk, rfl, rfl, hn, rfl⟩ := hrel
    have hn0 : n ≤ l.length := by rw [hn]; exact Nat.le_trans (cnt_le _ _) (by rw [List.length_take]; omega)
    have HK := Lib.hid (And.intro hk hn)
    clear hk hn
    by_cases hlt : k < l.length
    · obtain ⟨g, off, rfl, hc⟩ := ha.cells (by omega)
      obtain ⟨p, hp⟩ : ∃ p, l[k]? = some p := ⟨_, List.getElem?_eq_getElem hlt⟩
      have c1 := hc k p hp
      have HP := Lib.hid (cnt_next (yes := m) hp)
      clear hc hp
      go_wp2_with fail
      refine Calls.mono (HH.out p) ?_
      rintro e w' ⟨rfl, rfl⟩
      cases hB : hasB m p with
      | true =>
        have HQ := Lib.hid hB
        clear hB
        go_wp2_with fail
        go_roundg (l.length - (k + 1))
        case measure => have := HK.out; omega
        case rel => exact ⟨k + 1, n + 1, by omega, by go_num, by go_num, by rw [HP.out, HQ.out, if_pos rfl, HK.out.2], rfl⟩
      | false =>
        have HQ := Lib.hid hB
        clear hB
        go_wp2_with fail
        go_roundg (l.length - (k + 1))
        case measure => have := HK.out; omega
        case rel => exact ⟨k + 1, n, by omega, by go_num, by go_num, by rw [HP.out, HQ.out, if_neg (by simp), HK.out.2]; rfl, rfl⟩
    · have HE := Lib.hid (show n = cntB l m by have := HK.out.2; rwa [List.take_of_length_le (by omega)] at this)
      go_wp2_with fail
      go_ret
      refine ⟨?_, rfl⟩
      have := HE.out
      subst this
      show Ending.returned (.bool (decide ((l.length : Int) < 2 * (cntB l m : Int)))) = _
      congr 2
      rw [decide_eq_decide]
      omega
end
end Go.Proofs.Ytnplikpjogoghaa
