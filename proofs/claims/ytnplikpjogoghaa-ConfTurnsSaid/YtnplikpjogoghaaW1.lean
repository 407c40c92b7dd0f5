/- The walks of same and meet. -/
import Derived.Test.YtnplikpjogoghaaC1
namespace Go.Proofs.Ytnplikpjogoghaa
open Go.RowKit Go.Lib

def SameRel (l m : List Int) (w : World) (j : Nat) (v : Value) (wr : World) : Prop := ∃ k N : Nat, k + j = l.length ∧ v = .int .i64 k ∧ l.take k = m.take k ∧ wr = w.drewN N

theorem take_next {l m : List Int} {k : Nat} {p q : Int} (h : l.take k = m.take k) (hp : l[k]? = some p) (hq : m[k]? = some q) (e : p = q) : l.take (k + 1) = m.take (k + 1) := by
  rw [List.take_add_one, List.take_add_one, h, hp, hq, e]

set_option maxHeartbeats 1000000 in
theorem same_h {w : World} {S S' : Nat → Prop} {a b : Value} {l m : List Int} (ha : IR w S a l) (hb : IR w S' b m) (hl : l.length < 1000000) (hm : m.length < 1000000) :
    Calls Try.prog 22 #[a, b] w fun e w' => e = .returned (.bool (decide (l = m))) ∧ ∃ n, w' = w.drewN n := by
  obtain ⟨a, cap, rfl, ha1, ha2⟩ := ha.form
  obtain ⟨b, cap2, rfl, hb1, hb2⟩ := hb.form
  by_cases hlen : l.length = m.length
  · have b1 : ((l.length : Int) != (m.length : Int)) = false := by simp [hlen]
    have b2 : (l.length != m.length) = false := by simp [hlen]
    have HL := Lib.hid hlen
    clear hlen
    go_enter Try.func22, Try.ntmps22
    go_wp2_with fail
    go_loopg [5] (l.length) (fun j v wr => SameRel l m w j v wr)
    case atStart => exact ⟨0, 0, by omega, rfl, rfl, rfl⟩
    case round =>
      obtain ⟨k, N, hk, rfl, ht, rfl⟩ := hrel
      have HK := Lib.hid (And.intro hk ht)
      clear hk ht
      by_cases hlt : k < l.length
      · have hlt2 : k < m.length := by rw [← HL.out]; exact hlt
        obtain ⟨g, off, rfl, hc⟩ := ha.cells (by omega)
        obtain ⟨g2, off2, rfl, hc2⟩ := hb.cells (by omega)
        obtain ⟨p, hp⟩ : ∃ p, l[k]? = some p := ⟨_, List.getElem?_eq_getElem hlt⟩
        obtain ⟨q, hq⟩ : ∃ p, m[k]? = some p := ⟨_, List.getElem?_eq_getElem hlt2⟩
        have c1 := hc k p hp
        have c2 := hc2 k q hq
        have HP := Lib.hid (And.intro hp hq)
        clear hc hc2 hp hq
        by_cases he : p = q
        · have d1 : (p != q) = false := by simpa using he
          have HE := Lib.hid he
          clear he
          go_wp2_with fail
          go_quiet (fail)
          go_wp2_with fail
          go_roundg (l.length - (k + 1))
          case measure => have := HK.out; omega
          case rel => exact ⟨k + 1, _, by omega, by go_num, take_next HK.out.2 HP.out.1 HP.out.2 HE.out, rfl⟩
        · have d1 : (p != q) = true := by simpa using he
          have hne : decide (l = m) = false := by
            rw [decide_eq_false_iff_not]; intro e; apply he
            have := HP.out; rw [e] at this; rw [this.1] at this; exact Option.some.inj this.2
          have HE := Lib.hid hne
          clear he hne
          go_wp2_with fail
          go_quiet (fail)
          go_wp2_with fail
          go_ret
          exact ⟨by rw [HE.out]; rfl, _, World.drewN_drewN _ _ _⟩
      · have hne : decide (l = m) = true := by
          rw [decide_eq_true_iff]
          have := HK.out.2
          rwa [List.take_of_length_le (by omega), List.take_of_length_le (by rw [← HL.out]; omega)] at this
        have HE := Lib.hid hne
        clear hne
        go_wp2_with fail
        go_ret
        exact ⟨by rw [HE.out]; rfl, _, rfl⟩
  · have b1 : ((l.length : Int) != (m.length : Int)) = true := by simp; omega
    have b2 : (l.length != m.length) = true := by simp [hlen]
    have hne : decide (l = m) = false := by
      rw [decide_eq_false_iff_not]; intro e; exact hlen (by rw [e])
    have HE := Lib.hid hne
    clear hlen hne
    go_enter Try.func22, Try.ntmps22
    go_wp2_with fail
    go_ret
    exact ⟨by rw [HE.out]; rfl, 0, rfl⟩


section
variable {w : World} {S S' S'' : Nat → Prop} {a b c : Value} {l m n : List Int}
def meetB (l m n : List Int) : Bool := l.any fun x => hasB m x && hasB n x
theorem meet_next {l m n : List Int} {k : Nat} {p : Int} (h : meetB (l.take k) m n = false) (hp : l[k]? = some p) (hn : (hasB m p && hasB n p) = false) : meetB (l.take (k + 1)) m n = false := by
  unfold meetB at *
  rw [List.take_add_one, hp, List.any_append, h]
  simp only [Option.toList, List.any_cons, List.any_nil, hn]
  rfl
set_option maxHeartbeats 1000000 in
theorem meet_h (ha : IR w S a l) (hb : IR w S' b m) (hc : IR w S'' c n) (hl : l.length < 1000000) (hm : m.length < 1000000) (hn : n.length < 1000000) : Calls Try.prog 27 #[a, b, c] w fun e w' => e = .returned (.bool (meetB l m n)) ∧ w = w' := by
  have HB := Lib.hid (fun x => chas_h hb hm x)
  have HC := Lib.hid (fun x => chas_h hc hn x)
  clear hb hc
  obtain ⟨a, cap, rfl, hc1, hc2⟩ := ha.form
  go_enter Try.func27, Try.ntmps27
  go_wp2_with fail
  go_loopg [7] (l.length) (fun j v wr => ∃ k : Nat, k + j = l.length ∧ v = .int .i64 k ∧ meetB (l.take k) m n = false ∧ w = wr)
  case atStart => exact ⟨0, by omega, rfl, rfl, rfl⟩
  case round =>
    obtain ⟨k, hk, rfl, ht, rfl⟩ := hrel
    have HK := Lib.hid (And.intro hk ht)
    clear hk ht
    by_cases hlt : k < l.length
    · obtain ⟨g, off, rfl, hcs⟩ := ha.cells (by omega)
      obtain ⟨p, hp⟩ : ∃ p, l[k]? = some p := ⟨_, List.getElem?_eq_getElem hlt⟩
      have c1 := hcs k p hp
      have HP := Lib.hid hp
      clear hcs hp
      go_wp2_with fail
      refine Calls.mono (HB.out p) ?_
      rintro e w' ⟨rfl, rfl⟩
      go_wp2_with fail
      refine Calls.mono (HC.out p) ?_
      rintro e w' ⟨rfl, rfl⟩
      cases h1 : hasB m p with
      | false =>
        have HN := Lib.hid (meet_next HK.out.2 HP.out (by rw [h1]; rfl))
        clear h1
        go_wp2_with fail
        go_roundg (l.length - (k + 1))
        case measure => have := HK.out; omega
        case rel => exact ⟨k + 1, by omega, by go_num, HN.out, rfl⟩
      | true =>
        cases h2 : hasB n p with
        | false =>
          have HN := Lib.hid (meet_next HK.out.2 HP.out (by rw [h2, Bool.and_false]))
          clear h1 h2
          go_wp2_with fail
          go_roundg (l.length - (k + 1))
          case measure => have := HK.out; omega
          case rel => exact ⟨k + 1, by omega, by go_num, HN.out, rfl⟩
        | true =>
          have HT := Lib.hid (show meetB l m n = true by unfold meetB; rw [List.any_eq_true]; exact ⟨p, List.mem_of_getElem? HP.out, by rw [h1, h2]; rfl⟩)
          clear h1 h2
          go_wp2_with fail
          go_ret
          exact ⟨by rw [HT.out]; rfl, rfl⟩
    · have HE := Lib.hid (show meetB l m n = false by have := HK.out.2; rwa [List.take_of_length_le (by omega)] at this)
      go_wp2_with fail
      go_ret
      exact ⟨by rw [HE.out]; rfl, rfl⟩
end
end Go.Proofs.Ytnplikpjogoghaa
