/- The walk of the reference's Without. -/
import Derived.Test.YtnplikpjogoghaaC4
namespace Go.Proofs.Ytnplikpjogoghaa
open Go.RowKit Go.Lib

theorem info3b : (Try.prog.info? 3).map (fun i => (i.zero, i.size, i.bytes)) = some (some (.int .i64 0), 1, 8) := by kernel_rfl
def withoutL (l : List Int) (n : Int) : List Int := l.filter fun x => !decide (x = n)
theorem out_next {l : List Int} {k : Nat} {p n : Int} (hp : l[k]? = some p) : withoutL (l.take (k + 1)) n = withoutL (l.take k) n ++ if p = n then [] else [p] := by
  unfold withoutL
  rw [List.take_add_one, hp, List.filter_append]
  by_cases h : p = n <;> simp [h]

section
variable {w : World} {S S' : Nat → Prop} {a b : Value} {l m : List Int}
def OutPost (l : List Int) (w : World) (e : Ending) (w' : World) : Prop := ∃ v, e = .returned v ∧ OI w' w.heap.size v l ∧ Fr (fun _ => False) w w'

set_option maxHeartbeats 1000000 in
theorem rwithout_h (ha : IR w S a l) (hl : l.length < 1000000) (n : Int) : Calls Try.prog 26 #[a, .int .i64 n] w (OutPost (withoutL l n) w) := by
  obtain ⟨i0, hi, hz0, hz1, hz2⟩ := info_parts info3b
  obtain ⟨a, cap, rfl, hc1, hc2⟩ := ha.form
  go_enter Try.func26, Try.ntmps26
  go_wp2_with fail
  go_loopg [5, 6] (l.length) (fun j v i wr => ∃ k : Nat, k + j = l.length ∧ i = .int .i64 k ∧ OI wr w.heap.size v (withoutL (l.take k) n) ∧ Fr (fun _ => False) w wr)
  case atStart => exact ⟨0, by omega, rfl, oi_nil _ _, Fr.refl _ _⟩
  case round =>
    obtain ⟨k, hk, rfl, hrow, hfr⟩ := hrel
    have hlen : (withoutL (l.take k) n).length ≤ k := Nat.le_trans (List.length_filter_le _ _) (by rw [List.length_take]; omega)
    have HK := Lib.hid hk
    clear hk
    by_cases hlt : k < l.length
    · obtain ⟨g, off, rfl, hc⟩ := ha.cells (by omega)
      obtain ⟨p, hp⟩ : ∃ p, l[k]? = some p := ⟨_, List.getElem?_eq_getElem hlt⟩
      have c1 := hfr.cell (hc k p hp) (fun h => h)
      have HP := Lib.hid (out_next (n := n) hp)
      clear hc hp
      by_cases he : p = n
      · have d1 : (p != n) = false := by simpa using he
        have HE := Lib.hid he
        clear he
        go_wp2_with fail
        go_roundg (l.length - (k + 1))
        case measure => have := HK.out; omega
        case rel => exact ⟨k + 1, by omega, by go_num, by rw [HP.out, if_pos HE.out, List.append_nil]; exact hrow, hfr⟩
      · have d1 : (p != n) = true := by simpa using he
        have HE := Lib.hid he
        clear he
        generalize withoutL (l.take k) n = q at hrow hlen HP
        have hrow' := hrow
        unfold OI at hrow'
        go_wp2_with (at_builtin; go_must (refine wpList_append_shape rfl _ _ 22 rfl w.heap.size 3 i0 (.int .i64 0) 1 8 Try.underlying22 hi hz0 hz1 hz2 rfl (by decide) _ _ _ rfl (hrow'.alloc _) ⟨wr.heap.size, 0, none⟩ 1 1 [.int .i64 p] rfl rfl (cell_one_new _ _ _) (ints_oneCell .i64 [p]) (by unfold maxLen; omega) (by omega) (by have := hfr.size; simp; omega) (by omega) ?_; intro g2 cap2 w2 hrow2 hgrow hat))
        go_roundg (l.length - (k + 1))
        case measure => have := HK.out; omega
        case rel =>
          refine ⟨k + 1, by omega, by go_num, ?_, (hfr.alloc _).grown hgrow fun k hk => .inr ((hrow'.lt k hk).1)⟩
          rw [HP.out, if_neg HE.out]
          unfold OI
          rw [List.length_append, List.map_append]
          exact hrow2
    · have hil : k = l.length := by have := HK.out; omega
      have e1 : l.take k = l := List.take_of_length_le (by omega)
      rw [e1] at hrow
      have HR := Lib.hid hrow
      clear e1 hil hrow
      go_wp2_with fail
      go_ret
      exact ⟨_, rfl, HR.out, hfr⟩
end
end Go.Proofs.Ytnplikpjogoghaa
