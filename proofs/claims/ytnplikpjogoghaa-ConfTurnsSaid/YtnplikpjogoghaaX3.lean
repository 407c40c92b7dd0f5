/- The walk of the reference's With. -/
import Derived.Test.YtnplikpjogoghaaX1
import Derived.Deep.RegionLaw
namespace Go.Proofs.Ytnplikpjogoghaa
open Go.RowKit Go.Lib

section
variable {w : World} {S S' : Nat → Prop} {a b : Value} {l m : List Int}

theorem below_more {l : List Int} {n x : Int} {k : Nat} (h : ∀ i y, i < k → l[i]? = some y → y ≤ n) (hx : l[k]? = some x) (hn : x ≤ n) : ∀ i y, i < k + 1 → l[i]? = some y → y ≤ n := by
  intro i y hi hy
  by_cases e : i = k
  · subst e; rw [hx] at hy; obtain rfl := Option.some.inj hy; exact hn
  · exact h i y (by omega) hy

theorem rput_close {w w4 : World} {l : List Int} {n : Int} {k cap3 : Nat} {b3 : Option Addr} (hk : k ≤ l.length) (he : withL l n = putAt l k n)
    (hrow3 : w4.ownsRow w.heap.size 3 1 (.slice b3 (k + 1 + (l.length - k)) cap3) (k + 1 + (l.length - k)) ((l.take k).map (Value.int .i64) ++ [.int .i64 n] ++ (l.drop k).map (Value.int .i64)))
    (hF3 : Fr (fun k => w.heap.size ≤ k) w w4) : ∃ v, Ending.returned (.slice b3 (k + 1 + (l.length - k)) cap3) = .returned v ∧ IR w4 (fun _ => True) v (withL l n) ∧ Fr (fun _ => False) w w4 := by
  have e1 : (putAt l k n).map (Value.int .i64) = (l.take k).map (Value.int .i64) ++ [.int .i64 n] ++ (l.drop k).map (Value.int .i64) := by unfold putAt; simp
  have e2 := putAt_length n hk
  have e3 : k + 1 + (l.length - k) = l.length + 1 := by omega
  refine ⟨_, rfl, ?_, hF3.mono fun i hi h => by omega⟩
  rw [he]
  have h := (SRow.of_owns hrow3).mono (S' := fun _ => True) fun _ _ => trivial
  unfold IR
  rw [e2, e1, ← e3]
  exact h

set_option maxHeartbeats 4000000 in
theorem rwith_h (ha : IR w (fun k => k < w.heap.size) a l) (hl : l.length < 100000) (n : Int) : Calls Try.prog 24 #[a, .int .i64 n] w fun e w' => ∃ v, e = .returned v ∧ IR w' (fun _ => True) v (withL l n) ∧ Fr (fun _ => False) w w' := by
  obtain ⟨i0, hi0, hz0, hz1, hz2⟩ := info_parts info3b
  have HH := Lib.hid (rhas_h ha (by omega) n)
  have HA := Lib.hid ha
  obtain ⟨a, ca, rfl, hca1, hca2⟩ := ha.form
  clear ha
  go_enter Try.func24, Try.ntmps24
  go_wp2_with fail
  refine Calls.mono HH.out ?_
  rintro e w1 ⟨rfl, rfl⟩
  cases hb : hasB l n with
  | true =>
    have HB := Lib.hid hb
    clear hb
    go_wp2_with fail
    go_ret
    exact ⟨_, rfl, by rw [with_has HB.out]; exact HA.out.mono fun _ _ => trivial, Fr.refl _ _⟩
  | false =>
    have HB := Lib.hid hb
    clear hb
    go_wp2_with fail
    go_loopg [6] (l.length) (fun j v wr => ∃ k : Nat, k + j = l.length ∧ v = .int .i64 k ∧ (∀ i x, i < k → l[i]? = some x → x ≤ n) ∧ w = wr)
    case atStart => exact ⟨0, by omega, rfl, fun i x h => by omega, rfl⟩
    case round =>
      obtain ⟨k, hk, rfl, ht, rfl⟩ := hrel
      have HK := Lib.hid (And.intro hk ht)
      clear hk ht
      have fin : ∀ hkl : k ≤ l.length, below l n = k → withL l n = putAt l k n := fun hkl h => by unfold withL; rw [HB.out, if_neg (by simp), h]
      have HFI := Lib.hid fin
      clear fin
      by_cases hlt : k < l.length
      · obtain ⟨g, off, rfl, hc⟩ := HA.out.cells (by omega)
        obtain ⟨p, hp⟩ : ∃ p, l[k]? = some p := ⟨_, List.getElem?_eq_getElem hlt⟩
        have c1 := hc k p hp
        have HP := Lib.hid hp
        clear hc hp
        by_cases he : p ≤ n
        · have d1 : decide (p ≤ n) = true := by simpa using he
          have HE := Lib.hid he
          clear he
          go_wp2_with fail
          go_roundg (l.length - (k + 1))
          case measure => have := HK.out; omega
          case rel => exact ⟨k + 1, by omega, by go_num, below_more HK.out.2 HP.out HE.out, rfl⟩
        · have d1 : decide (p ≤ n) = false := by simpa using he
          have HE := Lib.hid (HFI.out (by omega) (below_at (by omega) HK.out.2 (fun x hx => by rw [HP.out] at hx; obtain rfl := Option.some.inj hx; omega)))
          clear he
          have hile : k ≤ l.length := by have := HK.out; omega
          have hkc : k ≤ ca := by omega
          have hk0 : 0 ≤ l.length - k := by omega
          have hhead := SRow.head HA.out hile
          have htail := SRow.tail HA.out hile
          rw [Nat.mul_one, ← List.map_take] at hhead
          rw [Nat.mul_one, ← List.map_drop] at htail
          have hS : ∀ i, i < w.heap.size → ¬ w.heap.size ≤ i := fun i hi => by omega
          have hck : (ca = k) = False := by simp; omega
          simp only [hck, if_false, Option.map_some, Addr.add_lit] at htail
          go_wp2_with fail
          go_region_law (first
            | (refine step_append_row rfl (.tmp 26) (.tmp 29) 22 rfl w.heap.size 3 i0 (.int .i64 0) 1 8 Try.underlying22 hi0 hz0 hz1 hz2 rfl (by decide) (.slice (some ⟨_, 0, none⟩) 0 0) 0 [] rfl (ownsRow_empty (by first | exact block_new_at (by simp) | exact block_old (block_new_at (by simp)) _) (by omega)) _ _ k ((l.take k).map (Value.int .i64)) rfl (hhead.fr (o := fun k => w.heap.size ≤ k) (by repeat (first | exact Fr.refl _ _ | refine Fr.drew ?_ | refine Fr.alloc ?_ _)) hS) (ints_oneCell .i64 _) (by unfold maxLen; omega) (by omega) (by simp <;> omega) ?_; intro b1 cap1 w2 hrow1 hgrow1 hat1; have hF1 : Fr (fun k => w.heap.size ≤ k) w w2 := Fr.next (by repeat (first | exact Fr.refl _ _ | refine Fr.drew ?_ | refine Fr.alloc ?_ _)) hat1; simp only [Nat.zero_add, List.nil_append] at hrow1)
            | (refine step_append_row rfl (.tmp 30) (.tmp 32) 22 rfl w.heap.size 3 i0 (.int .i64 0) 1 8 Try.underlying22 hi0 hz0 hz1 hz2 rfl (by decide) (.slice b1 k cap1) k _ rfl (by first | exact hrow1 | exact hrow1.alloc _) (fun _ => True) _ 1 [.int .i64 n] rfl (SRow.of_block (e := 3) (f := (0, 0)) (by first | exact block_new_at (by simp) | (refine block_grown ?_ hgrow1 (by simp [Value.ownBlock]); first | exact block_new_drew (by simp) | exact block_old_drew (block_new_at rfl) _)) rfl (by decide) trivial) (ints_oneCell .i64 [n]) (by unfold maxLen; omega) (by omega) (by have := hF1.size; simp <;> omega) ?_; intro b2 cap2 w3 hrow2 hgrow2 hat2; have hF2 : Fr (fun k => w.heap.size ≤ k) w w3 := Fr.next (by repeat (first | exact hF1 | refine Fr.drew ?_ | refine Fr.alloc ?_ _)) hat2)
            | (refine step_append_row rfl (.tmp 33) (.tmp 36) 22 rfl w.heap.size 3 i0 (.int .i64 0) 1 8 Try.underlying22 hi0 hz0 hz1 hz2 rfl (by decide) (.slice b2 (k + 1) cap2) (k + 1) _ rfl hrow2 _ _ (l.length - k) ((l.drop k).map (Value.int .i64)) rfl (htail.fr hF2 hS) (ints_oneCell .i64 _) (by unfold maxLen; omega) (by omega) hF2.size ?_; intro b3 cap3 w4 hrow3 hgrow3 hat3; have hF3 : Fr (fun k => w.heap.size ≤ k) w w4 := Fr.next hF2 hat3))
          all_goals (go_wp2_with fail)
          all_goals
           go_ret
           exact rput_close hile HE.out hrow3 hF3
      · have HE := Lib.hid (HFI.out (by have := HK.out.1; omega) (below_at (by have := HK.out.1; omega) HK.out.2 (fun x hx => absurd (List.getElem?_eq_some_iff.1 hx).1 hlt)))
        have hile : k ≤ l.length := by have := HK.out; omega
        have hkc : k ≤ ca := by omega
        have hk0 : 0 ≤ l.length - k := by omega
        have hhead := SRow.head HA.out hile
        have htail := SRow.tail HA.out hile
        rw [Nat.mul_one, ← List.map_take] at hhead
        rw [Nat.mul_one, ← List.map_drop] at htail
        have hS : ∀ i, i < w.heap.size → ¬ w.heap.size ≤ i := fun i hi => by omega
        go_wp2_with fail
        go_region_law (first
          | (refine step_append_row rfl (.tmp 26) (.tmp 29) 22 rfl w.heap.size 3 i0 (.int .i64 0) 1 8 Try.underlying22 hi0 hz0 hz1 hz2 rfl (by decide) (.slice (some ⟨_, 0, none⟩) 0 0) 0 [] rfl (ownsRow_empty (by first | exact block_new_at (by simp) | exact block_old (block_new_at (by simp)) _) (by omega)) _ _ k ((l.take k).map (Value.int .i64)) rfl (hhead.fr (o := fun k => w.heap.size ≤ k) (by repeat (first | exact Fr.refl _ _ | refine Fr.drew ?_ | refine Fr.alloc ?_ _)) hS) (ints_oneCell .i64 _) (by unfold maxLen; omega) (by omega) (by simp <;> omega) ?_; intro b1 cap1 w2 hrow1 hgrow1 hat1; have hF1 : Fr (fun k => w.heap.size ≤ k) w w2 := Fr.next (by repeat (first | exact Fr.refl _ _ | refine Fr.drew ?_ | refine Fr.alloc ?_ _)) hat1; simp only [Nat.zero_add, List.nil_append] at hrow1)
          | (refine step_append_row rfl (.tmp 30) (.tmp 32) 22 rfl w.heap.size 3 i0 (.int .i64 0) 1 8 Try.underlying22 hi0 hz0 hz1 hz2 rfl (by decide) (.slice b1 k cap1) k _ rfl (by first | exact hrow1 | exact hrow1.alloc _) (fun _ => True) _ 1 [.int .i64 n] rfl (SRow.of_block (e := 3) (f := (0, 0)) (by first | exact block_new_at (by simp) | (refine block_grown ?_ hgrow1 (by simp [Value.ownBlock]); first | exact block_new_drew (by simp) | exact block_old_drew (block_new_at rfl) _)) rfl (by decide) trivial) (ints_oneCell .i64 [n]) (by unfold maxLen; omega) (by omega) (by have := hF1.size; simp <;> omega) ?_; intro b2 cap2 w3 hrow2 hgrow2 hat2; have hF2 : Fr (fun k => w.heap.size ≤ k) w w3 := Fr.next (by repeat (first | exact hF1 | refine Fr.drew ?_ | refine Fr.alloc ?_ _)) hat2)
          | (refine step_append_row rfl (.tmp 33) (.tmp 36) 22 rfl w.heap.size 3 i0 (.int .i64 0) 1 8 Try.underlying22 hi0 hz0 hz1 hz2 rfl (by decide) (.slice b2 (k + 1) cap2) (k + 1) _ rfl hrow2 _ _ (l.length - k) ((l.drop k).map (Value.int .i64)) rfl (htail.fr hF2 hS) (ints_oneCell .i64 _) (by unfold maxLen; omega) (by omega) hF2.size ?_; intro b3 cap3 w4 hrow3 hgrow3 hat3; have hF3 : Fr (fun k => w.heap.size ≤ k) w w4 := Fr.next hF2 hat3))
        all_goals (go_wp2_with fail)
        all_goals
         go_ret
         exact rput_close hile HE.out hrow3 hF3
end
end Go.Proofs.Ytnplikpjogoghaa
