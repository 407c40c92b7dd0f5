/- The walk of the law ConfGrows. -/
import Derived.Test.YtnplikpjogoghaaC7
namespace Go.Proofs.Ytnplikpjogoghaa
open Go.RowKit Go.Lib

theorem info3 : (Try.prog.info? 3).map (fun i => (i.zero, i.size, i.bytes)) = some (some (.int .i64 0), 1, 8) := by kernel_rfl

/-! ### in plain words -/
theorem cnt_more {l m : List Int} (n : List Int) : cntB l m ≤ cntB l (m ++ n) := by
  unfold cntB
  rw [← List.countP_eq_length_filter, ← List.countP_eq_length_filter]
  exact List.countP_mono_left fun x _ hx => by rw [hasB_iff] at hx ⊢; exact List.mem_append_left _ hx
theorem cnt_self (l : List Int) : cntB l l = l.length := by
  unfold cntB
  rw [List.filter_eq_self.2 fun x hx => hasB_iff.2 hx]
theorem rises_inj {l : List Int} (h : Rises l) {i j : Nat} {p : Int} (hi : l[i]? = some p) (hj : l[j]? = some p) : i = j := by
  rcases Nat.lt_trichotomy i j with h1 | h1 | h1
  · have := rises_lt h j i p p h1 hi hj; omega
  · exact h1
  · have := rises_lt h i j p p h1 hj hi; omega
theorem cnt_take {l : List Int} (h : Rises l) (k : Nat) : cntB l (l.take k) ≤ k := by
  have : cntB l (l.take k) = cntB (l.take k) (l.take k) + cntB (l.drop k) (l.take k) := by
    unfold cntB
    conv => lhs; rw [← List.take_append_drop k l]
    rw [List.filter_append, List.length_append, List.take_append_drop]
  rw [this]
  have h0 : cntB (l.drop k) (l.take k) = 0 := by
    unfold cntB
    rw [List.length_eq_zero_iff, List.filter_eq_nil_iff]
    intro x hx hh
    rw [hasB_iff] at hh
    obtain ⟨i, hi⟩ := List.getElem?_of_mem hx
    obtain ⟨j, hj⟩ := List.getElem?_of_mem hh
    rw [List.getElem?_drop] at hi
    have hjk : j < k := by have := (List.getElem?_eq_some_iff.1 hj).1; rw [List.length_take] at this; omega
    rw [List.getElem?_take, if_pos hjk] at hj
    have := rises_inj h hi hj
    omega
  have h1 := cnt_le (l.take k) (l.take k)
  rw [List.length_take] at h1
  omega
theorem rise_full {l : List Int} {k : Nat} (h : RiseTo l (k + 1)) (hk : l.length ≤ k + 1) : Rises l := fun i p q hp hq => h i p q (by have := (List.getElem?_eq_some_iff.1 hq).1; omega) hp hq

section
variable {w : World} {S S' : Nat → Prop} {a b c : Value} {l m n : List Int}

set_option maxRecDepth 100000 in
set_option maxHeartbeats 4000000 in
theorem grows_h (ha : IR w (fun k => k < w.heap.size) a l) (hb : IR w (fun k => k < w.heap.size) b m) (hc : IR w (fun k => k < w.heap.size) c n) : Calls Try.prog 5 #[a, b, c] w (SayPost (.bool true) w) := by
  obtain ⟨i0, hi0, hz0, hz1, hz2⟩ := info_parts info3
  obtain ⟨a, ca, rfl, hca1, hca2⟩ := ha.form
  obtain ⟨b, cb, rfl, hcb1, hcb2⟩ := hb.form
  obtain ⟨c, cc, rfl, hcc1, hcc2⟩ := hc.form
  go_enter Try.func5, Try.ntmps5
  go_wp2_with fail
  refine Calls.mono (shown_h w) ?_
  rintro e w1 ⟨rfl, hF1⟩
  have HF1 := Lib.hid hF1
  clear hF1
  by_cases hl : 20 < l.length
  · have d1 : decide (20 < (l.length : Int)) = true := by rw [decide_eq_true_iff]; omega
    go_wp2_with fail
    go_ret
    exact ⟨rfl, HF1.out⟩
  have d1 : decide (20 < (l.length : Int)) = false := by rw [decide_eq_false_iff_not]; omega
  by_cases hm : 40 < m.length
  · have d2 : decide (40 < (m.length : Int)) = true := by rw [decide_eq_true_iff]; omega
    go_wp2_with fail
    go_ret
    exact ⟨rfl, HF1.out⟩
  have d2 : decide (40 < (m.length : Int)) = false := by rw [decide_eq_false_iff_not]; omega
  by_cases hn : 40 < n.length
  · have d3 : decide (40 < (n.length : Int)) = true := by rw [decide_eq_true_iff]; omega
    go_wp2_with fail
    go_ret
    exact ⟨rfl, HF1.out⟩
  have d3 : decide (40 < (n.length : Int)) = false := by rw [decide_eq_false_iff_not]; omega
  go_wp2_with fail
  clear d1 d2 d3
  have HL := Lib.hid (And.intro hl (And.intro hm hn))
  clear hl hm hn
  have hl2 : l.length ≤ 20 := by have := HL.out.1; omega
  have hm2 : m.length ≤ 40 := by have := HL.out.2.1; omega
  have hn2 : n.length ≤ 40 := by have := HL.out.2.2; omega
  go_loopg [8] (l.length + 1) (fun j v wr => ∃ k N : Nat, k + 1 + j = l.length + 1 + 1 ∧ v = .int .i64 ((k : Int) + 1) ∧ RiseTo l (k + 1) ∧ wr = w1.drewN N)
  case atStart => exact ⟨0, 0, by omega, rfl, fun i p q h => by omega, rfl⟩
  case round =>
    obtain ⟨k, N, hk, rfl, ht, rfl⟩ := hrel
    have HK := Lib.hid (And.intro hk ht)
    clear hk ht
    by_cases hlt : k + 1 < l.length
    · have hlI : (k : Int) + 1 < (l.length : Int) := by omega
      obtain ⟨g, off, rfl, hcs⟩ := (ha.grow HF1.out).cells (by omega)
      obtain ⟨p, hp⟩ : ∃ p, l[k]? = some p := ⟨_, List.getElem?_eq_getElem (by omega)⟩
      obtain ⟨q, hq⟩ : ∃ p, l[k + 1]? = some p := ⟨_, List.getElem?_eq_getElem hlt⟩
      have c1 := hcs k p hp
      have c2 := hcs (k + 1) q hq
      have HP := Lib.hid (And.intro hp hq)
      clear hcs hp hq
      by_cases he : p < q
      · have d1 : decide (q ≤ p) = false := by simpa using he
        go_wp2_with fail
        go_quiet (fail)
        go_wp2_with fail
        go_roundg (l.length - k)
        case measure => have := HK.out; omega
        case rel => exact ⟨k + 1, _, by omega, by go_num, rise_next HK.out.2 HP.out.1 HP.out.2 he, rfl⟩
      · have d1 : decide (q ≤ p) = true := by simpa using he
        go_wp2_with fail
        go_quiet (fail)
        go_wp2_with fail
        go_ret
        exact ⟨rfl, (HF1.out.drewN N).drewN _⟩
    · have hlI : (l.length : Int) ≤ (k : Int) + 1 := by omega
      have hris : Rises l := rise_full HK.out.2 (by omega)
      have HR := Lib.hid (And.intro hris (And.intro (cnt_more (l := l) (m := m) n) (And.intro (cnt_self l) (cnt_take hris (l.length / 2)))))
      clear hris
      have HF2 := Lib.hid (HF1.out.drewN N)
      generalize w1.drewN N = w2 at *
      go_wp2_with fail
      refine Calls.mono (most_h (ha.grow HF2.out) (hb.grow HF2.out) (by omega) (by omega)) ?_
      rintro e w3 ⟨rfl, rfl⟩
      have hSb : ∀ i, i < w.heap.size → ¬ w2.heap.size ≤ i := fun i hi => by have := HF2.out.size; omega
      generalize hd1 : decide (l.length / 2 < cntB l m) = r1
      have HD1 := Lib.hid hd1
      clear hd1
      go_wp2_with (first
        | (at_builtin; refine wpList_append_row rfl (.tmp 50) (.tmp 51) 22 rfl w2.heap.size 3 i0 (.int .i64 0) 1 8 Try.underlying22 hi0 hz0 hz1 hz2 rfl (by decide) (.slice (some ⟨_, 0, none⟩) 0 0) 0 [] rfl (ownsRow_empty (block_new_at rfl) (Nat.le_refl _)) _ _ m.length (m.map (Value.int .i64)) rfl (SRow.fr (hb.grow HF2.out) (o := fun k => w2.heap.size ≤ k) ((Fr.refl _ _).alloc _) hSb) (ints_oneCell .i64 m) (by unfold maxLen; omega) (by omega) (by simp) ?_; intro c1 cap1 w6 hrow1 hgrow1 hat1; have hF1 : Fr (fun k => w2.heap.size ≤ k) w2 w6 := Fr.next ((Fr.refl _ _).alloc _) hat1; simp only [Nat.zero_add, List.nil_append] at hrow1)
        | (at_builtin; refine wpList_append_row rfl (.tmp 52) (.tmp 53) 22 rfl w2.heap.size 3 i0 (.int .i64 0) 1 8 Try.underlying22 hi0 hz0 hz1 hz2 rfl (by decide) (.slice c1 m.length cap1) m.length _ rfl hrow1 _ _ n.length (n.map (Value.int .i64)) rfl (SRow.fr (hc.grow HF2.out) hF1 hSb) (ints_oneCell .i64 n) (by unfold maxLen; omega) (by omega) hF1.size ?_; intro c2 cap2 w7 hrow2 hgrow2 hat2; have hF2 : Fr (fun k => w2.heap.size ≤ k) w2 w7 := Fr.next hF1 hat2))
      have hmn : IR w7 (fun k => w2.heap.size ≤ k) (.slice c2 (m.length + n.length) cap2) (m ++ n) := by
        have := (SRow.of_owns hrow2).mono (S' := fun k => w2.heap.size ≤ k) fun k hk => (hrow2.lt k hk).1
        unfold IR
        rw [List.length_append, List.map_append]
        exact this
      have HF7 := Lib.hid (show Fr (fun _ => False) w w7 from HF2.out.trans hF2 fun i hi => .inr (Nat.le_trans HF2.out.size hi))
      clear hrow1 hrow2 hF1 hF2 hgrow1 hgrow2 hat1 hat2
      refine Calls.mono (most_h (ha.grow HF7.out) hmn (by omega) (by rw [List.length_append]; omega)) ?_
      rintro e w8 ⟨rfl, rfl⟩
      generalize hd2 : decide (l.length / 2 < cntB l (m ++ n)) = r2
      have HD2 := Lib.hid hd2
      clear hd2
      obtain ⟨k2, hI, hkk⟩ : ∃ k : Nat, (l.length : Int) / 2 = (k : Int) ∧ l.length / 2 = k := ⟨l.length / 2, by omega, rfl⟩
      have hk2 : k2 ≤ l.length := by omega
      have hk3 : k2 ≤ ca := by omega
      have HKK := Lib.hid hkk
      clear hkk
      have hhead : IR w7 (fun k => k < w.heap.size) (.slice a k2 ca) (l.take k2) := by
        have := SRow.head (ha.grow HF7.out) hk2
        unfold IR
        rw [List.length_take, Nat.min_eq_left hk2, List.map_take]
        simpa using this
      have hm3 : decide (l.length / 2 < cntB l (l.take k2)) = false := by
        rw [decide_eq_false_iff_not]; have := HR.out.2.2.2; rw [HKK.out] at this ⊢; omega
      have hm4 : decide (l.length / 2 < cntB l l) = decide (0 < (l.length : Int)) := by
        rw [HR.out.2.2.1, decide_eq_decide]; omega
      have HM := Lib.hid (And.intro hm3 hm4)
      clear hm3 hm4
      have hr12 : r1 = true → r2 = true := fun h => by
        have h1 := HD1.out; have h2 := HD2.out
        rw [h] at h1
        rw [← h2, decide_eq_true_iff]
        rw [decide_eq_true_iff] at h1
        have := HR.out.2.1
        omega
      have H12 := Lib.hid hr12
      clear hr12
      have fin : ∀ W, w7 = W → Fr (fun _ => False) w W := fun W h => h ▸ HF7.out
      cases r1 with
      | false =>
        go_wp2_with fail
        refine Calls.mono (most_h (ha.grow HF7.out) (ha.grow HF7.out) (by omega) (by omega)) ?_
        rintro e w9 ⟨rfl, rfl⟩
        rw [HM.out.2]
        go_wp2_with fail
        refine Calls.mono (most_h (ha.grow HF7.out) hhead (by omega) (by rw [List.length_take]; omega)) ?_
        rintro e w9 ⟨rfl, rfl⟩
        rw [HM.out.1]
        go_wp2_with fail
        go_ret
        exact ⟨rfl, HF7.out⟩
      | true =>
        obtain rfl := H12.out rfl
        go_wp2_with fail
        refine Calls.mono (most_h (ha.grow HF7.out) (ha.grow HF7.out) (by omega) (by omega)) ?_
        rintro e w9 ⟨rfl, rfl⟩
        rw [HM.out.2]
        go_wp2_with fail
        refine Calls.mono (most_h (ha.grow HF7.out) hhead (by omega) (by rw [List.length_take]; omega)) ?_
        rintro e w9 ⟨rfl, rfl⟩
        rw [HM.out.1]
        go_wp2_with fail
        go_ret
        exact ⟨rfl, HF7.out⟩
end
end Go.Proofs.Ytnplikpjogoghaa
