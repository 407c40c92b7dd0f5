/- The walk of the law ConfAgrees. -/
import Derived.Test.YtnplikpjogoghaaM2
import Derived.Test.YtnplikpjogoghaaG1
namespace Go.Proofs.Ytnplikpjogoghaa
open Go.RowKit Go.Lib

def pickZ (c n : Int) : Int := if c < 0 then (-(c+1)) % n else c % n
theorem pickZ_bounds (c : Int) {n : Int} (hn : 0 < n) : 0 ≤ pickZ c n ∧ pickZ c n < n := by
  unfold pickZ
  split
  · exact ⟨Int.emod_nonneg _ (by omega), Int.emod_lt_of_pos _ hn⟩
  · exact ⟨Int.emod_nonneg _ (by omega), Int.emod_lt_of_pos _ hn⟩
theorem pick_any (c n : Int) (w : World) (h : -9223372036854775808 ≤ c) (h' : c ≤ 9223372036854775807) (hn : 0 < n) (hn' : n ≤ 1000) :
    Calls Try.prog 15 #[.int .i64 c, .int .i64 n] w fun e w' => e = .returned (.int .i64 (pickZ c n)) ∧ w = w' := by
  by_cases hc : c < 0
  · go_enter Try.func15, Try.ntmps15
    go_wp2
    go_ret
    refine ⟨?_, rfl⟩
    show Ending.returned (.int .i64 _) = _
    rw [pickZ, if_pos hc, ← Int.tmod_eq_emod_of_nonneg (by omega), Int.neg_tmod]
  · go_enter Try.func15, Try.ntmps15
    go_wp2
    go_ret
    refine ⟨?_, rfl⟩
    rw [pickZ, if_neg (by omega)]
    rfl

/-! ### in plain words -/
def AgRel (l : List Int) (z : Int) (k : Nat) (is : Bool) (le ab : Nat) : Prop := is = hasB (l.take k) z ∧ le = geN (l.take k) z ∧ ab = geN (l.take k) (z + 1)
theorem agr_next {l : List Int} {z p : Int} {k : Nat} {is is' : Bool} {le ab le' ab' : Nat} (h : AgRel l z k is le ab) (hp : l[k]? = some p) (h1 : is' = (is || decide (p = z))) (h2 : le' = le + if decide (z ≤ p) then 1 else 0) (h3 : ab' = ab + if decide (z + 1 ≤ p) then 1 else 0) : AgRel l z (k + 1) is' le' ab' := by
  obtain ⟨e1, e2, e3⟩ := h
  refine ⟨?_, by rw [h2, e2, ge_next hp], by rw [h3, e3, ge_next hp]⟩
  rw [h1, e1, Bool.eq_iff_iff, Bool.or_eq_true, hasB_iff, hasB_iff, List.take_add_one, hp, decide_eq_true_iff]
  simp [eq_comm]
theorem agr_end {l : List Int} {is : Bool} {le ab : Nat} (h0 : 0 < l.length) (h : AgRel l (agreedZ l) l.length is le ab) : is = true ∧ l.length < 2 * le ∧ 2 * ab ≤ l.length := by
  obtain ⟨e1, e2, e3⟩ := h
  rw [List.take_length] at e1 e2 e3
  refine ⟨by rw [e1]; exact hasB_iff.2 (agreed_mem h0), by rw [e2]; exact agreed_ge h0, ?_⟩
  rw [e3]
  apply Nat.not_lt.1
  intro hh
  have := agreed_max h0 hh
  omega
theorem ge_set {l : List Int} {k : Nat} {p v z : Int} (hp : l[k]? = some p) (hv : p ≤ v) : geN l z ≤ geN (l.set k v) z := by
  obtain ⟨hk, rfl⟩ := List.getElem?_eq_some_iff.1 hp
  have e : l = l.take k ++ l[k] :: l.drop (k + 1) := by rw [← List.drop_eq_getElem_cons hk, List.take_append_drop]
  have e2 : l.set k v = l.take k ++ v :: l.drop (k + 1) := by rw [List.set_eq_take_append_cons_drop, if_pos hk]
  rw [e2]
  conv => lhs; rw [e]
  unfold geN
  rw [List.countP_append, List.countP_append, List.countP_cons, List.countP_cons]
  simp only [decide_eq_true_iff]
  split <;> split <;> omega
theorem agr_more {l : List Int} {k : Nat} {p v : Int} (h0 : 0 < l.length) (hp : l[k]? = some p) (hv : p ≤ v) : agreedZ l ≤ agreedZ (l.set k v) := by
  apply agreed_max (by rw [List.length_set]; exact h0)
  have := agreed_ge h0
  have := ge_set (z := agreedZ l) hp hv
  rw [List.length_set]
  omega

section
variable {w : World} {S S' : Nat → Prop} {a b c : Value} {l m n : List Int}

set_option maxRecDepth 100000 in
set_option maxHeartbeats 4000000 in
theorem agrees_h (ha : IR w (fun k => k < w.heap.size) a l) (c more : Int) (hx1 : -9223372036854775808 ≤ c) (hx2 : c ≤ 9223372036854775807) : Calls Try.prog 4 #[a, .int .i64 c, .int .i64 more] w (SayPost (.bool true) w) := by
  obtain ⟨i0, hi0, hz0, hz1, hz2⟩ := info_parts info3
  obtain ⟨a, ca, rfl, hca1, hca2⟩ := ha.form
  go_enter Try.func4, Try.ntmps4
  go_wp2_with fail
  refine Calls.mono (shown_h w) ?_
  rintro e w1 ⟨rfl, hF1⟩
  have HF1 := Lib.hid hF1
  clear hF1
  by_cases hl : 40 < l.length
  · have d1 : decide (40 < (l.length : Int)) = true := by rw [decide_eq_true_iff]; omega
    go_wp2_with fail
    go_ret
    exact ⟨rfl, HF1.out⟩
  have d1 : decide (40 < (l.length : Int)) = false := by rw [decide_eq_false_iff_not]; omega
  have hl2 : l.length ≤ 40 := by omega
  clear hl
  by_cases h0 : l.length = 0
  · have d2 : ((l.length : Int) == 0) = true := by rw [beq_iff_eq]; omega
    have H0 := Lib.hid h0
    clear h0
    go_wp2_with fail
    go_ret
    exact ⟨rfl, HF1.out⟩
  have d2 : ((l.length : Int) == 0) = false := by rw [beq_eq_false_iff_ne]; omega
  have hpos : 0 < l.length := by omega
  clear h0
  go_wp2_with fail
  refine Calls.mono (agreed_h (ha.grow HF1.out) (by omega)) ?_
  rintro e w2 ⟨rfl, hF2⟩
  have HF2 := Lib.hid (HF1.out.next hF2)
  clear hF2 d1 d2
  generalize hz : agreedZ l = z
  have HZ := Lib.hid hz
  clear hz
  go_wp2_with fail
  go_loopg [9, 10, 11, 12] (l.length) (fun j x1 x2 x3 x4 wr => ∃ (k : Nat) (is : Bool) (le ab : Nat), k + j = l.length ∧ x1 = .bool is ∧ x2 = .int .i64 le ∧ x3 = .int .i64 ab ∧ x4 = .int .i64 k ∧ AgRel l z k is le ab ∧ w2 = wr)
  case atStart => exact ⟨0, false, 0, 0, by omega, rfl, rfl, rfl, rfl, ⟨rfl, rfl, rfl⟩, rfl⟩
  case round =>
    obtain ⟨k, is, le, ab, hk, rfl, rfl, rfl, rfl, ht, rfl⟩ := hrel
    have hle : le ≤ 40 := by have := ge_le (l.take k) z; rw [← ht.2.1, List.length_take] at this; omega
    have hab : ab ≤ 40 := by have := ge_le (l.take k) (z + 1); rw [← ht.2.2, List.length_take] at this; omega
    have HK := Lib.hid (And.intro hk ht)
    clear hk ht
    by_cases hlt : k < l.length
    · obtain ⟨g, off, rfl, hc⟩ := (ha.grow HF2.out).cells (by omega)
      obtain ⟨p, hp⟩ : ∃ p, l[k]? = some p := ⟨_, List.getElem?_eq_getElem (by omega)⟩
      have c1 := hc k p hp
      have HP := Lib.hid hp
      clear hc hp
      rcases Int.lt_trichotomy p z with h | h | h
      · have d1 : (p == z) = false := by rw [beq_eq_false_iff_ne]; omega
        have d2 : decide (z ≤ p) = false := by rw [decide_eq_false_iff_not]; omega
        have d3 : decide (z < p) = false := by rw [decide_eq_false_iff_not]; omega
        have HH := Lib.hid h
        clear h
        cases is with
        | false =>
          go_wp2_with fail
          go_roundg (l.length - (k + 1))
          case measure => have := HK.out; omega
          case rel => exact ⟨k + 1, false, le, ab, by omega, rfl, by go_num, by go_num, by go_num, agr_next HK.out.2 HP.out (by simp; have := HH.out; omega) (by rw [if_neg (by have := HH.out; simp; omega)]; rfl) (by rw [if_neg (by have := HH.out; simp; omega)]; rfl), rfl⟩
        | true =>
          go_wp2_with fail
          go_roundg (l.length - (k + 1))
          case measure => have := HK.out; omega
          case rel => exact ⟨k + 1, true, le, ab, by omega, rfl, by go_num, by go_num, by go_num, agr_next HK.out.2 HP.out (by simp) (by rw [if_neg (by have := HH.out; simp; omega)]; rfl) (by rw [if_neg (by have := HH.out; simp; omega)]; rfl), rfl⟩
      · have d1 : (p == z) = true := by rw [beq_iff_eq]; omega
        have d2 : decide (z ≤ p) = true := by rw [decide_eq_true_iff]; omega
        have d3 : decide (z < p) = false := by rw [decide_eq_false_iff_not]; omega
        have HH := Lib.hid h
        clear h
        cases is with
        | false =>
          go_wp2_with fail
          go_roundg (l.length - (k + 1))
          case measure => have := HK.out; omega
          case rel => exact ⟨k + 1, true, le + 1, ab, by omega, rfl, by go_num, by go_num, by go_num, agr_next HK.out.2 HP.out (by simp; have := HH.out; omega) (by rw [if_pos (by have := HH.out; simp; omega)]) (by rw [if_neg (by have := HH.out; simp; omega)]; rfl), rfl⟩
        | true =>
          go_wp2_with fail
          go_roundg (l.length - (k + 1))
          case measure => have := HK.out; omega
          case rel => exact ⟨k + 1, true, le + 1, ab, by omega, rfl, by go_num, by go_num, by go_num, agr_next HK.out.2 HP.out (by simp) (by rw [if_pos (by have := HH.out; simp; omega)]) (by rw [if_neg (by have := HH.out; simp; omega)]; rfl), rfl⟩
      · have d1 : (p == z) = false := by rw [beq_eq_false_iff_ne]; omega
        have d2 : decide (z ≤ p) = true := by rw [decide_eq_true_iff]; omega
        have d3 : decide (z < p) = true := by rw [decide_eq_true_iff]; omega
        have HH := Lib.hid h
        clear h
        cases is with
        | false =>
          go_wp2_with fail
          go_roundg (l.length - (k + 1))
          case measure => have := HK.out; omega
          case rel => exact ⟨k + 1, false, le + 1, ab + 1, by omega, rfl, by go_num, by go_num, by go_num, agr_next HK.out.2 HP.out (by simp; have := HH.out; omega) (by rw [if_pos (by have := HH.out; simp; omega)]) (by rw [if_pos (by have := HH.out; simp; omega)]), rfl⟩
        | true =>
          go_wp2_with fail
          go_roundg (l.length - (k + 1))
          case measure => have := HK.out; omega
          case rel => exact ⟨k + 1, true, le + 1, ab + 1, by omega, rfl, by go_num, by go_num, by go_num, agr_next HK.out.2 HP.out (by simp) (by rw [if_pos (by have := HH.out; simp; omega)]) (by rw [if_pos (by have := HH.out; simp; omega)]), rfl⟩
    · have hend := HK.out.2
      rw [show k = l.length from by have := HK.out.1; omega, ← HZ.out] at hend
      obtain ⟨rfl, he1, he2⟩ := agr_end hpos hend
      clear hend
      have d1 : decide ((l.length : Int) < 2 * (le : Int)) = true := by rw [decide_eq_true_iff]; omega
      have d2 : decide (2 * (ab : Int) ≤ (l.length : Int)) = true := by rw [decide_eq_true_iff]; omega
      have HE := Lib.hid (And.intro he1 he2)
      clear he1 he2
      have hSa : ∀ i, i < w.heap.size → ¬ w2.heap.size ≤ i := fun i hi => by have := HF2.out.size; omega
      go_wp2_with (at_builtin; refine wpList_append_row rfl (.tmp 62) (.tmp 63) 22 rfl w2.heap.size 3 i0 (.int .i64 0) 1 8 Try.underlying22 hi0 hz0 hz1 hz2 rfl (by decide) (.slice (some ⟨_, 0, none⟩) 0 0) 0 [] rfl (ownsRow_empty (block_new_at rfl) (Nat.le_refl _)) _ _ l.length (l.map (Value.int .i64)) rfl (SRow.fr (ha.grow HF2.out) (o := fun k => w2.heap.size ≤ k) ((Fr.refl _ _).alloc _) hSa) (ints_oneCell .i64 l) (by unfold maxLen; omega) (by omega) (by simp) ?_; intro c1 cap1 w6 hrow1 hgrow1 hat1; have hF1 : Fr (fun k => w2.heap.size ≤ k) w2 w6 := Fr.next ((Fr.refl _ _).alloc _) hat1; simp only [Nat.zero_add, List.nil_append] at hrow1 ⊢)
      have HF6 := Lib.hid (show Fr (fun _ => False) w w6 from HF2.out.trans hF1 fun i hi => .inr (Nat.le_trans HF2.out.size hi))
      have hsz := HF2.out.size
      clear hF1 hat1 hgrow1
      obtain ⟨g, cap2, hv, hg, hcl, hcm⟩ := ownsRow_form hrow1 hpos
      simp only [Value.slice.injEq, true_and] at hv
      obtain ⟨rfl, rfl⟩ := hv
      unfold maxLen at hcm
      refine Calls.mono (pick_any c l.length _ hx1 hx2 (by omega) (by omega)) ?_
      rintro e w7 ⟨rfl, rfl⟩
      obtain ⟨hs1, hs2⟩ := pickZ_bounds c (n := (l.length : Int)) (by omega)
      obtain ⟨s, hs⟩ := Int.eq_ofNat_of_zero_le hs1
      rw [hs] at hs2 ⊢
      have hsl : s < l.length := by omega
      clear hs hs1 hs2
      obtain ⟨p, hp⟩ : ∃ p, l[s]? = some p := ⟨_, List.getElem?_eq_getElem hsl⟩
      have c1 : w6.cell? ⟨g, s, none⟩ = some (.int .i64 p) := ownsRow_cell hrow1 (by rw [List.getElem?_map, hp]; rfl)
      have f1 : w6.frozen? ⟨g, s, none⟩ = false := ownsRow_free hrow1 s
      have hset := fun v : Int => ownsRow_set hrow1 s (.int .i64 v)
      have HP := Lib.hid (And.intro hp (And.intro hset (Nat.le_trans hsz hg)))
      clear hp hset hsz
      clear hrow1
      by_cases hpm : p < more
      · have hmax : max p more = more := by omega
        have d3 : decide (p < more) = true := by simpa using hpm
        have hov : OI (w6.setCell ⟨g, s, none⟩ (.int .i64 more)) w2.heap.size (.slice (some ⟨g, 0, none⟩) (l.set s more).length cap1) (l.set s more) := by
          have := HP.out.2.1 more
          unfold OI
          rw [List.length_set, List.map_set]
          exact this
        have hfv : Fr (fun _ => False) w (w6.setCell ⟨g, s, none⟩ (.int .i64 more)) := HF6.out.setCell (.inr HP.out.2.2) _
        have hmore := agr_more (v := more) hpos HP.out.1 (by omega)
        rw [HZ.out] at hmore
        have hag := agreed_h hov.ir (by rw [List.length_set]; omega)
        rw [List.length_set] at hag
        generalize agreedZ (l.set s more) = y at hag hmore
        have d4 : decide (z ≤ y) = true := by simpa using hmore
        have HG := Lib.hid (And.intro hag hfv)
        clear hag hfv hov hmore hpm
        go_wp2_with fail
        refine Calls.mono HG.out.1 ?_
        rintro e w9 ⟨rfl, hF9⟩
        have HF9 := Lib.hid (HG.out.2.next hF9)
        clear hF9
        go_wp2_with fail
        go_ret
        exact ⟨rfl, HF9.out⟩
      · have hmax : max p more = p := by omega
        have d3 : decide (p < more) = false := by simpa using hpm
        have hov : OI (w6.setCell ⟨g, s, none⟩ (.int .i64 p)) w2.heap.size (.slice (some ⟨g, 0, none⟩) (l.set s p).length cap1) (l.set s p) := by
          have := HP.out.2.1 p
          unfold OI
          rw [List.length_set, List.map_set]
          exact this
        have hfv : Fr (fun _ => False) w (w6.setCell ⟨g, s, none⟩ (.int .i64 p)) := HF6.out.setCell (.inr HP.out.2.2) _
        have hmore := agr_more (v := p) hpos HP.out.1 (by omega)
        rw [HZ.out] at hmore
        have hag := agreed_h hov.ir (by rw [List.length_set]; omega)
        rw [List.length_set] at hag
        generalize agreedZ (l.set s p) = y at hag hmore
        have d4 : decide (z ≤ y) = true := by simpa using hmore
        have HG := Lib.hid (And.intro hag hfv)
        clear hag hfv hov hmore hpm
        go_wp2_with fail
        refine Calls.mono HG.out.1 ?_
        rintro e w9 ⟨rfl, hF9⟩
        have HF9 := Lib.hid (HG.out.2.next hF9)
        clear hF9
        go_wp2_with fail
        go_ret
        exact ⟨rfl, HF9.out⟩
end
end Go.Proofs.Ytnplikpjogoghaa
