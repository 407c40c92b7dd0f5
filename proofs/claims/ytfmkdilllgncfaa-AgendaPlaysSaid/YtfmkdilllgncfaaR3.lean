/- The walk of the reference's Put. -/
import Derived.Test.YtfmkdilllgncfaaR2
import Derived.Deep.RegionLaw
namespace Go.Proofs.Ytfmkdilllgncfaa
open Go.RowKit Go.Lib

theorem insL_at {x : Int × Int} : ∀ {l : List (Int × Int)} {k : Nat}, k ≤ l.length → (∀ i p, i < k → l[i]? = some p → ltK p x) → (∀ p, l[k]? = some p → ¬ ltK p x) → insL x l = l.take k ++ x :: l.drop k
  | [], k, hk, _, _ => by simp [insL]
  | y :: l, 0, _, _, h => by unfold insL; rw [if_neg (h y (by simp))]; simp
  | y :: l, k + 1, hk, h1, h2 => by
    unfold insL
    rw [if_pos (h1 0 y (by omega) (by simp)), insL_at (k := k) (by simpa using hk) (fun i p hi hp => h1 (i + 1) p (by omega) (by simpa using hp)) (fun p hp => h2 p (by simpa using hp))]
    simp

def RPutPost (l : List (Int × Int)) (t id : Int) (w : World) (e : Ending) (w' : World) : Prop :=
  ∃ v, e = .returned v ∧ w'.ownsRow w.heap.size 44 2 v (putL l t id).length (tcells (putL l t id)) ∧ Fr (fun _ => False) w w'

def PutRel (l : List (Int × Int)) (x : Int × Int) (j : Nat) (v : Value) : Prop := ∃ k : Nat, k + j = l.length ∧ v = .int .i64 k ∧ ∀ i p, i < k → l[i]? = some p → ltK p x

theorem put_round {L : List (Int × Int)} {x p : Int × Int} {k j : Nat} {v : Value} (hk : k + j = L.length) (hno : ∀ i p, i < k → L[i]? = some p → ltK p x) (hp : L[k]? = some p) (hl : ltK p x) (hv : v = .int .i64 ((k + 1 : Nat) : Int)) {w : World} : PutRel L x (L.length - (k + 1)) v ∧ w = w := by
  have := (List.getElem?_eq_some_iff.1 hp).1
  refine ⟨⟨k + 1, by omega, hv, fun i q hi hq => ?_⟩, rfl⟩
  rcases Nat.lt_succ_iff_lt_or_eq.1 hi with h1 | h1
  · exact hno i q h1 hq
  · subst h1; rw [hp] at hq; obtain rfl := Option.some.inj hq; exact hl

theorem put_close {w wr w4 : World} {l L : List (Int × Int)} {t id : Int} {k cap3 : Nat} {b3 : Option Addr} (hdl : dropL id l = L) (hk : k ≤ L.length) (hins : insL (t, id) L = L.take k ++ (t, id) :: L.drop k)
    (hrow3 : w4.ownsRow wr.heap.size 44 2 (.slice b3 (k + 1 + (L.length - k)) cap3) (k + 1 + (L.length - k)) (tcells (L.take k) ++ [.int .i64 t, .int .i64 id] ++ tcells (L.drop k)))
    (hfr : Fr (fun _ => False) w wr) (hF3 : Fr (fun k => wr.heap.size ≤ k) wr w4) : RPutPost l t id w (.returned (.slice b3 (k + 1 + (L.length - k)) cap3)) w4 := by
  have e1 : putL l t id = L.take k ++ [(t, id)] ++ L.drop k := by unfold putL; rw [hdl, hins]; simp
  have e2 : (putL l t id).length = k + 1 + (L.length - k) := by rw [e1]; simp; omega
  refine ⟨_, rfl, ?_, hfr.trans hF3 fun i hi => .inr (Nat.le_trans hfr.size hi)⟩
  rw [e2, e1, tcells_append, tcells_append]
  exact ownsRow_base hrow3 hfr.size

set_option maxHeartbeats 4000000 in
theorem rput_h {w : World} {S : Nat → Prop} {v : Value} {l : List (Int × Int)} (h : TR w S v l) (hlen : l.length < 999999) (t id : Int) : Calls Try.prog 17 #[v, .int .i64 t, .int .i64 id] w (RPutPost l t id w) := by
  obtain ⟨i0, hi, hz0, hz1, hz2⟩ := info_parts info44
  go_enter Try.func17, Try.ntmps17
  go_wp2_with fail
  refine Calls.mono (rdrop_h h (by omega) id) ?_
  rintro e w1 ⟨v1, rfl, hrow, hfr⟩
  have hL : (dropL id l).length < 999999 := by have := dropL_length l id; omega
  generalize hdl : dropL id l = L at hrow hL
  have HD := Lib.hid hdl
  clear hdl h
  obtain ⟨a, cap, rfl⟩ := ownsRow_shape hrow
  have hTR : TR w1 (fun k => (Value.slice a L.length cap).ownBlock = some k) (.slice a L.length cap) L := SRow.of_owns hrow
  have hlt1 := fun k => (hrow.lt k)
  have hcap : L.length ≤ cap ∧ cap ≤ 9223372036854775807 := by
    obtain ⟨_, a', c', e, h1, h2, _⟩ := hTR
    injection e with e1 e2 e3
    subst e3; unfold maxLen at h2; exact ⟨h1, by omega⟩
  obtain ⟨hcap1, hcap2⟩ := hcap
  go_wp2_with fail
  go_loopg [7] (L.length) (fun j v wr => PutRel L (t, id) j v ∧ wr = w1)
  case atStart => exact ⟨⟨0, by omega, rfl, fun i p hi => absurd hi (Nat.not_lt_zero _)⟩, rfl⟩
  case round =>
    obtain ⟨⟨k, hk, rfl, hno⟩, rfl⟩ := hrel
    have HN := Lib.hid hno; clear hno
    have HK := Lib.hid hk; clear hk
    by_cases hlt : k < L.length
    · obtain ⟨g, off, rfl, hc⟩ := hTR.cells (by omega)
      obtain ⟨p, hp⟩ : ∃ p, L[k]? = some p := ⟨_, List.getElem?_eq_getElem hlt⟩
      obtain ⟨c1, c2⟩ := hc k p hp
      have HP := Lib.hid hp
      clear hc hp
      by_cases hl : ltK p (t, id)
      · have HL := Lib.hid hl
        by_cases h1 : p.1 < t
        · have d1 : decide (p.1 < t) = true := by simpa using h1
          clear hl
          go_wp2_with fail
          go_roundg (L.length - (k + 1))
          case measure => have := HK.out; omega
          case rel => exact put_round HK.out HN.out HP.out HL.out (by go_num)
        · have d1 : decide (p.1 < t) = false := by simpa using h1
          have d2 : (p.1 == t) = true := by simp; unfold ltK at hl; simp at hl; omega
          have d3 : decide (p.2 < id) = true := by simp; unfold ltK at hl; simp at hl; omega
          clear hl h1
          go_wp2_with fail
          go_roundg (L.length - (k + 1))
          case measure => have := HK.out; omega
          case rel => exact put_round HK.out HN.out HP.out HL.out (by go_num)
      · have HE := Lib.hid (insL_at (x := (t, id)) (l := L) (k := k) (by omega) HN.out fun q hq => by rw [HP.out] at hq; obtain rfl := Option.some.inj hq; exact hl)
        by_cases h1 : p.1 = t
        · have d1 : decide (p.1 < t) = false := by simp; omega
          have d2 : (p.1 == t) = true := by simpa using h1
          have d3 : decide (p.2 < id) = false := by simp; unfold ltK at hl; simp at hl; omega
          clear hl h1
          have hile : k ≤ L.length := by have := HK.out; omega
          have hkc : k ≤ cap := by omega
          have hk0 : 0 ≤ L.length - k := by omega
          have hhead := SRow.head hTR hile
          have htail := SRow.tail hTR hile
          rw [tcells_take] at hhead
          rw [tcells_drop] at htail
          have hck : (cap = k) = False := by simp; omega
          simp only [hck, if_false, Option.map_some, Addr.add_lit] at htail
          have hfs : w.heap.size ≤ wr.heap.size := hfr.size
          have hS : ∀ i, (Value.slice (some ⟨g, off, none⟩) L.length cap).ownBlock = some i → ¬ wr.heap.size ≤ i := fun i hi => by have := (hlt1 i hi).2; omega
          go_wp2_with fail
          go_region_law (first
            | (refine step_append_row rfl (.tmp 47) (.tmp 50) 26 rfl wr.heap.size 44 i0 (.agg #[.int .i64 0, .int .i64 0]) 2 16 Try.underlying26 hi hz0 hz1 hz2 rfl (by decide) (.slice (some ⟨_, 0, none⟩) 0 0) 0 [] rfl (ownsRow_empty (by first | exact block_new_at (by simp) | exact block_old (block_new_at (by simp)) _) (by omega)) _ _ k (tcells (L.take k)) rfl (hhead.fr (o := fun k => wr.heap.size ≤ k) (by repeat (first | exact Fr.refl _ _ | refine Fr.drew ?_ | refine Fr.alloc ?_ _)) hS) (tcells_one _) (by unfold maxLen; omega) (by omega) (by simp <;> omega) ?_; intro b1 cap1 w2 hrow1 hgrow1 hat1; have hF1 : Fr (fun k => wr.heap.size ≤ k) wr w2 := Fr.next (by repeat (first | exact Fr.refl _ _ | refine Fr.drew ?_ | refine Fr.alloc ?_ _)) hat1; simp only [Nat.zero_add, List.nil_append] at hrow1)
            | (refine step_append_row rfl (.tmp 51) (.tmp 55) 26 rfl wr.heap.size 44 i0 (.agg #[.int .i64 0, .int .i64 0]) 2 16 Try.underlying26 hi hz0 hz1 hz2 rfl (by decide) (.slice b1 k cap1) k _ rfl (by first | exact hrow1 | exact hrow1.alloc _) (fun _ => True) _ 1 [.int .i64 t, .int .i64 id] rfl (SRow.of_block (e := 44) (f := (0, 0)) (by first | exact block_new_at (by simp) | (refine block_grown ?_ hgrow1 (by simp [Value.ownBlock]); first | exact block_new_drew (by simp) | exact block_old_drew (block_new_at rfl) _)) rfl (by decide) trivial) (tcells_one [(t, id)]) (by unfold maxLen; omega) (by omega) (by have := hF1.size; simp <;> omega) ?_; intro b2 cap2 w3 hrow2 hgrow2 hat2; have hF2 : Fr (fun k => wr.heap.size ≤ k) wr w3 := Fr.next (by repeat (first | exact hF1 | refine Fr.drew ?_ | refine Fr.alloc ?_ _)) hat2)
            | (refine step_append_row rfl (.tmp 56) (.tmp 59) 26 rfl wr.heap.size 44 i0 (.agg #[.int .i64 0, .int .i64 0]) 2 16 Try.underlying26 hi hz0 hz1 hz2 rfl (by decide) (.slice b2 (k + 1) cap2) (k + 1) _ rfl hrow2 _ _ (L.length - k) (tcells (L.drop k)) rfl (htail.fr hF2 hS) (tcells_one _) (by unfold maxLen; omega) (by omega) hF2.size ?_; intro b3 cap3 w4 hrow3 hgrow3 hat3; have hF3 : Fr (fun k => wr.heap.size ≤ k) wr w4 := Fr.next hF2 hat3))
          all_goals (go_wp2_with fail)
          all_goals
            go_ret
            exact put_close HD.out hile HE.out hrow3 hfr hF3
        · have d1 : decide (p.1 < t) = false := by simp; unfold ltK at hl; simp at hl; omega
          have d2 : (p.1 == t) = false := by simpa using h1
          clear hl h1
          have hile : k ≤ L.length := by have := HK.out; omega
          have hkc : k ≤ cap := by omega
          have hk0 : 0 ≤ L.length - k := by omega
          have hhead := SRow.head hTR hile
          have htail := SRow.tail hTR hile
          rw [tcells_take] at hhead
          rw [tcells_drop] at htail
          have hck : (cap = k) = False := by simp; omega
          simp only [hck, if_false, Option.map_some, Addr.add_lit] at htail
          have hfs : w.heap.size ≤ wr.heap.size := hfr.size
          have hS : ∀ i, (Value.slice (some ⟨g, off, none⟩) L.length cap).ownBlock = some i → ¬ wr.heap.size ≤ i := fun i hi => by have := (hlt1 i hi).2; omega
          go_wp2_with fail
          go_region_law (first
            | (refine step_append_row rfl (.tmp 47) (.tmp 50) 26 rfl wr.heap.size 44 i0 (.agg #[.int .i64 0, .int .i64 0]) 2 16 Try.underlying26 hi hz0 hz1 hz2 rfl (by decide) (.slice (some ⟨_, 0, none⟩) 0 0) 0 [] rfl (ownsRow_empty (by first | exact block_new_at (by simp) | exact block_old (block_new_at (by simp)) _) (by omega)) _ _ k (tcells (L.take k)) rfl (hhead.fr (o := fun k => wr.heap.size ≤ k) (by repeat (first | exact Fr.refl _ _ | refine Fr.drew ?_ | refine Fr.alloc ?_ _)) hS) (tcells_one _) (by unfold maxLen; omega) (by omega) (by simp <;> omega) ?_; intro b1 cap1 w2 hrow1 hgrow1 hat1; have hF1 : Fr (fun k => wr.heap.size ≤ k) wr w2 := Fr.next (by repeat (first | exact Fr.refl _ _ | refine Fr.drew ?_ | refine Fr.alloc ?_ _)) hat1; simp only [Nat.zero_add, List.nil_append] at hrow1)
            | (refine step_append_row rfl (.tmp 51) (.tmp 55) 26 rfl wr.heap.size 44 i0 (.agg #[.int .i64 0, .int .i64 0]) 2 16 Try.underlying26 hi hz0 hz1 hz2 rfl (by decide) (.slice b1 k cap1) k _ rfl (by first | exact hrow1 | exact hrow1.alloc _) (fun _ => True) _ 1 [.int .i64 t, .int .i64 id] rfl (SRow.of_block (e := 44) (f := (0, 0)) (by first | exact block_new_at (by simp) | (refine block_grown ?_ hgrow1 (by simp [Value.ownBlock]); first | exact block_new_drew (by simp) | exact block_old_drew (block_new_at rfl) _)) rfl (by decide) trivial) (tcells_one [(t, id)]) (by unfold maxLen; omega) (by omega) (by have := hF1.size; simp <;> omega) ?_; intro b2 cap2 w3 hrow2 hgrow2 hat2; have hF2 : Fr (fun k => wr.heap.size ≤ k) wr w3 := Fr.next (by repeat (first | exact hF1 | refine Fr.drew ?_ | refine Fr.alloc ?_ _)) hat2)
            | (refine step_append_row rfl (.tmp 56) (.tmp 59) 26 rfl wr.heap.size 44 i0 (.agg #[.int .i64 0, .int .i64 0]) 2 16 Try.underlying26 hi hz0 hz1 hz2 rfl (by decide) (.slice b2 (k + 1) cap2) (k + 1) _ rfl hrow2 _ _ (L.length - k) (tcells (L.drop k)) rfl (htail.fr hF2 hS) (tcells_one _) (by unfold maxLen; omega) (by omega) hF2.size ?_; intro b3 cap3 w4 hrow3 hgrow3 hat3; have hF3 : Fr (fun k => wr.heap.size ≤ k) wr w4 := Fr.next hF2 hat3))
          all_goals (go_wp2_with fail)
          all_goals
            go_ret
            exact put_close HD.out hile HE.out hrow3 hfr hF3
    · have HE := Lib.hid (insL_at (x := (t, id)) (l := L) (k := k) (by have := HK.out; omega) HN.out fun q hq => absurd (List.getElem?_eq_some_iff.1 hq).1 hlt)
      have hile : k ≤ L.length := by have := HK.out; omega
      have hkc : k ≤ cap := by omega
      have hk0 : 0 ≤ L.length - k := by omega
      have hhead := SRow.head hTR hile
      have htail := SRow.tail hTR hile
      rw [tcells_take] at hhead
      rw [tcells_drop] at htail
      have hfs : w.heap.size ≤ wr.heap.size := hfr.size
      have hS : ∀ i, (Value.slice a L.length cap).ownBlock = some i → ¬ wr.heap.size ≤ i := fun i hi => by have := (hlt1 i hi).2; omega
      go_wp2_with fail
      go_region_law (first
        | (refine step_append_row rfl (.tmp 47) (.tmp 50) 26 rfl wr.heap.size 44 i0 (.agg #[.int .i64 0, .int .i64 0]) 2 16 Try.underlying26 hi hz0 hz1 hz2 rfl (by decide) (.slice (some ⟨_, 0, none⟩) 0 0) 0 [] rfl (ownsRow_empty (by first | exact block_new_at (by simp) | exact block_old (block_new_at (by simp)) _) (by omega)) _ _ k (tcells (L.take k)) rfl (hhead.fr (o := fun k => wr.heap.size ≤ k) (by repeat (first | exact Fr.refl _ _ | refine Fr.drew ?_ | refine Fr.alloc ?_ _)) hS) (tcells_one _) (by unfold maxLen; omega) (by omega) (by simp <;> omega) ?_; intro b1 cap1 w2 hrow1 hgrow1 hat1; have hF1 : Fr (fun k => wr.heap.size ≤ k) wr w2 := Fr.next (by repeat (first | exact Fr.refl _ _ | refine Fr.drew ?_ | refine Fr.alloc ?_ _)) hat1; simp only [Nat.zero_add, List.nil_append] at hrow1)
        | (refine step_append_row rfl (.tmp 51) (.tmp 55) 26 rfl wr.heap.size 44 i0 (.agg #[.int .i64 0, .int .i64 0]) 2 16 Try.underlying26 hi hz0 hz1 hz2 rfl (by decide) (.slice b1 k cap1) k _ rfl (by first | exact hrow1 | exact hrow1.alloc _) (fun _ => True) _ 1 [.int .i64 t, .int .i64 id] rfl (SRow.of_block (e := 44) (f := (0, 0)) (by first | exact block_new_at (by simp) | (refine block_grown ?_ hgrow1 (by simp [Value.ownBlock]); first | exact block_new_drew (by simp) | exact block_old_drew (block_new_at rfl) _)) rfl (by decide) trivial) (tcells_one [(t, id)]) (by unfold maxLen; omega) (by omega) (by have := hF1.size; simp <;> omega) ?_; intro b2 cap2 w3 hrow2 hgrow2 hat2; have hF2 : Fr (fun k => wr.heap.size ≤ k) wr w3 := Fr.next (by repeat (first | exact hF1 | refine Fr.drew ?_ | refine Fr.alloc ?_ _)) hat2)
        | (refine step_append_row rfl (.tmp 56) (.tmp 59) 26 rfl wr.heap.size 44 i0 (.agg #[.int .i64 0, .int .i64 0]) 2 16 Try.underlying26 hi hz0 hz1 hz2 rfl (by decide) (.slice b2 (k + 1) cap2) (k + 1) _ rfl hrow2 _ _ (L.length - k) (tcells (L.drop k)) rfl (htail.fr hF2 hS) (tcells_one _) (by unfold maxLen; omega) (by omega) hF2.size ?_; intro b3 cap3 w4 hrow3 hgrow3 hat3; have hF3 : Fr (fun k => wr.heap.size ≤ k) wr w4 := Fr.next hF2 hat3))
      all_goals (go_wp2_with fail)
      all_goals
        go_ret
        exact put_close HD.out hile HE.out hrow3 hfr hF3

end Go.Proofs.Ytfmkdilllgncfaa
