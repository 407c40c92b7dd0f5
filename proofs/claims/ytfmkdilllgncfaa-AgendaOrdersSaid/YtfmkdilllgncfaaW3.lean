/- The walk of container/heap's down. -/
import Derived.Test.YtfmkdilllgncfaaW2
namespace Go.Proofs.Ytfmkdilllgncfaa
open Go.RowKit Go.Lib

section
variable {w : World} {ba : Nat} {hv mv : Value} {ts : List T3}

theorem less_i (h : HRep w ba hv mv ts) {a b : Int} {i j : Nat} {x y : T3} (ha : a = i) (hb : b = j) (hx : ts[i]? = some x) (hy : ts[j]? = some y) :
    Calls Try.prog 45 #[hv, .int .i64 a, .int .i64 b] w fun e w' => e = .returned (.bool (ltB x y)) ∧ ∃ n, w' = w.drewN n := by
  subst ha; subst hb; exact less_h h hx hy
theorem swap_i (h : HRep w ba hv mv ts) {a b : Int} {i j : Nat} (ha : a = i) (hb : b = j) (hij : i < j) (hj : j < ts.length) :
    Calls Try.prog 46 #[hv, .int .i64 a, .int .i64 b] w fun e w' => e = .returned (.tuple #[]) ∧ HRep w' ba hv mv (swapL ts i j) ∧ Fr (foot ba hv ts) w w' := by
  subst ha; subst hb; exact swap_h h hij hj

def DownEnd (w : World) (ba : Nat) (hv mv : Value) (ts : List T3) (n i : Nat) (e : Ending) (w' : World) : Prop :=
  ∃ m, e = .returned (.bool m) ∧ DownPost w ba hv mv ts n i m w'

theorem down_stop {n i0 i : Nat} {ts' : List T3} {wr : World} (_hi : i < n) (hi0 : i0 ≤ i) (hr : HRep wr ba hv mv ts') (hp : ts'.Perm ts) (hk : ∀ k, n ≤ k → ts'[k]? = ts[k]?) (hf : FixInv (keyF ts') n i)
    (hm : i0 < i → ¬ ltK (keyF ts' i) (keyF ts' (par i))) (hfr : Fr (foot ba hv ts) w wr) (hs : ∀ k, 0 < k → k < n → par k = i → ¬ ltK (keyF ts' k) (keyF ts' i)) {b : Bool} (hb : b = decide (i0 < i)) (N : Nat) :
    DownEnd w ba hv mv ts n i0 (.returned (.bool b)) (wr.drewN N) := by
  refine ⟨b, rfl, ts', hr.drewN N, hp, hk, fun hb1 => ?_, fun hb1 => ?_, hfr.drewN N⟩
  · subst hb; exact down_end hf hs (hm (by simpa using hb1))
  · subst hb
    obtain rfl : i = i0 := by have : ¬ i0 < i := by simpa using hb1
                              omega
    exact down_end_up hf hs

theorem down_next {n i0 i c : Nat} {ts' : List T3} {wr w2 : World} {N : Nat} (hi0 : i0 ≤ i) (hn : n ≤ ts.length) (hp : ts'.Perm ts) (hk : ∀ k, n ≤ k → ts'[k]? = ts[k]?) (hf : FixInv (keyF ts') n i)
    (hfr : Fr (foot ba hv ts) w wr) (hc : Child (keyF ts') n i c) (hl : ltK (keyF ts' c) (keyF ts' i)) (hr2 : HRep w2 ba hv mv (swapL ts' i c)) (hf2 : Fr (foot ba hv ts') (wr.drewN N) w2) {v : Value} (hv' : v = .int .i64 c) :
    DownRel w ba hv mv ts n i0 v w2 := by
  obtain ⟨c1, c2, c3, c4⟩ := hc
  have hic : i < c := by have := par_lt c2; omega
  have hlen : ts'.length = ts.length := hp.length_eq
  have hs := down_step hf c1 c2 c3 hl c4
  rw [← swapL_key (by omega) (by omega)] at hs
  refine ⟨c, swapL ts' i c, hv', c3, by omega, hr2, (swapL_perm (by omega) (by omega)).trans hp, fun k hkn => ?_, hs.1, fun _ => hs.2, hfr.next ((hf2.mono fun k _ hk => (foot_perm hp k).1 hk).of_start)⟩
  rw [swapL_get (by omega) (by omega), if_neg (by omega), if_neg (by omega)]
  exact hk k hkn

set_option maxHeartbeats 2000000 in
theorem down_h (h : HRep w ba hv mv ts) {i0 n : Nat} (hi0 : i0 < n) (hn : n ≤ ts.length) (hlen : ts.length ≤ 1000000) (hu : FixInv (keyF ts) n i0) :
    Calls Try.prog 27 #[.iface 60 (.pointer (some ⟨ba, 0, none⟩)), .int .i64 i0, .int .i64 n] w (DownEnd w ba hv mv ts n i0) := by
  go_enter Try.func27, Try.ntmps27
  go_wp2_with fail
  go_loopw [7] (fun v wr => DownRel w ba hv mv ts n i0 v wr) (fun v _ => n - (intOf v).toNat)
  case atStart => exact ⟨i0, ts, rfl, hi0, Nat.le_refl _, h, .refl _, fun _ _ => rfl, hu, fun h => absurd h (Nat.lt_irrefl _), Fr.refl _ _⟩
  case round =>
    obtain ⟨i, ts', rfl, hi, hi0', hr, hp, hk, hf, hm, hfr⟩ := hrel
    clear h hu hi0
    have HL := Lib.hid hp.length_eq
    have hm1 := fun n => meth_less ba hv (wr.drewN n) (cell_of (hr.drewN n).head (by rfl))
    have hm0 := meth_less ba hv wr (cell_of hr.head (by rfl))
    have hm2 := fun n => meth_swap ba hv (wr.drewN n) (cell_of (hr.drewN n).head (by rfl))
    by_cases hA : n ≤ 2 * i + 1
    · have d0 : decide ((n : Int) ≤ 2 * (i : Int) + 1) = true := by simp; omega
      go_wp2_with fail
      go_ret
      refine down_stop (N := 0) hi hi0' hr hp hk hf hm hfr (fun k h0 hkn hpk => by rcases par_child h0 hpk with rfl | rfl <;> omega) (by simp)
    · have d0 : decide ((n : Int) ≤ 2 * (i : Int) + 1) = false := by simp; omega
      have d1 : decide (2 * (i : Int) + 1 < 0) = false := by simp; omega
      obtain ⟨x, hx⟩ : ∃ x, ts'[2 * i + 1]? = some x := ⟨_, List.getElem?_eq_getElem (by rw [HL.out]; omega)⟩
      obtain ⟨z, hz⟩ : ∃ x, ts'[i]? = some x := ⟨_, List.getElem?_eq_getElem (by rw [HL.out]; omega)⟩
      have HX := Lib.hid hx; clear hx
      have HZ := Lib.hid hz; clear hz
      by_cases hB : 2 * i + 2 < n
      · obtain ⟨y, hy⟩ : ∃ x, ts'[2 * i + 2]? = some x := ⟨_, List.getElem?_eq_getElem (by rw [HL.out]; omega)⟩
        have HY := Lib.hid hy; clear hy
        have d2 : decide (2 * (i : Int) + 1 + 1 < (n : Int)) = true := by simp; omega
        by_cases hq : ltB y x = true
        · have hc : Child (keyF ts') n i (2 * i + 2) := child_two hB ((ltB_iff HY.out HX.out).1 hq)
          by_cases hl : ltB y z = true
          · go_wp2_with fail
            refine Calls.mono (less_i hr (i := 2 * i + 2) (j := 2 * i + 1) ?_ ?_ HY.out HX.out) ?_; (omega); (omega)
            rintro e w' ⟨rfl, N, rfl⟩
            go_wp2_with fail
            refine Calls.mono (less_i (hr.drewN N) (i := 2 * i + 2) (j := i) ?_ ?_ HY.out HZ.out) ?_; (omega); (omega)
            rintro e w' ⟨rfl, M, rfl⟩
            go_wp2_with fail
            refine Calls.mono (swap_i (hr.drewN (N + M)) (i := i) (j := 2 * i + 2) ?_ ?_ (by omega) (by rw [HL.out]; omega)) ?_; (omega); (omega)
            rintro e w' ⟨rfl, hr2, hf2⟩
            go_wp2_with fail
            exact ⟨down_next hi0' hn hp hk hf hfr hc ((ltB_iff HY.out HZ.out).1 hl) hr2 hf2 (by go_num), by simp [intOf]; omega⟩
          · have hl' : ltB y z = false := by simpa using hl
            go_wp2_with fail
            refine Calls.mono (less_i hr (i := 2 * i + 2) (j := 2 * i + 1) ?_ ?_ HY.out HX.out) ?_; (omega); (omega)
            rintro e w' ⟨rfl, N, rfl⟩
            go_wp2_with fail
            refine Calls.mono (less_i (hr.drewN N) (i := 2 * i + 2) (j := i) ?_ ?_ HY.out HZ.out) ?_; (omega); (omega)
            rintro e w' ⟨rfl, M, rfl⟩
            go_wp2_with fail
            go_ret
            exact down_stop (N := N + M) hi hi0' hr hp hk hf hm hfr (fun k h0 hkn hpk hlt => by have h4 := hc.2.2.2 k h0 hkn hpk; exact absurd ((ltB_iff HY.out HZ.out).2 (leK_lt h4 hlt)) (by rw [hl']; decide)) (by simp)
        · have hq' : ltB y x = false := by simpa using hq
          have hc : Child (keyF ts') n i (2 * i + 1) := child_one (by omega) fun _ hlt => hq ((ltB_iff HY.out HX.out).2 hlt)
          by_cases hl : ltB x z = true
          · go_wp2_with fail
            refine Calls.mono (less_i hr (i := 2 * i + 2) (j := 2 * i + 1) ?_ ?_ HY.out HX.out) ?_; (omega); (omega)
            rintro e w' ⟨rfl, N, rfl⟩
            go_wp2_with fail
            refine Calls.mono (less_i (hr.drewN N) (i := 2 * i + 1) (j := i) ?_ ?_ HX.out HZ.out) ?_; (omega); (omega)
            rintro e w' ⟨rfl, M, rfl⟩
            go_wp2_with fail
            refine Calls.mono (swap_i (hr.drewN (N + M)) (i := i) (j := 2 * i + 1) ?_ ?_ (by omega) (by rw [HL.out]; omega)) ?_; (omega); (omega)
            rintro e w' ⟨rfl, hr2, hf2⟩
            go_wp2_with fail
            exact ⟨down_next hi0' hn hp hk hf hfr hc ((ltB_iff HX.out HZ.out).1 hl) hr2 hf2 (by go_num), by simp [intOf]; omega⟩
          · have hl' : ltB x z = false := by simpa using hl
            go_wp2_with fail
            refine Calls.mono (less_i hr (i := 2 * i + 2) (j := 2 * i + 1) ?_ ?_ HY.out HX.out) ?_; (omega); (omega)
            rintro e w' ⟨rfl, N, rfl⟩
            go_wp2_with fail
            refine Calls.mono (less_i (hr.drewN N) (i := 2 * i + 1) (j := i) ?_ ?_ HX.out HZ.out) ?_; (omega); (omega)
            rintro e w' ⟨rfl, M, rfl⟩
            go_wp2_with fail
            go_ret
            exact down_stop (N := N + M) hi hi0' hr hp hk hf hm hfr (fun k h0 hkn hpk hlt => by have h4 := hc.2.2.2 k h0 hkn hpk; exact absurd ((ltB_iff HX.out HZ.out).2 (leK_lt h4 hlt)) (by rw [hl']; decide)) (by simp)
      · have hc : Child (keyF ts') n i (2 * i + 1) := child_one (by omega) fun h => absurd h hB
        have d2 : decide (2 * (i : Int) + 1 + 1 < (n : Int)) = false := by simp; omega
        by_cases hl : ltB x z = true
        · go_wp2_with fail
          refine Calls.mono (less_i hr (i := 2 * i + 1) (j := i) ?_ ?_ HX.out HZ.out) ?_; (omega); (omega)
          rintro e w' ⟨rfl, M, rfl⟩
          go_wp2_with fail
          refine Calls.mono (swap_i (hr.drewN M) (i := i) (j := 2 * i + 1) ?_ ?_ (by omega) (by rw [HL.out]; omega)) ?_; (omega); (omega)
          rintro e w' ⟨rfl, hr2, hf2⟩
          go_wp2_with fail
          exact ⟨down_next hi0' hn hp hk hf hfr hc ((ltB_iff HX.out HZ.out).1 hl) hr2 hf2 (by go_num), by simp [intOf]; omega⟩
        · have hl' : ltB x z = false := by simpa using hl
          go_wp2_with fail
          refine Calls.mono (less_i hr (i := 2 * i + 1) (j := i) ?_ ?_ HX.out HZ.out) ?_; (omega); (omega)
          rintro e w' ⟨rfl, M, rfl⟩
          go_wp2_with fail
          go_ret
          exact down_stop (N := M) hi hi0' hr hp hk hf hm hfr (fun k h0 hkn hpk hlt => by have h4 := hc.2.2.2 k h0 hkn hpk; exact absurd ((ltB_iff HX.out HZ.out).2 (leK_lt h4 hlt)) (by rw [hl']; decide)) (by simp)
end
end Go.Proofs.Ytfmkdilllgncfaa
