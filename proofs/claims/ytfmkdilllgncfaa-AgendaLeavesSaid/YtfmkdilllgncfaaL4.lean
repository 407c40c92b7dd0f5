/- The walk of the law AgendaLeaves. -/
import Derived.Test.YtfmkdilllgncfaaTwo
namespace Go.Proofs.Ytfmkdilllgncfaa
open Go.RowKit Go.Lib

theorem sorted_left {m : List (Int × Int)} (h : Sorted m) (now : Int) : leftL m now = m.filter (fun p => decide (now < p.1)) := by
  induction m with
  | nil => rfl
  | cons p m ih =>
    obtain ⟨h1, h2⟩ := List.pairwise_cons.1 h
    by_cases hp : p.1 ≤ now
    · rw [(due_head p m now hp).2, List.filter_cons_of_neg (by simp; omega), ih h2]
    · rw [(due_stop p m now hp).2]
      symm
      rw [List.filter_eq_self]
      intro q hq
      rcases List.mem_cons.1 hq with rfl | hq
      · simp; omega
      · have := h1 q hq; unfold ltK at this; simp; omega
theorem due_mem {m : List (Int × Int)} {now : Int} {p : Int × Int} (h : p ∈ dueL m now) : p ∈ m ∧ p.1 ≤ now := by
  unfold dueL at h
  have h1 := (List.takeWhile_sublist (l := m) fun p : Int × Int => decide (p.1 ≤ now)).subset h
  refine ⟨h1, ?_⟩
  induction m with
  | nil => cases h
  | cons q m ih =>
    by_cases hq : q.1 ≤ now
    · rw [List.takeWhile_cons_of_pos (by simpa using hq)] at h
      rcases List.mem_cons.1 h with rfl | h
      · exact hq
      · exact ih h ((List.takeWhile_sublist _).subset h)
    · rw [List.takeWhile_cons_of_neg (by simpa using hq)] at h
      cases h

/-- what is left of the puts behind some drops -/
def kept (l d : List Int) : List (Int × Int) := (prs l l.length).filter fun p => !d.contains p.2
theorem kept_drop {l d : List Int} {j : Nat} {x : Int} {m : List (Int × Int)} (hx : d[j]? = some x) (hm : m.Perm (kept l (d.take j))) : (dropL x m).Perm (kept l (d.take (j + 1))) := by
  unfold dropL
  refine (hm.filter _).trans ?_
  unfold kept
  rw [List.filter_filter]
  have e : d.take (j + 1) = d.take j ++ [x] := by rw [List.take_add_one, hx]; rfl
  rw [e]
  refine List.Perm.of_eq (List.filter_congr fun p _ => ?_)
  by_cases hpx : p.2 = x <;> simp [hpx]
theorem prs_in {l : List Int} {i : Nat} {t : Int} (h : l[i]? = some t) : (t, (i : Int)) ∈ prs l l.length := by
  have hi := (List.getElem?_eq_some_iff.1 h).1
  rw [prs_range l (Nat.le_refl _)]
  exact List.mem_map.2 ⟨i, by simpa using hi, by simp [List.getD, h]⟩
theorem kept_at {l d : List Int} {m : List (Int × Int)} (hn : (m.map (·.2)).Nodup) (hm : m.Perm (kept l d)) {i : Nat} {t : Int} (h : l[i]? = some t) : atL m i = if d.contains (i : Int) then none else some t := by
  split
  · rename_i hc
    refine atL_none fun p hp e => ?_
    have := (List.mem_filter.1 (hm.mem_iff.1 hp)).2
    rw [e, hc] at this
    cases this
  · rename_i hc
    refine atL_some hn (hm.mem_iff.2 (List.mem_filter.2 ⟨prs_in h, ?_⟩))
    simpa using hc
theorem kept_mem {l d : List Int} {m : List (Int × Int)} (hm : m.Perm (kept l d)) {p : Int × Int} (hp : p ∈ m) : ∃ n : Nat, n < l.length ∧ l[n]? = some p.1 ∧ p.2 = n ∧ d.contains (n : Int) = false := by
  have h1 := List.mem_filter.1 (hm.mem_iff.1 hp)
  obtain ⟨n, hn, h2, h3⟩ := prs_mem h1.1
  refine ⟨n, hn, h2, h3, ?_⟩
  have := h1.2
  rw [h3] at this
  simpa using this
theorem dropL_len {m : List (Int × Int)} {x : Int} {n : Nat} (h : m.length ≤ n) : (dropL x m).length ≤ n := Nat.le_trans (dropL_length m x) h

/-- the places that are not dropped, and later than now -/
def lateL (l d : List Int) (now : Int) (k : Nat) : List Int := ((List.range k).filter fun i : Nat => !d.contains (i : Int) && decide (now < l.getD i 0)).map fun i : Nat => (i : Int)
theorem late_succ {l d : List Int} {now : Int} {k : Nat} {t : Int} (h : l[k]? = some t) : lateL l d now (k + 1) = lateL l d now k ++ if d.contains (k : Int) then [] else if now < t then [(k : Int)] else [] := by
  unfold lateL
  rw [List.range_succ, List.filter_append, List.map_append]
  congr 1
  have e : l.getD k 0 = t := by simp [List.getD, h]
  simp only [List.filter_cons, List.filter_nil, e]
  cases d.contains (k : Int) <;> by_cases ht : now < t <;> simp [ht]
theorem late_mem {l d : List Int} {now : Int} {k : Nat} {x : Int} (h : x ∈ lateL l d now k) : ∃ n : Nat, n < k ∧ x = n ∧ d.contains (n : Int) = false ∧ now < l.getD n 0 := by
  obtain ⟨n, hn, rfl⟩ := List.mem_map.1 h
  obtain ⟨h1, h2⟩ := List.mem_filter.1 hn
  simp at h1 h2
  exact ⟨n, h1, rfl, by simpa using h2.1, h2.2⟩
theorem late_length {l d : List Int} {now : Int} {m : List (Int × Int)} (hs : Sorted m) (hm : m.Perm (kept l d)) : (leftL m now).length = (lateL l d now l.length).length := by
  rw [sorted_left hs, (hm.filter _).length_eq]
  unfold kept lateL
  rw [prs_range l (Nat.le_refl _), List.filter_filter, List.filter_map, List.length_map, List.length_map]
  congr 1
  refine List.filter_congr fun i _ => ?_
  simp [Function.comp, Bool.and_comm]
theorem late_at {l d : List Int} {now : Int} {m : List (Int × Int)} (hs : Sorted m) (hn : ((leftL m now).map (·.2)).Nodup) (hm : m.Perm (kept l d)) {n : Nat} {t : Int} (ht : l[n]? = some t) (h1 : d.contains (n : Int) = false) (h2 : now < t) : atL (leftL m now) n = some t := by
  refine atL_some hn ?_
  rw [sorted_left hs]
  refine List.mem_filter.2 ⟨hm.mem_iff.2 (List.mem_filter.2 ⟨prs_in ht, by simpa using h1⟩), by simpa using h2⟩
theorem late_le (l d : List Int) (now : Int) (k : Nat) : (lateL l d now k).length ≤ k := by
  unfold lateL
  rw [List.length_map]
  have := List.length_filter_le (fun i : Nat => !d.contains (i : Int) && decide (now < l.getD i 0)) (List.range k)
  simpa using this

def LvRel (w0 : World) (l d : List Int) (ba : Nat) (j : Nat) (v : Value) (wr : World) : Prop := ∃ (k : Nat) (m : List (Int × Int)), k + j = d.length ∧ v = .int .i64 k ∧ Mine w0 wr ba m ∧ m.Perm (kept l (d.take k)) ∧ m.length ≤ 200
def LtRel (wS : World) (l d : List Int) (now : Int) (j : Nat) (v10 v12 : Value) (wr : World) : Prop :=
  ∃ k : Nat, k + j = l.length ∧ v12 = .int .i64 k ∧ wr.ownsRow wS.heap.size 3 1 v10 (lateL l d now k).length ((lateL l d now k).map (Value.int .i64)) ∧ Fr (fun k => wS.heap.size ≤ k) wS wr

set_option maxRecDepth 100000 in
set_option maxHeartbeats 4000000 in
theorem leaves_h {w : World} {v v2 : Value} {l d : List Int} (h : IR w (fun k => k < w.heap.size) v l) (h2 : IR w (fun k => k < w.heap.size) v2 d) (now : Int) :
    Calls Try.prog 5 #[v, .int .i64 now, v2] w fun e w' => e = .returned (.bool true) ∧ Fr (fun _ => False) w w' := by
  obtain ⟨a, cap, rfl⟩ := h.form
  obtain ⟨a2, cap2, rfl⟩ := h2.form
  obtain ⟨i0, hi0, hz0, hz1, hz2⟩ := info_parts info3
  go_enter Try.func5, Try.ntmps5
  go_wp2_with fail
  refine Calls.mono (shown_h w) ?_
  rintro e w1 ⟨rfl, hf1⟩
  by_cases hbig : 200 < l.length
  · have d1 : decide (200 < (l.length : Int)) = true := by simp; omega
    go_wp2_with fail
    go_ret
    exact ⟨rfl, hf1⟩
  · have d1 : decide (200 < (l.length : Int)) = false := by simp; omega
    have hl2 : l.length ≤ 200 := by omega
    clear hbig
    by_cases hbig2 : 100 < d.length
    · have d2 : decide (100 < (d.length : Int)) = true := by simp; omega
      go_wp2_with fail
      go_ret
      exact ⟨rfl, hf1⟩
    · have d2 : decide (100 < (d.length : Int)) = false := by simp; omega
      have hl3 : d.length ≤ 100 := by omega
      clear hbig2
      go_wp2_with fail
      refine Calls.mono (mine_new w1) ?_
      rintro e w2 ⟨ba, rfl, hm⟩
      go_wp2_with fail
      go_loopg [9] (l.length) (fun j v wr => SortRel w1 l ba j v wr)
      case atStart => exact ⟨0, [], by omega, rfl, hm, by simp [prs]⟩
      case round =>
        clear hm
        obtain ⟨k, m, hk, rfl, hm, hp⟩ := hrel
        have hlen : m.length = k := by rw [hp.length_eq, prs_length l (by omega)]
        have HK := Lib.hid (And.intro hk (And.intro hp hlen))
        clear hk hp hlen
        by_cases hlt : k < l.length
        · obtain ⟨g, off, rfl, hc⟩ := h.cells (by omega)
          obtain ⟨p, hp⟩ : ∃ p, l[k]? = some p := ⟨_, List.getElem?_eq_getElem hlt⟩
          have c1 := hm.fr.cell (hf1.cell (hc k p hp) (fun h => h)) (fun h => h)
          have HP := Lib.hid hp
          clear hc hp
          go_wp2_with fail
          refine Calls.mono (mine_put hm (by rw [HK.out.2.2]; omega) p k) ?_
          rintro e w3 ⟨rfl, hm3⟩
          go_wp2_with fail
          go_roundg (l.length - (k + 1))
          case measure => have := HK.out; omega
          case rel => exact ⟨k + 1, _, by omega, by go_num, hm3, put_perm HP.out HK.out.2.1⟩
        · have hkl : k = l.length := by have := HK.out; omega
          subst hkl
          have hm200 : m.length ≤ 200 := by rw [HK.out.2.2]; omega
          go_wp2_with fail
          go_loopg [11] (d.length) (fun j v wr => LvRel w1 l d ba j v wr)
          case atStart => exact ⟨0, m, by omega, rfl, hm, by have := HK.out.2.1; unfold kept; rw [List.filter_eq_self.2 (by simp)]; exact this, hm200⟩
          case round =>
            clear hm HK hm200
            obtain ⟨k, m, hk, rfl, hm, hp, hlen⟩ := hrel
            have HK := Lib.hid (And.intro hk hp)
            clear hk hp
            by_cases hlt : k < d.length
            · obtain ⟨g, off, rfl, hc⟩ := h2.cells (by omega)
              obtain ⟨p, hp⟩ : ∃ p, d[k]? = some p := ⟨_, List.getElem?_eq_getElem hlt⟩
              have c1 := hm.fr.cell (hf1.cell (hc k p hp) (fun h => h)) (fun h => h)
              have HP := Lib.hid hp
              clear hc hp
              go_wp2_with fail
              refine Calls.mono (mine_drop hm (by omega) p) ?_
              rintro e w3 ⟨rfl, hm3⟩
              go_wp2_with fail
              go_roundg (d.length - (k + 1))
              case measure => have := HK.out; omega
              case rel => exact ⟨k + 1, _, by omega, by go_num, hm3, kept_drop HP.out HK.out.2, dropL_len hlen⟩
            · have hkl : k = d.length := by have := HK.out; omega
              subst hkl
              have hp : m.Perm (kept l d) := by have := HK.out.2; rwa [List.take_of_length_le (Nat.le_refl _)] at this
              have hsrt := hm.sorted
              have hfm := hm.fr
              obtain ⟨own, hag, hown, hfr0⟩ := hm
              have hnd := hag.nodup
              have hlt0 : ∀ k, own k → k < wr.heap.size := by obtain ⟨_, _, _, _, _, _, _, _, h6⟩ := hag; exact h6
              have hr1 : IR wr (fun k => k < w.heap.size) (.slice a l.length cap) l := (h.fr hf1 fun _ _ h => h).fr hfm fun _ _ h => h
              have hr2 : IR wr (fun k => k < w.heap.size) (.slice a2 d.length cap2) d := (h2.fr hf1 fun _ _ h => h).fr hfm fun _ _ h => h
              have hsz : w.heap.size ≤ wr.heap.size := Nat.le_trans hf1.size hfm.size
              have hsz1 : w.heap.size ≤ w1.heap.size := hf1.size
              have HP := Lib.hid (And.intro hp (And.intro hsrt (And.intro hnd (And.intro hlt0 (hf1.next hfm)))))
              clear hp hsrt hnd HK hfm hfr0 hf1 h h2 hlt0
              obtain ⟨wS, rfl⟩ : ∃ wS : World, wS = wr := ⟨_, rfl⟩
              go_wp2_with fail
              go_loopg [10, 12] (l.length) (fun j v10 v12 wr => LtRel wS l d now j v10 v12 wr)
              case atStart => exact ⟨0, by omega, rfl, World.ownsRow_nil _ _ _ _, Fr.refl _ _⟩
              case round =>
                obtain ⟨k, hk, rfl, hrow, hfS⟩ := hrel
                have HK := Lib.hid hk
                clear hk
                have hagr := hag.other hfS fun k h1 h2 => by have := HP.out.2.2.2.1 k h1; omega
                by_cases hlt : k < l.length
                · obtain ⟨g, off, rfl, hc⟩ := hr1.cells (by omega)
                  obtain ⟨p, hpk⟩ : ∃ p, l[k]? = some p := ⟨_, List.getElem?_eq_getElem hlt⟩
                  have c1 := hfS.cell (hc k p hpk) (fun h => by have := World.block_lt_of_cell? wS _ (hc k p hpk); simp at this; simp at h; omega)
                  have hat := kept_at HP.out.2.2.1 HP.out.1 hpk
                  have hls := late_succ (d := d) (now := now) hpk
                  have hlle := late_le l d now k
                  have HA := Lib.hid (And.intro hat hls)
                  clear hat hls hpk hc
                  go_wp2_with fail
                  refine Calls.mono (at_m hagr k) ?_
                  rintro e w3 ⟨rfl, N, rfl⟩
                  rw [HA.out.1]
                  have hr2' : IR (wr.drewN N) (fun k => k < w.heap.size) (.slice a2 d.length cap2) d := hr2.fr (hfS.drewN N) fun k h1 h2 => by omega
                  have hc2 : d.contains (k : Int) = true ∨ d.contains (k : Int) = false := by cases d.contains (k : Int) <;> simp
                  have HC := has_h hr2' (by omega) k
                  rcases hc2 with hc2 | hc2
                  · rw [hc2] at HC
                    rw [hc2] at HA ⊢
                    simp only [if_true, Option.getD_none, Option.isSome_none] at HA ⊢
                    have HC2 := Lib.hid HC
                    clear HC hc2
                    go_wp2_with fail
                    refine Calls.mono HC2.out ?_
                    rintro e w4 ⟨rfl, rfl⟩
                    go_wp2_with fail
                    go_roundg (l.length - (k + 1))
                    case measure => have := HK.out; omega
                    case rel =>
                      refine ⟨k + 1, by omega, by go_num, ?_, hfS.drewN N⟩
                      rw [HA.out.2, List.append_nil]; exact hrow
                  · rw [hc2] at HC
                    rw [hc2] at HA ⊢
                    simp only [Bool.false_eq_true, if_false, Option.getD_some, Option.isSome_some] at HA ⊢
                    have HC2 := Lib.hid HC
                    clear HC hc2
                    by_cases hnow : now < p
                    · have d3 : decide (now < p) = true := by simpa using hnow
                      have HN := Lib.hid hnow
                      clear hnow
                      go_wp2_with fail
                      refine Calls.mono HC2.out ?_
                      rintro e w4 ⟨rfl, rfl⟩
                      have hbse : wS.heap.size ≤ wr.heap.size := hfS.size
                      go_wp2_with (at_builtin; go_must (refine wpList_append_shape rfl _ _ 33 rfl wS.heap.size 3 i0 (.int .i64 0) 1 8 Try.underlying33 hi0 hz0 hz1 hz2 rfl (by decide) _ _ _ rfl (ownsRow_keep (w := wr) (hrow) (fun _ _ => rfl) |>.alloc _) ⟨wr.heap.size, 0, none⟩ 1 1 [.int .i64 (k : Int)] rfl rfl (cell_one_new (wr.drewN N) _ _) (ints_oneCell .i64 [(k : Int)]) (by unfold maxLen; omega) (by omega) (by simp; omega) (by omega) ?_; intro g2 c2 w5 hrow2 hgrow hloc))
                      go_roundg (l.length - (k + 1))
                      case measure => have := HK.out; omega
                      case rel =>
                        refine ⟨k + 1, by omega, by go_num, ?_, ((hfS.drewN N).alloc _).grown hgrow fun i hi => .inl (hrow.lt i hi).1⟩
                        rw [HA.out.2, if_pos HN.out, List.map_append, List.length_append]; exact hrow2
                    · have d3 : decide (now < p) = false := by simpa using hnow
                      have HN := Lib.hid hnow
                      clear hnow
                      go_wp2_with fail
                      refine Calls.mono HC2.out ?_
                      rintro e w4 ⟨rfl, rfl⟩
                      go_wp2_with fail
                      go_roundg (l.length - (k + 1))
                      case measure => have := HK.out; omega
                      case rel =>
                        refine ⟨k + 1, by omega, by go_num, ?_, hfS.drewN N⟩
                        rw [HA.out.2, if_neg (by have := HN.out; omega), List.append_nil]; exact hrow
                · have hkl : k = l.length := by have := HK.out; omega
                  subst hkl
                  obtain ⟨ax, cx, rfl⟩ := ownsRow_shape hrow
                  have hlle := late_le l d now l.length
                  have hm200 : m.length < 999999 := by omega
                  clear HK
                  go_wp2_with fail
                  refine Calls.mono (due_m hagr hm200 now) ?_
                  rintro e w3 ⟨v, rfl, hag3, hf3, hrow3⟩
                  have hleft : w3.ownsRow wS.heap.size 3 1 (.slice ax (lateL l d now l.length).length cx) (lateL l d now l.length).length ((lateL l d now l.length).map (Value.int .i64)) :=
                    ownsRow_keep hrow fun i hi => hf3.block i (hrow.lt i hi).2 fun ho => by have := HP.out.2.2.2.1 i ho; have := (hrow.lt i hi).1; omega
                  have hF3 : Fr (fun k => own k ∨ wS.heap.size ≤ k) wS w3 := (hfS.mono fun i _ hi => .inr hi).next (hf3.mono fun i _ hi => .inl hi)
                  have hr1' : IR w3 (fun k => k < w.heap.size) (.slice a l.length cap) l := hr1.fr hF3 fun k h1 h2 => by
                    rcases h2 with h2 | h2
                    · have := hown k h2; omega
                    · omega
                  have hr2' : IR w3 (fun k => k < w.heap.size) (.slice a2 d.length cap2) d := hr2.fr hF3 fun k h1 h2 => by
                    rcases h2 with h2 | h2
                    · have := hown k h2; omega
                    · omega
                  have hD : IR w3 (fun k => v.ownBlock = some k) v ((dueL m now).map (·.2)) := by
                    have := SRow.of_owns hrow3
                    unfold IR
                    simpa [idsV, List.map_map, Function.comp_def] using this
                  have hL : IR w3 (fun _ => True) (.slice ax (lateL l d now l.length).length cx) (lateL l d now l.length) := by
                    have := (SRow.of_owns hleft).mono (S' := fun _ => True) fun _ _ => trivial
                    exact this
                  have hDl : ((dueL m now).map (·.2)).length ≤ m.length := by rw [List.length_map]; unfold dueL; exact (List.takeWhile_sublist _).length_le
                  obtain ⟨av, cv, rfl⟩ := hD.form
                  have hdq : ∀ k, k < ((dueL m now).map (·.2)).length → ∃ q n, (dueL m now)[k]? = some q ∧ q.1 ≤ now ∧ l[n]? = some q.1 ∧ n < l.length ∧ q.2 = ((n : Nat) : Int) ∧ d.contains (n : Int) = false := fun k hk => by
                    rw [List.length_map] at hk
                    obtain ⟨h1, h2⟩ := due_mem (List.getElem_mem (l := dueL m now) hk)
                    obtain ⟨n, h3, h4, h5, h6⟩ := kept_mem HP.out.1 h1
                    exact ⟨_, n, List.getElem?_eq_getElem hk, h2, h4, h3, h5, h6⟩
                  have hlq : ∀ k, k < (lateL l d now l.length).length → ∃ n t, (lateL l d now l.length)[k]? = some ((n : Nat) : Int) ∧ n < l.length ∧ l[n]? = some t ∧ atL (leftL m now) n = some t := fun k hk => by
                    obtain ⟨n, h1, h2, h3, h4⟩ := late_mem (List.getElem_mem (l := lateL l d now l.length) hk)
                    have h5 : l[n]? = some (l.getD n 0) := by simp [List.getD, h1]
                    refine ⟨n, l.getD n 0, by rw [List.getElem?_eq_getElem hk, h2], h1, h5, late_at HP.out.2.1 hag3.nodup HP.out.1 h5 h3 h4⟩
                  have hfin := late_length (now := now) HP.out.2.1 HP.out.1
                  have HQ := Lib.hid (And.intro hdq (And.intro hlq hfin))
                  clear hdq hlq hfin hrow hrow3 hleft
                  have HF := Lib.hid (And.intro hF3 (And.intro hfS hf3))
                  clear hF3 hfS hf3 hag hr1 hr2
                  generalize hDD : (dueL m now).map (·.2) = D at *
                  generalize hLL : lateL l d now l.length = LL at *
                  have HDD := Lib.hid (And.intro hDD hLL)
                  clear hDD hLL
                  go_wp2_with fail
                  go_loopg [16] (D.length) (fun j v16 wr => ∃ k : Nat, k + j = D.length ∧ v16 = .int .i64 k ∧ w3 = wr)
                  case atStart => exact ⟨0, by omega, rfl, rfl⟩
                  case round =>
                    obtain ⟨k, hk, rfl, rfl⟩ := hrel
                    have HK := Lib.hid hk
                    clear hk
                    by_cases hlt : k < D.length
                    · obtain ⟨g, off, rfl, hc⟩ := hr1'.cells (by obtain ⟨q, n, _, _, _, h, _⟩ := HQ.out.1 k hlt; omega)
                      obtain ⟨g2, off2, rfl, hc2⟩ := hD.cells (by omega)
                      obtain ⟨q, n, q1, q2, q3, q4, q5, q6⟩ := HQ.out.1 k hlt
                      have c1 := hc n q.1 q3
                      have c2 := hc2 k (n : Int) (by rw [← HDD.out.1, List.getElem?_map, q1, Option.map_some, q5])
                      have e1 : decide ((n : Int) < 0) = false := by simp
                      have e2 : decide ((l.length : Int) ≤ (n : Int)) = false := by simp; omega
                      have e2n : decide (l.length ≤ n) = false := by simp; omega
                      have e3 : decide (now < q.1) = false := by simp; omega
                      have HC := has_h hr2' (by omega) n
                      rw [q6] at HC
                      have HC2 := Lib.hid HC
                      clear HC hc hc2 q1 q3 q5 q6
                      go_wp2_with fail
                      refine Calls.mono HC2.out ?_
                      rintro e w4 ⟨rfl, rfl⟩
                      go_wp2_with fail
                      go_roundg (D.length - (k + 1))
                      case measure => have := HK.out; omega
                      case rel => exact ⟨k + 1, by omega, by go_num, rfl⟩
                    · go_wp2_with fail
                      go_loopg [17] (LL.length) (fun j v17 wr => ∃ k N : Nat, k + j = LL.length ∧ v17 = .int .i64 k ∧ wr = w3.drewN N)
                      case atStart => exact ⟨0, 0, by omega, rfl, rfl⟩
                      case round =>
                        clear HK hlt
                        obtain ⟨k, N, hk, rfl, rfl⟩ := hrel
                        have HK := Lib.hid hk
                        clear hk
                        by_cases hlt : k < LL.length
                        · obtain ⟨n, t, q1, q2, q3, q4⟩ := HQ.out.2.1 k hlt
                          obtain ⟨g, off, rfl, hc⟩ := hr1'.cells (by omega)
                          obtain ⟨g2, off2, rfl, hc2⟩ := hL.cells (by omega)
                          have c1 := hc n t q3
                          have c2 := hc2 k (n : Int) q1
                          have HQ4 := Lib.hid q4
                          clear hc hc2 q1 q3 q4
                          go_wp2_with fail
                          refine Calls.mono (at_m (hag3.drewN N) n) ?_
                          rintro e w4 ⟨rfl, N2, rfl⟩
                          rw [HQ4.out]
                          simp only [Option.getD_some, Option.isSome_some]
                          go_wp2_with fail
                          go_roundg (LL.length - (k + 1))
                          case measure => have := HK.out; omega
                          case rel => exact ⟨k + 1, _, by omega, by go_num, rfl⟩
                        · go_wp2_with fail
                          refine Calls.mono (len_m (hag3.drewN N)) ?_
                          rintro e w4 ⟨rfl, rfl⟩
                          rw [HQ.out.2.2]
                          go_wp2_with fail
                          go_ret
                          refine ⟨by simp, ?_⟩
                          refine (HP.out.2.2.2.2.trans HF.out.1 fun i hi => .inr ?_).drewN _
                          rcases hi with hi | hi
                          · have := hown i hi; omega
                          · omega
end Go.Proofs.Ytfmkdilllgncfaa
