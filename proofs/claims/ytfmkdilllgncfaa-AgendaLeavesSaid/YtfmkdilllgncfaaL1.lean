/- The walk of the law AgendaSorts. -/
import Derived.Test.YtfmkdilllgncfaaS1
namespace Go.Proofs.Ytfmkdilllgncfaa
open Go.RowKit Go.Lib

/-- the first k times, each with its place -/
def prs (l : List Int) (k : Nat) : List (Int × Int) := (l.take k).zipIdx.map fun p => (p.1, (p.2 : Int))
theorem prs_succ {l : List Int} {k : Nat} {p : Int} (h : l[k]? = some p) : prs l (k + 1) = prs l k ++ [(p, (k : Int))] := by
  have hk := (List.getElem?_eq_some_iff.1 h).1
  unfold prs
  rw [List.take_add_one, h]
  simp only [Option.toList_some]
  rw [List.zipIdx_append, List.map_append, List.length_take, Nat.min_eq_left (Nat.le_of_lt hk)]
  simp
theorem prs_mem {l : List Int} {k : Nat} {q : Int × Int} (h : q ∈ prs l k) : ∃ n : Nat, n < k ∧ l[n]? = some q.1 ∧ q.2 = n := by
  unfold prs at h
  obtain ⟨p, hp, rfl⟩ := List.mem_map.1 h
  have := List.mem_zipIdx hp
  obtain ⟨i, hi⟩ := List.getElem?_of_mem hp
  rw [List.getElem?_zipIdx] at hi
  simp only [Option.map_eq_some_iff] at hi
  obtain ⟨a, ha, he⟩ := hi
  rw [List.getElem?_take] at ha
  split at ha
  · subst he; exact ⟨i, ‹_›, ha, by simp⟩
  · cases ha
theorem prs_length (l : List Int) {k : Nat} (h : k ≤ l.length) : (prs l k).length = k := by simp [prs, h]

/-- what a row of puts makes -/
theorem put_perm {l : List Int} {k : Nat} {p : Int} {m : List (Int × Int)} (h : l[k]? = some p) (hm : m.Perm (prs l k)) : (putL m p (k : Int)).Perm (prs l (k + 1)) := by
  unfold putL
  refine (insL_perm _ _).trans ?_
  rw [prs_succ h, dropL_of_not]
  · exact (hm.cons _).trans (List.perm_append_singleton _ _).symm
  · intro q hq e
    obtain ⟨n, hn, _, h2⟩ := prs_mem (hm.mem_iff.1 hq)
    omega
theorem Mine.sorted {w0 w : World} {ba : Nat} {m : List (Int × Int)} (h : Mine w0 w ba m) : Sorted m := let ⟨_, h1, _⟩ := h; h1.sorted

def SortRel (w0 : World) (l : List Int) (ba : Nat) (j : Nat) (v : Value) (wr : World) : Prop := ∃ (k : Nat) (m : List (Int × Int)), k + j = l.length ∧ v = .int .i64 k ∧ Mine w0 wr ba m ∧ m.Perm (prs l k)

theorem due_all {m : List (Int × Int)} {now : Int} (h : ∀ p ∈ m, p.1 ≤ now) : dueL m now = m ∧ leftL m now = [] := by
  induction m with
  | nil => exact ⟨rfl, rfl⟩
  | cons p m ih =>
    obtain ⟨h1, h2⟩ := ih fun q hq => h q (.tail _ hq)
    obtain ⟨h3, h4⟩ := due_head p m now (h p (.head _))
    exact ⟨by rw [h3, h1], by rw [h4, h2]⟩

theorem prs_at {l : List Int} {m : List (Int × Int)} (hp : m.Perm (prs l l.length)) {k : Nat} {q : Int × Int} (h : m[k]? = some q) : ∃ n : Nat, n < l.length ∧ l[n]? = some q.1 ∧ q.2 = n :=
  prs_mem (hp.mem_iff.1 (List.mem_of_getElem? h))

def maxI : Int := 9223372036854775807

set_option maxRecDepth 100000 in
set_option maxHeartbeats 4000000 in
theorem sorts_h {w : World} {v : Value} {l : List Int} (h : IR w (fun k => k < w.heap.size) v l) (hx : ∀ p ∈ l, p ≤ maxI) :
    Calls Try.prog 4 #[v] w fun e w' => e = .returned (.bool true) ∧ Fr (fun _ => False) w w' := by
  obtain ⟨a, cap, rfl⟩ := h.form
  go_enter Try.func4, Try.ntmps4
  go_wp2_with fail
  refine Calls.mono (shown_h w) ?_
  rintro e w1 ⟨rfl, hf1⟩
  have hf1' := hf1
  by_cases hbig : 300 < l.length
  · have d1 : decide (300 < (l.length : Int)) = true := by simp; omega
    go_wp2_with fail
    go_ret
    exact ⟨rfl, hf1⟩
  · have d1 : decide (300 < (l.length : Int)) = false := by simp; omega
    have hl2 : l.length ≤ 300 := by omega
    clear hbig
    go_wp2_with fail
    refine Calls.mono (mine_new w1) ?_
    rintro e w2 ⟨ba, rfl, hm⟩
    go_wp2_with fail
    go_loopg [5] (l.length) (fun j v wr => SortRel w1 l ba j v wr)
    case atStart => exact ⟨0, [], by omega, rfl, hm, by simp [prs]⟩
    case round =>
      clear hm
      obtain ⟨k, m, hk, rfl, hm, hp⟩ := hrel
      have hlen : m.length = k := by rw [hp.length_eq, prs_length l (by omega)]
      have HK := Lib.hid (And.intro hk (And.intro hp hlen))
      clear hk hp hlen
      by_cases hlt : k < l.length
      · obtain ⟨g, off, rfl, hc⟩ := h.cells (by omega)
        obtain ⟨p, hp⟩ : ∃ p, l[k]? = some p := ⟨_, List.getElem?_eq_getElem hlt⟩
        have c1 := hm.fr.cell (hf1.cell (hc k p hp) (fun h => h)) (fun h => h)
        have HP := Lib.hid hp
        clear hc hp
        go_wp2_with fail
        refine Calls.mono (mine_put hm (by rw [HK.out.2.2]; omega) p k) ?_
        rintro e w3 ⟨rfl, hm3⟩
        go_wp2_with fail
        go_roundg (l.length - (k + 1))
        case measure => have := HK.out; omega
        case rel => exact ⟨k + 1, _, by omega, by go_num, hm3, put_perm HP.out HK.out.2.1⟩
      · have hkl : k = l.length := by have := HK.out; omega
        subst hkl
        have hdue := due_all (m := m) (now := maxI) fun q hq => by
          obtain ⟨n, hn, h1, h2⟩ := prs_mem (HK.out.2.1.mem_iff.1 hq)
          exact hx _ (List.mem_of_getElem? h1)
        have hsrt := hm.sorted
        have hfr := hm.fr
        have hmx := mine_due hm (by rw [HK.out.2.2]; omega) maxI
        rw [hdue.1, hdue.2] at hmx
        have HD := Lib.hid hmx
        clear hmx hdue hx
        go_wp2_with fail
        refine Calls.mono HD.out ?_
        rintro e w3 ⟨v, rfl, hm3, hd⟩
        have hml : (m.map (·.2)).length = l.length := by rw [List.length_map]; exact HK.out.2.2
        have hfr3 := hm3.fr
        obtain ⟨b, cap2, rfl⟩ := hd.form
        rw [hml]
        have b1 : ((l.length : Int) != (l.length : Int)) = false := by simp
        go_wp2_with fail
        refine Calls.mono (mine_len hm3) ?_
        rintro e w4 ⟨rfl, rfl⟩
        simp only [List.length_nil]
        go_wp2_with fail
        have hrow : IR w3 (fun k => k < w.heap.size) (.slice a l.length cap) l := (h.fr hf1 fun _ _ h => h).fr hfr3 fun _ _ h => h
        clear hm hfr hf1
        have hmk : ∀ k, k < l.length → ∃ q, m[k]? = some q := fun k hk => ⟨_, List.getElem?_eq_getElem (by rw [HK.out.2.2]; exact hk)⟩
        go_loopg [7] (l.length) (fun j v wr => ∃ k N : Nat, k + j = l.length ∧ v = .int .i64 k ∧ wr = w3.drewN N)
        case atStart => exact ⟨0, 0, by omega, rfl, rfl⟩
        case round =>
          obtain ⟨k, N, hk, rfl, rfl⟩ := hrel
          have HJ := Lib.hid hk
          clear hk
          by_cases hlt : k < l.length
          · obtain ⟨g, off, rfl, hc⟩ := hrow.cells (by omega)
            obtain ⟨g2, off2, rfl, hc2⟩ := hd.cells (by rw [hml]; omega)
            obtain ⟨q, hq⟩ := hmk k hlt
            obtain ⟨n, hn1, hn2, hn3⟩ := prs_at HK.out.2.1 hq
            have c1 := hc n q.1 hn2
            have c2 := hc2 k q.2 (by simp [hq])
            rw [hn3] at c2
            have d2 : decide ((n : Int) < 0) = false := by simp
            have d3 : decide ((l.length : Int) ≤ (n : Int)) = false := by simp; omega
            have d3n : decide (l.length ≤ n) = false := by simp; omega
            rcases Nat.eq_zero_or_pos k with rfl | h0
            · have HQ := Lib.hid (And.intro hq (And.intro hn2 hn3))
              clear hq hn2 hn3 hc hc2 hmk hsrt
              rw [Nat.add_zero] at c2
              go_wp2_with fail
              simp only [List.append_eq, List.cons_append, List.nil_append]
              go_big_quiet (fail)
              go_wp2_with fail
              go_roundg (l.length - (0 + 1))
              case measure => have := HJ.out; omega
              case rel => exact ⟨1, _, by omega, by go_num, rfl⟩
            · obtain ⟨j, rfl⟩ : ∃ j, k = j + 1 := ⟨k - 1, by omega⟩
              obtain ⟨r, hr⟩ := hmk j (by omega)
              obtain ⟨i, hi1, hi2, hi3⟩ := prs_at HK.out.2.1 hr
              have c3 := hc i r.1 hi2
              have c4 := hc2 j r.2 (by simp [hr])
              rw [hi3] at c4
              have hlk : ltK r q := by
                obtain ⟨hj1, hj2⟩ := List.getElem?_eq_some_iff.1 hr
                obtain ⟨hj3, hj4⟩ := List.getElem?_eq_some_iff.1 hq
                rw [← hj2, ← hj4]
                exact List.pairwise_iff_getElem.1 hsrt j (j + 1) hj1 hj3 (by omega)
              have HQ := Lib.hid (And.intro hq (And.intro hn2 hn3))
              have HI := Lib.hid (And.intro hr (And.intro hi2 hi3))
              unfold ltK at hlk
              rw [hn3, hi3] at hlk
              have d4 : decide (q.1 < r.1) = false := by simp; omega
              have d5 : decide (0 < (j : Int) + 1) = true := by rw [decide_eq_true_iff]; omega
              clear hq hn2 hn3 hc hc2 hmk hsrt hr hi2 hi3
              by_cases he : q.1 = r.1
              · have d6 : (q.1 == r.1) = true := by simpa using he
                have d7 : decide ((n : Int) ≤ (i : Int)) = false := by rw [decide_eq_false_iff_not]; omega
                have d7n : decide (n ≤ i) = false := by rw [decide_eq_false_iff_not]; omega
                clear he hlk
                go_wp2_with fail
                simp only [List.append_eq, List.cons_append, List.nil_append]
                go_big_quiet (fail)
                go_wp2_with fail
                go_roundg (l.length - (j + 1 + 1))
                case measure => have := HJ.out; omega
                case rel => exact ⟨j + 1 + 1, _, by omega, by go_num, rfl⟩
              · have d6 : (q.1 == r.1) = false := by simpa using he
                clear he hlk
                go_wp2_with fail
                simp only [List.append_eq, List.cons_append, List.nil_append]
                go_big_quiet (fail)
                go_wp2_with fail
                go_roundg (l.length - (j + 1 + 1))
                case measure => have := HJ.out; omega
                case rel => exact ⟨j + 1 + 1, _, by omega, by go_num, rfl⟩
          · go_wp2_with fail
            go_ret
            exact ⟨rfl, (hf1'.next hfr3).drewN _⟩
end Go.Proofs.Ytfmkdilllgncfaa
