/- The walks of the agenda's methods. -/
import Derived.Test.YtfmkdilllgncfaaAg
import Derived.StillTailTactics
namespace Go.Proofs.Ytfmkdilllgncfaa
open Go.RowKit Go.Lib

theorem zero58 (w : World) : (zeroValue 58).run Try.prog w = .ok (.pointer none) w := by kernel_rfl

def NewPost (w : World) (e : Ending) (w' : World) : Prop :=
  ∃ ba, e = .returned (.pointer (some ⟨ba, 0, none⟩)) ∧ Ag w' (fun k => w.heap.size ≤ k ∧ k < w'.heap.size) ba [] ∧ Fr (fun _ => False) w w'
theorem new_h (w : World) : Calls Try.prog 9 #[] w (NewPost w) := by
  have hmm := @run_makeMap Try.prog
  go_enter Try.func9, Try.ntmps9
  go_wp2
  go_ret
  refine ⟨w.heap.size + 1, rfl, ?_, ((Fr.refl _ _).alloc _).alloc _⟩
  have e0 : (w.alloc (.map #[] 0)).heap.size = w.heap.size + 1 := by simp
  refine ⟨w.heap.size, .slice none 0 0, [], ⟨⟨?_, World.ownsRow_nil _ _ _ _, by simp⟩, ?_, fun k _ h => absurd h (Nat.not_lt_zero _)⟩, .refl _, List.Pairwise.nil, by simp; omega, ?_, fun k h => h.2⟩
  · rw [← e0]; exact block_new _ _
  · exact (MapOf.made w _).keep (by rw [Below.heap_alloc _ _ _ (by simp)])
  · rintro k (rfl | e | ⟨x, hx, _⟩)
    · simp
    · simp [Value.ownBlock] at e
    · cases hx

section
variable {w : World} {own : Nat → Prop} {ba : Nat} {m : List (Int × Int)}

theorem key_in {ts : List T3} (h2 : (ts.map T3.key).Perm m) {x : T3} (hx : x ∈ ts) : (x.t, x.id) ∈ m := h2.mem_iff.1 (List.mem_map.2 ⟨x, hx, rfl⟩)
theorem ids_in {ts : List T3} (h2 : (ts.map T3.key).Perm m) {id : Int} : (∃ x ∈ ts, x.id = id) ↔ ∃ p ∈ m, p.2 = id := by
  constructor
  · rintro ⟨x, hx, rfl⟩; exact ⟨_, key_in h2 hx, rfl⟩
  · rintro ⟨p, hp, rfl⟩
    obtain ⟨x, hx, rfl⟩ := List.mem_map.1 (h2.mem_iff.2 hp)
    exact ⟨x, hx, rfl⟩

theorem len_m (h : Ag w own ba m) : Calls Try.prog 19 #[.pointer (some ⟨ba, 0, none⟩)] w fun e w' => e = .returned (.int .i64 m.length) ∧ w = w' := by
  obtain ⟨mb, hv, ts, h1, h2, _⟩ := h
  have hc := cell_of h1.things.head (i := 0) (by rfl)
  have hl : ts.length = m.length := by simpa using h2.length_eq
  have HL := Lib.hid hl; clear hl
  go_enter Try.func19, Try.ntmps19
  go_wp2_with fail
  refine Calls.mono (len_h h1.things) ?_
  rintro e w' ⟨rfl, rfl⟩
  go_wp2_with fail
  go_ret
  exact ⟨by rw [← HL.out]; rfl, rfl⟩

def AtPost (m : List (Int × Int)) (id : Int) (w : World) (e : Ending) (w' : World) : Prop :=
  e = .returned (.tuple #[.int .i64 ((atL m id).getD 0), .bool (atL m id).isSome]) ∧ ∃ n, w' = w.drewN n
theorem at_m (h : Ag w own ba m) (id : Int) : Calls Try.prog 20 #[.pointer (some ⟨ba, 0, none⟩), .int .i64 id] w (AtPost m id w) := by
  have hnd := h.nodup
  obtain ⟨mb, hv, ts, h1, h2, _⟩ := h
  have hc := cell_of h1.things.head (i := 1) (by rfl)
  by_cases hex : ∃ x ∈ ts, x.id = id
  · obtain ⟨x, hx, rfl⟩ := hex
    have hlook := h1.by_.run_look (v := x.ptr) Try.underlying53 Try.underlying3 (k := .int .i64 x.id) rfl (List.mem_map.2 ⟨x, hx, rfl⟩) false
    simp only [Bool.false_eq_true, if_false, T3.ptr] at hlook
    obtain ⟨k, hk⟩ := List.getElem?_of_mem hx
    have ha := atL_some hnd (key_in h2 hx)
    have hct := cell_of (h1.things.item k x hk) (i := 0) (by rfl)
    have HA := Lib.hid ha; clear ha
    clear hk
    go_enter Try.func20, Try.ntmps20
    go_wp2
    go_ret2
    exact ⟨by rw [HA.out]; rfl, 0, rfl⟩
  · have hno : ∀ p ∈ ts.map ent, p.1 ≠ .int .i64 id := by
      intro p hp e
      obtain ⟨x, hx, rfl⟩ := List.mem_map.1 hp
      exact hex ⟨x, hx, by simpa [ent] using e⟩
    have hlook := h1.by_.run_none Try.underlying53 Try.underlying3 (k := .int .i64 id) rfl hno zero58 false
    simp only [Bool.false_eq_true, if_false] at hlook
    have ha : atL m id = none := atL_none fun p hp e => hex ((ids_in h2).2 ⟨p, hp, e⟩)
    have HA := Lib.hid ha; clear ha
    clear hno hex
    go_enter Try.func20, Try.ntmps20
    go_wp2
    go_ret2
    exact ⟨by rw [HA.out]; rfl, 0, rfl⟩

/-- what comes first -/
theorem first_m {ts : List T3} (h : HeapTo (keyF ts) ts.length) (h2 : (ts.map T3.key).Perm m) (h3 : Sorted m) {x : T3} (hx : ts[0]? = some x) : m.head? = some x.key := by
  cases m with
  | nil =>
    have e1 := h2.length_eq
    have e2 := (List.getElem?_eq_some_iff.1 hx).1
    rw [List.length_map, List.length_nil] at e1
    omega
  | cons p m =>
    have hp : p ∈ ts.map T3.key := h2.mem_iff.2 (.head _)
    obtain ⟨y, hy, rfl⟩ := List.mem_map.1 hp
    obtain ⟨k, hk⟩ := List.getElem?_of_mem hy
    have l1 : ¬ ltK y.key x.key := by
      have := h.least k (List.getElem?_eq_some_iff.1 hk).1
      rwa [keyF_of hk, keyF_of hx] at this
    have hxm : x.key ∈ y.key :: m := h2.mem_iff.1 (List.mem_map.2 ⟨x, List.mem_of_getElem? hx, rfl⟩)
    rcases List.mem_cons.1 hxm with e | e
    · rw [e]; rfl
    · exact absurd ((List.pairwise_cons.1 h3).1 _ e) l1

def NextPost (m : List (Int × Int)) (w : World) (e : Ending) (w' : World) : Prop :=
  e = .returned (.tuple #[.int .i64 ((m.head?.map (·.1)).getD 0), .int .i64 ((m.head?.map (·.2)).getD 0), .bool m.head?.isSome]) ∧ ∃ n, w' = w.drewN n

set_option maxHeartbeats 400000 in
theorem next_m (h : Ag w own ba m) : Calls Try.prog 18 #[.pointer (some ⟨ba, 0, none⟩)] w (NextPost m w) := by
  have hlen := len_m h
  obtain ⟨mb, hv, ts, h1, h2, h3, _⟩ := h
  have hl : ts.length = m.length := by simpa using h2.length_eq
  rcases Nat.eq_zero_or_pos ts.length with h0 | h0
  · obtain rfl : m = [] := List.eq_nil_of_length_eq_zero (by omega)
    have HL := Lib.hid hlen
    clear hlen h0 hl
    go_enter Try.func18, Try.ntmps18
    go_wp2_with fail
    refine Calls.mono HL.out ?_
    rintro e w' ⟨rfl, rfl⟩
    go_wp2_with fail
    go_ret3
    exact ⟨rfl, 0, rfl⟩
  · obtain ⟨x, hx⟩ : ∃ x, ts[0]? = some x := ⟨_, List.getElem?_eq_getElem h0⟩
    have hh := first_m h1.ordered h2 h3 hx
    obtain ⟨hb, cap, hhv, hc1, hc2⟩ := h1.things.form h0
    subst hhv
    have hc := cell_of h1.things.head (i := 0) (by rfl)
    have hcell := ownsRow_cell h1.things.row (i := 0) (v := x.ptr) (by simp [hx])
    have ix := h1.things.item 0 x hx
    have g0 := cell_of ix (i := 0) (by rfl)
    have g1 := cell_of ix (i := 1) (by rfl)
    unfold T3.ptr at hcell
    unfold maxLen at hc2
    have hm0 : 0 < m.length := by omega
    have b1 : ((m.length : Int) == 0) = false := by rw [beq_eq_false_iff_ne]; omega
    have HL := Lib.hid hlen
    have HH := Lib.hid hh
    have hts : ts.length ≤ 9223372036854775807 := by omega
    clear hlen hl hh hx ix h3
    go_enter Try.func18, Try.ntmps18
    go_wp2_with fail
    refine Calls.mono HL.out ?_
    rintro e w' ⟨rfl, rfl⟩
    go_wp2_with fail
    go_quiet (fail)
    go_wp2_with fail
    go_ret3
    exact ⟨by rw [HH.out]; rfl, _, rfl⟩

/-! ### Put -/
theorem set_key {ts : List T3} {k : Nat} {x y : T3} (hx : ts[k]? = some x) : ((ts.set k y).map T3.key).Perm (y.key :: (ts.eraseIdx k).map T3.key) := by
  have hk := (List.getElem?_eq_some_iff.1 hx).1
  rw [List.eraseIdx_eq_take_drop_succ, List.set_eq_take_append_cons_drop, if_pos hk]
  simp only [List.map_append, List.map_cons]
  exact List.perm_middle
theorem old_key {ts : List T3} {k : Nat} {x : T3} (hx : ts[k]? = some x) : (ts.map T3.key).Perm (x.key :: (ts.eraseIdx k).map T3.key) := by
  obtain ⟨hk, he⟩ := List.getElem?_eq_some_iff.1 hx
  have e1 : ts = ts.take k ++ x :: ts.drop (k + 1) := by rw [← he]; simp
  conv => lhs; rw [e1]
  rw [List.eraseIdx_eq_take_drop_succ]
  simp only [List.map_append, List.map_cons]
  exact List.perm_middle
theorem erase_ids {ts : List T3} (hn : (ts.map T3.id).Nodup) {k : Nat} {x : T3} (hx : ts[k]? = some x) : ∀ p ∈ (ts.eraseIdx k).map T3.key, p.2 ≠ x.id := by
  obtain ⟨hk, he⟩ := List.getElem?_eq_some_iff.1 hx
  have e1 : ts = ts.take k ++ x :: ts.drop (k + 1) := by rw [← he]; simp
  have hp : (ts.map T3.id).Perm (x.id :: (ts.eraseIdx k).map T3.id) := by
    conv => lhs; rw [e1]
    rw [List.eraseIdx_eq_take_drop_succ]
    simp only [List.map_append, List.map_cons]
    exact List.perm_middle
  have hn2 := hp.nodup_iff.1 hn
  rw [List.nodup_cons] at hn2
  intro p hp e
  obtain ⟨y, hy, rfl⟩ := List.mem_map.1 hp
  exact hn2.1 (List.mem_map.2 ⟨y, hy, e⟩)

/-- a thing of the heap gets another time -/
theorem HRep.timed {hv mv : Value} {ts : List T3} (h : HRep w ba hv mv ts) {k : Nat} {x : T3} (hx : ts[k]? = some x) (t : Int) :
    HRep (w.setCell ⟨x.b, 0, none⟩ (.int .i64 t)) ba hv mv (ts.set k ⟨x.b, t, x.id⟩) := by
  have ix := h.item k x hx
  have hk := (List.getElem?_eq_some_iff.1 hx).1
  refine ⟨?_, ?_, fun i y hy => ?_⟩
  · rw [block_set_ne (ne_of_elem h.head ix (by decide))]; exact h.head
  · have e : (ts.set k ⟨x.b, t, x.id⟩).map T3.ptr = ts.map T3.ptr := by
      rw [List.map_set]
      refine List.ext_getElem? fun i => ?_
      by_cases hki : k = i
      · subst hki; rw [List.getElem?_set_self (by simpa using hk)]; simp [hx, T3.ptr]
      · rw [List.getElem?_set_ne hki]
    rw [e, List.length_set]
    refine ownsRow_keep h.row fun g hg => ?_
    rcases h.row.2 with ⟨e2, _⟩ | ⟨g', cap, cur, e2, _, hg', _⟩
    · rw [e2] at hg; simp [Value.ownBlock] at hg
    · rw [e2] at hg
      obtain rfl : g' = g := by simpa [Value.ownBlock] using hg
      exact block_set_ne (ne_of_elem hg' ix (by decide))
  · by_cases hki : k = i
    · subst hki
      rw [List.getElem?_set_self hk] at hy
      obtain rfl := Option.some.inj hy
      exact block_set (c := #[.int .i64 x.t, .int .i64 x.id, .int .i64 k]) ix 0 _
    · rw [List.getElem?_set_ne hki] at hy
      have iy := h.item i y hy
      rw [block_set_ne (ne_of_obj iy ix (by intro e; injection e with e1; injection e1 with e2; simp at e2; omega))]
      exact iy

def PutPost (w : World) (own : Nat → Prop) (ba : Nat) (m : List (Int × Int)) (e : Ending) (w' : World) : Prop := e = .returned (.tuple #[]) ∧ Left w own ba m w'

set_option maxHeartbeats 1000000 in
theorem put_old (h : Ag w own ba m) (hm : m.length < 1000000) (t id : Int) (hin : ∃ p ∈ m, p.2 = id) : Calls Try.prog 16 #[.pointer (some ⟨ba, 0, none⟩), .int .i64 t, .int .i64 id] w (PutPost w own ba (putL m t id)) := by
  obtain ⟨mb, hv, ts, h1, h2, h3, h4, h5, h6⟩ := h
  have hl : ts.length = m.length := by simpa using h2.length_eq
  obtain ⟨x, hx, rfl⟩ := (ids_in h2).2 hin
  obtain ⟨k, hk⟩ := List.getElem?_of_mem hx
  have hkl := (List.getElem?_eq_some_iff.1 hk).1
  have hlook := h1.by_.run_look (v := x.ptr) Try.underlying53 Try.underlying3 (k := .int .i64 x.id) rfl (List.mem_map.2 ⟨x, hx, rfl⟩) false
  simp only [Bool.false_eq_true, if_false, T3.ptr] at hlook
  have hc := cell_of h1.things.head (i := 1) (by rfl)
  have ix := h1.things.item k x hk
  have g0 := cell_of ix (i := 0) (by rfl)
  have f0 := free_of 0 ix
  have hr2 := h1.things.timed hk t
  have hlen2 : (ts.set k ⟨x.b, t, x.id⟩).length = ts.length := List.length_set
  have hfix : FixInv (keyF (ts.set k ⟨x.b, t, x.id⟩)) (ts.set k ⟨x.b, t, x.id⟩).length k := by
    rw [hlen2]
    refine h1.ordered.fix fun i hi hne => ?_
    unfold keyF List.getD
    rw [List.getElem?_set_ne (Ne.symm hne)]
  have g2 := cell_of (hr2.item k ⟨x.b, t, x.id⟩ (List.getElem?_set_self hkl)) (i := 2) (by rfl)
  have hperm : ((ts.set k ⟨x.b, t, x.id⟩).map T3.key).Perm (putL m t x.id) := by
    refine (set_key hk).trans (.trans (.cons _ ?_) (insL_perm _ _).symm)
    exact (dropL_of_perm (h2.symm.trans (old_key hk)) (erase_ids h1.ids hk)).symm
  have hent : (ts.set k ⟨x.b, t, x.id⟩).map ent = ts.map ent := by
    rw [List.map_set]
    refine List.ext_getElem? fun i => ?_
    by_cases hki : k = i
    · subst hki; rw [List.getElem?_set_self (by simpa using hkl)]; simp [hk, ent, T3.ptr]
    · rw [List.getElem?_set_ne hki]
  have hmap := h1.by_
  have hnf := map_not_foot h1.things h1.by_
  have hfoot : ∀ i, foot ba hv (ts.set k ⟨x.b, t, x.id⟩) i → foot ba hv ts i := by
    rintro i (e | e | ⟨y, hy, e⟩)
    · exact .inl e
    · exact .inr (.inl e)
    · rcases List.mem_or_eq_of_mem_set hy with h | rfl
      · exact .inr (.inr ⟨y, h, e⟩)
      · exact .inr (.inr ⟨x, hx, e⟩)
  have H := Lib.hid (And.intro hperm (And.intro hent (And.intro hlen2 (And.intro hfoot hl))))
  have HK := Lib.hid hk
  clear hperm hent hlen2 hfoot hl hx hk hin ix
  go_enter Try.func16, Try.ntmps16
  go_wp2_with fail
  have hfr : Fr own w (w.setCell ⟨x.b, 0, none⟩ (.int .i64 t)) := (Fr.refl _ _).setCell (.inl (h5 _ (.inr (.inr ⟨x, List.mem_of_getElem? HK.out, rfl⟩)))) _
  have hmap2 : MapOf (w.setCell ⟨x.b, 0, none⟩ (.int .i64 t)) (.int .i64) mb (ts.map ent) := hmap.keep (block_set_ne (Ne.symm (ne_map (h1.things.item k x HK.out) hmap)))
  generalize w.setCell ⟨x.b, 0, none⟩ (.int .i64 t) = W at *
  go_still_tail 8, (by kernel_rfl)
  go_wp2_with fail
  refine Calls.mono (hfix_h (hr2.drewN 1) (i := k) (by rw [H.out.2.2.1, H.out.2.2.2.2]; omega) (by rw [H.out.2.2.1]; exact (List.getElem?_eq_some_iff.1 HK.out).1) hfix) ?_
  rintro e w2 ⟨rfl, ts', hr3, hp3, -, hheap, hf3⟩
  go_wp2_with fail
  go_end0
  have hf4 : Fr own W w2 := hf3.of_start.mono fun k _ hk => h5 k (H.out.2.2.2.1 k hk)
  have hp5 : (ts'.map ent).Perm (ts.map ent) := by rw [← H.out.2.1]; exact hp3.map _
  refine ⟨rfl, own, ⟨mb, hv, ts', ⟨hr3, ?_, by rw [hp3.length_eq]; exact hheap⟩, (hp3.map _).trans H.out.1, putL_sorted h3 _ _, h4, fun k hk => h5 k (H.out.2.2.2.1 k ((foot_perm hp3 k).1 hk)), fun k hk => Nat.lt_of_lt_of_le (h6 k hk) (Nat.le_trans hfr.size hf4.size)⟩, fun k hk => .inl hk, hfr.next hf4⟩
  refine ((hmap2.keep ?_).perm hp5.symm)
  exact hf3.of_start.block mb hmap2.lt fun hk => hnf (H.out.2.2.2.1 _ hk)
end
end Go.Proofs.Ytfmkdilllgncfaa
