/- The walks of the agenda's Put and Drop. -/
import Derived.Test.YtfmkdilllgncfaaW5
namespace Go.Proofs.Ytfmkdilllgncfaa
open Go.RowKit Go.Lib

section
variable {w : World} {own : Nat → Prop} {ba : Nat} {m : List (Int × Int)}

set_option maxHeartbeats 1000000 in
theorem put_new (h : Ag w own ba m) (hm : m.length < 999999) (t id : Int) (hin : ∀ p ∈ m, p.2 ≠ id) : Calls Try.prog 16 #[.pointer (some ⟨ba, 0, none⟩), .int .i64 t, .int .i64 id] w (PutPost w own ba (putL m t id)) := by
  obtain ⟨mb, hv, ts, h1, h2, h3, h4, h5, h6⟩ := h
  have hl : ts.length = m.length := by simpa using h2.length_eq
  have hno : ∀ p ∈ ts.map ent, p.1 ≠ .int .i64 id := by
    intro p hp e
    obtain ⟨x, hx, rfl⟩ := List.mem_map.1 hp
    obtain ⟨q, hq, he⟩ := (ids_in h2).1 ⟨x, hx, (by simpa [ent] using e : x.id = id)⟩
    exact hin q hq he
  have hlook := h1.by_.run_none Try.underlying53 Try.underlying3 (k := .int .i64 id) rfl hno zero58 false
  simp only [Bool.false_eq_true, if_false] at hlook
  have hc := cell_of h1.things.head (i := 1) (by rfl)
  have hbl := lt_of_block h1.things.head
  have hneb : ba ≠ w.heap.size := by omega
  have hc2 : (w.alloc (.cells #[.int .i64 t, .int .i64 id, .int .i64 0] 62)).cell? ⟨ba, 1, none⟩ = some (.map (some mb)) := (World.cell?_alloc_lt _ _ _ hbl).trans hc
  have hmap : MapOf (w.alloc (.cells #[.int .i64 t, .int .i64 id, .int .i64 0] 62)) (.int .i64) mb (ts.map ent) := h1.by_.keep (Below.heap_alloc _ _ _ h1.by_.lt)
  have hnew : ∀ x ∈ ts, x.b ≠ w.heap.size := by
    intro x hx
    obtain ⟨k, hk⟩ := List.getElem?_of_mem hx
    have := lt_of_block (h1.things.item k x hk)
    omega
  have hperm : ((ts ++ [(⟨w.heap.size, t, id⟩ : T3)]).map T3.key).Perm (putL m t id) := by
    rw [List.map_append]
    refine (List.perm_append_singleton _ _).trans (.trans ?_ (insL_perm _ _).symm)
    rw [dropL_of_not hin]
    exact h2.cons _
  have hh := h1.things.keep (w' := w.alloc (.cells #[.int .i64 t, .int .i64 id, .int .i64 0] 62)) (fun k hk => Below.heap_alloc _ _ _ (h6 k (h5 k hk)))
  have hnf := map_not_foot h1.things h1.by_
  have hml := h1.by_.lt
  have H := Lib.hid (And.intro hperm (And.intro hl (And.intro hnew hno)))
  clear hperm hl hnew hno hin
  go_enter Try.func16, Try.ntmps16
  go_wp2_with (at_mapUpdate; go_must (refine wpList_map_add (key := .int .i64 id) (val := .pointer (some ⟨w.heap.size, 0, none⟩)) rfl _ _ _ 53 rfl 3 58 Try.underlying53 Try.underlying3 rfl rfl rfl hmap rfl H.out.2.2.2 ?_; intro w1 hmap1 hf1))
  have hbn : (w.alloc (.cells #[.int .i64 t, .int .i64 id, .int .i64 0] 62)).heap[w.heap.size]? = some (.cells #[.int .i64 t, .int .i64 id, .int .i64 0] 62) := block_new _ _
  have hb1 : w1.heap[w.heap.size]? = some (.cells #[.int .i64 t, .int .i64 id, .int .i64 0] 62) := hf1.keep hbn (by omega)
  have hh1 : HRep w1 ba hv (.map (some mb)) ts := hh.keep fun k hk => hf1.block k (by have := h6 k (h5 k hk); simp; omega) (fun e => hnf (e ▸ hk))
  have HF := Lib.hid hf1
  clear hf1
  refine Calls.mono (hpush_h hh1 (by rw [H.out.2.1]; omega) h1.ordered hb1 H.out.2.2.1) ?_
  rintro e w2 ⟨rfl, hv', ts', hr3, hp3, hheap, hown, hf3⟩
  go_wp2_with fail
  go_end0
  have hw1 : w.heap.size + 1 ≤ w1.heap.size := by have := HF.out.size; simpa using this
  have hfa : Fr own w w1 := ((Fr.refl own w).alloc _).trans HF.out fun i hi => .inl (by rw [hi]; exact h4)
  have hfb : Fr own w w2 := hfa.trans hf3 fun k hk => by
    rcases hk with hk | hk
    · exact .inl (h5 k hk)
    · exact .inr (by omega)
  refine ⟨rfl, fun k => own k ∨ (w.heap.size ≤ k ∧ k < w2.heap.size), ⟨mb, hv', ts', ⟨hr3, ?_, hheap⟩, (hp3.map _).trans H.out.1, putL_sorted h3 _ _, .inl h4, fun k hk => ?_, fun k hk => ?_⟩, fun k hk => hk.imp (fun h => h) (·.1), hfb⟩
  · refine (hmap1.keep (hf3.block mb (by omega) ?_)).perm ?_
    · rintro (hk | hk)
      · exact hnf hk
      · omega
    · refine .trans ?_ (hp3.map ent).symm
      rw [List.map_append]
      exact (List.perm_append_singleton _ _).symm
  · have hlt : k < w2.heap.size := by
      rcases hk with e | e | ⟨x, hx, e⟩
      · subst e; exact lt_of_block hr3.head
      · rcases hr3.row.2 with ⟨e2, _⟩ | ⟨g', cap, cur, e2, _, hg', _⟩
        · rw [e2] at e; simp [Value.ownBlock] at e
        · rw [e2] at e
          obtain rfl : g' = k := by simpa [Value.ownBlock] using e
          exact lt_of_block hg'
      · obtain ⟨i, hi⟩ := List.getElem?_of_mem hx
        rw [← e]; exact lt_of_block (hr3.item i x hi)
    rcases hk with e | e | ⟨x, hx, e⟩
    · exact .inl (h5 k (.inl e))
    · rcases hown k e with e2 | e2
      · exact .inl (h5 k (.inr (.inl e2)))
      · exact .inr ⟨by omega, hlt⟩
    · rcases List.mem_append.1 (hp3.mem_iff.1 hx) with h7 | h7
      · exact .inl (h5 k (.inr (.inr ⟨x, h7, e⟩)))
      · obtain rfl : x = ⟨w.heap.size, t, id⟩ := by simpa using h7
        exact .inr ⟨by simp at e; omega, hlt⟩
  · rcases hk with hk | hk
    · exact Nat.lt_of_lt_of_le (h6 k hk) hfb.size
    · exact hk.2

theorem put_m (h : Ag w own ba m) (hm : m.length < 999999) (t id : Int) : Calls Try.prog 16 #[.pointer (some ⟨ba, 0, none⟩), .int .i64 t, .int .i64 id] w (PutPost w own ba (putL m t id)) := by
  by_cases hin : ∃ p ∈ m, p.2 = id
  · exact put_old h (by omega) t id hin
  · exact put_new h hm t id fun p hp e => hin ⟨p, hp, e⟩

/-! ### Drop -/
def DropPost (w : World) (own : Nat → Prop) (ba : Nat) (m : List (Int × Int)) (id : Int) (e : Ending) (w' : World) : Prop := e = .returned (.bool (atL m id).isSome) ∧ Ag w' own ba (dropL id m) ∧ Fr own w w'

set_option maxHeartbeats 1000000 in
theorem drop_none (h : Ag w own ba m) (id : Int) (hin : ∀ p ∈ m, p.2 ≠ id) : Calls Try.prog 11 #[.pointer (some ⟨ba, 0, none⟩), .int .i64 id] w (DropPost w own ba m id) := by
  have h0 := h
  obtain ⟨mb, hv, ts, h1, h2, h3, h4, h5, h6⟩ := h
  have hno : ∀ p ∈ ts.map ent, p.1 ≠ .int .i64 id := by
    intro p hp e
    obtain ⟨x, hx, rfl⟩ := List.mem_map.1 hp
    obtain ⟨q, hq, he⟩ := (ids_in h2).1 ⟨x, hx, (by simpa [ent] using e : x.id = id)⟩
    exact hin q hq he
  have hlook := h1.by_.run_none Try.underlying53 Try.underlying3 (k := .int .i64 id) rfl hno zero58 false
  simp only [Bool.false_eq_true, if_false] at hlook
  have hc := cell_of h1.things.head (i := 1) (by rfl)
  have ha : atL m id = none := atL_none hin
  have HA := Lib.hid (And.intro ha (dropL_of_not hin))
  clear hno hin ha
  go_enter Try.func11, Try.ntmps11
  go_wp2_with fail
  go_ret
  exact ⟨by rw [HA.out.1]; rfl, by rw [HA.out.2]; exact h0, Fr.refl _ _⟩

set_option maxHeartbeats 1000000 in
theorem drop_some (h : Ag w own ba m) (hm : m.length < 999999) (id : Int) (hin : ∃ p ∈ m, p.2 = id) : Calls Try.prog 11 #[.pointer (some ⟨ba, 0, none⟩), .int .i64 id] w (DropPost w own ba m id) := by
  have hnd := h.nodup
  obtain ⟨mb, hv, ts, h1, h2, h3, h4, h5, h6⟩ := h
  have hl : ts.length = m.length := by simpa using h2.length_eq
  obtain ⟨x, hx, rfl⟩ := (ids_in h2).2 hin
  obtain ⟨k, hk⟩ := List.getElem?_of_mem hx
  have hlook := h1.by_.run_look (v := x.ptr) Try.underlying53 Try.underlying3 (k := .int .i64 x.id) rfl (List.mem_map.2 ⟨x, hx, rfl⟩) false
  simp only [Bool.false_eq_true, if_false, T3.ptr] at hlook
  have hc := cell_of h1.things.head (i := 1) (by rfl)
  have ix := h1.things.item k x hk
  have g2 := cell_of ix (i := 2) (by rfl)
  have ha := atL_some hnd (key_in h2 hx)
  have hnf := map_not_foot h1.things h1.by_
  have hmap := h1.by_
  have hml := h1.by_.lt
  have HA := Lib.hid (And.intro ha (And.intro hl (And.intro hk hx)))
  clear ha hl hk hx hin ix hnd
  go_enter Try.func11, Try.ntmps11
  go_wp2_with fail
  go_still_tail 8, (by kernel_rfl)
  go_wp2_with fail
  refine Calls.mono (hrem_h (h1.things.drewN 1) (i := k) (by rw [HA.out.2.1]; omega) HA.out.2.2.1 h1.ordered) ?_
  rintro e w2 ⟨rfl, hv', ts', hr3, hp3, hheap, hown, hf3⟩
  have hf4 : Fr own w w2 := hf3.of_start.mono fun k _ hk => h5 k hk
  have hmap2 : MapOf w2 (.int .i64) mb (ent x :: ts'.map ent) := by
    refine (hmap.keep (hf3.of_start.block mb hml hnf)).perm ?_
    refine (hp3.map ent).symm.trans ?_
    rw [List.map_append]
    exact List.perm_append_singleton _ _
  have hc2 := cell_of hr3.head (i := 1) (by rfl)
  have HF := Lib.hid (And.intro hf3 hf4)
  clear hf3 hf4
  unfold ent at hmap2
  go_wp2_with (at_delete; go_must (refine wpList_map_del rfl _ _ 53 3 rfl 58 Try.underlying53 Try.underlying3 rfl rfl hmap2 ?_; intro w3 hmap3 hf5))
  go_ret
  have hnf2 := map_not_foot hr3 hmap2
  have hrel : ∀ k, foot ba hv' ts' k → foot ba hv ts k := by
    rintro k (e | e | ⟨y, hy, e⟩)
    · exact .inl e
    · exact .inr (.inl (by rw [← hown]; exact e))
    · exact .inr (.inr ⟨y, hp3.mem_iff.1 (List.mem_append_left _ hy), e⟩)
  have hkeys : (ts'.map T3.key).Perm (dropL x.id m) := by
    have hpk : m.Perm ((x.t, x.id) :: ts'.map T3.key) := by
      refine h2.symm.trans ((hp3.map T3.key).symm.trans ?_)
      rw [List.map_append]
      exact List.perm_append_singleton _ _
    refine (dropL_of_perm hpk fun p hp e => ?_).symm
    have hn := h1.ids
    have hn2 := (((hp3.map T3.id).symm.trans (by rw [List.map_append]; exact List.perm_append_singleton _ _)).nodup_iff (l₂ := x.id :: ts'.map T3.id)).1 hn
    rw [List.nodup_cons] at hn2
    obtain ⟨y, hy, rfl⟩ := List.mem_map.1 hp
    exact hn2.1 (List.mem_map.2 ⟨y, hy, e⟩)
  have hf6 : Fr own w w3 := HF.out.2.next (hf5.mono fun i _ hi => by rw [hi]; exact h4)
  refine ⟨by rw [HA.out.1]; rfl, ⟨mb, hv', ts', ⟨hr3.keep fun k hk => hf5.block k ?_ ?_, hmap3, hheap⟩, hkeys, dropL_sorted h3 _, h4, fun k hk => h5 k (hrel k hk), fun k hk => Nat.lt_of_lt_of_le (h6 k hk) hf6.size⟩, hf6⟩
  · exact Nat.lt_of_lt_of_le (h6 k (h5 k (hrel k hk))) HF.out.2.size
  · intro e; exact hnf2 (e ▸ hk)

theorem drop_m (h : Ag w own ba m) (hm : m.length < 999999) (id : Int) : Calls Try.prog 11 #[.pointer (some ⟨ba, 0, none⟩), .int .i64 id] w (DropPost w own ba m id) := by
  by_cases hin : ∃ p ∈ m, p.2 = id
  · exact drop_some h hm id hin
  · exact drop_none h id fun p hp e => hin ⟨p, hp, e⟩
end
end Go.Proofs.Ytfmkdilllgncfaa
