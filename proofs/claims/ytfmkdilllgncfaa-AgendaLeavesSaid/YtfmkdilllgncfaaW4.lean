/- The walks of Push and Pop of the things, of container/heap's Push, Fix and Remove. -/
import Derived.Test.YtfmkdilllgncfaaW3
namespace Go.Proofs.Ytfmkdilllgncfaa
open Go.RowKit Go.Lib

theorem info58 : (Try.prog.info? 58).map (fun i => (i.zero, i.size, i.bytes)) = some (some (.pointer none), 1, 8) := by kernel_rfl

section
variable {w : World} {ba : Nat} {hv mv : Value} {ts : List T3}

set_option maxHeartbeats 1000000 in
theorem pop_c (ba hb n cap p : Nat) (w : World) (hn : n < 1000000) (hc : n + 1 ≤ cap) (_hc2 : cap ≤ 9223372036854775807) (g0 : w.cell? ⟨ba, 0, none⟩ = some (.slice (some ⟨hb, 0, none⟩) (n + 1) cap)) (f0 : w.frozen? ⟨ba, 0, none⟩ = false)
    (g1 : w.cell? ⟨hb, n, none⟩ = some (.pointer (some ⟨p, 0, none⟩))) :
    Calls Try.prog 48 #[.pointer (some ⟨ba, 0, none⟩)] w fun e w' => e = .returned (.iface 58 (.pointer (some ⟨p, 0, none⟩))) ∧ w' = w.setCell ⟨ba, 0, none⟩ (.slice (some ⟨hb, 0, none⟩) n cap) := by
  have hcap : (cap = 0) = False := by simp; omega
  go_enter Try.func48, Try.ntmps48
  go_wp2
  go_ret
  exact ⟨rfl, rfl⟩

theorem ownsRow_pop {w : World} {base e g n cap : Nat} {xs : List Value} (h : w.ownsRow base e 1 (.slice (some ⟨g, 0, none⟩) (n + 1) cap) (n + 1) xs) : w.ownsRow base e 1 (.slice (some ⟨g, 0, none⟩) n cap) n xs.dropLast := by
  obtain ⟨h1, h2⟩ := h
  refine ⟨by simp [h1], ?_⟩
  rcases h2 with ⟨h2, _⟩ | ⟨g', cap', cur, hv, hg, hh, hnc, hcm, hcs, ht⟩
  · simp at h2
  · simp only [Value.slice.injEq, Option.some.injEq, Addr.mk.injEq, and_true, true_and] at hv
    obtain ⟨rfl, rfl⟩ := hv
    refine .inr ⟨g, cap, cur, rfl, hg, hh, by omega, hcm, hcs, ?_⟩
    rw [List.dropLast_eq_take, h1, ← ht, List.take_take]
    congr 1
    omega

theorem dropLast_get {l : List T3} {k : Nat} {x : T3} (h : l.dropLast[k]? = some x) : l[k]? = some x := by
  have h1 := (List.getElem?_eq_some_iff.1 h).1
  rw [List.length_dropLast] at h1
  rw [List.getElem?_dropLast, if_pos h1] at h
  exact h

theorem pop_h (h : HRep w ba hv mv ts) (h0 : 0 < ts.length) (hlen : ts.length ≤ 1000000) {x : T3} (hx : ts[ts.length - 1]? = some x) :
    Calls Try.prog 48 #[.pointer (some ⟨ba, 0, none⟩)] w fun e w' => e = .returned (.iface 58 x.ptr) ∧ ∃ hv', HRep w' ba hv' mv ts.dropLast ∧ hv'.ownBlock = hv.ownBlock ∧ Fr (foot ba hv ts) w w' := by
  obtain ⟨hb, cap, rfl, hc1, hc2⟩ := h.form h0
  unfold maxLen at hc2
  obtain ⟨n, hn⟩ : ∃ n, ts.length = n + 1 := ⟨ts.length - 1, by omega⟩
  rw [hn] at h hc1 hlen hx ⊢
  obtain ⟨hd, row, item⟩ := h
  rw [hn] at row
  obtain ⟨cur, hcur⟩ := ownsRow_block row
  have nah : ba ≠ hb := ne_of_elem hd hcur (by decide)
  refine (pop_c ba hb n cap x.b w (by omega) hc1 hc2 (cell_of hd (by rfl)) (free_of 0 hd) (ownsRow_cell row (by simp at hx; simp [hx, T3.ptr]))).mono ?_
  rintro e w' ⟨rfl, rfl⟩
  refine ⟨rfl, .slice (some ⟨hb, 0, none⟩) n cap, ⟨block_set (c := #[_, mv]) hd 0 _, ?_, fun k y hy => ?_⟩, rfl, (Fr.refl _ _).setCell (.inl (.inl rfl)) _⟩
  · have r := ownsRow_pop row
    rw [← List.map_dropLast] at r
    rw [List.length_dropLast, hn]
    exact ownsRow_keep r fun k hk => block_set_ne (by rintro rfl; exact nah (by simpa [Value.ownBlock] using hk.symm))
  · have iy := item k y (dropLast_get hy)
    rw [block_set_ne (ne_of_elem iy hd (by decide))]
    exact iy

def PushPost (ba tb n cap : Nat) (a : Option Addr) (xs : List Value) (w : World) (e : Ending) (w' : World) : Prop :=
  e = .returned (.tuple #[]) ∧ ∃ g cap' w1, w1.ownsRow 0 58 1 (.slice (some ⟨g, 0, none⟩) (n + 1) cap') (n + 1) (xs ++ [.pointer (some ⟨tb, 0, none⟩)]) ∧ ((Value.slice a n cap).ownBlock = some g ∨ g = w.heap.size + 1) ∧
    ((w.setCell ⟨tb, 2, none⟩ (.int .i64 n)).alloc (.cells #[.pointer (some ⟨tb, 0, none⟩)] 58)).grownBy w1 (Value.slice a n cap).ownBlock ∧ w' = w1.setCell ⟨ba, 0, none⟩ (.slice (some ⟨g, 0, none⟩) (n + 1) cap')
set_option maxHeartbeats 1000000 in
theorem push_c (ba tb n cap : Nat) (a : Option Addr) (v2 : Value) (xs : List Value) (w : World) (hlen : n ≤ 1000000) (hown : w.ownsRow 0 58 1 (.slice a n cap) n xs) (hne : (Value.slice a n cap).ownBlock ≠ some tb)
    (g0 : w.cell? ⟨ba, 0, none⟩ = some (.slice a n cap)) (f0 : w.frozen? ⟨ba, 0, none⟩ = false)
    (g2 : w.cell? ⟨tb, 2, none⟩ = some v2) (f2 : w.frozen? ⟨tb, 2, none⟩ = false) (hbt : tb ≠ ba) (hne2 : (Value.slice a n cap).ownBlock ≠ some ba) :
    Calls Try.prog 49 #[.pointer (some ⟨ba, 0, none⟩), .iface 58 (.pointer (some ⟨tb, 0, none⟩))] w (PushPost ba tb n cap a xs w) := by
  obtain ⟨i0, hi, hz0, hz1, hz2⟩ := info_parts info58
  have hown2 : (w.setCell ⟨tb, 2, none⟩ (.int .i64 n)).ownsRow 0 58 1 (.slice a n cap) n xs := ownsRow_setCell_other hown hne _
  have hta : ∀ (v : Value) (w : World), (Instr.typeAssert (.iface 58 v) 20 58 true).run Try.prog w = .ok (.tuple #[v, .bool true]) w := fun _ _ => by kernel_rfl
  go_enter Try.func49, Try.ntmps49
  go_wp2_with (at_builtin; go_must (refine wpList_append_shape rfl _ _ 55 rfl 0 58 i0 (.pointer none) 1 8 Try.underlying55 hi hz0 hz1 hz2 rfl (by decide) _ _ _ rfl (hown2.alloc _) ⟨w.heap.size, 0, none⟩ 1 1 [.pointer (some ⟨tb, 0, none⟩)] rfl rfl ?c1 ?c2 ?c3 ?c4 ?c5 ?c6 ?_))
  case c1 =>
    intro j u h
    have := cell_one_new (w.setCell ⟨tb, 2, none⟩ (.int .i64 n)) (.pointer (some ⟨tb, 0, none⟩)) 58 j u h
    simpa using this
  case c2 => intro u hu; simp at hu; subst hu; rfl
  case c3 => unfold maxLen; omega
  case c4 => omega
  case c5 => exact Nat.zero_le _
  case c6 => omega
  intro g cap' w1 hown' hgrow hat
  have hblt : ba < w.heap.size := World.block_lt_of_cell? w _ g0
  have hk : w1.heap[ba]? = w.heap[ba]? := by
    rw [hgrow.block ba (by simp; omega) (Ne.symm hne2), Below.heap_alloc _ _ _ (by simpa using hblt), block_set_ne (Ne.symm hbt)]
  have q0 : w1.cell? ⟨ba, 0, none⟩ = some (.slice a n cap) := (World.cell?_of_block (a := ⟨ba, 0, none⟩) hk).trans g0
  have q1 : w1.frozen? ⟨ba, 0, none⟩ = false := (World.frozen?_of_block (a := ⟨ba, 0, none⟩) hk).trans f0
  have HG := Lib.hid hgrow; clear hgrow
  have HA : Hid ((Value.slice a n cap).ownBlock = some g ∨ g = w.heap.size + 1) := by
    rcases hat with h1 | h1
    · exact .inl h1
    · exact .inr (by simpa using h1)
  clear hat
  have HK := Lib.hid hk; clear hk
  go_wp2
  go_end0
  exact ⟨rfl, g, cap', w1, hown', HA.out, HG.out, rfl⟩

theorem push_h (h : HRep w ba hv mv ts) (hlen : ts.length ≤ 1000000) {tb : Nat} {t i : Int} {v2 : Value} (hb : w.heap[tb]? = some (.cells #[.int .i64 t, .int .i64 i, v2] 62 (0, 0))) (hnew : ∀ x ∈ ts, x.b ≠ tb) :
    Calls Try.prog 49 #[.pointer (some ⟨ba, 0, none⟩), .iface 58 (.pointer (some ⟨tb, 0, none⟩))] w fun e w' => e = .returned (.tuple #[]) ∧
      ∃ hv', HRep w' ba hv' mv (ts ++ [⟨tb, t, i⟩]) ∧ (∀ k, hv'.ownBlock = some k → hv.ownBlock = some k ∨ w.heap.size ≤ k) ∧ Fr (fun k => foot ba hv ts k ∨ k = tb) w w' := by
  obtain ⟨a, cap, rfl⟩ : ∃ a cap, hv = .slice a ts.length cap := by
    rcases h.row.2 with ⟨rfl, h2⟩ | ⟨g, cap, cur, rfl, _⟩
    · exact ⟨none, 0, by rw [h2]⟩
    · exact ⟨_, _, rfl⟩
  have hob : ∀ k, (Value.slice a ts.length cap).ownBlock = some k → ∃ cur, w.heap[k]? = some (.cells cur 58 (0, 0)) := by
    intro k hk
    rcases h.row.2 with ⟨e, h2⟩ | ⟨g, cap', cur, e, _, hg, _⟩
    · rw [e] at hk; simp [Value.ownBlock] at hk
    · rw [e] at hk
      obtain rfl : g = k := by simpa [Value.ownBlock] using hk
      exact ⟨cur, hg⟩
  have nbt : tb ≠ ba := ne_of_elem hb h.head (by decide)
  have ntb : (Value.slice a ts.length cap).ownBlock ≠ some tb := fun e => by obtain ⟨cur, hc⟩ := hob tb e; exact ne_of_elem hc hb (by decide) rfl
  have nba : (Value.slice a ts.length cap).ownBlock ≠ some ba := fun e => by obtain ⟨cur, hc⟩ := hob ba e; exact ne_of_elem hc h.head (by decide) rfl
  refine (push_c ba tb ts.length cap a v2 _ w hlen h.row ntb (cell_of h.head (by rfl)) (free_of 0 h.head) (cell_of hb (by rfl)) (free_of 2 hb) nbt nba).mono ?_
  rintro e w' ⟨rfl, g, cap', w1, hown, hat, hg, rfl⟩
  generalize hv' : (Value.slice (some ⟨g, 0, none⟩) (ts.length + 1) cap') = v' at hown
  have hbl := lt_of_block h.head
  have htl := lt_of_block hb
  -- a block that is neither the row, nor the thing, nor the agenda
  have old : ∀ k, k < w.heap.size → (Value.slice a ts.length cap).ownBlock ≠ some k → w1.heap[k]? = (w.setCell ⟨tb, 2, none⟩ (.int .i64 ts.length)).heap[k]? := fun k hk hn => by
    rw [hg.block k (by simp; omega) (Ne.symm hn), Below.heap_alloc _ _ _ (by simpa using hk)]
  have hba : w1.heap[ba]? = some (.cells #[.slice a ts.length cap, mv] 57 (0, 0)) := by rw [old ba hbl nba, block_set_ne (Ne.symm nbt)]; exact h.head
  have hv'b : ∀ k, v'.ownBlock = some k → k ≠ ba ∧ ∃ cur, w1.heap[k]? = some (.cells cur 58 (0, 0)) := by
    intro k hk
    rcases hown.2 with ⟨e, h2⟩ | ⟨g, cap', cur, e, _, hg', _⟩
    · rw [e] at hk; simp [Value.ownBlock] at hk
    · rw [e] at hk
      obtain rfl : g = k := by simpa [Value.ownBlock] using hk
      exact ⟨ne_of_elem hg' hba (by decide), cur, hg'⟩
  refine ⟨rfl, v', ⟨?_, ?_, ?_⟩, ?_, ?_⟩
  · exact block_set (c := #[.slice a ts.length cap, mv]) hba 0 v'
  · have e1 : (ts ++ [⟨tb, t, i⟩] : List T3).length = ts.length + 1 := by simp
    have e2 : (ts ++ [⟨tb, t, i⟩] : List T3).map T3.ptr = ts.map T3.ptr ++ [.pointer (some ⟨tb, 0, none⟩)] := by simp [T3.ptr]
    rw [e1, e2]
    exact ownsRow_keep hown fun k hk => block_set_ne (hv'b k hk).1
  · intro k x hx
    rw [List.getElem?_append] at hx
    split at hx
    · have ix := h.item k x hx
      rw [block_set_ne (ne_of_elem ix h.head (by decide)), old x.b (lt_of_block ix) (fun e => by obtain ⟨cur, hc⟩ := hob _ e; exact ne_of_elem hc ix (by decide) rfl), block_set_ne (hnew x (List.mem_of_getElem? hx))]
      exact ix
    · rename_i hk
      obtain ⟨hk', rfl⟩ : k = ts.length ∧ x = ⟨tb, t, i⟩ := by
        rw [List.getElem?_singleton] at hx
        split at hx
        · exact ⟨by omega, (Option.some.inj hx).symm⟩
        · cases hx
      rw [block_set_ne nbt, old tb htl ntb]
      have e3 := block_set (c := #[.int .i64 t, .int .i64 i, v2]) hb 2 (.int .i64 ts.length)
      subst hk'
      exact e3
  · intro k hk
    subst hv'
    obtain rfl : g = k := by simpa [Value.ownBlock] using hk
    rcases hat with h1 | h1
    · exact .inl h1
    · exact .inr (by omega)
  · have f1 : Fr (fun k => foot ba (.slice a ts.length cap) ts k ∨ k = tb) w ((w.setCell ⟨tb, 2, none⟩ (.int .i64 ts.length)).alloc (Obj.cells #[.pointer (some ⟨tb, 0, none⟩)] 58)) :=
      ((Fr.refl _ w).setCell (.inl (.inr rfl)) _).alloc _
    exact (f1.grown hg fun k hk => .inl (.inl (.inr (.inl hk)))).setCell (.inl (.inl (.inl rfl))) _

theorem keyF_append (l : List T3) (x : T3) {k : Nat} (h : k < l.length) : keyF (l ++ [x]) k = keyF l k := by
  unfold keyF List.getD
  rw [List.getElem?_append_left h]

set_option maxHeartbeats 1000000 in
/-- container/heap's Push -/
theorem hpush_h (h : HRep w ba hv mv ts) (hlen : ts.length < 1000000) (hh : HeapTo (keyF ts) ts.length) {tb : Nat} {t i : Int} {v2 : Value} (hb : w.heap[tb]? = some (.cells #[.int .i64 t, .int .i64 i, v2] 62 (0, 0))) (hnew : ∀ x ∈ ts, x.b ≠ tb) :
    Calls Try.prog 25 #[.iface 60 (.pointer (some ⟨ba, 0, none⟩)), .iface 58 (.pointer (some ⟨tb, 0, none⟩))] w fun e w' => e = .returned (.tuple #[]) ∧
      ∃ hv' ts', HRep w' ba hv' mv ts' ∧ ts'.Perm (ts ++ [⟨tb, t, i⟩]) ∧ HeapTo (keyF ts') ts'.length ∧ (∀ k, hv'.ownBlock = some k → hv.ownBlock = some k ∨ w.heap.size ≤ k) ∧ Fr (fun k => foot ba hv ts k ∨ k = tb) w w' := by
  have hm1 := fun (a : Addr) => meth_push a w
  go_enter Try.func25, Try.ntmps25
  go_wp2_with fail
  refine Calls.mono (push_h h (by omega) hb hnew) ?_
  rintro e w1 ⟨rfl, hv', hr, hown, hfr⟩
  have hm2 := meth_len ba hv' w1 (cell_of hr.head (by rfl))
  have hl : ts.length + 1 = (ts ++ [(⟨tb, t, i⟩ : T3)]).length := by simp
  have HL := Lib.hid hl; clear hl
  go_wp2_with fail
  refine Calls.mono (len_h hr) ?_
  rintro e w2 ⟨rfl, rfl⟩
  rw [← HL.out]
  go_wp2_with fail
  have hu : UpInv (keyF (ts ++ [(⟨tb, t, i⟩ : T3)])) (ts ++ [(⟨tb, t, i⟩ : T3)]).length ts.length := by
    rw [← HL.out]
    exact (hh.congr fun k hk => keyF_append ts _ hk).push
  refine Calls.mono (up_h hr (j := ts.length) (by rw [← HL.out]; omega) (Nat.le_refl _) (by rw [← HL.out]; omega) hu) ?_
  rintro e w3 ⟨rfl, ts', hr3, hp, -, hheap, hf3⟩
  go_wp2_with fail
  go_end0
  refine ⟨rfl, hv', ts', hr3, hp, by rw [hp.length_eq]; exact hheap, hown, hfr.trans hf3 ?_⟩
  intro k hk
  rcases hk with h1 | h1 | ⟨x, hx, h1⟩
  · exact .inl (.inl (.inl h1))
  · rcases hown k h1 with h2 | h2
    · exact .inl (.inl (.inr (.inl h2)))
    · exact .inr h2
  · rcases List.mem_append.1 hx with h2 | h2
    · exact .inl (.inl (.inr (.inr ⟨x, h2, h1⟩)))
    · obtain rfl : x = ⟨tb, t, i⟩ := by simpa using h2
      exact .inl (.inr h1.symm)

set_option maxHeartbeats 1000000 in
/-- container/heap's Fix -/
theorem hfix_h (h : HRep w ba hv mv ts) (hlen : ts.length < 1000000) {i : Nat} (hi : i < ts.length) (hh : FixInv (keyF ts) ts.length i) :
    Calls Try.prog 24 #[.iface 60 (.pointer (some ⟨ba, 0, none⟩)), .int .i64 i] w fun e w' => e = .returned (.tuple #[]) ∧ UpPost w ba hv mv ts ts.length w' := by
  have hm2 := meth_len ba hv w (cell_of h.head (by rfl))
  go_enter Try.func24, Try.ntmps24
  go_wp2_with fail
  refine Calls.mono (len_h h) ?_
  rintro e w2 ⟨rfl, rfl⟩
  go_wp2_with fail
  refine Calls.mono (down_h h hi (Nat.le_refl _) (by omega) hh) ?_
  rintro e w2 ⟨m, rfl, ts', hr, hp, -, h1, h2, hf⟩
  cases m with
  | true =>
    go_wp2_with fail
    go_end0
    exact ⟨rfl, ts', hr, hp, fun k hk => by rw [List.getElem?_eq_none (by rw [hp.length_eq]; exact hk), List.getElem?_eq_none hk], h1 trivial, hf⟩
  | false =>
    go_wp2_with fail
    have HL := Lib.hid hp.length_eq
    refine Calls.mono (up_h hr (j := i) (n := ts.length) hi (by rw [HL.out]; omega) (by rw [HL.out]; omega) (h2 trivial)) ?_
    rintro e w3 ⟨rfl, ts2, hr3, hp3, -, hheap, hf3⟩
    go_wp2_with fail
    go_end0
    exact ⟨rfl, ts2, hr3, hp3.trans hp, fun k hk => by rw [List.getElem?_eq_none (by rw [(hp3.trans hp).length_eq]; exact hk), List.getElem?_eq_none hk], hheap, hf.next (hf3.mono fun k _ hk => (foot_perm hp k).1 hk)⟩

theorem dropLast_perm {l : List T3} {x : T3} (h : l[l.length - 1]? = some x) : (l.dropLast ++ [x]).Perm l := by
  have h0 : l ≠ [] := by rintro rfl; simp at h
  have : l.getLast h0 = x := by rw [List.getLast_eq_getElem]; have := List.getElem?_eq_some_iff.1 h; exact this.2
  rw [← this, List.dropLast_concat_getLast h0]
theorem keyF_dropLast (l : List T3) {k : Nat} (h : k < l.length - 1) : keyF l.dropLast k = keyF l k := by
  unfold keyF List.getD
  rw [List.getElem?_dropLast, if_pos h]

def RemPost (w : World) (ba : Nat) (hv mv : Value) (ts : List T3) (x : T3) (e : Ending) (w' : World) : Prop :=
  e = .returned (.iface 58 x.ptr) ∧ ∃ hv' ts', HRep w' ba hv' mv ts' ∧ (ts' ++ [x]).Perm ts ∧ HeapTo (keyF ts') ts'.length ∧ hv'.ownBlock = hv.ownBlock ∧ Fr (foot ba hv ts) w w'

theorem rem_end {w1 w2 : World} {hv2 : Value} {tb : List T3} {x : T3} (hp : tb.Perm ts) (_h0 : 0 < tb.length) (hx : tb[tb.length - 1]? = some x) (hh : HeapTo (keyF tb) (tb.length - 1)) (hf : Fr (foot ba hv ts) w w1)
    (hr : HRep w2 ba hv2 mv tb.dropLast) (ho : hv2.ownBlock = hv.ownBlock) (hf2 : Fr (foot ba hv tb) w1 w2) : RemPost w ba hv mv ts x (.returned (.iface 58 x.ptr)) w2 :=
  ⟨rfl, hv2, tb.dropLast, hr, (dropLast_perm hx).trans hp, by rw [List.length_dropLast]; exact hh.congr fun k hk => keyF_dropLast tb hk, ho, hf.next (hf2.mono fun k _ hk => (foot_perm hp k).1 hk)⟩

set_option maxHeartbeats 1000000 in
/-- container/heap's Remove -/
theorem hrem_h (h : HRep w ba hv mv ts) (hlen : ts.length < 1000000) {i : Nat} {x : T3} (hx : ts[i]? = some x) (hh : HeapTo (keyF ts) ts.length) :
    Calls Try.prog 23 #[.iface 60 (.pointer (some ⟨ba, 0, none⟩)), .int .i64 i] w (RemPost w ba hv mv ts x) := by
  have hi := (List.getElem?_eq_some_iff.1 hx).1
  have HX := Lib.hid hx; clear hx
  have hm1 := meth_len ba hv w (cell_of h.head (by rfl))
  have hm2 := meth_swap ba hv w (cell_of h.head (by rfl))
  have hm3 := fun (a : Addr) (w : World) => meth_pop a w
  obtain ⟨n, hn⟩ : ∃ n, n + 1 = ts.length := ⟨ts.length - 1, by omega⟩
  have HN := Lib.hid hn
  have hnb : n < 1000000 := by omega
  by_cases hin : i = n
  · have b1 : ((n : Int) != (i : Int)) = false := by simp [hin]
    have b2 : (n != i) = false := by simp [hin]
    have HI := Lib.hid hin; clear hin
    go_enter Try.func23, Try.ntmps23
    go_wp2_with fail
    refine Calls.mono (len_h h) ?_
    rintro e w2 ⟨rfl, rfl⟩
    rw [← HN.out]
    clear hn
    go_wp2_with fail
    refine Calls.mono (pop_h h (x := x) (by omega) (by omega) (by rw [← HX.out, HI.out, ← HN.out]; rfl)) ?_
    rintro e w2 ⟨rfl, hv2, hr2, ho, hf2⟩
    go_wp2_with fail
    go_ret
    exact rem_end (.refl _) (by omega) (by rw [← HX.out, HI.out, ← HN.out]; rfl) (hh.mono (by omega)) (Fr.refl _ _) hr2 ho hf2
  · have b1 : ((n : Int) != (i : Int)) = true := by simp; omega
    have b2 : (n != i) = true := by simp; omega
    have hin' : i < n := by omega
    clear hin
    go_enter Try.func23, Try.ntmps23
    go_wp2_with fail
    refine Calls.mono (len_h h) ?_
    rintro e w2 ⟨rfl, rfl⟩
    rw [← HN.out]
    clear hn
    go_wp2_with fail
    refine Calls.mono (swap_i h (i := i) (j := n) ?_ ?_ hin' (by rw [← HN.out]; omega)) ?_; (omega); (omega)
    rintro e w1 ⟨rfl, hr1, hf1⟩
    have hp1 : (swapL ts i n).Perm ts := swapL_perm hi (by rw [← HN.out]; omega)
    have hl1 : (swapL ts i n).length = n + 1 := by rw [swapL_length, HN.out]
    have HL1 := Lib.hid hl1; clear hl1
    have hfix : FixInv (keyF (swapL ts i n)) n i := by
      refine (hh.mono (m := n) (by have := HN.out; omega)).fix fun k hk hki => ?_
      rw [swapL_key hi (by rw [← HN.out]; omega), swapF_o _ hki (by omega)]
    have hlast : (swapL ts i n)[n]? = some x := by rw [swapL_get hi (by rw [← HN.out]; omega), if_pos rfl]; exact HX.out
    have HLA := Lib.hid hlast; clear hlast
    generalize swapL ts i n = ta at *
    go_wp2_with fail
    refine Calls.mono (down_h hr1 hin' (by rw [HL1.out]; omega) (by rw [HL1.out]; omega) hfix) ?_
    rintro e w2 ⟨m, rfl, tb, hr, hp, hk, h1, h2, hf⟩
    have HK := Lib.hid (show tb[n]? = some x by rw [hk n (Nat.le_refl _)]; exact HLA.out); clear hk
    have HL2 := Lib.hid (hp.length_eq.trans HL1.out)
    have hfa : Fr (foot ba hv ts) w w2 := hf1.next (hf.mono fun k _ hk => (foot_perm hp1 k).1 hk)
    cases m with
    | true =>
      go_wp2_with fail
      refine Calls.mono (pop_h hr (x := x) (by rw [HL2.out]; omega) (by rw [HL2.out]; omega) (by rw [HL2.out]; exact HK.out)) ?_
      rintro e w3 ⟨rfl, hv3, hr3, ho, hf3⟩
      go_wp2_with fail
      go_ret
      exact rem_end (hp.trans hp1) (by rw [HL2.out]; omega) (by rw [HL2.out]; exact HK.out) (by rw [HL2.out]; exact h1 trivial) hfa hr3 ho hf3
    | false =>
      go_wp2_with fail
      refine Calls.mono (up_h hr (j := i) (n := n) hin' (by rw [HL2.out]; omega) (by rw [HL2.out]; omega) (h2 trivial)) ?_
      rintro e w3 ⟨rfl, tc, hr3, hp3, hk3, hheap, hf3⟩
      have HL3 := Lib.hid (hp3.length_eq.trans HL2.out)
      have HK3 := Lib.hid (show tc[n]? = some x by rw [hk3 n (Nat.le_refl _)]; exact HK.out); clear hk3
      have hfb : Fr (foot ba hv ts) w w3 := hfa.next (hf3.mono fun k _ hk => (foot_perm (hp.trans hp1) k).1 hk)
      go_wp2_with fail
      refine Calls.mono (pop_h hr3 (x := x) (by rw [HL3.out]; omega) (by rw [HL3.out]; omega) (by rw [HL3.out]; exact HK3.out)) ?_
      rintro e w4 ⟨rfl, hv4, hr4, ho, hf4⟩
      go_wp2_with fail
      go_ret
      exact rem_end (hp3.trans (hp.trans hp1)) (by rw [HL3.out]; omega) (by rw [HL3.out]; exact HK3.out) (by rw [HL3.out]; exact hheap) hfb hr4 ho hf4
end
end Go.Proofs.Ytfmkdilllgncfaa
