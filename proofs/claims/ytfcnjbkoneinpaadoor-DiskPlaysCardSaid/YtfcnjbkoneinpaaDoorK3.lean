/- Size, nth and Read. -/
import Derived.Test.YtfcnjbkoneinpaaDoorK2
namespace Go.Proofs.YtfcnjbkoneinpaaDoor
open Go.RowKit Go.Lib

theorem perm_map_cons {α β : Type} {g : α → β} {l : List α} {x : β} {L : List β} (h : (l.map g).Perm (x :: L)) : ∃ f l', x = g f ∧ l.Perm (f :: l') ∧ L.Perm (l'.map g) := by
  obtain ⟨f, hf, rfl⟩ := List.mem_map.1 (h.mem_iff.2 (List.mem_cons_self ..))
  obtain ⟨s, t, rfl⟩ := List.append_of_mem hf
  have hp : (s ++ f :: t).Perm (f :: (s ++ t)) := List.perm_middle
  exact ⟨f, s ++ t, rfl, hp, (h.symm.trans (hp.map g)).cons_inv⟩
theorem MRange.perm {w : World} {d : TypeDesc} {b r : Nat} {M rest rest' : List (Value × Value)} (h : MRange w d b r M rest) (hp : rest.Perm rest') : MRange w d b r M rest' :=
  let ⟨es, c, s, n, c0, h1, h2, h3, h4, h5, h6, h7, h8, h9⟩ := h; ⟨es, c, s, n, c0, h1, h2, h3, h4, h5, h6, h7, h8, h9.trans hp⟩

theorem MRange.lt {w : World} {d : TypeDesc} {b r : Nat} {M rest : List (Value × Value)} (h : MRange w d b r M rest) : b < w.heap.size ∧ r < w.heap.size :=
  let ⟨_, _, _, _, _, h1, _, _, _, h5, _⟩ := h; ⟨lt_of_block h1, lt_of_block h5⟩
theorem MRange.alloc {w : World} {d : TypeDesc} {b r : Nat} {M rest : List (Value × Value)} (h : MRange w d b r M rest) (o : Obj) : MRange (w.alloc o) d b r M rest :=
  h.keep (Below.heap_alloc _ _ _ h.lt.1) (Below.heap_alloc _ _ _ h.lt.2)

section
variable {w w' : World} {pb mb : Nat} {D : DiskD} {n x : List UInt8} {f : FileD}

set_option maxHeartbeats 1000000 in
theorem size_h (hD : DiskAt w pb mb D) : Calls Tryd.prog 19 #[.pointer (some ⟨pb, 0, none⟩)] w fun e w' => e = .returned (.int .i64 (total D.files)) ∧ Fr (fun _ => False) w w' := by
  obtain ⟨c0, c1, c2, c3⟩ := hD.cells
  have hm := hD.map
  have hfull := hD.inv.full
  have hmost := hD.inv.most
  have HI := Lib.hid hD
  go_enter Tryd.func19, Tryd.ntmps19
  go_wp2_with (at_range; go_must (refine wpList_map_range rfl _ 61 rfl 9 67 Tryd.underlying61 rfl hm ?_; intro w1 hr1 hf1 hs1; go_frame))
  go_loopg [3] D.files.length (fun j v wr => ∃ (l : List FileD) (t : Nat), l.length = j ∧ v = .int .i64 t ∧ t + total l = total D.files ∧ MRange wr .string mb w.heap.size (D.files.map entF) (l.map entF) ∧ Fr (fun _ => False) w wr ∧ w.heap.size < wr.heap.size)
  case atStart => exact ⟨D.files, 0, rfl, rfl, by omega, hr1, hf1, by omega⟩
  case round =>
    obtain ⟨l, t, hl, rfl, ht, hr, hf, hsz⟩ := hrel
    have HL := Lib.hid (And.intro hl ht)
    have ht1 : t ≤ 10000000 := by omega
    clear hl ht
    go_wp2_with (at_next; go_must (refine wpList_map_next rfl _ rfl rfl hr ?_ ?_))
    · intro hnil
      obtain rfl : l = [] := by simpa using hnil
      have HE := Lib.hid (show t = total D.files by have := HL.out.2; simp [total] at this ⊢; exact this)
      clear hnil
      go_wp2_with fail
      go_ret
      exact ⟨by rw [← HE.out]; rfl, hf⟩
    · intro k v w2 L' hp hr2 hf2 hent hs2
      obtain ⟨f, l', e1, hp1, hp2⟩ := perm_map_cons hp
      obtain ⟨rfl, rfl⟩ : k = .string (bs f.name) ∧ v = .agg #[.string (bs f.bytes), .int .i64 f.synced] := by injection e1 with e1 e2; exact ⟨e1, e2⟩
      have hfb : total l = f.bytes.length + total l' := by rw [total_perm hp1, total_cons]
      have hlen : l.length = l'.length + 1 := by rw [hp1.length_eq, List.length_cons]
      have hsz0 : (bs f.bytes).size = f.bytes.length := rfl
      have ht2 : t + f.bytes.length ≤ 10000000 := by have := HL.out.2; omega
      have HX := Lib.hid (And.intro hfb hlen)
      clear hp hp1 e1 hfb hlen
      go_wp2_with fail
      go_roundg l'.length
      case measure => have := HX.out.2; have := HL.out.1; omega
      case rel =>
        refine ⟨l', t + f.bytes.length, rfl, by go_num, by have := HX.out.1; have := HL.out.2; omega, ?_, ?_, ?_⟩
        · exact (hr2.alloc _).perm hp2
        · exact (hf.trans hf2 fun i hi => .inr (by rw [hi]; exact Nat.le_refl _)).alloc _
        · simp; omega

theorem nth_h {S : Nat → Prop} {a : Value} {l : List Int} (ha : IR w S a l) (hl : l.length < 1000000) (k : Nat) : Calls Tryd.prog 43 #[a, .int .i64 k] w fun e w' => e = .returned (.int .i64 (nthD l k)) ∧ w = w' := by
  obtain ⟨a, cap, rfl, hc1, hc2⟩ := ha.form
  by_cases hk : k < l.length
  · obtain ⟨g, off, rfl, hc⟩ := ha.cells (by omega)
    obtain ⟨p, hp⟩ : ∃ p, l[k]? = some p := ⟨_, List.getElem?_eq_getElem hk⟩
    have c1 := hc k p hp
    have HE := Lib.hid (show nthD l k = p by unfold nthD; rw [List.getD_eq_getElem?_getD, hp]; rfl)
    clear hc hp
    go_enter Tryd.func43, Tryd.ntmps43
    go_wp2_with fail
    go_ret
    exact ⟨by rw [HE.out]; rfl, rfl⟩
  · have HE := Lib.hid (show nthD l k = 0 by unfold nthD; rw [List.getD_eq_getElem?_getD, List.getElem?_eq_none (by omega)]; rfl)
    go_enter Tryd.func43, Tryd.ntmps43
    go_wp2_with fail
    go_ret
    exact ⟨by rw [HE.out]; rfl, rfl⟩

theorem read_h (hD : DiskAt w pb mb D) (n : List UInt8) : Calls Tryd.prog 22 #[.pointer (some ⟨pb, 0, none⟩), .string (bs n)] w fun e w' => e = .returned (.tuple #[.string (bs (readD D n).1), .int .i64 (readD D n).2]) ∧ Fr (fun _ => False) w w' := by
  cases hd : D.dead with
  | true =>
    have HE := Lib.hid (show readD D n = ([], 7) by unfold readD; rw [if_pos hd])
    have HF := Lib.hid (find_dead (n := n) hD hd)
    clear hd
    go_enter Tryd.func22, Tryd.ntmps22
    go_wp2_with fail
    refine Calls.mono HF.out ?_
    rintro e w1 ⟨rfl, hf⟩
    go_wp2_with fail
    go_ret2
    exact ⟨by rw [HE.out]; rfl, hf.alloc _⟩
  | false =>
    cases hg : getF D.files n with
    | none =>
      have HE := Lib.hid (show readD D n = ([], 4) by unfold readD; rw [if_neg (by rw [hd]; simp), hg])
      have HF := Lib.hid (find_none (n := n) hD hd hg)
      clear hd hg
      go_enter Tryd.func22, Tryd.ntmps22
      go_wp2_with fail
      refine Calls.mono HF.out ?_
      rintro e w1 ⟨rfl, hf⟩
      go_wp2_with fail
      go_ret2
      exact ⟨by rw [HE.out]; rfl, hf.alloc _⟩
    | some f =>
      have HE := Lib.hid (show readD D n = (f.bytes, 0) by unfold readD; rw [if_neg (by rw [hd]; simp), hg])
      have HF := Lib.hid (find_some (n := n) hD hd hg)
      clear hd hg
      go_enter Tryd.func22, Tryd.ntmps22
      go_wp2_with fail
      refine Calls.mono HF.out ?_
      rintro e w1 ⟨rfl, hf⟩
      unfold valF
      go_wp2_with fail
      go_ret2
      exact ⟨by rw [HE.out]; rfl, hf.alloc _⟩
end
end Go.Proofs.YtfcnjbkoneinpaaDoor
