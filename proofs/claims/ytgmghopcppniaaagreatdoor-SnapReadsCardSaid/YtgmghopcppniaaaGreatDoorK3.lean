/- A disk in memory; the small calls: New, Dead, Fuse, turn, find. -/
import Derived.Test.YtgmghopcppniaaaGreatDoorProg
import Derived.Test.YtgmghopcppniaaaGreatDoorInts
import Derived.Test.YtgmghopcppniaaaGreatDoorMapR
import Derived.Test.YtgmghopcppniaaaGreatDoorD3
import Derived.Test.YtgmghopcppniaaaGreatDoorS0
import Derived.WalkSpells
import Derived.WalkLawsBesides
import Derived.Outline
import Derived.Deep.QuietTactic
import Derived.BigQuiet
import Derived.StillTailTactics
import Derived.Deep.DeepMust
import Derived.Deep.DeepFit
import Derived.Deep.LoopGhost
namespace Go.Proofs.YtgmghopcppniaaaGreatDoor
open Go.RowKit Go.Lib

def valF (f : FileD) : Value := .agg #[.string (bs f.bytes), .int .i64 f.synced]
def entF (f : FileD) : Value × Value := (.string (bs f.name), valF f)

structure DiskAt (w : World) (pb mb : Nat) (D : DiskD) : Prop where
  head : w.heap[pb]? = some (.cells #[.map (some mb), .int .i64 D.most, .int .i64 D.fuse, .bool D.dead] 123 (0, 0))
  map : MapOf w .string mb (D.files.map entF)
  inv : InvD D
def Own (pb mb : Nat) : Nat → Prop := fun k => k = pb ∨ k = mb

section
variable {w w' : World} {pb mb : Nat} {D : DiskD} {n x : List UInt8} {f : FileD}
theorem DiskAt.ne (h : DiskAt w pb mb D) : pb ≠ mb := by
  obtain ⟨es, c, hb⟩ := h.map.block
  rintro rfl
  have := h.head
  rw [hb] at this
  cases this
theorem DiskAt.fr {o : Nat → Prop} (h : DiskAt w pb mb D) (hf : Fr o w w') (h1 : ¬ o pb) (h2 : ¬ o mb) : DiskAt w' pb mb D :=
  ⟨hf.keep h.head h1, h.map.keep (hf.block mb h.map.lt h2), h.inv⟩
theorem DiskAt.grow (h : DiskAt w pb mb D) (hf : Fr (fun _ => False) w w') : DiskAt w' pb mb D := h.fr hf (fun h => h) (fun h => h)
theorem DiskAt.cells (h : DiskAt w pb mb D) : w.cell? ⟨pb, 0, none⟩ = some (.map (some mb)) ∧ w.cell? ⟨pb, 1, none⟩ = some (.int .i64 D.most) ∧ w.cell? ⟨pb, 2, none⟩ = some (.int .i64 D.fuse) ∧ w.cell? ⟨pb, 3, none⟩ = some (.bool D.dead) :=
  ⟨cell_of h.head rfl, cell_of h.head rfl, cell_of h.head rfl, cell_of h.head rfl⟩

def NewPost2 (most : Int) (w : World) (e : Ending) (w' : World) : Prop := ∃ pb mb, e = .returned (.tuple #[.pointer (some ⟨pb, 0, none⟩), .int .i64 0]) ∧ DiskAt w' pb mb (newD most) ∧ Fr (fun _ => False) w w' ∧ w.heap.size ≤ pb ∧ w.heap.size ≤ mb
theorem new_yes {most : Int} (h0 : 0 ≤ most) (h1 : most ≤ 10000000) : Calls Tryz.prog 24 #[.int .i64 most] w (NewPost2 most w) := by
  have d1 : decide (most < 0) = false := by simpa using h0
  have d2 : decide (10000000 < most) = false := by simpa using h1
  have hmm := @run_makeMap Tryz.prog
  go_enter Tryz.func24, Tryz.ntmps24
  go_wp2_with fail
  go_ret2
  refine ⟨w.heap.size + 1, w.heap.size, rfl, ⟨block_new_at (by simp), (MapOf.made w _).keep (Below.heap_alloc _ _ _ (by simp)), InvD.new h0 h1⟩, ((Fr.refl _ _).alloc _).alloc _, Nat.le_succ _, Nat.le_refl _⟩
theorem new_no {most : Int} (h : most < 0 ∨ 10000000 < most) : Calls Tryz.prog 24 #[.int .i64 most] w fun e w' => e = .returned (.tuple #[.pointer none, .int .i64 2]) ∧ w = w' := by
  by_cases h0 : most < 0
  · have d1 : decide (most < 0) = true := by simpa using h0
    clear h
    go_enter Tryz.func24, Tryz.ntmps24
    go_wp2_with fail
    go_ret2
    exact ⟨rfl, rfl⟩
  · have d1 : decide (most < 0) = false := by simpa using h0
    have d2 : decide (10000000 < most) = true := by rw [decide_eq_true_iff]; omega
    clear h
    go_enter Tryz.func24, Tryz.ntmps24
    go_wp2_with fail
    go_ret2
    exact ⟨rfl, rfl⟩
theorem dead_h (h : DiskAt w pb mb D) : Calls Tryz.prog 26 #[.pointer (some ⟨pb, 0, none⟩)] w fun e w' => e = .returned (.bool D.dead) ∧ w = w' := by
  obtain ⟨c0, c1, c2, c3⟩ := h.cells
  go_enter Tryz.func26, Tryz.ntmps26
  go_wp2_with fail
  go_ret
  exact ⟨rfl, rfl⟩
theorem disk_set (h : DiskAt w pb mb D) {i : Nat} {v : Value} {D' : DiskD} (hf : D'.files = D.files) (hv : InvD D') (hc : (#[.map (some mb), .int .i64 D.most, .int .i64 D.fuse, .bool D.dead] : Array Value).setIfInBounds i v = #[.map (some mb), .int .i64 D'.most, .int .i64 D'.fuse, .bool D'.dead]) :
    DiskAt (w.setCell ⟨pb, i, none⟩ v) pb mb D' := by
  have := block_set h.head i v
  rw [hc] at this
  exact ⟨this, by rw [hf]; exact h.map.keep (block_set_ne h.ne.symm), hv⟩
def Does (pb mb : Nat) (p : Int × DiskD) (w : World) (e : Ending) (w' : World) : Prop := e = .returned (.int .i64 p.1) ∧ DiskAt w' pb mb p.2 ∧ Fr (Own pb mb) w w'
theorem fuse_h (hD : DiskAt w pb mb D) {k : Int} (hk : k ≤ 9223372036854775807) : Calls Tryz.prog 25 #[.pointer (some ⟨pb, 0, none⟩), .int .i64 k] w fun e w' => e = .returned (.tuple #[]) ∧ DiskAt w' pb mb (fuseD D k) ∧ Fr (Own pb mb) w w' := by
  obtain ⟨c0, c1, c2, c3⟩ := hD.cells
  have f2 := free_of 2 hD.head
  by_cases hm : k < -1
  · have hv : max k (-1) = -1 := by omega
    have HV := Lib.hid hv
    clear hv
    go_enter Tryz.func25, Tryz.ntmps25
    go_wp2_with fail
    go_end0
    refine ⟨rfl, ?_, (Fr.refl _ _).setCell (.inl (.inl rfl)) _⟩
    refine disk_set hD rfl (hD.inv.fused k hk) ?_
    simp [fuseD, HV.out]
  · have hm2 : -1 ≤ k := by omega
    have hv : max k (-1) = k := by omega
    have HV := Lib.hid hv
    clear hv hm
    go_enter Tryz.func25, Tryz.ntmps25
    go_wp2_with fail
    go_end0
    refine ⟨rfl, ?_, (Fr.refl _ _).setCell (.inl (.inl rfl)) _⟩
    refine disk_set hD rfl (hD.inv.fused k hk) ?_
    simp [fuseD, HV.out]
theorem turn_h (hD : DiskAt w pb mb D) : Calls Tryz.prog 76 #[.pointer (some ⟨pb, 0, none⟩)] w (Does pb mb (turnD D) w) := by
  obtain ⟨c0, c1, c2, c3⟩ := hD.cells
  have f2 := free_of 2 hD.head
  have f3 := free_of 3 hD.head
  have hi := hD.inv.turn
  have hfu := hD.inv.fuse
  by_cases hz : D.fuse = 0
  · have e : turnD D = (7, { D with dead := true }) := by unfold turnD; rw [if_pos hz]
    have d1 : (D.fuse == 0) = true := by simpa using hz
    have HE := Lib.hid e
    have HI := Lib.hid hi
    clear hz e hi
    go_enter Tryz.func76, Tryz.ntmps76
    go_wp2_with fail
    go_ret
    have hi := HI.out
    rw [HE.out] at hi ⊢
    exact ⟨rfl, disk_set hD rfl hi (by simp), (Fr.refl _ _).setCell (.inl (.inl rfl)) _⟩
  · have e : turnD D = (0, { D with fuse := max (D.fuse - 1) (-1) }) := by unfold turnD; rw [if_neg hz]
    have d1 : (D.fuse == 0) = false := by simpa using hz
    have HE := Lib.hid e
    have HI := Lib.hid hi
    clear e hi
    obtain ⟨hf1, hf2⟩ := hfu
    by_cases hm : D.fuse - 1 < -1
    · have HV := Lib.hid (show max (D.fuse - 1) (-1) = -1 by omega)
      clear hz
      go_enter Tryz.func76, Tryz.ntmps76
      go_wp2_with fail
      go_ret
      have hi := HI.out
      rw [HE.out] at hi ⊢
      exact ⟨rfl, disk_set hD rfl hi (by simp [HV.out]), (Fr.refl _ _).setCell (.inl (.inl rfl)) _⟩
    · have HV := Lib.hid (show max (D.fuse - 1) (-1) = D.fuse - 1 by omega)
      have hm2 : -1 ≤ D.fuse - 1 := by omega
      clear hz hm
      go_enter Tryz.func76, Tryz.ntmps76
      go_wp2_with fail
      go_ret
      have hi := HI.out
      rw [HE.out] at hi ⊢
      exact ⟨rfl, disk_set hD rfl hi (by simp [HV.out]), (Fr.refl _ _).setCell (.inl (.inl rfl)) _⟩
end
end Go.Proofs.YtgmghopcppniaaaGreatDoor

/- find and Read. -/
namespace Go.Proofs.YtgmghopcppniaaaGreatDoor
open Go.RowKit Go.Lib

section
variable {w w' : World} {pb mb : Nat} {D : DiskD} {n x : List UInt8} {f : FileD}
theorem zero67 : ∀ w, (zeroValue 127).run Tryz.prog w = .ok (.agg #[.string ⟨#[]⟩, .int .i64 0]) w := Tryz.zeroValue127

theorem look_some (hD : DiskAt w pb mb D) (hg : getF D.files n = some f) (ok : Bool) : (Instr.lookup 121 (.map (some mb)) (.string (bs n)) ok).run Tryz.prog w = .ok (if ok then .tuple #[valF f, .bool true] else valF f) w := by
  obtain ⟨h1, h2⟩ := get_mem hg
  exact hD.map.run_look (k := .string (bs n)) Tryz.underlying121 Tryz.underlying9 trivial (List.mem_map.2 ⟨f, h1, by unfold entF; rw [h2]⟩) ok
theorem key_ne (hg : getF D.files n = none) : ∀ p ∈ D.files.map entF, p.1 ≠ .string (bs n) := by
  intro p hp e
  obtain ⟨g, hgm, rfl⟩ := List.mem_map.1 hp
  unfold entF at e
  simp only [Value.string.injEq] at e
  exact get_none.1 hg g hgm (bs_inj e)
theorem look_none (hD : DiskAt w pb mb D) (hg : getF D.files n = none) (ok : Bool) : (Instr.lookup 121 (.map (some mb)) (.string (bs n)) ok).run Tryz.prog w = .ok (if ok then .tuple #[.agg #[.string ⟨#[]⟩, .int .i64 0], .bool false] else .agg #[.string ⟨#[]⟩, .int .i64 0]) w :=
  hD.map.run_none (k := .string (bs n)) Tryz.underlying121 Tryz.underlying9 trivial (key_ne hg) zero67 ok

theorem find_dead (hD : DiskAt w pb mb D) (hd : D.dead = true) : Calls Tryz.prog 74 #[.pointer (some ⟨pb, 0, none⟩), .string (bs n)] w fun e w' => e = .returned (.tuple #[.agg #[.string ⟨#[]⟩, .int .i64 0], .int .i64 7]) ∧ Fr (fun _ => False) w w' := by
  obtain ⟨c0, c1, c2, c3⟩ := (hD.grow ((Fr.refl _ _).alloc (.cells #[.string ⟨#[]⟩, .int .i64 0] 127))).cells
  rw [hd] at c3
  go_enter Tryz.func74, Tryz.ntmps74
  go_wp2_with fail
  refine bodyPost_ret (v := .tuple #[.agg #[.string ⟨#[]⟩, .int .i64 0], .int .i64 7]) (by simp [results, Tryz.results74, go_sem]) rfl ⟨rfl, ?_⟩
  exact (Fr.refl _ _).alloc _
theorem find_none (hD : DiskAt w pb mb D) (hd : D.dead = false) (hg : getF D.files n = none) : Calls Tryz.prog 74 #[.pointer (some ⟨pb, 0, none⟩), .string (bs n)] w fun e w' => e = .returned (.tuple #[.agg #[.string ⟨#[]⟩, .int .i64 0], .int .i64 4]) ∧ Fr (fun _ => False) w w' := by
  obtain ⟨c0, c1, c2, c3⟩ := (hD.grow ((Fr.refl _ _).alloc (.cells #[.string ⟨#[]⟩, .int .i64 0] 127))).cells
  have hl := look_none (hD.grow ((Fr.refl _ _).alloc (.cells #[.string ⟨#[]⟩, .int .i64 0] 127))) hg true
  simp only [if_true] at hl
  rw [hd] at c3
  go_enter Tryz.func74, Tryz.ntmps74
  go_wp2_with fail
  refine bodyPost_ret (v := .tuple #[.agg #[.string ⟨#[]⟩, .int .i64 0], .int .i64 4]) (by simp [results, Tryz.results74, go_sem]) rfl ⟨rfl, ?_⟩
  exact ((Fr.refl _ _).alloc _).alloc _
theorem find_some (hD : DiskAt w pb mb D) (hd : D.dead = false) (hg : getF D.files n = some f) : Calls Tryz.prog 74 #[.pointer (some ⟨pb, 0, none⟩), .string (bs n)] w fun e w' => e = .returned (.tuple #[valF f, .int .i64 0]) ∧ Fr (fun _ => False) w w' := by
  obtain ⟨c0, c1, c2, c3⟩ := (hD.grow ((Fr.refl _ _).alloc (.cells #[.string ⟨#[]⟩, .int .i64 0] 127))).cells
  have hl := look_some (hD.grow ((Fr.refl _ _).alloc (.cells #[.string ⟨#[]⟩, .int .i64 0] 127))) hg true
  simp only [if_true, valF] at hl
  unfold valF
  rw [hd] at c3
  go_enter Tryz.func74, Tryz.ntmps74
  go_wp2_with fail
  refine bodyPost_ret (v := .tuple #[.agg #[.string (bs f.bytes), .int .i64 f.synced], .int .i64 0]) (by simp [results, Tryz.results74, go_sem]) rfl ⟨rfl, ?_⟩
  exact ((Fr.refl _ _).alloc _).alloc _
end
end Go.Proofs.YtgmghopcppniaaaGreatDoor

/- Size, nth and Read. -/
namespace Go.Proofs.YtgmghopcppniaaaGreatDoor
open Go.RowKit Go.Lib

theorem perm_map_cons {α β : Type} {g : α → β} {l : List α} {x : β} {L : List β} (h : (l.map g).Perm (x :: L)) : ∃ f l', x = g f ∧ l.Perm (f :: l') ∧ L.Perm (l'.map g) := by
  obtain ⟨f, hf, rfl⟩ := List.mem_map.1 (h.mem_iff.2 (List.mem_cons_self ..))
  obtain ⟨s, t, rfl⟩ := List.append_of_mem hf
  have hp : (s ++ f :: t).Perm (f :: (s ++ t)) := List.perm_middle
  exact ⟨f, s ++ t, rfl, hp, (h.symm.trans (hp.map g)).cons_inv⟩
theorem MRange.perm {w : World} {d : TypeDesc} {b r : Nat} {M rest rest' : List (Value × Value)} (h : MRange w d b r M rest) (hp : rest.Perm rest') : MRange w d b r M rest' :=
  let ⟨es, c, s, n, c0, h1, h2, h3, h4, h5, h6, h7, h8, h9⟩ := h; ⟨es, c, s, n, c0, h1, h2, h3, h4, h5, h6, h7, h8, h9.trans hp⟩

theorem MRange.lt {w : World} {d : TypeDesc} {b r : Nat} {M rest : List (Value × Value)} (h : MRange w d b r M rest) : b < w.heap.size ∧ r < w.heap.size :=
  let ⟨_, _, _, _, _, h1, _, _, _, h5, _⟩ := h; ⟨lt_of_block h1, lt_of_block h5⟩
theorem MRange.alloc {w : World} {d : TypeDesc} {b r : Nat} {M rest : List (Value × Value)} (h : MRange w d b r M rest) (o : Obj) : MRange (w.alloc o) d b r M rest :=
  h.keep (Below.heap_alloc _ _ _ h.lt.1) (Below.heap_alloc _ _ _ h.lt.2)

section
variable {w w' : World} {pb mb : Nat} {D : DiskD} {n x : List UInt8} {f : FileD}

set_option maxHeartbeats 1000000 in
theorem size_h (hD : DiskAt w pb mb D) : Calls Tryz.prog 53 #[.pointer (some ⟨pb, 0, none⟩)] w fun e w' => e = .returned (.int .i64 (total D.files)) ∧ Fr (fun _ => False) w w' := by
  obtain ⟨c0, c1, c2, c3⟩ := hD.cells
  have hm := hD.map
  have hfull := hD.inv.full
  have hmost := hD.inv.most
  have HI := Lib.hid hD
  go_enter Tryz.func53, Tryz.ntmps53
  go_wp2_with (at_range; go_must (refine wpList_map_range rfl _ 121 rfl 9 127 Tryz.underlying121 rfl hm ?_; intro w1 hr1 hf1 hs1; go_frame))
  go_loopg [3] D.files.length (fun j v wr => ∃ (l : List FileD) (t : Nat), l.length = j ∧ v = .int .i64 t ∧ t + total l = total D.files ∧ MRange wr .string mb w.heap.size (D.files.map entF) (l.map entF) ∧ Fr (fun _ => False) w wr ∧ w.heap.size < wr.heap.size)
  case atStart => exact ⟨D.files, 0, rfl, rfl, by omega, hr1, hf1, by omega⟩
  case round =>
    obtain ⟨l, t, hl, rfl, ht, hr, hf, hsz⟩ := hrel
    have HL := Lib.hid (And.intro hl ht)
    have ht1 : t ≤ 10000000 := by omega
    clear hl ht
    go_wp2_with (at_next; go_must (refine wpList_map_next rfl _ rfl rfl hr ?_ ?_))
    · intro hnil
      obtain rfl : l = [] := by simpa using hnil
      have HE := Lib.hid (show t = total D.files by have := HL.out.2; simp [total] at this ⊢; exact this)
      clear hnil
      go_wp2_with fail
      go_ret
      exact ⟨by rw [← HE.out]; rfl, hf⟩
    · intro k v w2 L' hp hr2 hf2 hent hs2
      obtain ⟨f, l', e1, hp1, hp2⟩ := perm_map_cons hp
      obtain ⟨rfl, rfl⟩ : k = .string (bs f.name) ∧ v = .agg #[.string (bs f.bytes), .int .i64 f.synced] := by injection e1 with e1 e2; exact ⟨e1, e2⟩
      have hfb : total l = f.bytes.length + total l' := by rw [total_perm hp1, total_cons]
      have hlen : l.length = l'.length + 1 := by rw [hp1.length_eq, List.length_cons]
      have hsz0 : (bs f.bytes).size = f.bytes.length := rfl
      have ht2 : t + f.bytes.length ≤ 10000000 := by have := HL.out.2; omega
      have HX := Lib.hid (And.intro hfb hlen)
      clear hp hp1 e1 hfb hlen
      go_wp2_with fail
      go_roundg l'.length
      case measure => have := HX.out.2; have := HL.out.1; omega
      case rel =>
        refine ⟨l', t + f.bytes.length, rfl, by go_num, by have := HX.out.1; have := HL.out.2; omega, ?_, ?_, ?_⟩
        · exact (hr2.alloc _).perm hp2
        · exact (hf.trans hf2 fun i hi => .inr (by rw [hi]; exact Nat.le_refl _)).alloc _
        · simp; omega

theorem nth_h {S : Nat → Prop} {a : Value} {l : List Int} (ha : IR w S a l) (hl : l.length < 1000000) (k : Nat) : Calls Tryz.prog 71 #[a, .int .i64 k] w fun e w' => e = .returned (.int .i64 (nthD l k)) ∧ w = w' := by
  obtain ⟨a, cap, rfl, hc1, hc2⟩ := ha.form
  by_cases hk : k < l.length
  · obtain ⟨g, off, rfl, hc⟩ := ha.cells (by omega)
    obtain ⟨p, hp⟩ : ∃ p, l[k]? = some p := ⟨_, List.getElem?_eq_getElem hk⟩
    have c1 := hc k p hp
    have HE := Lib.hid (show nthD l k = p by unfold nthD; rw [List.getD_eq_getElem?_getD, hp]; rfl)
    clear hc hp
    go_enter Tryz.func71, Tryz.ntmps71
    go_wp2_with fail
    go_ret
    exact ⟨by rw [HE.out]; rfl, rfl⟩
  · have HE := Lib.hid (show nthD l k = 0 by unfold nthD; rw [List.getD_eq_getElem?_getD, List.getElem?_eq_none (by omega)]; rfl)
    go_enter Tryz.func71, Tryz.ntmps71
    go_wp2_with fail
    go_ret
    exact ⟨by rw [HE.out]; rfl, rfl⟩

theorem read_h (hD : DiskAt w pb mb D) (n : List UInt8) : Calls Tryz.prog 72 #[.pointer (some ⟨pb, 0, none⟩), .string (bs n)] w fun e w' => e = .returned (.tuple #[.string (bs (readD D n).1), .int .i64 (readD D n).2]) ∧ Fr (fun _ => False) w w' := by
  cases hd : D.dead with
  | true =>
    have HE := Lib.hid (show readD D n = ([], 7) by unfold readD; rw [if_pos hd])
    have HF := Lib.hid (find_dead (n := n) hD hd)
    clear hd
    go_enter Tryz.func72, Tryz.ntmps72
    go_wp2_with fail
    refine Calls.mono HF.out ?_
    rintro e w1 ⟨rfl, hf⟩
    go_wp2_with fail
    go_ret2
    exact ⟨by rw [HE.out]; rfl, hf.alloc _⟩
  | false =>
    cases hg : getF D.files n with
    | none =>
      have HE := Lib.hid (show readD D n = ([], 4) by unfold readD; rw [if_neg (by rw [hd]; simp), hg])
      have HF := Lib.hid (find_none (n := n) hD hd hg)
      clear hd hg
      go_enter Tryz.func72, Tryz.ntmps72
      go_wp2_with fail
      refine Calls.mono HF.out ?_
      rintro e w1 ⟨rfl, hf⟩
      go_wp2_with fail
      go_ret2
      exact ⟨by rw [HE.out]; rfl, hf.alloc _⟩
    | some f =>
      have HE := Lib.hid (show readD D n = (f.bytes, 0) by unfold readD; rw [if_neg (by rw [hd]; simp), hg])
      have HF := Lib.hid (find_some (n := n) hD hd hg)
      clear hd hg
      go_enter Tryz.func72, Tryz.ntmps72
      go_wp2_with fail
      refine Calls.mono HF.out ?_
      rintro e w1 ⟨rfl, hf⟩
      unfold valF
      go_wp2_with fail
      go_ret2
      exact ⟨by rw [HE.out]; rfl, hf.alloc _⟩
end
end Go.Proofs.YtgmghopcppniaaaGreatDoor
