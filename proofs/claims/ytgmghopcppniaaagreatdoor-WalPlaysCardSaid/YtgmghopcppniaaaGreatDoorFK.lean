/- A disk in memory; the small calls: New, Dead, Fuse, turn, find. -/
import Derived.Test.YtgmghopcppniaaaGreatDoorProg
import Derived.Test.YtgmghopcppniaaaGreatDoorFA
import Derived.Test.YtgmghopcppniaaaGreatDoorFB
import Derived.Test.YtgmghopcppniaaaGreatDoorFZ
import Derived.WalkSpells
import Derived.WalkLawsBesides
import Derived.Outline
import Derived.Deep.QuietTactic
import Derived.BigQuiet
import Derived.StillTailTactics
import Derived.Deep.DeepMust
import Derived.Deep.DeepFit
import Derived.Deep.LoopGhost
import Derived.Lib.Strings
import Derived.Test.YtgmghopcppniaaaGreatDoorShelf
namespace Go.Proofs.YtgmghopcppniaaaGreatDoor
open Go.RowKit Go.Lib

def valF (f : FileD) : Value := .agg #[.string (bs f.bytes), .int .i64 f.synced]
def entF (f : FileD) : Value × Value := (.string (bs f.name), valF f)

structure DiskAt (w : World) (pb mb : Nat) (D : DiskD) : Prop where
 head : w.heap[pb]? = some (.cells #[.map (some mb), .int .i64 D.most, .int .i64 D.fuse, .bool D.dead] 123 (0, 0))
 map : MapOf w .string mb (D.files.map entF)
 inv : InvD D
def Own (pb mb : Nat) : Nat → Prop := fun k => k = pb ∨ k = mb

section
variable {w w' : World} {pb mb : Nat} {D : DiskD} {n x : List UInt8} {f : FileD}
theorem DiskAt.ne (h : DiskAt w pb mb D) : pb ≠ mb := by
 obtain ⟨es, c, hb⟩ := h.map.block
 rintro rfl
 have := h.head
 rw [hb] at this
 cases this
theorem DiskAt.fr {o : Nat → Prop} (h : DiskAt w pb mb D) (hf : Fr o w w') (h1 : ¬ o pb) (h2 : ¬ o mb) : DiskAt w' pb mb D :=
 ⟨hf.keep h.head h1, h.map.keep (hf.block mb h.map.lt h2), h.inv⟩
theorem DiskAt.grow (h : DiskAt w pb mb D) (hf : Fr (fun _ => False) w w') : DiskAt w' pb mb D := h.fr hf (fun h => h) (fun h => h)
theorem DiskAt.cells (h : DiskAt w pb mb D) : w.cell? ⟨pb, 0, none⟩ = some (.map (some mb)) ∧ w.cell? ⟨pb, 1, none⟩ = some (.int .i64 D.most) ∧ w.cell? ⟨pb, 2, none⟩ = some (.int .i64 D.fuse) ∧ w.cell? ⟨pb, 3, none⟩ = some (.bool D.dead) :=
 ⟨cell_of h.head rfl, cell_of h.head rfl, cell_of h.head rfl, cell_of h.head rfl⟩

def NewPost2 (most : Int) (w : World) (e : Ending) (w' : World) : Prop := ∃ pb mb, e = .returned (.tuple #[.pointer (some ⟨pb, 0, none⟩), .int .i64 0]) ∧ DiskAt w' pb mb (newD most) ∧ Fr (fun _ => False) w w' ∧ w.heap.size ≤ pb ∧ w.heap.size ≤ mb
theorem new_yes {most : Int} (h0 : 0 ≤ most) (h1 : most ≤ 10000000) : Calls Tryz.prog 24 #[.int .i64 most] w (NewPost2 most w) := by
 have d1 : decide (most < 0) = false := by simpa using h0
 have d2 : decide (10000000 < most) = false := by simpa using h1
 have hmm := @run_makeMap Tryz.prog
 go_enter Tryz.func24, Tryz.ntmps24
 go_wp2_with fail
 go_ret2
 refine ⟨w.heap.size + 1, w.heap.size, rfl, ⟨block_new_at (by simp), (MapOf.made w _).keep (Below.heap_alloc _ _ _ (by simp)), InvD.new h0 h1⟩, ((Fr.refl _ _).alloc _).alloc _, Nat.le_succ _, Nat.le_refl _⟩
theorem dead_h (h : DiskAt w pb mb D) : Calls Tryz.prog 26 #[.pointer (some ⟨pb, 0, none⟩)] w fun e w' => e = .returned (.bool D.dead) ∧ w = w' := by
 obtain ⟨c0, c1, c2, c3⟩ := h.cells
 go_enter Tryz.func26, Tryz.ntmps26
 go_wp2_with fail
 go_ret
 exact ⟨rfl, rfl⟩
theorem disk_set (h : DiskAt w pb mb D) {i : Nat} {v : Value} {D' : DiskD} (hf : D'.files = D.files) (hv : InvD D') (hc : (#[.map (some mb), .int .i64 D.most, .int .i64 D.fuse, .bool D.dead] : Array Value).setIfInBounds i v = #[.map (some mb), .int .i64 D'.most, .int .i64 D'.fuse, .bool D'.dead]) :
  DiskAt (w.setCell ⟨pb, i, none⟩ v) pb mb D' := by
 have := block_set h.head i v
 rw [hc] at this
 exact ⟨this, by rw [hf]; exact h.map.keep (block_set_ne h.ne.symm), hv⟩
def Does (pb mb : Nat) (p : Int × DiskD) (w : World) (e : Ending) (w' : World) : Prop := e = .returned (.int .i64 p.1) ∧ DiskAt w' pb mb p.2 ∧ Fr (Own pb mb) w w'
theorem fuse_h (hD : DiskAt w pb mb D) {k : Int} (hk : k ≤ 9223372036854775807) : Calls Tryz.prog 25 #[.pointer (some ⟨pb, 0, none⟩), .int .i64 k] w fun e w' => e = .returned (.tuple #[]) ∧ DiskAt w' pb mb (fuseD D k) ∧ Fr (Own pb mb) w w' := by
 obtain ⟨c0, c1, c2, c3⟩ := hD.cells
 have f2 := free_of 2 hD.head
 by_cases hm : k < -1
 ·have hv : max k (-1) = -1 := by omega
  have HV := Lib.hid hv
  clear hv
  go_enter Tryz.func25, Tryz.ntmps25
  go_wp2_with fail
  go_end0
  refine ⟨rfl, ?_, (Fr.refl _ _).setCell (.inl (.inl rfl)) _⟩
  refine disk_set hD rfl (hD.inv.fused k hk) ?_
  simp [fuseD, HV.out]
 ·have hm2 : -1 ≤ k := by omega
  have hv : max k (-1) = k := by omega
  have HV := Lib.hid hv
  clear hv hm
  go_enter Tryz.func25, Tryz.ntmps25
  go_wp2_with fail
  go_end0
  refine ⟨rfl, ?_, (Fr.refl _ _).setCell (.inl (.inl rfl)) _⟩
  refine disk_set hD rfl (hD.inv.fused k hk) ?_
  simp [fuseD, HV.out]
theorem turn_h (hD : DiskAt w pb mb D) : Calls Tryz.prog 76 #[.pointer (some ⟨pb, 0, none⟩)] w (Does pb mb (turnD D) w) := by
 obtain ⟨c0, c1, c2, c3⟩ := hD.cells
 have f2 := free_of 2 hD.head
 have f3 := free_of 3 hD.head
 have hi := hD.inv.turn
 have hfu := hD.inv.fuse
 by_cases hz : D.fuse = 0
 ·have e : turnD D = (7, { D with dead := true }) := by unfold turnD; rw [if_pos hz]
  have d1 : (D.fuse == 0) = true := by simpa using hz
  have HE := Lib.hid e
  have HI := Lib.hid hi
  clear hz e hi
  go_enter Tryz.func76, Tryz.ntmps76
  go_wp2_with fail
  go_ret
  have hi := HI.out
  rw [HE.out] at hi ⊢
  exact ⟨rfl, disk_set hD rfl hi (by simp), (Fr.refl _ _).setCell (.inl (.inl rfl)) _⟩
 ·have e : turnD D = (0, { D with fuse := max (D.fuse - 1) (-1) }) := by unfold turnD; rw [if_neg hz]
  have d1 : (D.fuse == 0) = false := by simpa using hz
  have HE := Lib.hid e
  have HI := Lib.hid hi
  clear e hi
  obtain ⟨hf1, hf2⟩ := hfu
  by_cases hm : D.fuse - 1 < -1
  ·have HV := Lib.hid (show max (D.fuse - 1) (-1) = -1 by omega)
   clear hz
   go_enter Tryz.func76, Tryz.ntmps76
   go_wp2_with fail
   go_ret
   have hi := HI.out
   rw [HE.out] at hi ⊢
   exact ⟨rfl, disk_set hD rfl hi (by simp [HV.out]), (Fr.refl _ _).setCell (.inl (.inl rfl)) _⟩
  ·have HV := Lib.hid (show max (D.fuse - 1) (-1) = D.fuse - 1 by omega)
   have hm2 : -1 ≤ D.fuse - 1 := by omega
   clear hz hm
   go_enter Tryz.func76, Tryz.ntmps76
   go_wp2_with fail
   go_ret
   have hi := HI.out
   rw [HE.out] at hi ⊢
   exact ⟨rfl, disk_set hD rfl hi (by simp [HV.out]), (Fr.refl _ _).setCell (.inl (.inl rfl)) _⟩
end
end Go.Proofs.YtgmghopcppniaaaGreatDoor

/- find and Read. -/
namespace Go.Proofs.YtgmghopcppniaaaGreatDoor
open Go.RowKit Go.Lib

section
variable {w w' : World} {pb mb : Nat} {D : DiskD} {n x : List UInt8} {f : FileD}
theorem zero67 : ∀ w, (zeroValue 127).run Tryz.prog w = .ok (.agg #[.string ⟨#[]⟩, .int .i64 0]) w := Tryz.zeroValue127

theorem look_some (hD : DiskAt w pb mb D) (hg : getF D.files n = some f) (ok : Bool) : (Instr.lookup 121 (.map (some mb)) (.string (bs n)) ok).run Tryz.prog w = .ok (if ok then .tuple #[valF f, .bool true] else valF f) w := by
 obtain ⟨h1, h2⟩ := get_mem hg
 exact hD.map.run_look (k := .string (bs n)) Tryz.underlying121 Tryz.underlying9 trivial (List.mem_map.2 ⟨f, h1, by unfold entF; rw [h2]⟩) ok
theorem key_ne (hg : getF D.files n = none) : ∀ p ∈ D.files.map entF, p.1 ≠ .string (bs n) := by
 intro p hp e
 obtain ⟨g, hgm, rfl⟩ := List.mem_map.1 hp
 unfold entF at e
 simp only [Value.string.injEq] at e
 exact get_none.1 hg g hgm (bs_inj e)
theorem look_none (hD : DiskAt w pb mb D) (hg : getF D.files n = none) (ok : Bool) : (Instr.lookup 121 (.map (some mb)) (.string (bs n)) ok).run Tryz.prog w = .ok (if ok then .tuple #[.agg #[.string ⟨#[]⟩, .int .i64 0], .bool false] else .agg #[.string ⟨#[]⟩, .int .i64 0]) w :=
 hD.map.run_none (k := .string (bs n)) Tryz.underlying121 Tryz.underlying9 trivial (key_ne hg) zero67 ok

theorem find_dead (hD : DiskAt w pb mb D) (hd : D.dead = true) : Calls Tryz.prog 74 #[.pointer (some ⟨pb, 0, none⟩), .string (bs n)] w fun e w' => e = .returned (.tuple #[.agg #[.string ⟨#[]⟩, .int .i64 0], .int .i64 7]) ∧ Fr (fun _ => False) w w' := by
 obtain ⟨c0, c1, c2, c3⟩ := (hD.grow ((Fr.refl _ _).alloc (.cells #[.string ⟨#[]⟩, .int .i64 0] 127))).cells
 rw [hd] at c3
 go_enter Tryz.func74, Tryz.ntmps74
 go_wp2_with fail
 refine bodyPost_ret (v := .tuple #[.agg #[.string ⟨#[]⟩, .int .i64 0], .int .i64 7]) (by simp [results, Tryz.results74, go_sem]) rfl ⟨rfl, ?_⟩
 exact (Fr.refl _ _).alloc _
theorem find_none (hD : DiskAt w pb mb D) (hd : D.dead = false) (hg : getF D.files n = none) : Calls Tryz.prog 74 #[.pointer (some ⟨pb, 0, none⟩), .string (bs n)] w fun e w' => e = .returned (.tuple #[.agg #[.string ⟨#[]⟩, .int .i64 0], .int .i64 4]) ∧ Fr (fun _ => False) w w' := by
 obtain ⟨c0, c1, c2, c3⟩ := (hD.grow ((Fr.refl _ _).alloc (.cells #[.string ⟨#[]⟩, .int .i64 0] 127))).cells
 have hl := look_none (hD.grow ((Fr.refl _ _).alloc (.cells #[.string ⟨#[]⟩, .int .i64 0] 127))) hg true
 simp only [if_true] at hl
 rw [hd] at c3
 go_enter Tryz.func74, Tryz.ntmps74
 go_wp2_with fail
 refine bodyPost_ret (v := .tuple #[.agg #[.string ⟨#[]⟩, .int .i64 0], .int .i64 4]) (by simp [results, Tryz.results74, go_sem]) rfl ⟨rfl, ?_⟩
 exact ((Fr.refl _ _).alloc _).alloc _
theorem find_some (hD : DiskAt w pb mb D) (hd : D.dead = false) (hg : getF D.files n = some f) : Calls Tryz.prog 74 #[.pointer (some ⟨pb, 0, none⟩), .string (bs n)] w fun e w' => e = .returned (.tuple #[valF f, .int .i64 0]) ∧ Fr (fun _ => False) w w' := by
 obtain ⟨c0, c1, c2, c3⟩ := (hD.grow ((Fr.refl _ _).alloc (.cells #[.string ⟨#[]⟩, .int .i64 0] 127))).cells
 have hl := look_some (hD.grow ((Fr.refl _ _).alloc (.cells #[.string ⟨#[]⟩, .int .i64 0] 127))) hg true
 simp only [if_true, valF] at hl
 unfold valF
 rw [hd] at c3
 go_enter Tryz.func74, Tryz.ntmps74
 go_wp2_with fail
 refine bodyPost_ret (v := .tuple #[.agg #[.string (bs f.bytes), .int .i64 f.synced], .int .i64 0]) (by simp [results, Tryz.results74, go_sem]) rfl ⟨rfl, ?_⟩
 exact ((Fr.refl _ _).alloc _).alloc _
end
end Go.Proofs.YtgmghopcppniaaaGreatDoor

/- Size, nth and Read. -/
namespace Go.Proofs.YtgmghopcppniaaaGreatDoor
open Go.RowKit Go.Lib

theorem perm_map_cons {α β : Type} {g : α → β} {l : List α} {x : β} {L : List β} (h : (l.map g).Perm (x :: L)) : ∃ f l', x = g f ∧ l.Perm (f :: l') ∧ L.Perm (l'.map g) := by
 obtain ⟨f, hf, rfl⟩ := List.mem_map.1 (h.mem_iff.2 (List.mem_cons_self ..))
 obtain ⟨s, t, rfl⟩ := List.append_of_mem hf
 have hp : (s ++ f :: t).Perm (f :: (s ++ t)) := List.perm_middle
 exact ⟨f, s ++ t, rfl, hp, (h.symm.trans (hp.map g)).cons_inv⟩
theorem MRange.perm {w : World} {d : TypeDesc} {b r : Nat} {M rest rest' : List (Value × Value)} (h : MRange w d b r M rest) (hp : rest.Perm rest') : MRange w d b r M rest' :=
 let ⟨es, c, s, n, c0, h1, h2, h3, h4, h5, h6, h7, h8, h9⟩ := h; ⟨es, c, s, n, c0, h1, h2, h3, h4, h5, h6, h7, h8, h9.trans hp⟩

theorem MRange.lt {w : World} {d : TypeDesc} {b r : Nat} {M rest : List (Value × Value)} (h : MRange w d b r M rest) : b < w.heap.size ∧ r < w.heap.size :=
 let ⟨_, _, _, _, _, h1, _, _, _, h5, _⟩ := h; ⟨lt_of_block h1, lt_of_block h5⟩
theorem MRange.alloc {w : World} {d : TypeDesc} {b r : Nat} {M rest : List (Value × Value)} (h : MRange w d b r M rest) (o : Obj) : MRange (w.alloc o) d b r M rest :=
 h.keep (Below.heap_alloc _ _ _ h.lt.1) (Below.heap_alloc _ _ _ h.lt.2)

section
variable {w w' : World} {pb mb : Nat} {D : DiskD} {n x : List UInt8} {f : FileD}

set_option maxHeartbeats 1000000 in
theorem size_h (hD : DiskAt w pb mb D) : Calls Tryz.prog 53 #[.pointer (some ⟨pb, 0, none⟩)] w fun e w' => e = .returned (.int .i64 (total D.files)) ∧ Fr (fun _ => False) w w' := by
 obtain ⟨c0, c1, c2, c3⟩ := hD.cells
 have hm := hD.map
 have hfull := hD.inv.full
 have hmost := hD.inv.most
 have HI := Lib.hid hD
 go_enter Tryz.func53, Tryz.ntmps53
 go_wp2_with (at_range; go_must (refine wpList_map_range rfl _ 121 rfl 9 127 Tryz.underlying121 rfl hm ?_; intro w1 hr1 hf1 hs1; go_frame))
 go_loopg [3] D.files.length (fun j v wr => ∃ (l : List FileD) (t : Nat), l.length = j ∧ v = .int .i64 t ∧ t + total l = total D.files ∧ MRange wr .string mb w.heap.size (D.files.map entF) (l.map entF) ∧ Fr (fun _ => False) w wr ∧ w.heap.size < wr.heap.size)
 case atStart => exact ⟨D.files, 0, rfl, rfl, by omega, hr1, hf1, by omega⟩
 case round =>
  obtain ⟨l, t, hl, rfl, ht, hr, hf, hsz⟩ := hrel
  have HL := Lib.hid (And.intro hl ht)
  have ht1 : t ≤ 10000000 := by omega
  clear hl ht
  go_wp2_with (at_next; go_must (refine wpList_map_next rfl _ rfl rfl hr ?_ ?_))
  ·intro hnil
   obtain rfl : l = [] := by simpa using hnil
   have HE := Lib.hid (show t = total D.files by have := HL.out.2; simp [total] at this ⊢; exact this)
   clear hnil
   go_wp2_with fail
   go_ret
   exact ⟨by rw [← HE.out]; rfl, hf⟩
  ·intro k v w2 L' hp hr2 hf2 hent hs2
   obtain ⟨f, l', e1, hp1, hp2⟩ := perm_map_cons hp
   obtain ⟨rfl, rfl⟩ : k = .string (bs f.name) ∧ v = .agg #[.string (bs f.bytes), .int .i64 f.synced] := by injection e1 with e1 e2; exact ⟨e1, e2⟩
   have hfb : total l = f.bytes.length + total l' := by rw [total_perm hp1, total_cons]
   have hlen : l.length = l'.length + 1 := by rw [hp1.length_eq, List.length_cons]
   have hsz0 : (bs f.bytes).size = f.bytes.length := rfl
   have ht2 : t + f.bytes.length ≤ 10000000 := by have := HL.out.2; omega
   have HX := Lib.hid (And.intro hfb hlen)
   clear hp hp1 e1 hfb hlen
   go_wp2_with fail
   go_roundg l'.length
   case measure => have := HX.out.2; have := HL.out.1; omega
   case rel =>
    refine ⟨l', t + f.bytes.length, rfl, by go_num, by have := HX.out.1; have := HL.out.2; omega, ?_, ?_, ?_⟩
    ·exact (hr2.alloc _).perm hp2
    ·exact (hf.trans hf2 fun i hi => .inr (by rw [hi]; exact Nat.le_refl _)).alloc _
    ·simp; omega

theorem nth_h {S : Nat → Prop} {a : Value} {l : List Int} (ha : IR w S a l) (hl : l.length < 1000000) (k : Nat) : Calls Tryz.prog 71 #[a, .int .i64 k] w fun e w' => e = .returned (.int .i64 (nthD l k)) ∧ w = w' := by
 obtain ⟨a, cap, rfl, hc1, hc2⟩ := ha.form
 by_cases hk : k < l.length
 ·obtain ⟨g, off, rfl, hc⟩ := ha.cells (by omega)
  obtain ⟨p, hp⟩ : ∃ p, l[k]? = some p := ⟨_, List.getElem?_eq_getElem hk⟩
  have c1 := hc k p hp
  have HE := Lib.hid (show nthD l k = p by unfold nthD; rw [List.getD_eq_getElem?_getD, hp]; rfl)
  clear hc hp
  go_enter Tryz.func71, Tryz.ntmps71
  go_wp2_with fail
  go_ret
  exact ⟨by rw [HE.out]; rfl, rfl⟩
 ·have HE := Lib.hid (show nthD l k = 0 by unfold nthD; rw [List.getD_eq_getElem?_getD, List.getElem?_eq_none (by omega)]; rfl)
  go_enter Tryz.func71, Tryz.ntmps71
  go_wp2_with fail
  go_ret
  exact ⟨by rw [HE.out]; rfl, rfl⟩

theorem read_h (hD : DiskAt w pb mb D) (n : List UInt8) : Calls Tryz.prog 72 #[.pointer (some ⟨pb, 0, none⟩), .string (bs n)] w fun e w' => e = .returned (.tuple #[.string (bs (readD D n).1), .int .i64 (readD D n).2]) ∧ Fr (fun _ => False) w w' := by
 cases hd : D.dead with
 | true =>
  have HE := Lib.hid (show readD D n = ([], 7) by unfold readD; rw [if_pos hd])
  have HF := Lib.hid (find_dead (n := n) hD hd)
  clear hd
  go_enter Tryz.func72, Tryz.ntmps72
  go_wp2_with fail
  refine Calls.mono HF.out ?_
  rintro e w1 ⟨rfl, hf⟩
  go_wp2_with fail
  go_ret2
  exact ⟨by rw [HE.out]; rfl, hf.alloc _⟩
 | false =>
  cases hg : getF D.files n with
  | none =>
   have HE := Lib.hid (show readD D n = ([], 4) by unfold readD; rw [if_neg (by rw [hd]; simp), hg])
   have HF := Lib.hid (find_none (n := n) hD hd hg)
   clear hd hg
   go_enter Tryz.func72, Tryz.ntmps72
   go_wp2_with fail
   refine Calls.mono HF.out ?_
   rintro e w1 ⟨rfl, hf⟩
   go_wp2_with fail
   go_ret2
   exact ⟨by rw [HE.out]; rfl, hf.alloc _⟩
  | some f =>
   have HE := Lib.hid (show readD D n = (f.bytes, 0) by unfold readD; rw [if_neg (by rw [hd]; simp), hg])
   have HF := Lib.hid (find_some (n := n) hD hd hg)
   clear hd hg
   go_enter Tryz.func72, Tryz.ntmps72
   go_wp2_with fail
   refine Calls.mono HF.out ?_
   rintro e w1 ⟨rfl, hf⟩
   unfold valF
   go_wp2_with fail
   go_ret2
   exact ⟨by rw [HE.out]; rfl, hf.alloc _⟩
end
end Go.Proofs.YtgmghopcppniaaaGreatDoor

/- The functions that the changes hand to 'does'. -/
namespace Go.Proofs.YtgmghopcppniaaaGreatDoor
open Go.RowKit Go.Lib

theorem bs_take (l : List UInt8) (k : Nat) : (bs l).extract 0 k = bs (l.take k) := by
 rw [extract_eq]; rfl
section
variable {w w' : World} {pb mb A B C : Nat} {D : DiskD} {n x tow : List UInt8} {f g : FileD}

theorem map_old (hD : DiskAt w pb mb D) (hg : getF D.files n = some g) : MapOf w .string mb ((.string (bs n), valF g) :: (delF D.files n).map entF) := by
 have := hD.map.perm ((get_perm hD.inv.sorted hg).map entF)
 have e := (get_mem hg).2
 subst e
 exact this
theorem map_put (hs : Sorted D.files) (hm : MapOf w .string mb ((.string (bs f.name), valF f) :: (delF D.files f.name).map entF)) : MapOf w .string mb ((putF D.files f).map entF) :=
 hm.perm ((put_perm hs f).symm.map entF)

theorem own_of {W w1 : World} (h0 : Fr (fun _ => False) w W) (h1 : Fr (fun i => i = mb) W w1) : Fr (Own pb mb) w w1 :=
 (h0.mono fun _ _ h => h.elim).trans h1 fun _ hi => .inl (.inr hi)

theorem fine_h (a b : Value) : Calls Tryz.prog 124 #[.agg #[a, b]] w fun e w' => e = .returned (.int .i64 0) ∧ Fr (fun _ => False) w w' := by
 go_enter Tryz.func124, Tryz.ntmps124
 go_wp2_with fail
 go_ret
 exact ⟨rfl, (Fr.refl _ _).alloc _⟩

set_option maxRecDepth 100000 in
set_option maxHeartbeats 1000000 in
theorem sync1_h (hD : DiskAt w pb mb D) (cA : w.cell? ⟨A, 0, none⟩ = some (.pointer (some ⟨pb, 0, none⟩))) (cB : w.cell? ⟨B, 0, none⟩ = some (.string (bs n))) (hg : getF D.files n = some f) (hi : InvD (setF D (putF D.files ⟨n, f.bytes, f.bytes.length⟩))) :
  Calls Tryz.prog 156 #[.agg #[.string (bs f.bytes), .int .i64 f.synced], .pointer (some ⟨A, 0, none⟩), .pointer (some ⟨B, 0, none⟩)] w fun e w' => e = .returned (.tuple #[]) ∧ DiskAt w' pb mb (setF D (putF D.files ⟨n, f.bytes, f.bytes.length⟩)) ∧ Fr (Own pb mb) w w' := by
 have hF0 : Fr (fun _ => False) w (w.alloc (.cells #[.string (bs f.bytes), .int .i64 f.synced] 127)) := (Fr.refl _ _).alloc _
 have hD0 := hD.grow hF0
 have cA0 := hF0.cell cA (fun h => h)
 have cB0 := hF0.cell cB (fun h => h)
 have c0 := hD0.cells.1
 have cf0 : (w.alloc (.cells #[.string (bs f.bytes), .int .i64 f.synced] 127)).cell? ⟨w.heap.size, 0, none⟩ = some (.string (bs f.bytes)) := cell_of (block_new _ _) rfl
 have hm := map_old hD0 hg
 have hsz : (bs f.bytes).size = f.bytes.length := rfl
 have HI := Lib.hid (And.intro hi (And.intro hF0 (And.intro hD0 hD.ne)))
 have HG := Lib.hid hg
 clear hD hi cA cB hD0 hF0 hg
 go_enter Tryz.func156, Tryz.ntmps156
 go_wp2_with fail
 generalize w.alloc (.cells #[.string (bs f.bytes), .int .i64 f.synced] 127) = W at *
 go_still_tail 11, (by kernel_rfl)
 go_wp2_with (at_mapUpdate; go_must (refine wpList_map_set (val := .agg #[.string (bs f.bytes), .int .i64 f.bytes.length]) rfl _ _ _ 121 rfl 9 127 Tryz.underlying121 Tryz.underlying9 rfl rfl rfl (hm.keep (w' := W.drewN 1) rfl) ?_; intro w1 hm1 hf1))
 go_end0
 have hF1 : Fr (fun i => i = mb) W w1 := hf1.of_start
 refine ⟨rfl, ⟨hF1.keep HI.out.2.2.1.head HI.out.2.2.2, map_put HI.out.2.2.1.inv.sorted hm1, HI.out.1⟩, own_of HI.out.2.1 hF1⟩

/-! ### Truncate -/
def checkT (f : FileD) (k : Int) : Int := if k < 0 ∨ (f.bytes.length : Int) < k then 2 else 0
theorem trunc1_h {k : Int} (cA : w.cell? ⟨A, 0, none⟩ = some (.int .i64 k)) (f : FileD) : Calls Tryz.prog 183 #[.agg #[.string (bs f.bytes), .int .i64 f.synced], .pointer (some ⟨A, 0, none⟩)] w fun e w' => e = .returned (.int .i64 (checkT f k)) ∧ Fr (fun _ => False) w w' := by
 have hF0 : Fr (fun _ => False) w (w.alloc (.cells #[.string (bs f.bytes), .int .i64 f.synced] 127)) := (Fr.refl _ _).alloc _
 have cA0 := hF0.cell cA (fun h => h)
 have hsz : (bs f.bytes).size = f.bytes.length := rfl
 clear cA
 by_cases h1 : k < 0
 ·have d1 : decide (k < 0) = true := by simpa using h1
  have HE := Lib.hid (show checkT f k = 2 from if_pos (.inl h1))
  clear h1
  go_enter Tryz.func183, Tryz.ntmps183
  go_wp2_with fail
  go_ret
  exact ⟨by rw [HE.out]; rfl, hF0⟩
 ·have d1 : decide (k < 0) = false := by simpa using h1
  by_cases h2 : (f.bytes.length : Int) < k
  ·have d2 : decide ((f.bytes.length : Int) < k) = true := by simpa using h2
   have HE := Lib.hid (show checkT f k = 2 from if_pos (.inr h2))
   clear h1 h2
   go_enter Tryz.func183, Tryz.ntmps183
   go_wp2_with fail
   go_ret
   exact ⟨by rw [HE.out]; rfl, hF0⟩
  ·have d2 : decide ((f.bytes.length : Int) < k) = false := by simpa using h2
   have HE := Lib.hid (show checkT f k = 0 from if_neg (by omega))
   clear h1 h2
   go_enter Tryz.func183, Tryz.ntmps183
   go_wp2_with fail
   go_ret
   exact ⟨by rw [HE.out]; rfl, hF0⟩
set_option maxRecDepth 100000 in
set_option maxHeartbeats 1000000 in
theorem trunc2_h {k : Nat} (hk : k ≤ f.bytes.length) (_hb : f.bytes.length ≤ 10000000) (cK : w.cell? ⟨C, 0, none⟩ = some (.int .i64 k)) (hD : DiskAt w pb mb D) (cA : w.cell? ⟨A, 0, none⟩ = some (.pointer (some ⟨pb, 0, none⟩))) (cB : w.cell? ⟨B, 0, none⟩ = some (.string (bs n))) (hg : getF D.files n = some f) (hi : InvD (setF D (putF D.files ⟨n, f.bytes.take k, min f.synced k⟩))) :
  Calls Tryz.prog 184 #[.agg #[.string (bs f.bytes), .int .i64 f.synced], .pointer (some ⟨C, 0, none⟩), .pointer (some ⟨A, 0, none⟩), .pointer (some ⟨B, 0, none⟩)] w fun e w' => e = .returned (.tuple #[]) ∧ DiskAt w' pb mb (setF D (putF D.files ⟨n, f.bytes.take k, min f.synced k⟩)) ∧ Fr (Own pb mb) w w' := by
 have hF0 : Fr (fun _ => False) w (w.alloc (.cells #[.string (bs f.bytes), .int .i64 f.synced] 127)) := (Fr.refl _ _).alloc _
 have hD0 := hD.grow hF0
 have cA0 := hF0.cell cA (fun h => h)
 have cK0 := hF0.cell cK (fun h => h)
 have cB0 := hF0.cell cB (fun h => h)
 have c0 := hD0.cells.1
 have cf1 : (w.alloc (.cells #[.string (bs f.bytes), .int .i64 f.synced] 127)).cell? ⟨w.heap.size, 1, none⟩ = some (.int .i64 f.synced) := cell_of (block_new _ _) rfl
 have cf0 : (w.alloc (.cells #[.string (bs f.bytes), .int .i64 f.synced] 127)).cell? ⟨w.heap.size, 0, none⟩ = some (.string (bs f.bytes)) := cell_of (block_new _ _) rfl
 have hm := map_old hD0 hg
 have hext : (bs f.bytes).extract 0 k = bs (f.bytes.take k) := bs_take _ _
 have hsz : (bs f.bytes).size = f.bytes.length := rfl
 have HI := Lib.hid (And.intro hi (And.intro hF0 (And.intro hD0 hD.ne)))
 have HG := Lib.hid hg
 clear hD hi cA cB cK hD0 hF0 hg
 by_cases hm2 : k < f.synced
 ·have hmin : min f.synced k = k := by omega
  have hminI : min (f.synced : Int) (k : Int) = (k : Int) := by omega
  rw [hmin] at HI ⊢
  have hm3 : (k : Int) < (f.synced : Int) := by omega
  go_enter Tryz.func184, Tryz.ntmps184
  go_wp2_with fail
  generalize w.alloc (.cells #[.string (bs f.bytes), .int .i64 f.synced] 127) = W at *
  go_still_tail 14, (by kernel_rfl)
  go_wp2_with (at_mapUpdate; go_must (refine wpList_map_set (val := .agg #[.string (bs (f.bytes.take k)), .int .i64 k]) (by first | rfl | exact congrArg (fun z => Value.agg #[Value.string (bs (f.bytes.take k)), Value.int .i64 z]) hminI) _ _ _ 121 rfl 9 127 Tryz.underlying121 Tryz.underlying9 rfl rfl rfl (hm.keep (w' := W.drewN 1) rfl) ?_; intro w1 hm1 hf1))
  go_end0
  have hF1 : Fr (fun i => i = mb) W w1 := hf1.of_start
  refine ⟨rfl, ⟨hF1.keep HI.out.2.2.1.head HI.out.2.2.2, map_put HI.out.2.2.1.inv.sorted hm1, HI.out.1⟩, own_of HI.out.2.1 hF1⟩
 ·have hmin : min f.synced k = f.synced := by omega
  have hminI : min (f.synced : Int) (k : Int) = (f.synced : Int) := by omega
  rw [hmin] at HI ⊢
  have hm3 : (f.synced : Int) ≤ (k : Int) := by omega
  go_enter Tryz.func184, Tryz.ntmps184
  go_wp2_with fail
  generalize w.alloc (.cells #[.string (bs f.bytes), .int .i64 f.synced] 127) = W at *
  go_still_tail 14, (by kernel_rfl)
  go_wp2_with (at_mapUpdate; go_must (refine wpList_map_set (val := .agg #[.string (bs (f.bytes.take k)), .int .i64 f.synced]) (by first | rfl | exact congrArg (fun z => Value.agg #[Value.string (bs (f.bytes.take k)), Value.int .i64 z]) hminI) _ _ _ 121 rfl 9 127 Tryz.underlying121 Tryz.underlying9 rfl rfl rfl (hm.keep (w' := W.drewN 1) rfl) ?_; intro w1 hm1 hf1))
  go_end0
  have hF1 : Fr (fun i => i = mb) W w1 := hf1.of_start
  refine ⟨rfl, ⟨hF1.keep HI.out.2.2.1.head HI.out.2.2.2, map_put HI.out.2.2.1.inv.sorted hm1, HI.out.1⟩, own_of HI.out.2.1 hF1⟩

/-! ### Delete and Rename -/
set_option maxRecDepth 100000 in
set_option maxHeartbeats 1000000 in
theorem del1_h (hD : DiskAt w pb mb D) (cA : w.cell? ⟨A, 0, none⟩ = some (.pointer (some ⟨pb, 0, none⟩))) (cB : w.cell? ⟨B, 0, none⟩ = some (.string (bs n))) (hg : getF D.files n = some f) (hi : InvD (setF D (delF D.files n))) (a b : Value) :
  Calls Tryz.prog 125 #[.agg #[a, b], .pointer (some ⟨A, 0, none⟩), .pointer (some ⟨B, 0, none⟩)] w fun e w' => e = .returned (.tuple #[]) ∧ DiskAt w' pb mb (setF D (delF D.files n)) ∧ Fr (Own pb mb) w w' := by
 have hF0 : Fr (fun _ => False) w (w.alloc (.cells #[a, b] 127)) := (Fr.refl _ _).alloc _
 have hD0 := hD.grow hF0
 have cA0 := hF0.cell cA (fun h => h)
 have cB0 := hF0.cell cB (fun h => h)
 have c0 := hD0.cells.1
 have hm := map_old hD0 hg
 have HI := Lib.hid (And.intro hi (And.intro hF0 (And.intro hD0 hD.ne)))
 clear hD hi cA cB hD0 hF0 hg
 go_enter Tryz.func125, Tryz.ntmps125
 go_wp2_with fail
 generalize w.alloc (.cells #[a, b] 127) = W at *
 go_still_tail 5, (by kernel_rfl)
 go_wp2_with (at_delete; go_must (refine wpList_map_del rfl _ _ 121 9 rfl 127 Tryz.underlying121 Tryz.underlying9 rfl rfl (hm.keep (w' := W.drewN 1) rfl) ?_; intro w1 hm1 hf1))
 go_end0
 have hF1 : Fr (fun i => i = mb) W w1 := hf1.of_start
 exact ⟨rfl, ⟨hF1.keep HI.out.2.2.1.head HI.out.2.2.2, hm1, HI.out.1⟩, own_of HI.out.2.1 hF1⟩
end
end Go.Proofs.YtgmghopcppniaaaGreatDoor

/- The keys of the map of files, sorted: the shelf's contracts at this program (as the shelf's own program lays them). -/
namespace Go.Proofs
open Go.RowKit Go.Maps Go.Sort Go.Shelf
theorem Tryz.sorts40 (m : Nat) : AnyZ.SortsIn Tryz.prog Tryz.sorted40_ren Fence.wide m :=
 ⟨fun blk off cap ss W hH hblk hsz => callsIn_wide.2 (AnyM.slices_Sort_string Tryz.sort67 blk off cap ss W hH hblk hsz),
  fun p cap W => callsIn_wide.2 (AnyM.slices_Sort_string_none Tryz.sort67 p cap W)⟩

theorem Tryz.maps_Keys_41 (mb : Option Nat) (W : World) : CallsIn Fence.wide 5 Tryz.prog 111 #[.map mb] W fun e w' => e = .returned (.func (.func 149) #[] #[.pointer (some ⟨W.heap.size, 0, none⟩)]) ∧ w' = W.alloc (.cells #[.map mb] 121) :=
 AnyZ.keys_in Tryz.keys41 Fence.wide 5 trivial rfl mb W

set_option maxHeartbeats 1000000 in
theorem Tryz.slices_Sorted_keys_40_41 {H : Type} (b nn : Nat) (D0 : DataW H) (R : Value → Option (DataW H × List MemPlace)) (w : World) (hown : w.ownsMap Tryz.prog 9 R b nn D0) (hmax : Maps.size D0 ≤ maxLen) (hbytes : Maps.size D0 * 16 ≤ 140737488355328) :
  CallsIn Fence.wide 5 Tryz.prog 110 #[.func (.func 149) #[] #[.pointer (some ⟨w.heap.size, 0, none⟩)]] (w.alloc (.cells #[.map (some b)] 121)) fun e w' => ∃ (v : Value) (ss : List (List UInt8)), e = .returned v ∧ ss.Perm (strKeys D0) ∧
   w'.ownsRow (w.alloc (.cells #[.map (some b)] 121)).heap.size 9 1 v ss.length ((ss.mergeSort (fun x y => decide (x ≤ y))).map encStr) ∧ (v = .slice none 0 0 ↔ ss = []) ∧ Below (w.alloc (.cells #[.map (some b)] 121)).heap.size (w.alloc (.cells #[.map (some b)] 121)) w' := by
 have hbl := hown.lt
 have hseq : SeqGives Fence.wide 2 Tryz.prog 149 #[.pointer (some ⟨w.heap.size, 0, none⟩)] encStr (fun ss => ss.Perm (strKeys D0)) (Maps.size D0) (w.alloc (.cells #[.map (some b)] 121)) :=
  AnyZ.keys_gives (ρ := Tryz.keys41_ren) { Tryz.keys41 with } Fence.wide _ trivial rfl (by omega) w.heap.size b nn D0 _ (by simp) (by simp) (by
   obtain ⟨es, clock, hb, Ft, hs, hD⟩ := hown
   exact ⟨es, clock, (Below.heap_alloc _ _ b hbl).trans hb, Ft, hs, hD⟩)
 exact AnyZ.sorted_in Tryz.sorted40 Fence.wide 5 trivial trivial trivial trivial rfl (by omega) (Tryz.sorts40 _) (enters_of Tryz.func148 (by kernel_rfl) rfl) 149 #[.pointer (some ⟨w.heap.size, 0, none⟩)] trivial (enters_of Tryz.func149 (by kernel_rfl) rfl) _ _ hmax hbytes _ hseq

set_option maxHeartbeats 1000000 in
theorem Tryz.slices_Sorted_keys_nil_40_41 (w : World) :
  CallsIn Fence.wide 5 Tryz.prog 110 #[.func (.func 149) #[] #[.pointer (some ⟨w.heap.size, 0, none⟩)]] (w.alloc (.cells #[.map none] 121)) fun e w' => ∃ (v : Value) (ss : List (List UInt8)), e = .returned v ∧ ss = [] ∧
   w'.ownsRow (w.alloc (.cells #[.map none] 121)).heap.size 9 1 v ss.length ((ss.mergeSort (fun x y => decide (x ≤ y))).map encStr) ∧ (v = .slice none 0 0 ↔ ss = []) ∧ Below (w.alloc (.cells #[.map none] 121)).heap.size (w.alloc (.cells #[.map none] 121)) w' := by
 have hseq : SeqGives Fence.wide 2 Tryz.prog 149 #[.pointer (some ⟨w.heap.size, 0, none⟩)] encStr (fun ss : List (List UInt8) => ss = []) 0 (w.alloc (.cells #[.map none] 121)) :=
  AnyZ.keys_gives_nil (ρ := Tryz.keys41_ren) { Tryz.keys41 with } Fence.wide _ trivial rfl w.heap.size _ (by simp) (by simp)
 exact AnyZ.sorted_in Tryz.sorted40 Fence.wide 5 trivial trivial trivial trivial rfl (by omega) (Tryz.sorts40 _) (enters_of Tryz.func148 (by kernel_rfl) rfl) 149 #[.pointer (some ⟨w.heap.size, 0, none⟩)] trivial (enters_of Tryz.func149 (by kernel_rfl) rfl) _ 0 (Nat.zero_le _) (by omega) _ hseq

end Go.Proofs

/- Name. -/
namespace Go.Proofs.YtgmghopcppniaaaGreatDoor
open Go.RowKit Go.Lib Go.Shelf

def cutset : List UInt8 := [97, 98, 99, 100, 101, 102, 103, 104, 105, 106, 107, 108, 109, 110, 111, 112, 113, 114, 115, 116, 117, 118, 119, 120, 121, 122, 48, 49, 50, 51, 52, 53, 54, 55, 56, 57]
theorem cut_ok (b : UInt8) : cutset.contains b = okByte b := by
 have : ∀ k : Fin 256, cutset.contains (UInt8.ofNat k.val) = okByte (UInt8.ofNat k.val) := by decide +kernel
 have h := this ⟨b.toNat, b.toNat_lt⟩
 simpa using h
theorem dropWhile_nil {p : UInt8 → Bool} : ∀ {l : List UInt8}, l.dropWhile p = [] ↔ l.all p = true
 | [] => by simp
 | x :: l => by
  rw [List.dropWhile_cons, List.all_cons]
  cases h : p x with
  | true => simp only [if_true, Bool.true_and]; exact dropWhile_nil
  | false => simp
theorem trim_nil (n : List UInt8) : Lib.trimS n cutset = [] ↔ n.all okByte = true := by
 have e : (fun b => cutset.contains b) = okByte := funext cut_ok
 unfold Lib.trimS Lib.trimRightS Lib.trimLeftS
 simp only [e]
 constructor
 ·intro h
  have h1 : (n.reverse.dropWhile okByte).reverse.dropWhile okByte = [] := h
  rw [dropWhile_nil, List.all_reverse] at h1
  cases hd : n.reverse.dropWhile okByte with
  | nil => have := dropWhile_nil.1 hd; rwa [List.all_reverse] at this
  | cons y t =>
   have h2 := List.head?_dropWhile_not okByte n.reverse
   rw [hd] at h1 h2
   simp at h1 h2
   rw [h1.1] at h2; cases h2
 ·intro h
  have h' : n.reverse.all okByte = true := by rw [List.all_reverse]; exact h
  rw [dropWhile_nil.2 h']
  rfl

section
variable {w w' : World} {n : List UInt8}
set_option maxHeartbeats 1000000 in
theorem name_h (hn : n.length ≤ 1000000) : Calls Tryz.prog 75 #[.string (bs n)] w fun e w' => e = .returned (.bool (nameOK n)) ∧ Fr (fun _ => False) w w' := by
 have hL := bs_toList n
 have hsz : (bs n).size = n.length := rfl
 by_cases h0 : n.length = 0
 ·obtain rfl : n = [] := List.length_eq_zero_iff.1 h0
  have HE := Lib.hid (show nameOK [] = false by decide)
  clear h0 hsz
  go_enter Tryz.func75, Tryz.ntmps75
  go_wp2_with fail
  go_ret
  exact ⟨by rw [HE.out]; rfl, Fr.refl _ _⟩
 ·have d0 : n.isEmpty = false := by cases n with | nil => exact absurd rfl h0 | cons _ _ => rfl
  by_cases h1 : 24 < n.length
  ·have d1 : decide ((n.length : Int) ≤ 24) = false := by rw [decide_eq_false_iff_not]; omega
   have HE := Lib.hid (show nameOK n = false by unfold nameOK; rw [decide_eq_false (p := n.length ≤ 24) (by omega)]; simp)
   clear h0 h1
   go_enter Tryz.func75, Tryz.ntmps75
   go_wp2_with fail
   go_ret
   exact ⟨by rw [HE.out]; rfl, Fr.refl _ _⟩
  ·have d1 : decide ((n.length : Int) ≤ 24) = true := by rw [decide_eq_true_iff]; omega
   have ht := Any.strings_Trim_laid Tryz.lays160 (by kernel_rfl) (bs n) (bs cutset) w (by rw [hsz]; omega) (by decide) (ascii_of_all (by decide))
   change Calls Tryz.prog 132 #[.string (bs n), .string ⟨#[97, 98, 99, 100, 101, 102, 103, 104, 105, 106, 107, 108, 109, 110, 111, 112, 113, 114, 115, 116, 117, 118, 119, 120, 121, 122, 48, 49, 50, 51, 52, 53, 54, 55, 56, 57]⟩] w (fun e w' => e = .returned (.string (bs (Lib.trimS n cutset))) ∧ Below w.heap.size w w') at ht
   have hT := bs_toList (Lib.trimS n cutset)
   have HT := Lib.hid ht
   clear ht
   have hok : nameOK n = n.all okByte := by unfold nameOK; rw [decide_eq_true (p := 1 ≤ n.length) (by omega), decide_eq_true (p := n.length ≤ 24) (by omega)]; rfl
   have htn := trim_nil n
   cases hall : n.all okByte with
   | true =>
    have d2 : (Lib.trimS n cutset).isEmpty = true := by rw [htn.2 hall]; rfl
    have HE := Lib.hid (hok.trans hall)
    clear hok htn hall h0 h1
    generalize Lib.trimS n cutset = t at *
    go_enter Tryz.func75, Tryz.ntmps75
    go_wp2_with fail
    refine Calls.mono HT.out ?_
    rintro e w1 ⟨rfl, hb⟩
    have HB := Lib.hid hb
    clear hb
    go_wp2_with fail
    go_ret
    exact ⟨by rw [HE.out]; rfl, (Fr.of_below HB.out).mono fun i hi h => by omega⟩
   | false =>
    have d2 : (Lib.trimS n cutset).isEmpty = false := by
     cases ht2 : Lib.trimS n cutset with
     | nil => rw [htn.1 ht2] at hall; cases hall
     | cons _ _ => rfl
    have HE := Lib.hid (hok.trans hall)
    clear hok htn hall h0 h1
    generalize Lib.trimS n cutset = t at *
    go_enter Tryz.func75, Tryz.ntmps75
    go_wp2_with fail
    refine Calls.mono HT.out ?_
    rintro e w1 ⟨rfl, hb⟩
    have HB := Lib.hid hb
    clear hb
    go_wp2_with fail
    go_ret
    exact ⟨by rw [HE.out]; rfl, (Fr.of_below HB.out).mono fun i hi h => by omega⟩
end
end Go.Proofs.YtgmghopcppniaaaGreatDoor

/- List. -/
namespace Go.Proofs.YtgmghopcppniaaaGreatDoor
open Go.RowKit Go.Lib Go.Shelf
open Go.WideElems (Fit rd rg rd_key rg_of rd_mk)

def names (l : List FileD) : List (List UInt8) := l.map (·.name)
/-- whatever the elements are, they read as something -/
def anyR (_ : Value) : Option (DataW Unit × List MemPlace) := some (.nil, [])

theorem strs_ext : ∀ {a b : List (List UInt8)}, a.Pairwise (· < ·) → b.Pairwise (· < ·) → (∀ x, x ∈ a ↔ x ∈ b) → a = b
 | [], [], _, _, _ => rfl
 | [], y :: b, _, _, h => absurd ((h y).2 (List.mem_cons_self ..)) (by simp)
 | x :: a, [], _, _, h => absurd ((h x).1 (List.mem_cons_self ..)) (by simp)
 | x :: a, y :: b, ha, hb, h => by
  rw [List.pairwise_cons] at ha hb
  have hxy : x = y := by
   have h1 := (h x).1 (List.mem_cons_self ..)
   have h2 := (h y).2 (List.mem_cons_self ..)
   rcases List.mem_cons.1 h1 with e | h1
   ·exact e
   ·rcases List.mem_cons.1 h2 with e | h2
    ·exact e.symm
    ·exact absurd (str_lt_trans (ha.1 _ h2) (hb.1 _ h1)) str_lt_irrefl
  subst hxy
  congr 1
  refine strs_ext ha.2 hb.2 fun z => ?_
  constructor
  ·intro hz
   rcases List.mem_cons.1 ((h z).1 (List.mem_cons_of_mem _ hz)) with e | h2
   ·exact absurd (ha.1 _ hz) (by rw [e]; exact str_lt_irrefl)
   ·exact h2
  ·intro hz
   rcases List.mem_cons.1 ((h z).2 (List.mem_cons_of_mem _ hz)) with e | h2
   ·exact absurd (hb.1 _ hz) (by rw [e]; exact str_lt_irrefl)
   ·exact h2
theorem sort_names {l : List FileD} (hs : Sorted l) {ss : List (List UInt8)} (hp : ss.Perm (names l)) : ss.mergeSort (fun x y => decide (x ≤ y)) = names l := by
 have hn : (names l).Pairwise (· < ·) := List.pairwise_map.2 hs
 have hp2 : (ss.mergeSort (fun x y => decide (x ≤ y))).Perm (names l) := (List.mergeSort_perm _ _).trans hp
 have hle : (ss.mergeSort (fun x y => decide (x ≤ y))).Pairwise fun x y => decide (x ≤ y) = true :=
  List.pairwise_mergeSort (fun a b c h1 h2 => by simp at h1 h2 ⊢; exact List.le_trans h1 h2) (fun a b => by simp; exact List.le_total a b) ss
 have hnd : (ss.mergeSort (fun x y => decide (x ≤ y))).Nodup := hp2.nodup_iff.2 (hn.imp fun h => str_lt_ne h)
 refine strs_ext ?_ hn fun x => hp2.mem_iff
 refine (hle.and hnd).imp fun {a b} ⟨h1, h2⟩ => ?_
 simp at h1
 by_cases h3 : a < b
 ·exact h3
 ·exact absurd (List.le_antisymm h1 (List.not_lt.1 h3)) h2

section
variable {w w' : World} {pb mb : Nat} {D : DiskD}
theorem keyOf_str (s : ByteArray) (h : s.size ≤ maxLen) : keyOf Tryz.prog 9 (.string s) = some (.string s.data.toList) := by
 simp [keyOf, mapKey, Tryz.underlying9, h]
theorem name_len (h : InvD D) {f : FileD} (hf : f ∈ D.files) : f.name.length ≤ 24 := by
 have := h.names f hf
 unfold nameOK at this
 simp at this
 exact this.1.2
theorem disk_owns (hD : DiskAt w pb mb D) : ∃ D0 : DataW Unit, w.ownsMap Tryz.prog 9 anyR mb 40 D0 ∧ Maps.size D0 ≤ 40 ∧ (strKeys D0).Perm (names D.files) := by
 obtain ⟨es, c, h1, h2, h3, h4⟩ := hD.map
 have hlen : es.size = D.files.length := by simpa using h4.length_eq
 have hmany := hD.inv.many
 have hkey : ∀ x ∈ es.toList, ∃ f ∈ D.files, x.key = .string (bs f.name) := fun x hx => by
  obtain ⟨f, hf, e⟩ := List.mem_map.1 (h4.mem_iff.1 (List.mem_map.2 ⟨x, hx, rfl⟩))
  exact ⟨f, hf, (Prod.mk.inj e).1.symm⟩
 have hrd : ∀ x ∈ es.toList, ∀ f, x.key = .string (bs f.name) → f ∈ D.files → rd Tryz.prog 9 anyR x = some (.string f.name, .nil) := fun x _ f e hf => by
  have hl := name_len hD.inv hf
  have := keyOf_str (bs f.name) (by unfold maxLen; show f.name.length ≤ _; omega)
  unfold rd
  rw [e, this]
  rfl
 refine ⟨_, ⟨es, c, h1, ⟨by unfold maxLen; omega, h2, fun x hx => ?_⟩, by omega, rfl⟩, ?_, ?_⟩
 ·obtain ⟨f, hf, e⟩ := hkey x hx
  exact ⟨_, hrd x hx f e hf⟩
 ·simp only [Maps.size, length_sorted, List.length_map]
  simp
  omega
 ·refine ((Go.WideShapes.sorted_perm _).map _).trans ?_
  rw [List.map_map]
  have e1 : es.toList.map ((fun p => strOf p.1) ∘ rg Tryz.prog 9 anyR) = (es.toList.map fun x => (x.key, x.val)).map fun p => (match p.1 with | .string s => s.data.toList | _ => []) := by
   rw [List.map_map]
   refine List.map_congr_left fun x hx => ?_
   obtain ⟨f, hf, e⟩ := hkey x hx
   have := rg_of (hrd x hx f e hf)
   simp only [Function.comp, this, e]
   rfl
  rw [e1]
  refine (h4.map _).trans ?_
  rw [List.map_map]
  exact .of_eq (List.map_congr_left fun f _ => rfl)

def encS (l : List UInt8) : Value := .string (bs l)
theorem encS_eq : (encStr : List UInt8 → Value) = encS := rfl
def ListPost (l : List (List UInt8)) (w : World) (e : Ending) (w' : World) : Prop := ∃ v, e = .returned v ∧ w'.ownsRow w.heap.size 9 1 v l.length (l.map encS) ∧ Fr (fun _ => False) w w'
theorem list_h (hD : DiskAt w pb mb D) : Calls Tryz.prog 56 #[.pointer (some ⟨pb, 0, none⟩)] w (ListPost (names D.files) w) := by
 obtain ⟨D0, hown, hsz, hp⟩ := disk_owns hD
 have h1 := callsIn_wide.1 (Tryz.maps_Keys_41 (some mb) w)
 have h2 := callsIn_wide.1 (Tryz.slices_Sorted_keys_40_41 mb 40 D0 anyR w hown (by unfold maxLen; omega) (by omega))
 have hs := hD.inv.sorted
 obtain ⟨c0, c1, c2, c3⟩ := hD.cells
 have HP := Lib.hid (And.intro hs hp)
 have H1 := Lib.hid h1
 have H2 := Lib.hid h2
 clear hs hp h1 h2 hown hsz hD
 go_enter Tryz.func56, Tryz.ntmps56
 go_wp2_with fail
 refine Calls.mono H1.out ?_
 rintro e w' ⟨rfl, rfl⟩
 go_wp2_with fail
 refine Calls.mono H2.out ?_
 rintro e w2 ⟨v, ss, rfl, hS, hrow, -, hb⟩
 have e1 := sort_names HP.out.1 (hS.trans HP.out.2)
 have hl : ss.length = (names D.files).length := (hS.trans HP.out.2).length_eq
 rw [e1, hl, encS_eq] at hrow
 have HR := Lib.hid (And.intro hrow hb)
 clear hrow hb e1 hl hS H1 H2
 go_wp2_with fail
 go_ret
 exact ⟨v, rfl, ownsRow_base HR.out.1 (by simp), ((Fr.refl (fun _ => False) w).alloc _).trans (Fr.of_below HR.out.2) fun i hi => .inr (by simp at hi; omega)⟩
end
end Go.Proofs.YtgmghopcppniaaaGreatDoor

/- The functions that Rename hands to 'does'. -/
namespace Go.Proofs.YtgmghopcppniaaaGreatDoor
open Go.RowKit Go.Lib

section
variable {w w' : World} {pb mb A B C : Nat} {D : DiskD} {n x tow : List UInt8} {f g : FileD}
def checkN (tow : List UInt8) : Int := if nameOK tow = false then 3 else 0
end
end Go.Proofs.YtgmghopcppniaaaGreatDoor

/- 'does' with what Sync, Truncate, Rename and Delete hand to it. -/
namespace Go.Proofs.YtgmghopcppniaaaGreatDoor
open Go.RowKit Go.Lib

section
variable {w w' : World} {pb mb A B C : Nat} {D : DiskD} {n x : List UInt8} {f g : FileD}
theorem Does.same {p : Int × DiskD} {e : Ending} (hD : DiskAt w pb mb D) (hf : Fr (fun _ => False) w w') (hp : p = (p.1, D)) (he : e = .returned (.int .i64 p.1)) : Does pb mb p w e w' := by
 refine ⟨he, ?_, hf.mono fun _ _ h => h.elim⟩
 rw [hp]; exact hD.grow hf
theorem turned_get (h : getF D.files n = some f) : getF (turnD D).2.files n = some f := by rw [turn_files.1]; exact h

set_option maxRecDepth 100000 in
set_option maxHeartbeats 2000000 in
theorem does_sync (hD : DiskAt w pb mb D) (cA : w.cell? ⟨A, 0, none⟩ = some (.pointer (some ⟨pb, 0, none⟩))) (cB : w.cell? ⟨B, 0, none⟩ = some (.string (bs n))) (hA : ¬ Own pb mb A) (hB : ¬ Own pb mb B) :
  Calls Tryz.prog 123 #[.pointer (some ⟨pb, 0, none⟩), .string (bs n), .func (.func 124) #[] #[], .func (.func 156) #[] #[.pointer (some ⟨A, 0, none⟩), .pointer (some ⟨B, 0, none⟩)]] w (Does pb mb (syncD D n) w) := by
 cases hd : D.dead with
 | true =>
  have HE := Lib.hid (show syncD D n = (7, D) by unfold syncD; rw [if_pos hd])
  have HF := Lib.hid (find_dead (n := n) hD hd)
  clear hd
  go_enter Tryz.func123, Tryz.ntmps123
  go_wp2_with fail
  refine Calls.mono HF.out ?_
  rintro e w1 ⟨rfl, hf⟩
  go_wp2_with fail
  go_ret
  rw [HE.out]; exact Does.same hD (hf.alloc _) rfl rfl
 | false =>
  cases hg : getF D.files n with
  | none =>
   have HE := Lib.hid (show syncD D n = (4, D) by unfold syncD; rw [if_neg (by rw [hd]; simp), hg])
   have HF := Lib.hid (find_none (n := n) hD hd hg)
   clear hd hg
   go_enter Tryz.func123, Tryz.ntmps123
   go_wp2_with fail
   refine Calls.mono HF.out ?_
   rintro e w1 ⟨rfl, hf⟩
   go_wp2_with fail
   go_ret
   rw [HE.out]; exact Does.same hD (hf.alloc _) rfl rfl
  | some f =>
   have HF := Lib.hid (find_some (n := n) hD hd hg)
   have hpm : pb < w.heap.size ∧ mb < w.heap.size := ⟨lt_of_block hD.head, hD.map.lt⟩
   have heq : syncD D n = thenD D (putF D.files ⟨n, f.bytes, f.bytes.length⟩) := by unfold syncD; rw [if_neg (by rw [hd]; simp), hg]
   have hinv := hD.inv.sync n
   rw [heq] at hinv ⊢
   have hcap : w.heap.size ≤ w.heap.size := Nat.le_refl _
   by_cases hz : D.fuse = 0
   ·have ht : turnD D = (7, { D with dead := true }) := by unfold turnD; rw [if_pos hz]
    have HE := Lib.hid (show thenD D (putF D.files ⟨n, f.bytes, f.bytes.length⟩) = (7, { D with dead := true }) by unfold thenD; rw [ht]; rfl)
    have HT := Lib.hid ht
    clear hd hz ht heq
    go_enter Tryz.func123, Tryz.ntmps123
    go_wp2_with fail
    refine Calls.mono HF.out ?_
    rintro e w1 ⟨rfl, hf⟩
    unfold valF
    have HCH := Lib.hid (fine_h (w := w1.alloc (.cells #[.string (bs f.bytes), .int .i64 f.synced] 127)) (.string (bs f.bytes)) (.int .i64 f.synced))
    go_wp2_with fail
    refine Calls.mono HCH.out ?_
    rintro e w2 ⟨rfl, hf2⟩
    have hF2 : Fr (fun _ => False) w w2 := (hf.alloc _).next hf2
    have htn := turn_h (hD.grow hF2)
    rw [HT.out] at htn
    have HTN := Lib.hid htn
    clear htn
    go_wp2_with fail
    refine Calls.mono HTN.out ?_
    rintro e w3 ⟨rfl, hD3, hf3⟩
    go_wp2_with fail
    go_ret
    rw [HE.out]; exact ⟨rfl, hD3, (hF2.mono fun _ _ h => h.elim).next hf3⟩
   ·have ht : turnD D = (0, (turnD D).2) := by unfold turnD; rw [if_neg hz]
    have HE := Lib.hid (show thenD D (putF D.files ⟨n, f.bytes, f.bytes.length⟩) = (0, setF (turnD D).2 (putF D.files ⟨n, f.bytes, f.bytes.length⟩)) by unfold thenD; rw [ht]; rfl)
    have HT := Lib.hid ht
    have HI := Lib.hid (And.intro hinv hg)
    clear hd hz ht heq hinv hg
    go_enter Tryz.func123, Tryz.ntmps123
    go_wp2_with fail
    refine Calls.mono HF.out ?_
    rintro e w1 ⟨rfl, hf⟩
    unfold valF
    have HCH := Lib.hid (fine_h (w := w1.alloc (.cells #[.string (bs f.bytes), .int .i64 f.synced] 127)) (.string (bs f.bytes)) (.int .i64 f.synced))
    go_wp2_with fail
    refine Calls.mono HCH.out ?_
    rintro e w2 ⟨rfl, hf2⟩
    have hF2 : Fr (fun _ => False) w w2 := (hf.alloc _).next hf2
    have hb2 := hf2.keep (block_new w1 (.cells #[.string (bs f.bytes), .int .i64 f.synced] 127)) (fun h => h)
    have htn := turn_h (hD.grow hF2)
    rw [HT.out] at htn
    have HTN := Lib.hid htn
    clear htn
    go_wp2_with fail
    refine Calls.mono HTN.out ?_
    rintro e w3 ⟨rfl, hD3, hf3⟩
    have hnw : ¬ Own pb mb w1.heap.size := fun h => by have := hf.size; rcases h with h | h <;> omega
    have hb3 := hf3.keep hb2 hnw
    have cf0 := cell_of hb3 (i := 0) rfl
    have cf1 := cell_of hb3 (i := 1) rfl
    have hF3 : Fr (Own pb mb) w w3 := (hF2.mono fun _ _ h => h.elim).next hf3
    have cA3 := hF3.cell cA hA
    have cB3 := hF3.cell cB hB
    have hg3 := turned_get HI.out.2
    have hi3 : InvD (setF (turnD D).2 (putF (turnD D).2.files ⟨n, f.bytes, f.bytes.length⟩)) := by
     have := HI.out.1
     rw [HE.out] at this
     rw [turn_files.1]; exact this
    have hw := sync1_h (f := f) hD3 cA3 cB3 hg3 hi3
    rw [turn_files.1] at hw
    have HW := Lib.hid hw
    have HF3 := Lib.hid hF3
    clear hw hi3 hg3 hb3 hb2 hF3 hF2 hf hf2 hf3 hnw hpm hcap
    go_wp2_with fail
    refine Calls.mono HW.out ?_
    rintro e w4 ⟨rfl, hD4, hf4⟩
    go_wp2_with fail
    go_ret
    rw [HE.out]; exact ⟨rfl, hD4, HF3.out.next hf4⟩

set_option maxRecDepth 100000 in
set_option maxHeartbeats 2000000 in
theorem does_trunc (hD : DiskAt w pb mb D) {k : Int} (cK : w.cell? ⟨C, 0, none⟩ = some (.int .i64 k)) (hC : ¬ Own pb mb C) (cA : w.cell? ⟨A, 0, none⟩ = some (.pointer (some ⟨pb, 0, none⟩))) (cB : w.cell? ⟨B, 0, none⟩ = some (.string (bs n))) (hA : ¬ Own pb mb A) (hB : ¬ Own pb mb B) :
  Calls Tryz.prog 123 #[.pointer (some ⟨pb, 0, none⟩), .string (bs n), .func (.func 183) #[] #[.pointer (some ⟨C, 0, none⟩)], .func (.func 184) #[] #[.pointer (some ⟨C, 0, none⟩), .pointer (some ⟨A, 0, none⟩), .pointer (some ⟨B, 0, none⟩)]] w (Does pb mb (truncD D n k) w) := by
 cases hd : D.dead with
 | true =>
  have HE := Lib.hid (show truncD D n k = (7, D) by unfold truncD; rw [if_pos hd])
  have HF := Lib.hid (find_dead (n := n) hD hd)
  clear hd
  go_enter Tryz.func123, Tryz.ntmps123
  go_wp2_with fail
  refine Calls.mono HF.out ?_
  rintro e w1 ⟨rfl, hf⟩
  go_wp2_with fail
  go_ret
  rw [HE.out]; exact Does.same hD (hf.alloc _) rfl rfl
 | false =>
  cases hg : getF D.files n with
  | none =>
   have HE := Lib.hid (show truncD D n k = (4, D) by unfold truncD; rw [if_neg (by rw [hd]; simp), hg])
   have HF := Lib.hid (find_none (n := n) hD hd hg)
   clear hd hg
   go_enter Tryz.func123, Tryz.ntmps123
   go_wp2_with fail
   refine Calls.mono HF.out ?_
   rintro e w1 ⟨rfl, hf⟩
   go_wp2_with fail
   go_ret
   rw [HE.out]; exact Does.same hD (hf.alloc _) rfl rfl
  | some f =>
   have HF := Lib.hid (find_some (n := n) hD hd hg)
   have hpm : pb < w.heap.size ∧ mb < w.heap.size := ⟨lt_of_block hD.head, hD.map.lt⟩
   by_cases hk : k < 0 ∨ (f.bytes.length : Int) < k
   ·have HE := Lib.hid (show truncD D n k = (2, D) by unfold truncD; rw [if_neg (by rw [hd]; simp), hg]; dsimp only; rw [if_pos hk])
    have HC := Lib.hid (show checkT f k = 2 by unfold checkT; rw [if_pos hk])
    clear hd hg hk
    go_enter Tryz.func123, Tryz.ntmps123
    go_wp2_with fail
    refine Calls.mono HF.out ?_
    rintro e w1 ⟨rfl, hf⟩
    unfold valF
    have cX := (hf.alloc (.cells #[.string (bs f.bytes), .int .i64 f.synced] 127)).cell cK (fun h => h)
    have hch := (trunc1_h cX f)
    rw [HC.out] at hch
    have HCH := Lib.hid hch
    clear hch
    go_wp2_with fail
    refine Calls.mono HCH.out ?_
    rintro e w2 ⟨rfl, hf2⟩
    go_wp2_with fail
    go_ret
    rw [HE.out]; exact Does.same hD ((hf.alloc _).next hf2) rfl rfl
   ·have HC := Lib.hid (show checkT f k = 0 by unfold checkT; rw [if_neg hk])
    have heq : truncD D n k = thenD D (putF D.files ⟨n, f.bytes.take k.toNat, min f.synced k.toNat⟩) := by unfold truncD; rw [if_neg (by rw [hd]; simp), hg]; dsimp only; rw [if_neg hk]
    have HK := Lib.hid (show k.toNat ≤ f.bytes.length ∧ f.bytes.length ≤ 10000000 ∧ ((k.toNat : Nat) : Int) = k by
     have h1 := mem_total (get_mem hg).1
     have h2 := hD.inv.full
     have h3 := hD.inv.most
     omega)
    have hinv := hD.inv.trunc n k
    rw [heq] at hinv ⊢
    have hcap : w.heap.size ≤ w.heap.size := Nat.le_refl _
    by_cases hz : D.fuse = 0
    ·have ht : turnD D = (7, { D with dead := true }) := by unfold turnD; rw [if_pos hz]
     have HE := Lib.hid (show thenD D (putF D.files ⟨n, f.bytes.take k.toNat, min f.synced k.toNat⟩) = (7, { D with dead := true }) by unfold thenD; rw [ht]; rfl)
     have HT := Lib.hid ht
     clear hd hk hz ht heq
     go_enter Tryz.func123, Tryz.ntmps123
     go_wp2_with fail
     refine Calls.mono HF.out ?_
     rintro e w1 ⟨rfl, hf⟩
     unfold valF
     have cX := (hf.alloc (.cells #[.string (bs f.bytes), .int .i64 f.synced] 127)).cell cK (fun h => h)
     have hch := (trunc1_h cX f)
     rw [HC.out] at hch
     have HCH := Lib.hid hch
     clear hch cX
     go_wp2_with fail
     refine Calls.mono HCH.out ?_
     rintro e w2 ⟨rfl, hf2⟩
     have hF2 : Fr (fun _ => False) w w2 := (hf.alloc _).next hf2
     have htn := turn_h (hD.grow hF2)
     rw [HT.out] at htn
     have HTN := Lib.hid htn
     clear htn
     go_wp2_with fail
     refine Calls.mono HTN.out ?_
     rintro e w3 ⟨rfl, hD3, hf3⟩
     go_wp2_with fail
     go_ret
     rw [HE.out]; exact ⟨rfl, hD3, (hF2.mono fun _ _ h => h.elim).next hf3⟩
    ·have ht : turnD D = (0, (turnD D).2) := by unfold turnD; rw [if_neg hz]
     have HE := Lib.hid (show thenD D (putF D.files ⟨n, f.bytes.take k.toNat, min f.synced k.toNat⟩) = (0, setF (turnD D).2 (putF D.files ⟨n, f.bytes.take k.toNat, min f.synced k.toNat⟩)) by unfold thenD; rw [ht]; rfl)
     have HT := Lib.hid ht
     have HI := Lib.hid (And.intro hinv hg)
     clear hd hk hz ht heq hinv hg
     go_enter Tryz.func123, Tryz.ntmps123
     go_wp2_with fail
     refine Calls.mono HF.out ?_
     rintro e w1 ⟨rfl, hf⟩
     unfold valF
     have cX := (hf.alloc (.cells #[.string (bs f.bytes), .int .i64 f.synced] 127)).cell cK (fun h => h)
     have hch := (trunc1_h cX f)
     rw [HC.out] at hch
     have HCH := Lib.hid hch
     clear hch cX
     go_wp2_with fail
     refine Calls.mono HCH.out ?_
     rintro e w2 ⟨rfl, hf2⟩
     have hF2 : Fr (fun _ => False) w w2 := (hf.alloc _).next hf2
     have hb2 := hf2.keep (block_new w1 (.cells #[.string (bs f.bytes), .int .i64 f.synced] 127)) (fun h => h)
     have htn := turn_h (hD.grow hF2)
     rw [HT.out] at htn
     have HTN := Lib.hid htn
     clear htn
     go_wp2_with fail
     refine Calls.mono HTN.out ?_
     rintro e w3 ⟨rfl, hD3, hf3⟩
     have hnw : ¬ Own pb mb w1.heap.size := fun h => by have := hf.size; rcases h with h | h <;> omega
     have hb3 := hf3.keep hb2 hnw
     have cf0 := cell_of hb3 (i := 0) rfl
     have cf1 := cell_of hb3 (i := 1) rfl
     have hF3 : Fr (Own pb mb) w w3 := (hF2.mono fun _ _ h => h.elim).next hf3
     have cA3 := hF3.cell cA hA
     have cB3 := hF3.cell cB hB
     have cX3 := hF3.cell cK hC
     have hg3 := turned_get HI.out.2
     have hi3 : InvD (setF (turnD D).2 (putF (turnD D).2.files ⟨n, f.bytes.take k.toNat, min f.synced k.toNat⟩)) := by
      have := HI.out.1
      rw [HE.out] at this
      rw [turn_files.1]; exact this
     have hw := trunc2_h (f := f) (k := k.toNat) HK.out.1 HK.out.2.1 (by rw [HK.out.2.2]; exact cX3) hD3 cA3 cB3 hg3 hi3
     rw [turn_files.1] at hw
     have HW := Lib.hid hw
     have HF3 := Lib.hid hF3
     clear hw hi3 hg3 hb3 hb2 hF3 hF2 hf hf2 hf3 hnw hpm hcap
     go_wp2_with fail
     refine Calls.mono HW.out ?_
     rintro e w4 ⟨rfl, hD4, hf4⟩
     go_wp2_with fail
     go_ret
     rw [HE.out]; exact ⟨rfl, hD4, HF3.out.next hf4⟩

set_option maxRecDepth 100000 in
set_option maxHeartbeats 2000000 in
theorem does_delete (hD : DiskAt w pb mb D) (cA : w.cell? ⟨A, 0, none⟩ = some (.pointer (some ⟨pb, 0, none⟩))) (cB : w.cell? ⟨B, 0, none⟩ = some (.string (bs n))) (hA : ¬ Own pb mb A) (hB : ¬ Own pb mb B) :
  Calls Tryz.prog 123 #[.pointer (some ⟨pb, 0, none⟩), .string (bs n), .func (.func 124) #[] #[], .func (.func 125) #[] #[.pointer (some ⟨A, 0, none⟩), .pointer (some ⟨B, 0, none⟩)]] w (Does pb mb (deleteD D n) w) := by
 cases hd : D.dead with
 | true =>
  have HE := Lib.hid (show deleteD D n = (7, D) by unfold deleteD; rw [if_pos hd])
  have HF := Lib.hid (find_dead (n := n) hD hd)
  clear hd
  go_enter Tryz.func123, Tryz.ntmps123
  go_wp2_with fail
  refine Calls.mono HF.out ?_
  rintro e w1 ⟨rfl, hf⟩
  go_wp2_with fail
  go_ret
  rw [HE.out]; exact Does.same hD (hf.alloc _) rfl rfl
 | false =>
  cases hg : getF D.files n with
  | none =>
   have HE := Lib.hid (show deleteD D n = (4, D) by unfold deleteD; rw [if_neg (by rw [hd]; simp), hg])
   have HF := Lib.hid (find_none (n := n) hD hd hg)
   clear hd hg
   go_enter Tryz.func123, Tryz.ntmps123
   go_wp2_with fail
   refine Calls.mono HF.out ?_
   rintro e w1 ⟨rfl, hf⟩
   go_wp2_with fail
   go_ret
   rw [HE.out]; exact Does.same hD (hf.alloc _) rfl rfl
  | some f =>
   have HF := Lib.hid (find_some (n := n) hD hd hg)
   have hpm : pb < w.heap.size ∧ mb < w.heap.size := ⟨lt_of_block hD.head, hD.map.lt⟩
   have heq : deleteD D n = thenD D (delF D.files n) := by unfold deleteD; rw [if_neg (by rw [hd]; simp), hg]
   have hinv := hD.inv.delete n
   rw [heq] at hinv ⊢
   have hcap : w.heap.size ≤ w.heap.size := Nat.le_refl _
   by_cases hz : D.fuse = 0
   ·have ht : turnD D = (7, { D with dead := true }) := by unfold turnD; rw [if_pos hz]
    have HE := Lib.hid (show thenD D (delF D.files n) = (7, { D with dead := true }) by unfold thenD; rw [ht]; rfl)
    have HT := Lib.hid ht
    clear hd hz ht heq
    go_enter Tryz.func123, Tryz.ntmps123
    go_wp2_with fail
    refine Calls.mono HF.out ?_
    rintro e w1 ⟨rfl, hf⟩
    unfold valF
    have HCH := Lib.hid (fine_h (w := w1.alloc (.cells #[.string (bs f.bytes), .int .i64 f.synced] 127)) (.string (bs f.bytes)) (.int .i64 f.synced))
    go_wp2_with fail
    refine Calls.mono HCH.out ?_
    rintro e w2 ⟨rfl, hf2⟩
    have hF2 : Fr (fun _ => False) w w2 := (hf.alloc _).next hf2
    have htn := turn_h (hD.grow hF2)
    rw [HT.out] at htn
    have HTN := Lib.hid htn
    clear htn
    go_wp2_with fail
    refine Calls.mono HTN.out ?_
    rintro e w3 ⟨rfl, hD3, hf3⟩
    go_wp2_with fail
    go_ret
    rw [HE.out]; exact ⟨rfl, hD3, (hF2.mono fun _ _ h => h.elim).next hf3⟩
   ·have ht : turnD D = (0, (turnD D).2) := by unfold turnD; rw [if_neg hz]
    have HE := Lib.hid (show thenD D (delF D.files n) = (0, setF (turnD D).2 (delF D.files n)) by unfold thenD; rw [ht]; rfl)
    have HT := Lib.hid ht
    have HI := Lib.hid (And.intro hinv hg)
    clear hd hz ht heq hinv hg
    go_enter Tryz.func123, Tryz.ntmps123
    go_wp2_with fail
    refine Calls.mono HF.out ?_
    rintro e w1 ⟨rfl, hf⟩
    unfold valF
    have HCH := Lib.hid (fine_h (w := w1.alloc (.cells #[.string (bs f.bytes), .int .i64 f.synced] 127)) (.string (bs f.bytes)) (.int .i64 f.synced))
    go_wp2_with fail
    refine Calls.mono HCH.out ?_
    rintro e w2 ⟨rfl, hf2⟩
    have hF2 : Fr (fun _ => False) w w2 := (hf.alloc _).next hf2
    have hb2 := hf2.keep (block_new w1 (.cells #[.string (bs f.bytes), .int .i64 f.synced] 127)) (fun h => h)
    have htn := turn_h (hD.grow hF2)
    rw [HT.out] at htn
    have HTN := Lib.hid htn
    clear htn
    go_wp2_with fail
    refine Calls.mono HTN.out ?_
    rintro e w3 ⟨rfl, hD3, hf3⟩
    have hnw : ¬ Own pb mb w1.heap.size := fun h => by have := hf.size; rcases h with h | h <;> omega
    have hb3 := hf3.keep hb2 hnw
    have cf0 := cell_of hb3 (i := 0) rfl
    have cf1 := cell_of hb3 (i := 1) rfl
    have hF3 : Fr (Own pb mb) w w3 := (hF2.mono fun _ _ h => h.elim).next hf3
    have cA3 := hF3.cell cA hA
    have cB3 := hF3.cell cB hB
    have hg3 := turned_get HI.out.2
    have hi3 : InvD (setF (turnD D).2 (delF (turnD D).2.files n)) := by
     have := HI.out.1
     rw [HE.out] at this
     rw [turn_files.1]; exact this
    have hw := del1_h (f := f) hD3 cA3 cB3 hg3 hi3 (.string (bs f.bytes)) (.int .i64 f.synced)
    rw [turn_files.1] at hw
    have HW := Lib.hid hw
    have HF3 := Lib.hid hF3
    clear hw hi3 hg3 hb3 hb2 hF3 hF2 hf hf2 hf3 hnw hpm hcap
    go_wp2_with fail
    refine Calls.mono HW.out ?_
    rintro e w4 ⟨rfl, hD4, hf4⟩
    go_wp2_with fail
    go_ret
    rw [HE.out]; exact ⟨rfl, hD4, HF3.out.next hf4⟩
end
end Go.Proofs.YtgmghopcppniaaaGreatDoor

/- Sync, Truncate, Rename, Delete. -/
namespace Go.Proofs.YtgmghopcppniaaaGreatDoor
open Go.RowKit Go.Lib

section
variable {w w' : World} {pb mb A B C : Nat} {D : DiskD}
set_option maxHeartbeats 1000000 in
theorem sync_h (hD : DiskAt w pb mb D) (n : List UInt8) : Calls Tryz.prog 126 #[.pointer (some ⟨pb, 0, none⟩), .string (bs n)] w (Does pb mb (syncD D n) w) := by
 have hpm : pb < w.heap.size ∧ mb < w.heap.size := ⟨lt_of_block hD.head, hD.map.lt⟩
 have hF : Fr (fun _ => False) w ((w.alloc (.cells #[.pointer (some ⟨pb, 0, none⟩)] 39)).alloc (.cells #[.string (bs n)] 9)) := (((Fr.refl _ _).alloc _).alloc _)
 have hDW := hD.grow hF
 have cA : (((w.alloc (.cells #[.pointer (some ⟨pb, 0, none⟩)] 39)).alloc (.cells #[.string (bs n)] 9))).cell? ⟨w.heap.size, 0, none⟩ = some (.pointer (some ⟨pb, 0, none⟩)) := cell_of (i := 0) (block_old (block_new_at rfl) _) rfl
 have cB : (((w.alloc (.cells #[.pointer (some ⟨pb, 0, none⟩)] 39)).alloc (.cells #[.string (bs n)] 9))).cell? ⟨w.heap.size + 1, 0, none⟩ = some (.string (bs n)) := cell_of (i := 0) (block_new_at (by simp)) rfl
 have hA : ¬ Own pb mb w.heap.size := fun h => by rcases h with h | h <;> omega
 have hB : ¬ Own pb mb (w.heap.size + 1) := fun h => by rcases h with h | h <;> omega
 have HX := Lib.hid (does_sync (D := D) (n := n) hDW cA cB hA hB)
 have hmf : ∀ (fn : Fn) (first cap : Array Value) (w : World), (Instr.makeFunc fn first cap).run Tryz.prog w = .ok (.func fn first cap) w := fun _ _ _ _ => rfl
 have HF := Lib.hid hF
 clear hDW cA cB hA hB hF hD hpm
 go_enter Tryz.func126, Tryz.ntmps126
 go_wp2_with fail
 refine Calls.mono HX.out ?_
 rintro e w1 ⟨rfl, hD1, hf1⟩
 go_wp2_with fail
 go_ret
 exact ⟨rfl, hD1, (HF.out.mono fun _ _ h => h.elim).next hf1⟩

set_option maxHeartbeats 1000000 in
theorem trunc_h (hD : DiskAt w pb mb D) (n : List UInt8) (k : Int) : Calls Tryz.prog 137 #[.pointer (some ⟨pb, 0, none⟩), .string (bs n), .int .i64 k] w (Does pb mb (truncD D n k) w) := by
 have hpm : pb < w.heap.size ∧ mb < w.heap.size := ⟨lt_of_block hD.head, hD.map.lt⟩
 have hF : Fr (fun _ => False) w (((w.alloc (.cells #[.pointer (some ⟨pb, 0, none⟩)] 39)).alloc (.cells #[.string (bs n)] 9)).alloc (.cells #[.int .i64 k] 3)) := (((Fr.refl _ _).alloc _).alloc _).alloc _
 have hDW := hD.grow hF
 have cA : ((((w.alloc (.cells #[.pointer (some ⟨pb, 0, none⟩)] 39)).alloc (.cells #[.string (bs n)] 9)).alloc (.cells #[.int .i64 k] 3))).cell? ⟨w.heap.size, 0, none⟩ = some (.pointer (some ⟨pb, 0, none⟩)) := cell_of (i := 0) (block_old (block_old (block_new_at rfl) _) _) rfl
 have cB : ((((w.alloc (.cells #[.pointer (some ⟨pb, 0, none⟩)] 39)).alloc (.cells #[.string (bs n)] 9)).alloc (.cells #[.int .i64 k] 3))).cell? ⟨w.heap.size + 1, 0, none⟩ = some (.string (bs n)) := cell_of (i := 0) (block_old (block_new_at (by simp)) _) rfl
 have cC : ((((w.alloc (.cells #[.pointer (some ⟨pb, 0, none⟩)] 39)).alloc (.cells #[.string (bs n)] 9)).alloc (.cells #[.int .i64 k] 3))).cell? ⟨w.heap.size + 2, 0, none⟩ = some (.int .i64 k) := cell_of (i := 0) (block_new_at (by simp)) rfl
 have hC : ¬ Own pb mb (w.heap.size + 2) := fun h => by rcases h with h | h <;> omega
 have hA : ¬ Own pb mb w.heap.size := fun h => by rcases h with h | h <;> omega
 have hB : ¬ Own pb mb (w.heap.size + 1) := fun h => by rcases h with h | h <;> omega
 have HX := Lib.hid (does_trunc (D := D) (n := n) (k := k) hDW cC hC cA cB hA hB)
 have hmf : ∀ (fn : Fn) (first cap : Array Value) (w : World), (Instr.makeFunc fn first cap).run Tryz.prog w = .ok (.func fn first cap) w := fun _ _ _ _ => rfl
 have HF := Lib.hid hF
 clear hDW cA cB hA hB hF hD hpm cC hC
 go_enter Tryz.func137, Tryz.ntmps137
 go_wp2_with fail
 refine Calls.mono HX.out ?_
 rintro e w1 ⟨rfl, hD1, hf1⟩
 go_wp2_with fail
 go_ret
 exact ⟨rfl, hD1, (HF.out.mono fun _ _ h => h.elim).next hf1⟩

set_option maxHeartbeats 1000000 in
theorem delete_h (hD : DiskAt w pb mb D) (n : List UInt8) : Calls Tryz.prog 68 #[.pointer (some ⟨pb, 0, none⟩), .string (bs n)] w (Does pb mb (deleteD D n) w) := by
 have hpm : pb < w.heap.size ∧ mb < w.heap.size := ⟨lt_of_block hD.head, hD.map.lt⟩
 have hF : Fr (fun _ => False) w ((w.alloc (.cells #[.pointer (some ⟨pb, 0, none⟩)] 39)).alloc (.cells #[.string (bs n)] 9)) := (((Fr.refl _ _).alloc _).alloc _)
 have hDW := hD.grow hF
 have cA : (((w.alloc (.cells #[.pointer (some ⟨pb, 0, none⟩)] 39)).alloc (.cells #[.string (bs n)] 9))).cell? ⟨w.heap.size, 0, none⟩ = some (.pointer (some ⟨pb, 0, none⟩)) := cell_of (i := 0) (block_old (block_new_at rfl) _) rfl
 have cB : (((w.alloc (.cells #[.pointer (some ⟨pb, 0, none⟩)] 39)).alloc (.cells #[.string (bs n)] 9))).cell? ⟨w.heap.size + 1, 0, none⟩ = some (.string (bs n)) := cell_of (i := 0) (block_new_at (by simp)) rfl
 have hA : ¬ Own pb mb w.heap.size := fun h => by rcases h with h | h <;> omega
 have hB : ¬ Own pb mb (w.heap.size + 1) := fun h => by rcases h with h | h <;> omega
 have HX := Lib.hid (does_delete (D := D) (n := n) hDW cA cB hA hB)
 have hmf : ∀ (fn : Fn) (first cap : Array Value) (w : World), (Instr.makeFunc fn first cap).run Tryz.prog w = .ok (.func fn first cap) w := fun _ _ _ _ => rfl
 have HF := Lib.hid hF
 clear hDW cA cB hA hB hF hD hpm
 go_enter Tryz.func68, Tryz.ntmps68
 go_wp2_with fail
 refine Calls.mono HX.out ?_
 rintro e w1 ⟨rfl, hD1, hf1⟩
 go_wp2_with fail
 go_ret
 exact ⟨rfl, hD1, (HF.out.mono fun _ _ h => h.elim).next hf1⟩
end
end Go.Proofs.YtgmghopcppniaaaGreatDoor
