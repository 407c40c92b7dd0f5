/- The reference's log: a record taken: walked. -/
import Derived.Test.YtgmghopcppniaaaGreatDoorX8
import Derived.Test.YtgmghopcppniaaaGreatDoorFM
import Derived.Deep.RegionLaw
namespace Go.Proofs.YtgmghopcppniaaaGreatDoor
open Go.RowKit Go.Lib

section
variable {w w2 w' : World} {S : Nat → Prop} {rl rb : Nat} {lv le le2 : Value} {st : StD} {D : DiskD} {l2 : List EntD}
/-- the entries are other ones -/
theorem RWal.put (h : RWal w S rl rb lv le st D) (hf : Fr (fun _ => False) w w2) (hr : w2.ownsRow w.heap.size 95 4 le2 l2.length (entsC l2)) :
  RWal (w2.setCell ⟨rl, 3, none⟩ le2) (Plus S w (w2.setCell ⟨rl, 3, none⟩ le2)) rl rb lv le2 ⟨st.t, st.v, l2⟩ D := by
 have h2 := h.quiet hf
 have hrl := h.lt rl h.srl
 have hF : Fr (fun k => k = rl) w2 (w2.setCell ⟨rl, 3, none⟩ le2) := (Fr.refl (fun k => k = rl) _).setCell (p := ⟨rl, 3, none⟩) (.inl rfl) _
 have hsz : (w2.setCell ⟨rl, 3, none⟩ le2).heap.size = w2.heap.size := by simp
 refine ⟨block_set h2.head 3 le2, ?_, h2.disk.fr hF (fun k hk e => h.ne (by rw [← e]; exact hk)), .inl h.srl, fun k hk => .inl (h.srb k hk), h.ne, Plus.lt h.lt (by rw [hsz]; exact hf.size)⟩
 refine ((SRow.of_owns hr).fr hF fun k hk e => ?_).mono fun k hk => ?_
 ·have := (hr.lt k hk).1; omega
 ·have h3 := hr.lt k hk
  exact ⟨.inr ⟨h3.1, by rw [hsz]; exact h3.2⟩, by omega, fun e => by have := h.lt k (h.srb k e); omega⟩
/-- what must not be forgotten is something else -/
theorem RWal.setH (h : RWal w S rl rb lv le st D) (t v : Int) : RWal ((w.setCell ⟨rl, 1, none⟩ (.int .i64 t)).setCell ⟨rl, 2, none⟩ (.int .i64 v)) S rl rb lv le ⟨t, v, st.ents⟩ D := by
 have hF : Fr (fun k => k = rl) w ((w.setCell ⟨rl, 1, none⟩ (.int .i64 t)).setCell ⟨rl, 2, none⟩ (.int .i64 v)) := ((Fr.refl (fun k => k = rl) _).setCell (p := ⟨rl, 1, none⟩) (.inl rfl) _).setCell (p := ⟨rl, 2, none⟩) (.inl rfl) _
 exact ⟨block_set (block_set h.head 1 _) 2 _, h.ents.fr hF (fun k hk e => hk.2.1 e), h.disk.fr hF (fun k hk e => h.ne (by rw [← e]; exact hk)), h.srl, h.srb, h.ne, fun k hk => by simp; exact h.lt k hk⟩
theorem RWal.setN (h : RWal w S rl rb lv le st D) : RWal (w.setCell ⟨rl, 3, none⟩ (.slice none 0 0)) S rl rb lv (.slice none 0 0) ⟨st.t, st.v, []⟩ D := by
 have hF : Fr (fun k => k = rl) w (w.setCell ⟨rl, 3, none⟩ (.slice none 0 0)) := (Fr.refl (fun k => k = rl) _).setCell (p := ⟨rl, 3, none⟩) (.inl rfl) _
 exact ⟨block_set h.head 3 _, SRow.nil _ _ _, h.disk.fr hF (fun k hk e => h.ne (by rw [← e]; exact hk)), h.srl, h.srb, h.ne, fun k hk => by simp; exact h.lt k hk⟩
theorem RWal.plus (h : RWal w' S rl rb lv le st D) (hs : ∀ k, S k → k < w.heap.size) (hz : w.heap.size ≤ w'.heap.size) : RWal w' (Plus S w w') rl rb lv le st D := h.mono (fun _ hk => .inl hk) (Plus.lt hs hz)
def RTakePost (r : RecD) (S : Nat → Prop) (rl rb : Nat) (lv : Value) (st : StD) (D : DiskD) (w : World) (e : Ending) (w' : World) : Prop :=
 e = .returned (.tuple #[]) ∧ (∃ le', RWal w' (Plus S w w') rl rb lv le' (stepS st r) D) ∧ Fr (fun k => k = rl) w w'
set_option maxRecDepth 100000 in
set_option maxHeartbeats 16000000 in
theorem rtake_h (h : RWal w S rl rb lv le st D) (hok : OkS st) {r : RecD} (hr : GoodR r) (hl : st.ents.length ≤ 900000) :
  Calls Tryz.prog 91 #[.pointer (some ⟨rl, 0, none⟩), (RecQ.of r).val] w (RTakePost r S rl rb lv st D w) := by
 have HLT := Lib.hid h.lt
 cases r with
 | hard t v =>
  obtain ⟨w1, hw1⟩ : ∃ w1, w1 = w.alloc (.cells #[.int .i64 1, .int .i64 t, .int .i64 v, .int .i64 0, .int .i64 0, .int .i64 0, .string ⟨#[]⟩] 148) := ⟨_, rfl⟩
  have hf1 : Fr (fun _ => False) w w1 := by rw [hw1]; exact (Fr.refl _ _).alloc _
  have hb : w1.heap[w.heap.size]? = some (.cells #[.int .i64 1, .int .i64 t, .int .i64 v, .int .i64 0, .int .i64 0, .int .i64 0, .string ⟨#[]⟩] 148 (0, 0)) := by rw [hw1]; exact block_new _ _
  have HF1 := Lib.hid hf1
  have HW1 := Lib.hid (h.quiet hf1)
  have x0 := cell_of hb (i := 0) (v := .int .i64 1) rfl
  have x1 := cell_of hb (i := 1) (v := .int .i64 t) rfl
  have x2 := cell_of hb (i := 2) (v := .int .i64 v) rfl
  obtain ⟨_, c1, c2, _⟩ := HW1.out.cells
  have g1 := free_of 1 HW1.out.head
  have g2 := free_of 2 HW1.out.head
  have hrl := HW1.out.lt rl HW1.out.srl
  have HV : Hid ((RecQ.of (.hard t v)).val = .agg #[.int .i64 1, .int .i64 t, .int .i64 v, .int .i64 0, .int .i64 0, .int .i64 0, .string ⟨#[]⟩]) := by rfl
  rw [HV.out]
  clear hb hf1 h hok hr
  go_enter Tryz.func91, Tryz.ntmps91
  go_upto_region 1 with fail
  rw [← hw1]
  clear hw1
  go_wp2_with fail
  go_end0
  refine ⟨rfl, ⟨le, (HW1.out.setH t v).plus HLT.out ?_⟩, ?_⟩
  ·have := HF1.out.size; simp; exact this
  ·exact ((HF1.out.mono (o2 := fun k => k = rl) fun _ _ h => h.elim).setCell (p := ⟨rl, 1, none⟩) (.inl rfl) _).setCell (p := ⟨rl, 2, none⟩) (.inl rfl) _
 | reset =>
  obtain ⟨w1, hw1⟩ : ∃ w1, w1 = w.alloc (.cells #[.int .i64 3, .int .i64 0, .int .i64 0, .int .i64 0, .int .i64 0, .int .i64 0, .string ⟨#[]⟩] 148) := ⟨_, rfl⟩
  have hf1 : Fr (fun _ => False) w w1 := by rw [hw1]; exact (Fr.refl _ _).alloc _
  have hb : w1.heap[w.heap.size]? = some (.cells #[.int .i64 3, .int .i64 0, .int .i64 0, .int .i64 0, .int .i64 0, .int .i64 0, .string ⟨#[]⟩] 148 (0, 0)) := by rw [hw1]; exact block_new _ _
  have HF1 := Lib.hid hf1
  have HW1 := Lib.hid (h.quiet hf1)
  have x0 := cell_of hb (i := 0) (v := .int .i64 3) rfl
  obtain ⟨_, _, _, c3⟩ := HW1.out.cells
  have g3 := free_of 3 HW1.out.head
  have hrl := HW1.out.lt rl HW1.out.srl
  have HV : Hid ((RecQ.of .reset).val = .agg #[.int .i64 3, .int .i64 0, .int .i64 0, .int .i64 0, .int .i64 0, .int .i64 0, .string ⟨#[]⟩]) := by rfl
  rw [HV.out]
  clear hb hf1 h hok hr
  go_enter Tryz.func91, Tryz.ntmps91
  go_upto_region 1 with fail
  rw [← hw1]
  clear hw1
  go_wp2_with fail
  go_end0
  refine ⟨rfl, ⟨_, HW1.out.setN.plus HLT.out ?_⟩, ?_⟩
  ·have := HF1.out.size; simp; exact this
  ·exact (HF1.out.mono (o2 := fun k => k = rl) fun _ _ h => h.elim).setCell (p := ⟨rl, 3, none⟩) (.inl rfl) _
 | ent e =>
  obtain ⟨w1, hw1⟩ : ∃ w1, w1 = w.alloc (.cells #[.int .i64 2, .int .i64 0, .int .i64 0, .int .i64 e.index, .int .i64 e.term, .int .i64 e.kind, .string (bs e.data)] 148) := ⟨_, rfl⟩
  have hf1 : Fr (fun _ => False) w w1 := by rw [hw1]; exact (Fr.refl _ _).alloc _
  have hb : w1.heap[w.heap.size]? = some (.cells #[.int .i64 2, .int .i64 0, .int .i64 0, .int .i64 e.index, .int .i64 e.term, .int .i64 e.kind, .string (bs e.data)] 148 (0, 0)) := by rw [hw1]; exact block_new _ _
  have HF1 := Lib.hid hf1
  have HW1 := Lib.hid (h.quiet hf1)
  have x0 := cell_of hb (i := 0) (v := .int .i64 2) rfl
  have x3 := cell_of hb (i := 3) (v := .int .i64 e.index) rfl
  have x4 := cell_of hb (i := 4) (v := .int .i64 e.term) rfl
  have x5 := cell_of hb (i := 5) (v := .int .i64 e.kind) rfl
  have x6 := cell_of hb (i := 6) (v := .string (bs e.data)) rfl
  obtain ⟨_, _, _, c3⟩ := HW1.out.cells
  have HHD := Lib.hid HW1.out.head
  have hrl := HW1.out.lt rl HW1.out.srl
  have HPU := Lib.hid (fun (W : World) (hq : Fr (fun _ => False) w1 W) => rput_h (w := W) ((HW1.out.quiet hq).ents) (fun k hk => (HW1.out.quiet hq).lt k hk.1) e hok.run hr hl)
  unfold EntsMade entV at HPU
  have HV : Hid ((RecQ.of (.ent e)).val = .agg #[.int .i64 2, .int .i64 0, .int .i64 0, .int .i64 e.index, .int .i64 e.term, .int .i64 e.kind, .string (bs e.data)]) := by rfl
  rw [HV.out]
  clear hb hf1 h hok hr
  go_enter Tryz.func91, Tryz.ntmps91
  go_upto_region 1 with fail
  rw [← hw1]
  clear hw1
  go_upto_region 5 with fail
  go_region_with (first
   | (go_at_call 102; (with_reducible refine Calls.mono (HPU.out _ (show Fr (fun _ => False) w1 _ by repeat (first | exact Fr.refl _ _ | refine Fr.drew ?_))) ?_); clear HPU; rintro r w2 ⟨v2, rfl, hr2, hq⟩; obtain ⟨sa2, sc2, rfl⟩ := ownsRow_shape hr2; have f2 := (show Fr (fun _ => False) w1 _ by repeat (first | exact Fr.refl _ _ | refine Fr.drew ?_)).next hq; have g3 := free_of 3 (f2.keep HHD.out (fun h => h)); have c3b := f2.cell c3 (fun h => h); have hl2 := lt_of_block (f2.keep HHD.out (fun h => h)))
   | fail)
  all_goals
   go_wp2_with fail
   go_end0
   have HPP := HW1.out.put f2 hr2
   have hz := HF1.out.size
   have hz2 := f2.size
   have HP2 := HPP.mono (S' := Plus S w (w2.setCell ⟨rl, 3, none⟩ (.slice sa2 (putE st.ents e).length sc2))) (fun k hk => by
    rcases hk with hk | ⟨hk, hk2⟩
    ·exact .inl hk
    ·exact .inr ⟨by omega, hk2⟩) (Plus.lt HLT.out (by simp; omega))
   have HFF : Fr (fun k => k = rl) w (w2.setCell ⟨rl, 3, none⟩ (.slice sa2 (putE st.ents e).length sc2)) := ((HF1.out.next f2).mono (o2 := fun k => k = rl) fun _ _ h => h.elim).setCell (p := ⟨rl, 3, none⟩) (.inl rfl) _
   first
    | exact ⟨rfl, ⟨_, HP2⟩, HFF⟩
    | exact ⟨rfl, ⟨_, HP2.quiet (Fr.refl _ _).drew⟩, HFF.drew⟩
    | fail
end
end Go.Proofs.YtgmghopcppniaaaGreatDoor
