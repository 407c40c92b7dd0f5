/- The reference's rows: without, with. -/
import Derived.Test.YtfcnjbkoneinpaaDoorE1
namespace Go.Proofs.YtfcnjbkoneinpaaDoor
open Go.RowKit Go.Lib

theorem info48 : (Tryd.prog.info? 48).map (fun i => (i.zero, i.size, i.bytes)) = some (some (.agg #[.string ⟨#[]⟩, .string ⟨#[]⟩, .int .i64 0]), 3, 40) := by kernel_rfl
def RowPost (l : List FileD) (w : World) (e : Ending) (w' : World) : Prop := ∃ v, e = .returned v ∧ w'.ownsRow w.heap.size 48 3 v l.length (fcells l) ∧ Fr (fun _ => False) w w'
section
variable {w w' : World} {rb : Nat} {lv : Value} {D : DiskD} {n : List UInt8} {f : FileD}
theorem erase_parts {l : List FileD} {i : Nat} (hi : i < l.length) : l.eraseIdx i = l.take i ++ l.drop (i + 1) ∧ (l.eraseIdx i).length = i + (l.length - (i + 1)) := by
  refine ⟨List.eraseIdx_eq_take_drop_succ l i, ?_⟩
  rw [List.length_eraseIdx_of_lt hi]; omega
theorem without_close {w w4 : World} {l : List FileD} {i cap3 : Nat} {b3 : Option Addr} (hi : i < l.length)
    (hrow : w4.ownsRow w.heap.size 48 3 (.slice b3 (i + (l.length - (i + 1))) cap3) (i + (l.length - (i + 1))) (fcells (l.take i) ++ fcells (l.drop (i + 1)))) (hF : Fr (fun k => w.heap.size ≤ k) w w4) : RowPost (l.eraseIdx i) w (.returned (.slice b3 (i + (l.length - (i + 1))) cap3)) w4 := by
  obtain ⟨e1, e2⟩ := erase_parts hi
  refine ⟨_, rfl, ?_, hF.mono fun k hk h => absurd h (by omega)⟩
  rw [e2, e1, fcells_append]; exact hrow
set_option maxRecDepth 100000 in
set_option maxHeartbeats 8000000 in
theorem rwithout_h (h : RefAt w rb lv D) {i : Nat} (hi : i < D.files.length) : Calls Tryd.prog 62 #[.pointer (some ⟨rb, 0, none⟩), .int .i64 i] w (RowPost (D.files.eraseIdx i) w) := by
  obtain ⟨i0, hinf, hz0, hz1, hz2⟩ := info_parts info48
  obtain ⟨c0, _, _, _⟩ := h.cells
  have hSR := SRow.of_owns h.row
  have hlt1 := fun k => h.row.lt k
  obtain ⟨a, cap, rfl, hn1, hn2, _⟩ := h.slice
  have hl40 := h.inv.many
  have HC := Lib.hid (fun (b3 : Option Addr) (cap3 : Nat) (w4 : World) => without_close (w := w) (w4 := w4) (b3 := b3) (cap3 := cap3) hi)
  obtain ⟨j, hj⟩ : ∃ j, i + 1 = j := ⟨_, rfl⟩
  have hhead := SRow.head hSR (Nat.le_of_lt hi)
  have htail := SRow.tail hSR (k := j) (by omega)
  rw [fcells_take] at hhead
  rw [fcells_drop] at htail
  rw [hj] at HC
  have hS : ∀ k, (Value.slice a D.files.length cap).ownBlock = some k → ¬ w.heap.size ≤ k := fun k hk => by have := (hlt1 k hk).2; omega
  have hw1 : IntKind.i64.wrap ((i : Int) + 1) = (j : Int) := by rw [IntWalk.i64_in _ (by omega)]; omega
  have hjn : j ≤ D.files.length := by omega
  have hjc : j ≤ cap := by omega
  have hic : i ≤ cap := by omega
  have hin : i ≤ D.files.length := by omega
  have hij : i + (D.files.length - j) ≤ 40 := by omega
  have hrb : rb < w.heap.size := h.lt (.inl rfl)
  have hrb1 : rb < w.heap.size + 1 := by omega
  have HCW := Lib.hid (fun (w2 : World) (hF : Fr (fun k => w.heap.size ≤ k) w w2) => hF.cell c0 (fun k => absurd k (Nat.not_le.2 hrb)))
  have HH := Lib.hid (And.intro hhead (And.intro htail hS))
  clear hhead htail hSR hlt1 h hj hS
  go_enter Tryd.func62, Tryd.ntmps62
  go_wp2_with fail
  go_region_law (first
    | (refine step_append_row rfl (.tmp 5) (.tmp 11) 40 rfl w.heap.size 48 i0 (.agg #[.string ⟨#[]⟩, .string ⟨#[]⟩, .int .i64 0]) 3 40 Tryd.underlying40 hinf hz0 hz1 hz2 rfl (by decide) (.slice (some ⟨_, 0, none⟩) 0 0) 0 [] rfl (ownsRow_empty (by first | exact block_new_at (by simp) | exact block_old (block_new_at (by simp)) _) (by omega)) _ _ i (fcells (D.files.take i)) rfl (HH.out.1.fr (o := fun k => w.heap.size ≤ k) (by repeat (first | exact Fr.refl _ _ | refine Fr.drew ?_ | refine Fr.alloc ?_ _)) HH.out.2.2) (fcells_one _) (by unfold maxLen; omega) (by omega) (by simp <;> omega) ?_; intro b1 cap1 w2 hrow1 hgrow1 hat1; have hF1 : Fr (fun k => w.heap.size ≤ k) w w2 := Fr.next (by repeat (first | exact Fr.refl _ _ | refine Fr.drew ?_ | refine Fr.alloc ?_ _)) hat1; simp only [Nat.zero_add, List.nil_append] at hrow1; have cw2 := HCW.out w2 hF1; have hrw2 : rb < w2.heap.size := Nat.lt_of_lt_of_le hrb hF1.size)
    | (refine step_append_row rfl (.tmp 12) (.tmp 19) 40 rfl w.heap.size 48 i0 (.agg #[.string ⟨#[]⟩, .string ⟨#[]⟩, .int .i64 0]) 3 40 Tryd.underlying40 hinf hz0 hz1 hz2 rfl (by decide) (.slice b1 i cap1) i _ rfl hrow1 _ _ (D.files.length - j) (fcells (D.files.drop j)) rfl (HH.out.2.1.fr hF1 HH.out.2.2) (fcells_one _) (by unfold maxLen; omega) (by omega) hF1.size ?_; intro b3 cap3 w4 hrow3 hgrow3 hat3; have hF3 : Fr (fun k => w.heap.size ≤ k) w w4 := Fr.next hF1 hat3))
  all_goals (go_wp2_with fail)
  all_goals
    go_ret
    exact HC.out _ _ _ hrow3 hF3

theorem with_close {w w0 w4 : World} {l : List FileD} {f : FileD} {i cap3 : Nat} {b3 : Option Addr} (hi : i ≤ l.length) (h0 : Fr (fun _ => False) w w0)
    (hrow : w4.ownsRow w0.heap.size 48 3 (.slice b3 (i + 1 + (l.length - i)) cap3) (i + 1 + (l.length - i)) (fcells (l.take i) ++ fcells [f] ++ fcells (l.drop i))) (hF : Fr (fun k => w0.heap.size ≤ k) w0 w4) : RowPost (l.take i ++ f :: l.drop i) w (.returned (.slice b3 (i + 1 + (l.length - i)) cap3)) w4 := by
  have e2 : (l.take i ++ f :: l.drop i).length = i + 1 + (l.length - i) := by rw [List.length_append, List.length_take, List.length_cons, List.length_drop]; omega
  have e1 : fcells (l.take i ++ f :: l.drop i) = fcells (l.take i) ++ fcells [f] ++ fcells (l.drop i) := by
    rw [show l.take i ++ f :: l.drop i = (l.take i ++ [f]) ++ l.drop i by simp, fcells_append, fcells_append]
  refine ⟨_, rfl, ?_, h0.trans hF fun k hk => .inr (Nat.le_trans h0.size hk)⟩
  rw [e2, e1]; exact ownsRow_base hrow h0.size
set_option maxRecDepth 100000 in
set_option maxHeartbeats 8000000 in
theorem rwith_h (h : RefAt w rb lv D) (f : FileD) : Calls Tryd.prog 64 #[.pointer (some ⟨rb, 0, none⟩), .agg #[.string (bs f.name), .string (bs f.bytes), .int .i64 f.synced]] w (RowPost (D.files.take (posF D.files f.name) ++ f :: D.files.drop (posF D.files f.name)) w) := by
  obtain ⟨i0, hinf, hz0, hz1, hz2⟩ := info_parts info48
  have hF0 : Fr (fun _ => False) w (w.alloc (.cells #[.string (bs f.name), .string (bs f.bytes), .int .i64 f.synced] 48)) := (Fr.refl _ _).alloc _
  have hb0 : (w.alloc (.cells #[.string (bs f.name), .string (bs f.bytes), .int .i64 f.synced] 48)).heap[w.heap.size]? = some (.cells #[.string (bs f.name), .string (bs f.bytes), .int .i64 f.synced] 48) := block_new _ _
  have cb := cell_of hb0 (i := 0) (v := .string (bs f.name)) rfl
  have HFI := Lib.hid (rfind_h (h.grow hF0) f.name)
  unfold FindPost at HFI
  have HX := Lib.hid (And.intro hF0 (And.intro hb0 h))
  have hpl := pos_le D.files f.name
  clear h hF0 hb0
  generalize posF D.files f.name = i at *
  generalize (getF D.files f.name).isSome = is at *
  go_enter Tryd.func64, Tryd.ntmps64
  go_wp2_with fail
  generalize w.alloc (.cells #[.string (bs f.name), .string (bs f.bytes), .int .i64 f.synced] 48) = w0 at *
  refine Calls.mono HFI.out ?_
  rintro e w1 ⟨rfl, hf⟩
  have hX1 := (HX.out.2.2.grow HX.out.1).grow hf
  have hb1 := hf.keep HX.out.2.1 (fun h => h)
  have k0 := cell_of hb1 (i := 0) (v := .string (bs f.name)) rfl
  have k1 := cell_of hb1 (i := 1) (v := .string (bs f.bytes)) rfl
  have k2 := cell_of hb1 (i := 2) (v := .int .i64 f.synced) rfl
  obtain ⟨c0, _, _, _⟩ := hX1.cells
  have hSR := SRow.of_owns hX1.row
  have hlt1 := fun k => hX1.row.lt k
  obtain ⟨a, cap, rfl, hn1, hn2, _⟩ := hX1.slice
  have hl40 := hX1.inv.many
  have hhead := SRow.head hSR hpl
  have htail := SRow.tail hSR hpl
  rw [fcells_take] at hhead
  rw [fcells_drop] at htail
  have hS : ∀ k, (Value.slice a D.files.length cap).ownBlock = some k → ¬ w1.heap.size ≤ k := fun k hk => by have := (hlt1 k hk).2; omega
  have hic : i ≤ cap := by omega
  have HC := Lib.hid (fun (b3 : Option Addr) (cap3 : Nat) (w4 : World) => with_close (w := w) (w0 := w1) (w4 := w4) (f := f) (b3 := b3) (cap3 := cap3) hpl (HX.out.1.next hf))
  have hrb : rb < w1.heap.size := hX1.lt (.inl rfl)
  have hbx : w.heap.size < w1.heap.size := lt_of_block hb1
  have hrb1 : rb < w1.heap.size + 1 := by omega
  have hbx1 : w.heap.size < w1.heap.size + 1 := by omega
  have HCW := Lib.hid (fun (w2 : World) (hF : Fr (fun k => w1.heap.size ≤ k) w1 w2) => And.intro (hF.cell c0 (fun k => absurd k (Nat.not_le.2 hrb))) (And.intro (hF.cell k0 (fun k => absurd k (Nat.not_le.2 hbx))) (And.intro (hF.cell k1 (fun k => absurd k (Nat.not_le.2 hbx))) (And.intro (hF.cell k2 (fun k => absurd k (Nat.not_le.2 hbx))) (And.intro (Nat.lt_of_lt_of_le hrb hF.size) (Nat.lt_of_lt_of_le hbx hF.size))))))
  have HH := Lib.hid (And.intro hhead (And.intro htail hS))
  clear hhead htail hSR hlt1 hS hX1 hf hb1 HX cb
  go_wp2_with fail
  go_region_law (first
    | (refine step_append_row rfl (.tmp 14) (.tmp 20) 40 rfl w1.heap.size 48 i0 (.agg #[.string ⟨#[]⟩, .string ⟨#[]⟩, .int .i64 0]) 3 40 Tryd.underlying40 hinf hz0 hz1 hz2 rfl (by decide) (.slice (some ⟨_, 0, none⟩) 0 0) 0 [] rfl (ownsRow_empty (by first | exact block_new_at (by simp) | exact block_old (block_new_at (by simp)) _) (by omega)) _ _ i (fcells (D.files.take i)) rfl (HH.out.1.fr (o := fun k => w1.heap.size ≤ k) (by repeat (first | exact Fr.refl _ _ | refine Fr.drew ?_ | refine Fr.alloc ?_ _)) HH.out.2.2) (fcells_one _) (by unfold maxLen; omega) (by omega) (by simp <;> omega) ?_; intro b1 cap1 w2 hrow1 hgrow1 hat1; have hF1 : Fr (fun k => w1.heap.size ≤ k) w1 w2 := Fr.next (by repeat (first | exact Fr.refl _ _ | refine Fr.drew ?_ | refine Fr.alloc ?_ _)) hat1; simp only [Nat.zero_add, List.nil_append] at hrow1; obtain ⟨cw2, kw20, kw21, kw22, hrw2, hbw2⟩ := HCW.out w2 hF1)
    | (refine step_append_row rfl (.tmp 21) (.tmp 23) 40 rfl w1.heap.size 48 i0 (.agg #[.string ⟨#[]⟩, .string ⟨#[]⟩, .int .i64 0]) 3 40 Tryd.underlying40 hinf hz0 hz1 hz2 rfl (by decide) (.slice b1 i cap1) i _ rfl (by first | exact hrow1 | exact hrow1.alloc _) (fun _ => True) _ 1 [.string (bs f.name), .string (bs f.bytes), .int .i64 f.synced] rfl (SRow.of_block (e := 48) (f := (0, 0)) (by first | exact block_new_at (by simp) | (refine block_grown ?_ hgrow1 (by simp [Value.ownBlock]); first | exact block_new_drew (by simp) | exact block_old_drew (block_new_at rfl) _)) rfl (by decide) trivial) (fcells_one [f]) (by unfold maxLen; omega) (by omega) (by have := hF1.size; simp <;> omega) ?_; intro b2 cap2 w3 hrow2 hgrow2 hat2; have hF2 : Fr (fun k => w1.heap.size ≤ k) w1 w3 := Fr.next (by repeat (first | exact hF1 | refine Fr.drew ?_ | refine Fr.alloc ?_ _)) hat2; obtain ⟨cw3, kw30, kw31, kw32, hrw3, hbw3⟩ := HCW.out w3 hF2)
    | (refine step_append_row rfl (.tmp 24) (.tmp 30) 40 rfl w1.heap.size 48 i0 (.agg #[.string ⟨#[]⟩, .string ⟨#[]⟩, .int .i64 0]) 3 40 Tryd.underlying40 hinf hz0 hz1 hz2 rfl (by decide) (.slice b2 (i + 1) cap2) (i + 1) _ rfl hrow2 _ _ (D.files.length - i) (fcells (D.files.drop i)) rfl (HH.out.2.1.fr hF2 HH.out.2.2) (fcells_one _) (by unfold maxLen; omega) (by omega) hF2.size ?_; intro b3 cap3 w4 hrow3 hgrow3 hat3; have hF3 : Fr (fun k => w1.heap.size ≤ k) w1 w4 := Fr.next hF2 hat3))
  all_goals (go_wp2_with fail)
  all_goals
    go_ret
    exact HC.out _ _ _ hrow3 hF3
end
end Go.Proofs.YtfcnjbkoneinpaaDoor
