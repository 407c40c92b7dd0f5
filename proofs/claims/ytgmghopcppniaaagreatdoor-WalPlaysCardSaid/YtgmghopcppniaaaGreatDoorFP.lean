/- The reference's disk: where it lies; New, Name, find, Size, turn, there, Read, Fuse. -/
import Derived.Test.YtgmghopcppniaaaGreatDoorKA
import Derived.Deep.RegionLaw
namespace Go.Proofs.YtgmghopcppniaaaGreatDoor
open Go.RowKit Go.Lib

/-! ### files as a row of cells -/
def fcells (l : List FileD) : List Value := l.flatMap fun f => [.string (bs f.name), .string (bs f.bytes), .int .i64 f.synced]
theorem fcells_cons (f : FileD) (t : List FileD) : fcells (f :: t) = .string (bs f.name) :: .string (bs f.bytes) :: .int .i64 f.synced :: fcells t := rfl
theorem fcells_append (a b : List FileD) : fcells (a ++ b) = fcells a ++ fcells b := List.flatMap_append
theorem fcells_take : ∀ (l : List FileD) (k : Nat), (fcells l).take (k * 3) = fcells (l.take k)
 | [], k => by simp [fcells]
 | f :: t, 0 => by simp [fcells]
 | f :: t, k + 1 => by
  rw [fcells_cons, show (k + 1) * 3 = k * 3 + 1 + 1 + 1 by omega, List.take_succ_cons, List.take_succ_cons, List.take_succ_cons, fcells_take t k, List.take_succ_cons, fcells_cons]
theorem fcells_drop : ∀ (l : List FileD) (k : Nat), (fcells l).drop (k * 3) = fcells (l.drop k)
 | [], k => by simp [fcells]
 | f :: t, 0 => by simp
 | f :: t, k + 1 => by
  rw [fcells_cons, show (k + 1) * 3 = k * 3 + 1 + 1 + 1 by omega, List.drop_succ_cons, List.drop_succ_cons, List.drop_succ_cons, fcells_drop t k, List.drop_succ_cons]
theorem fcells_at : ∀ {l : List FileD} {i : Nat} {f : FileD}, l[i]? = some f → (fcells l)[i * 3]? = some (.string (bs f.name)) ∧ (fcells l)[i * 3 + 1]? = some (.string (bs f.bytes)) ∧ (fcells l)[i * 3 + 2]? = some (.int .i64 f.synced)
 | [], _, _, h => by simp at h
 | g :: t, 0, f, h => by
  obtain rfl : g = f := by simpa using h
  exact ⟨rfl, rfl, rfl⟩
 | g :: t, i + 1, f, h => by
  have := fcells_at (l := t) (i := i) (f := f) (by simpa using h)
  rw [fcells_cons, show (i + 1) * 3 = i * 3 + 1 + 1 + 1 by omega]
  simp only [List.getElem?_cons_succ, show i * 3 + 1 + 1 + 1 + 1 = (i * 3 + 1) + 1 + 1 + 1 by omega, show i * 3 + 1 + 1 + 1 + 2 = (i * 3 + 2) + 1 + 1 + 1 by omega]
  exact this
theorem fcells_set1 : ∀ {l : List FileD} {i : Nat} {f : FileD} (b : List UInt8), l[i]? = some f → (fcells l).set (i * 3 + 1) (.string (bs b)) = fcells (l.set i ⟨f.name, b, f.synced⟩)
 | [], _, _, _, h => by simp at h
 | g :: t, 0, f, b, h => by
  obtain rfl : g = f := by simpa using h
  rfl
 | g :: t, i + 1, f, b, h => by
  have := fcells_set1 (l := t) (i := i) (f := f) b (by simpa using h)
  rw [fcells_cons, show (i + 1) * 3 + 1 = (i * 3 + 1) + 1 + 1 + 1 by omega, List.set_cons_succ, List.set_cons_succ, List.set_cons_succ, this, List.set_cons_succ, fcells_cons]
theorem fcells_set2 : ∀ {l : List FileD} {i : Nat} {f : FileD} (s : Nat), l[i]? = some f → (fcells l).set (i * 3 + 2) (.int .i64 s) = fcells (l.set i ⟨f.name, f.bytes, s⟩)
 | [], _, _, _, h => by simp at h
 | g :: t, 0, f, s, h => by
  obtain rfl : g = f := by simpa using h
  rfl
 | g :: t, i + 1, f, s, h => by
  have := fcells_set2 (l := t) (i := i) (f := f) s (by simpa using h)
  rw [fcells_cons, show (i + 1) * 3 + 2 = (i * 3 + 2) + 1 + 1 + 1 by omega, List.set_cons_succ, List.set_cons_succ, List.set_cons_succ, this, List.set_cons_succ, fcells_cons]
theorem fcells_one : ∀ (l : List FileD), ∀ u ∈ fcells l, u.oneCell' = true
 | [], u, h => by cases h
 | f :: t, u, h => by
  rw [fcells_cons] at h
  rcases List.mem_cons.1 h with rfl | h; rfl
  rcases List.mem_cons.1 h with rfl | h; rfl
  rcases List.mem_cons.1 h with rfl | h; rfl
  exact fcells_one t u h
/-- a cell of an owned row is stored into -/
theorem ownsRow_setN {w : World} {base e size g n cap : Nat} {xs : List Value} (h : w.ownsRow base e size (.slice (some ⟨g, 0, none⟩) n cap) n xs) (i : Nat) (v : Value) :
  (w.setCell ⟨g, i, none⟩ v).ownsRow base e size (.slice (some ⟨g, 0, none⟩) n cap) n (xs.set i v) := by
 obtain ⟨h1, h2⟩ := h
 refine ⟨by simpa using h1, ?_⟩
 rcases h2 with ⟨h2, _⟩ | ⟨g', cap', cur, hv, hg, hh, hnc, hcm, hcs, ht⟩
 ·simp at h2
 ·simp only [Value.slice.injEq, Option.some.injEq, Addr.mk.injEq, and_true] at hv
  obtain ⟨rfl, -, rfl⟩ := hv
  refine .inr ⟨g, cap, cur.setIfInBounds i v, rfl, hg, block_set hh i v, hnc, hcm, by simpa using hcs, ?_⟩
  rw [Array.toList_setIfInBounds, ← ht, List.take_set]

/-! ### the disk -/
structure RefAt (w : World) (rb : Nat) (lv : Value) (D : DiskD) : Prop where
 head : w.heap[rb]? = some (.cells #[lv, .int .i64 D.most, .int .i64 D.fuse, .bool D.dead] 82 (0, 0))
 row : w.ownsRow 0 137 3 lv D.files.length (fcells D.files)
 inv : InvD D
def OwnR (rb : Nat) (lv : Value) (k : Nat) : Prop := k = rb ∨ lv.ownBlock = some k
section
variable {w w' : World} {rb : Nat} {lv : Value} {D : DiskD} {n : List UInt8} {f : FileD}
theorem RefAt.ne (h : RefAt w rb lv D) : lv.ownBlock ≠ some rb := by
 intro e
 rcases h.row.2 with ⟨rfl, _⟩ | ⟨g, cap, cur, rfl, _, hh, _⟩
 ·cases e
 ·obtain rfl : g = rb := Option.some.inj e
  rw [h.head] at hh
  injection Option.some.inj hh with h1 h2
  cases h2
theorem RefAt.fr {o : Nat → Prop} (h : RefAt w rb lv D) (hf : Fr o w w') (ho : ∀ k, OwnR rb lv k → ¬ o k) : RefAt w' rb lv D :=
 ⟨hf.keep h.head (ho _ (.inl rfl)), ownsRow_keep h.row fun k hk => hf.block k (h.row.lt k hk).2 (ho k (.inr hk)), h.inv⟩
theorem RefAt.grow (h : RefAt w rb lv D) (hf : Fr (fun _ => False) w w') : RefAt w' rb lv D := h.fr hf fun _ _ h => h
theorem RefAt.lt (h : RefAt w rb lv D) {k : Nat} (hk : OwnR rb lv k) : k < w.heap.size := by
 rcases hk with rfl | hk
 ·exact lt_of_block h.head
 ·exact (h.row.lt k hk).2
theorem RefAt.cells (h : RefAt w rb lv D) : w.cell? ⟨rb, 0, none⟩ = some lv ∧ w.cell? ⟨rb, 1, none⟩ = some (.int .i64 D.most) ∧ w.cell? ⟨rb, 2, none⟩ = some (.int .i64 D.fuse) ∧ w.cell? ⟨rb, 3, none⟩ = some (.bool D.dead) :=
 ⟨cell_of h.head rfl, cell_of h.head rfl, cell_of h.head rfl, cell_of h.head rfl⟩
theorem RefAt.slice (h : RefAt w rb lv D) : ∃ a cap, lv = .slice a D.files.length cap ∧ D.files.length ≤ cap ∧ cap ≤ 9223372036854775807 ∧ ∀ i f, D.files[i]? = some f → ∃ g, a = some ⟨g, 0, none⟩ ∧ g ≠ rb ∧ w.cell? ⟨g, i * 3, none⟩ = some (.string (bs f.name)) ∧ w.cell? ⟨g, i * 3 + 1, none⟩ = some (.string (bs f.bytes)) ∧ w.cell? ⟨g, i * 3 + 2, none⟩ = some (.int .i64 f.synced) ∧ w.frozen? ⟨g, i * 3 + 1, none⟩ = false ∧ w.frozen? ⟨g, i * 3 + 2, none⟩ = false := by
 obtain ⟨_, a, cap, e, h3, h4, _, _⟩ := SRow.of_owns h.row
 refine ⟨a, cap, e, h3, by unfold maxLen at h4; exact h4, fun i f hf => ?_⟩
 have hi := (List.getElem?_eq_some_iff.1 hf).1
 obtain ⟨g, cap', e', _, _, _⟩ := ownsRow_form h.row (by omega)
 have hne := h.ne
 rw [e'] at e
 injection e with e1 e2 e3
 subst e1
 have hc := h.row.cells (g := g) (by rw [e']; rfl)
 obtain ⟨c0, c1, c2⟩ := fcells_at hf
 have k0 := hc _ _ c0
 have k1 := hc _ _ c1
 have k2 := hc _ _ c2
 rw [Addr.add_lit, Nat.zero_add] at k0 k1 k2
 have hr := h.row
 rw [e'] at hr
 exact ⟨g, rfl, fun e => by rw [e'] at hne; exact hne (by rw [e]; rfl), k0, k1, k2, ownsRow_free hr _, ownsRow_free hr _⟩

/-! ### New -/
def RNewPost (most : Int) (w : World) (e : Ending) (w' : World) : Prop := ∃ rb, e = .returned (.tuple #[.pointer (some ⟨rb, 0, none⟩), .bool (decide (0 ≤ most ∧ most ≤ 10000000))]) ∧ w'.heap[rb]? = some (.cells #[.slice none 0 0, .int .i64 most, .int .i64 (-1), .bool false] 82 (0, 0)) ∧ Fr (fun _ => False) w w' ∧ w.heap.size ≤ rb
theorem rnew_h (most : Int) : Calls Tryz.prog 31 #[.int .i64 most] w (RNewPost most w) := by
 have key : ∀ b : Bool, b = decide (0 ≤ most ∧ most ≤ 10000000) → RNewPost most w (.returned (.tuple #[.pointer (some ⟨w.heap.size, 0, none⟩), .bool b])) (w.alloc (.cells #[.slice none 0 0, .int .i64 most, .int .i64 (-1), .bool false] 82)) := by
  intro b hb
  rw [hb]
  exact ⟨w.heap.size, rfl, block_new _ _, (Fr.refl _ _).alloc _, Nat.le_refl _⟩
 have HK := Lib.hid key
 clear key
 by_cases h0 : 0 ≤ most
 ·have d1 : decide (0 ≤ most) = true := by simpa using h0
  by_cases h1 : most ≤ 10000000
  ·have d2 : decide (most ≤ 10000000) = true := by simpa using h1
   have HD := Lib.hid (show true = decide (0 ≤ most ∧ most ≤ 10000000) by simp [h0, h1])
   clear h0 h1
   go_enter Tryz.func31, Tryz.ntmps31
   go_wp2_with fail
   go_ret2
   exact HK.out _ HD.out
  ·have d2 : decide (most ≤ 10000000) = false := by simpa using h1
   have HD := Lib.hid (show false = decide (0 ≤ most ∧ most ≤ 10000000) by simp [h1])
   clear h0 h1
   go_enter Tryz.func31, Tryz.ntmps31
   go_wp2_with fail
   go_ret2
   exact HK.out _ HD.out
 ·have d1 : decide (0 ≤ most) = false := by simpa using h0
  have HD := Lib.hid (show false = decide (0 ≤ most ∧ most ≤ 10000000) by simp [h0])
  clear h0
  go_enter Tryz.func31, Tryz.ntmps31
  go_wp2_with fail
  go_ret2
  exact HK.out _ HD.out
theorem ref_new {most : Int} (h : w.heap[rb]? = some (.cells #[.slice none 0 0, .int .i64 most, .int .i64 (-1), .bool false] 82 (0, 0))) (h0 : 0 ≤ most) (h1 : most ≤ 10000000) : RefAt w rb (.slice none 0 0) (newD most) :=
 ⟨h, World.ownsRow_nil _ _ _ _, InvD.new h0 h1⟩

/-! ### find -/
theorem less_yes {a b : List UInt8} (h : a < b) : Op.bytesLess a b = true := by rw [Go.Proofs.bytesLess_eq]; exact decide_eq_true h
theorem less_not {a b : List UInt8} (h : ¬ a < b) : Op.bytesLess a b = false := by rw [Go.Proofs.bytesLess_eq]; exact decide_eq_false h
def FindRel (l : List FileD) (n : List UInt8) (j : Nat) (v : Value) : Prop := ∃ k : Nat, k + j = l.length ∧ v = .int .i64 k ∧ ∀ i f, i < k → l[i]? = some f → f.name < n
theorem find_next {l : List FileD} {k : Nat} (h : ∀ i f, i < k → l[i]? = some f → f.name < n) (hf : l[k]? = some f) (hl : f.name < n) : ∀ i f, i < k + 1 → l[i]? = some f → f.name < n := by
 intro i g hi hg
 by_cases e : i = k
 ·subst e; rw [hf] at hg; obtain rfl := Option.some.inj hg; exact hl
 ·exact h i g (by omega) hg
def FindPost (D : DiskD) (n : List UInt8) (w : World) (e : Ending) (w' : World) : Prop := e = .returned (.tuple #[.int .i64 (posF D.files n), .bool (getF D.files n).isSome]) ∧ Fr (fun _ => False) w w'
set_option maxHeartbeats 2000000 in
theorem rfind_h (h : RefAt w rb lv D) (n : List UInt8) : Calls Tryz.prog 78 #[.pointer (some ⟨rb, 0, none⟩), .string (bs n)] w (FindPost D n w) := by
 obtain ⟨c0, c1, c2, c3⟩ := h.cells
 obtain ⟨a, cap, rfl, hn1, hn2, hrow⟩ := h.slice
 have HR := Lib.hid hrow
 have HS := Lib.hid h.inv.sorted
 have hl40 := h.inv.many
 have tn := bs_toList n
 clear hrow h c1 c2 c3
 go_enter Tryz.func78, Tryz.ntmps78
 go_wp2_with fail
 go_loopg [6] (D.files.length) (fun j v wr => FindRel D.files n j v ∧ w = wr)
 case atStart => exact ⟨⟨0, by omega, rfl, fun i f hi => absurd hi (Nat.not_lt_zero _)⟩, rfl⟩
 case round =>
  obtain ⟨⟨k, hk, rfl, hno⟩, rfl⟩ := hrel
  have HK := Lib.hid (And.intro hk hno)
  clear hk hno
  by_cases hlt : k < D.files.length
  ·obtain ⟨f, hf⟩ : ∃ f, D.files[k]? = some f := ⟨_, List.getElem?_eq_getElem hlt⟩
   obtain ⟨g, rfl, _, q0, q1, q2, q3, q4⟩ := HR.out k f hf
   have tf := bs_toList f.name
   have HF := Lib.hid hf
   clear hf q1 q2 q3 q4
   by_cases hl : f.name < n
   ·have d1 := less_yes hl
    have HL := Lib.hid hl
    clear hl
    go_wp2_with fail
    go_roundg (D.files.length - (k + 1))
    case measure => have := HK.out.1; omega
    case rel => exact ⟨⟨k + 1, by omega, by go_num, find_next HK.out.2 HF.out HL.out⟩, rfl⟩
   ·have d1 := less_not hl
    have HP := Lib.hid (show posF D.files n = k from pos_at (by omega) HK.out.2 (fun f' hf' => by rw [HF.out] at hf'; obtain rfl := Option.some.inj hf'; exact hl))
    have hg := get_pos (n := n) HS.out
    rw [HP.out, HF.out] at hg
    by_cases he : f.name = n
    ·have d2 : (f.name == n) = true := by simpa using he
     have HG := Lib.hid (show (getF D.files n).isSome = true by rw [hg]; simp [he])
     clear hg hl he
     go_wp2_with fail
     go_quiet (fail)
     go_wp2_with fail
     go_ret2
     exact ⟨by rw [HP.out, HG.out] <;> rfl, (Fr.refl _ _).drewN _⟩
    ·have d2 : (f.name == n) = false := by simpa using he
     have HG := Lib.hid (show (getF D.files n).isSome = false by rw [hg]; simp [he])
     clear hg hl he
     go_wp2_with fail
     go_quiet (fail)
     go_wp2_with fail
     go_ret2
     exact ⟨by rw [HP.out, HG.out] <;> rfl, (Fr.refl _ _).drewN _⟩
  ·have HP := Lib.hid (show posF D.files n = k from pos_at (by have := HK.out.1; omega) HK.out.2 (fun f hf => absurd (List.getElem?_eq_some_iff.1 hf).1 hlt))
   have hg := get_pos (n := n) HS.out
   rw [HP.out, List.getElem?_eq_none (by omega)] at hg
   have HG := Lib.hid (show (getF D.files n).isSome = false by rw [hg]; rfl)
   clear hg
   go_wp2_with fail
   go_quiet (fail)
   go_wp2_with fail
   go_ret2
   exact ⟨by rw [HP.out, HG.out] <;> rfl, (Fr.refl _ _).drewN _⟩

/-! ### Size -/
theorem total_take {l : List FileD} (i : Nat) : total (l.take i) ≤ total l := by
 have h1 := congrArg total (List.take_append_drop i l)
 unfold total at h1 ⊢
 rw [List.map_append, List.sum_append] at h1
 omega
theorem total_snoc {l : List FileD} {i : Nat} (hf : l[i]? = some f) : total (l.take (i + 1)) = total (l.take i) + f.bytes.length := by
 unfold total
 rw [List.take_add_one, hf, List.map_append, List.sum_append]
 simp
theorem rsize_h (h : RefAt w rb lv D) : Calls Tryz.prog 79 #[.pointer (some ⟨rb, 0, none⟩)] w fun e w' => e = .returned (.int .i64 (total D.files)) ∧ w = w' := by
 obtain ⟨c0, c1, c2, c3⟩ := h.cells
 obtain ⟨a, cap, rfl, hn1, hn2, hrow⟩ := h.slice
 have HR := Lib.hid hrow
 have hl40 := h.inv.many
 have htot : total D.files ≤ 10000000 := by have := h.inv.full; have := h.inv.most; omega
 clear hrow h c1 c2 c3
 go_enter Tryz.func79, Tryz.ntmps79
 go_wp2_with fail
 go_loopg [3, 4] (D.files.length) (fun j u v wr => (∃ k : Nat, k + j = D.files.length ∧ v = .int .i64 k ∧ u = .int .i64 (total (D.files.take k))) ∧ w = wr)
 case atStart => exact ⟨⟨0, by omega, rfl, rfl⟩, rfl⟩
 case round =>
  obtain ⟨⟨k, hk, rfl, rfl⟩, rfl⟩ := hrel
  have HK := Lib.hid hk
  clear hk
  by_cases hlt : k < D.files.length
  ·obtain ⟨f, hf⟩ : ∃ f, D.files[k]? = some f := ⟨_, List.getElem?_eq_getElem hlt⟩
   obtain ⟨g, rfl, _, q0, q1, q2, q3, q4⟩ := HR.out k f hf
   have hz : (bs f.bytes).size = f.bytes.length := rfl
   have hsn := total_snoc hf
   have h1 := total_take (l := D.files) (k + 1)
   have h2 : total (D.files.take k) + f.bytes.length ≤ 10000000 := by omega
   have HS := Lib.hid hsn
   clear hf q0 q2 q3 q4 hsn h1
   go_wp2_with fail
   go_roundg (D.files.length - (k + 1))
   case measure => have := HK.out; omega
   case rel => exact ⟨⟨k + 1, by omega, by go_num, by rw [HS.out]; go_num⟩, rfl⟩
  ·have HE := Lib.hid (show D.files.take k = D.files from List.take_of_length_le (by omega))
   go_wp2_with fail
   go_ret
   exact ⟨by rw [HE.out] <;> rfl, rfl⟩

/-! ### turn, Fuse -/
def RDoes (rb : Nat) (lv : Value) (p : Int × DiskD) (w : World) (e : Ending) (w' : World) : Prop := ∃ lv', e = .returned (.int .i64 p.1) ∧ RefAt w' rb lv' p.2 ∧ Fr (OwnR rb lv) w w' ∧ ∀ k, lv'.ownBlock = some k → lv.ownBlock = some k ∨ w.heap.size ≤ k
theorem ref_set (h : RefAt w rb lv D) {i : Nat} {v : Value} {D' : DiskD} (hf : D'.files = D.files) (hv : InvD D') (hc : (#[lv, .int .i64 D.most, .int .i64 D.fuse, .bool D.dead] : Array Value).setIfInBounds i v = #[lv, .int .i64 D'.most, .int .i64 D'.fuse, .bool D'.dead]) :
  RefAt (w.setCell ⟨rb, i, none⟩ v) rb lv D' := by
 have := block_set h.head i v
 rw [hc] at this
 exact ⟨this, by rw [hf]; exact ownsRow_keep h.row fun k hk => block_set_ne (fun e => h.ne (by rw [hk, e])), hv⟩
theorem rfuse_h (hD : RefAt w rb lv D) {k : Int} (hk : k ≤ 9223372036854775807) : Calls Tryz.prog 97 #[.pointer (some ⟨rb, 0, none⟩), .int .i64 k] w fun e w' => e = .returned (.tuple #[]) ∧ RefAt w' rb lv (fuseD D k) ∧ Fr (OwnR rb lv) w w' := by
 obtain ⟨c0, c1, c2, c3⟩ := hD.cells
 have f2 := free_of 2 hD.head
 by_cases hm : k < -1
 ·have hv : max k (-1) = -1 := by omega
  have HV := Lib.hid hv
  clear hv
  go_enter Tryz.func97, Tryz.ntmps97
  go_wp2_with fail
  go_end0
  refine ⟨rfl, ?_, (Fr.refl _ _).setCell (.inl (.inl rfl)) _⟩
  refine ref_set hD rfl (hD.inv.fused k hk) ?_
  simp [fuseD, HV.out]
 ·have hm2 : -1 ≤ k := by omega
  have hv : max k (-1) = k := by omega
  have HV := Lib.hid hv
  clear hv hm
  go_enter Tryz.func97, Tryz.ntmps97
  go_wp2_with fail
  go_end0
  refine ⟨rfl, ?_, (Fr.refl _ _).setCell (.inl (.inl rfl)) _⟩
  refine ref_set hD rfl (hD.inv.fused k hk) ?_
  simp [fuseD, HV.out]
theorem rturn_h (hD : RefAt w rb lv D) : Calls Tryz.prog 80 #[.pointer (some ⟨rb, 0, none⟩)] w fun e w' => e = .returned (.int .i64 (turnD D).1) ∧ RefAt w' rb lv (turnD D).2 ∧ Fr (OwnR rb lv) w w' := by
 obtain ⟨c0, c1, c2, c3⟩ := hD.cells
 have f2 := free_of 2 hD.head
 have f3 := free_of 3 hD.head
 have hi := hD.inv.turn
 have hfu := hD.inv.fuse
 by_cases hz : D.fuse = 0
 ·have e : turnD D = (7, { D with dead := true }) := by unfold turnD; rw [if_pos hz]
  have d1 : (D.fuse == 0) = true := by simpa using hz
  have HE := Lib.hid e
  have HI := Lib.hid hi
  clear hz e hi
  go_enter Tryz.func80, Tryz.ntmps80
  go_wp2_with fail
  go_ret
  have hi := HI.out
  rw [HE.out] at hi ⊢
  exact ⟨rfl, ref_set hD rfl hi (by simp), (Fr.refl _ _).setCell (.inl (.inl rfl)) _⟩
 ·have e : turnD D = (0, { D with fuse := max (D.fuse - 1) (-1) }) := by unfold turnD; rw [if_neg hz]
  have d1 : (D.fuse == 0) = false := by simpa using hz
  by_cases hp : 0 < D.fuse
  ·have d2 : decide (0 < D.fuse) = true := by simpa using hp
   have hm : max (D.fuse - 1) (-1) = D.fuse - 1 := by omega
   rw [hm] at e
   have HE := Lib.hid e
   have HI := Lib.hid hi
   clear hz e hi hm
   go_enter Tryz.func80, Tryz.ntmps80
   go_wp2_with fail
   go_ret
   have hi := HI.out
   rw [HE.out] at hi ⊢
   exact ⟨rfl, ref_set hD rfl hi (by simp), (Fr.refl _ _).setCell (.inl (.inl rfl)) _⟩
  ·have d2 : decide (0 < D.fuse) = false := by simpa using hp
   have hm : max (D.fuse - 1) (-1) = D.fuse := by omega
   rw [hm] at e
   have HE := Lib.hid e
   have HI := Lib.hid hi
   clear hz e hi hm
   go_enter Tryz.func80, Tryz.ntmps80
   go_wp2_with fail
   go_ret
   have hi := HI.out
   rw [HE.out] at hi ⊢
   exact ⟨rfl, ⟨hD.head, hD.row, hi⟩, Fr.refl _ _⟩

/-! ### there, Read -/
def thereD (D : DiskD) (n : List UInt8) : Int × Int := if D.dead then (0, 7) else if (getF D.files n).isSome then (((posF D.files n : Nat) : Int), 0) else (0, 4)
theorem there_h (h : RefAt w rb lv D) (n : List UInt8) : Calls Tryz.prog 139 #[.pointer (some ⟨rb, 0, none⟩), .string (bs n)] w fun e w' => e = .returned (.tuple #[.int .i64 (thereD D n).1, .int .i64 (thereD D n).2]) ∧ Fr (fun _ => False) w w' := by
 obtain ⟨c0, c1, c2, c3⟩ := h.cells
 cases hd : D.dead with
 | true =>
  have HE := Lib.hid (show thereD D n = (0, 7) by unfold thereD; rw [if_pos hd])
  rw [hd] at c3
  clear hd
  go_enter Tryz.func139, Tryz.ntmps139
  go_wp2_with fail
  go_ret2
  exact ⟨by rw [HE.out] <;> rfl, Fr.refl _ _⟩
 | false =>
  have hne : ¬ D.dead = true := by rw [hd]; simp
  have HF := Lib.hid (rfind_h h n)
  unfold FindPost at HF
  rw [hd] at c3
  cases hg : (getF D.files n).isSome with
  | true =>
   have HE := Lib.hid (show thereD D n = (((posF D.files n : Nat) : Int), 0) by unfold thereD; rw [if_neg hne, if_pos hg])
   rw [hg] at HF
   clear hd hg hne
   go_enter Tryz.func139, Tryz.ntmps139
   go_wp2_with fail
   refine Calls.mono HF.out ?_
   rintro e w1 ⟨rfl, hf⟩
   have HF1 := Lib.hid hf
   clear hf
   go_wp2_with fail
   go_ret2
   exact ⟨by rw [HE.out] <;> rfl, HF1.out⟩
  | false =>
   have HE := Lib.hid (show thereD D n = (0, 4) by unfold thereD; rw [if_neg hne, if_neg (by rw [hg]; simp)])
   rw [hg] at HF
   clear hd hg hne
   go_enter Tryz.func139, Tryz.ntmps139
   go_wp2_with fail
   refine Calls.mono HF.out ?_
   rintro e w1 ⟨rfl, hf⟩
   have HF1 := Lib.hid hf
   clear hf
   go_wp2_with fail
   go_ret2
   exact ⟨by rw [HE.out] <;> rfl, HF1.out⟩
theorem there_none (hd : D.dead = false) (hg : getF D.files n = none) : thereD D n = (0, 4) := by unfold thereD; rw [if_neg (by rw [hd]; simp), if_neg (by rw [hg]; simp)]
theorem there_some (hd : D.dead = false) (hg : getF D.files n = some f) : thereD D n = (((posF D.files n : Nat) : Int), 0) := by unfold thereD; rw [if_neg (by rw [hd]; simp), if_pos (by rw [hg]; simp)]
theorem there_dead (hd : D.dead = true) : thereD D n = (0, 7) := by unfold thereD; rw [if_pos hd]
theorem rread_h (h : RefAt w rb lv D) (n : List UInt8) : Calls Tryz.prog 88 #[.pointer (some ⟨rb, 0, none⟩), .string (bs n)] w fun e w' => e = .returned (.tuple #[.string (bs (readD D n).1), .int .i64 (readD D n).2]) ∧ Fr (fun _ => False) w w' := by
 have HT := Lib.hid (there_h h n)
 cases hd : D.dead with
 | true =>
  rw [there_dead hd] at HT
  have HE := Lib.hid (show readD D n = ([], 7) by unfold readD; rw [if_pos hd])
  clear hd h
  go_enter Tryz.func88, Tryz.ntmps88
  go_wp2_with fail
  refine Calls.mono HT.out ?_
  rintro e w1 ⟨rfl, hf⟩
  have HF1 := Lib.hid hf
  clear hf
  go_wp2_with fail
  go_ret2
  exact ⟨by rw [HE.out] <;> rfl, HF1.out⟩
 | false =>
  cases hg : getF D.files n with
  | none =>
   rw [there_none hd hg] at HT
   have HE := Lib.hid (show readD D n = ([], 4) by unfold readD; rw [if_neg (by rw [hd]; simp), hg])
   clear hd hg h
   go_enter Tryz.func88, Tryz.ntmps88
   go_wp2_with fail
   refine Calls.mono HT.out ?_
   rintro e w1 ⟨rfl, hf⟩
   have HF1 := Lib.hid hf
   clear hf
   go_wp2_with fail
   go_ret2
   exact ⟨by rw [HE.out] <;> rfl, HF1.out⟩
  | some f =>
   rw [there_some hd hg] at HT
   have HE := Lib.hid (show readD D n = (f.bytes, 0) by unfold readD; rw [if_neg (by rw [hd]; simp), hg])
   have HA := Lib.hid (get_at h.inv.sorted hg)
   have hlt := (List.getElem?_eq_some_iff.1 HA.out).1
   have hl40 := h.inv.many
   have HX := Lib.hid h
   clear hd hg h
   generalize posF D.files n = k at *
   go_enter Tryz.func88, Tryz.ntmps88
   go_wp2_with fail
   refine Calls.mono HT.out ?_
   rintro e w1 ⟨rfl, hf⟩
   have HX1 := HX.out.grow hf
   have HF1 := Lib.hid hf
   obtain ⟨c0, _, _, _⟩ := HX1.cells
   obtain ⟨a, cap, rfl, hn1, hn2, hrow⟩ := HX1.slice
   obtain ⟨g, rfl, _, q0, q1, q2, q3, q4⟩ := hrow k f HA.out
   clear hf hrow HX1 q0 q2 q3 q4
   go_wp2_with fail
   go_ret2
   exact ⟨by rw [HE.out] <;> rfl, HF1.out⟩
end
end Go.Proofs.YtgmghopcppniaaaGreatDoor

/- The reference's rows: without, with. -/
namespace Go.Proofs.YtgmghopcppniaaaGreatDoor
open Go.RowKit Go.Lib

theorem info48 : (Tryz.prog.info? 137).map (fun i => (i.zero, i.size, i.bytes)) = some (some (.agg #[.string ⟨#[]⟩, .string ⟨#[]⟩, .int .i64 0]), 3, 40) := by kernel_rfl
def RowPost (l : List FileD) (w : World) (e : Ending) (w' : World) : Prop := ∃ v, e = .returned v ∧ w'.ownsRow w.heap.size 137 3 v l.length (fcells l) ∧ Fr (fun _ => False) w w'
section
variable {w w' : World} {rb : Nat} {lv : Value} {D : DiskD} {n : List UInt8} {f : FileD}
theorem erase_parts {l : List FileD} {i : Nat} (hi : i < l.length) : l.eraseIdx i = l.take i ++ l.drop (i + 1) ∧ (l.eraseIdx i).length = i + (l.length - (i + 1)) := by
 refine ⟨List.eraseIdx_eq_take_drop_succ l i, ?_⟩
 rw [List.length_eraseIdx_of_lt hi]; omega
theorem without_close {w w4 : World} {l : List FileD} {i cap3 : Nat} {b3 : Option Addr} (hi : i < l.length)
  (hrow : w4.ownsRow w.heap.size 137 3 (.slice b3 (i + (l.length - (i + 1))) cap3) (i + (l.length - (i + 1))) (fcells (l.take i) ++ fcells (l.drop (i + 1)))) (hF : Fr (fun k => w.heap.size ≤ k) w w4) : RowPost (l.eraseIdx i) w (.returned (.slice b3 (i + (l.length - (i + 1))) cap3)) w4 := by
 obtain ⟨e1, e2⟩ := erase_parts hi
 refine ⟨_, rfl, ?_, hF.mono fun k hk h => absurd h (by omega)⟩
 rw [e2, e1, fcells_append]; exact hrow
set_option maxRecDepth 100000 in
set_option maxHeartbeats 8000000 in
theorem rwithout_h (h : RefAt w rb lv D) {i : Nat} (hi : i < D.files.length) : Calls Tryz.prog 187 #[.pointer (some ⟨rb, 0, none⟩), .int .i64 i] w (RowPost (D.files.eraseIdx i) w) := by
 obtain ⟨i0, hinf, hz0, hz1, hz2⟩ := info_parts info48
 obtain ⟨c0, _, _, _⟩ := h.cells
 have hSR := SRow.of_owns h.row
 have hlt1 := fun k => h.row.lt k
 obtain ⟨a, cap, rfl, hn1, hn2, _⟩ := h.slice
 have hl40 := h.inv.many
 have HC := Lib.hid (fun (b3 : Option Addr) (cap3 : Nat) (w4 : World) => without_close (w := w) (w4 := w4) (b3 := b3) (cap3 := cap3) hi)
 obtain ⟨j, hj⟩ : ∃ j, i + 1 = j := ⟨_, rfl⟩
 have hhead := SRow.head hSR (Nat.le_of_lt hi)
 have htail := SRow.tail hSR (k := j) (by omega)
 rw [fcells_take] at hhead
 rw [fcells_drop] at htail
 rw [hj] at HC
 have hS : ∀ k, (Value.slice a D.files.length cap).ownBlock = some k → ¬ w.heap.size ≤ k := fun k hk => by have := (hlt1 k hk).2; omega
 have hw1 : IntKind.i64.wrap ((i : Int) + 1) = (j : Int) := by rw [IntWalk.i64_in _ (by omega)]; omega
 have hjn : j ≤ D.files.length := by omega
 have hjc : j ≤ cap := by omega
 have hic : i ≤ cap := by omega
 have hin : i ≤ D.files.length := by omega
 have hij : i + (D.files.length - j) ≤ 40 := by omega
 have hrb : rb < w.heap.size := h.lt (.inl rfl)
 have hrb1 : rb < w.heap.size + 1 := by omega
 have HCW := Lib.hid (fun (w2 : World) (hF : Fr (fun k => w.heap.size ≤ k) w w2) => hF.cell c0 (fun k => absurd k (Nat.not_le.2 hrb)))
 have HH := Lib.hid (And.intro hhead (And.intro htail hS))
 clear hhead htail hSR hlt1 h hj hS
 go_enter Tryz.func187, Tryz.ntmps187
 go_wp2_with fail
 go_region_law (first
  | (refine step_append_row rfl (.tmp 5) (.tmp 11) 80 rfl w.heap.size 137 i0 (.agg #[.string ⟨#[]⟩, .string ⟨#[]⟩, .int .i64 0]) 3 40 Tryz.underlying80 hinf hz0 hz1 hz2 rfl (by decide) (.slice (some ⟨_, 0, none⟩) 0 0) 0 [] rfl (ownsRow_empty (by first | exact block_new_at (by simp) | exact block_old (block_new_at (by simp)) _) (by omega)) _ _ i (fcells (D.files.take i)) rfl (HH.out.1.fr (o := fun k => w.heap.size ≤ k) (by repeat (first | exact Fr.refl _ _ | refine Fr.drew ?_ | refine Fr.alloc ?_ _)) HH.out.2.2) (fcells_one _) (by unfold maxLen; omega) (by omega) (by simp <;> omega) ?_; intro b1 cap1 w2 hrow1 hgrow1 hat1; have hF1 : Fr (fun k => w.heap.size ≤ k) w w2 := Fr.next (by repeat (first | exact Fr.refl _ _ | refine Fr.drew ?_ | refine Fr.alloc ?_ _)) hat1; simp only [Nat.zero_add, List.nil_append] at hrow1; have cw2 := HCW.out w2 hF1; have hrw2 : rb < w2.heap.size := Nat.lt_of_lt_of_le hrb hF1.size)
  | (refine step_append_row rfl (.tmp 12) (.tmp 19) 80 rfl w.heap.size 137 i0 (.agg #[.string ⟨#[]⟩, .string ⟨#[]⟩, .int .i64 0]) 3 40 Tryz.underlying80 hinf hz0 hz1 hz2 rfl (by decide) (.slice b1 i cap1) i _ rfl hrow1 _ _ (D.files.length - j) (fcells (D.files.drop j)) rfl (HH.out.2.1.fr hF1 HH.out.2.2) (fcells_one _) (by unfold maxLen; omega) (by omega) hF1.size ?_; intro b3 cap3 w4 hrow3 hgrow3 hat3; have hF3 : Fr (fun k => w.heap.size ≤ k) w w4 := Fr.next hF1 hat3))
 all_goals (go_wp2_with fail)
 all_goals
  go_ret
  exact HC.out _ _ _ hrow3 hF3

theorem with_close {w w0 w4 : World} {l : List FileD} {f : FileD} {i cap3 : Nat} {b3 : Option Addr} (hi : i ≤ l.length) (h0 : Fr (fun _ => False) w w0)
  (hrow : w4.ownsRow w0.heap.size 137 3 (.slice b3 (i + 1 + (l.length - i)) cap3) (i + 1 + (l.length - i)) (fcells (l.take i) ++ fcells [f] ++ fcells (l.drop i))) (hF : Fr (fun k => w0.heap.size ≤ k) w0 w4) : RowPost (l.take i ++ f :: l.drop i) w (.returned (.slice b3 (i + 1 + (l.length - i)) cap3)) w4 := by
 have e2 : (l.take i ++ f :: l.drop i).length = i + 1 + (l.length - i) := by rw [List.length_append, List.length_take, List.length_cons, List.length_drop]; omega
 have e1 : fcells (l.take i ++ f :: l.drop i) = fcells (l.take i) ++ fcells [f] ++ fcells (l.drop i) := by
  rw [show l.take i ++ f :: l.drop i = (l.take i ++ [f]) ++ l.drop i by simp, fcells_append, fcells_append]
 refine ⟨_, rfl, ?_, h0.trans hF fun k hk => .inr (Nat.le_trans h0.size hk)⟩
 rw [e2, e1]; exact ownsRow_base hrow h0.size
set_option maxRecDepth 100000 in
set_option maxHeartbeats 8000000 in
theorem rwith_h (h : RefAt w rb lv D) (f : FileD) : Calls Tryz.prog 81 #[.pointer (some ⟨rb, 0, none⟩), .agg #[.string (bs f.name), .string (bs f.bytes), .int .i64 f.synced]] w (RowPost (D.files.take (posF D.files f.name) ++ f :: D.files.drop (posF D.files f.name)) w) := by
 obtain ⟨i0, hinf, hz0, hz1, hz2⟩ := info_parts info48
 have hF0 : Fr (fun _ => False) w (w.alloc (.cells #[.string (bs f.name), .string (bs f.bytes), .int .i64 f.synced] 137)) := (Fr.refl _ _).alloc _
 have hb0 : (w.alloc (.cells #[.string (bs f.name), .string (bs f.bytes), .int .i64 f.synced] 137)).heap[w.heap.size]? = some (.cells #[.string (bs f.name), .string (bs f.bytes), .int .i64 f.synced] 137) := block_new _ _
 have cb := cell_of hb0 (i := 0) (v := .string (bs f.name)) rfl
 have HFI := Lib.hid (rfind_h (h.grow hF0) f.name)
 unfold FindPost at HFI
 have HX := Lib.hid (And.intro hF0 (And.intro hb0 h))
 have hpl := pos_le D.files f.name
 clear h hF0 hb0
 generalize posF D.files f.name = i at *
 generalize (getF D.files f.name).isSome = is at *
 go_enter Tryz.func81, Tryz.ntmps81
 go_wp2_with fail
 generalize w.alloc (.cells #[.string (bs f.name), .string (bs f.bytes), .int .i64 f.synced] 137) = w0 at *
 refine Calls.mono HFI.out ?_
 rintro e w1 ⟨rfl, hf⟩
 have hX1 := (HX.out.2.2.grow HX.out.1).grow hf
 have hb1 := hf.keep HX.out.2.1 (fun h => h)
 have k0 := cell_of hb1 (i := 0) (v := .string (bs f.name)) rfl
 have k1 := cell_of hb1 (i := 1) (v := .string (bs f.bytes)) rfl
 have k2 := cell_of hb1 (i := 2) (v := .int .i64 f.synced) rfl
 obtain ⟨c0, _, _, _⟩ := hX1.cells
 have hSR := SRow.of_owns hX1.row
 have hlt1 := fun k => hX1.row.lt k
 obtain ⟨a, cap, rfl, hn1, hn2, _⟩ := hX1.slice
 have hl40 := hX1.inv.many
 have hhead := SRow.head hSR hpl
 have htail := SRow.tail hSR hpl
 rw [fcells_take] at hhead
 rw [fcells_drop] at htail
 have hS : ∀ k, (Value.slice a D.files.length cap).ownBlock = some k → ¬ w1.heap.size ≤ k := fun k hk => by have := (hlt1 k hk).2; omega
 have hic : i ≤ cap := by omega
 have HC := Lib.hid (fun (b3 : Option Addr) (cap3 : Nat) (w4 : World) => with_close (w := w) (w0 := w1) (w4 := w4) (f := f) (b3 := b3) (cap3 := cap3) hpl (HX.out.1.next hf))
 have hrb : rb < w1.heap.size := hX1.lt (.inl rfl)
 have hbx : w.heap.size < w1.heap.size := lt_of_block hb1
 have hrb1 : rb < w1.heap.size + 1 := by omega
 have hbx1 : w.heap.size < w1.heap.size + 1 := by omega
 have HCW := Lib.hid (fun (w2 : World) (hF : Fr (fun k => w1.heap.size ≤ k) w1 w2) => And.intro (hF.cell c0 (fun k => absurd k (Nat.not_le.2 hrb))) (And.intro (hF.cell k0 (fun k => absurd k (Nat.not_le.2 hbx))) (And.intro (hF.cell k1 (fun k => absurd k (Nat.not_le.2 hbx))) (And.intro (hF.cell k2 (fun k => absurd k (Nat.not_le.2 hbx))) (And.intro (Nat.lt_of_lt_of_le hrb hF.size) (Nat.lt_of_lt_of_le hbx hF.size))))))
 have HH := Lib.hid (And.intro hhead (And.intro htail hS))
 clear hhead htail hSR hlt1 hS hX1 hf hb1 HX cb
 go_wp2_with fail
 go_region_law (first
  | (refine step_append_row rfl (.tmp 14) (.tmp 20) 80 rfl w1.heap.size 137 i0 (.agg #[.string ⟨#[]⟩, .string ⟨#[]⟩, .int .i64 0]) 3 40 Tryz.underlying80 hinf hz0 hz1 hz2 rfl (by decide) (.slice (some ⟨_, 0, none⟩) 0 0) 0 [] rfl (ownsRow_empty (by first | exact block_new_at (by simp) | exact block_old (block_new_at (by simp)) _) (by omega)) _ _ i (fcells (D.files.take i)) rfl (HH.out.1.fr (o := fun k => w1.heap.size ≤ k) (by repeat (first | exact Fr.refl _ _ | refine Fr.drew ?_ | refine Fr.alloc ?_ _)) HH.out.2.2) (fcells_one _) (by unfold maxLen; omega) (by omega) (by simp <;> omega) ?_; intro b1 cap1 w2 hrow1 hgrow1 hat1; have hF1 : Fr (fun k => w1.heap.size ≤ k) w1 w2 := Fr.next (by repeat (first | exact Fr.refl _ _ | refine Fr.drew ?_ | refine Fr.alloc ?_ _)) hat1; simp only [Nat.zero_add, List.nil_append] at hrow1; obtain ⟨cw2, kw20, kw21, kw22, hrw2, hbw2⟩ := HCW.out w2 hF1)
  | (refine step_append_row rfl (.tmp 21) (.tmp 23) 80 rfl w1.heap.size 137 i0 (.agg #[.string ⟨#[]⟩, .string ⟨#[]⟩, .int .i64 0]) 3 40 Tryz.underlying80 hinf hz0 hz1 hz2 rfl (by decide) (.slice b1 i cap1) i _ rfl (by first | exact hrow1 | exact hrow1.alloc _) (fun _ => True) _ 1 [.string (bs f.name), .string (bs f.bytes), .int .i64 f.synced] rfl (SRow.of_block (e := 137) (f := (0, 0)) (by first | exact block_new_at (by simp) | (refine block_grown ?_ hgrow1 (by simp [Value.ownBlock]); first | exact block_new_drew (by simp) | exact block_old_drew (block_new_at rfl) _)) rfl (by decide) trivial) (fcells_one [f]) (by unfold maxLen; omega) (by omega) (by have := hF1.size; simp <;> omega) ?_; intro b2 cap2 w3 hrow2 hgrow2 hat2; have hF2 : Fr (fun k => w1.heap.size ≤ k) w1 w3 := Fr.next (by repeat (first | exact hF1 | refine Fr.drew ?_ | refine Fr.alloc ?_ _)) hat2; obtain ⟨cw3, kw30, kw31, kw32, hrw3, hbw3⟩ := HCW.out w3 hF2)
  | (refine step_append_row rfl (.tmp 24) (.tmp 30) 80 rfl w1.heap.size 137 i0 (.agg #[.string ⟨#[]⟩, .string ⟨#[]⟩, .int .i64 0]) 3 40 Tryz.underlying80 hinf hz0 hz1 hz2 rfl (by decide) (.slice b2 (i + 1) cap2) (i + 1) _ rfl hrow2 _ _ (D.files.length - i) (fcells (D.files.drop i)) rfl (HH.out.2.1.fr hF2 HH.out.2.2) (fcells_one _) (by unfold maxLen; omega) (by omega) hF2.size ?_; intro b3 cap3 w4 hrow3 hgrow3 hat3; have hF3 : Fr (fun k => w1.heap.size ≤ k) w1 w4 := Fr.next hF2 hat3))
 all_goals (go_wp2_with fail)
 all_goals
  go_ret
  exact HC.out _ _ _ hrow3 hF3
end
end Go.Proofs.YtgmghopcppniaaaGreatDoor
