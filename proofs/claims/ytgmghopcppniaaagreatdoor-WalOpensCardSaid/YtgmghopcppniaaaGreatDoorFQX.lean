/- FQX: what was pruned (development only). -/
import Derived.Test.YtgmghopcppniaaaGreatDoorFP
import Derived.Deep.RegionLaw
import Derived.Test.YtgmghopcppniaaaGreatDoorFQ
import Derived.StillTailTactics
import Derived.Deep.QuietTactic
import Derived.BigQuiet
namespace Go.Proofs.YtgmghopcppniaaaGreatDoor
open Go.RowKit Go.Lib

theorem del_pos {l : List FileD} {n : List UInt8} {f : FileD} (hs : Sorted l) (h : getF l n = some f) : delF l n = l.eraseIdx (posF l n) := by
  induction l with
  | nil => cases h
  | cons g t ih =>
    have hs' := sorted_cons.1 hs
    rw [get_cons] at h
    rw [del_cons, pos_cons]
    by_cases e : g.name = n
    · rw [if_pos e, if_neg (by rw [e]; exact str_lt_irrefl), List.eraseIdx_cons_zero]
      exact del_none (get_none.2 fun x hx => by rw [← e]; exact (str_lt_ne (hs'.1 x hx)).symm)
    · rw [if_neg e] at h ⊢
      by_cases lt : g.name < n
      · rw [if_pos lt, List.eraseIdx_cons_succ, ih hs'.2 h]
      · have hlt := str_tri lt e
        obtain ⟨k1, k2⟩ := get_mem h
        exact absurd k2 (str_lt_ne (str_lt_trans hlt (hs'.1 f k1))).symm

/-! ### files as a row of cells -/
/-! ### the disk -/
section
variable {w w' : World} {rb : Nat} {lv : Value} {D : DiskD} {n : List UInt8} {f : FileD}
/-! ### New -/
/-! ### find -/
/-! ### Size -/
/-! ### turn, Fuse -/
/-! ### there, Read -/
theorem rread_h (h : RefAt w rb lv D) (n : List UInt8) : Calls Tryz.prog 88 #[.pointer (some ⟨rb, 0, none⟩), .string (bs n)] w fun e w' => e = .returned (.tuple #[.string (bs (readD D n).1), .int .i64 (readD D n).2]) ∧ Fr (fun _ => False) w w' := by
  have HT := Lib.hid (there_h h n)
  cases hd : D.dead with
  | true =>
    rw [there_dead hd] at HT
    have HE := Lib.hid (show readD D n = ([], 7) by unfold readD; rw [if_pos hd])
    clear hd h
    go_enter Tryz.func88, Tryz.ntmps88
    go_wp2_with fail
    refine Calls.mono HT.out ?_
    rintro e w1 ⟨rfl, hf⟩
    have HF1 := Lib.hid hf
    clear hf
    go_wp2_with fail
    go_ret2
    exact ⟨by rw [HE.out] <;> rfl, HF1.out⟩
  | false =>
    cases hg : getF D.files n with
    | none =>
      rw [there_none hd hg] at HT
      have HE := Lib.hid (show readD D n = ([], 4) by unfold readD; rw [if_neg (by rw [hd]; simp), hg])
      clear hd hg h
      go_enter Tryz.func88, Tryz.ntmps88
      go_wp2_with fail
      refine Calls.mono HT.out ?_
      rintro e w1 ⟨rfl, hf⟩
      have HF1 := Lib.hid hf
      clear hf
      go_wp2_with fail
      go_ret2
      exact ⟨by rw [HE.out] <;> rfl, HF1.out⟩
    | some f =>
      rw [there_some hd hg] at HT
      have HE := Lib.hid (show readD D n = (f.bytes, 0) by unfold readD; rw [if_neg (by rw [hd]; simp), hg])
      have HA := Lib.hid (get_at h.inv.sorted hg)
      have hlt := (List.getElem?_eq_some_iff.1 HA.out).1
      have hl40 := h.inv.many
      have HX := Lib.hid h
      clear hd hg h
      generalize posF D.files n = k at *
      go_enter Tryz.func88, Tryz.ntmps88
      go_wp2_with fail
      refine Calls.mono HT.out ?_
      rintro e w1 ⟨rfl, hf⟩
      have HX1 := HX.out.grow hf
      have HF1 := Lib.hid hf
      obtain ⟨c0, _, _, _⟩ := HX1.cells
      obtain ⟨a, cap, rfl, hn1, hn2, hrow⟩ := HX1.slice
      obtain ⟨g, rfl, _, q0, q1, q2, q3, q4⟩ := hrow k f HA.out
      clear hf hrow HX1 q0 q2 q3 q4
      go_wp2_with fail
      go_ret2
      exact ⟨by rw [HE.out] <;> rfl, HF1.out⟩
end
end Go.Proofs.YtgmghopcppniaaaGreatDoor

namespace Go.Proofs.YtgmghopcppniaaaGreatDoor
open Go.RowKit Go.Lib

section
variable {w w' : World} {rb : Nat} {lv : Value} {D : DiskD} {n : List UInt8} {f : FileD}
theorem erase_parts {l : List FileD} {i : Nat} (hi : i < l.length) : l.eraseIdx i = l.take i ++ l.drop (i + 1) ∧ (l.eraseIdx i).length = i + (l.length - (i + 1)) := by
  refine ⟨List.eraseIdx_eq_take_drop_succ l i, ?_⟩
  rw [List.length_eraseIdx_of_lt hi]; omega
theorem without_close {w w4 : World} {l : List FileD} {i cap3 : Nat} {b3 : Option Addr} (hi : i < l.length)
    (hrow : w4.ownsRow w.heap.size 137 3 (.slice b3 (i + (l.length - (i + 1))) cap3) (i + (l.length - (i + 1))) (fcells (l.take i) ++ fcells (l.drop (i + 1)))) (hF : Fr (fun k => w.heap.size ≤ k) w w4) : RowPost (l.eraseIdx i) w (.returned (.slice b3 (i + (l.length - (i + 1))) cap3)) w4 := by
  obtain ⟨e1, e2⟩ := erase_parts hi
  refine ⟨_, rfl, ?_, hF.mono fun k hk h => absurd h (by omega)⟩
  rw [e2, e1, fcells_append]; exact hrow
set_option maxRecDepth 100000 in
set_option maxHeartbeats 8000000 in
theorem rwithout_h (h : RefAt w rb lv D) {i : Nat} (hi : i < D.files.length) : Calls Tryz.prog 187 #[.pointer (some ⟨rb, 0, none⟩), .int .i64 i] w (RowPost (D.files.eraseIdx i) w) := by
  obtain ⟨i0, hinf, hz0, hz1, hz2⟩ := info_parts info48
  obtain ⟨c0, _, _, _⟩ := h.cells
  have hSR := SRow.of_owns h.row
  have hlt1 := fun k => h.row.lt k
  obtain ⟨a, cap, rfl, hn1, hn2, _⟩ := h.slice
  have hl40 := h.inv.many
  have HC := Lib.hid (fun (b3 : Option Addr) (cap3 : Nat) (w4 : World) => without_close (w := w) (w4 := w4) (b3 := b3) (cap3 := cap3) hi)
  obtain ⟨j, hj⟩ : ∃ j, i + 1 = j := ⟨_, rfl⟩
  have hhead := SRow.head hSR (Nat.le_of_lt hi)
  have htail := SRow.tail hSR (k := j) (by omega)
  rw [fcells_take] at hhead
  rw [fcells_drop] at htail
  rw [hj] at HC
  have hS : ∀ k, (Value.slice a D.files.length cap).ownBlock = some k → ¬ w.heap.size ≤ k := fun k hk => by have := (hlt1 k hk).2; omega
  have hw1 : IntKind.i64.wrap ((i : Int) + 1) = (j : Int) := by rw [IntWalk.i64_in _ (by omega)]; omega
  have hjn : j ≤ D.files.length := by omega
  have hjc : j ≤ cap := by omega
  have hic : i ≤ cap := by omega
  have hin : i ≤ D.files.length := by omega
  have hij : i + (D.files.length - j) ≤ 40 := by omega
  have hrb : rb < w.heap.size := h.lt (.inl rfl)
  have hrb1 : rb < w.heap.size + 1 := by omega
  have HCW := Lib.hid (fun (w2 : World) (hF : Fr (fun k => w.heap.size ≤ k) w w2) => hF.cell c0 (fun k => absurd k (Nat.not_le.2 hrb)))
  have HH := Lib.hid (And.intro hhead (And.intro htail hS))
  clear hhead htail hSR hlt1 h hj hS
  go_enter Tryz.func187, Tryz.ntmps187
  go_wp2_with fail
  go_region_law (first
    | (refine step_append_row rfl (.tmp 5) (.tmp 11) 80 rfl w.heap.size 137 i0 (.agg #[.string ⟨#[]⟩, .string ⟨#[]⟩, .int .i64 0]) 3 40 Tryz.underlying80 hinf hz0 hz1 hz2 rfl (by decide) (.slice (some ⟨_, 0, none⟩) 0 0) 0 [] rfl (ownsRow_empty (by first | exact block_new_at (by simp) | exact block_old (block_new_at (by simp)) _) (by omega)) _ _ i (fcells (D.files.take i)) rfl (HH.out.1.fr (o := fun k => w.heap.size ≤ k) (by repeat (first | exact Fr.refl _ _ | refine Fr.drew ?_ | refine Fr.alloc ?_ _)) HH.out.2.2) (fcells_one _) (by unfold maxLen; omega) (by omega) (by simp <;> omega) ?_; intro b1 cap1 w2 hrow1 hgrow1 hat1; have hF1 : Fr (fun k => w.heap.size ≤ k) w w2 := Fr.next (by repeat (first | exact Fr.refl _ _ | refine Fr.drew ?_ | refine Fr.alloc ?_ _)) hat1; simp only [Nat.zero_add, List.nil_append] at hrow1; have cw2 := HCW.out w2 hF1; have hrw2 : rb < w2.heap.size := Nat.lt_of_lt_of_le hrb hF1.size)
    | (refine step_append_row rfl (.tmp 12) (.tmp 19) 80 rfl w.heap.size 137 i0 (.agg #[.string ⟨#[]⟩, .string ⟨#[]⟩, .int .i64 0]) 3 40 Tryz.underlying80 hinf hz0 hz1 hz2 rfl (by decide) (.slice b1 i cap1) i _ rfl hrow1 _ _ (D.files.length - j) (fcells (D.files.drop j)) rfl (HH.out.2.1.fr hF1 HH.out.2.2) (fcells_one _) (by unfold maxLen; omega) (by omega) hF1.size ?_; intro b3 cap3 w4 hrow3 hgrow3 hat3; have hF3 : Fr (fun k => w.heap.size ≤ k) w w4 := Fr.next hF1 hat3))
  all_goals (go_wp2_with fail)
  all_goals
    go_ret
    exact HC.out _ _ _ hrow3 hF3

end
end Go.Proofs.YtgmghopcppniaaaGreatDoor

namespace Go.Proofs.YtgmghopcppniaaaGreatDoor
open Go.RowKit Go.Lib

section
variable {w w' w1 : World} {rb : Nat} {lv : Value} {D D2 : DiskD} {n tow : List UInt8} {f g : FileD} {l : List FileD}
set_option maxRecDepth 100000 in
set_option maxHeartbeats 4000000 in
theorem rdelete_h (h : RefAt w rb lv D) (n : List UInt8) : Calls Tryz.prog 141 #[.pointer (some ⟨rb, 0, none⟩), .string (bs n)] w (RDoes rb lv (deleteD D n) w) := by
  have HT := Lib.hid (there_h h n)
  cases hd : D.dead with
  | true =>
    rw [there_dead hd] at HT
    have HE := Lib.hid (show deleteD D n = (7, D) by unfold deleteD; rw [if_pos hd])
    have HX := Lib.hid h
    clear hd h
    go_enter Tryz.func141, Tryz.ntmps141
    go_wp2_with fail
    refine Calls.mono HT.out ?_
    rintro e w1 ⟨rfl, hf⟩
    have HF1 := Lib.hid hf
    clear hf
    go_wp2_with fail
    go_ret
    rw [HE.out]; exact RDoes.of (HX.out.grow HF1.out) (fr_none HF1.out)
  | false =>
   cases hg : getF D.files n with
   | none =>
    rw [there_none hd hg] at HT
    have HE := Lib.hid (show deleteD D n = (4, D) by unfold deleteD; rw [if_neg (by rw [hd]; simp), hg])
    have HX := Lib.hid h
    clear hd hg h
    go_enter Tryz.func141, Tryz.ntmps141
    go_wp2_with fail
    refine Calls.mono HT.out ?_
    rintro e w1 ⟨rfl, hf⟩
    have HF1 := Lib.hid hf
    clear hf
    go_wp2_with fail
    go_ret
    rw [HE.out]; exact RDoes.of (HX.out.grow HF1.out) (fr_none HF1.out)
   | some f =>
    rw [there_some hd hg] at HT
    have hne : ¬ D.dead = true := by rw [hd]; simp
    obtain ⟨c, D2, hTD, hc, hfl⟩ := turn_two D
    have hi2 : InvD (deleteD D n).2 := h.inv.delete n
    have HX := Lib.hid h
    have HG := Lib.hid (And.intro hg hfl)
    rcases hc with rfl | rfl
    · have HE := Lib.hid (show deleteD D n = (0, setF D2 (delF D.files n)) by unfold deleteD; rw [if_neg hne, hg]; exact thenD_yes hTD _)
      rw [HE.out] at hi2
      have HI := Lib.hid (show InvD (setF D2 (delF D.files n)) from hi2)
      have HTD := Lib.hid hTD
      clear hd hg h hne hTD hfl hi2
      go_enter Tryz.func141, Tryz.ntmps141
      go_wp2_with fail
      refine Calls.mono HT.out ?_
      rintro e w1 ⟨rfl, hf⟩
      have HF1 := Lib.hid hf
      clear hf
      go_wp2_with fail
      have hTU := rturn_h (HX.out.grow HF1.out)
      rw [HTD.out] at hTU
      refine Calls.mono hTU ?_
      clear hTU
      rintro e w2 ⟨rfl, hD2, hf2⟩
      have HF2 := Lib.hid (fr_turn HF1.out hf2)
      have HD2 := Lib.hid hD2
      clear hD2 hf2 HF1
      have hgx : D2.files[posF D.files n]? = some f := by rw [HG.out.2]; exact get_at HX.out.inv.sorted HG.out.1
      have hlt := (List.getElem?_eq_some_iff.1 hgx).1
      have HW := Lib.hid (rwithout_h HD2.out hlt)
      have HP := Lib.hid (show D2.files.eraseIdx (posF D.files n) = delF D.files n by rw [HG.out.2]; exact (del_pos HX.out.inv.sorted HG.out.1).symm)
      clear hgx hlt
      generalize posF D.files n = k at *
      go_wp2_with fail
      refine Calls.mono HW.out ?_
      rintro e w3 ⟨v, rfl, hrow, hf3⟩
      rw [HP.out] at hrow
      obtain ⟨vb, vc, rfl⟩ := ownsRow_shape hrow
      have HR := Lib.hid hrow
      have HD3 := Lib.hid (HD2.out.grow hf3)
      have HF3 := Lib.hid (HF2.out.next (fr_none hf3))
      have hlt := HD2.out.lt (.inl rfl)
      have hsz := HF2.out.size
      have f0 := free_of 0 HD3.out.head
      have c0 := HD3.out.cells.1
      clear hrow hf3 HW
      go_wp2_with fail
      go_ret
      rw [HE.out]
      exact ⟨_, rfl, ref_row HD3.out HR.out hlt HI.out, HF3.out.setCell (.inl (.inl rfl)) _, fun k hk => .inr (by have := (HR.out.lt k hk).1; omega)⟩
    · have HE := Lib.hid (show deleteD D n = (7, D2) by unfold deleteD; rw [if_neg hne, hg]; exact thenD_no hTD _)
      have HTD := Lib.hid hTD
      clear hd hg h hne hTD hfl hi2
      go_enter Tryz.func141, Tryz.ntmps141
      go_wp2_with fail
      refine Calls.mono HT.out ?_
      rintro e w1 ⟨rfl, hf⟩
      have HF1 := Lib.hid hf
      clear hf
      go_wp2_with fail
      have hTU := rturn_h (HX.out.grow HF1.out)
      rw [HTD.out] at hTU
      refine Calls.mono hTU ?_
      clear hTU
      rintro e w2 ⟨rfl, hD2, hf2⟩
      have HF2 := Lib.hid (fr_turn HF1.out hf2)
      have HD2 := Lib.hid hD2
      clear hD2 hf2 HF1
      go_wp2_with fail
      go_ret
      rw [HE.out]; exact RDoes.of HD2.out HF2.out

set_option maxRecDepth 100000 in
set_option maxHeartbeats 4000000 in
theorem rtrunc_h (h : RefAt w rb lv D) (n : List UInt8) (z : Int) : Calls Tryz.prog 92 #[.pointer (some ⟨rb, 0, none⟩), .string (bs n), .int .i64 z] w (RDoes rb lv (truncD D n z) w) := by
  have HT := Lib.hid (there_h h n)
  cases hd : D.dead with
  | true =>
    rw [there_dead hd] at HT
    have HE := Lib.hid (show truncD D n z = (7, D) by unfold truncD; rw [if_pos hd])
    have HX := Lib.hid h
    clear hd h
    go_enter Tryz.func92, Tryz.ntmps92
    go_wp2_with fail
    refine Calls.mono HT.out ?_
    rintro e w1 ⟨rfl, hf⟩
    have HF1 := Lib.hid hf
    clear hf
    go_wp2_with fail
    go_ret
    rw [HE.out]; exact RDoes.of (HX.out.grow HF1.out) (fr_none HF1.out)
  | false =>
   cases hg : getF D.files n with
   | none =>
    rw [there_none hd hg] at HT
    have HE := Lib.hid (show truncD D n z = (4, D) by unfold truncD; rw [if_neg (by rw [hd]; simp), hg])
    have HX := Lib.hid h
    clear hd hg h
    go_enter Tryz.func92, Tryz.ntmps92
    go_wp2_with fail
    refine Calls.mono HT.out ?_
    rintro e w1 ⟨rfl, hf⟩
    have HF1 := Lib.hid hf
    clear hf
    go_wp2_with fail
    go_ret
    rw [HE.out]; exact RDoes.of (HX.out.grow HF1.out) (fr_none HF1.out)
   | some f =>
    rw [there_some hd hg] at HT
    have hne : ¬ D.dead = true := by rw [hd]; simp
    by_cases hz : z < 0
    · have d1 : decide (z < 0) = true := by simpa using hz
      have HE := Lib.hid (show truncD D n z = (2, D) by unfold truncD; rw [if_neg hne, hg]; dsimp only; rw [if_pos (.inl hz)])
      have HX := Lib.hid h
      clear hd hg h hne hz
      go_enter Tryz.func92, Tryz.ntmps92
      go_wp2_with fail
      refine Calls.mono HT.out ?_
      rintro e w1 ⟨rfl, hf⟩
      have HF1 := Lib.hid hf
      clear hf
      go_wp2_with fail
      go_ret
      rw [HE.out]; exact RDoes.of (HX.out.grow HF1.out) (fr_none HF1.out)
    have d1 : decide (z < 0) = false := by simpa using hz
    by_cases hz2 : (f.bytes.length : Int) < z
    · have d2 : decide ((f.bytes.length : Int) < z) = true := by simpa using hz2
      have HE := Lib.hid (show truncD D n z = (2, D) by unfold truncD; rw [if_neg hne, hg]; dsimp only; rw [if_pos (.inr hz2)])
      have HX := Lib.hid h
      have HG := Lib.hid hg
      clear hd hg h hne hz hz2
      go_enter Tryz.func92, Tryz.ntmps92
      go_wp2_with fail
      refine Calls.mono HT.out ?_
      rintro e w1 ⟨rfl, hf⟩
      have HF1 := Lib.hid hf
      have hX1 := HX.out.grow hf
      have hgx := get_at HX.out.inv.sorted HG.out
      obtain ⟨c0, _, _, _⟩ := hX1.cells
      obtain ⟨a, cap, rfl, hn1, hn2, hrow⟩ := hX1.slice
      obtain ⟨g, rfl, hgr, q0, q1, q2, q3, q4⟩ := hrow _ f hgx
      have hlt := (List.getElem?_eq_some_iff.1 hgx).1
      have hl40 := hX1.inv.many
      have hbz : (bs f.bytes).size = f.bytes.length := rfl
      clear hf hX1 hgx hrow hgr q0 q2 q3 q4
      generalize posF D.files n = k at *
      go_wp2_with fail
      go_ret
      rw [HE.out]; exact RDoes.of (HX.out.grow HF1.out) (fr_none HF1.out)
    have d2 : decide ((f.bytes.length : Int) < z) = false := by simpa using hz2
    obtain ⟨q, rfl⟩ : ∃ q : Nat, z = q := ⟨z.toNat, by omega⟩
    have hqb : q ≤ f.bytes.length := by omega
    have hz3 : ¬ ((q : Int) < 0 ∨ (f.bytes.length : Int) < q) := by omega
    have HQ := Lib.hid hqb
    clear hz hz2
    obtain ⟨c, D2, hTD, hc, hfl⟩ := turn_two D
    have hi2 : InvD (truncD D n (q : Int)).2 := h.inv.trunc n _
    have HX := Lib.hid h
    have HG := Lib.hid (And.intro hg hfl)
    rcases hc with rfl | rfl
    · have HE := Lib.hid (show truncD D n (q : Int) = (0, setF D2 (putF D.files ⟨n, f.bytes.take q, min f.synced q⟩)) by unfold truncD; rw [if_neg hne, hg]; dsimp only; rw [if_neg hz3]; exact thenD_yes hTD _)
      rw [HE.out] at hi2
      have HI := Lib.hid (show InvD (setF D2 (putF D.files ⟨n, f.bytes.take q, min f.synced q⟩)) from hi2)
      have HTD := Lib.hid hTD
      clear hd hg h hne hTD hfl hi2
      go_enter Tryz.func92, Tryz.ntmps92
      go_wp2_with fail
      refine Calls.mono HT.out ?_
      rintro e w1 ⟨rfl, hf⟩
      have HF1 := Lib.hid hf
      clear hf
      have hX1 := HX.out.grow HF1.out
      have hgx := get_at HX.out.inv.sorted HG.out.1
      have c01 := hX1.cells.1
      obtain ⟨a1, cap1, rfl, hn11, hn21, hrow1⟩ := hX1.slice
      obtain ⟨g1, rfl, _, _, q11, _, _, _⟩ := hrow1 _ f hgx
      have hlt1 := (List.getElem?_eq_some_iff.1 hgx).1
      have hl401 := hX1.inv.many
      have hbz : (bs f.bytes).size = f.bytes.length := rfl
      clear hX1 hgx hrow1
      go_wp2_with fail
      have hTU := rturn_h (HX.out.grow HF1.out)
      rw [HTD.out] at hTU
      refine Calls.mono hTU ?_
      clear hTU
      rintro e w2 ⟨rfl, hD2, hf2⟩
      have HF2 := Lib.hid (fr_turn HF1.out hf2)
      have HD2 := Lib.hid hD2
      clear hD2 hf2 HF1
      clear c01 hn11 hn21 q11 hlt1 hl401 hbz
      have hgx : D2.files[posF D.files n]? = some f := by rw [HG.out.2]; exact get_at HX.out.inv.sorted HG.out.1
      have c0 := HD2.out.cells.1
      obtain ⟨a, cap, ea, hn1, hn2, hrow⟩ := HD2.out.slice
      injection ea with ea1 ea2 ea3
      obtain ⟨g, eg, hgr, q0, q1, q2, q3, q4⟩ := hrow _ f hgx
      obtain rfl : g1 = g := by rw [← ea1] at eg; injection eg with eg; injection eg
      have hlt := (List.getElem?_eq_some_iff.1 hgx).1
      have hl40 := HD2.out.inv.many
      have hbz : (bs f.bytes).size = f.bytes.length := rfl
      have hD2n : D2.files.length = D.files.length := by rw [HG.out.2]
      have HK := Lib.hid (And.intro hgx (And.intro hgr hD2n))
      have hqb := HQ.out
      have hx : (bs f.bytes).extract 0 q = bs (f.bytes.take q) := bs_take _ _
      rw [hD2n] at hlt
      clear hgx hrow hgr ea1 ea2 ea3 eg hn1 hn2 q0 hD2n
      have HP := Lib.hid (put_old (f := ⟨n, f.bytes.take q, min f.synced q⟩) HX.out.inv.sorted HG.out.1)
      generalize hk : posF D.files n = k at *
      have HKK := Lib.hid hk
      clear hk
      go_wp2_with fail
      go_still_tail 17, (by kernel_rfl)
      go_wp2_with fail
      have hF3 : Fr (OwnR rb (.slice (some ⟨g1, 0, none⟩) D.files.length cap1)) w (w2.setCell ⟨g1, k * 3 + 1, none⟩ (.string (bs (f.bytes.take q)))).drew := (Fr.setCell (p := ⟨g1, k * 3 + 1, none⟩) HF2.out (.inl (.inr rfl)) _).drew
      have hb3 : (w2.setCell ⟨g1, k * 3 + 1, none⟩ (.string (bs (f.bytes.take q)))).drew.heap[rb]? = some (.cells #[.slice (some ⟨g1, 0, none⟩) D.files.length cap1, .int .i64 D2.most, .int .i64 D2.fuse, .bool D2.dead] 82 (0, 0)) := (block_set_ne HK.out.2.1.symm).trans HD2.out.head
      have hr3 : (w2.setCell ⟨g1, k * 3 + 1, none⟩ (.string (bs (f.bytes.take q)))).drew.ownsRow 0 137 3 (.slice (some ⟨g1, 0, none⟩) D.files.length cap1) D.files.length ((fcells D.files).set (k * 3 + 1) (.string (bs (f.bytes.take q)))) := by
        have := HD2.out.row
        rw [HG.out.2] at this
        exact ownsRow_setN this _ _
      rw [fcells_set1 _ (by rw [← HG.out.2]; exact HK.out.1)] at hr3
      have hat3 : (D.files.set k ⟨f.name, f.bytes.take q, f.synced⟩)[k]? = some ⟨f.name, f.bytes.take q, f.synced⟩ := List.getElem?_set_self hlt
      have hc3 := hr3.cells (g := g1) rfl _ _ (fcells_at hat3).2.2
      rw [Addr.add_lit, Nat.zero_add] at hc3
      have hq4 := ownsRow_free hr3 (k * 3 + 2)
      have hc0 := cell_of hb3 (i := 0) (v := _) rfl
      have H3 := Lib.hid (And.intro hF3 (And.intro hb3 (And.intro hr3 hat3)))
      clear hF3 hb3 hr3 hat3 c0 q1 q2 q3 q4
      generalize (w2.setCell ⟨g1, k * 3 + 1, none⟩ (.string (bs (f.bytes.take q)))).drew = W3 at *
      rcases Nat.lt_or_ge q f.synced with hm3 | hm3
      · have hmin : min f.synced q = q := by omega
        rw [hmin] at HP HI HE
        have hm4 : (q : Int) < (f.synced : Int) := by omega
        clear hm3 hmin
        go_wp2_with fail
        go_still_tail 17, (by kernel_rfl)
        go_wp2_with fail
        go_ret
        rw [HE.out]
        refine ⟨_, rfl, ⟨(block_set_ne HK.out.2.1.symm).trans H3.out.2.1, ?_, HI.out⟩, Fr.setCell (p := ⟨g1, k * 3 + 2, none⟩) (H3.out.1.drewN 1) (.inl (.inr rfl)) _, fun _ hk => .inl hk⟩
        have hrr := ownsRow_setN (w := W3) (H3.out.2.2.1) (k * 3 + 2) (.int .i64 (q : Nat))
        rw [fcells_set2 _ H3.out.2.2.2, List.set_set, (get_mem HG.out.1).2] at hrr
        show World.ownsRow _ 0 137 3 _ (putF D.files ⟨n, f.bytes.take q, q⟩).length (fcells (putF D.files ⟨n, f.bytes.take q, q⟩))
        have hmI : min (f.synced : Int) (q : Int) = ((q : Nat) : Int) := by omega
        rw [HP.out, List.length_set, hmI]
        exact hrr
      · have hmin : min f.synced q = f.synced := by omega
        rw [hmin] at HP HI HE
        have hm4 : (f.synced : Int) ≤ (q : Int) := by omega
        clear hm3 hmin
        go_wp2_with fail
        go_still_tail 17, (by kernel_rfl)
        go_wp2_with fail
        go_ret
        rw [HE.out]
        refine ⟨_, rfl, ⟨(block_set_ne HK.out.2.1.symm).trans H3.out.2.1, ?_, HI.out⟩, Fr.setCell (p := ⟨g1, k * 3 + 2, none⟩) (H3.out.1.drewN 1) (.inl (.inr rfl)) _, fun _ hk => .inl hk⟩
        have hrr := ownsRow_setN (w := W3) (H3.out.2.2.1) (k * 3 + 2) (.int .i64 (f.synced : Nat))
        rw [fcells_set2 _ H3.out.2.2.2, List.set_set, (get_mem HG.out.1).2] at hrr
        show World.ownsRow _ 0 137 3 _ (putF D.files ⟨n, f.bytes.take q, f.synced⟩).length (fcells (putF D.files ⟨n, f.bytes.take q, f.synced⟩))
        have hmI : min (f.synced : Int) (q : Int) = ((f.synced : Nat) : Int) := by omega
        rw [HP.out, List.length_set, hmI]
        exact hrr
    · have HE := Lib.hid (show truncD D n (q : Int) = (7, D2) by unfold truncD; rw [if_neg hne, hg]; dsimp only; rw [if_neg hz3]; exact thenD_no hTD _)
      have HTD := Lib.hid hTD
      clear hd hg h hne hTD hfl hi2
      go_enter Tryz.func92, Tryz.ntmps92
      go_wp2_with fail
      refine Calls.mono HT.out ?_
      rintro e w1 ⟨rfl, hf⟩
      have HF1 := Lib.hid hf
      clear hf
      have hX1 := HX.out.grow HF1.out
      have hgx := get_at HX.out.inv.sorted HG.out.1
      have c01 := hX1.cells.1
      obtain ⟨a1, cap1, rfl, hn11, hn21, hrow1⟩ := hX1.slice
      obtain ⟨g1, rfl, _, _, q11, _, _, _⟩ := hrow1 _ f hgx
      have hlt1 := (List.getElem?_eq_some_iff.1 hgx).1
      have hl401 := hX1.inv.many
      have hbz : (bs f.bytes).size = f.bytes.length := rfl
      clear hX1 hgx hrow1
      go_wp2_with fail
      have hTU := rturn_h (HX.out.grow HF1.out)
      rw [HTD.out] at hTU
      refine Calls.mono hTU ?_
      clear hTU
      rintro e w2 ⟨rfl, hD2, hf2⟩
      have HF2 := Lib.hid (fr_turn HF1.out hf2)
      have HD2 := Lib.hid hD2
      clear hD2 hf2 HF1
      go_wp2_with fail
      go_ret
      rw [HE.out]; exact RDoes.of HD2.out HF2.out
end
end Go.Proofs.YtgmghopcppniaaaGreatDoor


namespace Go.Proofs.YtgmghopcppniaaaGreatDoor
open Go.RowKit Go.Lib

/-! ### Name -/
end Go.Proofs.YtgmghopcppniaaaGreatDoor

namespace Go.Proofs.YtgmghopcppniaaaGreatDoor
open Go.RowKit Go.Lib

section
variable {w w' w0 w1 : World} {rb : Nat} {lv lv0 v : Value} {D D2 : DiskD} {n tow : List UInt8} {f g : FileD} {l : List FileD} {base : Nat}
end
end Go.Proofs.YtgmghopcppniaaaGreatDoor

namespace Go.Proofs.YtgmghopcppniaaaGreatDoor
open Go.RowKit Go.Lib

section
variable {w w' w0 w1 : World} {rb : Nat} {lv lv0 v : Value} {D D2 : DiskD} {n : List UInt8} {f g : FileD} {l : List FileD}
end
end Go.Proofs.YtgmghopcppniaaaGreatDoor

