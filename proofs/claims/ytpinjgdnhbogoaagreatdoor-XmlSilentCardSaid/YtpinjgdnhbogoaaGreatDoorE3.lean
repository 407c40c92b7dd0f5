/- strings.Replacer: build. -/
import Derived.Test.YtpinjgdnhbogoaaGreatDoorE2
import Derived.Laws.Rows
import Derived.Deep.WholeRow
import Derived.Deep.MidRow
import Derived.Laws.IdiomStrings
import Derived.WalkSpells
namespace Go.Proofs.YtpinjgdnhbogoaaGreatDoor
open Go.RowKit Go.Lib

def pcs : List UInt8 := [38, 60, 62, 34, 39]
def pvs : List Str := [[38, 97, 109, 112, 59], [38, 108, 116, 59], [38, 103, 116, 59], [38, 113, 117, 111, 116, 59], [38, 97, 112, 111, 115, 59]]
def pc (j : Nat) : UInt8 := pcs.getD j 0
def pv (j : Nat) : Str := pvs.getD j []
def oldNew : List Str := [[38], [38, 97, 109, 112, 59], [60], [38, 108, 116, 59], [62], [38, 103, 116, 59], [34], [38, 113, 117, 111, 116, 59], [39], [38, 97, 112, 111, 115, 59]]
theorem old_at : ∀ j, j < 5 → oldNew[2 * j]? = some [pc j] ∧ oldNew[2 * j + 1]? = some (pv j) ∧ 1 < (pv j).length := by decide
def repF (k : Nat) (c : UInt8) : Option Str :=
  if k ≤ 0 ∧ c = 38 then some (pv 0) else if k ≤ 1 ∧ c = 60 then some (pv 1) else if k ≤ 2 ∧ c = 62 then some (pv 2) else if k ≤ 3 ∧ c = 34 then some (pv 3) else if k ≤ 4 ∧ c = 39 then some (pv 4) else none
theorem repF_five (c : UInt8) : repF 5 c = none := by unfold repF; simp
theorem repF_step : ∀ j, j < 5 → ∀ c : UInt8, repF j c = if c = pc j then some (pv j) else repF (j + 1) c := by
  intro j hj c
  match j, hj with
  | 0, _ => unfold repF pc pcs; by_cases h : c = 38 <;> simp [h]
  | 1, _ => unfold repF pc pcs; by_cases h : c = 60 <;> simp [h]
  | 2, _ => unfold repF pc pcs; by_cases h : c = 62 <;> simp [h]
  | 3, _ => unfold repF pc pcs; by_cases h : c = 34 <;> simp [h]
  | 4, _ => unfold repF pc pcs; by_cases h : c = 39 <;> simp [h]
theorem repF_fresh : ∀ j, j < 5 → repF (j + 1) (pc j) = none := by decide
theorem esc_rep (c : UInt8) : escC c = match repF 0 c with | some l => l | none => [c] := by
  unfold escC repF
  by_cases h1 : c = 38
  · simp [h1]; rfl
  by_cases h2 : c = 60
  · simp [h2]; rfl
  by_cases h3 : c = 62
  · simp [h3]; rfl
  by_cases h4 : c = 34
  · simp [h4]; rfl
  by_cases h5 : c = 39
  · simp [h5]; rfl
  simp [h1, h2, h3, h4, h5]
def BytesBlk (W : World) (g : Nat) (l : Str) : Prop := ∃ cur fz, W.heap[g]? = some (.cells cur 5 fz) ∧ ∀ j, j < l.length → cur[j]? = some (.int .u8 ((l.getD j 0).toNat : Int))
def slotOK (W : World) (B : Nat) (x : Option Value) (o : Option Str) : Prop := match o with
  | none => x = some (.slice none 0 0)
  | some l => ∃ g cap, x = some (.slice (some ⟨g, 0, none⟩) l.length cap) ∧ B ≤ g ∧ BytesBlk W g l
def toRep (k : Nat) : List Str := ((List.range 5).drop k).reverse.map fun j => [pc j]
structure BRel (w : World) (bb k : Nat) (C : Array Value) (tv : Value) (W : World) : Prop where
  blk : W.heap[bb]? = some (.cells C 224 (0, 0))
  size : C.size = 257
  slots : ∀ c : UInt8, slotOK W w.heap.size C[c.toNat]? (repF k c)
  last : C[256]? = some tv
  row : W.ownsRow w.heap.size 9 1 tv (5 - k) (strs (toRep k))
  fr : Fr (fun _ => False) w W
  low : w.heap.size ≤ bb
theorem zero224 : Tryz.zeroCells224 = Array.replicate 257 (.slice none 0 0) := by kernel_rfl
def cells0 (sl : Value) : Array Value := (Array.replicate 256 (.slice none 0 0)).push sl
theorem cells0_eq (sl : Value) : Tryz.zeroCells224.toList.set 256 sl = (cells0 sl).toList := by
  rw [zero224]
  unfold cells0
  rw [Array.toList_replicate, Array.toList_push, Array.toList_replicate, show (257 : Nat) = 256 + 1 from rfl, List.replicate_succ']
  rw [List.set_append_right _ _ (by rw [List.length_replicate]; exact Nat.le_refl _), List.length_replicate, Nat.sub_self]
  rfl
theorem cells0_size (sl : Value) : (cells0 sl).size = 257 := by unfold cells0; rw [Array.size_push, Array.size_replicate]
theorem cells0_at (sl : Value) (i : Nat) (hi : i < 256) : (cells0 sl)[i]? = some (.slice none 0 0) := by
  unfold cells0
  rw [Array.getElem?_push, if_neg (by rw [Array.size_replicate]; omega), Array.getElem?_replicate, if_pos hi]
theorem cells0_last (sl : Value) : (cells0 sl)[256]? = some sl := by
  unfold cells0
  rw [Array.getElem?_push, if_pos (by rw [Array.size_replicate])]
theorem info224 : (Tryz.prog.info? 224).map (·.size) = some 257 := by kernel_rfl
theorem store224 (W : World) {sl : Value} (h1 : sl.oneCell' = true) : Sem.run Tryz.prog (storeCells ⟨W.heap.size, 0, none⟩ (Tryz.zeroCells224.toList.set 256 sl)) (W.alloc (.cells Tryz.zeroCells224 224)) = .ok () (W.alloc (.cells (cells0 sl) 224)) := by
  rw [cells0_eq]
  refine run_storeCells_new (P := Tryz.prog) W 224 Tryz.zeroCells224 (cells0 sl) (by rw [info224, cells0_size]) (by rw [cells0_size, zero224]; simp) ?_
  refine Array.all_eq_true_iff_forall_mem.2 fun v hv => ?_
  unfold cells0 at hv
  rcases Array.mem_push.1 hv with h | h
  · rw [(Array.mem_replicate.1 h).2]; rfl
  · rw [h]; exact h1
theorem conv_blk (W : World) (l : Str) : ∃ cap W', Sem.run Tryz.prog (convert 9 113 (.string (bs l))) W = .ok (.slice (some ⟨W.heap.size, 0, none⟩) l.length cap) W' ∧ BytesBlk W' W.heap.size l ∧ Fr (fun _ => False) W W' := by
  refine ⟨_, _, run_bytes_of_string W 9 113 5 (bs l) Tryz.underlying9 Tryz.underlying113 Tryz.underlying5, ?_, ((Fr.refl _ _).drew).alloc _⟩
  refine ⟨_, _, block_new_at (w := W.drew) rfl, fun j hj => ?_⟩
  have hrow := bytesRow_at (bs l) (grownCap W (bs l).size 0 5) j (show j < l.toArray.size by simpa using hj)
  rw [hrow, List.getD_eq_getElem?_getD, List.getElem?_eq_getElem hj]; rfl
theorem BytesBlk.keep {W W' : World} {g : Nat} {l : Str} (h : BytesBlk W g l) (hk : ∀ (c : Array Value) (f : Nat × Nat), W.heap[g]? = some (Obj.cells c 5 f) → W'.heap[g]? = some (Obj.cells c 5 f)) : BytesBlk W' g l := by
  obtain ⟨cur, fz, h1, h2⟩ := h
  exact ⟨cur, fz, hk _ _ h1, h2⟩
theorem slotOK.keep {W W' : World} {B : Nat} {x : Option Value} {o : Option Str} (h : slotOK W B x o) (hk : ∀ (g : Nat) (c : Array Value) (f : Nat × Nat), W.heap[g]? = some (Obj.cells c 5 f) → W'.heap[g]? = some (Obj.cells c 5 f)) : slotOK W' B x o := by
  unfold slotOK at h ⊢
  cases o with
  | none => exact h
  | some l =>
    obtain ⟨g, cap, h1, h2, h3⟩ := h
    exact ⟨g, cap, h1, h2, h3.keep (hk g)⟩
theorem toRep_step : ∀ m, m < 5 → toRep (m + 1) ++ [[pc m]] = toRep m := by decide
theorem toRep_len : ∀ m, m ≤ 5 → (toRep m).length = 5 - m := by decide
theorem BRel.fr2 {w W W2 : World} {bb k : Nat} {C : Array Value} {tv : Value} (h : BRel w bb k C tv W) (hf : Fr (fun _ => False) W W2) : BRel w bb k C tv W2 :=
  ⟨hf.keep h.blk (fun h => h), h.size, fun c => slotOK.keep (h.slots c) fun g c f hg => hf.keep hg (fun h => h), h.last, ownsRow_fr h.row hf, h.fr.next hf, h.low⟩
/-- the row of what is replaced has grown -/
theorem BRel.grow {w W w7 : World} {bb m : Nat} {C : Array Value} {tv : Value} (h : BRel w bb (m + 1) C tv W) (hg : W.grownBy w7 tv.ownBlock) :
    w7.heap[bb]? = some (.cells C 224 (0, 0)) ∧ (∀ c : UInt8, slotOK w7 w.heap.size C[c.toNat]? (repF (m + 1) c)) ∧ Fr (fun _ => False) w w7 := by
  refine ⟨block_grown h.blk hg (fun e => own_ne h.row h.blk (by decide) e.symm), fun c => slotOK.keep (h.slots c) fun g c f hgb => block_grown hgb hg (fun e => own_ne h.row hgb (by decide) e.symm), h.fr.grown hg fun k hk => .inr (h.row.lt k hk).1⟩
theorem pc_lt (m : Nat) : (pc m).toNat < 256 := (pc m).toNat_lt
theorem BRel.step {w W w7 w8 : World} {bb m cap7 cap8 g8 n : Nat} {b7 : Option Addr} {C : Array Value} {tv : Value} (hm : m < 5) (h : BRel w bb (m + 1) C tv W) (hg : W.grownBy w7 tv.ownBlock) (hn : n = 5 - m)
    (hr : w7.ownsRow w.heap.size 9 1 (.slice b7 n cap7) n (strs (toRep m))) (hF8 : Fr (fun _ => False) (w7.setCell ⟨bb, 256, none⟩ (.slice b7 n cap7)) w8) (hby : BytesBlk w8 g8 (pv m)) (hg8 : w.heap.size ≤ g8) :
    w8.heap[bb]? = some (.cells (C.setIfInBounds 256 (.slice b7 n cap7)) 224 (0, 0)) ∧
    BRel w bb m ((C.setIfInBounds 256 (.slice b7 n cap7)).setIfInBounds (pc m).toNat (.slice (some ⟨g8, 0, none⟩) (pv m).length cap8)) (.slice b7 n cap7) (w8.setCell ⟨bb, (pc m).toNat, none⟩ (.slice (some ⟨g8, 0, none⟩) (pv m).length cap8)) := by
  obtain ⟨hb7, hs7, hF7⟩ := h.grow hg
  have hne7 := own_ne hr hb7 (by decide)
  have hb7' : (w7.setCell ⟨bb, 256, none⟩ (.slice b7 n cap7)).heap[bb]? = some (.cells (C.setIfInBounds 256 (.slice b7 n cap7)) 224 (0, 0)) := block_set hb7 256 _
  have hb8 := hF8.keep hb7' (fun h => h)
  have hr7 : (w7.setCell ⟨bb, 256, none⟩ (.slice b7 n cap7)).ownsRow w.heap.size 9 1 (.slice b7 n cap7) n (strs (toRep m)) := ownsRow_keep hr fun k hk => block_set_ne (fun e => hne7 (by rw [hk, e]))
  have hr8 := ownsRow_fr hr7 hF8
  have hne8 := own_ne hr8 hb8 (by decide)
  have hsz := h.size
  have hpc := pc_lt m
  have keep5 : ∀ (g : Nat) (c : Array Value) (f : Nat × Nat), w7.heap[g]? = some (Obj.cells c 5 f) → (w8.setCell ⟨bb, (pc m).toNat, none⟩ (.slice (some ⟨g8, 0, none⟩) (pv m).length cap8)).heap[g]? = some (Obj.cells c 5 f) := by
    intro g c f hgb
    have hne : g ≠ bb := ne_of_elem hgb hb7 (by decide)
    exact (block_set_ne hne).trans (hF8.keep ((block_set_ne hne).trans hgb) (fun h => h))
  refine ⟨hb8, ⟨block_set hb8 _ _, by rw [Array.size_setIfInBounds, Array.size_setIfInBounds]; exact hsz, fun c => ?_, ?_, ?_, ?_, h.low⟩⟩
  · have hc := c.toNat_lt
    rw [repF_step m hm c]
    by_cases hcp : c = pc m
    · rw [if_pos hcp, hcp, Array.getElem?_setIfInBounds_self_of_lt (by rw [Array.size_setIfInBounds, hsz]; omega)]
      refine ⟨g8, cap8, rfl, hg8, hby.keep fun c f hgb => ?_⟩
      exact (block_set_ne (ne_of_elem hgb hb8 (by decide))).trans hgb
    · rw [if_neg hcp, Array.getElem?_setIfInBounds_ne (fun e => hcp (UInt8.toNat_inj.1 e.symm)), Array.getElem?_setIfInBounds_ne (by omega)]
      exact slotOK.keep (hs7 c) keep5
  · rw [Array.getElem?_setIfInBounds_ne (by omega), Array.getElem?_setIfInBounds_self_of_lt (by omega)]
  · rw [← hn]
    exact ownsRow_keep hr8 fun k hk => block_set_ne (fun e => hne8 (by rw [hk, e]))
  · exact Fr.setCell (p := ⟨bb, (pc m).toNat, none⟩) (Fr.next (Fr.setCell (p := ⟨bb, 256, none⟩) hF7 (.inr h.low) _) hF8) (.inr h.low) _
set_option maxRecDepth 100000 in
set_option maxHeartbeats 8000000 in
theorem build_h {w : World} {S : Nat → Prop} {rp : Nat} {lv : Value} {x0 x1 x2 x3 : Value} (hb : w.heap[rp]? = some (.cells #[x0, x1, x2, x3, lv] 174 (0, 0))) (hv : SRow w S 1 lv 10 (strs oldNew)) :
    Calls Tryz.prog 154 #[.pointer (some ⟨rp, 0, none⟩)] w fun e w' => (∃ bb C tv, e = .returned (.iface 225 (.pointer (some ⟨bb, 0, none⟩))) ∧ BRel w bb 0 C tv w') := by
  have c4 := cell_of hb (i := 4) (v := lv) rfl
  obtain ⟨i0, hi0, hz0, hz1, hz2⟩ := info_parts info9
  obtain ⟨_, a, cap, rfl, hnc, hcm, h5, h6⟩ := id hv
  obtain ⟨g, off, rfl, _, hcells⟩ := h6 (by omega)
  have HC := Lib.hid hcells
  clear hcells h5 hv hb
  go_enter Tryz.func154, Tryz.ntmps154
  go_wp2_with fail
  go_loopg [4, 5] 5 (fun j v4 v5 wr => ∃ k : Nat, k + j = 5 ∧ v5 = .int .i64 (2 * k : Nat) ∧ v4 = .bool (decide (k = 0)) ∧ w = wr)
  case atStart => exact ⟨0, by omega, rfl, rfl, rfl⟩
  case round =>
    obtain ⟨k, hk, hv5, hv4, rfl⟩ := hrel
    by_cases hlt : k < 5
    · subst hv5 hv4
      obtain ⟨o1, o2, o3⟩ := old_at k hlt
      have d0 := HC.out (2 * k) (.string (bs [pc k])) (by unfold strs; rw [List.getElem?_map, o1]; rfl)
      have d1 := HC.out (2 * k + 1) (.string (bs (pv k))) (by unfold strs; rw [List.getElem?_map, o2]; rfl)
      have hz0 : (bs [pc k]).size = 1 := rfl
      have hz1 : (bs (pv k)).size = (pv k).length := rfl
      have hn1 : (((pv k).length : Int) == 1) = false := by rw [beq_eq_false_iff_ne]; omega
      have hn2 : (((pv k).length : Int) != 1) = true := by rw [bne, hn1]; rfl
      have HK := Lib.hid hk
      clear o1 o2 o3 hk
      go_wp2_with fail
      go_roundg (5 - (k + 1))
      case measure => have := HK.out; omega
      case rel => exact ⟨k + 1, by omega, by go_num, rfl, rfl⟩
    · have hk5 : k = 5 := by omega
      subst hk5
      replace hv5 : _ = Value.int .i64 10 := hv5
      replace hv4 : _ = Value.bool false := hv4
      subst hv5 hv4
      clear hk hlt
      have hmk : ∀ w, (Instr.makeSlice 65 (.int .i64 0) (.int .i64 5)).run Tryz.prog w = .ok (.slice (some ⟨w.heap.size, 0, none⟩) 0 5) (w.alloc (.cells (Array.replicate 5 (.string ⟨#[]⟩)) 9)) := fun _ => by kernel_rfl
      have hst := store224 (w.alloc (.cells (Array.replicate 5 (.string ⟨#[]⟩)) 9)) (sl := .slice (some ⟨w.heap.size, 0, none⟩) 0 5) rfl
      rw [show (w.alloc (.cells (Array.replicate 5 (.string ⟨#[]⟩)) 9)).heap.size = w.heap.size + 1 by simp] at hst
      obtain ⟨C0, hC0⟩ : ∃ C0, cells0 (.slice (some ⟨w.heap.size, 0, none⟩) 0 5) = C0 := ⟨_, rfl⟩
      rw [hC0] at hst
      have HC0 := Lib.hid hC0
      clear hC0
      go_wp2_with fail
      have hB0 : BRel w (w.heap.size + 1) 5 C0 (.slice (some ⟨w.heap.size, 0, none⟩) 0 5) ((w.alloc (.cells (Array.replicate 5 (.string ⟨#[]⟩)) 9)).alloc (.cells C0 224)) := by
        have hfa : Fr (fun _ => False) w (w.alloc (.cells (Array.replicate 5 (.string ⟨#[]⟩)) 9)) := (Fr.refl _ _).alloc _
        refine ⟨block_new_at (by simp), by rw [← HC0.out, cells0_size], fun c => ?_, by rw [← HC0.out, cells0_last], ?_, hfa.alloc _, by omega⟩
        · rw [repF_five, ← HC0.out]
          exact cells0_at _ _ c.toNat_lt
        · exact ⟨rfl, .inr ⟨w.heap.size, 5, Array.replicate 5 (.string ⟨#[]⟩), rfl, Nat.le_refl _, block_old (block_new _ _) _, by omega, by unfold maxLen; omega, rfl, rfl⟩⟩
      have HB0 := Lib.hid hB0
      clear hB0 hst
      obtain ⟨bb, hbb⟩ : ∃ bb, w.heap.size + 1 = bb := ⟨_, rfl⟩
      rw [hbb] at HB0
      have hlow : w.heap.size ≤ bb := by omega
      rw [hbb]
      clear hbb
      go_loopg [12] 5 (fun j v wr => ∃ C tv, ((j = 0 ∧ v = .int .i64 (-2)) ∨ ∃ m : Nat, j = m + 1 ∧ m < 5 ∧ v = .int .i64 ((2 * m : Nat) : Int)) ∧ BRel w bb j C tv wr)
      case atStart => exact ⟨C0, _, .inr ⟨4, rfl, by omega, rfl⟩, HB0.out⟩
      case round =>
        obtain ⟨C, tv, hjv, hR⟩ := hrel
        have HR := Lib.hid hR
        clear hR HB0
        rcases hjv with ⟨rfl, rfl⟩ | ⟨m, rfl, hm, rfl⟩
        · go_wp2_with fail
          go_ret
          exact ⟨bb, C, tv, rfl, HR.out⟩
        · obtain ⟨o1, o2, o3⟩ := old_at m hm
          have hfr := HR.out.fr
          have d0 := hfr.cell (HC.out (2 * m) (.string (bs [pc m])) (by unfold strs; rw [List.getElem?_map, o1]; rfl)) (fun h => h)
          have d1 := hfr.cell (HC.out (2 * m + 1) (.string (bs (pv m))) (by unfold strs; rw [List.getElem?_map, o2]; rfl)) (fun h => h)
          have hnil := HR.out.slots (pc m)
          rw [repF_fresh m hm] at hnil
          have e0 := cell_of HR.out.blk hnil
          have e1 := cell_of HR.out.blk HR.out.last
          have hz : (bs [pc m]).size = 1 := rfl
          have hby : ∀ h, (bs [pc m])[0]'h = pc m := fun _ => rfl
          have hlt := pc_lt m
          have hlti : ((pc m).toNat : Int) < 256 := by omega
          have heq : ∀ w, Sem.run Tryz.prog (binOp .eql 113 (.slice none 0 0) (.slice none 0 0)) w = .ok (.bool true) w := fun w => by rw [Lib.run_eql_slice_nil w 113 5 none 0 0 0 0 Tryz.underlying113]; rfl
          clear o1 o2 o3 hfr hnil
          have hcv : Sem.run Tryz.prog (convert 113 9 (.slice (some ⟨wr.heap.size, 0, none⟩) 1 1)) (wr.alloc (.cells #[.int .u8 ((pc m).toNat : Int)] 5)) = .ok (.string (bs [pc m])) (wr.alloc (.cells #[.int .u8 ((pc m).toNat : Int)] 5)) :=
            run_convert_bytes_back _ 113 9 5 ⟨wr.heap.size, 0, none⟩ 1 [pc m] Tryz.underlying113 Tryz.underlying5 Tryz.underlying9 fun j hj => by
              have h0 : j = 0 := by simpa using hj
              subst h0
              exact cell_of (block_new wr _) rfl
          have hfa : Fr (fun _ => False) wr ((wr.alloc (.cells #[.int .u8 ((pc m).toNat : Int)] 5)).alloc (.cells #[.string (bs [pc m])] 9)) := ((Fr.refl _ _).alloc _).alloc _
          have HR2 := Lib.hid (HR.out.fr2 hfa)
          have HN : Hid (SRow ((wr.alloc (.cells #[.int .u8 ((pc m).toNat : Int)] 5)).alloc (.cells #[.string (bs [pc m])] 9)) (fun _ => True) 1 (.slice (some ⟨wr.heap.size + 1, 0, none⟩) 1 1) 1 (strs [[pc m]])) := by
            rw [show wr.heap.size + 1 = (wr.alloc (.cells #[.int .u8 ((pc m).toNat : Int)] 5)).heap.size by simp]
            exact SRow.of_block (f := (0, 0)) (e := 9) (block_new _ _) rfl (by unfold maxLen; omega) trivial
          obtain ⟨q, hq⟩ : ∃ q, 5 - (m + 1) = q := ⟨_, rfl⟩
          have HO := Lib.hid HR2.out.row
          rw [hq] at HO
          have hcat : strs (toRep (m + 1)) ++ strs [[pc m]] = strs (toRep m) := by
            rw [← toRep_step m hm]; unfold strs; rw [List.map_append]
          have HQ := Lib.hid hq
          have HCat := Lib.hid hcat
          clear hcat hfa hq
          go_wp2_with (at_builtin; refine wpList_append_row rfl (.tmp 119) (.tmp 123) 65 rfl w.heap.size 9 i0 (.string ⟨#[]⟩) 1 16 Tryz.underlying65 hi0 hz0 hz1 hz2 rfl (by decide) tv q (strs (toRep (m + 1))) rfl HO.out (fun _ => True) _ 1 (strs [[pc m]]) rfl HN.out (strs_one _) (by have := HQ.out; unfold maxLen; omega) (by have := HQ.out; omega) (by have := HR2.out.fr.size; exact this) ?_; intro b7 cap7 w7 hown7 hgrow7 hat7; rw [HCat.out] at hown7; clear hat7; have HOwn := Lib.hid hown7; have HGrow := Lib.hid hgrow7; clear hown7 hgrow7; have hgr := HR2.out.grow HGrow.out; have c7 := cell_of hgr.1 HR2.out.last; have f7 := free_of 256 hgr.1; obtain ⟨cap8, w8, hc8, hby8, hF8⟩ := conv_blk (w7.setCell ⟨bb, 256, none⟩ (.slice b7 (q + 1) cap7)) (pv m); have hst8 := BRel.step (cap8 := cap8) hm HR2.out HGrow.out (by have := HQ.out; omega) HOwn.out hF8 hby8 (by have := hgr.2.2.size; simpa using this); have hn8 := HR2.out.slots (pc m); rw [repF_fresh m hm] at hn8; have c8 := cell_of hst8.1 (by rw [Array.getElem?_setIfInBounds_ne (show 256 ≠ (pc m).toNat by have := pc_lt m; omega)]; exact hn8); have f8 := free_of (pc m).toNat hst8.1; have HS8 := Lib.hid hst8.2; clear hgr hst8 hn8 hby8 hF8; simp only [World.size_setCell] at hc8; have hszz : (w7.setCell ⟨bb, 256, none⟩ (.slice b7 (q + 1) cap7)).heap.size = w7.heap.size := World.size_setCell _ _ _; rw [hszz] at HS8; clear hszz)
          go_roundg m
          case measure => omega
          case rel =>
            refine ⟨_, _, ?_, HS8.out⟩
            rcases Nat.eq_zero_or_pos m with h0 | h0
            · exact .inl ⟨h0, by subst h0; rfl⟩
            · exact .inr ⟨m - 1, by omega, by omega, by congr 1; omega⟩
end Go.Proofs.YtpinjgdnhbogoaaGreatDoor
