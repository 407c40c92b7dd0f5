/- sync.Once, one goroutine: the parts. -/
import Derived.Test.YtpinjgdnhbogoaaGreatDoorM5
import Derived.Defers
import Derived.Laws.Pointers
import Derived.Laws.LoneSync
import Derived.RegionTactic
import Derived.RegionCalls
import Derived.ChangeAlike
import Derived.Tactics
import Derived.Tactics2
import Derived.Laws.Rows
import Derived.Deep.WholeRow
import Derived.Deep.MidRow
import Derived.Laws.IdiomStrings
import Derived.WalkSpells
import Derived.Test.YtpinjgdnhbogoaaGreatDoorShelf
import Derived.BigQuiet
import Derived.IntWalk
import Derived.Deep.DeepCutAuto
import Derived.Deep.CutBlock
import Derived.StillTailTactics
import Derived.Shelf.Spec.SlicesInsert
namespace Go.Proofs.YtpinjgdnhbogoaaGreatDoor
open Go.RowKit Go.Lib

theorem rdisable (w : World) : (callFunc 197 #[]).run Tryz.prog w = .ok (.value (.tuple #[])) w := run_call_mark0 Tryz.func197 (by kernel_rfl) (by kernel_rfl) (by kernel_rfl) .disable (by kernel_rfl) w
theorem renable (w : World) : (callFunc 199 #[]).run Tryz.prog w = .ok (.value (.tuple #[])) w := run_call_mark0 Tryz.func199 (by kernel_rfl) (by kernel_rfl) (by kernel_rfl) .enable (by kernel_rfl) w
theorem racquire (a : Addr) (w : World) : (callFunc 200 #[.pointer (some a)]).run Tryz.prog w = .ok (.value (.tuple #[])) w := run_call_marked Tryz.func200 (by kernel_rfl) (by kernel_rfl) (by kernel_rfl) .acquire (by kernel_rfl) a w
theorem rrelease (a : Addr) (w : World) : (callFunc 202 #[.pointer (some a)]).run Tryz.prog w = .ok (.value (.tuple #[])) w := run_call_marked Tryz.func202 (by kernel_rfl) (by kernel_rfl) (by kernel_rfl) .releaseMerge (by kernel_rfl) a w
theorem store_deferred (a : Addr) (x : Value) (u : FrameMode) (w : World) (hc : w.cell? a = some x) (hz : w.frozen? a = false) :
    CallsD Tryz.prog 173 #[.pointer (some a), .bool true] u w fun e u' w' => u' = u ∧ (e = .returned (.tuple #[]) ∧ w' = w.drew.setCell a (.int .u32 1)) := by
  have hc' : w.drew.cell? a = some x := by go_simp
  have hz' : w.drew.frozen? a = false := by go_simp
  have hst := run_call_store (P := Tryz.prog) Tryz.func189 (by kernel_rfl) (by kernel_rfl) (by kernel_rfl) (by kernel_rfl) (k := .u32) (y := 1) hc' hz'
  go_enter_d Tryz.func173, Tryz.ntmps173
  go_wp2
  go_region_calls
  all_goals (go_end0; exact ⟨rfl, rfl⟩)
set_option maxRecDepth 100000 in
set_option maxHeartbeats 4000000 in
theorem unlock_deferred (a : Addr) (u : FrameMode) (w : World) (hc : w.cell? a = some (.int .i32 1)) (hz : w.frozen? a = false) :
    CallsD Tryz.prog 172 #[.pointer (some a)] u w fun e u' w' => u' = u ∧ (e = .returned (.tuple #[]) ∧ w' = w.setCell a (.int .i32 0)) := by
  have hd := rdisable
  have he := renable
  have hr := rrelease
  have hadd := run_call_add (P := Tryz.prog) Tryz.func203 (by kernel_rfl) (by kernel_rfl) (by kernel_rfl) .i32 (by kernel_rfl) (y := -1) (s := 0) hc hz (by simp [go_sem]; rfl)
  have hcv := run_convert_to_unsafe (P := Tryz.prog) (src := 256) (dst := 192) Tryz.underlying256 Tryz.underlying192 (by kernel_rfl) hc
  go_enter_d Tryz.func172, Tryz.ntmps172
  go_wp2
  go_end0
  go_wp2
  go_end0
  exact ⟨rfl, rfl⟩
set_option maxRecDepth 100000 in
set_option maxHeartbeats 4000000 in
theorem lock_free (a : Addr) (w : World) (hc : w.cell? a = some (.int .i32 0)) (hz : w.frozen? a = false) :
    Calls Tryz.prog 171 #[.pointer (some a)] w fun e w' => e = .returned (.tuple #[]) ∧ w' = w.setCell a (.int .i32 1) := by
  have hd := rdisable
  have he := renable
  have ha := racquire
  have hcas := run_call_cas_hit (P := Tryz.prog) Tryz.func198 (by kernel_rfl) (by kernel_rfl) (by kernel_rfl) .i32 (by kernel_rfl) (y := 1) hc hz
  have hc' : (w.setCell a (.int .i32 1)).cell? a = some (.int .i32 1) := World.cell?_setCell_same w a _ hc
  have hcv := run_convert_to_unsafe (P := Tryz.prog) (src := 256) (dst := 192) Tryz.underlying256 Tryz.underlying192 (by kernel_rfl) hc'
  go_enter Tryz.func171, Tryz.ntmps171
  go_wp2
  first | go_end0 | (simp only [Exit.inBlock, Exit.then]; refine bodyPost_ret (results_none rfl _ _ _) rfl ?_) | refine bodyPost_ret (results_none rfl _ _ _) rfl ?_
  go_wp2
  go_end0
  exact ⟨rfl, rfl⟩
end Go.Proofs.YtpinjgdnhbogoaaGreatDoor

/- strings.NewReplacer, at a row of ten texts. -/
namespace Go.Proofs.YtpinjgdnhbogoaaGreatDoor
open Go.RowKit Go.Lib

theorem info9 : (Tryz.prog.info? 9).map (fun i => (i.zero, i.size, i.bytes)) = some (some (.string ⟨#[]⟩), 1, 16) := by kernel_rfl
def strs (l : List Str) : List Value := l.map fun s => .string (bs s)
theorem strs_one (l : List Str) : ∀ u ∈ strs l, u.oneCell' = true := by
  intro u hu
  obtain ⟨a, _, rfl⟩ := List.mem_map.1 hu
  rfl
set_option maxHeartbeats 4000000 in
theorem newrep_h {w : World} {S : Nat → Prop} {v : Value} {l : List Str} (_hl : l.length = 10) (hv : SRow w S 1 v 10 (strs l)) :
    Calls Tryz.prog 87 #[v] w fun e w' => (∃ rp lv, e = .returned (.pointer (some ⟨rp, 0, none⟩)) ∧ w'.heap[rp]? = some (.cells #[.int .u32 0, .int .i32 0, .int .u32 0, .nilIface, lv] 174 (0, 0)) ∧ w'.ownsRow w.heap.size 9 1 lv 10 (strs l) ∧ w.heap.size ≤ rp) ∧ Fr (fun _ => False) w w' := by
  obtain ⟨i0, hi0, hz0, hz1, hz2⟩ := info_parts info9
  obtain ⟨hlen, a, cap, rfl, hnc, hcm, h5, h6⟩ := id hv
  have HV := Lib.hid hv
  clear hv h5 h6 hlen _hl
  go_enter Tryz.func87, Tryz.ntmps87
  go_wp2_with (at_builtin; refine wpList_append_row rfl (.const (.slice none 0 0)) (.tmp 8) 65 rfl w.heap.size 9 i0 (.string ⟨#[]⟩) 1 16 Tryz.underlying65 hi0 hz0 hz1 hz2 rfl (by decide) (.slice none 0 0) 0 [] rfl (World.ownsRow_nil _ _ _ _) S _ 10 (strs l) rfl HV.out (strs_one l) (by unfold maxLen; omega) (by omega) (Nat.le_refl _) ?_; intro b7 cap7 w7 hown7 hgrow7 hat7)
  simp only [Nat.zero_add, List.nil_append] at hown7
  have hF7 : Fr (fun _ => False) w w7 := (Fr.refl _ _).grown hgrow7 (fun k hk => by simp [Value.ownBlock] at hk)
  go_ret
  exact ⟨⟨w7.heap.size, _, rfl, block_new _ _, ownsRow_fr hown7 ((Fr.refl _ _).alloc _), hF7.size⟩, hF7.alloc _⟩
end Go.Proofs.YtpinjgdnhbogoaaGreatDoor

/- strings.Replacer: build. -/
namespace Go.Proofs.YtpinjgdnhbogoaaGreatDoor
open Go.RowKit Go.Lib

def pcs : List UInt8 := [38, 60, 62, 34, 39]
def pvs : List Str := [[38, 97, 109, 112, 59], [38, 108, 116, 59], [38, 103, 116, 59], [38, 113, 117, 111, 116, 59], [38, 97, 112, 111, 115, 59]]
def pc (j : Nat) : UInt8 := pcs.getD j 0
def pv (j : Nat) : Str := pvs.getD j []
def oldNew : List Str := [[38], [38, 97, 109, 112, 59], [60], [38, 108, 116, 59], [62], [38, 103, 116, 59], [34], [38, 113, 117, 111, 116, 59], [39], [38, 97, 112, 111, 115, 59]]
theorem old_at : ∀ j, j < 5 → oldNew[2 * j]? = some [pc j] ∧ oldNew[2 * j + 1]? = some (pv j) ∧ 1 < (pv j).length := by decide
def repF (k : Nat) (c : UInt8) : Option Str :=
  if k ≤ 0 ∧ c = 38 then some (pv 0) else if k ≤ 1 ∧ c = 60 then some (pv 1) else if k ≤ 2 ∧ c = 62 then some (pv 2) else if k ≤ 3 ∧ c = 34 then some (pv 3) else if k ≤ 4 ∧ c = 39 then some (pv 4) else none
theorem repF_five (c : UInt8) : repF 5 c = none := by unfold repF; simp
theorem repF_step : ∀ j, j < 5 → ∀ c : UInt8, repF j c = if c = pc j then some (pv j) else repF (j + 1) c := by
  intro j hj c
  match j, hj with
  | 0, _ => unfold repF pc pcs; by_cases h : c = 38 <;> simp [h]
  | 1, _ => unfold repF pc pcs; by_cases h : c = 60 <;> simp [h]
  | 2, _ => unfold repF pc pcs; by_cases h : c = 62 <;> simp [h]
  | 3, _ => unfold repF pc pcs; by_cases h : c = 34 <;> simp [h]
  | 4, _ => unfold repF pc pcs; by_cases h : c = 39 <;> simp [h]
theorem repF_fresh : ∀ j, j < 5 → repF (j + 1) (pc j) = none := by decide
theorem esc_rep (c : UInt8) : escC c = match repF 0 c with | some l => l | none => [c] := by
  unfold escC repF
  by_cases h1 : c = 38
  · simp [h1]; rfl
  by_cases h2 : c = 60
  · simp [h2]; rfl
  by_cases h3 : c = 62
  · simp [h3]; rfl
  by_cases h4 : c = 34
  · simp [h4]; rfl
  by_cases h5 : c = 39
  · simp [h5]; rfl
  simp [h1, h2, h3, h4, h5]
def BytesBlk (W : World) (g : Nat) (l : Str) : Prop := ∃ cur fz, W.heap[g]? = some (.cells cur 5 fz) ∧ ∀ j, j < l.length → cur[j]? = some (.int .u8 ((l.getD j 0).toNat : Int))
def slotOK (W : World) (B : Nat) (x : Option Value) (o : Option Str) : Prop := match o with
  | none => x = some (.slice none 0 0)
  | some l => ∃ g cap, x = some (.slice (some ⟨g, 0, none⟩) l.length cap) ∧ B ≤ g ∧ BytesBlk W g l
def toRep (k : Nat) : List Str := ((List.range 5).drop k).reverse.map fun j => [pc j]
structure BRel (w : World) (bb k : Nat) (C : Array Value) (tv : Value) (W : World) : Prop where
  blk : W.heap[bb]? = some (.cells C 224 (0, 0))
  size : C.size = 257
  slots : ∀ c : UInt8, slotOK W w.heap.size C[c.toNat]? (repF k c)
  last : C[256]? = some tv
  row : W.ownsRow w.heap.size 9 1 tv (5 - k) (strs (toRep k))
  fr : Fr (fun _ => False) w W
  low : w.heap.size ≤ bb
theorem zero224 : Tryz.zeroCells224 = Array.replicate 257 (.slice none 0 0) := by kernel_rfl
def cells0 (sl : Value) : Array Value := (Array.replicate 256 (.slice none 0 0)).push sl
theorem cells0_eq (sl : Value) : Tryz.zeroCells224.toList.set 256 sl = (cells0 sl).toList := by
  rw [zero224]
  unfold cells0
  rw [Array.toList_replicate, Array.toList_push, Array.toList_replicate, show (257 : Nat) = 256 + 1 from rfl, List.replicate_succ']
  rw [List.set_append_right _ _ (by rw [List.length_replicate]; exact Nat.le_refl _), List.length_replicate, Nat.sub_self]
  rfl
theorem cells0_size (sl : Value) : (cells0 sl).size = 257 := by unfold cells0; rw [Array.size_push, Array.size_replicate]
theorem cells0_at (sl : Value) (i : Nat) (hi : i < 256) : (cells0 sl)[i]? = some (.slice none 0 0) := by
  unfold cells0
  rw [Array.getElem?_push, if_neg (by rw [Array.size_replicate]; omega), Array.getElem?_replicate, if_pos hi]
theorem cells0_last (sl : Value) : (cells0 sl)[256]? = some sl := by
  unfold cells0
  rw [Array.getElem?_push, if_pos (by rw [Array.size_replicate])]
theorem info224 : (Tryz.prog.info? 224).map (·.size) = some 257 := by kernel_rfl
theorem store224 (W : World) {sl : Value} (h1 : sl.oneCell' = true) : Sem.run Tryz.prog (storeCells ⟨W.heap.size, 0, none⟩ (Tryz.zeroCells224.toList.set 256 sl)) (W.alloc (.cells Tryz.zeroCells224 224)) = .ok () (W.alloc (.cells (cells0 sl) 224)) := by
  rw [cells0_eq]
  refine run_storeCells_new (P := Tryz.prog) W 224 Tryz.zeroCells224 (cells0 sl) (by rw [info224, cells0_size]) (by rw [cells0_size, zero224]; simp) ?_
  refine Array.all_eq_true_iff_forall_mem.2 fun v hv => ?_
  unfold cells0 at hv
  rcases Array.mem_push.1 hv with h | h
  · rw [(Array.mem_replicate.1 h).2]; rfl
  · rw [h]; exact h1
theorem conv_blk (W : World) (l : Str) : ∃ cap W', Sem.run Tryz.prog (convert 9 113 (.string (bs l))) W = .ok (.slice (some ⟨W.heap.size, 0, none⟩) l.length cap) W' ∧ BytesBlk W' W.heap.size l ∧ Fr (fun _ => False) W W' := by
  refine ⟨_, _, run_bytes_of_string W 9 113 5 (bs l) Tryz.underlying9 Tryz.underlying113 Tryz.underlying5, ?_, ((Fr.refl _ _).drew).alloc _⟩
  refine ⟨_, _, block_new_at (w := W.drew) rfl, fun j hj => ?_⟩
  have hrow := bytesRow_at (bs l) (grownCap W (bs l).size 0 5) j (show j < l.toArray.size by simpa using hj)
  rw [hrow, List.getD_eq_getElem?_getD, List.getElem?_eq_getElem hj]; rfl
theorem BytesBlk.keep {W W' : World} {g : Nat} {l : Str} (h : BytesBlk W g l) (hk : ∀ (c : Array Value) (f : Nat × Nat), W.heap[g]? = some (Obj.cells c 5 f) → W'.heap[g]? = some (Obj.cells c 5 f)) : BytesBlk W' g l := by
  obtain ⟨cur, fz, h1, h2⟩ := h
  exact ⟨cur, fz, hk _ _ h1, h2⟩
theorem slotOK.keep {W W' : World} {B : Nat} {x : Option Value} {o : Option Str} (h : slotOK W B x o) (hk : ∀ (g : Nat) (c : Array Value) (f : Nat × Nat), W.heap[g]? = some (Obj.cells c 5 f) → W'.heap[g]? = some (Obj.cells c 5 f)) : slotOK W' B x o := by
  unfold slotOK at h ⊢
  cases o with
  | none => exact h
  | some l =>
    obtain ⟨g, cap, h1, h2, h3⟩ := h
    exact ⟨g, cap, h1, h2, h3.keep (hk g)⟩
theorem toRep_step : ∀ m, m < 5 → toRep (m + 1) ++ [[pc m]] = toRep m := by decide
theorem BRel.fr2 {w W W2 : World} {bb k : Nat} {C : Array Value} {tv : Value} (h : BRel w bb k C tv W) (hf : Fr (fun _ => False) W W2) : BRel w bb k C tv W2 :=
  ⟨hf.keep h.blk (fun h => h), h.size, fun c => slotOK.keep (h.slots c) fun _g _c _f hg => hf.keep hg (fun h => h), h.last, ownsRow_fr h.row hf, h.fr.next hf, h.low⟩
/-- the row of what is replaced has grown -/
theorem BRel.grow {w W w7 : World} {bb m : Nat} {C : Array Value} {tv : Value} (h : BRel w bb (m + 1) C tv W) (hg : W.grownBy w7 tv.ownBlock) :
    w7.heap[bb]? = some (.cells C 224 (0, 0)) ∧ (∀ c : UInt8, slotOK w7 w.heap.size C[c.toNat]? (repF (m + 1) c)) ∧ Fr (fun _ => False) w w7 := by
  refine ⟨block_grown h.blk hg (fun e => own_ne h.row h.blk (by decide) e.symm), fun c => slotOK.keep (h.slots c) fun g c f hgb => block_grown hgb hg (fun e => own_ne h.row hgb (by decide) e.symm), h.fr.grown hg fun k hk => .inr (h.row.lt k hk).1⟩
theorem pc_lt (m : Nat) : (pc m).toNat < 256 := (pc m).toNat_lt
theorem BRel.step {w W w7 w8 : World} {bb m cap7 cap8 g8 n : Nat} {b7 : Option Addr} {C : Array Value} {tv : Value} (hm : m < 5) (h : BRel w bb (m + 1) C tv W) (hg : W.grownBy w7 tv.ownBlock) (hn : n = 5 - m)
    (hr : w7.ownsRow w.heap.size 9 1 (.slice b7 n cap7) n (strs (toRep m))) (hF8 : Fr (fun _ => False) (w7.setCell ⟨bb, 256, none⟩ (.slice b7 n cap7)) w8) (hby : BytesBlk w8 g8 (pv m)) (hg8 : w.heap.size ≤ g8) :
    w8.heap[bb]? = some (.cells (C.setIfInBounds 256 (.slice b7 n cap7)) 224 (0, 0)) ∧
    BRel w bb m ((C.setIfInBounds 256 (.slice b7 n cap7)).setIfInBounds (pc m).toNat (.slice (some ⟨g8, 0, none⟩) (pv m).length cap8)) (.slice b7 n cap7) (w8.setCell ⟨bb, (pc m).toNat, none⟩ (.slice (some ⟨g8, 0, none⟩) (pv m).length cap8)) := by
  obtain ⟨hb7, hs7, hF7⟩ := h.grow hg
  have hne7 := own_ne hr hb7 (by decide)
  have hb7' : (w7.setCell ⟨bb, 256, none⟩ (.slice b7 n cap7)).heap[bb]? = some (.cells (C.setIfInBounds 256 (.slice b7 n cap7)) 224 (0, 0)) := block_set hb7 256 _
  have hb8 := hF8.keep hb7' (fun h => h)
  have hr7 : (w7.setCell ⟨bb, 256, none⟩ (.slice b7 n cap7)).ownsRow w.heap.size 9 1 (.slice b7 n cap7) n (strs (toRep m)) := ownsRow_keep hr fun k hk => block_set_ne (fun e => hne7 (by rw [hk, e]))
  have hr8 := ownsRow_fr hr7 hF8
  have hne8 := own_ne hr8 hb8 (by decide)
  have hsz := h.size
  have hpc := pc_lt m
  have keep5 : ∀ (g : Nat) (c : Array Value) (f : Nat × Nat), w7.heap[g]? = some (Obj.cells c 5 f) → (w8.setCell ⟨bb, (pc m).toNat, none⟩ (.slice (some ⟨g8, 0, none⟩) (pv m).length cap8)).heap[g]? = some (Obj.cells c 5 f) := by
    intro g c f hgb
    have hne : g ≠ bb := ne_of_elem hgb hb7 (by decide)
    exact (block_set_ne hne).trans (hF8.keep ((block_set_ne hne).trans hgb) (fun h => h))
  refine ⟨hb8, ⟨block_set hb8 _ _, by rw [Array.size_setIfInBounds, Array.size_setIfInBounds]; exact hsz, fun c => ?_, ?_, ?_, ?_, h.low⟩⟩
  · have hc := c.toNat_lt
    rw [repF_step m hm c]
    by_cases hcp : c = pc m
    · rw [if_pos hcp, hcp, Array.getElem?_setIfInBounds_self_of_lt (by rw [Array.size_setIfInBounds, hsz]; omega)]
      refine ⟨g8, cap8, rfl, hg8, hby.keep fun c f hgb => ?_⟩
      exact (block_set_ne (ne_of_elem hgb hb8 (by decide))).trans hgb
    · rw [if_neg hcp, Array.getElem?_setIfInBounds_ne (fun e => hcp (UInt8.toNat_inj.1 e.symm)), Array.getElem?_setIfInBounds_ne (by omega)]
      exact slotOK.keep (hs7 c) keep5
  · rw [Array.getElem?_setIfInBounds_ne (by omega), Array.getElem?_setIfInBounds_self_of_lt (by omega)]
  · rw [← hn]
    exact ownsRow_keep hr8 fun k hk => block_set_ne (fun e => hne8 (by rw [hk, e]))
  · exact Fr.setCell (p := ⟨bb, (pc m).toNat, none⟩) (Fr.next (Fr.setCell (p := ⟨bb, 256, none⟩) hF7 (.inr h.low) _) hF8) (.inr h.low) _
set_option maxRecDepth 100000 in
set_option maxHeartbeats 8000000 in
theorem build_h {w : World} {S : Nat → Prop} {rp : Nat} {lv : Value} {x0 x1 x2 x3 : Value} (hb : w.heap[rp]? = some (.cells #[x0, x1, x2, x3, lv] 174 (0, 0))) (hv : SRow w S 1 lv 10 (strs oldNew)) :
    Calls Tryz.prog 154 #[.pointer (some ⟨rp, 0, none⟩)] w fun e w' => (∃ bb C tv, e = .returned (.iface 225 (.pointer (some ⟨bb, 0, none⟩))) ∧ BRel w bb 0 C tv w') := by
  have c4 := cell_of hb (i := 4) (v := lv) rfl
  obtain ⟨i0, hi0, hz0, hz1, hz2⟩ := info_parts info9
  obtain ⟨_, a, cap, rfl, hnc, hcm, h5, h6⟩ := id hv
  obtain ⟨g, off, rfl, _, hcells⟩ := h6 (by omega)
  have HC := Lib.hid hcells
  clear hcells h5 hv hb
  go_enter Tryz.func154, Tryz.ntmps154
  go_wp2_with fail
  go_loopg [4, 5] 5 (fun j v4 v5 wr => ∃ k : Nat, k + j = 5 ∧ v5 = .int .i64 (2 * k : Nat) ∧ v4 = .bool (decide (k = 0)) ∧ w = wr)
  case atStart => exact ⟨0, by omega, rfl, rfl, rfl⟩
  case round =>
    obtain ⟨k, hk, hv5, hv4, rfl⟩ := hrel
    by_cases hlt : k < 5
    · subst hv5 hv4
      obtain ⟨o1, o2, o3⟩ := old_at k hlt
      have d0 := HC.out (2 * k) (.string (bs [pc k])) (by unfold strs; rw [List.getElem?_map, o1]; rfl)
      have d1 := HC.out (2 * k + 1) (.string (bs (pv k))) (by unfold strs; rw [List.getElem?_map, o2]; rfl)
      have hz0 : (bs [pc k]).size = 1 := rfl
      have hz1 : (bs (pv k)).size = (pv k).length := rfl
      have hn1 : (((pv k).length : Int) == 1) = false := by rw [beq_eq_false_iff_ne]; omega
      have hn2 : (((pv k).length : Int) != 1) = true := by rw [bne, hn1]; rfl
      have HK := Lib.hid hk
      clear o1 o2 o3 hk
      go_wp2_with fail
      go_roundg (5 - (k + 1))
      case measure => have := HK.out; omega
      case rel => exact ⟨k + 1, by omega, by go_num, rfl, rfl⟩
    · have hk5 : k = 5 := by omega
      subst hk5
      replace hv5 : _ = Value.int .i64 10 := hv5
      replace hv4 : _ = Value.bool false := hv4
      subst hv5 hv4
      clear hk hlt
      have hmk : ∀ w, (Instr.makeSlice 65 (.int .i64 0) (.int .i64 5)).run Tryz.prog w = .ok (.slice (some ⟨w.heap.size, 0, none⟩) 0 5) (w.alloc (.cells (Array.replicate 5 (.string ⟨#[]⟩)) 9)) := fun _ => by kernel_rfl
      have hst := store224 (w.alloc (.cells (Array.replicate 5 (.string ⟨#[]⟩)) 9)) (sl := .slice (some ⟨w.heap.size, 0, none⟩) 0 5) rfl
      rw [show (w.alloc (.cells (Array.replicate 5 (.string ⟨#[]⟩)) 9)).heap.size = w.heap.size + 1 by simp] at hst
      obtain ⟨C0, hC0⟩ : ∃ C0, cells0 (.slice (some ⟨w.heap.size, 0, none⟩) 0 5) = C0 := ⟨_, rfl⟩
      rw [hC0] at hst
      have HC0 := Lib.hid hC0
      clear hC0
      go_wp2_with fail
      have hB0 : BRel w (w.heap.size + 1) 5 C0 (.slice (some ⟨w.heap.size, 0, none⟩) 0 5) ((w.alloc (.cells (Array.replicate 5 (.string ⟨#[]⟩)) 9)).alloc (.cells C0 224)) := by
        have hfa : Fr (fun _ => False) w (w.alloc (.cells (Array.replicate 5 (.string ⟨#[]⟩)) 9)) := (Fr.refl _ _).alloc _
        refine ⟨block_new_at (by simp), by rw [← HC0.out, cells0_size], fun c => ?_, by rw [← HC0.out, cells0_last], ?_, hfa.alloc _, by omega⟩
        · rw [repF_five, ← HC0.out]
          exact cells0_at _ _ c.toNat_lt
        · exact ⟨rfl, .inr ⟨w.heap.size, 5, Array.replicate 5 (.string ⟨#[]⟩), rfl, Nat.le_refl _, block_old (block_new _ _) _, by omega, by unfold maxLen; omega, rfl, rfl⟩⟩
      have HB0 := Lib.hid hB0
      clear hB0 hst
      obtain ⟨bb, hbb⟩ : ∃ bb, w.heap.size + 1 = bb := ⟨_, rfl⟩
      rw [hbb] at HB0
      have hlow : w.heap.size ≤ bb := by omega
      rw [hbb]
      clear hbb
      go_loopg [12] 5 (fun j v wr => ∃ C tv, ((j = 0 ∧ v = .int .i64 (-2)) ∨ ∃ m : Nat, j = m + 1 ∧ m < 5 ∧ v = .int .i64 ((2 * m : Nat) : Int)) ∧ BRel w bb j C tv wr)
      case atStart => exact ⟨C0, _, .inr ⟨4, rfl, by omega, rfl⟩, HB0.out⟩
      case round =>
        obtain ⟨C, tv, hjv, hR⟩ := hrel
        have HR := Lib.hid hR
        clear hR HB0
        rcases hjv with ⟨rfl, rfl⟩ | ⟨m, rfl, hm, rfl⟩
        · go_wp2_with fail
          go_ret
          exact ⟨bb, C, tv, rfl, HR.out⟩
        · obtain ⟨o1, o2, o3⟩ := old_at m hm
          have hfr := HR.out.fr
          have d0 := hfr.cell (HC.out (2 * m) (.string (bs [pc m])) (by unfold strs; rw [List.getElem?_map, o1]; rfl)) (fun h => h)
          have d1 := hfr.cell (HC.out (2 * m + 1) (.string (bs (pv m))) (by unfold strs; rw [List.getElem?_map, o2]; rfl)) (fun h => h)
          have hnil := HR.out.slots (pc m)
          rw [repF_fresh m hm] at hnil
          have e0 := cell_of HR.out.blk hnil
          have e1 := cell_of HR.out.blk HR.out.last
          have hz : (bs [pc m]).size = 1 := rfl
          have hby : ∀ h, (bs [pc m])[0]'h = pc m := fun _ => rfl
          have hlt := pc_lt m
          have hlti : ((pc m).toNat : Int) < 256 := by omega
          have heq : ∀ w, Sem.run Tryz.prog (binOp .eql 113 (.slice none 0 0) (.slice none 0 0)) w = .ok (.bool true) w := fun w => by rw [Lib.run_eql_slice_nil w 113 5 none 0 0 0 0 Tryz.underlying113]; rfl
          clear o1 o2 o3 hfr hnil
          have hcv : Sem.run Tryz.prog (convert 113 9 (.slice (some ⟨wr.heap.size, 0, none⟩) 1 1)) (wr.alloc (.cells #[.int .u8 ((pc m).toNat : Int)] 5)) = .ok (.string (bs [pc m])) (wr.alloc (.cells #[.int .u8 ((pc m).toNat : Int)] 5)) :=
            run_convert_bytes_back _ 113 9 5 ⟨wr.heap.size, 0, none⟩ 1 [pc m] Tryz.underlying113 Tryz.underlying5 Tryz.underlying9 fun j hj => by
              have h0 : j = 0 := by simpa using hj
              subst h0
              exact cell_of (block_new wr _) rfl
          have hfa : Fr (fun _ => False) wr ((wr.alloc (.cells #[.int .u8 ((pc m).toNat : Int)] 5)).alloc (.cells #[.string (bs [pc m])] 9)) := ((Fr.refl _ _).alloc _).alloc _
          have HR2 := Lib.hid (HR.out.fr2 hfa)
          have HN : Hid (SRow ((wr.alloc (.cells #[.int .u8 ((pc m).toNat : Int)] 5)).alloc (.cells #[.string (bs [pc m])] 9)) (fun _ => True) 1 (.slice (some ⟨wr.heap.size + 1, 0, none⟩) 1 1) 1 (strs [[pc m]])) := by
            rw [show wr.heap.size + 1 = (wr.alloc (.cells #[.int .u8 ((pc m).toNat : Int)] 5)).heap.size by simp]
            exact SRow.of_block (f := (0, 0)) (e := 9) (block_new _ _) rfl (by unfold maxLen; omega) trivial
          obtain ⟨q, hq⟩ : ∃ q, 5 - (m + 1) = q := ⟨_, rfl⟩
          have HO := Lib.hid HR2.out.row
          rw [hq] at HO
          have hcat : strs (toRep (m + 1)) ++ strs [[pc m]] = strs (toRep m) := by
            rw [← toRep_step m hm]; unfold strs; rw [List.map_append]
          have HQ := Lib.hid hq
          have HCat := Lib.hid hcat
          clear hcat hfa hq
          go_wp2_with (at_builtin; refine wpList_append_row rfl (.tmp 119) (.tmp 123) 65 rfl w.heap.size 9 i0 (.string ⟨#[]⟩) 1 16 Tryz.underlying65 hi0 hz0 hz1 hz2 rfl (by decide) tv q (strs (toRep (m + 1))) rfl HO.out (fun _ => True) _ 1 (strs [[pc m]]) rfl HN.out (strs_one _) (by have := HQ.out; unfold maxLen; omega) (by have := HQ.out; omega) (by have := HR2.out.fr.size; exact this) ?_; intro b7 cap7 w7 hown7 hgrow7 hat7; rw [HCat.out] at hown7; clear hat7; have HOwn := Lib.hid hown7; have HGrow := Lib.hid hgrow7; clear hown7 hgrow7; have hgr := HR2.out.grow HGrow.out; have c7 := cell_of hgr.1 HR2.out.last; have f7 := free_of 256 hgr.1; obtain ⟨cap8, w8, hc8, hby8, hF8⟩ := conv_blk (w7.setCell ⟨bb, 256, none⟩ (.slice b7 (q + 1) cap7)) (pv m); have hst8 := BRel.step (cap8 := cap8) hm HR2.out HGrow.out (by have := HQ.out; omega) HOwn.out hF8 hby8 (by have := hgr.2.2.size; simpa using this); have hn8 := HR2.out.slots (pc m); rw [repF_fresh m hm] at hn8; have c8 := cell_of hst8.1 (by rw [Array.getElem?_setIfInBounds_ne (show 256 ≠ (pc m).toNat by have := pc_lt m; omega)]; exact hn8); have f8 := free_of (pc m).toNat hst8.1; have HS8 := Lib.hid hst8.2; clear hgr hst8 hn8 hby8 hF8; simp only [World.size_setCell] at hc8; have hszz : (w7.setCell ⟨bb, 256, none⟩ (.slice b7 (q + 1) cap7)).heap.size = w7.heap.size := World.size_setCell _ _ _; rw [hszz] at HS8; clear hszz)
          go_roundg m
          case measure => omega
          case rel =>
            refine ⟨_, _, ?_, HS8.out⟩
            rcases Nat.eq_zero_or_pos m with h0 | h0
            · exact .inl ⟨h0, by subst h0; rfl⟩
            · exact .inr ⟨m - 1, by omega, by omega, by congr 1; omega⟩
end Go.Proofs.YtpinjgdnhbogoaaGreatDoor

/- strings.Replacer: built once. -/
namespace Go.Proofs.YtpinjgdnhbogoaaGreatDoor
open Go.RowKit Go.Lib

theorem heap_lt {W : World} {b : Nat} {x : Obj} (h : W.heap[b]? = some x) : b < W.heap.size := (Array.getElem?_eq_some_iff.1 h).1
structure Built (B bb : Nat) (W : World) : Prop where
  blk : ∃ C tv, W.heap[bb]? = some (.cells C 224 (0, 0)) ∧ C.size = 257 ∧ (∀ c : UInt8, slotOK W B C[c.toNat]? (repF 0 c)) ∧ C[256]? = some tv ∧ W.ownsRow B 9 1 tv 5 (strs (toRep 0))
  low : B ≤ bb
theorem Built.keep {B bb : Nat} {W W' : World} (h : Built B bb W) (hk : ∀ g, B ≤ g → g < W.heap.size → W'.heap[g]? = W.heap[g]?) : Built B bb W' := by
  obtain ⟨⟨C, tv, h1, h2, h3, h4, h5⟩, h6⟩ := h
  refine ⟨⟨C, tv, (hk bb h6 (heap_lt h1)).trans h1, h2, fun c => ?_, h4, ownsRow_keep h5 fun k hk2 => hk k (h5.lt k hk2).1 (h5.lt k hk2).2⟩, h6⟩
  have := h3 c
  unfold slotOK at this ⊢
  cases hr : repF 0 c with
  | none => rw [hr] at this; exact this
  | some l =>
    rw [hr] at this
    obtain ⟨g, cap, e1, e2, e3⟩ := this
    exact ⟨g, cap, e1, e2, e3.keep fun c f hg => (hk g e2 (heap_lt hg)).trans hg⟩
theorem Built.fr {B bb : Nat} {W W' : World} {o : Nat → Prop} (h : Built B bb W) (hf : Fr o W W') (ho : ∀ k, o k → k < B) : Built B bb W' :=
  h.keep fun g h1 h2 => hf.block g h2 fun h3 => by have := ho g h3; omega
theorem BRel.built {w W : World} {bb : Nat} {C : Array Value} {tv : Value} (h : BRel w bb 0 C tv W) : Built w.heap.size bb W :=
  ⟨⟨C, tv, h.blk, h.size, h.slots, h.last, h.row⟩, h.low⟩
set_option maxHeartbeats 4000000 in
theorem buildOnce_h {w : World} {S : Nat → Prop} {rp : Nat} {lv x0 x1 x2 : Value} (hb : w.heap[rp]? = some (.cells #[x0, x1, x2, .nilIface, lv] 174 (0, 0))) (hv : SRow w S 1 lv 10 (strs oldNew)) :
    Calls Tryz.prog 121 #[.pointer (some ⟨rp, 0, none⟩)] w fun e w' => ∃ bb, e = .returned (.tuple #[]) ∧ w'.heap[rp]? = some (.cells #[x0, x1, x2, .iface 225 (.pointer (some ⟨bb, 0, none⟩)), .slice none 0 0] 174 (0, 0)) ∧ Built w.heap.size bb w' ∧ Fr (fun k => k = rp) w w' := by
  have hlt := heap_lt hb
  have HB := Lib.hid hb
  have HV := Lib.hid hv
  have HL := Lib.hid hlt
  clear hb hv hlt
  go_enter Tryz.func121, Tryz.ntmps121
  go_wp2_with (go_at_call 154; refine (build_h HB.out HV.out).mono ?_; rintro e w1 ⟨bb, C, tv, rfl, hR⟩; have hb1 := hR.fr.keep HB.out (fun h => h); have c3 := cell_of hb1 (i := 3) (v := .nilIface) rfl; have f3 := free_of 3 hb1; have hb2 := block_set hb1 3 (.iface 225 (.pointer (some ⟨bb, 0, none⟩))); have c4 := cell_of hb2 (i := 4) (v := lv) rfl; have f4 := free_of 4 hb2; have HR := Lib.hid hR; have HB2 := Lib.hid hb2; clear hR hb1 hb2)
  go_end0
  refine ⟨bb, rfl, block_set HB2.out 4 _, (HR.out.built.keep fun g h1 _ => ?_), ?_⟩
  · have hl := HL.out
    rw [block_set_ne (show g ≠ rp by omega), block_set_ne (show g ≠ rp by omega)]
  · exact Fr.setCell (p := ⟨rp, 4, none⟩) (Fr.setCell (o := fun k => k = rp) (p := ⟨rp, 3, none⟩) (HR.out.fr.mono fun _ _ h => h.elim) (.inl rfl) _) (.inl rfl) _
theorem oload_h (a : Addr) (x : Int) (w : World) (h0 : w.cell? a = some (.int .u32 x)) :
    Calls Tryz.prog 152 #[.pointer (some a)] w fun e w' => e = .returned (.bool (x != 0)) ∧ w' = w := by
  have hl := run_call_load (P := Tryz.prog) Tryz.func170 (by kernel_rfl) (by kernel_rfl) (by kernel_rfl) .u32 (by kernel_rfl) h0
  go_enter Tryz.func152, Tryz.ntmps152
  go_wp2
  go_ret
  exact ⟨rfl, rfl⟩
set_option maxRecDepth 100000 in
set_option maxHeartbeats 4000000 in
theorem slow_h {w : World} {S : Nat → Prop} {rp : Nat} {lv x2 : Value} (hb : w.heap[rp]? = some (.cells #[.int .u32 0, .int .i32 0, x2, .nilIface, lv] 174 (0, 0))) (hv : SRow w S 1 lv 10 (strs oldNew)) (hS : ¬ S rp) :
    Calls Tryz.prog 153 #[.pointer (some ⟨rp, 0, none⟩), .func (.func 121) #[.pointer (some ⟨rp, 0, none⟩)] #[]] w fun e w' => ∃ bb, e = .returned (.tuple #[]) ∧ w'.heap[rp]? = some (.cells #[.int .u32 1, .int .i32 0, x2, .iface 225 (.pointer (some ⟨bb, 0, none⟩)), .slice none 0 0] 174 (0, 0)) ∧ Built w.heap.size bb w' ∧ Fr (fun k => k = rp) w w' := by
  have hlt := heap_lt hb
  have c1 := cell_of hb (i := 1) (v := .int .i32 0) rfl
  have f1 := free_of 1 hb
  have hb1 := block_set hb 1 (.int .i32 1)
  have hv1 : SRow (w.setCell ⟨rp, 1, none⟩ (.int .i32 1)) S 1 lv 10 (strs oldNew) := hv.fr (Fr.setCell (o := fun k => k = rp) (p := ⟨rp, 1, none⟩) (Fr.refl _ _) (.inl rfl) _) fun k h e => hS (e ▸ h)
  have c0 := cell_of hb1 (i := 0) (v := .int .u32 0) rfl
  have hnot : ∀ (x : Bool) (w : World), (Op.unary .not (.bool x)).run Tryz.prog w = .ok (.bool (!x)) w := fun _ _ => rfl
  have HB1 := Lib.hid hb1
  have HV1 := Lib.hid hv1
  clear hb hb1 hv hv1
  go_enter_defers Tryz.func153, Tryz.ntmps153
  go_wp2_with (first | (go_at_call 171; refine (lock_free ⟨rp, 1, none⟩ _ c1 f1).mono ?_; rintro e w' ⟨rfl, rfl⟩) | (go_at_call 152; refine (oload_h ⟨rp, 0, none⟩ 0 _ c0).mono ?_; rintro e w' ⟨rfl, rfl⟩) | (go_at_call 121; refine (buildOnce_h HB1.out HV1.out).mono ?_; rintro e w2 ⟨bb, rfl, hb2, hB2, hF2⟩))
  have k0 := cell_of hb2 (i := 0) (v := .int .u32 0) rfl
  have g0 := free_of 0 hb2
  have hb3 : (w2.drew.setCell ⟨rp, 0, none⟩ (.int .u32 1)).heap[rp]? = _ := block_set (w := w2.drew) hb2 0 (.int .u32 1)
  have k1 := cell_of hb3 (i := 1) (v := .int .i32 1) rfl
  have g1 := free_of 1 hb3
  have hb4 := block_set hb3 1 (.int .i32 0)
  refine leaves_cons (f := 173) (args := #[.pointer (some ⟨rp, 0, none⟩), .bool true]) (by simp) (by simp [go_sem]) ?_
  refine (store_deferred ⟨rp, 0, none⟩ (.int .u32 0) .returning _ k0 g0).mono ?_
  rintro e u' w'' ⟨rfl, rfl, rfl⟩
  refine leaves_cons (f := 172) (args := #[.pointer (some ⟨rp, 1, none⟩)]) (by simp [settle]) (by simp [go_sem]) ?_
  refine (unlock_deferred ⟨rp, 1, none⟩ _ _ k1 g1).mono ?_
  rintro e u' w'' ⟨rfl, rfl, rfl⟩
  simp only [Leaves, settle, results, Tryz.results153]
  refine ⟨.tuple #[], by simp, bb, rfl, hb4, ?_, ?_⟩
  · have hsz : (w.setCell ⟨rp, 1, none⟩ (.int .i32 1)).heap.size = w.heap.size := World.size_setCell _ _ _
    rw [hsz] at hB2
    refine hB2.keep fun g h1 _ => ?_
    rw [block_set_ne (show g ≠ rp by omega), block_set_ne (show g ≠ rp by omega)]; rfl
  · have hF1 : Fr (fun k => k = rp) w (w.setCell ⟨rp, 1, none⟩ (.int .i32 1)) := Fr.setCell (o := fun k => k = rp) (p := ⟨rp, 1, none⟩) (Fr.refl _ _) (.inl rfl) _
    exact Fr.setCell (o := fun k => k = rp) (p := ⟨rp, 1, none⟩) (Fr.setCell (o := fun k => k = rp) (p := ⟨rp, 0, none⟩) (hF1.next hF2).drew (.inl rfl) _) (.inl rfl) _
set_option maxHeartbeats 4000000 in
theorem do_h {w : World} {S : Nat → Prop} {rp : Nat} {lv x2 : Value} (hb : w.heap[rp]? = some (.cells #[.int .u32 0, .int .i32 0, x2, .nilIface, lv] 174 (0, 0))) (hv : SRow w S 1 lv 10 (strs oldNew)) (hS : ¬ S rp) :
    Calls Tryz.prog 120 #[.pointer (some ⟨rp, 0, none⟩), .func (.func 121) #[.pointer (some ⟨rp, 0, none⟩)] #[]] w fun e w' => ∃ bb, e = .returned (.tuple #[]) ∧ w'.heap[rp]? = some (.cells #[.int .u32 1, .int .i32 0, x2, .iface 225 (.pointer (some ⟨bb, 0, none⟩)), .slice none 0 0] 174 (0, 0)) ∧ Built w.heap.size bb w' ∧ Fr (fun k => k = rp) w w' := by
  have c0 := cell_of hb (i := 0) (v := .int .u32 0) rfl
  have hnot : ∀ (x : Bool) (w : World), (Op.unary .not (.bool x)).run Tryz.prog w = .ok (.bool (!x)) w := fun _ _ => rfl
  have HB := Lib.hid hb
  have HV := Lib.hid hv
  clear hb hv
  go_enter Tryz.func120, Tryz.ntmps120
  go_wp2_with (first | (go_at_call 153; refine (slow_h HB.out HV.out hS).mono ?_; rintro e w2 ⟨bb, rfl, hb2, hB2, hF2⟩) | (go_at_call 152; refine (oload_h ⟨rp, 0, none⟩ 0 _ c0).mono ?_; rintro e w' ⟨rfl, rfl⟩))
  go_end0
  exact ⟨bb, rfl, hb2, hB2, hF2⟩
end Go.Proofs.YtpinjgdnhbogoaaGreatDoor

/- byteStringReplacer: plain parts. -/
namespace Go.Proofs.YtpinjgdnhbogoaaGreatDoor
open Go.RowKit Go.Lib

def escN (c : UInt8) : Nat := match repF 0 c with | some l => l.length - 1 | none => 0
def isRep (c : UInt8) : Bool := (repF 0 c).isSome
def escAt (j : Nat) : UInt8 := pc (4 - j)
theorem esc_len (c : UInt8) : (escC c).length = 1 + escN c := by
  rw [esc_rep]; unfold escN
  cases h : repF 0 c with
  | none => rfl
  | some l =>
    have : 1 ≤ l.length := by
      unfold repF at h
      split at h
      · cases h; decide
      split at h
      · cases h; decide
      split at h
      · cases h; decide
      split at h
      · cases h; decide
      split at h
      · cases h; decide
      cases h
    simp only; omega
theorem escN_le (c : UInt8) : escN c ≤ 5 := by
  unfold escN repF
  split
  · rename_i l h
    split at h
    · cases h; decide
    split at h
    · cases h; decide
    split at h
    · cases h; decide
    split at h
    · cases h; decide
    split at h
    · cases h; decide
    cases h
  · omega
/-- what the first k texts that are replaced make longer -/
def longer : Nat → Str → Nat
  | 0, _ => 0
  | k + 1, s => longer k s + s.count (escAt k) * ((pv (4 - k)).length - 1)
def anyOf : Nat → Str → Bool
  | 0, _ => false
  | k + 1, s => anyOf k s || s.count (escAt k) != 0
theorem longer_cons (c : UInt8) (s : Str) : ∀ k, k ≤ 5 → longer k (c :: s) = longer k s + longer k [c]
  | 0, _ => rfl
  | k + 1, h => by
    have ih := longer_cons c s k (by omega)
    simp only [longer, List.count_cons, List.count_nil, ih, Nat.add_mul, Nat.zero_add]
    omega
theorem longer_one (c : UInt8) : longer 5 [c] = escN c := by
  unfold escN
  simp only [longer, escAt, List.count_cons, List.count_nil, pc, pcs, pv, pvs, repF]
  by_cases h1 : c = 38
  · subst h1; rfl
  by_cases h2 : c = 60
  · subst h2; rfl
  by_cases h3 : c = 62
  · subst h3; rfl
  by_cases h4 : c = 34
  · subst h4; rfl
  by_cases h5 : c = 39
  · subst h5; rfl
  simp [h1, h2, h3, h4, h5]
theorem esc_longer (s : Str) : (escL s).length = s.length + longer 5 s := by
  induction s with
  | nil => rfl
  | cons c s ih => rw [escL_cons, List.length_append, ih, longer_cons c s 5 (by omega), longer_one, esc_len, List.length_cons]; omega
theorem any_cons (c : UInt8) (s : Str) : ∀ k, k ≤ 5 → anyOf k (c :: s) = (anyOf k s || anyOf k [c])
  | 0, _ => rfl
  | k + 1, h => by
    have ih := any_cons c s k (by omega)
    simp only [anyOf, ih, List.count_cons, List.count_nil]
    by_cases hc : c == escAt k
    · simp [hc]
    · simp [hc]; cases anyOf k s <;> cases anyOf k [c] <;> simp
theorem any_one (c : UInt8) : anyOf 5 [c] = isRep c := by
  unfold isRep
  simp only [anyOf, escAt, List.count_cons, List.count_nil, pc, pcs, repF]
  by_cases h1 : c = 38
  · subst h1; rfl
  by_cases h2 : c = 60
  · subst h2; rfl
  by_cases h3 : c = 62
  · subst h3; rfl
  by_cases h4 : c = 34
  · subst h4; rfl
  by_cases h5 : c = 39
  · subst h5; rfl
  simp [h1, h2, h3, h4, h5]
theorem any_rep (s : Str) : anyOf 5 s = s.any isRep := by
  induction s with
  | nil => rfl
  | cons c s ih => rw [any_cons c s 5 (by omega), ih, any_one, List.any_cons, Bool.or_comm]
theorem esc_no {s : Str} (h : s.any isRep = false) : escL s = s := by
  induction s with
  | nil => rfl
  | cons c s ih =>
    rw [List.any_cons, Bool.or_eq_false_iff] at h
    have h1 : repF 0 c = none := by have := h.1; unfold isRep at this; simpa using this
    rw [escL_cons, ih h.2, esc_rep, h1]; rfl
theorem longer_le (s : Str) : longer 5 s ≤ 5 * s.length := by
  have h := esc_longer s
  have : (escL s).length ≤ 6 * s.length := by
    clear h
    induction s with
    | nil => exact Nat.zero_le _
    | cons c s ih => rw [escL_cons, List.length_append, esc_len, List.length_cons]; have := escN_le c; omega
  omega
theorem longer_mono (s : Str) : ∀ k, longer k s ≤ longer (k + 1) s := fun k => by simp only [longer]; omega
theorem longer_le5 (s : Str) (k : Nat) (h : k ≤ 5) : longer k s ≤ 5 * s.length := by
  have h5 := longer_le s
  have a : longer 4 s ≤ longer 5 s := longer_mono s 4
  have b : longer 3 s ≤ longer 4 s := longer_mono s 3
  have c : longer 2 s ≤ longer 3 s := longer_mono s 2
  have d : longer 1 s ≤ longer 2 s := longer_mono s 1
  have e : longer 0 s ≤ longer 1 s := longer_mono s 0
  match k, h with
  | 0, _ => omega
  | 1, _ => omega
  | 2, _ => omega
  | 3, _ => omega
  | 4, _ => omega
  | 5, _ => omega
theorem toRep_at : ∀ k, k < 5 → (toRep 0)[k]? = some [escAt k] ∧ repF 0 (escAt k) = some (pv (4 - k)) ∧ 1 ≤ (pv (4 - k)).length ∧ (pv (4 - k)).length ≤ 6 := by decide
end Go.Proofs.YtpinjgdnhbogoaaGreatDoor

/- byteStringReplacer.Replace. -/
namespace Go.Proofs.YtpinjgdnhbogoaaGreatDoor
open Go.RowKit Go.Lib

theorem take_more (s : Str) (i : Nat) (h : i < s.length) : s.take (i + 1) = s.take i ++ [s.getD i 0] := by
  rw [List.take_add_one, List.getD_eq_getElem?_getD, List.getElem?_eq_getElem h]; rfl
theorem esc_le (s : Str) : (escL s).length ≤ 6 * s.length := by have := esc_longer s; have := longer_le s; omega

theorem slot_cell {w : World} {B bb : Nat} {C : Array Value} {c : UInt8} (hb : w.heap[bb]? = some (.cells C 224 (0, 0))) (hs : slotOK w B C[c.toNat]? (repF 0 c)) :
    (repF 0 c = none ∧ w.cell? ⟨bb, c.toNat, none⟩ = some (.slice none 0 0)) ∨ ∃ l g cap, repF 0 c = some l ∧ w.cell? ⟨bb, c.toNat, none⟩ = some (.slice (some ⟨g, 0, none⟩) l.length cap) ∧ BytesBlk w g l ∧ B ≤ g := by
  unfold slotOK at hs
  cases h : repF 0 c with
  | none => rw [h] at hs; exact .inl ⟨rfl, cell_of hb hs⟩
  | some l =>
    rw [h] at hs
    obtain ⟨g, cap, h1, h2, h3⟩ := hs
    exact .inr ⟨l, g, cap, rfl, cell_of hb h1, h3, h2⟩
theorem add0 (g j : Nat) : (⟨g, 0, none⟩ : Addr).add j = ⟨g, j, none⟩ := by unfold Addr.add; split <;> simp_all
theorem Fr.setRow {o : Nat → Prop} {a b : World} (h : Fr o a b) {g : Nat} (hg : o g ∨ a.heap.size ≤ g) (cs : Array Value) : Fr o a (b.setRow g cs) := by
  refine ⟨h.os, h.tape, h.output, ?_, fun k hk hno => ?_⟩
  · show a.heap.size ≤ (b.heap.modify g _).size
    rw [Array.size_modify]; exact h.size
  · have hne : g ≠ k := fun e => by subst e; rcases hg with h1 | h1; exact hno h1; omega
    show (b.heap.modify g _)[k]? = _
    rw [Array.getElem?_modify, if_neg hne]; exact h.block k hk hno
structure BufTo (w1 : World) (s : Str) (N i q : Nat) (wr : World) : Prop where
  here : q = (escL (s.take i)).length
  blk : ∃ cur, wr.heap[w1.heap.size]? = some (.cells cur 5 (0, 0)) ∧ cur.size = N ∧ ∀ t, t < q → cur[t]? = some (.int .u8 (((escL s).getD t 0).toNat : Int))
  fr : Fr (fun _ => False) w1 wr
theorem esc_split (s : Str) (i : Nat) (h : i < s.length) : escL s = escL (s.take i) ++ (escC (s.getD i 0) ++ escL (s.drop (i + 1))) := by
  have e : s = s.take i ++ (s.getD i 0 :: s.drop (i + 1)) := by
    rw [List.getD_eq_getElem?_getD, List.getElem?_eq_getElem h]
    simp
  conv => lhs; rw [e]
  rw [escL_append, escL_cons]
theorem esc_next (s : Str) (i : Nat) (h : i < s.length) : (escL (s.take (i + 1))).length = (escL (s.take i)).length + (escC (s.getD i 0)).length := by
  rw [take_more s i h, escL_append, List.length_append]; simp [escL]
theorem esc_get (s : Str) (i : Nat) (h : i < s.length) (t : Nat) (ht : t < (escC (s.getD i 0)).length) : (escL s).getD ((escL (s.take i)).length + t) 0 = (escC (s.getD i 0)).getD t 0 := by
  generalize hx : escC (s.getD i 0) = x at ht ⊢
  rw [esc_split s i h, hx, List.getD_eq_getElem?_getD, List.getElem?_append_right (by omega), Nat.add_sub_cancel_left, List.getElem?_append_left ht, List.getD_eq_getElem?_getD]
theorem esc_room (s : Str) (i : Nat) (h : i < s.length) : (escL (s.take i)).length + (escC (s.getD i 0)).length ≤ (escL s).length := by
  conv => rhs; rw [esc_split s i h]
  simp only [List.length_append]; omega
theorem BufTo.byte {w1 wr : World} {s : Str} {N i q : Nat} {c : UInt8} (h : BufTo w1 s N i q wr) (hN : N = (escL s).length) (hi : i < s.length) (hc : s.getD i 0 = c) (hr : repF 0 c = none) :
    q < N ∧ BufTo w1 s N (i + 1) (q + 1) (wr.setCell ⟨w1.heap.size, q, none⟩ (.int .u8 (c.toNat : Int))) := by
  obtain ⟨h1, ⟨cur, h2, h3, h4⟩, h5⟩ := h
  have e1 : escC c = [c] := by rw [esc_rep, hr]
  have hroom := esc_room s i hi
  have hnext := esc_next s i hi
  have hget := esc_get s i hi 0
  rw [hc, e1] at hroom hnext hget
  simp only [List.length_singleton, Nat.add_zero] at hroom hnext hget
  have hq : q < N := by omega
  refine ⟨hq, by omega, ⟨_, block_set h2 q _, by rw [Array.size_setIfInBounds]; exact h3, fun t ht => ?_⟩, h5.setCell (p := ⟨w1.heap.size, q, none⟩) (.inr (Nat.le_refl _)) _⟩
  by_cases e : t = q
  · subst e
    rw [Array.getElem?_setIfInBounds_self_of_lt (by omega), h1, hget (by omega)]; rfl
  · rw [Array.getElem?_setIfInBounds_ne (fun e2 => e e2.symm)]; exact h4 t (by omega)
def u8s (l : Str) : List Value := l.map fun c => .int .u8 (c.toNat : Int)
theorem BufTo.text {w1 wr : World} {s : Str} {N i q : Nat} {c : UInt8} {l : Str} (h : BufTo w1 s N i q wr) (hN : N = (escL s).length) (hi : i < s.length) (hc : s.getD i 0 = c) (hr : repF 0 c = some l) :
    q + l.length ≤ N ∧ ∃ cur, wr.heap[w1.heap.size]? = some (.cells cur 5 (0, 0)) ∧ cur.size = N ∧ ∀ W : World, W.heap = wr.heap → Fr (fun _ => False) wr W → BufTo w1 s N (i + 1) (q + l.length) (W.setRow w1.heap.size (cur.toList.take q ++ u8s l ++ cur.toList.drop (q + (u8s l).length)).toArray) := by
  obtain ⟨h1, ⟨cur, h2, h3, h4⟩, h5⟩ := h
  have e1 : escC c = l := by rw [esc_rep, hr]
  have hroom := esc_room s i hi
  have hnext := esc_next s i hi
  have hget := esc_get s i hi
  rw [hc, e1] at hroom hnext hget
  have hu : (u8s l).length = l.length := by unfold u8s; rw [List.length_map]
  have hq : q + l.length ≤ N := by omega
  have hl0 : (cur.toList.take q).length = q := by rw [List.length_take]; simp; omega
  refine ⟨hq, cur, h2, h3, fun W hW hFW => ⟨by omega, ⟨_, setRow_heap W _ cur _ 5 (0, 0) (by rw [hW]; exact h2), ?_, fun t ht => ?_⟩, (h5.next hFW).setRow (.inr (Nat.le_refl _)) _⟩⟩
  · simp only [List.size_toArray, List.length_append, hl0, hu, List.length_drop, Array.length_toList]; omega
  · simp only [List.getElem?_toArray]
    by_cases e : t < q
    · rw [List.append_assoc, List.getElem?_append_left (by omega), List.getElem?_take, if_pos e, Array.getElem?_toList]; exact h4 t e
    · rw [List.append_assoc, List.getElem?_append_right (by omega), hl0, List.getElem?_append_left (by omega)]
      have hg := hget (t - q) (by omega)
      rw [← h1, show q + (t - q) = t by omega] at hg
      rw [hg]
      unfold u8s
      rw [List.getElem?_map, List.getD_eq_getElem?_getD, List.getElem?_eq_getElem (by omega)]; rfl
set_option maxRecDepth 100000 in
set_option maxHeartbeats 8000000 in
theorem brep_h {w : World} {B bb : Nat} (hB : Built B bb w) (s : Str) (hs : s.length ≤ 1000000) :
    Calls Tryz.prog 251 #[.pointer (some ⟨bb, 0, none⟩), .string (bs s)] w fun e w' => e = .returned (.string (bs (escL s))) ∧ Fr (fun _ => False) w w' := by
  obtain ⟨⟨C, tv, hb, hC, hsl, htv, hrow⟩, _⟩ := hB
  have hSR := SRow.of_owns hrow
  rcases hrow.2 with ⟨_, h0⟩ | ⟨gt, tcap, cur, rfl, _⟩
  · simp at h0
  have c256 := cell_of hb htv
  obtain ⟨g', off', e', hcells⟩ := hSR.cell (by omega)
  cases e'
  have HB := Lib.hid hb
  have HSl := Lib.hid hsl
  have HT := Lib.hid hcells
  have hsz : (bs s).size = s.length := rfl
  clear hb hsl hcells hC htv hrow hSR
  have HLen := Lib.hid (longer_le5 s)
  obtain ⟨b40, hb40⟩ : ∃ b, decide ((40 : Int) ≤ (s.length : Int)) = b := ⟨_, rfl⟩
  go_enter Tryz.func251, Tryz.ntmps251
  go_upto_if 26 with fail
  go_cut [5, 6] (fun v5 v6 wc => v5 = .int .i64 ((escL s).length : Nat) ∧ v6 = .bool (s.any isRep) ∧ ∃ p, wc = w.drewN p)
  case first =>
    cases b40 with
    | true =>
      have h40i : (40 : Int) ≤ (s.length : Int) := of_decide_eq_true hb40
      go_wp2_with fail
      go_loopg [5, 6, 32] 5 (fun j v5 v6 v32 wr => ∃ k q : Nat, ∃ b : Bool, k + j = 5 ∧ v32 = .int .i64 k ∧ v5 = .int .i64 q ∧ v6 = .bool b ∧ Hid (q = s.length + longer k s ∧ b = anyOf k s) ∧ ∃ p, wr = w.drewN p)
      case atStart => exact ⟨0, s.length, false, rfl, rfl, rfl, rfl, ⟨rfl, rfl⟩, 0, rfl⟩
      case round =>
        obtain ⟨k, q, b, hk, rfl, rfl, rfl, HQ, p, rfl⟩ := hrel
        by_cases hlt : k < 5
        · obtain ⟨t1, t2, t3, t4⟩ := toRep_at k hlt
          have d0 := HT.out k (.string (bs [escAt k])) (by unfold strs; rw [List.getElem?_map, t1]; rfl)
          rw [Nat.zero_add] at d0
          have H253 : Hid (∃ n : Nat, n = s.count (escAt k) ∧ Calls Tryz.prog 253 #[.string (bs s), .string (bs [escAt k])] (w.drewN p) fun e w' => e = .returned (.int .i64 (n : Nat)) ∧ w.drewN p = w') :=
            ⟨_, rfl, (Tryz.strings_Count_one (bs s) (escAt k) _).mono fun e w' h => ⟨h.1, h.2.symm⟩⟩
          obtain ⟨n, hn, hCn⟩ := H253.out
          have HN := Lib.hid hn
          have HCn := Lib.hid hCn
          clear H253 hn hCn
          have hnl : n ≤ s.length := by rw [HN.out]; exact List.count_le_length
          by_cases hn0 : n = 0
          · subst hn0
            have HK := Lib.hid hk
            clear hk t1 t2 t3 t4
            go_wp2_with (go_at_call 253; refine HCn.out.mono ?_; rintro e w1 ⟨rfl, rfl⟩)
            go_roundg (5 - (k + 1))
            case measure => have := HK.out; omega
            case rel =>
              refine ⟨k + 1, q, b, by have := HK.out; omega, by go_num, rfl, rfl, ⟨?_, ?_⟩, p, rfl⟩
              · rw [HQ.out.1]; simp only [longer]; rw [← HN.out]; omega
              · rw [HQ.out.2]; simp only [anyOf]; rw [← HN.out]; simp
          · obtain ⟨L, hL⟩ : ∃ L, (pv (4 - k)).length = L := ⟨_, rfl⟩
            rw [hL] at t3 t4
            have hsc := slot_cell HB.out (HSl.out (escAt k))
            rw [t2] at hsc
            rcases hsc with ⟨h1, _⟩ | ⟨l, g, cap, h1, h2, _, _⟩
            · cases h1
            cases h1
            rw [hL] at h2
            have hy : ∀ h, (bs [escAt k])[0]'h = escAt k := fun _ => rfl
            have hz1 : (bs [escAt k]).size = 1 := rfl
            obtain ⟨d, hd⟩ : ∃ d, L - 1 = d := ⟨_, rfl⟩
            have hLd : (L : Int) - 1 = (d : Int) := by omega
            have hd5 : d ≤ 5 := by omega
            obtain ⟨x, hx⟩ : ∃ x : Nat, n * d = x := ⟨_, rfl⟩
            have hxn : x ≤ 5000000 := by
              rw [← hx]
              have : n * d ≤ 1000000 * 5 := Nat.mul_le_mul (by omega) (by omega)
              omega
            have hmul : (n : Int) * (d : Int) = (x : Int) := by rw [← hx]; simp
            have hne : ((n : Int) != 0) = true := by rw [bne_iff_ne]; omega
            have hneq : ((n : Int) == 0) = false := beq_eq_false_iff_ne.2 (by omega)
            have hq : q ≤ 6000000 := by have := HQ.out.1; have := HLen.out k (by omega); omega
            have hlt8 := (escAt k).toNat_lt
            have HK := Lib.hid hk
            have HX := Lib.hid (And.intro hL (And.intro hd hx))
            clear hk t1 t2 t3 t4 hL hd hx
            go_wp2_with (go_at_call 253; refine HCn.out.mono ?_; rintro e w1 ⟨rfl, rfl⟩)
            go_quiet (fail)
            go_wp2_with fail
            have hw : wrap64 (↑q + wrap64 (↑n * wrap64 ↑d)) = ((q + x : Nat) : Int) := by
              rw [IntWalk.wrap64_in (d : Int) (by omega), hmul, IntWalk.wrap64_in (x : Int) (by omega), IntWalk.wrap64_in _ (by omega)]; omega
            go_roundg (5 - (k + 1))
            case measure => have := HK.out; omega
            case rel =>
              refine ⟨k + 1, q + x, true, by have := HK.out; omega, by go_num, by first | rw [hw] | (congr 1; done) | (congr 1; omega), rfl, ⟨?_, ?_⟩, _, rfl⟩
              · rw [HQ.out.1, ← HX.out.2.2, ← HX.out.2.1, ← HX.out.1]; simp only [longer]; rw [← HN.out]; omega
              · simp only [anyOf]; rw [← HN.out, show (n != 0) = true by rw [bne_iff_ne]; exact hn0]; simp
        · have hk5 : k = 5 := by omega
          subst hk5
          have HQ2 : Hid (q = (escL s).length ∧ b = s.any isRep) := ⟨by rw [esc_longer]; exact HQ.out.1, by rw [← any_rep]; exact HQ.out.2⟩
          clear HQ hk hlt
          go_wp2_with fail
          go_meet
          exact ⟨by rw [HQ2.out.1], by rw [HQ2.out.2], p, rfl⟩
    | false =>
      have h40i : (s.length : Int) < 40 := by have := of_decide_eq_false hb40; omega
      go_wp2_with fail
      go_loopg [5, 6, 10] s.length (fun j v5 v6 v10 wr => ∃ i q : Nat, ∃ b : Bool, i + j = s.length ∧ v10 = .int .i64 i ∧ v5 = .int .i64 q ∧ v6 = .bool b ∧ Hid (q + i = (escL (s.take i)).length + s.length ∧ b = (s.take i).any isRep) ∧ w = wr)
      case atStart => exact ⟨0, s.length, false, by omega, rfl, rfl, rfl, ⟨by simp [escL], by simp⟩, rfl⟩
      case round =>
        obtain ⟨i, q, b, hi, rfl, rfl, rfl, HQ, rfl⟩ := hrel
        by_cases hlt : i < s.length
        · have hz : i < (bs s).size := by rw [hsz]; exact hlt
          have hg := bs_at s i hz
          have htk := take_more s i hlt
          obtain ⟨c, hc⟩ : ∃ c, s.getD i 0 = c := ⟨_, rfl⟩
          rw [hc] at hg htk
          have HTk := Lib.hid htk
          have hlt8 := c.toNat_lt
          have HI := Lib.hid hi
          have hq6 : q + i ≤ 6 * i + s.length := by have := HQ.out.1; have := esc_le (s.take i); rw [List.length_take] at this; omega
          rcases slot_cell HB.out (HSl.out c) with ⟨h1, h2⟩ | ⟨l, g, cap, h1, h2, _, _⟩
          · have H1 := Lib.hid h1
            clear h1 hi htk hc
            go_wp2_with fail
            go_roundg (s.length - (i + 1))
            case measure => have := HI.out; omega
            case rel =>
              refine ⟨i + 1, q, b, by have := HI.out; omega, by go_num, rfl, rfl, ⟨?_, ?_⟩, rfl⟩
              · rw [HTk.out, escL_append, List.length_append, escL_cons, List.length_append, esc_len]
                have e0 : escN c = 0 := by unfold escN; rw [H1.out]
                have := HQ.out.1
                rw [e0]; simp only [escL, List.flatMap_nil, List.length_nil]; simp only [escL] at this; omega
              · rw [HTk.out, List.any_append, ← HQ.out.2]
                have e0 : isRep c = false := by unfold isRep; rw [H1.out]; rfl
                simp [e0]
          · have hne : ∀ w, Sem.run Tryz.prog (binOp .neq 113 (.slice (some ⟨g, 0, none⟩) l.length cap) (.slice none 0 0)) w = .ok (.bool true) w := fun w => by rw [run_neq_slice_nil w 113 5 (some ⟨g, 0, none⟩) l.length cap Tryz.underlying113]; rfl
            have e0 : escN c + 1 = l.length := by
              have := esc_len c
              rw [esc_rep, h1] at this
              simp only at this
              omega
            have e1 : isRep c = true := by unfold isRep; rw [h1]; rfl
            have e2 := escN_le c
            obtain ⟨L, hL⟩ : ∃ L, l.length = L := ⟨_, rfl⟩
            rw [hL] at h2 hne e0
            have H1 := Lib.hid (And.intro e0 (And.intro e1 e2))
            have hL1 : 1 ≤ L := by omega
            have hL6 : L ≤ 6 := by omega
            clear h1 hi htk hc hL e0 e1 e2
            go_wp2_with fail
            go_roundg (s.length - (i + 1))
            case measure => have := HI.out; omega
            case rel =>
              refine ⟨i + 1, q + (L - 1), true, by have := HI.out; omega, by go_num, by congr 1; omega, rfl, ⟨?_, ?_⟩, rfl⟩
              · rw [HTk.out, escL_append, List.length_append, escL_cons, List.length_append, esc_len]
                have a1 := HQ.out.1
                have a2 := H1.out.1
                have a3 : (escL []).length = 0 := rfl
                omega
              · rw [HTk.out, List.any_append]
                simp [H1.out.2.1]
        · have hi5 : i = s.length := by omega
          subst hi5
          have HQ2 : Hid (q = (escL s).length ∧ b = s.any isRep) := by
            have := HQ.out
            rw [List.take_length] at this
            exact ⟨by omega, this.2⟩
          clear HQ hi hlt
          go_wp2_with fail
          go_meet
          exact ⟨by rw [HQ2.out.1], by rw [HQ2.out.2], 0, rfl⟩
  case rest =>
    obtain ⟨rfl, rfl, p, rfl⟩ := hcut
    cases hany : s.any isRep with
    | false =>
      have HE := Lib.hid (esc_no hany)
      clear hany
      go_wp2_with fail
      go_ret
      exact ⟨by rw [HE.out] <;> rfl, (Fr.refl _ _).drewN p⟩
    | true =>
      clear hany hb40 c256
      have hNle := esc_le s
      obtain ⟨N, hN⟩ : ∃ N, (escL s).length = N := ⟨_, rfl⟩
      rw [hN] at hNle ⊢
      have HN := Lib.hid hN.symm
      have hF1 : Fr (fun _ => False) w (w.drewN p) := (Fr.refl _ _).drewN p
      generalize w.drewN p = w1 at hF1 ⊢
      obtain ⟨i5, hi5, hz5, hz6, hz7⟩ := info_parts info5
      have hmk := run_makeSlice (P := Tryz.prog) w1 113 5 i5 _ Tryz.underlying113 hi5 hz5 .i64 .i64 N N (by omega) (Int.le_refl _) (by rw [hz6]; simp; omega) (by rw [hz7]; omega) (by omega)
      rw [hz6, Int.toNat_natCast, Nat.mul_one] at hmk
      obtain ⟨M, hM, hMs⟩ : ∃ M, madeCells (Value.int .u8 0).cells N = M ∧ M.size = N := ⟨_, rfl, by rw [size_madeCells]⟩
      rw [hM] at hmk
      clear hM hi5 hz5 hz6 hz7 hN
      have hB0 : BufTo w1 s N 0 0 (w1.alloc (.cells M 5)) := ⟨rfl, ⟨M, block_new _ _, hMs, fun t ht => absurd ht (Nat.not_lt_zero _)⟩, (Fr.refl _ _).alloc _⟩
      have HB0 := Lib.hid hB0
      have HF1 := Lib.hid hF1
      clear hB0 hMs hF1
      go_wp2_with fail
      go_loopg [13, 14] s.length (fun j v13 v14 wr => ∃ i q : Nat, i + j = s.length ∧ v14 = .int .i64 i ∧ v13 = .int .i64 q ∧ Hid (BufTo w1 s N i q wr))
      case atStart => exact ⟨0, 0, by omega, rfl, rfl, HB0.out⟩
      case round =>
        obtain ⟨i, q, hi, rfl, rfl, HBu⟩ := hrel
        by_cases hlt : i < s.length
        · have hz : i < (bs s).size := by rw [hsz]; exact hlt
          have hg := bs_at s i hz
          obtain ⟨c, hc⟩ : ∃ c, s.getD i 0 = c := ⟨_, rfl⟩
          rw [hc] at hg
          have hlt8 := c.toNat_lt
          have HI := Lib.hid hi
          have HC := Lib.hid hc
          have hfr : Fr (fun _ => False) w wr := HF1.out.next HBu.out.fr
          have hbr := hfr.keep HB.out (fun h => h)
          have hslr : slotOK wr B C[c.toNat]? (repF 0 c) := slotOK.keep (HSl.out c) fun g c f hg => hfr.keep hg (fun h => h)
          rcases slot_cell hbr hslr with ⟨h1, h2⟩ | ⟨l, g, cap, h1, h2, h3, _⟩
          · obtain ⟨hqN, hnx⟩ := HBu.out.byte HN.out hlt hc h1
            have HX := Lib.hid hnx
            obtain ⟨cu, hcu, hcs, _⟩ := HBu.out.blk
            have e1 := cell_of hcu (i := q) (v := cu[q]'(by omega)) (Array.getElem?_eq_getElem (by omega))
            have f1 := free_of q hcu
            clear h1 hi hc hnx hfr hbr hslr hcu
            go_wp2_with fail
            go_roundg (s.length - (i + 1))
            case measure => have := HI.out; omega
            case rel => exact ⟨i + 1, q + 1, by have := HI.out; omega, by go_num, by go_num, HX.out⟩
          · have hne : ∀ w, Sem.run Tryz.prog (binOp .neq 113 (.slice (some ⟨g, 0, none⟩) l.length cap) (.slice none 0 0)) w = .ok (.bool true) w := fun w => by rw [run_neq_slice_nil w 113 5 (some ⟨g, 0, none⟩) l.length cap Tryz.underlying113]; rfl
            obtain ⟨hqN, cu, hcu, hcs, hnx⟩ := HBu.out.text HN.out hlt hc h1
            have HX := Lib.hid hnx
            have hl1 : 1 ≤ l.length := by have := esc_len c; rw [esc_rep, h1] at this; simp only at this; omega
            obtain ⟨cur2, fz2, hg2, hat2⟩ := h3
            have hu : (u8s l).length = l.length := by unfold u8s; rw [List.length_map]
            have hcp : ∀ (W : World), W.heap = wr.heap → (Builtin.copy_ #[113, 113] 3 #[.slice (some ⟨w1.heap.size, q, none⟩) (N - q) (N - q), .slice (some ⟨g, 0, none⟩) l.length cap]).run Tryz.prog W = .ok (goInt (u8s l).length) (W.setRow w1.heap.size (cu.toList.take q ++ u8s l ++ cu.toList.drop (q + (u8s l).length)).toArray) := by
              intro W hW
              refine run_copy_row (P := Tryz.prog) W 113 113 3 5 w1.heap.size q (N - q) (N - q) ⟨g, 0, none⟩ l.length cap cu 5 (u8s l) Tryz.underlying113 (by kernel_rfl) (by rw [hW]; exact hcu) (by show (u8s l).length = min l.length (N - q); rw [hu]; omega) (fun j v hj => ?_) (by omega) (fun v hv => ?_)
              · unfold u8s at hj
                rw [List.getElem?_map] at hj
                obtain ⟨x, hx, rfl⟩ := Option.map_eq_some_iff.1 hj
                have hjl := (List.getElem?_eq_some_iff.1 hx).1
                have h5 := hat2 j hjl
                rw [List.getD_eq_getElem?_getD, hx] at h5
                rw [add0]
                exact cell_of (by rw [hW]; exact hg2) h5
              · unfold u8s at hv
                obtain ⟨x, _, rfl⟩ := List.mem_map.1 hv
                rfl
            have HCp := Lib.hid hcp
            have hqN1 : q ≤ N := by omega
            have hci : (c.toNat : Int) < 256 := by omega
            have hqN2 : ¬ N = q := by omega
            clear hcp h1 hi hc hnx hfr hbr hslr hcu hg2 hat2
            go_wp2_with fail
            go_region_law (first | (refine step_copy_runI rfl (.tmp 105) (.tmp 111) 113 113 rfl _ _ rfl rfl (HCp.out _ rfl) ?_) | fail)
            go_wp2_with fail
            go_roundg (s.length - (i + 1))
            case measure => have := HI.out; omega
            case rel =>
              refine ⟨i + 1, q + l.length, by have := HI.out; omega, by go_num, ?_, ?_⟩
              · rw [← hu]; go_num
              · have hx := HX.out wr.drew rfl (Fr.refl _ _).drew
                rw [hu, List.append_assoc] at hx
                exact hx
        · have hi5 : i = s.length := by omega
          subst hi5
          obtain ⟨e1, ⟨cu, hcu, hcs, hat⟩, hF3⟩ := HBu.out
          rw [List.take_length] at e1
          have hqN : q = N := by rw [e1]; exact HN.out.symm
          subst hqN
          have hcv : Sem.run Tryz.prog (convert 113 9 (.slice (some ⟨w1.heap.size, 0, none⟩) q q)) wr = .ok (.string (bs (escL s))) wr := by
            have := run_convert_bytes_back (P := Tryz.prog) wr 113 9 5 ⟨w1.heap.size, 0, none⟩ q (escL s) Tryz.underlying113 Tryz.underlying5 Tryz.underlying9 fun j hj => by
              rw [add0]
              refine cell_of hcu ?_
              rw [hat j (by omega), List.getD_eq_getElem?_getD, List.getElem?_eq_getElem hj]; rfl
            rw [← e1] at this
            exact this
          have HF3 := Lib.hid hF3
          clear hF3 hcu hcs hat e1 hi hlt
          go_wp2_with fail
          go_ret
          exact ⟨rfl, HF1.out.next HF3.out⟩
end Go.Proofs.YtpinjgdnhbogoaaGreatDoor

/- strings.Replacer.Replace; xml.Escape. -/
namespace Go.Proofs.YtpinjgdnhbogoaaGreatDoor
open Go.RowKit Go.Lib

set_option maxRecDepth 100000 in
set_option maxHeartbeats 4000000 in
theorem replace_h {w : World} {S : Nat → Prop} {rp : Nat} {lv x2 : Value} (hb : w.heap[rp]? = some (.cells #[.int .u32 0, .int .i32 0, x2, .nilIface, lv] 174 (0, 0))) (hv : SRow w S 1 lv 10 (strs oldNew)) (hS : ¬ S rp) (s : Str) (hs : s.length ≤ 1000000) :
    Calls Tryz.prog 88 #[.pointer (some ⟨rp, 0, none⟩), .string (bs s)] w fun e w' => e = .returned (.string (bs (escL s))) ∧ Fr (fun k => k = rp) w w' := by
  have hmf : ∀ (fn : Fn) (first cap : Array Value) (w : World), (Instr.makeFunc fn first cap).run Tryz.prog w = .ok (.func fn first cap) w := fun _ _ _ _ => rfl
  have hm : ∀ (b : Nat) (w : World), (method 411 225 (.pointer (some ⟨b, 0, none⟩)) "Replace").run Tryz.prog w = .ok (251, .pointer (some ⟨b, 0, none⟩)) w := fun _ _ => by kernel_rfl
  have HB := Lib.hid hb
  have HV := Lib.hid hv
  clear hb hv
  go_enter Tryz.func88, Tryz.ntmps88
  go_wp2_with (first | (go_at_call 120; refine (do_h HB.out HV.out hS).mono ?_; rintro e w2 ⟨bb, rfl, hb2, hB2, hF2⟩; have c3 := cell_of hb2 (i := 3) (v := .iface 225 (.pointer (some ⟨bb, 0, none⟩))) rfl; have HB2 := Lib.hid hB2; have HF2 := Lib.hid hF2; clear hb2 hB2 hF2) | (go_at_call 251; refine (brep_h HB2.out s hs).mono ?_; rintro e w3 ⟨rfl, hF3⟩))
  go_ret
  exact ⟨rfl, HF2.out.trans hF3 fun _ h => h.elim⟩
theorem old_row : (strs oldNew) = [.string ⟨#[38]⟩, .string ⟨#[38, 97, 109, 112, 59]⟩, .string ⟨#[60]⟩, .string ⟨#[38, 108, 116, 59]⟩, .string ⟨#[62]⟩, .string ⟨#[38, 103, 116, 59]⟩, .string ⟨#[34]⟩, .string ⟨#[38, 113, 117, 111, 116, 59]⟩, .string ⟨#[39]⟩, .string ⟨#[38, 97, 112, 111, 115, 59]⟩] := rfl
set_option maxRecDepth 100000 in
set_option maxHeartbeats 4000000 in
theorem escape_h {w : World} (s : Str) (hs : s.length ≤ 1000000) : Calls Tryz.prog 38 #[.string (bs s)] w fun e w' => e = .returned (.string (bs (escL s))) ∧ Fr (fun _ => False) w w' := by
  obtain ⟨w1, hw1⟩ : ∃ w1, w.alloc (.cells #[.string ⟨#[38]⟩, .string ⟨#[38, 97, 109, 112, 59]⟩, .string ⟨#[60]⟩, .string ⟨#[38, 108, 116, 59]⟩, .string ⟨#[62]⟩, .string ⟨#[38, 103, 116, 59]⟩, .string ⟨#[34]⟩, .string ⟨#[38, 113, 117, 111, 116, 59]⟩, .string ⟨#[39]⟩, .string ⟨#[38, 97, 112, 111, 115, 59]⟩] 9) = w1 := ⟨_, rfl⟩
  have hF1 : Fr (fun _ => False) w w1 := by rw [← hw1]; exact (Fr.refl _ _).alloc _
  have hv : SRow w1 (fun k => k < w1.heap.size) 1 (.slice (some ⟨w.heap.size, 0, none⟩) 10 10) 10 (strs oldNew) := by
    rw [← hw1]
    exact SRow.of_block (e := 9) (f := (0, 0)) (by rw [old_row]; exact block_new _ _) rfl (by unfold maxLen; omega) (by simp)
  have HF1 := Lib.hid hF1
  have HV := Lib.hid hv
  clear hF1 hv
  go_enter Tryz.func38, Tryz.ntmps38
  go_wp2_with (first | (go_at_call 87; refine (newrep_h rfl HV.out).mono ?_; rintro e w2 ⟨⟨rp, lv, rfl, hb2, hr2, hlo⟩, hF2⟩; have HB2 := Lib.hid hb2; have HR2 := Lib.hid hr2; have HF2 := Lib.hid hF2; clear hb2 hr2 hF2) | (go_at_call 88; refine (replace_h HB2.out (SRow.of_owns HR2.out) (fun h => own_ne HR2.out HB2.out (by decide) h) s hs).mono ?_; rintro e w3 ⟨rfl, hF3⟩))
  go_ret
  exact ⟨rfl, (HF1.out.next HF2.out).trans hF3 fun k h => .inr (by have := HF1.out.size; omega)⟩
end Go.Proofs.YtpinjgdnhbogoaaGreatDoor
