/- strings.Replacer: built once. -/
import Derived.Test.YtpinjgdnhbogoaaGreatDoorE3
namespace Go.Proofs.YtpinjgdnhbogoaaGreatDoor
open Go.RowKit Go.Lib

theorem heap_lt {W : World} {b : Nat} {x : Obj} (h : W.heap[b]? = some x) : b < W.heap.size := (Array.getElem?_eq_some_iff.1 h).1
structure Built (B bb : Nat) (W : World) : Prop where
  blk : ∃ C tv, W.heap[bb]? = some (.cells C 224 (0, 0)) ∧ C.size = 257 ∧ (∀ c : UInt8, slotOK W B C[c.toNat]? (repF 0 c)) ∧ C[256]? = some tv ∧ W.ownsRow B 9 1 tv 5 (strs (toRep 0))
  low : B ≤ bb
theorem Built.keep {B bb : Nat} {W W' : World} (h : Built B bb W) (hk : ∀ g, B ≤ g → g < W.heap.size → W'.heap[g]? = W.heap[g]?) : Built B bb W' := by
  obtain ⟨⟨C, tv, h1, h2, h3, h4, h5⟩, h6⟩ := h
  refine ⟨⟨C, tv, (hk bb h6 (heap_lt h1)).trans h1, h2, fun c => ?_, h4, ownsRow_keep h5 fun k hk2 => hk k (h5.lt k hk2).1 (h5.lt k hk2).2⟩, h6⟩
  have := h3 c
  unfold slotOK at this ⊢
  cases hr : repF 0 c with
  | none => rw [hr] at this; exact this
  | some l =>
    rw [hr] at this
    obtain ⟨g, cap, e1, e2, e3⟩ := this
    exact ⟨g, cap, e1, e2, e3.keep fun c f hg => (hk g e2 (heap_lt hg)).trans hg⟩
theorem Built.fr {B bb : Nat} {W W' : World} {o : Nat → Prop} (h : Built B bb W) (hf : Fr o W W') (ho : ∀ k, o k → k < B) : Built B bb W' :=
  h.keep fun g h1 h2 => hf.block g h2 fun h3 => by have := ho g h3; omega
theorem BRel.built {w W : World} {bb : Nat} {C : Array Value} {tv : Value} (h : BRel w bb 0 C tv W) : Built w.heap.size bb W :=
  ⟨⟨C, tv, h.blk, h.size, h.slots, h.last, h.row⟩, h.low⟩
theorem ent154 : ∀ args w, (callFunc 154 args).run Tryz.prog w = .ok (.enter 154 args) w := enters_of Tryz.func154 (by kernel_rfl) rfl
set_option maxHeartbeats 4000000 in
theorem buildOnce_h {w : World} {S : Nat → Prop} {rp : Nat} {lv x0 x1 x2 : Value} (hb : w.heap[rp]? = some (.cells #[x0, x1, x2, .nilIface, lv] 174 (0, 0))) (hv : SRow w S 1 lv 10 (strs oldNew)) :
    Calls Tryz.prog 121 #[.pointer (some ⟨rp, 0, none⟩)] w fun e w' => ∃ bb, e = .returned (.tuple #[]) ∧ w'.heap[rp]? = some (.cells #[x0, x1, x2, .iface 225 (.pointer (some ⟨bb, 0, none⟩)), .slice none 0 0] 174 (0, 0)) ∧ Built w.heap.size bb w' ∧ Fr (fun k => k = rp) w w' := by
  have hlt := heap_lt hb
  have HB := Lib.hid hb
  have HV := Lib.hid hv
  have HL := Lib.hid hlt
  clear hb hv hlt
  go_enter Tryz.func121, Tryz.ntmps121
  go_wp2_with (go_at_call 154; refine (build_h HB.out HV.out).mono ?_; rintro e w1 ⟨bb, C, tv, rfl, hR⟩; have hb1 := hR.fr.keep HB.out (fun h => h); have c3 := cell_of hb1 (i := 3) (v := .nilIface) rfl; have f3 := free_of 3 hb1; have hb2 := block_set hb1 3 (.iface 225 (.pointer (some ⟨bb, 0, none⟩))); have c4 := cell_of hb2 (i := 4) (v := lv) rfl; have f4 := free_of 4 hb2; have HR := Lib.hid hR; have HB2 := Lib.hid hb2; clear hR hb1 hb2)
  go_end0
  refine ⟨bb, rfl, block_set HB2.out 4 _, (HR.out.built.keep fun g h1 _ => ?_), ?_⟩
  · have hl := HL.out
    rw [block_set_ne (show g ≠ rp by omega), block_set_ne (show g ≠ rp by omega)]
  · exact Fr.setCell (p := ⟨rp, 4, none⟩) (Fr.setCell (o := fun k => k = rp) (p := ⟨rp, 3, none⟩) (HR.out.fr.mono fun _ _ h => h.elim) (.inl rfl) _) (.inl rfl) _
theorem oload_h (a : Addr) (x : Int) (w : World) (h0 : w.cell? a = some (.int .u32 x)) :
    Calls Tryz.prog 152 #[.pointer (some a)] w fun e w' => e = .returned (.bool (x != 0)) ∧ w' = w := by
  have hl := run_call_load (P := Tryz.prog) Tryz.func170 (by kernel_rfl) (by kernel_rfl) (by kernel_rfl) .u32 (by kernel_rfl) h0
  go_enter Tryz.func152, Tryz.ntmps152
  go_wp2
  go_ret
  exact ⟨rfl, rfl⟩
theorem leaves121 : ∀ (v : Value) w, (callFunc 121 #[v]).run Tryz.prog w = .ok (.enter 121 #[v]) w := fun v w => enters_of Tryz.func121 (by kernel_rfl) rfl _ w
set_option maxRecDepth 100000 in
set_option maxHeartbeats 4000000 in
theorem slow_h {w : World} {S : Nat → Prop} {rp : Nat} {lv x2 : Value} (hb : w.heap[rp]? = some (.cells #[.int .u32 0, .int .i32 0, x2, .nilIface, lv] 174 (0, 0))) (hv : SRow w S 1 lv 10 (strs oldNew)) (hS : ¬ S rp) :
    Calls Tryz.prog 153 #[.pointer (some ⟨rp, 0, none⟩), .func (.func 121) #[.pointer (some ⟨rp, 0, none⟩)] #[]] w fun e w' => ∃ bb, e = .returned (.tuple #[]) ∧ w'.heap[rp]? = some (.cells #[.int .u32 1, .int .i32 0, x2, .iface 225 (.pointer (some ⟨bb, 0, none⟩)), .slice none 0 0] 174 (0, 0)) ∧ Built w.heap.size bb w' ∧ Fr (fun k => k = rp) w w' := by
  have hlt := heap_lt hb
  have c1 := cell_of hb (i := 1) (v := .int .i32 0) rfl
  have f1 := free_of 1 hb
  have hb1 := block_set hb 1 (.int .i32 1)
  have hv1 : SRow (w.setCell ⟨rp, 1, none⟩ (.int .i32 1)) S 1 lv 10 (strs oldNew) := hv.fr (Fr.setCell (o := fun k => k = rp) (p := ⟨rp, 1, none⟩) (Fr.refl _ _) (.inl rfl) _) fun k h e => hS (e ▸ h)
  have c0 := cell_of hb1 (i := 0) (v := .int .u32 0) rfl
  have hnot : ∀ (x : Bool) (w : World), (Op.unary .not (.bool x)).run Tryz.prog w = .ok (.bool (!x)) w := fun _ _ => rfl
  have HB1 := Lib.hid hb1
  have HV1 := Lib.hid hv1
  clear hb hb1 hv hv1
  go_enter_defers Tryz.func153, Tryz.ntmps153
  go_wp2_with (first | (go_at_call 171; refine (lock_free ⟨rp, 1, none⟩ _ c1 f1).mono ?_; rintro e w' ⟨rfl, rfl⟩) | (go_at_call 152; refine (oload_h ⟨rp, 0, none⟩ 0 _ c0).mono ?_; rintro e w' ⟨rfl, rfl⟩) | (go_at_call 121; refine (buildOnce_h HB1.out HV1.out).mono ?_; rintro e w2 ⟨bb, rfl, hb2, hB2, hF2⟩))
  have k0 := cell_of hb2 (i := 0) (v := .int .u32 0) rfl
  have g0 := free_of 0 hb2
  have hb3 : (w2.drew.setCell ⟨rp, 0, none⟩ (.int .u32 1)).heap[rp]? = _ := block_set (w := w2.drew) hb2 0 (.int .u32 1)
  have k1 := cell_of hb3 (i := 1) (v := .int .i32 1) rfl
  have g1 := free_of 1 hb3
  have hb4 := block_set hb3 1 (.int .i32 0)
  refine leaves_cons (f := 173) (args := #[.pointer (some ⟨rp, 0, none⟩), .bool true]) (by simp) (by simp [go_sem]) ?_
  refine (store_deferred ⟨rp, 0, none⟩ (.int .u32 0) .returning _ k0 g0).mono ?_
  rintro e u' w'' ⟨rfl, rfl, rfl⟩
  refine leaves_cons (f := 172) (args := #[.pointer (some ⟨rp, 1, none⟩)]) (by simp [settle]) (by simp [go_sem]) ?_
  refine (unlock_deferred ⟨rp, 1, none⟩ _ _ k1 g1).mono ?_
  rintro e u' w'' ⟨rfl, rfl, rfl⟩
  simp only [Leaves, settle, results, Tryz.results153]
  refine ⟨.tuple #[], by simp, bb, rfl, hb4, ?_, ?_⟩
  · have hsz : (w.setCell ⟨rp, 1, none⟩ (.int .i32 1)).heap.size = w.heap.size := World.size_setCell _ _ _
    rw [hsz] at hB2
    refine hB2.keep fun g h1 _ => ?_
    rw [block_set_ne (show g ≠ rp by omega), block_set_ne (show g ≠ rp by omega)]; rfl
  · have hF1 : Fr (fun k => k = rp) w (w.setCell ⟨rp, 1, none⟩ (.int .i32 1)) := Fr.setCell (o := fun k => k = rp) (p := ⟨rp, 1, none⟩) (Fr.refl _ _) (.inl rfl) _
    exact Fr.setCell (o := fun k => k = rp) (p := ⟨rp, 1, none⟩) (Fr.setCell (o := fun k => k = rp) (p := ⟨rp, 0, none⟩) (hF1.next hF2).drew (.inl rfl) _) (.inl rfl) _
set_option maxHeartbeats 4000000 in
theorem do_h {w : World} {S : Nat → Prop} {rp : Nat} {lv x2 : Value} (hb : w.heap[rp]? = some (.cells #[.int .u32 0, .int .i32 0, x2, .nilIface, lv] 174 (0, 0))) (hv : SRow w S 1 lv 10 (strs oldNew)) (hS : ¬ S rp) :
    Calls Tryz.prog 120 #[.pointer (some ⟨rp, 0, none⟩), .func (.func 121) #[.pointer (some ⟨rp, 0, none⟩)] #[]] w fun e w' => ∃ bb, e = .returned (.tuple #[]) ∧ w'.heap[rp]? = some (.cells #[.int .u32 1, .int .i32 0, x2, .iface 225 (.pointer (some ⟨bb, 0, none⟩)), .slice none 0 0] 174 (0, 0)) ∧ Built w.heap.size bb w' ∧ Fr (fun k => k = rp) w w' := by
  have c0 := cell_of hb (i := 0) (v := .int .u32 0) rfl
  have hnot : ∀ (x : Bool) (w : World), (Op.unary .not (.bool x)).run Tryz.prog w = .ok (.bool (!x)) w := fun _ _ => rfl
  have HB := Lib.hid hb
  have HV := Lib.hid hv
  clear hb hv
  go_enter Tryz.func120, Tryz.ntmps120
  go_wp2_with (first | (go_at_call 153; refine (slow_h HB.out HV.out hS).mono ?_; rintro e w2 ⟨bb, rfl, hb2, hB2, hF2⟩) | (go_at_call 152; refine (oload_h ⟨rp, 0, none⟩ 0 _ c0).mono ?_; rintro e w' ⟨rfl, rfl⟩))
  go_end0
  exact ⟨bb, rfl, hb2, hB2, hF2⟩
end Go.Proofs.YtpinjgdnhbogoaaGreatDoor
