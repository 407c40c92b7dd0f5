/- Crash. -/
import Derived.Test.YtgmghopcppniaaaGreatDoorFK
import Derived.Deep.RegionHeld3
import Derived.Deep.RegionWith
import Derived.IntWalk
import Derived.Lib.SliceRun
namespace Go.Proofs.YtgmghopcppniaaaGreatDoor
open Go.RowKit Go.Lib

/-- a byte and noise, as the model has them put together -/
def xbG (b : UInt8) (y : Int) : UInt8 := UInt8.ofNat (bits .xor .u8 (b.toNat : Int) (IntKind.u8.wrap y)).toNat

theorem bits_range (x y : Int) : 0 ≤ bits .xor .u8 x y ∧ bits .xor .u8 x y ≤ 255 := by
 unfold bits
 rw [IntKind.wrap_u8]
 omega
theorem xb_toNat (b : UInt8) (y : Int) : bits .xor .u8 (b.toNat : Int) (IntKind.u8.wrap y) = ((xbG b y).toNat : Int) := by
 have h := bits_range (b.toNat : Int) (IntKind.u8.wrap y)
 unfold xbG
 rw [UInt8.toNat_ofNat']
 omega
/-! ### in plain words: file by file -/
def tails (l : List FileD) : Nat := (l.filter fun f => !decide (f.bytes.length = f.synced)).length
section
variable {xb : UInt8 → Int → UInt8} {keep noise : List Int} {l : List FileD} {f g : FileD}
theorem crash_cons (k : Nat) (f : FileD) (t : List FileD) : crashL xb keep noise k (f :: t) = if f.bytes.length = f.synced then f :: crashL xb keep noise k t else crashF xb keep noise k f :: crashL xb keep noise (k + 1) t := by rw [crashL]
theorem crash_app : ∀ (a b : List FileD) (k : Nat), crashL xb keep noise k (a ++ b) = crashL xb keep noise k a ++ crashL xb keep noise (k + tails a) b
 | [], b, k => by simp [crashL, tails]
 | f :: a, b, k => by
  have e : tails (f :: a) = (if f.bytes.length = f.synced then 0 else 1) + tails a := by
   unfold tails; rw [List.filter_cons]; by_cases h : f.bytes.length = f.synced <;> simp [h]; omega
  rw [List.cons_append, crash_cons, crash_cons, e]
  by_cases h : f.bytes.length = f.synced
  ·rw [if_pos h, if_pos h, if_pos h, crash_app a b k, Nat.zero_add]; rfl
  ·rw [if_neg h, if_neg h, if_neg h, crash_app a b (k + 1), Nat.add_assoc]; rfl
def midL (xb : UInt8 → Int → UInt8) (keep noise : List Int) (l : List FileD) (i : Nat) : List FileD := crashL xb keep noise 0 (l.take i) ++ l.drop i
theorem mid_zero : midL xb keep noise l 0 = l := by simp [midL, crashL]
theorem mid_end {i : Nat} (h : l.length ≤ i) : midL xb keep noise l i = crashL xb keep noise 0 l := by
 unfold midL; rw [List.take_of_length_le h, List.drop_eq_nil_of_le h, List.append_nil]
theorem mid_names (i : Nat) : (midL xb keep noise l i).map (·.name) = l.map (·.name) := by
 unfold midL
 rw [List.map_append, crash_names, ← List.map_append, List.take_append_drop]
theorem tails_next {i : Nat} (h : l[i]? = some f) : tails (l.take (i + 1)) = tails (l.take i) + if f.bytes.length = f.synced then 0 else 1 := by
 unfold tails
 rw [List.take_add_one, h, List.filter_append, List.length_append]
 by_cases e : f.bytes.length = f.synced <;> simp [e]
theorem mid_at {i : Nat} (h : l[i]? = some f) : midL xb keep noise l i = crashL xb keep noise 0 (l.take i) ++ f :: l.drop (i + 1) := by
 unfold midL
 obtain ⟨h1, h2⟩ := List.getElem?_eq_some_iff.1 h
 rw [List.drop_eq_getElem_cons h1, h2]
theorem mid_next {i : Nat} (h : l[i]? = some f) : midL xb keep noise l (i + 1) = crashL xb keep noise 0 (l.take i) ++ (if f.bytes.length = f.synced then f else crashF xb keep noise (tails (l.take i)) f) :: l.drop (i + 1) := by
 unfold midL
 rw [List.take_add_one, h, crash_app, Nat.zero_add]
 show crashL xb keep noise 0 (l.take i) ++ crashL xb keep noise _ [f] ++ _ = _
 rw [crash_cons]
 by_cases e : f.bytes.length = f.synced
 ·rw [if_pos e, if_pos e]; simp [crashL]
 ·rw [if_neg e, if_neg e]; simp [crashL]
theorem mid_same {i : Nat} (h : l[i]? = some f) (e : f.bytes.length = f.synced) : midL xb keep noise l (i + 1) = midL xb keep noise l i := by
 rw [mid_next h, mid_at h, if_pos e]
theorem mid_perm {i : Nat} (h : l[i]? = some f) (e : ¬ f.bytes.length = f.synced) : (midL xb keep noise l (i + 1)).Perm (crashF xb keep noise (tails (l.take i)) f :: (crashL xb keep noise 0 (l.take i) ++ l.drop (i + 1))) := by
 rw [mid_next h, if_neg e]; exact List.perm_middle
theorem mid_perm0 {i : Nat} (h : l[i]? = some f) : (midL xb keep noise l i).Perm (f :: (crashL xb keep noise 0 (l.take i) ++ l.drop (i + 1))) := by
 rw [mid_at h]; exact List.perm_middle
/-- the bytes that are kept -/
theorem crashF_none {k : Nat} (h : nthD keep k ≤ 0) : crashF xb keep noise k f = ⟨f.name, f.bytes.take f.synced, f.synced⟩ := by
 have : keptD f (nthD keep k) = f.synced := by unfold keptD; omega
 unfold crashF; dsimp only; rw [this, if_neg (by omega)]
theorem crashF_some {k m q : Nat} (hm : keptD f (nthD keep k) = f.synced + m) (hq : f.synced + m = q + 1) (h0 : 0 < m) : crashF xb keep noise k f = ⟨f.name, f.bytes.take q ++ [xb (f.bytes.getD q 0) (nthD noise k)], q + 1⟩ := by
 unfold crashF; dsimp only; rw [hm, if_pos (by omega), hq, Nat.add_sub_cancel]
end

section
variable {w w' : World} {pb mb : Nat} {D : DiskD} {S S' : Nat → Prop} {a b : Value} {keep noise : List Int}

def MidAt (D : DiskD) (keep noise : List Int) (pb mb : Nat) (w0 : World) (base : Nat) (v : Value) (i : Nat) (wr : World) : Prop :=
 wr.heap[pb]? = some (.cells #[.map (some mb), .int .i64 D.most, .int .i64 D.fuse, .bool D.dead] 123 (0, 0)) ∧ MapOf wr .string mb ((midL xbG keep noise D.files i).map entF) ∧ Fr (Own pb mb) w0 wr ∧
  wr.ownsRow base 9 1 v (names D.files).length ((names D.files).map encS)

theorem mid_step {w0 wr W4 w5 : World} {base i : Nat} {v : Value} {f : FileD} (hM : MidAt D keep noise pb mb w0 base v i wr) (hp : pb < w0.heap.size) (hm : mb < w0.heap.size) (hb : w0.heap.size ≤ base) (hne : pb ≠ mb) (hf : D.files[i]? = some f) (he : ¬ f.bytes.length = f.synced)
  (hF4 : Fr (fun k => k = wr.heap.size) wr W4) (hm5 : MapOf w5 .string mb (entF (crashF xbG keep noise (tails (D.files.take i)) f) :: (crashL xbG keep noise 0 (D.files.take i) ++ D.files.drop (i + 1)).map entF)) (hf5 : Fr (fun k => k = mb) W4 w5) : MidAt D keep noise pb mb w0 base v (i + 1) w5 := by
 obtain ⟨h1, h2, h3, h4⟩ := hM
 have hs := h3.size
 have hF5 : Fr (fun k => k = wr.heap.size ∨ k = mb) wr w5 := (hF4.mono fun _ _ h => .inl h).trans hf5 fun _ h => .inl (.inr h)
 refine ⟨hF5.keep h1 (fun h => by rcases h with h | h; omega; exact hne h), hm5.perm (((mid_perm hf he).map entF).symm), h3.trans hF5 fun j hj => ?_, ownsRow_keep h4 fun k hk => ?_⟩
 ·rcases hj with h | h
  ·exact .inr (by omega)
  ·exact .inl (.inr h)
 ·have := World.ownsRow.lt h4 k hk
  exact hF5.block k this.2 (fun h => by rcases h with h | h <;> omega)
set_option maxRecDepth 100000 in
set_option maxHeartbeats 8000000 in
theorem crash_h (hD : DiskAt w pb mb D) (ha : IR w S a keep) (hb : IR w S' b noise) (hS : ∀ k, S k → ¬ Own pb mb k) (hS' : ∀ k, S' k → ¬ Own pb mb k) (hkl : keep.length < 1000000) (hnl : noise.length < 1000000) :
  Calls Tryz.prog 28 #[.pointer (some ⟨pb, 0, none⟩), a, b] w fun e w' => e = .returned (.tuple #[]) ∧ DiskAt w' pb mb (crashD xbG D keep noise) ∧ Fr (Own pb mb) w w' := by
 have hpm : pb < w.heap.size ∧ mb < w.heap.size := ⟨lt_of_block hD.head, hD.map.lt⟩
 have HL := Lib.hid (list_h hD)
 have HD := Lib.hid hD
 have HK := Lib.hid (fun (W : World) (hF : Fr (Own pb mb) w W) (k : Nat) => nth_h (ha.fr hF hS) hkl k)
 have HN := Lib.hid (fun (W : World) (hF : Fr (Own pb mb) w W) (k : Nat) => nth_h (hb.fr hF hS') hnl k)
 have hmany := hD.inv.many
 obtain ⟨a, ca, rfl, hca1, hca2⟩ := ha.form
 obtain ⟨b, cb, rfl, hcb1, hcb2⟩ := hb.form
 clear ha hb hD hca1 hca2 hcb1 hcb2
 go_enter Tryz.func28, Tryz.ntmps28
 go_wp2_with fail
 refine Calls.mono HL.out ?_
 rintro e w1 ⟨v, rfl, hrow, hf1⟩
 have hnl2 : (names D.files).length = D.files.length := List.length_map _
 obtain ⟨va, vc, rfl⟩ := ownsRow_shape hrow
 have HR := Lib.hid hrow
 have hf1' : Fr (Own pb mb) w w1 := hf1.mono fun _ _ h => h.elim
 have HM : Hid (MidAt D keep noise pb mb w w.heap.size (.slice va (names D.files).length vc) 0 w1) := Lib.hid ⟨(HD.out.grow hf1).head, by rw [mid_zero]; exact (HD.out.grow hf1).map, hf1', hrow⟩
 clear hrow hf1 hf1'
 go_wp2_with fail
 go_loopg [6, 15] D.files.length (fun j u v wr => ∃ i : Nat, i + j = D.files.length ∧ v = .int .i64 i ∧ u = .int .i64 (tails (D.files.take i)) ∧ MidAt D keep noise pb mb w w.heap.size (.slice va (names D.files).length vc) i wr)
 case atStart => exact ⟨0, by omega, rfl, rfl, HM.out⟩
 case round =>
  obtain ⟨i, hi, rfl, rfl, hmid⟩ := hrel
  have HI := Lib.hid (And.intro hi hmid)
  clear hi hmid
  by_cases hlt : i < D.files.length
  ·obtain ⟨f, hf⟩ : ∃ f, D.files[i]? = some f := ⟨_, List.getElem?_eq_getElem hlt⟩
   have hfm := List.mem_of_getElem? hf
   have hfs := HD.out.inv.synced f hfm
   have htot : f.bytes.length ≤ 10000000 := by have h1 := mem_total hfm; have h2 := HD.out.inv.full; have h3 := HD.out.inv.most; omega
   obtain ⟨t, ht⟩ : ∃ t, f.bytes.length = f.synced + t := ⟨_, (Nat.add_sub_of_le hfs).symm⟩
   have hsz : (bs f.bytes).size = f.synced + t := ht
   have hst : f.synced + t ≤ 10000000 := by omega
   obtain ⟨hh0, hm0, hf0, hrow0⟩ := HI.out.2
   obtain ⟨g, cap, hv, _⟩ := ownsRow_form hrow0 (by omega)
   obtain ⟨rfl, rfl⟩ : va = some ⟨g, 0, none⟩ ∧ vc = cap := by injection hv with h1 h2 h3; exact ⟨h1, h3⟩
   have c1 : wr.cell? ⟨g, i, none⟩ = some (.string (bs f.name)) := ownsRow_cell hrow0 (by simp [names, hf, encS])
   have c0 : wr.cell? ⟨pb, 0, none⟩ = some (.map (some mb)) := cell_of hh0 rfl
   have hlook := hm0.run_look (k := .string (bs f.name)) (v := valF f) Tryz.underlying121 Tryz.underlying9 trivial ((((mid_perm0 hf).map entF).mem_iff).2 (List.mem_cons_self ..)) false
   simp only [Bool.false_eq_true, if_false, valF] at hlook
   have hsub : ((f.synced : Int) + (t : Int) - (f.synced : Int)) = (t : Int) := by omega
   have HF := Lib.hid (And.intro hf (And.intro hfs ht))
   clear hf hfm hfs ht hv hrow0
   have hb0 := block_new wr (.cells #[.string (bs f.bytes), .int .i64 f.synced] 127)
   have hF1 : Fr (fun _ => False) wr (wr.alloc (.cells #[.string (bs f.bytes), .int .i64 f.synced] 127)) := (Fr.refl _ _).alloc _
   have hmlt := hm0.lt
   have hplt := lt_of_block hh0
   have HW := Lib.hid (And.intro hh0 (And.intro hm0 (And.intro hf0 (And.intro hb0 hF1))))
   clear hh0 hm0 hf0 hb0 hF1
   rcases Nat.eq_zero_or_pos t with rfl | htp
   ·go_wp2_with fail
    go_roundg (D.files.length - (i + 1))
    case measure => have := HI.out.1; omega
    case rel =>
     obtain ⟨hh0, hm0, hf0, hb0, hF1⟩ := HW.out
     have htt : f.bytes.length = f.synced := by have := HF.out.2.2; omega
     refine ⟨i + 1, by have := HI.out.1; omega, by go_num, by rw [tails_next HF.out.1, if_pos htt]; rfl, hF1.keep hh0 (fun h => h), ?_, hf0.trans hF1 (fun _ h => h.elim), ?_⟩
     ·rw [mid_same HF.out.1 htt]; exact hm0.keep (Below.heap_alloc _ _ _ hmlt)
     ·exact ownsRow_keep HI.out.2.2.2.2 fun k hk => Below.heap_alloc _ _ _ (World.ownsRow.lt HI.out.2.2.2.2 k hk).2
   ·have d0 : ((t : Int) == 0) = false := by rw [beq_eq_false_iff_ne]; omega
    have d00 : (t == 0) = false := by rw [beq_eq_false_iff_ne]; omega
    obtain ⟨k, hk⟩ : ∃ k, tails (D.files.take i) = k := ⟨_, rfl⟩
    rw [hk]
    have hkb : k ≤ 40 := by rw [← hk]; have h1 : tails (D.files.take i) ≤ (D.files.take i).length := List.length_filter_le _ _; rw [List.length_take] at h1; omega
    have HKK := Lib.hid hk
    clear hk
    have hkq : ∀ (W : World), Fr (Own pb mb) w W → ∀ n, Calls Tryz.prog 71 #[.slice a keep.length ca, .int .i64 k] (W.drewN n) fun e w' => e = .returned (.int .i64 (nthD keep k)) ∧ w' = W.drewN n := fun W hF n => Calls.mono (HK.out (W.drewN n) (hF.drewN n) k) fun e w' h => ⟨h.1, h.2.symm⟩
    have HQ := Lib.hid (hkq _ (HW.out.2.2.1.trans HW.out.2.2.2.2 (fun _ h => h.elim)))
    clear hkq
    go_wp2_with fail
    have HWW := Lib.hid (show Fr (fun _ => False) wr (wr.alloc (.cells #[.string (bs f.bytes), .int .i64 f.synced] 127)) from HW.out.2.2.2.2)
    have HWB := Lib.hid HW.out.2.2.2.1
    have cb0 := cell_of HW.out.2.2.2.1 (i := 0) (v := .string (bs f.bytes)) rfl
    have cb1 := cell_of HW.out.2.2.2.1 (i := 1) (v := .int .i64 f.synced) rfl
    have fb0 := free_of 0 HW.out.2.2.2.1
    have c0W := HW.out.2.2.2.2.cell c0 (fun h => h)
    clear HW
    generalize wr.alloc (.cells #[.string (bs f.bytes), .int .i64 f.synced] 127) = W at *
    obtain ⟨c, hcc⟩ : ∃ c, nthD keep k = c := ⟨_, rfl⟩
    obtain ⟨m, hmm⟩ : ∃ m : Nat, min (max c 0) (t : Int) = (m : Int) := ⟨(min (max c 0) (t : Int)).toNat, by omega⟩
    have hmt : m ≤ t := by omega
    have HCC := Lib.hid (And.intro hcc hmm)
    rw [hcc] at HQ
    clear hcc
    rcases Nat.eq_zero_or_pos m with rfl | hmp
    ·have hw0 : IntKind.i64.wrap (f.synced : Int) = (f.synced : Int) := IntWalk.i64_in _ (by omega)
     go_quiet ((go_at_call 71; exact Calls.quiet_of_same (HQ.out _)))
     clear hw0 hmm
     generalize hW2 : World.drewN W _ = W2
     have hb2 : W2.heap[wr.heap.size]? = some (.cells #[.string (bs f.bytes), .int .i64 f.synced] 127 (0, 0)) := by rw [← hW2]; exact HWB.out
     have hF2 : Fr (fun _ => False) wr W2 := by rw [← hW2]; exact HWW.out.drewN _
     clear hW2
     have cb02 := cell_of hb2 (i := 0) (v := .string (bs f.bytes)) rfl
     have cb12 := cell_of hb2 (i := 1) (v := .int .i64 f.synced) rfl
     have fb02 := free_of 0 hb2
     have hext : (bs f.bytes).extract 0 f.synced = bs (f.bytes.take f.synced) := bs_take _ _
     have hF4 : Fr (fun k => k = wr.heap.size) wr (W2.setCell ⟨wr.heap.size, 0, none⟩ (.string (bs (f.bytes.take f.synced)))) := Fr.setCell (o := fun k => k = wr.heap.size) (hF2.mono fun _ _ h => h.elim) (p := ⟨wr.heap.size, 0, none⟩) (.inl rfl) _
     have hb4 := block_set hb2 0 (.string (bs (f.bytes.take f.synced)))
     have HX := Lib.hid (And.intro hF4 hb4)
     clear hF2 hF4 hb4 hb2 cb0 cb1 fb0 c0W hsub
     go_wp2_with fail
     have c04 := HX.out.1.cell c0 (fun e => by simp at e; omega)
     have cf04 := cell_of HX.out.2 (i := 0) (v := .string (bs (f.bytes.take f.synced))) rfl
     have hszt : (bs (f.bytes.take f.synced)).size = f.synced := by show (f.bytes.take f.synced).length = _; rw [List.length_take]; have := HF.out.2.1; omega
     clear cb02 cb12 fb02
     generalize W2.setCell ⟨wr.heap.size, 0, none⟩ (.string (bs (f.bytes.take f.synced))) = W4 at *
     have hm4 : MapOf W4 .string mb ((.string (bs f.name), valF f) :: (crashL xbG keep noise 0 (D.files.take i) ++ D.files.drop (i + 1)).map entF) := (HI.out.2.2.1.keep (HX.out.1.block mb hmlt (by omega))).perm ((mid_perm0 HF.out.1).map entF)
     go_still_tail 11, (by kernel_rfl)
     go_wp2_with (at_mapUpdate; go_must (refine wpList_map_set (val := .agg #[.string (bs (f.bytes.take f.synced)), .int .i64 f.synced]) rfl _ _ _ 121 rfl 9 127 Tryz.underlying121 Tryz.underlying9 rfl rfl rfl (hm4.keep (w' := W4.drewN 1) rfl) ?_; intro w5 hm5 hf5))
     go_roundg (D.files.length - (i + 1))
     case measure => have := HI.out.1; omega
     case rel =>
      have htt : ¬ f.bytes.length = f.synced := by have := HF.out.2.2; omega
      have hcr : crashF xbG keep noise (tails (D.files.take i)) f = ⟨f.name, f.bytes.take f.synced, f.synced⟩ := crashF_none (by rw [HKK.out, HCC.out.1]; have := HCC.out.2; omega)
      refine ⟨i + 1, by have := HI.out.1; omega, by go_num, by rw [tails_next HF.out.1, if_neg htt, HKK.out]; rfl, mid_step HI.out.2 hpm.1 hpm.2 (Nat.le_refl _) HD.out.ne HF.out.1 htt HX.out.1 ?_ hf5.of_start⟩
      rw [hcr]; exact hm5
    ·obtain ⟨q, hq⟩ : ∃ q, f.synced + m = q + 1 := ⟨f.synced + m - 1, by omega⟩
     have hsum : (f.synced : Int) + (m : Int) = (q : Int) + 1 := by omega
     have hw1 : IntKind.i64.wrap ((q : Int) + 1) = (q : Int) + 1 := by rw [IntWalk.i64_in _ (by omega)]
     have hql : q < f.synced + t := by omega
     have hqs : f.synced < q + 1 := by omega
     have hqsI : (f.synced : Int) < (q : Int) + 1 := by omega
     have HQQ := Lib.hid hq
     clear hq
     go_quiet ((go_at_call 71; exact Calls.quiet_of_same (HQ.out _)))
     clear hw1 hmm hsum
     generalize hW2 : World.drewN W _ = W2
     have hb2 : W2.heap[wr.heap.size]? = some (.cells #[.string (bs f.bytes), .int .i64 f.synced] 127 (0, 0)) := by rw [← hW2]; exact HWB.out
     have hF2 : Fr (fun _ => False) wr W2 := by rw [← hW2]; exact HWW.out.drewN _
     clear hW2
     have cb02 := cell_of hb2 (i := 0) (v := .string (bs f.bytes)) rfl
     have cb12 := cell_of hb2 (i := 1) (v := .int .i64 f.synced) rfl
     have fb02 := free_of 0 hb2
     have hext : (bs f.bytes).extract 0 q = bs (f.bytes.take q) := bs_take _ _
     clear cb0 cb1 fb0 c0W hsub
     have hnth := HN.out W2.drew ((HI.out.2.2.2.1.trans hF2 (fun _ h => h.elim)).drew) k
     obtain ⟨c2, hc2⟩ : ∃ c2, nthD noise k = c2 := ⟨_, rfl⟩
     rw [hc2] at hnth
     have HC2 := Lib.hid hc2
     have H1 := Lib.hid hnth
     clear hc2 hnth
     have hFB := Lib.hid (And.intro hF2 hb2)
     clear hF2 hb2
     have hq1 : IntKind.i64.wrap ((q : Int) + 1 - 1) = (q : Int) := by rw [IntWalk.i64_in _ (by omega)]; omega
     have hqle : q ≤ f.synced + t := by omega
     have hqleI : (q : Int) ≤ (f.synced : Int) + (t : Int) := by omega
     have hq2 : IntKind.i64.wrap (q : Int) = (q : Int) := IntWalk.i64_in _ (by omega)
     have hqlI : (q : Int) < (f.synced : Int) + (t : Int) := by omega
     have hq0 : 0 ≤ (q : Int) := by omega
     have hqT : (q : Int).toNat = q := by omega
     have hqz : q < (bs f.bytes).size := by rw [hsz]; exact hql
     obtain ⟨x, hx⟩ : ∃ x, xbG (f.bytes.getD q 0) c2 = x := ⟨_, rfl⟩
     have hcv : Sem.run Tryz.prog (convert 33 9 (.slice (some ⟨W2.heap.size, 0, none⟩) 1 1)) ((W2.alloc (.cells #[.int .u8 (bits .xor .u8 (((bs f.bytes)[q].toNat : Nat) : Int) (IntKind.u8.wrap c2))] 5)).drew) = .ok (.string (bs [x])) ((W2.alloc (.cells #[.int .u8 (bits .xor .u8 (((bs f.bytes)[q].toNat : Nat) : Int) (IntKind.u8.wrap c2))] 5)).drew) := by
      refine run_convert_bytes_back (P := Tryz.prog) _ 33 9 5 ⟨W2.heap.size, 0, none⟩ 1 [x] Tryz.underlying33 Tryz.underlying5 Tryz.underlying9 fun j hj => ?_
      obtain rfl : j = 0 := by simpa using hj
      rw [bs_at, xb_toNat, hx]
      exact cell_of (i := 0) (block_new_drew rfl) rfl
     have hb3 : (W2.alloc (.cells #[.int .u8 (bits .xor .u8 (((bs f.bytes)[q].toNat : Nat) : Int) (IntKind.u8.wrap c2))] 5)).drew.heap[wr.heap.size]? = some (.cells #[.string (bs f.bytes), .int .i64 f.synced] 127 (0, 0)) := block_old_drew hFB.out.2 _
     have ff3 := free_of 0 hb3
     have cc3 := cell_of hb3 (i := 0) (v := .string (bs f.bytes)) rfl
     have HB3 := Lib.hid hb3
     have hnw : wr.heap.size < W2.heap.size := lt_of_block hFB.out.2
     have hnw2 : ¬ wr.heap.size = W2.heap.size := by omega
     have hnw3 := World.new_ne W2 ⟨wr.heap.size, 0, none⟩ cb02
     clear hb3
     have hsA : (bs (f.bytes.take q)).size = q := by show (f.bytes.take q).length = q; rw [List.length_take]; have : f.bytes.length = f.synced + t := hsz; omega
     have hsB : (bs [x]).size = 1 := rfl
     have hcat : bs (f.bytes.take q) ++ bs [x] = bs (f.bytes.take q ++ [x]) := bs_append _ _
     have hqx : q + 1 ≤ 9223372036854775807 := by omega
     have HXX := Lib.hid hx
     clear hx
     go_wp2_with fail
     go_region_with (first | (go_at_call 71; with_reducible refine Calls.mono H1.out ?_; rintro e w' ⟨rfl, rfl⟩))
     all_goals
      clear hcv ff3 cc3 hnw3 cb02 cb12 fb02
      go_wp2_with fail
      generalize hW4 : World.drew _ = W4
      have hb4 : W4.heap[wr.heap.size]? = some (.cells #[.string (bs (f.bytes.take q ++ [x])), .int .i64 f.synced] 127 (0, 0)) := by rw [← hW4]; exact block_old_drew (block_set hFB.out.2 0 _) _
      have hF4 : Fr (fun k => k = wr.heap.size) wr W4 := by rw [← hW4]; exact ((Fr.setCell (o := fun k => k = wr.heap.size) (hFB.out.1.mono fun _ _ h => h.elim) (p := ⟨wr.heap.size, 0, none⟩) (.inl rfl) _).alloc _).drew
      clear hW4
      have c04 := hF4.cell c0 (fun e => by simp at e; omega)
      have cf04 := cell_of hb4 (i := 0) (v := .string (bs (f.bytes.take q ++ [x]))) rfl
      have hszt : (bs (f.bytes.take q ++ [x])).size = q + 1 := by show (f.bytes.take q ++ [x]).length = _; have h3 : (f.bytes.take q).length = q := hsA; rw [List.length_append, h3]; rfl
      have hm4 : MapOf W4 .string mb ((.string (bs f.name), valF f) :: (crashL xbG keep noise 0 (D.files.take i) ++ D.files.drop (i + 1)).map entF) := (HI.out.2.2.1.keep (hF4.block mb hmlt (by omega))).perm ((mid_perm0 HF.out.1).map entF)
      have HX := Lib.hid (And.intro hF4 hm4)
      clear hF4 hm4 hb4 hsA hsB hcat hext hqx
      go_still_tail 11, (by kernel_rfl)
      go_wp2_with (at_mapUpdate; go_must (refine wpList_map_set (val := .agg #[.string (bs (f.bytes.take q ++ [x])), .int .i64 ((q : Int) + 1)]) rfl _ _ _ 121 rfl 9 127 Tryz.underlying121 Tryz.underlying9 rfl rfl rfl (HX.out.2.keep (w' := W4.drewN 1) rfl) ?_; intro w5 hm5 hf5))
      go_roundg (D.files.length - (i + 1))
      case measure => have := HI.out.1; omega
      case rel =>
       have htt : ¬ f.bytes.length = f.synced := by have := HF.out.2.2; omega
       have hcr : crashF xbG keep noise (tails (D.files.take i)) f = ⟨f.name, f.bytes.take q ++ [x], q + 1⟩ := by
        rw [HKK.out, crashF_some (m := m) (q := q) (by rw [HCC.out.1]; unfold keptD; have h1 := HCC.out.2; have h2 := HF.out.2.2; rw [show f.bytes.length - f.synced = t by omega, h1]; omega) HQQ.out hmp, HC2.out, HXX.out]
       refine ⟨i + 1, by have := HI.out.1; omega, by go_num, by rw [tails_next HF.out.1, if_neg htt, HKK.out]; rfl, mid_step HI.out.2 hpm.1 hpm.2 (Nat.le_refl _) HD.out.ne HF.out.1 htt HX.out.1 ?_ hf5.of_start⟩
       rw [hcr]; exact hm5
  ·obtain ⟨hh0, hm0, hf0, hrow0⟩ := HI.out.2
   have hend := HI.out.1
   have hmid := mid_end (xb := xbG) (keep := keep) (noise := noise) (l := D.files) (i := i) (by omega)
   rw [hmid] at hm0
   have f2 := free_of 2 hh0
   have f3 := free_of 3 hh0
   have c2 := cell_of hh0 (i := 2) rfl
   have c3 := cell_of hh0 (i := 3) rfl
   have hb2 := block_set hh0 2 (.int .i64 (-1))
   have hb3 := block_set hb2 3 (.bool false)
   have HX := Lib.hid (And.intro hm0 (And.intro hf0 hb3))
   clear hh0 hm0 hf0 hrow0 hb2 hb3 hmid hend
   go_wp2_with fail
   go_end0
   have hne := HD.out.ne
   refine ⟨rfl, ⟨HX.out.2.2, (HX.out.1.keep (block_set_ne hne.symm)).keep (block_set_ne hne.symm), HD.out.inv.crash⟩, ?_⟩
   exact (HX.out.2.1.setCell (p := ⟨pb, 2, none⟩) (.inl (.inl rfl)) _).setCell (p := ⟨pb, 3, none⟩) (.inl (.inl rfl)) _
end
end Go.Proofs.YtgmghopcppniaaaGreatDoor
