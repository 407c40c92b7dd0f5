/- Append. -/
import Derived.Test.YtgmghopcppniaaaGreatDoorFK
import Derived.Deep.RegionWith
import Derived.IntWalk
namespace Go.Proofs.YtgmghopcppniaaaGreatDoor
open Go.RowKit Go.Lib

section
variable {w w' : World} {pb mb : Nat} {D : DiskD} {n x : List UInt8} {f g : FileD}
theorem find_live (hD : DiskAt w pb mb D) (hd : D.dead = false) (n : List UInt8) : ∃ (b0 : List UInt8) (s0 : Nat) (isN : Bool), (∀ x, grown D.files n x = ⟨n, b0 ++ x, s0⟩) ∧ (isN = true ↔ getF D.files n = none) ∧ (isN = true → b0 = []) ∧ b0.length ≤ 10000000 ∧
  Calls Tryz.prog 74 #[.pointer (some ⟨pb, 0, none⟩), .string (bs n)] w fun e w' => e = .returned (.tuple #[.agg #[.string (bs b0), .int .i64 s0], .int .i64 (if isN then 4 else 0)]) ∧ Fr (fun _ => False) w w' := by
 cases hg : getF D.files n with
 | none => exact ⟨[], 0, true, fun x => grown_none hg, by simp, fun _ => rfl, by simp, find_none hD hd hg⟩
 | some f =>
  have h1 := mem_total (get_mem hg).1
  have h2 := hD.inv.full
  have h3 := hD.inv.most
  exact ⟨f.bytes, f.synced, false, (fun x => grown_some hg), (by simp), (fun h => by cases h), (by omega), find_some hD hd hg⟩
/-- a file put into the map, whether it was there or not -/
theorem map_any {W : World} (hD : DiskAt W pb mb D) (f : FileD) :
  ∃ w', (Instr.mapUpdate 121 (.map (some mb)) (.string (bs f.name)) (valF f)).run Tryz.prog W = .ok () w' ∧ MapOf w' .string mb ((putF D.files f).map entF) ∧ Fr (fun i => i = mb) W w' := by
 cases hg : getF D.files f.name with
 | none =>
  obtain ⟨w', h1, h2, h3⟩ := hD.map.run_add (k := .string (bs f.name)) Tryz.underlying121 Tryz.underlying9 trivial (key_ne hg) (valF f)
  refine ⟨w', h1, ?_, h3⟩
  have := (put_perm hD.inv.sorted f).map entF
  rw [del_none hg] at this
  exact h2.perm this.symm
 | some g =>
  obtain ⟨w', h1, h2, h3⟩ := (map_old hD hg).run_set Tryz.underlying121 Tryz.underlying9 (valF f)
  exact ⟨w', h1, map_put hD.inv.sorted h2, h3⟩
theorem wpList_map_any {w : World} {ops : Array Oper} {rest : List Oper} {o : Oper} {a : Act} {Q : Exit → Act → World → Prop} {key val : Value} (hg : o.guard = none) (m x u : Operand) (hop : o.op = Op.mapUpdate 121 m x u)
  (ha : a.eval m = .map (some mb)) (hx : a.eval x = key) (hv : a.eval u = val) (hD : DiskAt w pb mb D) (f : FileD) (hk : key = .string (bs f.name)) (hv2 : val = valF f)
  (hK : ∀ w', MapOf w' .string mb ((putF D.files f).map entF) → Fr (fun i => i = mb) w w' → wpList Tryz.prog ops Q rest (a.put o.dst undef) w') : wpList Tryz.prog ops Q (o :: rest) a w := by
 refine wpList_plain hg fun K' hK' => ?_
 obtain ⟨w', hrun, r1, r2⟩ := map_any hD f
 rw [hk] at hx
 rw [hv2] at hv
 unfold Oper.wp
 simp [execOp, hop, ha, hx, hv, hrun, Result.andThen]
 exact hK' _ _ (hK w' r1 r2)

set_option maxRecDepth 100000 in
set_option maxHeartbeats 8000000 in
theorem append_h (hD : DiskAt w pb mb D) (n x : List UInt8) (hn : n.length ≤ 1000000) (hx : x.length ≤ 1000000) : Calls Tryz.prog 32 #[.pointer (some ⟨pb, 0, none⟩), .string (bs n), .string (bs x)] w (Does pb mb (appendD D n x) w) := by
 have hpm : pb < w.heap.size ∧ mb < w.heap.size := ⟨lt_of_block hD.head, hD.map.lt⟩
 cases hd : D.dead with
 | true =>
  have HE := Lib.hid (show appendD D n x = (7, D) by unfold appendD; rw [if_pos hd])
  have HF := Lib.hid (find_dead (n := n) hD hd)
  clear hd
  go_enter Tryz.func32, Tryz.ntmps32
  go_wp2_with fail
  refine Calls.mono HF.out ?_
  rintro e w1 ⟨rfl, hf⟩
  go_wp2_with fail
  go_ret
  rw [HE.out]; exact Does.same hD (hf.alloc _) rfl rfl
 | false =>
  have hdn : ¬ D.dead = true := by rw [hd]; simp
  obtain ⟨b0, s0, isN, hgr, hisN, hb0, hbl, hfind⟩ := find_live hD hd n
  have HF := Lib.hid hfind
  have HG := Lib.hid (And.intro hgr (And.intro hisN hb0))
  clear hfind hgr hb0
  have hxs : (bs x).size = x.length := rfl
  have hcat : bs b0 ++ bs x = bs (b0 ++ x) := bs_append _ _
  have hbs0 : (bs b0).size = b0.length := rfl
  have hcl : b0.length + x.length ≤ 9223372036854775807 := by omega
  have hcl2 : b0.length + x.length ≤ maxLen := by unfold maxLen; omega
  have hn0 := fun W => name_h (w := W) (n := n) hn
  have HN := Lib.hid hn0
  clear hn0
  cases hk : nameOK n with
  | false =>
   have HE := Lib.hid (show appendD D n x = (3, D) by unfold appendD; rw [if_neg hdn, if_pos hk])
   rw [hk] at HN
   clear hk hd hdn hisN
   cases isN
   all_goals
    simp only [Bool.false_eq_true, if_false, if_true] at HF
    go_enter Tryz.func32, Tryz.ntmps32
    go_wp2_with fail
    refine Calls.mono HF.out ?_
    rintro e w1 ⟨rfl, hf⟩
    go_wp2_with fail
    refine Calls.mono (HN.out _) ?_
    rintro e w2 ⟨rfl, hf2⟩
    go_wp2_with fail
    go_ret
    rw [HE.out]; exact Does.same hD ((hf.alloc _).next hf2) rfl rfl
  | true =>
   rw [hk] at HN
   by_cases hM : getF D.files n = none ∧ D.files.length = 40
   ·have HE := Lib.hid (show appendD D n x = (11, D) by unfold appendD; rw [if_neg hdn, if_neg (by rw [hk]; simp), if_pos hM])
    obtain rfl := hisN.2 hM.1
    have d1 : ((D.files.length : Int) == 40) = true := by rw [beq_iff_eq]; omega
    have d2 : (D.files.length == 40) = true := by rw [beq_iff_eq]; omega
    clear hk hd hdn hM hisN
    simp only [if_true] at HF
    go_enter Tryz.func32, Tryz.ntmps32
    go_wp2_with fail
    refine Calls.mono HF.out ?_
    rintro e w1 ⟨rfl, hf⟩
    go_wp2_with fail
    refine Calls.mono (HN.out _) ?_
    rintro e w2 ⟨rfl, hf2⟩
    have hD2 := hD.grow ((hf.alloc _).next hf2)
    have c0 := hD2.cells.1
    have hlen := hD2.map.run_len (P := Tryz.prog) Tryz.underlying121 3
    rw [List.length_map] at hlen
    go_wp2_with fail
    go_ret
    rw [HE.out]; exact Does.same hD ((hf.alloc _).next hf2) rfl rfl
   ·have HA : Hid (appendD D n x = if D.most < (total D.files : Int) + x.length then (6, D) else thenD D (putF D.files (grown D.files n x))) := Lib.hid (by unfold appendD; rw [if_neg hdn, if_neg (by rw [hk]; simp), if_neg hM])
    have hfull := hD.inv.full
    have hmost := hD.inv.most
    have hll : isN = true → ((D.files.length : Int) == 40) = false ∧ (D.files.length == 40) = false := fun h => by
     have := hisN.1 h
     constructor
     ·rw [beq_eq_false_iff_ne]; exact fun e => hM ⟨this, by omega⟩
     ·rw [beq_eq_false_iff_ne]; exact fun e => hM ⟨this, by omega⟩
    clear hisN
    by_cases hO : D.most < (total D.files : Int) + x.length
    ·have dO : decide (D.most < (total D.files : Int) + (x.length : Int)) = true := by simpa using hO
     have HE := Lib.hid (show appendD D n x = (6, D) by rw [HA.out, if_pos hO])
     clear hk hd hdn hM
     cases isN
     all_goals
      try have hll2 := hll rfl
      simp only [Bool.false_eq_true, if_false, if_true] at HF
      go_enter Tryz.func32, Tryz.ntmps32
      go_wp2_with fail
      refine Calls.mono HF.out ?_
      rintro e w1 ⟨rfl, hf⟩
      go_wp2_with fail
      refine Calls.mono (HN.out _) ?_
      rintro e w2 ⟨rfl, hf2⟩
      have hF2 : Fr (fun _ => False) w w2 := (hf.alloc _).next hf2
      have hb2 := hf2.keep (block_new w1 (.cells #[.string (bs b0), .int .i64 s0] 127)) (fun h => h)
      have hD2 := hD.grow hF2
      have c0 := hD2.cells.1
      have hlen := hD2.map.run_len (P := Tryz.prog) Tryz.underlying121 3
      rw [List.length_map] at hlen
      have HB2 := Lib.hid hb2
      have HF2 := Lib.hid hF2
      have HW1 := Lib.hid (And.intro hf.size hpm)
      try obtain ⟨hl1, hl2⟩ := hll2
      go_wp2_with fail
      have hc1 : w2.drew.cell? ⟨pb, 1, none⟩ = some (.int .i64 D.most) := hD2.cells.2.1
      have H1 := size_h (w := w2.drew) ⟨hD2.head, hD2.map.keep rfl, hD2.inv⟩
      have hwr : IntKind.i64.wrap ((total D.files : Int) + (x.length : Int)) = (total D.files : Int) + (x.length : Int) := IntWalk.i64_in _ (by omega)
      clear hlen c0 hD2 hb2 hF2 hf2 hf
      go_region_with (go_at_call 53; with_reducible refine Calls.mono H1 ?_; rintro e w3 ⟨rfl, hf3'⟩; have hf3 : Fr (fun _ => False) w2 w3 := hf3'.start rfl rfl rfl rfl; have hcx := hf3'.cell hc1 (fun h => h))
      all_goals (clear hwr; go_wp2_with fail)
      all_goals (go_ret; rw [HE.out]; exact Does.same hD (HF2.out.next hf3) rfl rfl)
    ·have dO : decide (D.most < (total D.files : Int) + (x.length : Int)) = false := by simpa using hO
     have hO2 : (total D.files : Int) + (x.length : Int) ≤ D.most := by omega
     have heq : appendD D n x = thenD D (putF D.files ⟨n, b0 ++ x, s0⟩) := by rw [HA.out, if_neg hO, HG.out.1]
     have hinv := hD.inv.append n x
     rw [heq] at hinv ⊢
     by_cases hz : D.fuse = 0
     ·have ht : turnD D = (7, { D with dead := true }) := by unfold turnD; rw [if_pos hz]
      have HE := Lib.hid (show thenD D (putF D.files ⟨n, b0 ++ x, s0⟩) = (7, { D with dead := true }) by unfold thenD; rw [ht]; rfl)
      have HT := Lib.hid ht
      clear hk hd hdn hM heq ht hz hinv
      cases isN
      all_goals
       try have hll2 := hll rfl
       simp only [Bool.false_eq_true, if_false, if_true] at HF
       go_enter Tryz.func32, Tryz.ntmps32
       go_wp2_with fail
       refine Calls.mono HF.out ?_
       rintro e w1 ⟨rfl, hf⟩
       go_wp2_with fail
       refine Calls.mono (HN.out _) ?_
       rintro e w2 ⟨rfl, hf2⟩
       have hF2 : Fr (fun _ => False) w w2 := (hf.alloc _).next hf2
       have hb2 := hf2.keep (block_new w1 (.cells #[.string (bs b0), .int .i64 s0] 127)) (fun h => h)
       have hD2 := hD.grow hF2
       have c0 := hD2.cells.1
       have hlen := hD2.map.run_len (P := Tryz.prog) Tryz.underlying121 3
       rw [List.length_map] at hlen
       have HB2 := Lib.hid hb2
       have HF2 := Lib.hid hF2
       have HW1 := Lib.hid (And.intro hf.size hpm)
       try obtain ⟨hl1, hl2⟩ := hll2
       go_wp2_with fail
       have hc1 : w2.drew.cell? ⟨pb, 1, none⟩ = some (.int .i64 D.most) := hD2.cells.2.1
       have H1 := size_h (w := w2.drew) ⟨hD2.head, hD2.map.keep rfl, hD2.inv⟩
       have hwr : IntKind.i64.wrap ((total D.files : Int) + (x.length : Int)) = (total D.files : Int) + (x.length : Int) := IntWalk.i64_in _ (by omega)
       clear hlen c0 hD2 hb2 hF2 hf2 hf
       go_region_with (go_at_call 53; with_reducible refine Calls.mono H1 ?_; rintro e w3 ⟨rfl, hf3'⟩; have hf3 : Fr (fun _ => False) w2 w3 := hf3'.start rfl rfl rfl rfl; have hcx := hf3'.cell hc1 (fun h => h))
       all_goals (clear hwr; go_wp2_with fail)
       all_goals
        have hF3 := HF2.out.next hf3
        have htn := turn_h (hD.grow hF3)
        rw [HT.out] at htn
        refine Calls.mono htn ?_
        rintro e w4 ⟨rfl, hD4, hf4⟩
        clear htn
        go_wp2_with fail
        go_ret
        rw [HE.out]; exact ⟨rfl, hD4, (hF3.mono fun _ _ h => h.elim).next hf4⟩
     ·have ht : turnD D = (0, (turnD D).2) := by unfold turnD; rw [if_neg hz]
      have HE := Lib.hid (show thenD D (putF D.files ⟨n, b0 ++ x, s0⟩) = (0, setF (turnD D).2 (putF D.files ⟨n, b0 ++ x, s0⟩)) by unfold thenD; rw [ht]; rfl)
      have HT := Lib.hid ht
      have HI := Lib.hid hinv
      clear hk hd hdn hM heq ht hz hinv
      cases isN
      all_goals
       try have hll2 := hll rfl
       simp only [Bool.false_eq_true, if_false, if_true] at HF
       go_enter Tryz.func32, Tryz.ntmps32
       go_wp2_with fail
       refine Calls.mono HF.out ?_
       rintro e w1 ⟨rfl, hf⟩
       go_wp2_with fail
       refine Calls.mono (HN.out _) ?_
       rintro e w2 ⟨rfl, hf2⟩
       have hF2 : Fr (fun _ => False) w w2 := (hf.alloc _).next hf2
       have hb2 := hf2.keep (block_new w1 (.cells #[.string (bs b0), .int .i64 s0] 127)) (fun h => h)
       have hD2 := hD.grow hF2
       have c0 := hD2.cells.1
       have hlen := hD2.map.run_len (P := Tryz.prog) Tryz.underlying121 3
       rw [List.length_map] at hlen
       have HB2 := Lib.hid hb2
       have HF2 := Lib.hid hF2
       have HW1 := Lib.hid (And.intro hf.size hpm)
       try obtain ⟨hl1, hl2⟩ := hll2
       go_wp2_with fail
       have hc1 : w2.drew.cell? ⟨pb, 1, none⟩ = some (.int .i64 D.most) := hD2.cells.2.1
       have H1 := size_h (w := w2.drew) ⟨hD2.head, hD2.map.keep rfl, hD2.inv⟩
       have hwr : IntKind.i64.wrap ((total D.files : Int) + (x.length : Int)) = (total D.files : Int) + (x.length : Int) := IntWalk.i64_in _ (by omega)
       clear hlen c0 hD2 hb2 hF2 hf2 hf
       go_region_with (go_at_call 53; with_reducible refine Calls.mono H1 ?_; rintro e w3 ⟨rfl, hf3'⟩; have hf3 : Fr (fun _ => False) w2 w3 := hf3'.start rfl rfl rfl rfl; have hcx := hf3'.cell hc1 (fun h => h))
       all_goals (clear hwr; go_wp2_with fail)
       all_goals
        have hF3 := HF2.out.next hf3
        have htn := turn_h (hD.grow hF3)
        rw [HT.out] at htn
        refine Calls.mono htn ?_
        rintro e w4 ⟨rfl, hD4, hf4⟩
        have hnw : ¬ Own pb mb w1.heap.size := fun h => by have := HW1.out; rcases h with h | h <;> omega
        have hb4 := hf4.keep (hf3.keep HB2.out (fun h => h)) hnw
        have HF4 := Lib.hid ((hF3.mono fun _ _ h => h.elim).next hf4 : Fr (Own pb mb) w w4)
        have cf0 := cell_of hb4 (i := 0) rfl
        have cf1 := cell_of hb4 (i := 1) rfl
        have ff0 := free_of 0 hb4
        have hb5 := block_set hb4 0 (.string (bs (b0 ++ x)))
        have hF5 : Fr (fun i => i = w1.heap.size) w4 (w4.setCell ⟨w1.heap.size, 0, none⟩ (.string (bs (b0 ++ x)))) := Fr.setCell (o := fun i => i = w1.heap.size) (Fr.refl _ _) (p := ⟨w1.heap.size, 0, none⟩) (.inl rfl) _
        have hD5 := hD4.fr hF5 (fun e => hnw (.inl e.symm)) (fun e => hnw (.inr e.symm))
        have HX := Lib.hid (And.intro hb5 (And.intro hF5 hD5))
        clear htn hb4 hb5 hF5 hD4 hf4 hf3 hF3 hcx
        go_wp2_with fail
        have c05 := HX.out.2.2.cells.1
        have cf05 := cell_of HX.out.1 (i := 0) (v := .string (bs (b0 ++ x))) rfl
        have cf15 := cell_of HX.out.1 (i := 1) (v := .int .i64 s0) rfl
        clear cf0 cf1 ff0
        generalize w4.setCell ⟨w1.heap.size, 0, none⟩ (.string (bs (b0 ++ x))) = w5 at *
        go_still_tail 6, (by kernel_rfl)
        go_wp2_with (at_mapUpdate; go_must (refine wpList_map_any rfl _ _ _ rfl rfl rfl rfl (HX.out.2.2.grow ((Fr.refl _ _).drewN 1)) ⟨n, b0 ++ x, s0⟩ rfl rfl ?_; intro w6 hm6 hf6))
        go_ret
        rw [HE.out]
        rw [turn_files.1] at hm6
        have hF6 : Fr (fun i => i = mb) w5 w6 := hf6.of_start
        refine ⟨rfl, ⟨hF6.keep HX.out.2.2.head HX.out.2.2.ne, hm6, ?_⟩, ((HF4.out.trans HX.out.2.1 fun i hi => ?_).trans hF6 fun i hi => .inl (.inr hi))⟩
        ·have := HI.out; rw [HE.out] at this; exact this
        ·rw [hi]; exact .inr (by have := HW1.out; omega)
end
end Go.Proofs.YtgmghopcppniaaaGreatDoor
