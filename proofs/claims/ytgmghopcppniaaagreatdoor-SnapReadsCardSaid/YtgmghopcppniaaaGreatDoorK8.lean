/- 'does' with what Sync, Truncate, Rename and Delete hand to it. -/
import Derived.Test.YtgmghopcppniaaaGreatDoorK7
namespace Go.Proofs.YtgmghopcppniaaaGreatDoor
open Go.RowKit Go.Lib

section
variable {w w' : World} {pb mb A B C : Nat} {D : DiskD} {n x : List UInt8} {f g : FileD}
theorem Does.same {p : Int × DiskD} {e : Ending} (hD : DiskAt w pb mb D) (hf : Fr (fun _ => False) w w') (hp : p = (p.1, D)) (he : e = .returned (.int .i64 p.1)) : Does pb mb p w e w' := by
  refine ⟨he, ?_, hf.mono fun _ _ h => h.elim⟩
  rw [hp]; exact hD.grow hf
theorem turned_get (h : getF D.files n = some f) : getF (turnD D).2.files n = some f := by rw [turn_files.1]; exact h

set_option maxRecDepth 100000 in
set_option maxHeartbeats 2000000 in
theorem does_sync (hD : DiskAt w pb mb D) (cA : w.cell? ⟨A, 0, none⟩ = some (.pointer (some ⟨pb, 0, none⟩))) (cB : w.cell? ⟨B, 0, none⟩ = some (.string (bs n))) (hA : ¬ Own pb mb A) (hB : ¬ Own pb mb B) :
    Calls Tryz.prog 123 #[.pointer (some ⟨pb, 0, none⟩), .string (bs n), .func (.func 124) #[] #[], .func (.func 156) #[] #[.pointer (some ⟨A, 0, none⟩), .pointer (some ⟨B, 0, none⟩)]] w (Does pb mb (syncD D n) w) := by
  cases hd : D.dead with
  | true =>
    have HE := Lib.hid (show syncD D n = (7, D) by unfold syncD; rw [if_pos hd])
    have HF := Lib.hid (find_dead (n := n) hD hd)
    clear hd
    go_enter Tryz.func123, Tryz.ntmps123
    go_wp2_with fail
    refine Calls.mono HF.out ?_
    rintro e w1 ⟨rfl, hf⟩
    go_wp2_with fail
    go_ret
    rw [HE.out]; exact Does.same hD (hf.alloc _) rfl rfl
  | false =>
    cases hg : getF D.files n with
    | none =>
      have HE := Lib.hid (show syncD D n = (4, D) by unfold syncD; rw [if_neg (by rw [hd]; simp), hg])
      have HF := Lib.hid (find_none (n := n) hD hd hg)
      clear hd hg
      go_enter Tryz.func123, Tryz.ntmps123
      go_wp2_with fail
      refine Calls.mono HF.out ?_
      rintro e w1 ⟨rfl, hf⟩
      go_wp2_with fail
      go_ret
      rw [HE.out]; exact Does.same hD (hf.alloc _) rfl rfl
    | some f =>
      have HF := Lib.hid (find_some (n := n) hD hd hg)
      have hpm : pb < w.heap.size ∧ mb < w.heap.size := ⟨lt_of_block hD.head, hD.map.lt⟩
      have heq : syncD D n = thenD D (putF D.files ⟨n, f.bytes, f.bytes.length⟩) := by unfold syncD; rw [if_neg (by rw [hd]; simp), hg]
      have hinv := hD.inv.sync n
      rw [heq] at hinv ⊢
      have hcap : w.heap.size ≤ w.heap.size := Nat.le_refl _
      by_cases hz : D.fuse = 0
      · have ht : turnD D = (7, { D with dead := true }) := by unfold turnD; rw [if_pos hz]
        have HE := Lib.hid (show thenD D (putF D.files ⟨n, f.bytes, f.bytes.length⟩) = (7, { D with dead := true }) by unfold thenD; rw [ht]; rfl)
        have HT := Lib.hid ht
        clear hd hz ht heq
        go_enter Tryz.func123, Tryz.ntmps123
        go_wp2_with fail
        refine Calls.mono HF.out ?_
        rintro e w1 ⟨rfl, hf⟩
        unfold valF
        have HCH := Lib.hid (fine_h (w := w1.alloc (.cells #[.string (bs f.bytes), .int .i64 f.synced] 127)) (.string (bs f.bytes)) (.int .i64 f.synced))
        go_wp2_with fail
        refine Calls.mono HCH.out ?_
        rintro e w2 ⟨rfl, hf2⟩
        have hF2 : Fr (fun _ => False) w w2 := (hf.alloc _).next hf2
        have htn := turn_h (hD.grow hF2)
        rw [HT.out] at htn
        have HTN := Lib.hid htn
        clear htn
        go_wp2_with fail
        refine Calls.mono HTN.out ?_
        rintro e w3 ⟨rfl, hD3, hf3⟩
        go_wp2_with fail
        go_ret
        rw [HE.out]; exact ⟨rfl, hD3, (hF2.mono fun _ _ h => h.elim).next hf3⟩
      · have ht : turnD D = (0, (turnD D).2) := by unfold turnD; rw [if_neg hz]
        have HE := Lib.hid (show thenD D (putF D.files ⟨n, f.bytes, f.bytes.length⟩) = (0, setF (turnD D).2 (putF D.files ⟨n, f.bytes, f.bytes.length⟩)) by unfold thenD; rw [ht]; rfl)
        have HT := Lib.hid ht
        have HI := Lib.hid (And.intro hinv hg)
        clear hd hz ht heq hinv hg
        go_enter Tryz.func123, Tryz.ntmps123
        go_wp2_with fail
        refine Calls.mono HF.out ?_
        rintro e w1 ⟨rfl, hf⟩
        unfold valF
        have HCH := Lib.hid (fine_h (w := w1.alloc (.cells #[.string (bs f.bytes), .int .i64 f.synced] 127)) (.string (bs f.bytes)) (.int .i64 f.synced))
        go_wp2_with fail
        refine Calls.mono HCH.out ?_
        rintro e w2 ⟨rfl, hf2⟩
        have hF2 : Fr (fun _ => False) w w2 := (hf.alloc _).next hf2
        have hb2 := hf2.keep (block_new w1 (.cells #[.string (bs f.bytes), .int .i64 f.synced] 127)) (fun h => h)
        have htn := turn_h (hD.grow hF2)
        rw [HT.out] at htn
        have HTN := Lib.hid htn
        clear htn
        go_wp2_with fail
        refine Calls.mono HTN.out ?_
        rintro e w3 ⟨rfl, hD3, hf3⟩
        have hnw : ¬ Own pb mb w1.heap.size := fun h => by have := hf.size; rcases h with h | h <;> omega
        have hb3 := hf3.keep hb2 hnw
        have cf0 := cell_of hb3 (i := 0) rfl
        have cf1 := cell_of hb3 (i := 1) rfl
        have hF3 : Fr (Own pb mb) w w3 := (hF2.mono fun _ _ h => h.elim).next hf3
        have cA3 := hF3.cell cA hA
        have cB3 := hF3.cell cB hB
        have hg3 := turned_get HI.out.2
        have hi3 : InvD (setF (turnD D).2 (putF (turnD D).2.files ⟨n, f.bytes, f.bytes.length⟩)) := by
          have := HI.out.1
          rw [HE.out] at this
          rw [turn_files.1]; exact this
        have hw := sync1_h (f := f) hD3 cA3 cB3 hg3 hi3
        rw [turn_files.1] at hw
        have HW := Lib.hid hw
        have HF3 := Lib.hid hF3
        clear hw hi3 hg3 hb3 hb2 hF3 hF2 hf hf2 hf3 hnw hpm hcap
        go_wp2_with fail
        refine Calls.mono HW.out ?_
        rintro e w4 ⟨rfl, hD4, hf4⟩
        go_wp2_with fail
        go_ret
        rw [HE.out]; exact ⟨rfl, hD4, HF3.out.next hf4⟩

set_option maxRecDepth 100000 in
set_option maxHeartbeats 2000000 in
theorem does_trunc (hD : DiskAt w pb mb D) {k : Int} (cK : w.cell? ⟨C, 0, none⟩ = some (.int .i64 k)) (hC : ¬ Own pb mb C) (cA : w.cell? ⟨A, 0, none⟩ = some (.pointer (some ⟨pb, 0, none⟩))) (cB : w.cell? ⟨B, 0, none⟩ = some (.string (bs n))) (hA : ¬ Own pb mb A) (hB : ¬ Own pb mb B) :
    Calls Tryz.prog 123 #[.pointer (some ⟨pb, 0, none⟩), .string (bs n), .func (.func 183) #[] #[.pointer (some ⟨C, 0, none⟩)], .func (.func 184) #[] #[.pointer (some ⟨C, 0, none⟩), .pointer (some ⟨A, 0, none⟩), .pointer (some ⟨B, 0, none⟩)]] w (Does pb mb (truncD D n k) w) := by
  cases hd : D.dead with
  | true =>
    have HE := Lib.hid (show truncD D n k = (7, D) by unfold truncD; rw [if_pos hd])
    have HF := Lib.hid (find_dead (n := n) hD hd)
    clear hd
    go_enter Tryz.func123, Tryz.ntmps123
    go_wp2_with fail
    refine Calls.mono HF.out ?_
    rintro e w1 ⟨rfl, hf⟩
    go_wp2_with fail
    go_ret
    rw [HE.out]; exact Does.same hD (hf.alloc _) rfl rfl
  | false =>
    cases hg : getF D.files n with
    | none =>
      have HE := Lib.hid (show truncD D n k = (4, D) by unfold truncD; rw [if_neg (by rw [hd]; simp), hg])
      have HF := Lib.hid (find_none (n := n) hD hd hg)
      clear hd hg
      go_enter Tryz.func123, Tryz.ntmps123
      go_wp2_with fail
      refine Calls.mono HF.out ?_
      rintro e w1 ⟨rfl, hf⟩
      go_wp2_with fail
      go_ret
      rw [HE.out]; exact Does.same hD (hf.alloc _) rfl rfl
    | some f =>
      have HF := Lib.hid (find_some (n := n) hD hd hg)
      have hpm : pb < w.heap.size ∧ mb < w.heap.size := ⟨lt_of_block hD.head, hD.map.lt⟩
      by_cases hk : k < 0 ∨ (f.bytes.length : Int) < k
      · have HE := Lib.hid (show truncD D n k = (2, D) by unfold truncD; rw [if_neg (by rw [hd]; simp), hg]; dsimp only; rw [if_pos hk])
        have HC := Lib.hid (show checkT f k = 2 by unfold checkT; rw [if_pos hk])
        clear hd hg hk
        go_enter Tryz.func123, Tryz.ntmps123
        go_wp2_with fail
        refine Calls.mono HF.out ?_
        rintro e w1 ⟨rfl, hf⟩
        unfold valF
        have cX := (hf.alloc (.cells #[.string (bs f.bytes), .int .i64 f.synced] 127)).cell cK (fun h => h)
        have hch := (trunc1_h cX f)
        rw [HC.out] at hch
        have HCH := Lib.hid hch
        clear hch
        go_wp2_with fail
        refine Calls.mono HCH.out ?_
        rintro e w2 ⟨rfl, hf2⟩
        go_wp2_with fail
        go_ret
        rw [HE.out]; exact Does.same hD ((hf.alloc _).next hf2) rfl rfl
      · have HC := Lib.hid (show checkT f k = 0 by unfold checkT; rw [if_neg hk])
        have heq : truncD D n k = thenD D (putF D.files ⟨n, f.bytes.take k.toNat, min f.synced k.toNat⟩) := by unfold truncD; rw [if_neg (by rw [hd]; simp), hg]; dsimp only; rw [if_neg hk]
        have HK := Lib.hid (show k.toNat ≤ f.bytes.length ∧ f.bytes.length ≤ 10000000 ∧ ((k.toNat : Nat) : Int) = k by
          have h1 := mem_total (get_mem hg).1
          have h2 := hD.inv.full
          have h3 := hD.inv.most
          omega)
        have hinv := hD.inv.trunc n k
        rw [heq] at hinv ⊢
        have hcap : w.heap.size ≤ w.heap.size := Nat.le_refl _
        by_cases hz : D.fuse = 0
        · have ht : turnD D = (7, { D with dead := true }) := by unfold turnD; rw [if_pos hz]
          have HE := Lib.hid (show thenD D (putF D.files ⟨n, f.bytes.take k.toNat, min f.synced k.toNat⟩) = (7, { D with dead := true }) by unfold thenD; rw [ht]; rfl)
          have HT := Lib.hid ht
          clear hd hk hz ht heq
          go_enter Tryz.func123, Tryz.ntmps123
          go_wp2_with fail
          refine Calls.mono HF.out ?_
          rintro e w1 ⟨rfl, hf⟩
          unfold valF
          have cX := (hf.alloc (.cells #[.string (bs f.bytes), .int .i64 f.synced] 127)).cell cK (fun h => h)
          have hch := (trunc1_h cX f)
          rw [HC.out] at hch
          have HCH := Lib.hid hch
          clear hch cX
          go_wp2_with fail
          refine Calls.mono HCH.out ?_
          rintro e w2 ⟨rfl, hf2⟩
          have hF2 : Fr (fun _ => False) w w2 := (hf.alloc _).next hf2
          have htn := turn_h (hD.grow hF2)
          rw [HT.out] at htn
          have HTN := Lib.hid htn
          clear htn
          go_wp2_with fail
          refine Calls.mono HTN.out ?_
          rintro e w3 ⟨rfl, hD3, hf3⟩
          go_wp2_with fail
          go_ret
          rw [HE.out]; exact ⟨rfl, hD3, (hF2.mono fun _ _ h => h.elim).next hf3⟩
        · have ht : turnD D = (0, (turnD D).2) := by unfold turnD; rw [if_neg hz]
          have HE := Lib.hid (show thenD D (putF D.files ⟨n, f.bytes.take k.toNat, min f.synced k.toNat⟩) = (0, setF (turnD D).2 (putF D.files ⟨n, f.bytes.take k.toNat, min f.synced k.toNat⟩)) by unfold thenD; rw [ht]; rfl)
          have HT := Lib.hid ht
          have HI := Lib.hid (And.intro hinv hg)
          clear hd hk hz ht heq hinv hg
          go_enter Tryz.func123, Tryz.ntmps123
          go_wp2_with fail
          refine Calls.mono HF.out ?_
          rintro e w1 ⟨rfl, hf⟩
          unfold valF
          have cX := (hf.alloc (.cells #[.string (bs f.bytes), .int .i64 f.synced] 127)).cell cK (fun h => h)
          have hch := (trunc1_h cX f)
          rw [HC.out] at hch
          have HCH := Lib.hid hch
          clear hch cX
          go_wp2_with fail
          refine Calls.mono HCH.out ?_
          rintro e w2 ⟨rfl, hf2⟩
          have hF2 : Fr (fun _ => False) w w2 := (hf.alloc _).next hf2
          have hb2 := hf2.keep (block_new w1 (.cells #[.string (bs f.bytes), .int .i64 f.synced] 127)) (fun h => h)
          have htn := turn_h (hD.grow hF2)
          rw [HT.out] at htn
          have HTN := Lib.hid htn
          clear htn
          go_wp2_with fail
          refine Calls.mono HTN.out ?_
          rintro e w3 ⟨rfl, hD3, hf3⟩
          have hnw : ¬ Own pb mb w1.heap.size := fun h => by have := hf.size; rcases h with h | h <;> omega
          have hb3 := hf3.keep hb2 hnw
          have cf0 := cell_of hb3 (i := 0) rfl
          have cf1 := cell_of hb3 (i := 1) rfl
          have hF3 : Fr (Own pb mb) w w3 := (hF2.mono fun _ _ h => h.elim).next hf3
          have cA3 := hF3.cell cA hA
          have cB3 := hF3.cell cB hB
          have cX3 := hF3.cell cK hC
          have hg3 := turned_get HI.out.2
          have hi3 : InvD (setF (turnD D).2 (putF (turnD D).2.files ⟨n, f.bytes.take k.toNat, min f.synced k.toNat⟩)) := by
            have := HI.out.1
            rw [HE.out] at this
            rw [turn_files.1]; exact this
          have hw := trunc2_h (f := f) (k := k.toNat) HK.out.1 HK.out.2.1 (by rw [HK.out.2.2]; exact cX3) hD3 cA3 cB3 hg3 hi3
          rw [turn_files.1] at hw
          have HW := Lib.hid hw
          have HF3 := Lib.hid hF3
          clear hw hi3 hg3 hb3 hb2 hF3 hF2 hf hf2 hf3 hnw hpm hcap
          go_wp2_with fail
          refine Calls.mono HW.out ?_
          rintro e w4 ⟨rfl, hD4, hf4⟩
          go_wp2_with fail
          go_ret
          rw [HE.out]; exact ⟨rfl, hD4, HF3.out.next hf4⟩

set_option maxRecDepth 100000 in
set_option maxHeartbeats 2000000 in
theorem does_rename (hD : DiskAt w pb mb D) {to : List UInt8} (cC : w.cell? ⟨C, 0, none⟩ = some (.string (bs to))) (hC : ¬ Own pb mb C) (hto : to.length ≤ 1000000) (cA : w.cell? ⟨A, 0, none⟩ = some (.pointer (some ⟨pb, 0, none⟩))) (cB : w.cell? ⟨B, 0, none⟩ = some (.string (bs n))) (hA : ¬ Own pb mb A) (hB : ¬ Own pb mb B) :
    Calls Tryz.prog 123 #[.pointer (some ⟨pb, 0, none⟩), .string (bs n), .func (.func 157) #[] #[.pointer (some ⟨C, 0, none⟩)], .func (.func 158) #[] #[.pointer (some ⟨A, 0, none⟩), .pointer (some ⟨B, 0, none⟩), .pointer (some ⟨C, 0, none⟩)]] w (Does pb mb (renameD D n to) w) := by
  cases hd : D.dead with
  | true =>
    have HE := Lib.hid (show renameD D n to = (7, D) by unfold renameD; rw [if_pos hd])
    have HF := Lib.hid (find_dead (n := n) hD hd)
    clear hd
    go_enter Tryz.func123, Tryz.ntmps123
    go_wp2_with fail
    refine Calls.mono HF.out ?_
    rintro e w1 ⟨rfl, hf⟩
    go_wp2_with fail
    go_ret
    rw [HE.out]; exact Does.same hD (hf.alloc _) rfl rfl
  | false =>
    cases hg : getF D.files n with
    | none =>
      have HE := Lib.hid (show renameD D n to = (4, D) by unfold renameD; rw [if_neg (by rw [hd]; simp), hg])
      have HF := Lib.hid (find_none (n := n) hD hd hg)
      clear hd hg
      go_enter Tryz.func123, Tryz.ntmps123
      go_wp2_with fail
      refine Calls.mono HF.out ?_
      rintro e w1 ⟨rfl, hf⟩
      go_wp2_with fail
      go_ret
      rw [HE.out]; exact Does.same hD (hf.alloc _) rfl rfl
    | some f =>
      have HF := Lib.hid (find_some (n := n) hD hd hg)
      have hpm : pb < w.heap.size ∧ mb < w.heap.size := ⟨lt_of_block hD.head, hD.map.lt⟩
      by_cases hk : nameOK to = false
      · have HE := Lib.hid (show renameD D n to = (3, D) by unfold renameD; rw [if_neg (by rw [hd]; simp), hg]; dsimp only; rw [if_pos hk])
        have HC := Lib.hid (show checkN to = 3 by unfold checkN; rw [if_pos hk])
        clear hd hg hk
        go_enter Tryz.func123, Tryz.ntmps123
        go_wp2_with fail
        refine Calls.mono HF.out ?_
        rintro e w1 ⟨rfl, hf⟩
        unfold valF
        have cX := (hf.alloc (.cells #[.string (bs f.bytes), .int .i64 f.synced] 127)).cell cC (fun h => h)
        have hch := (rename1_h cX hto (.string (bs f.bytes)) (.int .i64 f.synced))
        rw [HC.out] at hch
        have HCH := Lib.hid hch
        clear hch
        go_wp2_with fail
        refine Calls.mono HCH.out ?_
        rintro e w2 ⟨rfl, hf2⟩
        go_wp2_with fail
        go_ret
        rw [HE.out]; exact Does.same hD ((hf.alloc _).next hf2) rfl rfl
      · have HC := Lib.hid (show checkN to = 0 by unfold checkN; rw [if_neg hk])
        have heq : renameD D n to = thenD D (putF (delF D.files n) ⟨to, f.bytes, f.synced⟩) := by unfold renameD; rw [if_neg (by rw [hd]; simp), hg]; dsimp only; rw [if_neg hk]
        have hinv := hD.inv.rename n to
        rw [heq] at hinv ⊢
        have hcap : w.heap.size ≤ w.heap.size := Nat.le_refl _
        by_cases hz : D.fuse = 0
        · have ht : turnD D = (7, { D with dead := true }) := by unfold turnD; rw [if_pos hz]
          have HE := Lib.hid (show thenD D (putF (delF D.files n) ⟨to, f.bytes, f.synced⟩) = (7, { D with dead := true }) by unfold thenD; rw [ht]; rfl)
          have HT := Lib.hid ht
          clear hd hk hz ht heq
          go_enter Tryz.func123, Tryz.ntmps123
          go_wp2_with fail
          refine Calls.mono HF.out ?_
          rintro e w1 ⟨rfl, hf⟩
          unfold valF
          have cX := (hf.alloc (.cells #[.string (bs f.bytes), .int .i64 f.synced] 127)).cell cC (fun h => h)
          have hch := (rename1_h cX hto (.string (bs f.bytes)) (.int .i64 f.synced))
          rw [HC.out] at hch
          have HCH := Lib.hid hch
          clear hch cX
          go_wp2_with fail
          refine Calls.mono HCH.out ?_
          rintro e w2 ⟨rfl, hf2⟩
          have hF2 : Fr (fun _ => False) w w2 := (hf.alloc _).next hf2
          have htn := turn_h (hD.grow hF2)
          rw [HT.out] at htn
          have HTN := Lib.hid htn
          clear htn
          go_wp2_with fail
          refine Calls.mono HTN.out ?_
          rintro e w3 ⟨rfl, hD3, hf3⟩
          go_wp2_with fail
          go_ret
          rw [HE.out]; exact ⟨rfl, hD3, (hF2.mono fun _ _ h => h.elim).next hf3⟩
        · have ht : turnD D = (0, (turnD D).2) := by unfold turnD; rw [if_neg hz]
          have HE := Lib.hid (show thenD D (putF (delF D.files n) ⟨to, f.bytes, f.synced⟩) = (0, setF (turnD D).2 (putF (delF D.files n) ⟨to, f.bytes, f.synced⟩)) by unfold thenD; rw [ht]; rfl)
          have HT := Lib.hid ht
          have HI := Lib.hid (And.intro hinv hg)
          clear hd hk hz ht heq hinv hg
          go_enter Tryz.func123, Tryz.ntmps123
          go_wp2_with fail
          refine Calls.mono HF.out ?_
          rintro e w1 ⟨rfl, hf⟩
          unfold valF
          have cX := (hf.alloc (.cells #[.string (bs f.bytes), .int .i64 f.synced] 127)).cell cC (fun h => h)
          have hch := (rename1_h cX hto (.string (bs f.bytes)) (.int .i64 f.synced))
          rw [HC.out] at hch
          have HCH := Lib.hid hch
          clear hch cX
          go_wp2_with fail
          refine Calls.mono HCH.out ?_
          rintro e w2 ⟨rfl, hf2⟩
          have hF2 : Fr (fun _ => False) w w2 := (hf.alloc _).next hf2
          have hb2 := hf2.keep (block_new w1 (.cells #[.string (bs f.bytes), .int .i64 f.synced] 127)) (fun h => h)
          have htn := turn_h (hD.grow hF2)
          rw [HT.out] at htn
          have HTN := Lib.hid htn
          clear htn
          go_wp2_with fail
          refine Calls.mono HTN.out ?_
          rintro e w3 ⟨rfl, hD3, hf3⟩
          have hnw : ¬ Own pb mb w1.heap.size := fun h => by have := hf.size; rcases h with h | h <;> omega
          have hb3 := hf3.keep hb2 hnw
          have cf0 := cell_of hb3 (i := 0) rfl
          have cf1 := cell_of hb3 (i := 1) rfl
          have hF3 : Fr (Own pb mb) w w3 := (hF2.mono fun _ _ h => h.elim).next hf3
          have cA3 := hF3.cell cA hA
          have cB3 := hF3.cell cB hB
          have cX3 := hF3.cell cC hC
          have hg3 := turned_get HI.out.2
          have hi3 : InvD (setF (turnD D).2 (putF (delF (turnD D).2.files n) ⟨to, f.bytes, f.synced⟩)) := by
            have := HI.out.1
            rw [HE.out] at this
            rw [turn_files.1]; exact this
          have hw := rename2_h (f := f) hD3 cA3 cB3 cX3 hA hC hg3 hi3
          rw [turn_files.1] at hw
          have HW := Lib.hid hw
          have HF3 := Lib.hid hF3
          clear hw hi3 hg3 hb3 hb2 hF3 hF2 hf hf2 hf3 hnw hpm hcap
          go_wp2_with fail
          refine Calls.mono HW.out ?_
          rintro e w4 ⟨rfl, hD4, hf4⟩
          go_wp2_with fail
          go_ret
          rw [HE.out]; exact ⟨rfl, hD4, HF3.out.next hf4⟩

set_option maxRecDepth 100000 in
set_option maxHeartbeats 2000000 in
theorem does_delete (hD : DiskAt w pb mb D) (cA : w.cell? ⟨A, 0, none⟩ = some (.pointer (some ⟨pb, 0, none⟩))) (cB : w.cell? ⟨B, 0, none⟩ = some (.string (bs n))) (hA : ¬ Own pb mb A) (hB : ¬ Own pb mb B) :
    Calls Tryz.prog 123 #[.pointer (some ⟨pb, 0, none⟩), .string (bs n), .func (.func 124) #[] #[], .func (.func 125) #[] #[.pointer (some ⟨A, 0, none⟩), .pointer (some ⟨B, 0, none⟩)]] w (Does pb mb (deleteD D n) w) := by
  cases hd : D.dead with
  | true =>
    have HE := Lib.hid (show deleteD D n = (7, D) by unfold deleteD; rw [if_pos hd])
    have HF := Lib.hid (find_dead (n := n) hD hd)
    clear hd
    go_enter Tryz.func123, Tryz.ntmps123
    go_wp2_with fail
    refine Calls.mono HF.out ?_
    rintro e w1 ⟨rfl, hf⟩
    go_wp2_with fail
    go_ret
    rw [HE.out]; exact Does.same hD (hf.alloc _) rfl rfl
  | false =>
    cases hg : getF D.files n with
    | none =>
      have HE := Lib.hid (show deleteD D n = (4, D) by unfold deleteD; rw [if_neg (by rw [hd]; simp), hg])
      have HF := Lib.hid (find_none (n := n) hD hd hg)
      clear hd hg
      go_enter Tryz.func123, Tryz.ntmps123
      go_wp2_with fail
      refine Calls.mono HF.out ?_
      rintro e w1 ⟨rfl, hf⟩
      go_wp2_with fail
      go_ret
      rw [HE.out]; exact Does.same hD (hf.alloc _) rfl rfl
    | some f =>
      have HF := Lib.hid (find_some (n := n) hD hd hg)
      have hpm : pb < w.heap.size ∧ mb < w.heap.size := ⟨lt_of_block hD.head, hD.map.lt⟩
      have heq : deleteD D n = thenD D (delF D.files n) := by unfold deleteD; rw [if_neg (by rw [hd]; simp), hg]
      have hinv := hD.inv.delete n
      rw [heq] at hinv ⊢
      have hcap : w.heap.size ≤ w.heap.size := Nat.le_refl _
      by_cases hz : D.fuse = 0
      · have ht : turnD D = (7, { D with dead := true }) := by unfold turnD; rw [if_pos hz]
        have HE := Lib.hid (show thenD D (delF D.files n) = (7, { D with dead := true }) by unfold thenD; rw [ht]; rfl)
        have HT := Lib.hid ht
        clear hd hz ht heq
        go_enter Tryz.func123, Tryz.ntmps123
        go_wp2_with fail
        refine Calls.mono HF.out ?_
        rintro e w1 ⟨rfl, hf⟩
        unfold valF
        have HCH := Lib.hid (fine_h (w := w1.alloc (.cells #[.string (bs f.bytes), .int .i64 f.synced] 127)) (.string (bs f.bytes)) (.int .i64 f.synced))
        go_wp2_with fail
        refine Calls.mono HCH.out ?_
        rintro e w2 ⟨rfl, hf2⟩
        have hF2 : Fr (fun _ => False) w w2 := (hf.alloc _).next hf2
        have htn := turn_h (hD.grow hF2)
        rw [HT.out] at htn
        have HTN := Lib.hid htn
        clear htn
        go_wp2_with fail
        refine Calls.mono HTN.out ?_
        rintro e w3 ⟨rfl, hD3, hf3⟩
        go_wp2_with fail
        go_ret
        rw [HE.out]; exact ⟨rfl, hD3, (hF2.mono fun _ _ h => h.elim).next hf3⟩
      · have ht : turnD D = (0, (turnD D).2) := by unfold turnD; rw [if_neg hz]
        have HE := Lib.hid (show thenD D (delF D.files n) = (0, setF (turnD D).2 (delF D.files n)) by unfold thenD; rw [ht]; rfl)
        have HT := Lib.hid ht
        have HI := Lib.hid (And.intro hinv hg)
        clear hd hz ht heq hinv hg
        go_enter Tryz.func123, Tryz.ntmps123
        go_wp2_with fail
        refine Calls.mono HF.out ?_
        rintro e w1 ⟨rfl, hf⟩
        unfold valF
        have HCH := Lib.hid (fine_h (w := w1.alloc (.cells #[.string (bs f.bytes), .int .i64 f.synced] 127)) (.string (bs f.bytes)) (.int .i64 f.synced))
        go_wp2_with fail
        refine Calls.mono HCH.out ?_
        rintro e w2 ⟨rfl, hf2⟩
        have hF2 : Fr (fun _ => False) w w2 := (hf.alloc _).next hf2
        have hb2 := hf2.keep (block_new w1 (.cells #[.string (bs f.bytes), .int .i64 f.synced] 127)) (fun h => h)
        have htn := turn_h (hD.grow hF2)
        rw [HT.out] at htn
        have HTN := Lib.hid htn
        clear htn
        go_wp2_with fail
        refine Calls.mono HTN.out ?_
        rintro e w3 ⟨rfl, hD3, hf3⟩
        have hnw : ¬ Own pb mb w1.heap.size := fun h => by have := hf.size; rcases h with h | h <;> omega
        have hb3 := hf3.keep hb2 hnw
        have cf0 := cell_of hb3 (i := 0) rfl
        have cf1 := cell_of hb3 (i := 1) rfl
        have hF3 : Fr (Own pb mb) w w3 := (hF2.mono fun _ _ h => h.elim).next hf3
        have cA3 := hF3.cell cA hA
        have cB3 := hF3.cell cB hB
        have hg3 := turned_get HI.out.2
        have hi3 : InvD (setF (turnD D).2 (delF (turnD D).2.files n)) := by
          have := HI.out.1
          rw [HE.out] at this
          rw [turn_files.1]; exact this
        have hw := del1_h (f := f) hD3 cA3 cB3 hg3 hi3 (.string (bs f.bytes)) (.int .i64 f.synced)
        rw [turn_files.1] at hw
        have HW := Lib.hid hw
        have HF3 := Lib.hid hF3
        clear hw hi3 hg3 hb3 hb2 hF3 hF2 hf hf2 hf3 hnw hpm hcap
        go_wp2_with fail
        refine Calls.mono HW.out ?_
        rintro e w4 ⟨rfl, hD4, hf4⟩
        go_wp2_with fail
        go_ret
        rw [HE.out]; exact ⟨rfl, hD4, HF3.out.next hf4⟩
end
end Go.Proofs.YtgmghopcppniaaaGreatDoor
