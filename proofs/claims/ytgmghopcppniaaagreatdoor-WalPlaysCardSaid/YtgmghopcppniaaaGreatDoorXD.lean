/- The reference's Reset: walked. -/
import Derived.Test.YtgmghopcppniaaaGreatDoorXA
import Derived.Test.YtgmghopcppniaaaGreatDoorLF
import Derived.Test.YtgmghopcppniaaaGreatDoorFH
import Derived.BigQuiet
namespace Go.Proofs.YtgmghopcppniaaaGreatDoor
open Go.RowKit Go.Lib

/-! ### what the reference finds on the disk of a log -/
section
variable {L : LogD} {D : DiskD} {R : Nat → List RecD} {b : Nat}
theorem LogOK.numsI (h : LogOK L D R b) : numsD D.files = (L.pre.map (·.num) ++ [L.last.num]).map fun n => ((n : Nat) : Int) := h.held.at'.nums
theorem LogOK.numsLen (h : LogOK L D R b) : (numsD D.files).length = L.pre.length + 1 := by rw [h.numsI]; simp
theorem LogOK.lastI (h : LogOK L D R b) : (numsD D.files)[L.pre.length]? = some ((L.last.num : Nat) : Int) := by rw [h.numsI]; simp
theorem LogOK.readLast (h : LogOK L D R b) : readD D (nameW L.last.num) = (recsL (R L.last.num), 0) := by
 have h1 := h.held.at'.last
 rw [List.append_nil] at h1
 exact read_file' h.held.alive h1
theorem LogOK.lastSize (h : LogOK L D R b) : (recsL (R L.last.num)).length = L.last.size := (congrArg SegD.size h.held.last).symm
theorem LogOK.lastLe (h : LogOK L D R b) : (L.last.size : Int) ≤ D.most := by
 have h1 := h.held.at'.bytes (List.mem_append_right _ (List.mem_singleton.2 rfl))
 have h2 := h.held.at'.inv.full
 rw [h.lastSize] at h1
 omega
end
theorem layL_st {M : LogD} {D : DiskD} {rs : List RecD} : (layL M D rs).2.1.st = M.st := by unfold layL; split <;> rfl
theorem layD_L {M : LogD} {D : DiskD} {rs : List RecD} : layD D (nameW M.last.num) (recsL rs) = ((layL M D rs).1, (layL M D rs).2.2) := by
 unfold layD layL
 split <;> rfl
theorem recs_cons (r : RecD) (l : List RecD) : recsL (r :: l) = frameL (payL r) ++ recsL l := rfl
section
variable {w : World} {S : Nat → Prop} {rl rb : Nat} {lv le : Value} {L : LogD} {D : DiskD}
theorem RWal.back {W w' : World} {lv2 le2 : Value} {st2 : StD} {D2 : DiskD} (h2 : RWal w' (Plus S W w') rl rb lv2 le2 st2 D2) (hS : ∀ k, S k → k < w.heap.size) (hf : Fr (fun _ => False) w W) (hz : W.heap.size ≤ w'.heap.size) : RWal w' (Plus S w w') rl rb lv2 le2 st2 D2 := by
 have hs := hf.size
 refine h2.mono (fun k hk => ?_) (Plus.lt hS (by omega))
 rcases hk with hk | ⟨hk, hk2⟩
 ·exact .inl hk
 ·exact .inr ⟨by omega, hk2⟩
theorem Fr.back {W w' : World} (hf : Fr (fun _ => False) w W) (h : Fr (OwnR rb lv) W w') : Fr (RAll rl rb lv) w w' :=
 (hf.mono fun _ _ h => h.elim).next (h.mono fun _ _ h => .inr h)
def RActPost (p : Int × (LogD × DiskD)) (S : Nat → Prop) (rl rb : Nat) (lv : Value) (w : World) (e : Ending) (w' : World) : Prop := RPost (p.1, (p.2.1.st, p.2.2)) S rl rb lv w e w'
set_option maxRecDepth 100000 in
set_option maxHeartbeats 16000000 in
theorem rreset_h (h : RWal w S rl rb lv le L.st D) (hst : I64 L.st.t ∧ I64 L.st.v) (_hm : D.most ≤ 100000) (hs : D.dead = true ∨ ∃ R b, LogOK L D R b) : Calls Tryz.prog 95 #[.pointer (some ⟨rl, 0, none⟩)] w (RActPost (resetL L D) S rl rb lv w) := by
 have HW := Lib.hid h
 obtain ⟨c0, _, _, _⟩ := h.cells
 obtain ⟨_, _, _, d3⟩ := h.disk.cells
 rcases hs with hd | ⟨R, b, hOK⟩
 ·have HE : Hid (resetL L D = (7, (L, D))) := by
   show _ = _
   unfold resetL layL
   have hap : appendD D (nameW L.last.num) (recsL (resetRs L)) = (7, D) := by unfold appendD; rw [if_pos hd]
   rw [hap, if_pos (by simp), if_pos (by simp)]
  rw [hd] at d3
  clear h hd hst
  go_enter Tryz.func95, Tryz.ntmps95
  go_wp2_with fail
  go_ret
  unfold RActPost
  rw [HE.out]
  exact ⟨rfl, ⟨lv, le, HW.out.plus HW.out.lt (Nat.le_refl _)⟩, Fr.refl _ _⟩
 ·have hd := hOK.held.alive
  have HOK := Lib.hid hOK
  have HNU := Lib.hid (rnumbers_h h)
  unfold NumbPost at HNU
  rw [hOK.numsLen] at HNU
  have hpl := hOK.many
  have hlast := hOK.lastI
  have hrd := hOK.readLast
  have hsz := hOK.lastSize
  have hle := hOK.lastLe
  have hrg := hOK.held.at'.rangeN
  obtain ⟨n, hn⟩ : ∃ n, L.last.num = n := ⟨_, rfl⟩
  rw [hn] at hlast hrd hsz hrg
  obtain ⟨B, hB⟩ : ∃ B, recsL (R n) = B := ⟨_, rfl⟩
  rw [hB] at hrd hsz
  have HNM : Hid (∀ W : World, Calls Tryz.prog 89 #[.int .i64 (n : Int)] W fun e w' => e = .returned (.string (bs (nameW n))) ∧ Fr (fun _ => False) W w') := Lib.hid (fun W => by rw [← nameX_is hrg.1]; exact rwname_h (by omega))
  have HRD : Hid (∀ (W : World) (_ : Fr (fun _ => False) w W), Calls Tryz.prog 88 #[.pointer (some ⟨rb, 0, none⟩), .string (bs (nameW n))] W fun e w' => e = .returned (.tuple #[.string (bs B), .int .i64 0]) ∧ Fr (fun _ => False) W w') := Lib.hid (fun W hq => by have h1 := rread_h ((HW.out.quiet hq).disk) (nameW n); rw [hrd] at h1; exact h1)
  have z3 := i64_small (n := 0) (by decide) (by decide)
  obtain ⟨F3, hF3⟩ : ∃ F, frameL (intL 3) = F := ⟨_, rfl⟩
  obtain ⟨FH, hFH⟩ : ∃ F, frameL (hardTx L.st.t L.st.v) = F := ⟨_, rfl⟩
  have hl3 : (intL 3).length ≤ 10 := intL_len (i64_small (by decide) (by decide))
  have hlh := hard_len hst.1 hst.2
  have h3l : F3.length ≤ 18 := by rw [← hF3, frame_len]; omega
  have hhl : FH.length ≤ 38 := by rw [← hFH, frame_len]; omega
  have HR3 := Lib.hid (fun W : World => rfr_h (w := W) (k := 3) (t := 0) (v := 0) (e := zeroE) (f := F3) z3 z3 z3 z3 z3 (by decide) (by show (intL 3).length ≤ 65536; omega) (by rw [← hF3]; rfl))
  have HRH := Lib.hid (fun W : World => rfr_h (w := W) (k := 1) (t := L.st.t) (v := L.st.v) (e := zeroE) (f := FH) hst.1 hst.2 z3 z3 z3 (by decide) (by show (hardTx L.st.t L.st.v).length ≤ 65536; omega) (by rw [← hFH]; rfl))
  unfold recV zeroE at HR3 HRH
  have HLY := Lib.hid (fun (W : World) (hq : Fr (fun _ => False) w W) (x : Str) (hx : x.length ≤ 1000000) => rlay_h (HW.out.quiet hq) (nameW n) x (by
   have := nameW_ok (n := n) hrg.2
   unfold nameOK at this
   simp only [Bool.and_eq_true, decide_eq_true_eq] at this
   omega) hx)
  have HRS : Hid (recsL (resetRs L) = if B = [] then FH ++ F3 else F3) := by
   show _ = _
   unfold resetRs layRs
   by_cases h0 : L.last.size = 0
   ·rw [if_pos (.inr h0), if_pos (List.length_eq_zero_iff.1 (by omega)), recs_cons, recs_cons]
    show frameL (hardTx _ _) ++ (frameL (intL 3) ++ []) = _
    rw [hFH, hF3, List.append_nil]
   ·rw [if_neg (by simp [h0]), if_neg (fun e => h0 (by rw [← hsz, e]; rfl)), recs_cons]
    show frameL (intL 3) ++ [] = _
    rw [hF3, List.append_nil]
  have HLL := Lib.hid (layD_L (M := L) (D := D) (rs := resetRs L))
  have HLS := Lib.hid (layL_st (M := L) (D := D) (rs := resetRs L))
  have HFO := Lib.hid (resetRs_fold L)
  have HRE := Lib.hid (show resetL L D = if (layL L D (resetRs L)).1 ≠ 0 then layL L D (resetRs L) else (0, (foldR (layL L D (resetRs L)).2.1 (resetRs L), (layL L D (resetRs L)).2.2)) from rfl)
  rw [hn] at HLL
  obtain ⟨⟨c, L2, D2⟩, hp⟩ : ∃ q, layL L D (resetRs L) = q := ⟨_, rfl⟩
  rw [hp] at HLL HLS HRE
  dsimp only at HLL HLS HRE
  obtain ⟨pl, hpe⟩ : ∃ p, L.pre.length = p := ⟨_, rfl⟩
  rw [hpe] at hlast HNU hpl
  obtain ⟨t, ht⟩ : ∃ t, L.st.t = t := ⟨_, rfl⟩
  obtain ⟨v, hv⟩ : ∃ t, L.st.v = t := ⟨_, rfl⟩
  rw [ht, hv] at HRH
  have HTV := Lib.hid (And.intro ht hv)
  have HLA := Lib.hid hlast
  have i9 : IntKind.i64.wrap (((pl + 1 : Nat) : Int) - 1) = (pl : Int) := by rw [IntWalk.i64_in _ (by omega)]; omega
  rw [hd] at d3
  have HSZ := Lib.hid (And.intro h3l hhl)
  have zF : (bs F3).size = F3.length := rfl
  have zH : (bs FH).size = FH.length := rfl
  have happ : bs FH ++ bs F3 = bs (FH ++ F3) := bs_append FH F3
  clear h hst hOK hlast hrd hsz hle hrg hB hF3 hFH hl3 hlh z3 hp hpe hn ht hv hd
  go_enter Tryz.func95, Tryz.ntmps95
  go_wp2_with fail
  refine Calls.mono HNU.out ?_
  rintro e w2 ⟨v2, rfl, hrow2, hf2⟩
  obtain ⟨na, nc, rfl⟩ : ∃ a c, v2 = .slice a (pl + 1) c := ownsRow_shape hrow2
  obtain ⟨g, off, rfl, hc⟩ := (SRow.of_owns hrow2).cell (by omega)
  have c5 := hc pl (.int .i64 (n : Int)) (by rw [List.getElem?_map, HLA.out]; rfl)
  have HF2 := Lib.hid hf2
  clear hrow2 hf2 hc HNU
  go_wp2_with fail
  refine Calls.mono (HNM.out _) ?_
  rintro e w3 ⟨rfl, hf3⟩
  have HF3 := Lib.hid (HF2.out.next hf3)
  clear hf3
  go_wp2_with fail
  refine Calls.mono (HR3.out _) ?_
  rintro e w4 ⟨rfl, hf4⟩
  have HF4 := Lib.hid (HF3.out.next hf4)
  have e0 := HF4.out.cell c0 (fun h => h)
  clear hf4
  go_wp2_with fail
  refine Calls.mono (HRD.out _ HF4.out) ?_
  rintro e w5 ⟨rfl, hf5⟩
  have HF5 := Lib.hid (HF4.out.next hf5)
  clear hf5 e0
  by_cases hB0 : B = []
  ·have HB := Lib.hid hB0
   have q0 : ((bs B).toList == []) = true := by rw [bs_toList, hB0]; rfl
   have q1 : (bs B).toList.isEmpty = true := by rw [bs_toList, hB0]; rfl
   obtain ⟨_, k1, k2, _⟩ := (HW.out.quiet HF5.out).cells
   rw [HTV.out.1] at k1
   rw [HTV.out.2] at k2
   clear hB0
   go_wp2_with fail
   refine Calls.mono (HRH.out _) ?_
   rintro e w6 ⟨rfl, hf6⟩
   have HF6 := Lib.hid (HF5.out.next hf6)
   clear hf6 k1 k2
   have HLX := Lib.hid (HLY.out _ HF6.out (FH ++ F3) (by have := HSZ.out; rw [List.length_append]; omega))
   have HRX : Hid (recsL (resetRs L) = FH ++ F3) := by show _ = _; rw [HRS.out]; exact if_pos HB.out
   have HQ : Hid (layD D (nameW n) (FH ++ F3) = (c, D2)) := by show _ = _; rw [← HRX.out]; exact HLL.out
   unfold RLayPost at HLX
   rw [HQ.out] at HLX
   go_wp2_with fail
   refine Calls.mono HLX.out ?_
   rintro e w7 ⟨rfl, ⟨lv7, hw7⟩, hf7⟩
   have HF7 : Hid (Fr (RAll rl rb lv) w w7) := HF6.out.back hf7
   have HW7 := Lib.hid (hw7.back HW.out.lt HF6.out hf7.size)
   clear hw7 hf7 HLX
   by_cases hc : c = 0
   ·have r1 : (c != 0) = false := by simpa using hc
    obtain ⟨_, _, _, k3⟩ := HW7.out.cells
    have g3 := free_of 3 HW7.out.head
    have hl7 := lt_of_block HW7.out.head
    have HC := Lib.hid hc
    clear hc
    go_wp2_with fail
    go_ret
    unfold RActPost
    rw [HRE.out, if_neg (by rw [HC.out]; simp)]
    refine ⟨rfl, ⟨lv7, .slice none 0 0, ?_⟩, ?_⟩
    ·have h1 := HW7.out.setN
     have h2 : (foldR L2 (resetRs L)).st = ⟨L.st.t, L.st.v, []⟩ := by
      rw [(foldR_num L2 (resetRs L)).2.2.2, HLS.out, HFO.out.1]
     show RWal _ _ rl rb lv7 _ (foldR L2 (resetRs L)).st D2
     rw [h2]
     have hz : (w7.setCell ⟨rl, 3, none⟩ (.slice none 0 0)).heap.size = w7.heap.size := by simp
     exact h1.mono (fun k hk => by unfold Plus at hk ⊢; rw [hz]; exact hk) (fun k hk => by rw [hz]; unfold Plus at hk; rw [hz] at hk; exact HW7.out.lt k hk)
    ·exact HF7.out.setCell (p := ⟨rl, 3, none⟩) (.inl (.inl rfl)) _
   ·have r1 : (c != 0) = true := by simpa using hc
    have HC := Lib.hid hc
    clear hc
    go_wp2_with fail
    go_ret
    unfold RActPost
    rw [HRE.out, if_pos HC.out]
    exact ⟨rfl, ⟨lv7, le, by show RWal _ _ rl rb lv7 le L2.st D2; rw [HLS.out]; exact HW7.out⟩, HF7.out⟩
  ·have HB := Lib.hid hB0
   have q0 : ((bs B).toList == []) = false := by rw [bs_toList]; simpa using hB0
   have q1 : (bs B).toList.isEmpty = false := by rw [bs_toList]; simpa using hB0
   have q2 : ¬ (bs B).toList = [] := by rw [bs_toList]; exact hB0
   have q3 : decide (bs B = ⟨#[]⟩) = false := decide_eq_false fun e => hB0 (bs_inj e)
   clear hB0
   have HLX := Lib.hid (HLY.out _ HF5.out (F3) (by have := HSZ.out; omega))
   have HRX : Hid (recsL (resetRs L) = F3) := by show _ = _; rw [HRS.out]; exact if_neg HB.out
   have HQ : Hid (layD D (nameW n) (F3) = (c, D2)) := by show _ = _; rw [← HRX.out]; exact HLL.out
   unfold RLayPost at HLX
   rw [HQ.out] at HLX
   go_wp2_with fail
   refine Calls.mono HLX.out ?_
   rintro e w7 ⟨rfl, ⟨lv7, hw7⟩, hf7⟩
   have HF7 : Hid (Fr (RAll rl rb lv) w w7) := HF5.out.back hf7
   have HW7 := Lib.hid (hw7.back HW.out.lt HF5.out hf7.size)
   clear hw7 hf7 HLX
   by_cases hc : c = 0
   ·have r1 : (c != 0) = false := by simpa using hc
    obtain ⟨_, _, _, k3⟩ := HW7.out.cells
    have g3 := free_of 3 HW7.out.head
    have hl7 := lt_of_block HW7.out.head
    have HC := Lib.hid hc
    clear hc
    go_wp2_with fail
    go_ret
    unfold RActPost
    rw [HRE.out, if_neg (by rw [HC.out]; simp)]
    refine ⟨rfl, ⟨lv7, .slice none 0 0, ?_⟩, ?_⟩
    ·have h1 := HW7.out.setN
     have h2 : (foldR L2 (resetRs L)).st = ⟨L.st.t, L.st.v, []⟩ := by
      rw [(foldR_num L2 (resetRs L)).2.2.2, HLS.out, HFO.out.1]
     show RWal _ _ rl rb lv7 _ (foldR L2 (resetRs L)).st D2
     rw [h2]
     have hz : (w7.setCell ⟨rl, 3, none⟩ (.slice none 0 0)).heap.size = w7.heap.size := by simp
     exact h1.mono (fun k hk => by unfold Plus at hk ⊢; rw [hz]; exact hk) (fun k hk => by rw [hz]; unfold Plus at hk; rw [hz] at hk; exact HW7.out.lt k hk)
    ·exact HF7.out.setCell (p := ⟨rl, 3, none⟩) (.inl (.inl rfl)) _
   ·have r1 : (c != 0) = true := by simpa using hc
    have HC := Lib.hid hc
    clear hc
    go_wp2_with fail
    go_ret
    unfold RActPost
    rw [HRE.out, if_pos HC.out]
    exact ⟨rfl, ⟨lv7, le, by show RWal _ _ rl rb lv7 le L2.st D2; rw [HLS.out]; exact HW7.out⟩, HF7.out⟩
end
end Go.Proofs.YtgmghopcppniaaaGreatDoor
