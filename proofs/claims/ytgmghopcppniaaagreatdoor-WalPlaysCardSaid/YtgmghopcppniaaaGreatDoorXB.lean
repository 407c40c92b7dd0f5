/- wal's laws: have two disks the same files: walked. -/
import Derived.Test.YtgmghopcppniaaaGreatDoorXA
import Derived.BigQuiet
namespace Go.Proofs.YtgmghopcppniaaaGreatDoor
open Go.RowKit Go.Lib

section
variable {w : World} {pb mb rb : Nat} {lv : Value} {D : DiskD}
set_option maxRecDepth 100000 in
set_option maxHeartbeats 16000000 in
theorem sames_h (hD : DiskAt w pb mb D) (hR : RefAt w rb lv D) : Calls Tryz.prog 36 #[.pointer (some ⟨pb, 0, none⟩), .pointer (some ⟨rb, 0, none⟩)] w fun e w' => e = .returned (.bool true) ∧ Fr (fun _ => False) w w' := by
 have HD := Lib.hid hD
 have HR := Lib.hid hR
 have HL := Lib.hid (list_h hD)
 unfold ListPost at HL
 have hl40 := hR.inv.many
 obtain ⟨ra, rcap, rfl, hn1, hn2, hfc⟩ := hR.slice
 obtain ⟨d0, _, _, d3⟩ := hR.cells
 have HFC := Lib.hid hfc
 have hnl : (names D.files).length = D.files.length := List.length_map _
 rw [hnl] at HL
 clear hD hR hfc hnl
 go_enter Tryz.func36, Tryz.ntmps36
 go_wp2_with fail
 refine Calls.mono HL.out ?_
 rintro e w2 ⟨v2, rfl, hrow2, hf2⟩
 obtain ⟨la, lc, rfl⟩ : ∃ a c, v2 = .slice a D.files.length c := ownsRow_shape hrow2
 have HF2 := Lib.hid hf2
 have HQ : Hid (SRow w2 (fun _ => True) 1 (.slice la D.files.length lc) D.files.length ((names D.files).map encS)) := Lib.hid ((SRow.of_owns hrow2).mono fun _ _ => trivial)
 have d0' := hf2.cell d0 (fun h => h)
 have q0 : ((D.files.length : Int) != (D.files.length : Int)) = false := by simp
 clear hrow2 hf2 HL d0
 go_wp2_with fail
 go_loopg [6] D.files.length (fun j v6 wr => ∃ i : Nat, i + j = D.files.length ∧ v6 = .int .i64 (i : Int) ∧ Hid (Fr (fun _ => False) w2 wr))
 case atStart => exact ⟨0, by omega, rfl, Lib.hid (Fr.refl _ _)⟩
 case round =>
  obtain ⟨i, hi, rfl, HK⟩ := hrel
  have HI := Lib.hid hi
  clear hi
  by_cases hlt : i < D.files.length
  ·have hlti : (i : Int) < (D.files.length : Int) := by omega
   obtain ⟨f, hf⟩ : ∃ f, D.files[i]? = some f := ⟨_, List.getElem?_eq_getElem hlt⟩
   obtain ⟨g, off, rfl, hc⟩ := (HQ.out.fr HK.out (fun _ _ h => h)).cell (by omega)
   have c0 := hc i (.string (bs f.name)) (by unfold names; rw [List.getElem?_map, List.getElem?_map, hf]; rfl)
   have HRE := Lib.hid (fun (W : World) (hq : Fr (fun _ => False) w2 W) => read_h (HD.out.grow (HF2.out.next hq)) f.name)
   obtain ⟨gr, rfl, hgr, r0, r1, _⟩ := HFC.out i f hf
   have hin : f ∈ D.files := List.mem_of_getElem? hf
   have HG := Lib.hid (get_of_mem HD.out.inv.sorted hin rfl)
   obtain ⟨sb, hsb⟩ : ∃ q, readD D f.name = q := ⟨_, rfl⟩
   rw [hsb] at HRE
   obtain ⟨sb, sc⟩ := sb
   have HSB := Lib.hid hsb
   clear hc hf hin hsb
   go_wp2_with fail
   refine Calls.mono (HRE.out _ HK.out) ?_
   rintro e w3 ⟨rfl, hf3⟩
   have HF3 := Lib.hid (HK.out.next hf3)
   have HFW := Lib.hid (HF2.out.next HF3.out)
   have c3 := hf3.cell c0 (fun h => h)
   have x0 := HFW.out.cell r0 (fun h => h)
   have x1 := HFW.out.cell r1 (fun h => h)
   have e0 := HF3.out.cell d0' (fun h => h)
   have e3 := HFW.out.cell d3 (fun h => h)
   clear hf3 c0 r0 r1
   go_upto_region 8 with fail
   go_cut [65] (fun s65 wx => s65 = .bool false ∧ Hid (Fr (fun _ => False) w2 wx))
   case first =>
    cases hd : D.dead with
    | true =>
     rw [hd] at e3
     go_big_quiet (fail)
     go_wp2_with fail
     go_meet
     exact ⟨rfl, Lib.hid (HF3.out.drewN _)⟩
    | false =>
     rw [hd] at e3
     have hrd : readD D f.name = (f.bytes, 0) := read_file' hd HG.out
     rw [HSB.out] at hrd
     have hrd2 : sb = f.bytes := congrArg Prod.fst hrd
     have qs : ((bs sb).toList == (bs f.bytes).toList) = true := by rw [hrd2]; simp
     clear hd hrd hrd2
     go_big_quiet (fail)
     go_wp2_with fail
     go_meet
     exact ⟨rfl, Lib.hid (HF3.out.drewN _)⟩
   case rest =>
   obtain ⟨rfl, HX⟩ := hcut
   go_wp2_with fail
   go_roundg (D.files.length - (i + 1))
   case measure => have := HI.out; omega
   case rel => exact ⟨i + 1, by omega, by go_num, HX⟩
  ·obtain rfl : i = D.files.length := by have := HI.out; omega
   have hlti : ¬ (D.files.length : Int) < (D.files.length : Int) := by omega
   go_wp2_with fail
   go_ret
   exact ⟨rfl, HF2.out.next HK.out⟩
end
end Go.Proofs.YtgmghopcppniaaaGreatDoor
