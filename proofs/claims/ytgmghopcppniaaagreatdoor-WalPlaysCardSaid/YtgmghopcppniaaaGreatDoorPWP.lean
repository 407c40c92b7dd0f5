/-
 The law WalPlays returns true for every capacity and all acts, and leaves them as they were.
-/
import Derived.Test.YtgmghopcppniaaaGreatDoorRows
import Derived.Test.YtgmghopcppniaaaGreatDoorTie
import Derived.Test.YtgmghopcppniaaaGreatDoorCards
import Derived.WalkKit
import Derived.ProofKit
import Derived.OpenShut
import Derived.ShutString
import Derived.ChangeOld
import Derived.Below
import Derived.LaidMore
import Derived.Lay
import Derived.SevenTiedAt
import Derived.Stop.Joined
import Derived.Test.YtgmghopcppniaaaGreatDoorXI
import Derived.Test.YtgmghopcppniaaaGreatDoorFW
namespace Go.Proofs.YtgmghopcppniaaaGreatDoor.walPlays
open Go.ChangeShapes Go.WideShapes Go.ChangeAt Go.RowKit
open Go.ChangeMaps (open_string shut_string)

theorem walk {W : World} (hE : Env W) (h8 : 8 ≤ W.heap.size) {z : Int} (hz : I64 z) {v : Value} {l : List ActWM} (ha : ActsW W (fun k => k < W.heap.size) v l) :
  Calls Tryz.prog 9 #[.int .i64 z, v] W fun e w' => e = .returned (.bool true) ∧ Below W.heap.size W w' := by
 refine Calls.mono (walplays_h hE h8 hz ha) ?_
 rintro e w' ⟨rfl, hf⟩
 exact ⟨rfl, hf.os, hf.tape, hf.output, hf.size, fun k hk => hf.block k hk fun h => h.elim⟩

set_option maxRecDepth 100000 in
theorem lifted (os : Os) (started : os.Started) (H : Type) (enc : TypeId × Value → H) :
  ReturnsInHanded {} Tryz.checked os 9 .any (fun w args => (Rows.walPlaysSpec.pre enc Tryz.prog Tryz.f9 Rows.walPlaysRow.domain false w args ∧ laidMetH Tryz.prog Rows.walPlaysRow.laid w) ∧ sizedMet enc Tryz.prog Tryz.f9 (OpenSpec.ofChange Rows.walPlaysSpec) false w args)
   (Rows.walPlaysSpec.post enc Tryz.prog Tryz.f9 false true false false) := by
 refine returns_laid_shaped (C := Tryz.checked) (X := fun w _ => laidMetH Tryz.prog Rows.walPlaysRow.laid w) (fun _ _ _ hh h => h.of_heap hh) own started (by kernel_rfl) Tryz.func9
  (ChangeSpec.witness_shaped (enc := enc) (C := Tryz.checked) (os := os) (X := fun w _ => laidMetH Tryz.prog Rows.walPlaysRow.laid w) false (World.laidAll Tryz.prog os Rows.walPlaysRow.laid) #[.int .i64 0, .slice none 0 0] 8 (World.laidAll_os _ _ _)
   (World.shaped_of_ZipB (by kernel_rfl) (by kernel_rfl)) (by kernel_rfl) (by kernel_rfl) (by kernel_rfl)
   (by rw [MakeChecks.laidMetH_plain _ _ _ (by kernel_rfl)]; exact laidMet_laidAll _ (by kernel_rfl) (by kernel_rfl))) ?_
 intro W base args ds gs before hval0 hW hcnd hL hsh
 obtain ⟨hE, h8⟩ : Env W ∧ 8 ≤ W.heap.size := env_of (by rw [MakeChecks.laidMetH_plain _ _ _ (by kernel_rfl)] at hL; exact hL) (by simp [Rows.walPlaysRow]) (by simp [Rows.walPlaysRow]) (by simp [Rows.walPlaysRow]) (by simp [Rows.walPlaysRow])
 have hval : ∀ (j : Nat) t v, Tryz.f9.params[j]? = some t → args[j]? = some v → Value.okWide Tryz.prog W .any base t v := hval0
 have hW' := hW
 obtain ⟨p, q, hA0, hV, rfl, hfz, hnd⟩ := hW
 have hA : DataW.TrodAll enc Tryz.prog W 0 (fun _ => true) true Tryz.f9.params.toList args.toList ds p := hA0
 rw [Tryz.params9] at hA hval
 obtain ⟨v0, vs0, d0, ds0, p0, q0, hargs, rfl, rfl, h0, r0⟩ := trodAll_cons hA
 obtain ⟨v1, vs1, d1, ds1, p1, q1, rfl, rfl, rfl, h1, r1⟩ := trodAll_cons r0
 obtain ⟨rfl, rfl, rfl⟩ := trodAll_nil r1
 obtain rfl : args = #[v0, v1] := by cases args; simp_all
 obtain ⟨rfl, rfl⟩ := trodVars_none hV
 obtain ⟨z0, rfl, rfl, rfl, w0⟩ := open_int Tryz.underlying3 (hval 0 3 v0 rfl rfl) h0
 obtain ⟨a1, len1, cap1, rfl⟩ := okWide_slice Tryz.underlying69 (hval 1 69 v1 rfl rfl)
 have k1 := h1
 have lt1 : ∀ x ∈ p1, x.block < W.heap.size := by obtain ⟨m, hm⟩ := k1; exact DataW.trod_lt m _ _ _ hm
 obtain ⟨l1, hl1⟩ : ∃ l : List ActWM, ActsW W (fun k => k < W.heap.size) (.slice a1 len1 cap1) l := by
  obtain ⟨fuel, hf⟩ := h1
  obtain ⟨v, l, hcs, h2⟩ := acts_of hf
  simp [Value.cells] at hcs
  subst hcs
  exact ⟨l, h2⟩
 clear hA0 hval0
 refine (walk hE h8 (bounds_i64 w0) hl1).mono fun e W' ⟨he, bel⟩ => ?_
 subst he
 exact ⟨_, rfl, _, _, _, [], _, [], hW', trodAll_mk1 (shut_bool Tryz.underlying4 _), (trodAll_cons_mk (shut_int Tryz.underlying3 w0) (trodAll_cons_mk (Below.trod laidOut (by kernel_rfl) (of_decide_eq_true (by kernel_rfl)) k1 bel lt1) trodAll_mk0)), rfl, bel.frame _, fun h => by cases h⟩

set_option maxHeartbeats 0 in
theorem closed : joinedFacts Tryz.prog 9 Tryz.f9 Rows.walPlaysSpec Rows.walPlaysRow = true := by
 unfold joinedFacts
 simp only [Bool.and_eq_true]
 repeat' apply And.intro
 all_goals (as_aux_lemma => kernel_rfl)

theorem named : Tryz.prog.funcNamed "kiosk/kiosklaw3.WalPlays" = some 9 := by kernel_rfl
theorem fits : Rows.walPlaysRow.wfByText (OpenSpec.ofChange Rows.walPlaysSpec) = true := by kernel_rfl
theorem goes : false = Rows.walPlaysRow.goesBy Tryz.prog := by kernel_rfl
theorem over : Rows.WalPlaysSaid :=
 OpenClaim.holds_of_wide 9 Tryz.f9 rfl rfl rfl rfl rfl rfl rfl ⟨rfl, rfl, rfl, rfl, rfl⟩ rfl rfl rfl rfl rfl (by kernel_rfl) Tryz.func9 closed
  (of_decide_eq_true (by kernel_rfl)) (by unfold Func.isWrapper; first | (rw [if_pos (by decide +kernel)]; kernel_rfl) | (rw [if_neg (by decide +kernel)]; exact ⟨rfl, rfl⟩))
  (fun os started H enc _ => lifted os started H enc)

theorem stand : ([3, 69].all fun u => !Tryz.prog.wantsStandIn u) = true := by kernel_rfl
theorem proved : Rows.WalPlaysCardSaid :=
 Claim7.holds_tied_plain_at .later [] [.data, .data, .data, .data, .sentinel, .sentinel, .pinned] true (true, "b32357663a7d4d61b22cc15202e41f5eca9b780a041e6fb9d5b1300ebce1d0ce") true over (fun _ h => by cases h) fits (fun _ h => by cases h) walPlays_row_tie rfl ⟨rfl, rfl⟩ main_is rfl
  (fun f fn hf hfn => by
   obtain rfl : f = 9 := Option.some.inj (named.symm.trans hf) |>.symm
   obtain rfl : fn = Tryz.f9 := (Option.some.inj (Tryz.func9.symm.trans hfn)).symm
   exact ⟨looks_all, fun j t ht => by
    rw [Tryz.params9] at ht
    have hm : t ∈ [3, 69] := by simpa using Array.mem_of_getElem? ht
    exact (show Tryz.prog.wantsStandIn t = false by simpa using List.all_eq_true.1 stand t hm)⟩)
  goes
#print axioms proved
end Go.Proofs.YtgmghopcppniaaaGreatDoor.walPlays
