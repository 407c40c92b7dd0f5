/-
  The law FeedDoubles returns true for all items, and leaves them as they were.
-/
import Derived.Test.YtpinjgdnhbogoaaGreatDoorRows
import Derived.Test.YtpinjgdnhbogoaaGreatDoorTie
import Derived.Test.YtpinjgdnhbogoaaGreatDoorCards
import Derived.WalkKit
import Derived.ProofKit
import Derived.OpenShut
import Derived.ShutString
import Derived.ChangeOld
import Derived.Below
import Derived.LaidMore
import Derived.Lay
import Derived.SevenTiedAt
import Derived.Stop.Joined
import Derived.Test.YtpinjgdnhbogoaaGreatDoorFWA
import Derived.Test.YtpinjgdnhbogoaaGreatDoorArgI
import Derived.Test.YtpinjgdnhbogoaaGreatDoorWrap
import Derived.Test.YtpinjgdnhbogoaaGreatDoorFacts
namespace Go.Proofs.YtpinjgdnhbogoaaGreatDoor.feedDoubles
open Go.ChangeShapes Go.WideShapes Go.ChangeAt Go.RowKit
open Go.ChangeMaps (open_string shut_string)

theorem walk {W : World} (hE : Env W) {v : Value} {l : List ItemD} (hv : ItemsV W (fun k => k < W.heap.size) v l) :
    Calls Tryz.prog 20 #[v] W fun e w' => e = .returned (.bool true) ∧ Below W.heap.size W w' := by
  refine Calls.mono (feeddoubles_h hE hv) ?_
  rintro e w' ⟨rfl, hf⟩
  exact ⟨rfl, hf.below (Nat.le_refl _) fun k h => h.elim⟩

set_option maxRecDepth 100000 in
theorem lifted (os : Os) (started : os.Started) (H : Type) (enc : TypeId × Value → H) :
    ReturnsInHanded {} Tryz.checked os 20 .any (fun w args => (Rows.feedDoublesSpec.pre enc Tryz.prog Tryz.f20 Rows.feedDoublesRow.domain false w args ∧ laidMetH Tryz.prog Rows.feedDoublesRow.laid w) ∧ sizedMet enc Tryz.prog Tryz.f20 (OpenSpec.ofChange Rows.feedDoublesSpec) false w args)
      (Rows.feedDoublesSpec.post enc Tryz.prog Tryz.f20 false true false false) := by
  refine returns_laid_shaped (C := Tryz.checked) (X := fun w _ => laidMetH Tryz.prog Rows.feedDoublesRow.laid w) (fun _ _ _ hh h => h.of_heap hh) own started (by kernel_rfl) Tryz.func20
    (ChangeSpec.witness_shaped (enc := enc) (C := Tryz.checked) (os := os) (X := fun w _ => laidMetH Tryz.prog Rows.feedDoublesRow.laid w) false (World.laidAll Tryz.prog os Rows.feedDoublesRow.laid) #[.slice none 0 0] 8 (World.laidAll_os _ _ _)
      (World.shaped_of_ZipB (by kernel_rfl) (by kernel_rfl)) (by kernel_rfl) (by kernel_rfl) (by kernel_rfl)
      (by rw [MakeChecks.laidMetH_plain _ _ _ (by kernel_rfl)]; exact laidMet_laidAll _ (by kernel_rfl) (by kernel_rfl))) ?_
  intro W base args ds gs before hval0 hW hcnd hL hsh
  have hE : Env W := env_of hsh (by rw [MakeChecks.laidMetH_plain _ _ _ (by kernel_rfl)] at hL; exact hL) (by simp [Rows.feedDoublesRow]) (by simp [Rows.feedDoublesRow])
  have hval : ∀ (j : Nat) t v, Tryz.f20.params[j]? = some t → args[j]? = some v → Value.okWide Tryz.prog W .any base t v := hval0
  have hW' := hW
  obtain ⟨p, q, hA0, hV, rfl, hfz, hnd⟩ := hW
  have hA : DataW.TrodAll enc Tryz.prog W 0 (fun _ => true) true Tryz.f20.params.toList args.toList ds p := hA0
  rw [Tryz.params20] at hA hval
  obtain ⟨v0, vs0, d0, ds0, p0, q0, hargs, rfl, rfl, h0, r0⟩ := trodAll_cons hA
  obtain ⟨rfl, rfl, rfl⟩ := trodAll_nil r0
  obtain rfl : args = #[v0] := by cases args; simp_all
  obtain ⟨rfl, rfl⟩ := trodVars_none hV
  obtain ⟨a0, len0, cap0, rfl⟩ := okWide_slice Tryz.underlying84 (hval 0 84 v0 rfl rfl)
  have k0 := h0
  have lt0 : ∀ x ∈ p0, x.block < W.heap.size := by obtain ⟨m, hm⟩ := k0; exact DataW.trod_lt m _ _ _ hm
  obtain ⟨l0, hl0⟩ : ∃ l : List ItemD, ItemsV W (fun k => k < W.heap.size) (.slice a0 len0 cap0) l := by
    obtain ⟨fuel, hf⟩ := h0
    obtain ⟨v, l, hcs, h2⟩ := items_of hf
    simp [Value.cells] at hcs
    subst hcs
    exact ⟨l, h2⟩
  clear hA0 hval0
  refine (walk hE hl0).mono fun e W' ⟨he, bel⟩ => ?_
  subst he
  exact ⟨_, rfl, _, _, _, [], _, [], hW', trodAll_mk1 (shut_bool Tryz.underlying4 _), (trodAll_cons_mk (Below.trod laidOut (by kernel_rfl) (of_decide_eq_true (by kernel_rfl)) k0 bel lt0) trodAll_mk0), rfl, bel.frame _, fun h => by cases h⟩

set_option maxHeartbeats 0 in
theorem closed : joinedFacts Tryz.prog 20 Tryz.f20 Rows.feedDoublesSpec Rows.feedDoublesRow = true := by
  unfold joinedFacts
  simp only [Bool.and_eq_true]
  repeat' apply And.intro
  all_goals (as_aux_lemma => kernel_rfl)

theorem named : Tryz.prog.funcNamed "kiosk/kiosklaw13.FeedDoubles" = some 20 := by kernel_rfl
theorem fits : Rows.feedDoublesRow.wfByText (OpenSpec.ofChange Rows.feedDoublesSpec) = true := by kernel_rfl
theorem goes : false = Rows.feedDoublesRow.goesBy Tryz.prog := by kernel_rfl
theorem over : Rows.FeedDoublesSaid :=
  OpenClaim.holds_of_wide 20 Tryz.f20 rfl rfl rfl rfl rfl rfl rfl ⟨rfl, rfl, rfl, rfl, rfl⟩ rfl rfl rfl rfl rfl (by kernel_rfl) Tryz.func20 closed
    (of_decide_eq_true (by kernel_rfl)) (by unfold Func.isWrapper; first | (rw [if_pos (by decide +kernel)]; kernel_rfl) | (rw [if_neg (by decide +kernel)]; exact ⟨rfl, rfl⟩))
    (fun os started H enc _ => lifted os started H enc)

theorem stand : ([84].all fun u => !Tryz.prog.wantsStandIn u) = true := by kernel_rfl
theorem proved : Rows.FeedDoublesCardSaid :=
  Claim7.holds_tied_plain_at .later [] [.data, .data, .data, .data, .sentinel, .sentinel, .pinned] true (true, "b9cd785eaab0d100eff31bfbf35cc6e3d057da008c2e98a76fc5338197485d87") true over (fun _ h => by cases h) fits (fun _ h => by cases h) feedDoubles_row_tie rfl ⟨rfl, rfl⟩ main_is rfl
    (fun f fn hf hfn => by
      obtain rfl : f = 20 := Option.some.inj (named.symm.trans hf) |>.symm
      obtain rfl : fn = Tryz.f20 := (Option.some.inj (Tryz.func20.symm.trans hfn)).symm
      exact ⟨looks_all, fun j t ht => by
        rw [Tryz.params20] at ht
        have hm : t ∈ [84] := by simpa using Array.mem_of_getElem? ht
        exact (show Tryz.prog.wantsStandIn t = false by simpa using List.all_eq_true.1 stand t hm)⟩)
    goes
#print axioms proved
end Go.Proofs.YtpinjgdnhbogoaaGreatDoor.feedDoubles
