/-
  The law FeedExtracts returns true for every text and every item, and leaves them as they were.
-/
import Derived.Test.YtpinjgdnhbogoaaGreatDoorRows
import Derived.Test.YtpinjgdnhbogoaaGreatDoorTie
import Derived.Test.YtpinjgdnhbogoaaGreatDoorCards
import Derived.WalkKit
import Derived.ProofKit
import Derived.OpenShut
import Derived.ShutString
import Derived.ChangeOld
import Derived.Below
import Derived.LaidMore
import Derived.Lay
import Derived.SevenTiedAt
import Derived.Stop.Joined
import Derived.Test.YtpinjgdnhbogoaaGreatDoorFX5
import Derived.Test.YtpinjgdnhbogoaaGreatDoorArgX
import Derived.Test.YtpinjgdnhbogoaaGreatDoorFacts
namespace Go.Proofs.YtpinjgdnhbogoaaGreatDoor.feedExtracts
open Go.ChangeShapes Go.WideShapes Go.ChangeAt Go.RowKit
open Go.ChangeMaps (open_string shut_string)

theorem walk {W : World} (hE : Env W) (n : List UInt8) (x : ItemD) :
    Calls Tryz.prog 15 #[.string (bs n), .agg #[.string (bs x.id), .string (bs x.title), .string (bs x.link)]] W fun e w' => e = .returned (.bool true) ∧ Below W.heap.size W w' := by
  refine Calls.mono (feedextracts_h hE n x) ?_
  rintro e w' ⟨rfl, hf⟩
  exact ⟨rfl, hf.below (Nat.le_refl _) fun k h => h.elim⟩

set_option maxRecDepth 100000 in
theorem lifted (os : Os) (started : os.Started) (H : Type) (enc : TypeId × Value → H) :
    ReturnsInHanded {} Tryz.checked os 15 .any (fun w args => (Rows.feedExtractsSpec.pre enc Tryz.prog Tryz.f15 Rows.feedExtractsRow.domain false w args ∧ laidMetH Tryz.prog Rows.feedExtractsRow.laid w) ∧ sizedMet enc Tryz.prog Tryz.f15 (OpenSpec.ofChange Rows.feedExtractsSpec) false w args)
      (Rows.feedExtractsSpec.post enc Tryz.prog Tryz.f15 false true false false) := by
  refine returns_laid_shaped (C := Tryz.checked) (X := fun w _ => laidMetH Tryz.prog Rows.feedExtractsRow.laid w) (fun _ _ _ hh h => h.of_heap hh) own started (by kernel_rfl) Tryz.func15
    (ChangeSpec.witness_shaped (enc := enc) (C := Tryz.checked) (os := os) (X := fun w _ => laidMetH Tryz.prog Rows.feedExtractsRow.laid w) false (World.laidAll Tryz.prog os Rows.feedExtractsRow.laid) #[.string ⟨#[]⟩, .agg #[.string ⟨#[]⟩, .string ⟨#[]⟩, .string ⟨#[]⟩]] 8 (World.laidAll_os _ _ _)
      (World.shaped_of_ZipB (by kernel_rfl) (by kernel_rfl)) (by kernel_rfl) (by kernel_rfl) (by kernel_rfl)
      (by rw [MakeChecks.laidMetH_plain _ _ _ (by kernel_rfl)]; exact laidMet_laidAll _ (by kernel_rfl) (by kernel_rfl))) ?_
  intro W base args ds gs before hval0 hW hcnd hL hsh
  have hE : Env W := env_of hsh (by rw [MakeChecks.laidMetH_plain _ _ _ (by kernel_rfl)] at hL; exact hL) (by simp [Rows.feedExtractsRow]) (by simp [Rows.feedExtractsRow])
  have hval : ∀ (j : Nat) t v, Tryz.f15.params[j]? = some t → args[j]? = some v → Value.okWide Tryz.prog W .any base t v := hval0
  have hW' := hW
  obtain ⟨p, q, hA0, hV, rfl, hfz, hnd⟩ := hW
  have hA : DataW.TrodAll enc Tryz.prog W 0 (fun _ => true) true Tryz.f15.params.toList args.toList ds p := hA0
  rw [Tryz.params15] at hA hval
  obtain ⟨v0, vs0, d0, ds0, p0, q0, hargs, rfl, rfl, h0, r0⟩ := trodAll_cons hA
  obtain ⟨v1, vs1, d1, ds1, p1, q1, rfl, rfl, rfl, h1, r1⟩ := trodAll_cons r0
  obtain ⟨rfl, rfl, rfl⟩ := trodAll_nil r1
  obtain rfl : args = #[v0, v1] := by cases args; simp_all
  obtain ⟨rfl, rfl⟩ := trodVars_none hV
  obtain ⟨s0, rfl, rfl, rfl, w0⟩ := open_string Tryz.underlying9 (hval 0 9 v0 rfl rfl) h0
  obtain ⟨n0, rfl⟩ := bs_of s0
  obtain ⟨cs1, rfl, _⟩ := okWide_struct u82 (hval 1 82 v1 rfl rfl)
  have k1 := h1
  have lt1 : ∀ x ∈ p1, x.block < W.heap.size := by obtain ⟨m, hm⟩ := k1; exact DataW.trod_lt m _ _ _ hm
  obtain ⟨m1, hcs1, hm1⟩ : ∃ m : ItemD, cs1 = (icell m).toArray ∧ True := by
    obtain ⟨fuel, hf⟩ := h1
    obtain ⟨m, hcs, h2⟩ := item_of hf
    exact ⟨m, by rw [← hcs]; simp [Value.cells], h2⟩
  subst hcs1
  clear hA0 hval0
  refine (walk hE n0 m1).mono fun e W' ⟨he, bel⟩ => ?_
  subst he
  exact ⟨_, rfl, _, _, _, [], _, [], hW', trodAll_mk1 (shut_bool Tryz.underlying4 _), (trodAll_cons_mk (shut_string Tryz.underlying9 w0) (trodAll_cons_mk (Below.trod laidOut (by kernel_rfl) (of_decide_eq_true (by kernel_rfl)) k1 bel lt1) trodAll_mk0)), rfl, bel.frame _, fun h => by cases h⟩

set_option maxHeartbeats 0 in
theorem closed : joinedFacts Tryz.prog 15 Tryz.f15 Rows.feedExtractsSpec Rows.feedExtractsRow = true := by
  unfold joinedFacts
  simp only [Bool.and_eq_true]
  repeat' apply And.intro
  all_goals (as_aux_lemma => kernel_rfl)

theorem named : Tryz.prog.funcNamed "kiosk/kiosklaw13.FeedExtracts" = some 15 := by kernel_rfl
theorem fits : Rows.feedExtractsRow.wfByText (OpenSpec.ofChange Rows.feedExtractsSpec) = true := by kernel_rfl
theorem goes : false = Rows.feedExtractsRow.goesBy Tryz.prog := by kernel_rfl
theorem over : Rows.FeedExtractsSaid :=
  OpenClaim.holds_of_wide 15 Tryz.f15 rfl rfl rfl rfl rfl rfl rfl ⟨rfl, rfl, rfl, rfl, rfl⟩ rfl rfl rfl rfl rfl (by kernel_rfl) Tryz.func15 closed
    (of_decide_eq_true (by kernel_rfl)) (by unfold Func.isWrapper; first | (rw [if_pos (by decide +kernel)]; kernel_rfl) | (rw [if_neg (by decide +kernel)]; exact ⟨rfl, rfl⟩))
    (fun os started H enc _ => lifted os started H enc)

theorem stand : ([9, 82].all fun u => !Tryz.prog.wantsStandIn u) = true := by kernel_rfl
theorem proved : Rows.FeedExtractsCardSaid :=
  Claim7.holds_tied_plain_at .later [] [.data, .data, .data, .data, .sentinel, .sentinel, .pinned] true (true, "b9cd785eaab0d100eff31bfbf35cc6e3d057da008c2e98a76fc5338197485d87") true over (fun _ h => by cases h) fits (fun _ h => by cases h) feedExtracts_row_tie rfl ⟨rfl, rfl⟩ main_is rfl
    (fun f fn hf hfn => by
      obtain rfl : f = 15 := Option.some.inj (named.symm.trans hf) |>.symm
      obtain rfl : fn = Tryz.f15 := (Option.some.inj (Tryz.func15.symm.trans hfn)).symm
      exact ⟨looks_all, fun j t ht => by
        rw [Tryz.params15] at ht
        have hm : t ∈ [9, 82] := by simpa using Array.mem_of_getElem? ht
        exact (show Tryz.prog.wantsStandIn t = false by simpa using List.all_eq_true.1 stand t hm)⟩)
    goes
#print axioms proved
end Go.Proofs.YtpinjgdnhbogoaaGreatDoor.feedExtracts
