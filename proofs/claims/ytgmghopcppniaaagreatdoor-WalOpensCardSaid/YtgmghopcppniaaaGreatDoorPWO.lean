/-
  The law WalOpens returns true for all names and texts of files, and leaves them as they were.
-/
import Derived.Test.YtgmghopcppniaaaGreatDoorRows
import Derived.Test.YtgmghopcppniaaaGreatDoorTie
import Derived.Test.YtgmghopcppniaaaGreatDoorCards
import Derived.WalkKit
import Derived.ProofKit
import Derived.OpenShut
import Derived.ShutString
import Derived.ChangeOld
import Derived.Below
import Derived.LaidMore
import Derived.Lay
import Derived.SevenTiedAt
import Derived.Stop.Joined
import Derived.Test.YtgmghopcppniaaaGreatDoorXC
import Derived.Test.YtgmghopcppniaaaGreatDoorW5
namespace Go.Proofs.YtgmghopcppniaaaGreatDoor.walOpens
open Go.ChangeShapes Go.WideShapes Go.ChangeAt Go.RowKit
open Go.ChangeMaps (open_string shut_string)

theorem walk {W : World} (hE : Env W) (h8 : 8 ≤ W.heap.size) {vn vl : Value} {nl ll : List Str} (hn : SRow W (fun k => k < W.heap.size) 1 vn nl.length (nl.map encS)) (hl : SRow W (fun k => k < W.heap.size) 1 vl ll.length (ll.map encS)) :
    Calls Tryz.prog 8 #[vn, vl] W fun e w' => e = .returned (.bool true) ∧ Below W.heap.size W w' := by
  refine Calls.mono (walopens_h hE h8 hn hl) ?_
  rintro e w' ⟨rfl, hf⟩
  exact ⟨rfl, hf.below (Nat.le_refl _) fun k h => h.elim⟩

set_option maxRecDepth 100000 in
theorem lifted (os : Os) (started : os.Started) (H : Type) (enc : TypeId × Value → H) :
    ReturnsInHanded {} Tryz.checked os 8 .any (fun w args => (Rows.walOpensSpec.pre enc Tryz.prog Tryz.f8 Rows.walOpensRow.domain false w args ∧ laidMetH Tryz.prog Rows.walOpensRow.laid w) ∧ sizedMet enc Tryz.prog Tryz.f8 (OpenSpec.ofChange Rows.walOpensSpec) false w args)
      (Rows.walOpensSpec.post enc Tryz.prog Tryz.f8 false true false false) := by
  refine returns_laid_shaped (C := Tryz.checked) (X := fun w _ => laidMetH Tryz.prog Rows.walOpensRow.laid w) (fun _ _ _ hh h => h.of_heap hh) own started (by kernel_rfl) Tryz.func8
    (ChangeSpec.witness_shaped (enc := enc) (C := Tryz.checked) (os := os) (X := fun w _ => laidMetH Tryz.prog Rows.walOpensRow.laid w) false (World.laidAll Tryz.prog os Rows.walOpensRow.laid) #[.slice none 0 0, .slice none 0 0] 8 (World.laidAll_os _ _ _)
      (World.shaped_of_ZipB (by kernel_rfl) (by kernel_rfl)) (by kernel_rfl) (by kernel_rfl) (by kernel_rfl)
      (by rw [MakeChecks.laidMetH_plain _ _ _ (by kernel_rfl)]; exact laidMet_laidAll _ (by kernel_rfl) (by kernel_rfl))) ?_
  intro W base args ds gs before hval0 hW hcnd hL hsh
  obtain ⟨hE, h8⟩ : Env W ∧ 8 ≤ W.heap.size := env_of (by rw [MakeChecks.laidMetH_plain _ _ _ (by kernel_rfl)] at hL; exact hL) (by simp [Rows.walOpensRow]) (by simp [Rows.walOpensRow]) (by simp [Rows.walOpensRow]) (by simp [Rows.walOpensRow])
  have hval : ∀ (j : Nat) t v, Tryz.f8.params[j]? = some t → args[j]? = some v → Value.okWide Tryz.prog W .any base t v := hval0
  have hW' := hW
  obtain ⟨p, q, hA0, hV, rfl, hfz, hnd⟩ := hW
  have hA : DataW.TrodAll enc Tryz.prog W 0 (fun _ => true) true Tryz.f8.params.toList args.toList ds p := hA0
  rw [Tryz.params8] at hA hval
  obtain ⟨v0, vs0, d0, ds0, p0, q0, hargs, rfl, rfl, h0, r0⟩ := trodAll_cons hA
  obtain ⟨v1, vs1, d1, ds1, p1, q1, rfl, rfl, rfl, h1, r1⟩ := trodAll_cons r0
  obtain ⟨rfl, rfl, rfl⟩ := trodAll_nil r1
  obtain rfl : args = #[v0, v1] := by cases args; simp_all
  obtain ⟨rfl, rfl⟩ := trodVars_none hV
  obtain ⟨a0, len0, cap0, rfl⟩ := okWide_slice Tryz.underlying48 (hval 0 48 v0 rfl rfl)
  have k0 := h0
  have lt0 : ∀ x ∈ p0, x.block < W.heap.size := by obtain ⟨m, hm⟩ := k0; exact DataW.trod_lt m _ _ _ hm
  obtain ⟨l0, hl0⟩ : ∃ l : List Str, SRow W (fun k => k < W.heap.size) 1 (.slice a0 len0 cap0) l.length (l.map encS) := by
    obtain ⟨fuel, hf⟩ := h0
    obtain ⟨v, l, hcs, h2⟩ := row_strsW hf
    simp [Value.cells] at hcs
    subst hcs
    exact ⟨l, h2⟩
  obtain ⟨a1, len1, cap1, rfl⟩ := okWide_slice Tryz.underlying48 (hval 1 48 v1 rfl rfl)
  have k1 := h1
  have lt1 : ∀ x ∈ p1, x.block < W.heap.size := by obtain ⟨m, hm⟩ := k1; exact DataW.trod_lt m _ _ _ hm
  obtain ⟨l1, hl1⟩ : ∃ l : List Str, SRow W (fun k => k < W.heap.size) 1 (.slice a1 len1 cap1) l.length (l.map encS) := by
    obtain ⟨fuel, hf⟩ := h1
    obtain ⟨v, l, hcs, h2⟩ := row_strsW hf
    simp [Value.cells] at hcs
    subst hcs
    exact ⟨l, h2⟩
  clear hA0 hval0
  refine (walk hE h8 hl0 hl1).mono fun e W' ⟨he, bel⟩ => ?_
  subst he
  exact ⟨_, rfl, _, _, _, [], _, [], hW', trodAll_mk1 (shut_bool Tryz.underlying4 _), (trodAll_cons_mk (Below.trod laidOut (by kernel_rfl) (of_decide_eq_true (by kernel_rfl)) k0 bel lt0) (trodAll_cons_mk (Below.trod laidOut (by kernel_rfl) (of_decide_eq_true (by kernel_rfl)) k1 bel lt1) trodAll_mk0)), rfl, bel.frame _, fun h => by cases h⟩

set_option maxHeartbeats 0 in
theorem closed : joinedFacts Tryz.prog 8 Tryz.f8 Rows.walOpensSpec Rows.walOpensRow = true := by
  unfold joinedFacts
  simp only [Bool.and_eq_true]
  repeat' apply And.intro
  all_goals (as_aux_lemma => kernel_rfl)

theorem named : Tryz.prog.funcNamed "kiosk/kiosklaw3.WalOpens" = some 8 := by kernel_rfl
theorem fits : Rows.walOpensRow.wfByText (OpenSpec.ofChange Rows.walOpensSpec) = true := by kernel_rfl
theorem goes : false = Rows.walOpensRow.goesBy Tryz.prog := by kernel_rfl
theorem over : Rows.WalOpensSaid :=
  OpenClaim.holds_of_wide 8 Tryz.f8 rfl rfl rfl rfl rfl rfl rfl ⟨rfl, rfl, rfl, rfl, rfl⟩ rfl rfl rfl rfl rfl (by kernel_rfl) Tryz.func8 closed
    (of_decide_eq_true (by kernel_rfl)) (by unfold Func.isWrapper; first | (rw [if_pos (by decide +kernel)]; kernel_rfl) | (rw [if_neg (by decide +kernel)]; exact ⟨rfl, rfl⟩))
    (fun os started H enc _ => lifted os started H enc)

theorem stand : ([48, 48].all fun u => !Tryz.prog.wantsStandIn u) = true := by kernel_rfl
theorem proved : Rows.WalOpensCardSaid :=
  Claim7.holds_tied_plain_at .later [] [.data, .data, .data, .data, .sentinel, .sentinel, .pinned] true (true, "b32357663a7d4d61b22cc15202e41f5eca9b780a041e6fb9d5b1300ebce1d0ce") true over (fun _ h => by cases h) fits (fun _ h => by cases h) walOpens_row_tie rfl ⟨rfl, rfl⟩ main_is rfl
    (fun f fn hf hfn => by
      obtain rfl : f = 8 := Option.some.inj (named.symm.trans hf) |>.symm
      obtain rfl : fn = Tryz.f8 := (Option.some.inj (Tryz.func8.symm.trans hfn)).symm
      exact ⟨looks_all, fun j t ht => by
        rw [Tryz.params8] at ht
        have hm : t ∈ [48, 48] := by simpa using Array.mem_of_getElem? ht
        exact (show Tryz.prog.wantsStandIn t = false by simpa using List.all_eq_true.1 stand t hm)⟩)
    goes
#print axioms proved
end Go.Proofs.YtgmghopcppniaaaGreatDoor.walOpens
