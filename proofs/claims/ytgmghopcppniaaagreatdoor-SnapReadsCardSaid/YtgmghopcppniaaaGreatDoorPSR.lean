/-
  The law SnapReads returns true for every string, base, place and byte, and leaves them as they were.
-/
import Derived.Test.YtgmghopcppniaaaGreatDoorRows
import Derived.Test.YtgmghopcppniaaaGreatDoorTie
import Derived.Test.YtgmghopcppniaaaGreatDoorCards
import Derived.WalkKit
import Derived.ProofKit
import Derived.OpenShut
import Derived.ShutString
import Derived.ChangeOld
import Derived.Below
import Derived.LaidMore
import Derived.Lay
import Derived.SevenTiedAt
import Derived.Stop.Joined
import Derived.Test.YtgmghopcppniaaaGreatDoorS30
import Derived.Test.YtgmghopcppniaaaGreatDoorWrap
namespace Go.Proofs.YtgmghopcppniaaaGreatDoor.snapReads
open Go.ChangeShapes Go.WideShapes Go.ChangeAt Go.RowKit
open Go.ChangeMaps (open_string shut_string)

theorem walk {W : World} (hE : Env W) (h8 : 8 ≤ W.heap.size) {s : Str} (hs : s.length ≤ 9223372036854775807) {b : BaseD} {v : Value} (hb : BaseRaw W (fun k => k < W.heap.size) b v) {z y : Int} (hz : I64 z) (hy : I64 y) :
    Calls Tryz.prog 3 #[.string (bs s), .agg #[.int .i64 b.index, .int .i64 b.term, v, .string (bs b.data)], .int .i64 z, .int .i64 y] W fun e w' => e = .returned (.bool true) ∧ Below W.heap.size W w' := by
  refine Calls.mono (snapreads_h hE h8 s hs hb hz hy) ?_
  rintro e w' ⟨rfl, hf⟩
  exact ⟨rfl, hf.below (Nat.le_refl _) fun k h => h.elim⟩

set_option maxRecDepth 100000 in
theorem lifted (os : Os) (started : os.Started) (H : Type) (enc : TypeId × Value → H) :
    ReturnsInHanded {} Tryz.checked os 3 .any (fun w args => (Rows.snapReadsSpec.pre enc Tryz.prog Tryz.f3 Rows.snapReadsRow.domain false w args ∧ laidMetH Tryz.prog Rows.snapReadsRow.laid w) ∧ sizedMet enc Tryz.prog Tryz.f3 (OpenSpec.ofChange Rows.snapReadsSpec) false w args)
      (Rows.snapReadsSpec.post enc Tryz.prog Tryz.f3 false true false false) := by
  refine returns_laid_shaped (C := Tryz.checked) (X := fun w _ => laidMetH Tryz.prog Rows.snapReadsRow.laid w) (fun _ _ _ hh h => h.of_heap hh) own started (by kernel_rfl) Tryz.func3
    (ChangeSpec.witness_shaped (enc := enc) (C := Tryz.checked) (os := os) (X := fun w _ => laidMetH Tryz.prog Rows.snapReadsRow.laid w) false (World.laidAll Tryz.prog os Rows.snapReadsRow.laid) #[.string ⟨#[]⟩, .agg #[.int .i64 0, .int .i64 0, .slice none 0 0, .string ⟨#[]⟩], .int .i64 0, .int .i64 0] 8 (World.laidAll_os _ _ _)
      (World.shaped_of_ZipB (by kernel_rfl) (by kernel_rfl)) (by kernel_rfl) (by kernel_rfl) (by kernel_rfl)
      (by rw [MakeChecks.laidMetH_plain _ _ _ (by kernel_rfl)]; exact laidMet_laidAll _ (by kernel_rfl) (by kernel_rfl))) ?_
  intro W base args ds gs before hval0 hW hcnd hL hsh
  obtain ⟨hE, h8⟩ : Env W ∧ 8 ≤ W.heap.size := env_of (by rw [MakeChecks.laidMetH_plain _ _ _ (by kernel_rfl)] at hL; exact hL) (by simp [Rows.snapReadsRow]) (by simp [Rows.snapReadsRow]) (by simp [Rows.snapReadsRow]) (by simp [Rows.snapReadsRow])
  have hval : ∀ (j : Nat) t v, Tryz.f3.params[j]? = some t → args[j]? = some v → Value.okWide Tryz.prog W .any base t v := hval0
  have hW' := hW
  obtain ⟨p, q, hA0, hV, rfl, hfz, hnd⟩ := hW
  have hA : DataW.TrodAll enc Tryz.prog W 0 (fun _ => true) true Tryz.f3.params.toList args.toList ds p := hA0
  rw [Tryz.params3] at hA hval
  obtain ⟨v0, vs0, d0, ds0, p0, q0, hargs, rfl, rfl, h0, r0⟩ := trodAll_cons hA
  obtain ⟨v1, vs1, d1, ds1, p1, q1, rfl, rfl, rfl, h1, r1⟩ := trodAll_cons r0
  obtain ⟨v2, vs2, d2, ds2, p2, q2, rfl, rfl, rfl, h2, r2⟩ := trodAll_cons r1
  obtain ⟨v3, vs3, d3, ds3, p3, q3, rfl, rfl, rfl, h3, r3⟩ := trodAll_cons r2
  obtain ⟨rfl, rfl, rfl⟩ := trodAll_nil r3
  obtain rfl : args = #[v0, v1, v2, v3] := by cases args; simp_all
  obtain ⟨rfl, rfl⟩ := trodVars_none hV
  obtain ⟨s0, rfl, rfl, rfl, w0⟩ := open_string Tryz.underlying9 (hval 0 9 v0 rfl rfl) h0
  obtain ⟨n0, rfl⟩ := bs_of s0
  have l0 : n0.length ≤ 9223372036854775807 := by have h := w0; unfold maxLen at h; exact h
  obtain ⟨cs1, rfl, _⟩ := okWide_struct Tryz.underlying24 (hval 1 24 v1 rfl rfl)
  have k1 := h1
  have lt1 : ∀ x ∈ p1, x.block < W.heap.size := by obtain ⟨m, hm⟩ := k1; exact DataW.trod_lt m _ _ _ hm
  obtain ⟨m1, u1, hcs1, hm1⟩ : ∃ (b : BaseD) (v : Value), cs1.toList = [.int .i64 b.index, .int .i64 b.term, v, .string (bs b.data)] ∧ BaseRaw W (fun k => k < W.heap.size) b v := by
    obtain ⟨fuel, hf⟩ := h1
    exact base_of (cs := cs1.toList) hf
  obtain rfl : cs1 = #[.int .i64 m1.index, .int .i64 m1.term, u1, .string (bs m1.data)] := by rw [← Array.toArray_toList (xs := cs1), hcs1]
  obtain ⟨z2, rfl, rfl, rfl, w2⟩ := open_int Tryz.underlying3 (hval 2 3 v2 rfl rfl) h2
  obtain ⟨z3, rfl, rfl, rfl, w3⟩ := open_int Tryz.underlying3 (hval 3 3 v3 rfl rfl) h3
  clear hA0 hval0
  refine (walk hE h8 l0 hm1 (bounds_i64 w2) (bounds_i64 w3)).mono fun e W' ⟨he, bel⟩ => ?_
  subst he
  exact ⟨_, rfl, _, _, _, [], _, [], hW', trodAll_mk1 (shut_bool Tryz.underlying4 _), (trodAll_cons_mk (shut_string Tryz.underlying9 w0) (trodAll_cons_mk (Below.trod laidOut (by kernel_rfl) (of_decide_eq_true (by kernel_rfl)) k1 bel lt1) (trodAll_cons_mk (shut_int Tryz.underlying3 w2) (trodAll_cons_mk (shut_int Tryz.underlying3 w3) trodAll_mk0)))), rfl, bel.frame _, fun h => by cases h⟩

set_option maxHeartbeats 0 in
theorem closed : joinedFacts Tryz.prog 3 Tryz.f3 Rows.snapReadsSpec Rows.snapReadsRow = true := by
  unfold joinedFacts
  simp only [Bool.and_eq_true]
  repeat' apply And.intro
  all_goals (as_aux_lemma => kernel_rfl)

theorem named : Tryz.prog.funcNamed "kiosk/kiosklaw4.SnapReads" = some 3 := by kernel_rfl
theorem fits : Rows.snapReadsRow.wfByText (OpenSpec.ofChange Rows.snapReadsSpec) = true := by kernel_rfl
theorem goes : false = Rows.snapReadsRow.goesBy Tryz.prog := by kernel_rfl
theorem over : Rows.SnapReadsSaid :=
  OpenClaim.holds_of_wide 3 Tryz.f3 rfl rfl rfl rfl rfl rfl rfl ⟨rfl, rfl, rfl, rfl, rfl⟩ rfl rfl rfl rfl rfl (by kernel_rfl) Tryz.func3 closed
    (of_decide_eq_true (by kernel_rfl)) (by unfold Func.isWrapper; first | (rw [if_pos (by decide +kernel)]; kernel_rfl) | (rw [if_neg (by decide +kernel)]; exact ⟨rfl, rfl⟩))
    (fun os started H enc _ => lifted os started H enc)

theorem stand : ([9, 24, 3, 3].all fun u => !Tryz.prog.wantsStandIn u) = true := by kernel_rfl
theorem proved : Rows.SnapReadsCardSaid :=
  Claim7.holds_tied_plain_at .later [] [.data, .data, .data, .data, .sentinel, .sentinel, .pinned] true (true, "b32357663a7d4d61b22cc15202e41f5eca9b780a041e6fb9d5b1300ebce1d0ce") true over (fun _ h => by cases h) fits (fun _ h => by cases h) snapReads_row_tie rfl ⟨rfl, rfl⟩ main_is rfl
    (fun f fn hf hfn => by
      obtain rfl : f = 3 := Option.some.inj (named.symm.trans hf) |>.symm
      obtain rfl : fn = Tryz.f3 := (Option.some.inj (Tryz.func3.symm.trans hfn)).symm
      exact ⟨looks_all, fun j t ht => by
        rw [Tryz.params3] at ht
        have hm : t ∈ [9, 24, 3, 3] := by simpa using Array.mem_of_getElem? ht
        exact (show Tryz.prog.wantsStandIn t = false by simpa using List.all_eq_true.1 stand t hm)⟩)
    goes
#print axioms proved
end Go.Proofs.YtgmghopcppniaaaGreatDoor.snapReads
