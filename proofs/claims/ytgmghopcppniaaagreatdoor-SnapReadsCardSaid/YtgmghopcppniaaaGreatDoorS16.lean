/- snap.take: walked. -/
import Derived.Test.YtgmghopcppniaaaGreatDoorS15
namespace Go.Proofs.YtgmghopcppniaaaGreatDoor
open Go.RowKit Go.Lib

theorem takeL_ok {s t r : Str} (h : takeL s = .ok (t, r)) : ∃ n : Nat, unframeL s = .ok (t, n) ∧ r = s.drop n ∧ n ≤ s.length := by
  unfold takeL at h
  split at h
  · rename_i t' n e
    simp only [Except.ok.injEq, Prod.mk.injEq] at h
    obtain ⟨rfl, rfl⟩ := h
    exact ⟨n, e, rfl, (unframe_back e).2.2.2⟩
  · cases h
theorem takeL_no {s : Str} {e : Int} (h : takeL s = .error e) : (∃ er, unframeL s = .error er ∧ (er = 8 ∨ er = 10) ∧ e = 8) ∨ (unframeL s = .error 9 ∧ e = 9) := by
  unfold takeL at h
  split at h
  · cases h
  · rename_i er he
    have h2 := Except.error.inj h
    rcases unframe_err he with rfl | rfl | rfl
    · exact .inl ⟨8, he, .inl rfl, h2.symm⟩
    · exact .inr ⟨he, h2.symm⟩
    · exact .inl ⟨10, he, .inr rfl, h2.symm⟩
theorem unf_at {w : World} {s : Str} (hs : s.length ≤ 1000000) {t : Str} {n er : Int} (h : unfD s = ((t, n), er)) :
    Calls Tryz.prog 112 #[.string (bs s)] w fun e w' => e = .returned (.tuple #[.string (bs t), .int .i64 n, .int .i64 er]) ∧ Fr (fun _ => False) w w' := by
  refine (unframe_h s hs).mono ?_
  rintro e w' ⟨rfl, hf⟩
  exact ⟨by rw [h], hf⟩
def TakeNo (er : Int) (w : World) (e : Ending) (w' : World) : Prop := ∃ x y : ByteArray, e = .returned (.tuple #[.string x, .string y, .int .i64 er]) ∧ Fr (fun _ => False) w w'
def TakeOk (t r : Str) (w : World) (e : Ending) (w' : World) : Prop := e = .returned (.tuple #[.string (bs t), .string (bs r), .int .i64 0]) ∧ Fr (fun _ => False) w w'
theorem take_end {w w' : World} {t r : Str} {b : ByteArray} (hb : bs r = b) (hf : Fr (fun _ => False) w w') : TakeOk t r w (.returned (.tuple #[.string (bs t), .string b, .int .i64 0])) w' := ⟨by rw [hb], hf⟩
set_option maxRecDepth 100000 in
set_option maxHeartbeats 4000000 in
theorem take_ok_h {w : World} {s t r : Str} (h : takeL s = .ok (t, r)) (hs : s.length ≤ 1000000) : Calls Tryz.prog 58 #[.string (bs s)] w (TakeOk t r w) := by
  obtain ⟨n, h1, h2, h3⟩ := takeL_ok h
  have HU := Lib.hid (unf_at (w := w) hs (unf_ok h1))
  have HX : Hid (bs r = (bs s).extract n s.length) := by show bs r = _; rw [h2]; exact bs_drop_ex s n
  have hsz : (bs s).size = s.length := rfl
  clear h h1 h2
  go_enter Tryz.func58, Tryz.ntmps58
  go_wp2_with (go_at_call 112; refine Calls.mono HU.out ?_)
  rintro e w1 ⟨rfl, hf⟩
  have HF := Lib.hid hf
  clear hf
  go_wp2_with fail
  go_big_quiet (fail)
  go_wp2_with fail
  go_ret3
  exact take_end HX.out (HF.out.drewN _)
set_option maxRecDepth 100000 in
set_option maxHeartbeats 4000000 in
theorem take_no_h {w : World} {s : Str} {er : Int} (h : takeL s = .error er) (hs : s.length ≤ 1000000) : Calls Tryz.prog 58 #[.string (bs s)] w (TakeNo er w) := by
  have hsz : (bs s).size = s.length := rfl
  rcases takeL_no h with ⟨e1, h1, h2 | h2, rfl⟩ | ⟨h1, rfl⟩
  · subst h2
    have HU := Lib.hid (unf_at (w := w) hs (unf_err h1))
    clear h h1
    go_enter Tryz.func58, Tryz.ntmps58
    go_wp2_with (go_at_call 112; refine Calls.mono HU.out ?_)
    rintro e w1 ⟨rfl, hf⟩
    have HF := Lib.hid hf
    clear hf
    go_wp2_with fail
    go_ret3
    exact ⟨_, _, rfl, HF.out⟩
  · subst h2
    have HU := Lib.hid (unf_at (w := w) hs (unf_err h1))
    clear h h1
    go_enter Tryz.func58, Tryz.ntmps58
    go_wp2_with (go_at_call 112; refine Calls.mono HU.out ?_)
    rintro e w1 ⟨rfl, hf⟩
    have HF := Lib.hid hf
    clear hf
    go_wp2_with fail
    go_ret3
    exact ⟨_, _, rfl, HF.out⟩
  · have HU := Lib.hid (unf_at (w := w) hs (unf_err h1))
    clear h h1
    go_enter Tryz.func58, Tryz.ntmps58
    go_wp2_with (go_at_call 112; refine Calls.mono HU.out ?_)
    rintro e w1 ⟨rfl, hf⟩
    have HF := Lib.hid hf
    clear hf
    go_wp2_with fail
    go_big_quiet (fail)
    go_wp2_with fail
    go_ret3
    exact ⟨_, _, rfl, HF.out.drewN _⟩
end Go.Proofs.YtgmghopcppniaaaGreatDoor
