/- said: what a text says. -/
import Derived.Test.YtpinjgdnhbogoaaGreatDoorW5
namespace Go.Proofs.YtpinjgdnhbogoaaGreatDoor
open Go.RowKit Go.Lib

theorem isB_fr {B b : Nat} {l : List Value} {w w' : World} (h : Lib.IsBuilderF 115 5 B b l w) (hf : Fr (fun _ => False) w w') : Lib.IsBuilderF 115 5 B b l w' := by
  have key : ∀ p, Lib.BuilderAtF 115 5 B b p l w → Lib.BuilderAtF 115 5 B b p l w' := by
    rintro p ⟨hB, v, hb, hown, hne⟩
    refine ⟨hB, v, hf.keep hb (fun h => h), ⟨hown.1, ?_⟩, hne⟩
    rcases hown.2 with h2 | ⟨g, cap, cur, fz, hv, hg, hh, r⟩
    · exact .inl h2
    · exact .inr ⟨g, cap, cur, fz, hv, hg, hf.keep hh (fun h => h), r⟩
  exact h.imp (key _) (key _)
theorem isB_new (w : World) (b : Nat) (hb : b = w.heap.size) : Lib.IsBuilderF 115 5 b b (Lib.byteCells []) (w.alloc (.cells #[.pointer none, .slice none 0 0] 115)) :=
  .inl ⟨Nat.le_refl _, _, by rw [hb]; exact block_new w _, World.ownsRowF_nil _ _ _ _, by simp [Value.ownBlock]⟩
theorem strCells_bs (a : Str) : Lib.strCells (bs a) = Lib.byteCells a := rfl
theorem byteCells_app (a b : Str) : Lib.byteCells a ++ Lib.byteCells b = Lib.byteCells (a ++ b) := by unfold Lib.byteCells; rw [List.map_append]
theorem byteCells_len (a : Str) : (Lib.byteCells a).length = a.length := by unfold Lib.byteCells; rw [List.length_map]
/-- WriteString onto a builder of the call's own -/
theorem below_start {B n : Nat} {a b : World} (h : Below B (a.drewN n) b) : Below B a b := ⟨h.os, h.tape, h.output, h.size, h.block⟩
theorem bput {B b : Nat} {w : World} {l a : Str} (h : Lib.IsBuilderF 115 5 B b (Lib.byteCells l) w) (hl : l.length + a.length ≤ 140737488355328) (hBw : B ≤ w.heap.size) :
    Calls Tryz.prog 81 #[.pointer (some ⟨b, 0, none⟩), .string (bs a)] w fun e w' => e = .returned (.tuple #[.int .i64 (bs a).size, .nilIface]) ∧ Lib.IsBuilderF 115 5 B b (Lib.byteCells (l ++ a)) w' ∧ Below B w w' ∧ Lib.OthersKept 5 (some b) w w' := by
  refine (bwrite_h B b _ (bs a) w h (by rw [byteCells_len]; exact hl) hBw).mono ?_
  rintro e w' ⟨rfl, h1, h2, h3⟩
  rw [strCells_bs, byteCells_app] at h1
  exact ⟨rfl, .inr h1, h2, h3⟩
/-! ### what a text says, step by step -/
theorem said_none {r : Str} (h : cutL [38] r = none) : saidL r = .ok r := by unfold saidL saidF; rw [h]
theorem said_bad {r p m : Str} (h : cutL [38] r = some (p, m)) (hm : refL m = none) : saidL r = .error p.length := by
  unfold saidL saidF; rw [h]; dsimp only; rw [hm]
theorem said_more {r p m t left : Str} (h : cutL [38] r = some (p, m)) (hm : refL m = some (t, left)) : saidL r = match saidL left with | .ok u => .ok (p ++ (t ++ u)) | .error k => .error (p.length + 1 + (m.length - left.length) + k) := by
  have h1 := cutL_lens h
  have h2 := refL_len hm
  simp only [List.length_singleton] at h1
  conv => lhs; unfold saidL saidF
  rw [h]
  dsimp only
  rw [hm]
  dsimp only
  rw [saidL_eq (s := left) (by omega)]
  cases saidL left <;> rfl
theorem utf8_len (v : Nat) : (utf8L v).length ≤ 4 := by unfold utf8L; (repeat' split) <;> simp
theorem num_len {b m : Nat} {ds t : Str} (h : numL b m ds = some t) : t.length ≤ 4 := by
  unfold numL at h
  split at h
  · rw [← Option.some.inj h]; exact utf8_len _
  · cases h
theorem ref_out {m t left : Str} (h : refL m = some (t, left)) : t.length ≤ 4 := by
  unfold refL at h
  split at h
  · cases h
  · rename_i b rest hc
    cases hb : bodyL b with
    | none => rw [hb] at h; cases h
    | some u =>
      rw [hb] at h
      simp only [Option.map_some, Option.some.injEq, Prod.mk.injEq] at h
      obtain ⟨rfl, rfl⟩ := h
      unfold bodyL at hb
      repeat' split at hb
      all_goals first | (cases hb; simp) | exact num_len hb | cases hb
/-- how far what a text says is known -/
def SaidTo (s u0 r : Str) : Prop := r.length ≤ s.length ∧ u0.length + 4 * r.length ≤ 4 * s.length ∧ saidL s = match saidL r with | .ok u => .ok (u0 ++ u) | .error k => .error (s.length - r.length + k)
theorem SaidTo.zero (s : Str) : SaidTo s [] s := ⟨Nat.le_refl _, by simp, by cases saidL s with | ok u => rfl | error k => simp⟩
theorem SaidTo.last {s u0 r : Str} (h : SaidTo s u0 r) (hc : cutL [38] r = none) : saidL s = .ok (u0 ++ r) := by
  rw [h.2.2, said_none hc]
theorem SaidTo.bad {s u0 r p m : Str} (h : SaidTo s u0 r) (hc : cutL [38] r = some (p, m)) (hm : refL m = none) : m.length + 1 ≤ s.length ∧ saidL s = .error (s.length - m.length - 1) := by
  have h1 := cutL_lens hc
  have h2 := h.1
  simp only [List.length_singleton] at h1
  refine ⟨by omega, ?_⟩
  rw [h.2.2, said_bad hc hm]
  dsimp only
  rw [show s.length - r.length + p.length = s.length - m.length - 1 by omega]
theorem SaidTo.step {s u0 r p m t left : Str} (h : SaidTo s u0 r) (hc : cutL [38] r = some (p, m)) (hm : refL m = some (t, left)) : SaidTo s (u0 ++ p ++ t) left ∧ left.length < r.length := by
  have h1 := cutL_lens hc
  have h2 := refL_len hm
  have h3 := ref_out hm
  have h4 := h.1
  have h5 := h.2.1
  simp only [List.length_singleton] at h1
  refine ⟨⟨by omega, by simp; omega, ?_⟩, by omega⟩
  rw [h.2.2, said_more hc hm]
  cases saidL left with
  | ok u => simp
  | error k =>
    dsimp only
    rw [show s.length - r.length + (p.length + 1 + (m.length - left.length) + k) = s.length - left.length + k by omega]
def SaidPost (s : Str) (w : World) (e : Ending) (w' : World) : Prop :=
  e = .returned (match saidL s with | .ok u => .tuple #[.string (bs u), .int .i64 (-1)] | .error k => .tuple #[.string ⟨#[]⟩, .int .i64 (k : Int)]) ∧ Fr (fun _ => False) w w'
set_option maxHeartbeats 8000000 in
theorem said_h {w : World} (hE : Env w) (s : Str) (hs : s.length ≤ 1000000) : Calls Tryz.prog 80 #[.string (bs s)] w (SaidPost s w) := by
  have hsz : (bs s).size = s.length := rfl
  have hW := hE.size
  have hB0 := isB_new w _ rfl
  have hBw : Below w.heap.size w (w.alloc (.cells #[.pointer none, .slice none 0 0] 115)) := (Below.refl _ _).alloc (Nat.le_refl _) _
  have HS := Lib.hid (And.intro hB0 hBw)
  clear hB0 hBw
  go_enter Tryz.func80, Tryz.ntmps80
  go_wp2_with fail
  go_loopg [5] s.length (fun j v wr => ∃ u0 r, j = r.length ∧ v = .string (bs r) ∧ SaidTo s u0 r ∧ Lib.IsBuilderF 115 5 w.heap.size w.heap.size (Lib.byteCells u0) wr ∧ Below w.heap.size w wr)
  case atStart => exact ⟨[], s, rfl, rfl, SaidTo.zero s, HS.out.1, HS.out.2⟩
  case round =>
    obtain ⟨u0, r, hj, rfl, hT, hI, hbw⟩ := hrel
    have hr1 := hT.1
    have hr2 := hT.2.1
    have HT := Lib.hid (And.intro hj hT)
    have hEr := hE.below hbw hW
    have hzr := hbw.size
    have HB := Lib.hid (And.intro hI hbw)
    clear hj hT hI hbw
    cases hc : cutL [38] r with
    | none =>
      have HC := Lib.hid (cut_none hEr (by omega) hc)
      have HE := Lib.hid (HT.out.2.last hc)
      clear hc
      go_wp2_with fail
      refine HC.out.mono ?_
      rintro e w1 ⟨rfl, n, rfl⟩
      go_wp2_with fail
      refine (bput (l := u0) (a := r) (isB_fr HB.out.1 ((Fr.refl _ _).drewN n)) (by omega) hzr).mono ?_
      rintro e w2 ⟨rfl, hI2, hb2, _⟩
      have HB2 := Lib.hid (And.intro hI2 (HB.out.2.trans (below_start hb2)))
      clear hI2 hb2
      go_wp2_with fail
      refine (Tryz.Builder_String_any_k w.heap.size w.heap.size _ _ HB2.out.1 HB2.out.2.size).mono ?_
      rintro e w3 ⟨rfl, _, hb3, _⟩
      go_wp2_with fail
      go_ret2
      exact ⟨by rw [HE.out]; rfl, fr_new (HB2.out.2.trans hb3)⟩
    | some q =>
      obtain ⟨p, m⟩ := q
      have hl := cutL_lens hc
      simp only [List.length_singleton] at hl
      have hm1 : m.length ≤ 1000000 := by omega
      have hp1 : p.length ≤ 1000000 := by omega
      have HL := Lib.hid hl
      clear hl
      have HC := Lib.hid (cut_some hEr (by omega) hc)
      have HRf := Lib.hid (fun (W : World) (hW : Env W) => reference_h hW m hm1)
      have hmz : (bs m).size = m.length := rfl
      cases hm : refL m with
      | none =>
        have HE := Lib.hid (HT.out.2.bad hc hm)
        have HM := Lib.hid hm
        have hms := HE.out.1
        clear hc hm
        have hw1 : IntKind.i64.wrap ((s.length : Int) - (m.length : Int)) = (s.length : Int) - (m.length : Int) := IntWalk.i64_in _ (by omega)
        have hw2 : IntKind.i64.wrap ((s.length : Int) - (m.length : Int) - 1) = ((s.length - m.length - 1 : Nat) : Int) := by rw [IntWalk.i64_in _ (by omega)]; omega
        go_wp2_with fail
        refine HC.out.mono ?_
        rintro e w1 ⟨rfl, n, rfl⟩
        go_wp2_with fail
        refine (bput (l := u0) (a := p) (isB_fr HB.out.1 ((Fr.refl _ _).drewN n)) (by omega) hzr).mono ?_
        rintro e w2 ⟨rfl, hI2, hb2, _⟩
        have HB2 := Lib.hid (And.intro hI2 (HB.out.2.trans (below_start hb2)))
        clear hI2 hb2
        go_wp2_with fail
        refine (HRf.out _ (hE.below HB2.out.2 hW)).mono ?_
        rintro e w3 ⟨he, hF3⟩
        rw [HM.out] at he
        subst he
        go_wp2_with fail
        go_ret2
        exact ⟨by rw [HE.out.2] <;> rfl, (fr_new HB2.out.2).next hF3⟩
      | some tl =>
        obtain ⟨t, left⟩ := tl
        have HST := Lib.hid (HT.out.2.step hc hm)
        have HM := Lib.hid hm
        have ht4 := ref_out hm
        clear hc hm
        go_wp2_with fail
        refine HC.out.mono ?_
        rintro e w1 ⟨rfl, n, rfl⟩
        go_wp2_with fail
        refine (bput (l := u0) (a := p) (isB_fr HB.out.1 ((Fr.refl _ _).drewN n)) (by omega) hzr).mono ?_
        rintro e w2 ⟨rfl, hI2, hb2, _⟩
        have HB2 := Lib.hid (And.intro hI2 (HB.out.2.trans (below_start hb2)))
        clear hI2 hb2
        go_wp2_with fail
        refine (HRf.out _ (hE.below HB2.out.2 hW)).mono ?_
        rintro e w3 ⟨he, hF3⟩
        rw [HM.out] at he
        subst he
        have HB3 := Lib.hid (And.intro (isB_fr HB2.out.1 hF3) (HB2.out.2.trans (hF3.below HB2.out.2.size (fun _ h => h.elim))))
        clear hF3
        go_wp2_with fail
        refine (bput (l := u0 ++ p) (a := t) HB3.out.1 (by simp; omega) HB3.out.2.size).mono ?_
        rintro e w4 ⟨rfl, hI4, hb4, _⟩
        have HB4 := Lib.hid (And.intro hI4 (HB3.out.2.trans hb4))
        clear hI4 hb4
        go_wp2_with fail
        go_roundg left.length
        case measure => have := HST.out.2; have := HT.out.1; omega
        case rel => exact ⟨_, left, rfl, rfl, HST.out.1, HB4.out.1, HB4.out.2⟩
end Go.Proofs.YtpinjgdnhbogoaaGreatDoor
