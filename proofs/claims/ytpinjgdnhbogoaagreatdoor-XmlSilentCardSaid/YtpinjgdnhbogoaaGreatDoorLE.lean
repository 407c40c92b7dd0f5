/- The walk of the law XmlEscapes. -/
import Derived.Test.YtpinjgdnhbogoaaGreatDoorG2
namespace Go.Proofs.YtpinjgdnhbogoaaGreatDoor
open Go.RowKit Go.Lib

theorem readD_ok {s : Str} {l : List TokD} (h : readL s = .ok l) (hs : s.length ≤ 20000) : readD s = (l, 0, 0) := by
  unfold readD; rw [if_neg (by omega), h]
theorem Toks.cells {B : Nat} {w : World} {a : Option Addr} {cap : Nat} {l : List TokD} (h : Toks B w (.slice a l.length cap) l) (hp : 0 < l.length) :
    ∃ g off, a = some ⟨g, off, none⟩ ∧ ∀ i x, l[i]? = some x → ∃ av, ElemAt w (fun k => B ≤ k ∧ k < w.heap.size) g off i x av := by
  obtain ⟨a', cap', e, h2, h3, h4⟩ := h.view.elems
  cases e
  exact h4 hp
def escT (s : Str) : List TokD := flushL [⟨1, [97], [([120], s)], []⟩] s ++ [⟨2, [97], [], []⟩]
theorem escT_nil : (escT []).length = 2 := rfl
theorem escT_cons {s : Str} (h : s ≠ []) : (escT s).length = 3 := by cases s with | nil => exact absurd rfl h | cons c s => rfl
theorem flush_cons {s : Str} (h : s ≠ []) : flushL [] s = [⟨3, [], [], s⟩] := by cases s with | nil => exact absurd rfl h | cons c s => rfl
theorem escT_0 (s : Str) : (escT s)[0]? = some ⟨1, [97], [([120], s)], []⟩ := by cases s <;> rfl
theorem escT_1 {s : Str} (h : s ≠ []) : (escT s)[1]? = some ⟨3, [], [], s⟩ := by cases s with | nil => exact absurd rfl h | cons c s => rfl
set_option maxRecDepth 100000 in
set_option maxHeartbeats 8000000 in
theorem escapes_h {w : World} (hE : Env w) (s : Str) : Calls Tryz.prog 8 #[.string (bs s)] w fun e w' => e = .returned (.bool true) ∧ Fr (fun _ => False) w w' := by
  have hsz : (bs s).size = s.length := rfl
  have HE := Lib.hid hE
  have HS := Lib.hid (shown_h hE)
  clear hE
  by_cases hlong : 1500 < s.length
  · have hd : decide ((1500 : Int) < (s.length : Int)) = true := decide_eq_true (by omega)
    go_enter Tryz.func8, Tryz.ntmps8
    go_wp2_with fail
    refine Calls.mono HS.out ?_
    rintro e w1 ⟨rfl, hF⟩
    have HF := Lib.hid hF
    clear hF
    go_wp2_with fail
    go_ret
    exact ⟨rfl, HF.out⟩
  · have hd : decide ((1500 : Int) < (s.length : Int)) = false := decide_eq_false (by omega)
    have hle := esc_le s
    have hszE : (bs (escL s)).size = (escL s).length := rfl
    have hle9 : (escL s).length ≤ 9000 := by omega
    have hr1 := readD_ok (read_esc s) (by omega)
    have HR1 := Lib.hid hr1
    clear hr1
    go_enter Tryz.func8, Tryz.ntmps8
    go_wp2_with fail
    refine Calls.mono HS.out ?_
    rintro e w1 ⟨rfl, hF⟩
    have HF := Lib.hid hF
    clear hF
    go_wp2_with fail
    refine Calls.mono (escape_h s (by omega)) ?_
    rintro e w2 ⟨rfl, hF2⟩
    have HF2 := Lib.hid (HF.out.next hF2)
    clear hF2
    go_wp2_with fail
    refine Calls.mono (read_at (HE.out.grow HF2.out) HR1.out (by omega)) ?_
    rintro e w3 ⟨⟨v, rfl, hT⟩, hF3⟩
    obtain ⟨a, cap, rfl, hc1, hc2⟩ := hT.sliced
    have HF3 := Lib.hid (HF2.out.next hF3)
    clear hF3
    have hr2 := readD_ok (read_esc_tag s) (by simp only [List.length_cons, List.length_append, List.length_nil]; omega)
    have HR2 : Hid (readD _ = (escT s, 0, 0)) := Lib.hid hr2
    clear hr2
    have hcat : (⟨#[60, 97, 32, 120, 61, 39]⟩ : ByteArray) ++ bs (escL s) ++ ⟨#[39, 62]⟩ ++ bs (escL s) ++ ⟨#[60, 47, 97, 62]⟩ = bs (60 :: 97 :: 32 :: 120 :: 61 :: 39 :: (escL s ++ 39 :: 62 :: (escL s ++ [60, 47, 97, 62]))) := by
      rw [show (⟨#[60, 97, 32, 120, 61, 39]⟩ : ByteArray) = bs [60, 97, 32, 120, 61, 39] from rfl, show (⟨#[39, 62]⟩ : ByteArray) = bs [39, 62] from rfl, show (⟨#[60, 47, 97, 62]⟩ : ByteArray) = bs [60, 47, 97, 62] from rfl]
      simp only [bs_append, List.cons_append, List.nil_append, List.append_assoc]
    have HCat := Lib.hid hcat
    clear hcat
    have HRead := Lib.hid (fun (W : World) (hF : Fr (fun _ => False) w W) => read_at (HE.out.grow hF) HR2.out (by simp only [List.length_cons, List.length_append, List.length_nil]; omega))
    by_cases hs0 : s = []
    · subst hs0
      have hb0 : (bs []).toList = [] := bs_toList []
      rw [show flushL [] [] = ([] : List TokD) from rfl]
      clear hT
      go_wp2_with fail
      rw [HCat.out]
      refine Calls.mono (HRead.out _ HF3.out) ?_
      rintro e w4 ⟨⟨v4, rfl, hT4⟩, hF4⟩
      obtain ⟨a4, cap4, rfl, hc41, hc42⟩ := hT4.sliced
      have HF4 := Lib.hid (HF3.out.next hF4)
      clear hF4
      obtain ⟨g, off, rfl, hel⟩ := hT4.cells (by rw [escT_nil]; decide)
      obtain ⟨av, h0⟩ := hel 0 _ (escT_0 _)
      have d2 := h0.c2
      obtain ⟨_, aa, acap, rfl, hac, _, _, _⟩ := id h0.row
      obtain ⟨ga, oa, rfl, hca⟩ := h0.row.cell (Nat.lt_succ_self 0)
      have f0 := hca 0 (.string (bs [120])) rfl
      have f1 := hca 1 (.string (bs [])) rfl
      rw [escT_nil]
      simp only [Nat.zero_mul, Nat.add_zero] at d2 f0
      have hx0 : bs [120] = ⟨#[120]⟩ := rfl
      clear hT4 hel h0 hca
      go_wp2_with fail
      go_ret
      exact ⟨rfl, HF4.out⟩
    · rw [flush_cons hs0] at hT ⊢
      obtain ⟨g0, off0, rfl, hel0⟩ := hT.cells (Nat.lt_succ_self 0)
      obtain ⟨av0, h00⟩ := hel0 0 _ rfl
      have k0 := h00.c0
      have k3 := h00.c3
      simp only [Nat.zero_mul, Nat.add_zero] at k0 k3
      clear hT hel0 h00
      have hb1 : ¬ (bs s).toList = [] := by rw [bs_toList]; exact hs0
      have hb2 : (bs s).toList.isEmpty = false := by rw [bs_toList]; exact List.isEmpty_eq_false_iff.2 hs0
      have hlen1 : ([⟨3, [], [], s⟩] : List TokD).length = 1 := rfl
      rw [hlen1]
      have HS0 := Lib.hid hs0
      clear hlen1 hs0
      go_wp2_with fail
      rw [HCat.out]
      refine Calls.mono (HRead.out _ HF3.out) ?_
      rintro e w4 ⟨⟨v4, rfl, hT4⟩, hF4⟩
      obtain ⟨a4, cap4, rfl, hc41, hc42⟩ := hT4.sliced
      have HF4 := Lib.hid (HF3.out.next hF4)
      clear hF4
      obtain ⟨g, off, rfl, hel⟩ := hT4.cells (by rw [escT_cons HS0.out]; decide)
      obtain ⟨av, h0⟩ := hel 0 _ (escT_0 _)
      obtain ⟨av1, h1⟩ := hel 1 _ (escT_1 HS0.out)
      have d2 := h0.c2
      have d7 := h1.c3
      obtain ⟨_, aa, acap, rfl, hac, _, _, _⟩ := id h0.row
      obtain ⟨ga, oa, rfl, hca⟩ := h0.row.cell (Nat.lt_succ_self 0)
      have f0 := hca 0 (.string (bs [120])) rfl
      have f1 := hca 1 (.string (bs s)) rfl
      rw [escT_cons HS0.out]
      simp only [Nat.zero_mul, Nat.one_mul, Nat.add_zero] at d2 d7 f0
      have hx0 : bs [120] = ⟨#[120]⟩ := rfl
      clear hT4 hel h0 h1 hca
      go_wp2_with fail
      trace_state
      go_ret
      exact ⟨rfl, HF4.out⟩
end Go.Proofs.YtpinjgdnhbogoaaGreatDoor
