/- snap.Pack: walked. -/
import Derived.Test.YtgmghopcppniaaaGreatDoorS14
namespace Go.Proofs.YtgmghopcppniaaaGreatDoor
open Go.RowKit Go.Lib Go.Shelf

attribute [local go_sem] Oper.semAt_some
theorem frame_ok {w : World} (s : Str) (hs : s.length ≤ 1000) : Calls Tryz.prog 67 #[.string (bs s)] w fun e w' => e = .returned (.tuple #[.string (bs (frameL s)), .int .i64 0]) ∧ Fr (fun _ => False) w w' := by
  refine (frame_h s (by omega)).mono ?_
  rintro e w' ⟨rfl, h⟩
  have : frameD s = (frameL s, 0) := by unfold frameD; rw [if_pos (by omega)]
  exact ⟨by rw [this], h⟩
theorem pays_len (pre : List Chunk) : ((vals pre).flatMap frameL).length ≤ 1008 * pre.length := by
  induction pre with
  | nil => exact Nat.zero_le _
  | cons c l ih =>
    unfold vals at *
    rw [List.map_cons, List.flatMap_cons, List.length_append, frame_len, List.length_cons]
    have := c.2
    omega
theorem isB_lt {B b : Nat} {l : List Value} {w : World} (h : Lib.IsBuilderF 108 5 B b l w) : b < w.heap.size := by
  rcases h with ⟨_, v, hb, _⟩ | ⟨_, v, hb, _⟩ <;> exact lt_of_block hb
theorem others_keepB {b k : Nat} {w w' : World} {c : Array Value} {T : TypeId} {f : Nat × Nat} (h : Lib.OthersKept 5 (some b) w w') (hk : k ≠ b) (hT : T ≠ 5) : KeepB k (.cells c T f) w w' :=
  fun e => h k _ e (by simpa using hk) (fun c' f' e' => by injection e' with _ e' _; exact hT e')
theorem others_from {b B : Nat} {w w' : World} (h : Lib.OthersKept 5 (some b) w w') (hb : b < B) (hs : w.heap.size ≤ w'.heap.size) : KeepsFrom B w w' :=
  ⟨hs, fun k o hk ho hc => h k o ho (by simp; omega) (fun c f e => by rw [e] at hc; cases hc)⟩
theorem fr_from {B : Nat} {w w' : World} (h : Fr (fun _ => False) w w') : KeepsFrom B w w' := ⟨h.size, fun _ _ _ ho _ => h.keep ho (fun h => h)⟩
theorem fr_keepB {k : Nat} {o : Obj} {w w' : World} (h : Fr (fun _ => False) w w') : KeepB k o w w' := fun e => h.keep e (fun h => h)
theorem fr_below {w w' : World} (h : Below w.heap.size w w') : Fr (fun _ => False) w w' := ⟨h.os, h.tape, h.output, h.size, fun k hk _ => h.block k hk⟩
def PackPost (b : BaseD) (w : World) (e : Ending) (w' : World) : Prop := e = .returned (.tuple #[.string (bs (packD b).1), .int .i64 (packD b).2]) ∧ Fr (fun _ => False) w w'
set_option maxRecDepth 100000 in
set_option maxHeartbeats 8000000 in
theorem pack_h {w : World} {b : BaseD} {v : Value} (h : BaseIn w (fun k => k < w.heap.size) b v) : Calls Tryz.prog 21 #[baseV b v] w (PackPost b w) := by
  have hrow := h.row
  obtain ⟨a, cap, rfl, hcap, hcap2⟩ := hrow.form
  clear hrow
  have HH := Lib.hid h
  clear h
  refine (callsIn_wide (n := 5)).1 ?_
  refine callsIn_of_wp_marks Tryz.func21 rfl trivial ?_ rfl
  simp only [Tryz.ntmps21, List.size_toArray, List.length_cons, List.length_nil, Nat.reduceAdd, Nat.reduceSub, Array.replicate_succ, Array.replicate_zero, List.push_toArray, List.append_toArray, List.nil_append, List.cons_append]
  refine wpIn_wide.2 ?_
  have HA : baseV b (.slice a b.voters.length cap) = .agg #[.int .i64 b.index, .int .i64 b.term, .slice a b.voters.length cap, .string (bs b.data)] := rfl
  rw [HA]
  obtain ⟨w1, hw1⟩ : ∃ w1, w1 = w.alloc (.cells #[.int .i64 b.index, .int .i64 b.term, .slice a b.voters.length cap, .string (bs b.data)] 24) := ⟨_, rfl⟩
  have hB1 : w1.heap[w.heap.size]? = some (.cells #[.int .i64 b.index, .int .i64 b.term, .slice a b.voters.length cap, .string (bs b.data)] 24 (0, 0)) := by rw [hw1]; exact block_new _ _
  have HF1 : Hid (Fr (fun _ => False) w w1) := by show Fr _ _ _; rw [hw1]; exact (Fr.refl _ _).alloc _
  have HH1 := Lib.hid (HH.out.grow HF1.out)
  have HR := Lib.hid (right_h HH1.out)
  rw [HA] at HR
  have HB1 := Lib.hid hB1
  clear hB1 HA
  go_wp2_with fail
  rw [← hw1]
  clear hw1
  refine Calls.mono HR.out ?_
  rintro e w2 ⟨rfl, hf2⟩
  have HF2 := Lib.hid (HF1.out.next hf2)
  have hB2 := hf2.keep HB1.out (fun h => h)
  have HH2 := Lib.hid (HH1.out.grow hf2)
  have x0 := cell_of hB2 (i := 0) (v := .int .i64 b.index) rfl
  have x1 := cell_of hB2 (i := 1) (v := .int .i64 b.term) rfl
  have x2 := cell_of hB2 (i := 2) (v := .slice a b.voters.length cap) rfl
  have x3 := cell_of hB2 (i := 3) (v := .string (bs b.data)) rfl
  have hl2 := lt_of_block hB2
  clear hf2 HR hB2
  cases hr : rightB b with
  | false =>
    have HP : Hid (packD b = ([], 1)) := by show packD b = _; unfold packD; rw [hr]; rfl
    clear hr
    go_wp2_with fail
    refine ⟨_, (by simp [results, Tryz.results21, go_sem] <;> rfl), ?_⟩
    exact ⟨by rw [HP.out]; rfl, HF2.out⟩
  | true =>
    have HP : Hid (packD b = (packL b, 0)) := by show packD b = _; unfold packD; rw [hr]; rfl
    have HR := Lib.hid hr
    clear hr
    go_wp2_with (go_at_call 66; refine Calls.mono (payloads_h (b := b) (v := .slice a b.voters.length cap)) ?_; rintro e w4 ⟨rfl, rfl⟩)
    obtain ⟨w3, hw3⟩ : ∃ w3, w3 = w2.alloc (.cells #[.pointer none, .slice none 0 0] 108) := ⟨_, rfl⟩
    have hI3 : Lib.IsBuilderF 108 5 w2.heap.size w2.heap.size (Lib.byteCells []) w3 := by rw [hw3]; exact isB_new _ _ rfl
    have hF3 : Fr (fun _ => False) w w3 := by rw [hw3]; exact HF2.out.alloc _
    have hs3 : w3.heap.size = w2.heap.size + 1 := by rw [hw3]; simp
    rw [← hw3]
    obtain ⟨w4, hw4⟩ : ∃ w4, w4 = w3.alloc (.cells #[.int .i64 b.index, .int .i64 b.term, .slice a b.voters.length cap, .string (bs b.data)] 24) := ⟨_, rfl⟩
    have hF34 : Fr (fun _ => False) w3 w4 := by rw [hw4]; exact (Fr.refl _ _).alloc _
    have hI4 := isB_fr hI3 hF34
    have hB4 : w4.heap[w2.heap.size + 1]? = some (.cells #[.int .i64 b.index, .int .i64 b.term, .slice a b.voters.length cap, .string (bs b.data)] 24 (0, 0)) := by rw [hw4, ← hs3]; exact block_new _ _
    have hF4 := hF3.next hF34
    have hH4 : BaseIn w4 (fun k => k < w4.heap.size) b (.slice a b.voters.length cap) := (HH.out.grow hF4).mono fun k hk => Nat.lt_of_lt_of_le hk hF4.size
    have hs4 : w4.heap.size = w2.heap.size + 2 := by rw [hw4]; simp; omega
    rw [← hw4]
    have hww : w.heap.size ≤ w2.heap.size := HF2.out.size
    clear hw3 hw4 hF3 hF34 hI3 x0 x1 x2 x3 hl2
    refine (wpIn_wide (n := 5)).1 ?_
    refine wpIn_rangeFunc_ownG (F := Fence.wide) rfl (by decide) (gf := 119) (lb := #[.pointer (some ⟨w2.heap.size + 1, 0, none⟩)]) rfl trivial (enters_of Tryz.func119 (by kernel_rfl) rfl)
      (pay_stops hB4 hH4 HR.out) keepB_t (keepB_b (lt_of_block hB4)) (Below.refl _ _) (fun _ => rfl)
      (fun pre W => Lib.IsBuilderF 108 5 w2.heap.size w2.heap.size (Lib.byteCells ((vals pre).flatMap frameL)) W ∧ Below w.heap.size w W)
      (fun _ _ _ => False) ?hI ?hIx ?h0
      (fun x => { tmps := #[.agg #[.int .i64 b.index, .int .i64 b.term, .slice a b.voters.length cap, .string (bs b.data)], .pointer (some ⟨w.heap.size, 0, none⟩), .string ⟨#[]⟩, .int .i64 0, .pointer (some ⟨w2.heap.size, 0, none⟩), .string (bs x.1), undef, undef, .agg #[.int .i64 b.index, .int .i64 b.term, .slice a b.voters.length cap, .string (bs b.data)], .bool true, .bool false, .agg #[.int .i64 b.index, .int .i64 b.term, .slice a b.voters.length cap, .string (bs b.data)], .func (.func 119) #[] #[.pointer (some ⟨w2.heap.size + 1, 0, none⟩)], .string (bs x.1), undef, undef, undef, undef, undef, undef, undef, undef], defers := [] }) ?assign ?body ?done ?stop
    case hI => exact fun s A B row hs hg hr => ⟨isB_turn hs.1 hg (fun r e => (hr r e).2), hs.2.grown hg hs.2.size (fun k e => by have := (hr k e).1; omega)⟩
    case hIx => exact fun _ _ _ _ _ hs _ _ => hs.elim
    case h0 => exact ⟨hI4, hF4.below (Nat.le_refl _) (fun _ h => h.elim)⟩
    case assign =>
      intro l x W K hK
      gi_wp2
      exact hK
    case body =>
      rintro l pre x W ⟨hb, hlow⟩ hlt
      obtain ⟨x, hx⟩ := x
      have hdat := HH.out.data
      have hpl := pays_len pre
      have hcp := chunk_pays (b := b)
      have HH5 := Lib.hid (frame_ok (w := W) x (by omega))
      dsimp only
      have HBI := Lib.hid hb
      have HLO := Lib.hid hlow
      have hlx : (frameL x).length = 8 + x.length := frame_len x
      clear hb hlow hB4 hH4 hI4
      gi_wp2_with ((first | refine ⟨trivial, ?_⟩ | skip); gi_at_call 67; refine (CallsIn.inRound l (callsIn_wide.2 HH5.out)).mono ?_)
      rintro e W1 ⟨rfl, hf1⟩
      have hbw := isB_lt HBI.out
      have HW1 := Lib.hid (bput (a := frameL x) (isB_fr HBI.out hf1) (by omega) (by have := hf1.size; omega))
      have HF1 := Lib.hid hf1
      clear hf1
      gi_wp2_with ((first | refine ⟨trivial, ?_⟩ | skip); gi_at_call 61; refine (CallsIn.inRound l (callsIn_wide.2 HW1.out)).mono ?_)
      rintro e W2 ⟨rfl, h2, h3, h4⟩
      have HF2 := Lib.hid h2
      have HF3 := Lib.hid h3
      have HF4 := Lib.hid h4
      clear h2 h3 h4
      gi_wp2
      refine ⟨(fr_from HF1.out).trans (others_from HF4.out (by omega) HF3.out.size), keepB_t (fr_keepB HF1.out) (others_keepB HF4.out (by omega) (by decide)), ?_, (HLO.out.trans (HF1.out.below (by have := HLO.out.size; omega) (fun _ h => h.elim))).trans (HF3.out.mono (by omega))⟩
      rw [vals_snoc, List.flatMap_append]
      have := HF2.out
      rwa [show List.flatMap frameL [x] = frameL x from List.append_nil _]
    case done =>
      rintro D ys W hD hys ⟨hb, hlow⟩ hK
      rw [hys] at hb
      have hDl := lt_of_block hK
      have HS := Lib.hid (cstring_any_k _ _ _ W hb (by omega))
      have HLO := Lib.hid hlow
      have HK := Lib.hid hK
      clear hb hlow hK hB4 hH4 hI4 hys
      go_wp2_with (go_at_call 62; refine Calls.mono HS.out ?_)
      rintro e W2 ⟨rfl, h2, h3, h4⟩
      have HL2 := Lib.hid (HLO.out.trans (h3.mono hww))
      have HK2 := Lib.hid (h4 D _ HK.out (by simp; omega) (fun c f e => by cases e))
      clear h2 h3 h4
      go_wp2_with fail
      refine ⟨by simp, .inl ⟨_, _, rfl, run_takeDeferred HK2.out, ?_⟩⟩
      refine ⟨_, (by simp [results, Tryz.results21, go_sem] <;> rfl), ?_⟩
      exact ⟨by rw [HP.out]; rfl, fr_below (HL2.out.trans (belowK_b (w := w) (Nat.le_refl _) W2 D _ _ (by omega) HK2.out rfl rfl))⟩
    case stop =>
      rintro D c pre W _ _ h _
      exact h.elim
end Go.Proofs.YtgmghopcppniaaaGreatDoor
