/- shown: chapter 11's examples. -/
import Derived.Test.YtpinjgdnhbogoaaGreatDoorG1
namespace Go.Proofs.YtpinjgdnhbogoaaGreatDoor
open Go.RowKit Go.Lib

theorem read_at {w : World} (hE : Env w) {s : Str} {l : List TokD} {a b : Int} (hr : readD s = (l, a, b)) (hs : s.length ≤ 1000000) :
    Calls Tryz.prog 35 #[.string (bs s)] w fun e w' => (∃ v, e = .returned (.tuple #[v, .int .i64 a, .int .i64 b]) ∧ Toks w.heap.size w' v l) ∧ Fr (fun _ => False) w w' := by
  refine (read_h hE s hs).mono fun e w' h => ?_
  unfold ReadPost at h
  rw [hr] at h
  exact h
theorem Toks.sliced {B : Nat} {w : World} {v : Value} {l : List TokD} (h : Toks B w v l) : ∃ a cap, v = .slice a l.length cap ∧ l.length ≤ cap ∧ cap ≤ maxLen := by
  obtain ⟨a, cap, h1, h2, h3, _⟩ := h.view.elems
  exact ⟨a, cap, h1, h2, h3⟩
def ex1 : Str := [60, 97, 32, 98, 61, 34, 49, 38, 97, 109, 112, 59, 50, 34, 62, 120, 60, 33, 45, 45, 32, 121, 32, 45, 45, 62, 60, 33, 91, 67, 68, 65, 84, 65, 91, 60, 122, 62, 93, 93, 62, 60, 47, 97, 62]
def ex1T : List TokD := [⟨1, [97], [([98], [49, 38, 50])], []⟩, ⟨3, [], [], [120, 60, 122, 62]⟩, ⟨2, [97], [], []⟩]
theorem r1 : readD ex1 = (ex1T, 0, 0) := by decide +kernel
theorem r2 : readD [60, 97, 47, 62] = ([⟨1, [97], [], []⟩, ⟨2, [97], [], []⟩], 0, 0) := by decide +kernel
theorem r3 : readD [60, 97, 32, 98, 61, 49, 62] = ([], 8, 0) := by decide +kernel
theorem r4 : readD [120, 38, 121, 59] = ([], 8, 1) := by decide +kernel
theorem r5 : readD [60, 97, 32, 98, 61, 34, 49, 34, 32, 98, 61, 34, 50, 34, 62] = ([], 8, 0) := by decide +kernel
theorem r6 : readD [60, 97] = ([], 8, 0) := by decide +kernel
theorem e1 : escL [97, 38, 39] = [97, 38, 97, 109, 112, 59, 38, 97, 112, 111, 115, 59] := by decide +kernel
set_option maxHeartbeats 4000000 in
theorem wrong_h {w : World} (hE : Env w) {s : Str} {n : Int} (hr : readD s = ([], 8, n)) (hs : s.length ≤ 1000000) :
    Calls Tryz.prog 74 #[.string (bs s), .int .i64 n] w fun e w' => e = .returned (.bool true) ∧ Fr (fun _ => False) w w' := by
  have H := Lib.hid (read_at hE hr hs)
  clear hr hE
  go_enter Tryz.func74, Tryz.ntmps74
  go_wp2_with fail
  refine H.out.mono ?_
  rintro e w1 ⟨⟨v, rfl, hT⟩, hF⟩
  obtain ⟨a, cap, rfl, _, _⟩ := hT.sliced
  have HF := Lib.hid hF
  clear hT hF
  go_wp2_with fail
  go_ret
  exact ⟨rfl, HF.out⟩
set_option maxRecDepth 100000 in
set_option maxHeartbeats 4000000 in
theorem shown_h {w : World} (hE : Env w) : Calls Tryz.prog 34 #[] w fun e w' => e = .returned (.bool true) ∧ Fr (fun _ => False) w w' := by
  have H1 := Lib.hid (read_at hE r1 (by decide))
  have HE := Lib.hid hE
  clear hE
  go_enter Tryz.func34, Tryz.ntmps34
  go_wp2_with fail
  refine Calls.mono H1.out ?_
  rintro e w1 ⟨⟨v, rfl, hT⟩, hF⟩
  obtain ⟨a, cap, rfl, _, _⟩ := hT.sliced
  have HF := Lib.hid hF
  have HT := Lib.hid hT
  clear hT hF
  go_wp2_with fail
  obtain ⟨w3, hw3⟩ : ∃ w3, (w1.alloc (Obj.cells #[Value.string ⟨#[98]⟩, Value.string ⟨#[49, 38, 50]⟩] 95)).alloc (Obj.cells #[Value.int IntKind.i64 1, Value.string ⟨#[97]⟩, Value.slice (some ⟨w1.heap.size, 0, none⟩) 1 1, Value.string ⟨#[]⟩, Value.int IntKind.i64 3, Value.string ⟨#[]⟩, Value.slice none 0 0, Value.string ⟨#[120, 60, 122, 62]⟩, Value.int IntKind.i64 2, Value.string ⟨#[97]⟩, Value.slice none 0 0, Value.string ⟨#[]⟩] 97) = w3 := ⟨_, rfl⟩
  have hF3 : Fr (fun _ => False) w1 w3 := by rw [← hw3]; exact ((Fr.refl _ _).alloc _).alloc _
  have hU : TokV w3 (fun _ => True) (.slice (some ⟨w1.heap.size + 1, 0, none⟩) 3 3) ex1T := by
    refine ⟨[(⟨1, [97], [([98], [49, 38, 50])], []⟩, .slice (some ⟨w1.heap.size, 0, none⟩) 1 1), (⟨3, [], [], [120, 60, 122, 62]⟩, .slice none 0 0), (⟨2, [97], [], []⟩, .slice none 0 0)], rfl, ?_, fun p hp => ?_⟩
    · rw [← hw3]
      exact SRow.of_block (e := 97) (f := (0, 0)) (block_new_at (by simp)) rfl (by unfold maxLen; simp) trivial
    · simp only [List.mem_cons, List.not_mem_nil, or_false] at hp
      rcases hp with rfl | rfl | rfl
      · rw [← hw3]
        exact SRow.of_block (e := 95) (f := (0, 0)) (((Fr.refl (fun _ => False) _).alloc _).keep (block_new _ _) (fun h => h)) rfl (by unfold maxLen; simp) trivial
      · exact SRow.nil _ _ _
      · exact SRow.nil _ _ _
  rw [hw3]
  refine Calls.mono (alike_h (HT.out.fr hF3).view hU (by decide) (by decide)) ?_
  rintro e w4 ⟨rfl, p, rfl⟩
  have hd : decide (ex1T = ex1T) = true := by simp
  rw [hd]
  have HF4 := Lib.hid ((HF.out.next hF3).drewN p)
  clear hw3 hF3 hU hd
  generalize w3.drewN p = w4 at HF4 ⊢
  go_wp2_with fail
  refine Calls.mono (read_at (HE.out.grow HF4.out) r2 (by decide)) ?_
  rintro e w5 ⟨⟨v5, rfl, hT5⟩, hF5⟩
  obtain ⟨a5, cap5, rfl, _, _⟩ := hT5.sliced
  have HF5 := Lib.hid (HF4.out.next hF5)
  clear hT5 hF5
  go_wp2_with fail
  refine Calls.mono (wrong_h (HE.out.grow HF5.out) r3 (by decide)) ?_
  rintro e w6 ⟨rfl, hF6⟩
  have HF6 := Lib.hid (HF5.out.next hF6)
  clear hF6
  go_wp2_with fail
  refine Calls.mono (wrong_h (HE.out.grow HF6.out) r4 (by decide)) ?_
  rintro e w7 ⟨rfl, hF7⟩
  have HF7 := Lib.hid (HF6.out.next hF7)
  clear hF7
  go_wp2_with fail
  refine Calls.mono (wrong_h (HE.out.grow HF7.out) r5 (by decide)) ?_
  rintro e w8 ⟨rfl, hF8⟩
  have HF8 := Lib.hid (HF7.out.next hF8)
  clear hF8
  go_wp2_with fail
  refine Calls.mono (wrong_h (HE.out.grow HF8.out) r6 (by decide)) ?_
  rintro e w9 ⟨rfl, hF9⟩
  have HF9 := Lib.hid (HF8.out.next hF9)
  clear hF9
  go_wp2_with fail
  refine Calls.mono (escape_h [97, 38, 39] (by decide)) ?_
  rintro e w10 ⟨rfl, hF10⟩
  have HF10 := Lib.hid (HF9.out.next hF10)
  clear hF10
  rw [e1]
  have hst : (bs [97, 38, 97, 109, 112, 59, 38, 97, 112, 111, 115, 59]).toList = [97, 38, 97, 109, 112, 59, 38, 97, 112, 111, 115, 59] := bs_toList _
  go_wp2_with fail
  trace_state
  go_ret
  exact ⟨rfl, HF10.out⟩
end Go.Proofs.YtpinjgdnhbogoaaGreatDoor
