/- The reference's part, walked. -/
import Derived.Test.YtpinjgdnhbogoaaGreatDoorQA
import Derived.Test.YtpinjgdnhbogoaaGreatDoorY4
namespace Go.Proofs.YtpinjgdnhbogoaaGreatDoor
open Go.RowKit Go.Lib

/-- what part tells -/
def RPartPost (s : Str) (w : World) (e : Ending) (w' : World) : Prop :=
  ∃ u l n a cap, RPart s u l n ∧ e = .returned (.tuple #[.string (bs u), .slice a l.length cap, .int .i64 ((n : Nat) : Int)]) ∧ RToks w.heap.size w' (.slice a l.length cap) l ∧ Fr (fun _ => False) w w'
theorem rpart_quiet {s u : Str} {n : Nat} {w w' : World} (h : RPart s u [] n) (hf : Fr (fun _ => False) w w') : RPartPost s w (.returned (.tuple #[.string (bs u), .slice none 0 0, .int .i64 ((n : Nat) : Int)])) w' :=
  ⟨u, [], n, none, 0, h, rfl, RToks.nil _ _, hf⟩
theorem rpart_none {s : Str} {w w' : World} (h : partL s = none) (hf : Fr (fun _ => False) w w') : RPartPost s w (.returned (.tuple #[.string ⟨#[]⟩, .slice none 0 0, .int .i64 0])) w' :=
  ⟨[], [], 0, none, 0, RPart.zero h, rfl, RToks.nil _ _, hf⟩
theorem rpart_loud {s : Str} {l : List TokD} {n k : Nat} {a : Option Addr} {cap : Nat} {w w' : World} (h : RPart s [] l n) (hk : l.length = k) (hT : RToks w.heap.size w' (.slice a k cap) l) (hf : Fr (fun _ => False) w w') : RPartPost s w (.returned (.tuple #[.string ⟨#[]⟩, .slice a k cap, .int .i64 ((n : Nat) : Int)])) w' := by
  subst hk
  exact ⟨[], l, n, a, cap, h, rfl, hT, hf⟩
set_option maxRecDepth 100000 in
set_option maxHeartbeats 8000000 in
theorem rpart1 {w : World} (s : Str) (hs1 : 1 ≤ s.length) (hs : s.length ≤ 100000) (h : ([60, 33, 45, 45] : Str).isPrefixOf s = true) : Calls Tryz.prog 85 #[.string (bs s)] w (RPartPost s w) := by
  have hsz : (bs s).size = s.length := rfl
  have hp := pre_drop h
  have HR := Lib.hid (until_part (p := [45, 45, 62]) (i := 4) (by decide) (by simpa using hp) (rpart_c  h))
  have HU := Lib.hid (fun (W : World) => runtil_h (w := W) s [45, 45, 62] 4 (by omega) (by decide) (by decide) (by omega))
  have C1 := Lib.hid (fun (W : World) => rbegins_h (w := W) s [60, 33, 45, 45] (by omega) (by decide))
  rw [h] at C1
  obtain ⟨N, hN⟩ : ∃ N, untilN [45, 45, 62] s 4 = N := ⟨_, rfl⟩
  rw [hN] at HR HU
  clear h hp hN
  go_enter Tryz.func85, Tryz.ntmps85
  go_wp2_with fail
  refine Calls.mono (C1.out _) ?_
  rintro e w1 ⟨rfl, rfl⟩
  go_wp2_with fail
  refine Calls.mono (HU.out _) ?_
  rintro e w1 ⟨rfl, rfl⟩
  go_wp2_with fail
  refine bodyPost_ret (v := .tuple #[.string ⟨#[]⟩, .slice none 0 0, .int .i64 (N : Int)]) (by simp [results, Tryz.results85, go_sem] <;> rfl) rfl ?_
  exact rpart_quiet (u := []) HR.out (Fr.refl _ _)
set_option maxRecDepth 100000 in
set_option maxHeartbeats 8000000 in
theorem rpart2 {w : World} (s : Str) (hs1 : 1 ≤ s.length) (hs : s.length ≤ 100000) (h1 : ([60, 33, 45, 45] : Str).isPrefixOf s = false) (h : ([60, 63] : Str).isPrefixOf s = true) : Calls Tryz.prog 85 #[.string (bs s)] w (RPartPost s w) := by
  have hsz : (bs s).size = s.length := rfl
  have hp := pre_drop h
  have HR := Lib.hid (until_part (p := [63, 62]) (i := 2) (by decide) (by simpa using hp) (rpart_i h1 h))
  have HU := Lib.hid (fun (W : World) => runtil_h (w := W) s [63, 62] 2 (by omega) (by decide) (by decide) (by omega))
  have C1 := Lib.hid (fun (W : World) => rbegins_h (w := W) s [60, 33, 45, 45] (by omega) (by decide))
  rw [h1] at C1
  have C2 := Lib.hid (fun (W : World) => rbegins_h (w := W) s [60, 63] (by omega) (by decide))
  rw [h] at C2
  obtain ⟨N, hN⟩ : ∃ N, untilN [63, 62] s 2 = N := ⟨_, rfl⟩
  rw [hN] at HR HU
  clear h1 h hp hN
  go_enter Tryz.func85, Tryz.ntmps85
  go_wp2_with fail
  refine Calls.mono (C1.out _) ?_
  rintro e w1 ⟨rfl, rfl⟩
  go_wp2_with fail
  refine Calls.mono (C2.out _) ?_
  rintro e w1 ⟨rfl, rfl⟩
  go_wp2_with fail
  refine Calls.mono (HU.out _) ?_
  rintro e w1 ⟨rfl, rfl⟩
  go_wp2_with fail
  refine bodyPost_ret (v := .tuple #[.string ⟨#[]⟩, .slice none 0 0, .int .i64 (N : Int)]) (by simp [results, Tryz.results85, go_sem] <;> rfl) rfl ?_
  exact rpart_quiet (u := []) HR.out (Fr.refl _ _)
set_option maxRecDepth 100000 in
set_option maxHeartbeats 8000000 in
theorem rpart3 {w : World} (s : Str) (hs1 : 1 ≤ s.length) (hs : s.length ≤ 100000) (h1 : ([60, 33, 45, 45] : Str).isPrefixOf s = false) (h2 : ([60, 63] : Str).isPrefixOf s = false) (h : ([60, 33, 91, 67, 68, 65, 84, 65, 91] : Str).isPrefixOf s = true) : Calls Tryz.prog 85 #[.string (bs s)] w (RPartPost s w) := by
  have hsz : (bs s).size = s.length := rfl
  have hp := pre_drop h
  have hp9 : 9 ≤ s.length := by simpa using hp
  have HR := Lib.hid (data_part hp9 (rpart_d h1 h2 h))
  have HU := Lib.hid (fun (W : World) => runtil_h (w := W) s [93, 93, 62] 9 (by omega) (by decide) (by decide) (by omega))
  have C1 := Lib.hid (fun (W : World) => rbegins_h (w := W) s [60, 33, 45, 45] (by omega) (by decide))
  rw [h1] at C1
  have C2 := Lib.hid (fun (W : World) => rbegins_h (w := W) s [60, 63] (by omega) (by decide))
  rw [h2] at C2
  have C3 := Lib.hid (fun (W : World) => rbegins_h (w := W) s [60, 33, 91, 67, 68, 65, 84, 65, 91] (by omega) (by decide))
  rw [h] at C3
  obtain ⟨N, hN⟩ : ∃ N, untilN [93, 93, 62] s 9 = N := ⟨_, rfl⟩
  rw [hN] at HR HU
  clear h1 h2 h hp hN
  by_cases hN0 : N = 0
  · have HE := Lib.hid (show partL s = none from by
      rcases HR.out with ⟨_, h⟩ | ⟨h, _⟩
      · exact h
      · omega)
    have t0 : ((N : Int) == 0) = true := by rw [hN0]; rfl
    clear hN0 hp9
    go_enter Tryz.func85, Tryz.ntmps85
    go_wp2_with fail
    refine Calls.mono (C1.out _) ?_
    rintro e w1 ⟨rfl, rfl⟩
    go_wp2_with fail
    refine Calls.mono (C2.out _) ?_
    rintro e w1 ⟨rfl, rfl⟩
    go_wp2_with fail
    refine Calls.mono (C3.out _) ?_
    rintro e w1 ⟨rfl, rfl⟩
    go_wp2_with fail
    refine Calls.mono (HU.out _) ?_
    rintro e w1 ⟨rfl, rfl⟩
    go_wp2_with fail
    refine bodyPost_ret (v := .tuple #[.string ⟨#[]⟩, .slice none 0 0, .int .i64 0]) (by simp [results, Tryz.results85, go_sem] <;> rfl) rfl ?_
    exact rpart_none HE.out (Fr.refl _ _)
  · have HE := Lib.hid (show 12 ≤ N ∧ RPart s ((s.take (N - 3)).drop 9) [] N from by
      rcases HR.out with ⟨h, _⟩ | h
      · exact absurd h hN0
      · exact h)
    have hNl := RPart.le HE.out.2
    have t0 : ((N : Int) == 0) = false := by rw [beq_eq_false_iff_ne]; omega
    have hN12 := HE.out.1
    obtain ⟨M, rfl⟩ : ∃ M, N = M + 3 := ⟨N - 3, by omega⟩
    have hM9 : 9 ≤ M := by omega
    have hMl : M ≤ s.length := by omega
    have hsub : ((M + 3 : Nat) : Int) - 3 = (M : Int) := by omega
    have hx : (bs s).extract 9 M = bs ((s.take (M + 3 - 3)).drop 9) := by rw [bs_mid, Nat.add_sub_cancel, List.drop_take]
    clear hN0 hp9 hN12
    go_enter Tryz.func85, Tryz.ntmps85
    go_wp2_with fail
    refine Calls.mono (C1.out _) ?_
    rintro e w1 ⟨rfl, rfl⟩
    go_wp2_with fail
    refine Calls.mono (C2.out _) ?_
    rintro e w1 ⟨rfl, rfl⟩
    go_wp2_with fail
    refine Calls.mono (C3.out _) ?_
    rintro e w1 ⟨rfl, rfl⟩
    go_wp2_with fail
    refine Calls.mono (HU.out _) ?_
    rintro e w1 ⟨rfl, rfl⟩
    go_wp2_with fail
    refine bodyPost_ret (v := .tuple #[.string (bs ((s.take (M + 3 - 3)).drop 9)), .slice none 0 0, .int .i64 ((M + 3 : Nat) : Int)]) (by simp [results, Tryz.results85, go_sem] <;> rfl) rfl ?_
    exact rpart_quiet HE.out.2 (Fr.refl _ _)
set_option maxRecDepth 100000 in
set_option maxHeartbeats 8000000 in
theorem rpart4 {w : World} (s : Str) (hs1 : 1 ≤ s.length) (hs : s.length ≤ 100000) (h1 : ([60, 33, 45, 45] : Str).isPrefixOf s = false) (h2 : ([60, 63] : Str).isPrefixOf s = false) (h3 : ([60, 33, 91, 67, 68, 65, 84, 65, 91] : Str).isPrefixOf s = false) (h : ([60, 33, 68, 79, 67, 84, 89, 80, 69] : Str).isPrefixOf s = true) : Calls Tryz.prog 85 #[.string (bs s)] w (RPartPost s w) := by
  have hsz : (bs s).size = s.length := rfl
  have HR := Lib.hid (doc_part h (rpart_t h1 h2 h3 h))
  have HU := Lib.hid (fun (W : World) => runtil_h (w := W) s [62] 9 (by omega) (by decide) (by decide) (by omega))
  have C1 := Lib.hid (fun (W : World) => rbegins_h (w := W) s [60, 33, 45, 45] (by omega) (by decide))
  rw [h1] at C1
  have C2 := Lib.hid (fun (W : World) => rbegins_h (w := W) s [60, 63] (by omega) (by decide))
  rw [h2] at C2
  have C3 := Lib.hid (fun (W : World) => rbegins_h (w := W) s [60, 33, 91, 67, 68, 65, 84, 65, 91] (by omega) (by decide))
  rw [h3] at C3
  have C4 := Lib.hid (fun (W : World) => rbegins_h (w := W) s [60, 33, 68, 79, 67, 84, 89, 80, 69] (by omega) (by decide))
  rw [h] at C4
  obtain ⟨N, hN⟩ : ∃ N, untilN [62] s 9 = N := ⟨_, rfl⟩
  rw [hN] at HR HU
  have hNl := HR.out.2.2
  clear h1 h2 h3 h hN
  have hx := bs_take s N
  have htl : (s.take N).length ≤ 100000 := by rw [List.length_take]; omega
  have HF1 := Lib.hid (fun (W : World) => rfind_h (w := W) (s.take N) [60] 1 (by omega) (by decide) (by decide) (by omega))
  have HF2 := Lib.hid (fun (W : World) => rfind_h (w := W) (s.take N) [91] 1 (by omega) (by decide) (by decide) (by omega))
  obtain ⟨f1, hf1⟩ : ∃ f1, findZ [60] (s.take N) 1 = f1 := ⟨_, rfl⟩
  obtain ⟨f2, hf2⟩ : ∃ f2, findZ [91] (s.take N) 1 = f2 := ⟨_, rfl⟩
  rw [hf1] at HF1 HR
  rw [hf2] at HF2 HR
  obtain ⟨d, hd⟩ : ∃ d, s.take N = d := ⟨_, rfl⟩
  rw [hd] at hx HF1 HF2
  clear hf1 hf2 hd htl
  by_cases g1 : 0 ≤ f1
  · have HE := Lib.hid (HR.out.1 (.inl g1))
    go_enter Tryz.func85, Tryz.ntmps85
    go_wp2_with fail
    refine Calls.mono (C1.out _) ?_
    rintro e w1 ⟨rfl, rfl⟩
    go_wp2_with fail
    refine Calls.mono (C2.out _) ?_
    rintro e w1 ⟨rfl, rfl⟩
    go_wp2_with fail
    refine Calls.mono (C3.out _) ?_
    rintro e w1 ⟨rfl, rfl⟩
    go_wp2_with fail
    refine Calls.mono (C4.out _) ?_
    rintro e w1 ⟨rfl, rfl⟩
    go_wp2_with fail
    refine Calls.mono (HU.out _) ?_
    rintro e w1 ⟨rfl, rfl⟩
    go_wp2_with fail
    refine Calls.mono (HF1.out _) ?_
    rintro e w1 ⟨rfl, rfl⟩
    go_wp2_with fail
    refine bodyPost_ret (v := .tuple #[.string ⟨#[]⟩, .slice none 0 0, .int .i64 0]) (by simp [results, Tryz.results85, go_sem] <;> rfl) rfl ?_
    exact rpart_none HE.out (Fr.refl _ _)
  · by_cases g2 : 0 ≤ f2
    · have HE := Lib.hid (HR.out.1 (.inr g2))
      go_enter Tryz.func85, Tryz.ntmps85
      go_wp2_with fail
      refine Calls.mono (C1.out _) ?_
      rintro e w1 ⟨rfl, rfl⟩
      go_wp2_with fail
      refine Calls.mono (C2.out _) ?_
      rintro e w1 ⟨rfl, rfl⟩
      go_wp2_with fail
      refine Calls.mono (C3.out _) ?_
      rintro e w1 ⟨rfl, rfl⟩
      go_wp2_with fail
      refine Calls.mono (C4.out _) ?_
      rintro e w1 ⟨rfl, rfl⟩
      go_wp2_with fail
      refine Calls.mono (HU.out _) ?_
      rintro e w1 ⟨rfl, rfl⟩
      go_wp2_with fail
      refine Calls.mono (HF1.out _) ?_
      rintro e w1 ⟨rfl, rfl⟩
      go_wp2_with fail
      refine Calls.mono (HF2.out _) ?_
      rintro e w1 ⟨rfl, rfl⟩
      go_wp2_with fail
      refine bodyPost_ret (v := .tuple #[.string ⟨#[]⟩, .slice none 0 0, .int .i64 0]) (by simp [results, Tryz.results85, go_sem] <;> rfl) rfl ?_
      exact rpart_none HE.out (Fr.refl _ _)
    · have HE := Lib.hid (HR.out.2.1 (by omega) (by omega))
      go_enter Tryz.func85, Tryz.ntmps85
      go_wp2_with fail
      refine Calls.mono (C1.out _) ?_
      rintro e w1 ⟨rfl, rfl⟩
      go_wp2_with fail
      refine Calls.mono (C2.out _) ?_
      rintro e w1 ⟨rfl, rfl⟩
      go_wp2_with fail
      refine Calls.mono (C3.out _) ?_
      rintro e w1 ⟨rfl, rfl⟩
      go_wp2_with fail
      refine Calls.mono (C4.out _) ?_
      rintro e w1 ⟨rfl, rfl⟩
      go_wp2_with fail
      refine Calls.mono (HU.out _) ?_
      rintro e w1 ⟨rfl, rfl⟩
      go_wp2_with fail
      refine Calls.mono (HF1.out _) ?_
      rintro e w1 ⟨rfl, rfl⟩
      go_wp2_with fail
      refine Calls.mono (HF2.out _) ?_
      rintro e w1 ⟨rfl, rfl⟩
      go_wp2_with fail
      refine bodyPost_ret (v := .tuple #[.string ⟨#[]⟩, .slice none 0 0, .int .i64 (N : Int)]) (by simp [results, Tryz.results85, go_sem] <;> rfl) rfl ?_
      exact rpart_quiet (u := []) HE.out (Fr.refl _ _)
set_option maxRecDepth 100000 in
set_option maxHeartbeats 8000000 in
theorem rpart5 {w : World} (s : Str) (hs1 : 1 ≤ s.length) (hs : s.length ≤ 100000) (h1 : ([60, 33, 45, 45] : Str).isPrefixOf s = false) (h2 : ([60, 63] : Str).isPrefixOf s = false) (h3 : ([60, 33, 91, 67, 68, 65, 84, 65, 91] : Str).isPrefixOf s = false) (h4 : ([60, 33, 68, 79, 67, 84, 89, 80, 69] : Str).isPrefixOf s = false) (h : ([60, 47] : Str).isPrefixOf s = true) : Calls Tryz.prog 85 #[.string (bs s)] w (RPartPost s w) := by
  have hsz : (bs s).size = s.length := rfl
  have hp := pre_drop h
  have hp2 : 2 ≤ s.length := by simpa using hp
  have HP := Lib.hid (rpart_e h1 h2 h3 h4 h)
  have C1 := Lib.hid (fun (W : World) => rbegins_h (w := W) s [60, 33, 45, 45] (by omega) (by decide))
  rw [h1] at C1
  have C2 := Lib.hid (fun (W : World) => rbegins_h (w := W) s [60, 63] (by omega) (by decide))
  rw [h2] at C2
  have C3 := Lib.hid (fun (W : World) => rbegins_h (w := W) s [60, 33, 91, 67, 68, 65, 84, 65, 91] (by omega) (by decide))
  rw [h3] at C3
  have C4 := Lib.hid (fun (W : World) => rbegins_h (w := W) s [60, 33, 68, 79, 67, 84, 89, 80, 69] (by omega) (by decide))
  rw [h4] at C4
  have C5 := Lib.hid (fun (W : World) => rbegins_h (w := W) s [60, 47] (by omega) (by decide))
  rw [h] at C5
  have hnl := name_le (s.drop 2)
  rw [List.length_drop] at hnl
  have hx1 := bs_drop s 2
  have HName := Lib.hid (fun (W : World) => rname_h (w := W) (s.drop 2) (by rw [List.length_drop]; omega))
  obtain ⟨n, hn⟩ : ∃ n, nameL (s.drop 2) = n := ⟨_, rfl⟩
  rw [hn] at HName hnl
  have HNm := Lib.hid hn
  clear h1 h2 h3 h4 h hn hp
  by_cases hn0 : n = []
  · have HE := Lib.hid ((close_part hp2 HP.out HNm.out rfl).1 (.inl hn0))
    subst hn0
    have HBl := Lib.hid (fun (W : World) => rblanks_h (w := W) (s.drop 2) (by rw [List.length_drop]; omega))
    have hbl := blanks_le (s.drop 2)
    rw [List.length_drop] at hbl
    obtain ⟨k, hk⟩ : ∃ k, blanksN (s.drop 2) = k := ⟨_, rfl⟩
    rw [hk] at HBl hbl
    obtain ⟨d1, hd1⟩ : ∃ d1, s.drop 2 = d1 := ⟨_, rfl⟩
    rw [hd1] at HName hx1 HBl
    have hnb : bs ([] : Str) = ⟨#[]⟩ := rfl
    rw [hnb] at HName
    clear hd1 hk hnb hnl
    go_enter Tryz.func85, Tryz.ntmps85
    go_wp2_with fail
    refine Calls.mono (C1.out _) ?_
    rintro e w1 ⟨rfl, rfl⟩
    go_wp2_with fail
    refine Calls.mono (C2.out _) ?_
    rintro e w1 ⟨rfl, rfl⟩
    go_wp2_with fail
    refine Calls.mono (C3.out _) ?_
    rintro e w1 ⟨rfl, rfl⟩
    go_wp2_with fail
    refine Calls.mono (C4.out _) ?_
    rintro e w1 ⟨rfl, rfl⟩
    go_wp2_with fail
    refine Calls.mono (C5.out _) ?_
    rintro e w1 ⟨rfl, rfl⟩
    go_wp2_with fail
    refine Calls.mono (HName.out _) ?_
    rintro e w1 ⟨rfl, rfl⟩
    go_wp2_with fail
    refine Calls.mono (HBl.out _) ?_
    rintro e w1 ⟨rfl, rfl⟩
    go_wp2_with fail
    refine bodyPost_ret (v := .tuple #[.string ⟨#[]⟩, .slice none 0 0, .int .i64 0]) (by simp [results, Tryz.results85, go_sem] <;> rfl) rfl ?_
    exact rpart_none HE.out (Fr.refl _ _)
  · obtain ⟨d1, hd1⟩ : ∃ d1, s.drop 2 = d1 := ⟨_, rfl⟩
    rw [hd1] at HName hx1
    clear hd1
    have hnz : (bs n).size = n.length := rfl
    have hn2 : 2 + n.length ≤ s.length := by omega
    have hx2 := bs_drop s (2 + n.length)
    have HBl := Lib.hid (fun (W : World) => rblanks_h (w := W) (s.drop (2 + n.length)) (by rw [List.length_drop]; omega))
    have hbl := blanks_le (s.drop (2 + n.length))
    rw [List.length_drop] at hbl
    obtain ⟨k, hk⟩ : ∃ k, blanksN (s.drop (2 + n.length)) = k := ⟨_, rfl⟩
    rw [hk] at HBl hbl
    have HC := Lib.hid (close_part hp2 HP.out HNm.out hk)
    clear hk
    obtain ⟨d2, hd2⟩ : ∃ d2, s.drop (2 + n.length) = d2 := ⟨_, rfl⟩
    rw [hd2] at HBl hx2
    clear hd2
    have hik : 2 + n.length + k ≤ s.length := by omega
    have hx3 := bs_drop s (2 + n.length + k)
    have HG := Lib.hid (fun (W : World) => rbegins_h (w := W) (s.drop (2 + n.length + k)) [62] (by rw [List.length_drop]; omega) (by decide))
    obtain ⟨d3, hd3⟩ : ∃ d3, s.drop (2 + n.length + k) = d3 := ⟨_, rfl⟩
    rw [hd3] at HG hx3 HC
    clear hd3 hbl
    have tn : ((bs n).toList == []) = false := by rw [bs_toList]; exact beq_eq_false_iff_ne.2 hn0
    have tn2 : decide (bs n = ⟨#[]⟩) = false := decide_eq_false fun e => hn0 (bs_inj2 e)
    have tn4 : (bs n).toList.isEmpty = false := by rw [bs_toList]; simpa using hn0
    cases hg : ([62] : Str).isPrefixOf d3 with
    | false =>
      have HE := Lib.hid (HC.out.1 (.inr hg))
      rw [hg] at HG
      clear hg hn0
      go_enter Tryz.func85, Tryz.ntmps85
      go_wp2_with fail
      refine Calls.mono (C1.out _) ?_
      rintro e w1 ⟨rfl, rfl⟩
      go_wp2_with fail
      refine Calls.mono (C2.out _) ?_
      rintro e w1 ⟨rfl, rfl⟩
      go_wp2_with fail
      refine Calls.mono (C3.out _) ?_
      rintro e w1 ⟨rfl, rfl⟩
      go_wp2_with fail
      refine Calls.mono (C4.out _) ?_
      rintro e w1 ⟨rfl, rfl⟩
      go_wp2_with fail
      refine Calls.mono (C5.out _) ?_
      rintro e w1 ⟨rfl, rfl⟩
      go_wp2_with fail
      refine Calls.mono (HName.out _) ?_
      rintro e w1 ⟨rfl, rfl⟩
      go_wp2_with fail
      refine Calls.mono (HBl.out _) ?_
      rintro e w1 ⟨rfl, rfl⟩
      go_wp2_with fail
      refine Calls.mono (HG.out _) ?_
      rintro e w1 ⟨rfl, rfl⟩
      go_wp2_with fail
      refine bodyPost_ret (v := .tuple #[.string ⟨#[]⟩, .slice none 0 0, .int .i64 0]) (by simp [results, Tryz.results85, go_sem] <;> rfl) rfl ?_
      exact rpart_none HE.out (Fr.refl _ _)
    | true =>
      have HE := Lib.hid (HC.out.2 hn0 hg)
      have hil := RPart.le HE.out
      have HRow : Hid (RToks w.heap.size (w.alloc (.cells #[.int .i64 2, .string (bs n), .slice none 0 0, .string ⟨#[]⟩] 97)) (.slice (some ⟨w.heap.size, 0, none⟩) 1 1) [⟨2, n, [], []⟩]) := rrow_one (k := 2) (tx := []) (l := []) (World.ownsRow_nil _ _ _ _) (Nat.le_refl _)
      have HFa : Hid (Fr (fun _ => False) w (w.alloc (.cells #[.int .i64 2, .string (bs n), .slice none 0 0, .string ⟨#[]⟩] 97))) := (Fr.refl _ _).alloc _
      rw [hg] at HG
      clear hg hn0
      go_enter Tryz.func85, Tryz.ntmps85
      go_wp2_with fail
      refine Calls.mono (C1.out _) ?_
      rintro e w1 ⟨rfl, rfl⟩
      go_wp2_with fail
      refine Calls.mono (C2.out _) ?_
      rintro e w1 ⟨rfl, rfl⟩
      go_wp2_with fail
      refine Calls.mono (C3.out _) ?_
      rintro e w1 ⟨rfl, rfl⟩
      go_wp2_with fail
      refine Calls.mono (C4.out _) ?_
      rintro e w1 ⟨rfl, rfl⟩
      go_wp2_with fail
      refine Calls.mono (C5.out _) ?_
      rintro e w1 ⟨rfl, rfl⟩
      go_wp2_with fail
      refine Calls.mono (HName.out _) ?_
      rintro e w1 ⟨rfl, rfl⟩
      go_wp2_with fail
      refine Calls.mono (HBl.out _) ?_
      rintro e w1 ⟨rfl, rfl⟩
      go_wp2_with fail
      refine Calls.mono (HG.out _) ?_
      rintro e w1 ⟨rfl, rfl⟩
      go_wp2_with fail
      refine bodyPost_ret (v := .tuple #[.string ⟨#[]⟩, .slice (some ⟨w.heap.size, 0, none⟩) 1 1, .int .i64 ((2 + n.length + k + 1 : Nat) : Int)]) (by simp [results, Tryz.results85, go_sem] <;> rfl) rfl ?_
      exact rpart_loud HE.out rfl HRow.out HFa.out
set_option maxRecDepth 100000 in
set_option maxHeartbeats 8000000 in
theorem rpart6 {w : World} (s : Str) (hs1 : 1 ≤ s.length) (hs : s.length ≤ 100000) (h1 : ([60, 33, 45, 45] : Str).isPrefixOf s = false) (h2 : ([60, 63] : Str).isPrefixOf s = false) (h3 : ([60, 33, 91, 67, 68, 65, 84, 65, 91] : Str).isPrefixOf s = false) (h4 : ([60, 33, 68, 79, 67, 84, 89, 80, 69] : Str).isPrefixOf s = false) (h5 : ([60, 47] : Str).isPrefixOf s = false) : Calls Tryz.prog 85 #[.string (bs s)] w (RPartPost s w) := by
  have hsz : (bs s).size = s.length := rfl
  have HP := Lib.hid (tag_part hs1 (rpart_o h1 h2 h3 h4 h5))
  have C1 := Lib.hid (fun (W : World) => rbegins_h (w := W) s [60, 33, 45, 45] (by omega) (by decide))
  rw [h1] at C1
  have C2 := Lib.hid (fun (W : World) => rbegins_h (w := W) s [60, 63] (by omega) (by decide))
  rw [h2] at C2
  have C3 := Lib.hid (fun (W : World) => rbegins_h (w := W) s [60, 33, 91, 67, 68, 65, 84, 65, 91] (by omega) (by decide))
  rw [h3] at C3
  have C4 := Lib.hid (fun (W : World) => rbegins_h (w := W) s [60, 33, 68, 79, 67, 84, 89, 80, 69] (by omega) (by decide))
  rw [h4] at C4
  have C5 := Lib.hid (fun (W : World) => rbegins_h (w := W) s [60, 47] (by omega) (by decide))
  rw [h5] at C5
  have HT := Lib.hid (fun (W : World) => rtag_h (w := W) s hs1 hs)
  clear h1 h2 h3 h4 h5
  cases hg : tagL (s.drop 1) with
  | none =>
    have HE := Lib.hid (HP.out.1 hg)
    have HG := Lib.hid hg
    clear hg
    go_enter Tryz.func85, Tryz.ntmps85
    go_wp2_with fail
    refine Calls.mono (C1.out _) ?_
    rintro e w1 ⟨rfl, rfl⟩
    go_wp2_with fail
    refine Calls.mono (C2.out _) ?_
    rintro e w1 ⟨rfl, rfl⟩
    go_wp2_with fail
    refine Calls.mono (C3.out _) ?_
    rintro e w1 ⟨rfl, rfl⟩
    go_wp2_with fail
    refine Calls.mono (C4.out _) ?_
    rintro e w1 ⟨rfl, rfl⟩
    go_wp2_with fail
    refine Calls.mono (C5.out _) ?_
    rintro e w1 ⟨rfl, rfl⟩
    go_wp2_with fail
    refine Calls.mono (HT.out _) ?_
    rintro e w1 ⟨he, hF⟩
    rw [HG.out] at he
    subst he
    go_wp2_with fail
    refine bodyPost_ret (v := .tuple #[.string ⟨#[]⟩, .slice none 0 0, .int .i64 0]) (by simp [results, Tryz.results85, go_sem] <;> rfl) rfl ?_
    exact rpart_none HE.out hF
  | some q =>
    obtain ⟨l, rest⟩ := q
    have HE := Lib.hid (HP.out.2 hg)
    have HG := Lib.hid hg
    clear hg
    go_enter Tryz.func85, Tryz.ntmps85
    go_wp2_with fail
    refine Calls.mono (C1.out _) ?_
    rintro e w1 ⟨rfl, rfl⟩
    go_wp2_with fail
    refine Calls.mono (C2.out _) ?_
    rintro e w1 ⟨rfl, rfl⟩
    go_wp2_with fail
    refine Calls.mono (C3.out _) ?_
    rintro e w1 ⟨rfl, rfl⟩
    go_wp2_with fail
    refine Calls.mono (C4.out _) ?_
    rintro e w1 ⟨rfl, rfl⟩
    go_wp2_with fail
    refine Calls.mono (C5.out _) ?_
    rintro e w1 ⟨rfl, rfl⟩
    go_wp2_with fail
    refine Calls.mono (HT.out _) ?_
    rintro e w1 ⟨he, hF⟩
    rw [HG.out] at he
    obtain ⟨v, rfl, hT⟩ := he
    obtain ⟨a, cap, rfl⟩ := hT.shape
    have HT1 := Lib.hid hT
    clear hT
    go_wp2_with fail
    refine bodyPost_ret (v := .tuple #[.string ⟨#[]⟩, .slice a l.length cap, .int .i64 ((s.length - rest.length : Nat) : Int)]) (by simp [results, Tryz.results85, go_sem] <;> rfl) rfl ?_
    exact rpart_loud HE.out rfl HT1.out hF
theorem rpart_h {w : World} (s : Str) (hs1 : 1 ≤ s.length) (hs : s.length ≤ 100000) : Calls Tryz.prog 85 #[.string (bs s)] w (RPartPost s w) := by
  cases h1 : ([60, 33, 45, 45] : Str).isPrefixOf s with
  | true => exact rpart1 s hs1 hs h1
  | false =>
    cases h2 : ([60, 63] : Str).isPrefixOf s with
    | true => exact rpart2 s hs1 hs h1 h2
    | false =>
      cases h3 : ([60, 33, 91, 67, 68, 65, 84, 65, 91] : Str).isPrefixOf s with
      | true => exact rpart3 s hs1 hs h1 h2 h3
      | false =>
        cases h4 : ([60, 33, 68, 79, 67, 84, 89, 80, 69] : Str).isPrefixOf s with
        | true => exact rpart4 s hs1 hs h1 h2 h3 h4
        | false =>
          cases h5 : ([60, 47] : Str).isPrefixOf s with
          | true => exact rpart5 s hs1 hs h1 h2 h3 h4 h5
          | false => exact rpart6 s hs1 hs h1 h2 h3 h4 h5
end Go.Proofs.YtpinjgdnhbogoaaGreatDoor
