/- part: what begins with a mark taken off. -/
import Derived.Test.YtpinjgdnhbogoaaGreatDoorV1
namespace Go.Proofs.YtpinjgdnhbogoaaGreatDoor
open Go.RowKit Go.Lib

def PartPost (s : Str) (w : World) (e : Ending) (w' : World) : Prop :=
  (match partL s with
    | some (u, l, rest) => ∃ v, e = .returned (.tuple #[.string (bs u), v, .string (bs rest), .bool true]) ∧ Toks w.heap.size w' v l
    | none => ∃ u v r, e = .returned (.tuple #[.string u, v, .string r, .bool false])) ∧ Fr (fun _ => False) w w'
theorem part_post_some {s u r : Str} {l : List TokD} {v : Value} {w w' : World} (h : partL s = some (u, l, r)) (ht : Toks w.heap.size w' v l) (hf : Fr (fun _ => False) w w') : PartPost s w (.returned (.tuple #[.string (bs u), v, .string (bs r), .bool true])) w' := by
  unfold PartPost; rw [h]; exact ⟨⟨v, rfl, ht⟩, hf⟩
theorem part_post_none {s : Str} {u r : ByteArray} {v : Value} {w w' : World} (h : partL s = none) (hf : Fr (fun _ => False) w w') : PartPost s w (.returned (.tuple #[.string u, v, .string r, .bool false])) w' := by
  unfold PartPost; rw [h]; exact ⟨⟨u, v, r, rfl⟩, hf⟩
def pC : Str := [60, 33, 45, 45]
def pI : Str := [60, 63]
def pD : Str := [60, 33, 91, 67, 68, 65, 84, 65, 91]
def pT : Str := [60, 33, 68, 79, 67, 84, 89, 80, 69]
def pE : Str := [60, 47]
theorem part_c {s r : Str} (h : stripL pC s = some r) : partL s = (cutL [45, 45, 62] r).map fun q => ([], [], q.2) := by
  unfold partL; rw [show stripL [60, 33, 45, 45] s = some r from h]
theorem part_i {s r : Str} (h1 : stripL pC s = none) (h : stripL pI s = some r) : partL s = (cutL [63, 62] r).map fun q => ([], [], q.2) := by
  unfold partL; rw [show stripL [60, 33, 45, 45] s = none from h1, show stripL [60, 63] s = some r from h]
theorem part_d {s r : Str} (h1 : stripL pC s = none) (h2 : stripL pI s = none) (h : stripL pD s = some r) : partL s = (cutL [93, 93, 62] r).map fun q => (q.1, [], q.2) := by
  unfold partL; rw [show stripL [60, 33, 45, 45] s = none from h1, show stripL [60, 63] s = none from h2, show stripL [60, 33, 91, 67, 68, 65, 84, 65, 91] s = some r from h]
def docT (r : Str) : Option (Str × List TokD × Str) := match cutL [62] r with
  | none => none
  | some (t, rest) => if t.contains 60 || t.contains 91 then none else some ([], [], rest)
theorem part_t {s r : Str} (h1 : stripL pC s = none) (h2 : stripL pI s = none) (h3 : stripL pD s = none) (h : stripL pT s = some r) : partL s = docT r := by
  unfold partL docT; rw [show stripL [60, 33, 45, 45] s = none from h1, show stripL [60, 63] s = none from h2, show stripL [60, 33, 91, 67, 68, 65, 84, 65, 91] s = none from h3, show stripL [60, 33, 68, 79, 67, 84, 89, 80, 69] s = some r from h]; rfl
theorem part_e {s r : Str} (h1 : stripL pC s = none) (h2 : stripL pI s = none) (h3 : stripL pD s = none) (h4 : stripL pT s = none) (h : stripL pE s = some r) : partL s = (closeL r).map fun q => ([], q.1, q.2) := by
  unfold partL; rw [show stripL [60, 33, 45, 45] s = none from h1, show stripL [60, 63] s = none from h2, show stripL [60, 33, 91, 67, 68, 65, 84, 65, 91] s = none from h3, show stripL [60, 33, 68, 79, 67, 84, 89, 80, 69] s = none from h4, show stripL [60, 47] s = some r from h]
theorem part_o {s : Str} (h1 : stripL pC s = none) (h2 : stripL pI s = none) (h3 : stripL pD s = none) (h4 : stripL pT s = none) (h5 : stripL pE s = none) : partL s = (tagL (s.drop 1)).map fun q => ([], q.1, q.2) := by
  unfold partL; rw [show stripL [60, 33, 45, 45] s = none from h1, show stripL [60, 63] s = none from h2, show stripL [60, 33, 91, 67, 68, 65, 84, 65, 91] s = none from h3, show stripL [60, 33, 68, 79, 67, 84, 89, 80, 69] s = none from h4, show stripL [60, 47] s = none from h5]
theorem close_some {r n x : Str} (hn : nameL r = n) (h0 : ¬ n = []) (h : stripL [62] (trimL (r.drop n.length)) = some x) : closeL r = some ([⟨2, n, [], []⟩], x) := by
  unfold closeL; rw [hn, if_neg (by simpa using h0), stripL_some h]; rfl
theorem close_none {r n : Str} (hn : nameL r = n) (h : n = [] ∨ stripL [62] (trimL (r.drop n.length)) = none) : closeL r = none := by
  unfold closeL
  rw [hn]
  by_cases h0 : n = []
  · rw [if_pos (by simpa using h0)]
  · rw [if_neg (by simpa using h0)]
    rcases h with h | h
    · exact absurd h h0
    · split
      · rename_i h2; rw [h2] at h; simp [stripL, List.isPrefixOf] at h
      · rfl
theorem strip_lenle {p s r : Str} (h : stripL p s = some r) : r.length ≤ s.length := by
  have := congrArg List.length (stripL_some h); rw [List.length_append] at this; omega
set_option maxHeartbeats 4000000 in
theorem part1 {w : World} (hE : Env w) (s r : Str) (hs : s.length ≤ 1000000) (h : stripL pC s = some r) : Calls Tryz.prog 82 #[.string (bs s)] w (PartPost s w) := by
  have HP := Lib.hid (part_c  h)
  have CS := Lib.hid (fun (W : World) => cutp_some (w := W) h)
  have hrl : r.length ≤ 1000000 := by have := strip_lenle h; omega
  clear h 
  cases hc : cutL [45, 45, 62] r with
  | none =>
    have HR := Lib.hid (show partL s = none from by rw [HP.out, hc]; rfl)
    have HC := Lib.hid (cut_none hE hrl hc)
    clear hc
    go_enter Tryz.func82, Tryz.ntmps82

    go_wp2_with fail
    refine (CS.out _).mono ?_
    rintro e w1 ⟨rfl, rfl⟩
    go_wp2_with fail
    refine HC.out.mono ?_
    rintro e w1 ⟨rfl, k, rfl⟩
    go_wp2_with fail
    refine bodyPost_ret (v := .tuple #[.string (bs []), .slice none 0 0, .string (bs []), .bool false]) (by simp [results, Tryz.results82, go_sem] <;> rfl) rfl (part_post_none HR.out ((Fr.refl _ _).drewN k))
  | some q =>
    obtain ⟨a, b⟩ := q
    have HR := Lib.hid (show partL s = some ([], [], b) from by rw [HP.out, hc]; rfl)
    have HC := Lib.hid (cut_some hE hrl hc)
    clear hc
    go_enter Tryz.func82, Tryz.ntmps82

    go_wp2_with fail
    refine (CS.out _).mono ?_
    rintro e w1 ⟨rfl, rfl⟩
    go_wp2_with fail
    refine HC.out.mono ?_
    rintro e w1 ⟨rfl, k, rfl⟩
    go_wp2_with fail
    refine bodyPost_ret (v := .tuple #[.string (bs []), .slice none 0 0, .string (bs b), .bool true]) (by simp [results, Tryz.results82, go_sem] <;> rfl) rfl (part_post_some HR.out (Toks.nil _ _) ((Fr.refl _ _).drewN k))
set_option maxHeartbeats 4000000 in
theorem part2 {w : World} (hE : Env w) (s r : Str) (hs : s.length ≤ 1000000) (h1 : stripL pC s = none) (h : stripL pI s = some r) : Calls Tryz.prog 82 #[.string (bs s)] w (PartPost s w) := by
  have HP := Lib.hid (part_i h1 h)
  have C0 := Lib.hid (fun (W : World) => cutp_none (w := W) h1)
  have CS := Lib.hid (fun (W : World) => cutp_some (w := W) h)
  have hrl : r.length ≤ 1000000 := by have := strip_lenle h; omega
  clear h h1
  cases hc : cutL [63, 62] r with
  | none =>
    have HR := Lib.hid (show partL s = none from by rw [HP.out, hc]; rfl)
    have HC := Lib.hid (cut_none hE hrl hc)
    clear hc
    go_enter Tryz.func82, Tryz.ntmps82
    go_wp2_with fail
    refine (C0.out _).mono ?_
    rintro e w1 ⟨rfl, rfl⟩
    go_wp2_with fail
    refine (CS.out _).mono ?_
    rintro e w1 ⟨rfl, rfl⟩
    go_wp2_with fail
    refine HC.out.mono ?_
    rintro e w1 ⟨rfl, k, rfl⟩
    go_wp2_with fail
    refine bodyPost_ret (v := .tuple #[.string (bs []), .slice none 0 0, .string (bs []), .bool false]) (by simp [results, Tryz.results82, go_sem] <;> rfl) rfl (part_post_none HR.out ((Fr.refl _ _).drewN k))
  | some q =>
    obtain ⟨a, b⟩ := q
    have HR := Lib.hid (show partL s = some ([], [], b) from by rw [HP.out, hc]; rfl)
    have HC := Lib.hid (cut_some hE hrl hc)
    clear hc
    go_enter Tryz.func82, Tryz.ntmps82
    go_wp2_with fail
    refine (C0.out _).mono ?_
    rintro e w1 ⟨rfl, rfl⟩
    go_wp2_with fail
    refine (CS.out _).mono ?_
    rintro e w1 ⟨rfl, rfl⟩
    go_wp2_with fail
    refine HC.out.mono ?_
    rintro e w1 ⟨rfl, k, rfl⟩
    go_wp2_with fail
    refine bodyPost_ret (v := .tuple #[.string (bs []), .slice none 0 0, .string (bs b), .bool true]) (by simp [results, Tryz.results82, go_sem] <;> rfl) rfl (part_post_some HR.out (Toks.nil _ _) ((Fr.refl _ _).drewN k))
set_option maxHeartbeats 4000000 in
theorem part3 {w : World} (hE : Env w) (s r : Str) (hs : s.length ≤ 1000000) (h1 : stripL pC s = none) (h2 : stripL pI s = none) (h : stripL pD s = some r) : Calls Tryz.prog 82 #[.string (bs s)] w (PartPost s w) := by
  have HP := Lib.hid (part_d h1 h2 h)
  have C0 := Lib.hid (fun (W : World) => cutp_none (w := W) h1)
  have C1 := Lib.hid (fun (W : World) => cutp_none (w := W) h2)
  have CS := Lib.hid (fun (W : World) => cutp_some (w := W) h)
  have hrl : r.length ≤ 1000000 := by have := strip_lenle h; omega
  clear h h1 h2
  cases hc : cutL [93, 93, 62] r with
  | none =>
    have HR := Lib.hid (show partL s = none from by rw [HP.out, hc]; rfl)
    have HC := Lib.hid (cut_none hE hrl hc)
    clear hc
    go_enter Tryz.func82, Tryz.ntmps82
    go_wp2_with fail
    refine (C0.out _).mono ?_
    rintro e w1 ⟨rfl, rfl⟩
    go_wp2_with fail
    refine (C1.out _).mono ?_
    rintro e w1 ⟨rfl, rfl⟩
    go_wp2_with fail
    refine (CS.out _).mono ?_
    rintro e w1 ⟨rfl, rfl⟩
    go_wp2_with fail
    refine HC.out.mono ?_
    rintro e w1 ⟨rfl, k, rfl⟩
    go_wp2_with fail
    refine bodyPost_ret (v := .tuple #[.string (bs r), .slice none 0 0, .string (bs []), .bool false]) (by simp [results, Tryz.results82, go_sem] <;> rfl) rfl (part_post_none HR.out ((Fr.refl _ _).drewN k))
  | some q =>
    obtain ⟨a, b⟩ := q
    have HR := Lib.hid (show partL s = some (a, [], b) from by rw [HP.out, hc]; rfl)
    have HC := Lib.hid (cut_some hE hrl hc)
    clear hc
    go_enter Tryz.func82, Tryz.ntmps82
    go_wp2_with fail
    refine (C0.out _).mono ?_
    rintro e w1 ⟨rfl, rfl⟩
    go_wp2_with fail
    refine (C1.out _).mono ?_
    rintro e w1 ⟨rfl, rfl⟩
    go_wp2_with fail
    refine (CS.out _).mono ?_
    rintro e w1 ⟨rfl, rfl⟩
    go_wp2_with fail
    refine HC.out.mono ?_
    rintro e w1 ⟨rfl, k, rfl⟩
    go_wp2_with fail
    refine bodyPost_ret (v := .tuple #[.string (bs a), .slice none 0 0, .string (bs b), .bool true]) (by simp [results, Tryz.results82, go_sem] <;> rfl) rfl (part_post_some HR.out (Toks.nil _ _) ((Fr.refl _ _).drewN k))
set_option maxHeartbeats 4000000 in
theorem part4 {w : World} (hE : Env w) (s r : Str) (hs : s.length ≤ 1000000) (h1 : stripL pC s = none) (h2 : stripL pI s = none) (h3 : stripL pD s = none) (h : stripL pT s = some r) : Calls Tryz.prog 82 #[.string (bs s)] w (PartPost s w) := by
  have HP := Lib.hid (part_t h1 h2 h3 h)
  have C0 := Lib.hid (fun (W : World) => cutp_none (w := W) h1)
  have C1 := Lib.hid (fun (W : World) => cutp_none (w := W) h2)
  have C2 := Lib.hid (fun (W : World) => cutp_none (w := W) h3)
  have CS := Lib.hid (fun (W : World) => cutp_some (w := W) h)
  have hrl : r.length ≤ 1000000 := by have := strip_lenle h; omega
  clear h h1 h2 h3
  cases hc : cutL [62] r with
  | none =>
    have HR := Lib.hid (show partL s = none from by rw [HP.out]; unfold docT; rw [hc])
    have HC := Lib.hid (cut_none hE hrl hc)
    clear hc
    go_enter Tryz.func82, Tryz.ntmps82
    go_wp2_with fail
    refine (C0.out _).mono ?_
    rintro e w1 ⟨rfl, rfl⟩
    go_wp2_with fail
    refine (C1.out _).mono ?_
    rintro e w1 ⟨rfl, rfl⟩
    go_wp2_with fail
    refine (C2.out _).mono ?_
    rintro e w1 ⟨rfl, rfl⟩
    go_wp2_with fail
    refine (CS.out _).mono ?_
    rintro e w1 ⟨rfl, rfl⟩
    go_wp2_with fail
    refine HC.out.mono ?_
    rintro e w1 ⟨rfl, k, rfl⟩
    go_wp2_with fail
    refine bodyPost_ret (v := .tuple #[.string (bs []), .slice none 0 0, .string (bs []), .bool false]) (by simp [results, Tryz.results82, go_sem] <;> rfl) rfl (part_post_none HR.out ((Fr.refl _ _).drewN k))
  | some q =>
    obtain ⟨a, b⟩ := q
    have HC := Lib.hid (cut_some hE hrl hc)
    have hal : a.length ≤ 1000000 := by have := cutL_lens hc; omega
    have HA := Lib.hid (fun (W : World) => hasany_h (w := W) a hal)
    have HR := Lib.hid (show partL s = if a.contains 60 || a.contains 91 then none else some ([], [], b) from by rw [HP.out]; unfold docT; rw [hc])
    clear hc
    cases hb : (a.contains 60 || a.contains 91) with
    | true =>
      have HR2 := Lib.hid (show partL s = none from by rw [HR.out, if_pos hb])
      rw [hb] at HA
      clear hb
      go_enter Tryz.func82, Tryz.ntmps82
      go_wp2_with fail
      refine (C0.out _).mono ?_
      rintro e w1 ⟨rfl, rfl⟩
      go_wp2_with fail
      refine (C1.out _).mono ?_
      rintro e w1 ⟨rfl, rfl⟩
      go_wp2_with fail
      refine (C2.out _).mono ?_
      rintro e w1 ⟨rfl, rfl⟩
      go_wp2_with fail
      refine (CS.out _).mono ?_
      rintro e w1 ⟨rfl, rfl⟩
      go_wp2_with fail
      refine HC.out.mono ?_
      rintro e w1 ⟨rfl, k, rfl⟩
      go_wp2_with fail
      refine (HA.out _).mono ?_
      rintro e w2 ⟨rfl, hF⟩
      go_wp2_with fail
      refine bodyPost_ret (v := .tuple #[.string (bs []), .slice none 0 0, .string (bs b), .bool false]) (by simp [results, Tryz.results82, go_sem] <;> rfl) rfl (part_post_none HR2.out hF.of_start)
    | false =>
      have HR2 := Lib.hid (show partL s = some ([], [], b) from by rw [HR.out, if_neg (by rw [hb]; simp)])
      rw [hb] at HA
      clear hb
      go_enter Tryz.func82, Tryz.ntmps82
      go_wp2_with fail
      refine (C0.out _).mono ?_
      rintro e w1 ⟨rfl, rfl⟩
      go_wp2_with fail
      refine (C1.out _).mono ?_
      rintro e w1 ⟨rfl, rfl⟩
      go_wp2_with fail
      refine (C2.out _).mono ?_
      rintro e w1 ⟨rfl, rfl⟩
      go_wp2_with fail
      refine (CS.out _).mono ?_
      rintro e w1 ⟨rfl, rfl⟩
      go_wp2_with fail
      refine HC.out.mono ?_
      rintro e w1 ⟨rfl, k, rfl⟩
      go_wp2_with fail
      refine (HA.out _).mono ?_
      rintro e w2 ⟨rfl, hF⟩
      go_wp2_with fail
      refine bodyPost_ret (v := .tuple #[.string (bs []), .slice none 0 0, .string (bs b), .bool true]) (by simp [results, Tryz.results82, go_sem] <;> rfl) rfl (part_post_some HR2.out (Toks.nil _ _) hF.of_start)
set_option maxHeartbeats 4000000 in
theorem part5 {w : World} (s r : Str) (hs : s.length ≤ 1000000) (h1 : stripL pC s = none) (h2 : stripL pI s = none) (h3 : stripL pD s = none) (h4 : stripL pT s = none) (h : stripL pE s = some r) : Calls Tryz.prog 82 #[.string (bs s)] w (PartPost s w) := by
  have HP := Lib.hid (part_e h1 h2 h3 h4 h)
  have C0 := Lib.hid (fun (W : World) => cutp_none (w := W) h1)
  have C1 := Lib.hid (fun (W : World) => cutp_none (w := W) h2)
  have C2 := Lib.hid (fun (W : World) => cutp_none (w := W) h3)
  have C3 := Lib.hid (fun (W : World) => cutp_none (w := W) h4)
  have CS := Lib.hid (fun (W : World) => cutp_some (w := W) h)
  have hrl : r.length ≤ 1000000 := by have := strip_lenle h; omega
  clear h h1 h2 h3 h4
  have HN := Lib.hid (name_h (w := w) r (by omega))
  obtain ⟨n, hn⟩ : ∃ n, nameL r = n := ⟨_, rfl⟩
  have HCS := Lib.hid (fun x => close_some (x := x) hn)
  have HCN := Lib.hid (close_none hn)
  obtain ⟨r1, hr1⟩ : ∃ r1, r.drop n.length = r1 := ⟨_, rfl⟩
  rw [hn] at HN
  rw [hr1] at HN HCS HCN
  clear hn hr1
  cases hx : stripL [62] (trimL r1) with
  | none =>
    have HR := Lib.hid (show partL s = none from by rw [HP.out, HCN.out (.inr hx)]; rfl)
    have CT := Lib.hid (fun (W : World) => cutp_none (w := W) hx)
    clear hx
    go_enter Tryz.func82, Tryz.ntmps82
    go_wp2_with fail
    refine (C0.out _).mono ?_
    rintro e w1 ⟨rfl, rfl⟩
    go_wp2_with fail
    refine (C1.out _).mono ?_
    rintro e w1 ⟨rfl, rfl⟩
    go_wp2_with fail
    refine (C2.out _).mono ?_
    rintro e w1 ⟨rfl, rfl⟩
    go_wp2_with fail
    refine (C3.out _).mono ?_
    rintro e w1 ⟨rfl, rfl⟩
    go_wp2_with fail
    refine (CS.out _).mono ?_
    rintro e w1 ⟨rfl, rfl⟩
    go_wp2_with fail
    refine HN.out.mono ?_
    rintro e w1 ⟨rfl, k, rfl⟩
    go_wp2_with fail
    refine (trim_h (s := r1)).mono ?_
    rintro e w3 ⟨rfl, hF3⟩
    have HF3 := Lib.hid hF3.of_start
    clear hF3
    go_wp2_with fail
    refine (CT.out _).mono ?_
    rintro e w4 ⟨rfl, rfl⟩
    go_wp2_with fail
    refine bodyPost_ret (v := .tuple #[.string (bs []), .slice (some ⟨w3.heap.size, 0, none⟩) 1 1, .string (bs (trimL r1)), .bool false]) (by simp [results, Tryz.results82, go_sem] <;> rfl) rfl (part_post_none HR.out (HF3.out.alloc _))
  | some x =>
    have CT := Lib.hid (fun (W : World) => cutp_some (w := W) hx)
    by_cases h0 : n = []
    · have HR := Lib.hid (show partL s = none from by rw [HP.out, HCN.out (.inl h0)]; rfl)
      have htn : (bs n).toList = [] := by rw [bs_toList]; exact h0
      have htn2 : (bs n).toList.isEmpty = true := by rw [bs_toList, h0]; rfl
      clear hx h0
      go_enter Tryz.func82, Tryz.ntmps82
      go_wp2_with fail
      refine (C0.out _).mono ?_
      rintro e w1 ⟨rfl, rfl⟩
      go_wp2_with fail
      refine (C1.out _).mono ?_
      rintro e w1 ⟨rfl, rfl⟩
      go_wp2_with fail
      refine (C2.out _).mono ?_
      rintro e w1 ⟨rfl, rfl⟩
      go_wp2_with fail
      refine (C3.out _).mono ?_
      rintro e w1 ⟨rfl, rfl⟩
      go_wp2_with fail
      refine (CS.out _).mono ?_
      rintro e w1 ⟨rfl, rfl⟩
      go_wp2_with fail
      refine HN.out.mono ?_
      rintro e w1 ⟨rfl, k, rfl⟩
      go_wp2_with fail
      refine (trim_h (s := r1)).mono ?_
      rintro e w3 ⟨rfl, hF3⟩
      have HF3 := Lib.hid hF3.of_start
      clear hF3
      go_wp2_with fail
      refine (CT.out _).mono ?_
      rintro e w4 ⟨rfl, rfl⟩
      go_wp2_with fail
      refine bodyPost_ret (v := .tuple #[.string (bs []), .slice (some ⟨w3.heap.size, 0, none⟩) 1 1, .string (bs x), .bool false]) (by simp [results, Tryz.results82, go_sem] <;> rfl) rfl (part_post_none HR.out (HF3.out.alloc _))
    · have HR := Lib.hid (show partL s = some ([], [⟨2, n, [], []⟩], x) from by rw [HP.out, HCS.out x h0 hx]; rfl)
      have htn : ¬ (bs n).toList = [] := by rw [bs_toList]; exact h0
      have htn2 : (bs n).toList.isEmpty = false := by rw [bs_toList]; simpa using h0
      clear hx h0
      go_enter Tryz.func82, Tryz.ntmps82
      go_wp2_with fail
      refine (C0.out _).mono ?_
      rintro e w1 ⟨rfl, rfl⟩
      go_wp2_with fail
      refine (C1.out _).mono ?_
      rintro e w1 ⟨rfl, rfl⟩
      go_wp2_with fail
      refine (C2.out _).mono ?_
      rintro e w1 ⟨rfl, rfl⟩
      go_wp2_with fail
      refine (C3.out _).mono ?_
      rintro e w1 ⟨rfl, rfl⟩
      go_wp2_with fail
      refine (CS.out _).mono ?_
      rintro e w1 ⟨rfl, rfl⟩
      go_wp2_with fail
      refine HN.out.mono ?_
      rintro e w1 ⟨rfl, k, rfl⟩
      go_wp2_with fail
      refine (trim_h (s := r1)).mono ?_
      rintro e w3 ⟨rfl, hF3⟩
      have HF3 := Lib.hid hF3.of_start
      clear hF3
      go_wp2_with fail
      refine (CT.out _).mono ?_
      rintro e w4 ⟨rfl, rfl⟩
      go_wp2_with fail
      refine bodyPost_ret (v := .tuple #[.string (bs []), .slice (some ⟨w3.heap.size, 0, none⟩) 1 1, .string (bs x), .bool true]) (by simp [results, Tryz.results82, go_sem] <;> rfl) rfl (part_post_some HR.out (row_one (k := 2) (n := n) (tx := []) (l := []) (World.ownsRow_nil _ _ _ _) HF3.out.size) (HF3.out.alloc _))
set_option maxHeartbeats 4000000 in
theorem part6 {w : World} (hE : Env w) (s : Str) (hs : s.length ≤ 1000000) (h0 : 1 ≤ s.length) (h1 : stripL pC s = none) (h2 : stripL pI s = none) (h3 : stripL pD s = none) (h4 : stripL pT s = none) (h5 : stripL pE s = none) : Calls Tryz.prog 82 #[.string (bs s)] w (PartPost s w) := by
  have HP := Lib.hid (part_o h1 h2 h3 h4 h5)
  have C0 := Lib.hid (fun (W : World) => cutp_none (w := W) h1)
  have C1 := Lib.hid (fun (W : World) => cutp_none (w := W) h2)
  have C2 := Lib.hid (fun (W : World) => cutp_none (w := W) h3)
  have C3 := Lib.hid (fun (W : World) => cutp_none (w := W) h4)
  have C4 := Lib.hid (fun (W : World) => cutp_none (w := W) h5)
  clear h1 h2 h3 h4 h5
  have hsz : (bs s).size = s.length := rfl
  have hx := bs_drop s 1
  rw [List.drop_one] at hx HP
  have HT := Lib.hid (tag_h hE s.tail (by rw [List.length_tail]; omega))
  cases hg : tagL s.tail with
  | none =>
    have HR := Lib.hid (show partL s = none from by rw [HP.out, hg]; rfl)
    have HG := Lib.hid hg
    clear hg
    go_enter Tryz.func82, Tryz.ntmps82
    go_wp2_with fail
    refine (C0.out _).mono ?_
    rintro e w1 ⟨rfl, rfl⟩
    go_wp2_with fail
    refine (C1.out _).mono ?_
    rintro e w1 ⟨rfl, rfl⟩
    go_wp2_with fail
    refine (C2.out _).mono ?_
    rintro e w1 ⟨rfl, rfl⟩
    go_wp2_with fail
    refine (C3.out _).mono ?_
    rintro e w1 ⟨rfl, rfl⟩
    go_wp2_with fail
    refine (C4.out _).mono ?_
    rintro e w1 ⟨rfl, rfl⟩
    go_wp2_with fail
    refine HT.out.mono ?_
    rintro e w1 ⟨he, hF⟩
    rw [HG.out] at he
    subst he
    go_wp2_with fail
    refine bodyPost_ret (v := .tuple #[.string (bs []), .slice none 0 0, .string (bs []), .bool false]) (by simp [results, Tryz.results82, go_sem] <;> rfl) rfl (part_post_none HR.out hF)
  | some q =>
    obtain ⟨l, rest⟩ := q
    have HR := Lib.hid (show partL s = some ([], l, rest) from by rw [HP.out, hg]; rfl)
    have HG := Lib.hid hg
    clear hg
    go_enter Tryz.func82, Tryz.ntmps82
    go_wp2_with fail
    refine (C0.out _).mono ?_
    rintro e w1 ⟨rfl, rfl⟩
    go_wp2_with fail
    refine (C1.out _).mono ?_
    rintro e w1 ⟨rfl, rfl⟩
    go_wp2_with fail
    refine (C2.out _).mono ?_
    rintro e w1 ⟨rfl, rfl⟩
    go_wp2_with fail
    refine (C3.out _).mono ?_
    rintro e w1 ⟨rfl, rfl⟩
    go_wp2_with fail
    refine (C4.out _).mono ?_
    rintro e w1 ⟨rfl, rfl⟩
    go_wp2_with fail
    refine HT.out.mono ?_
    rintro e w1 ⟨he, hF⟩
    rw [HG.out] at he
    obtain ⟨v, rfl, hT⟩ := he
    have HT2 := Lib.hid hT
    clear hT
    go_wp2_with fail
    refine bodyPost_ret (v := .tuple #[.string (bs []), v, .string (bs rest), .bool true]) (by simp [results, Tryz.results82, go_sem] <;> rfl) rfl (part_post_some HR.out HT2.out hF)
theorem part_h {w : World} (hE : Env w) (s : Str) (hs : s.length ≤ 1000000) (h0 : 1 ≤ s.length) : Calls Tryz.prog 82 #[.string (bs s)] w (PartPost s w) := by
  cases h1 : stripL pC s with
  | some r => exact part1 hE s r hs h1
  | none =>
    cases h2 : stripL pI s with
    | some r => exact part2 hE s r hs h1 h2
    | none =>
      cases h3 : stripL pD s with
      | some r => exact part3 hE s r hs h1 h2 h3
      | none =>
        cases h4 : stripL pT s with
        | some r => exact part4 hE s r hs h1 h2 h3 h4
        | none =>
          cases h5 : stripL pE s with
          | some r => exact part5 s r hs h1 h2 h3 h4 h5
          | none => exact part6 hE s hs h0 h1 h2 h3 h4 h5
end Go.Proofs.YtpinjgdnhbogoaaGreatDoor
