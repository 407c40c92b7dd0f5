/- The walk of tree.Parse. -/
import Derived.Test.YtpinjgdnhbogoaaGreatDoorN6
import Derived.Test.YtpinjgdnhbogoaaGreatDoorM0
import Derived.Test.YtpinjgdnhbogoaaGreatDoorM6
import Derived.Test.YtpinjgdnhbogoaaGreatDoorNE
namespace Go.Proofs.YtpinjgdnhbogoaaGreatDoor
open Go.RowKit Go.Lib

/-- the tree, or the empty one; the error, or none -/
def outN (r : Except Int NodeD) : NodeD := match r with | .ok n => n | .error _ => zeroD
def outE (r : Except Int NodeD) : Int := match r with | .ok _ => 0 | .error e => e
def TreePost (r : Except Int NodeD) (w : World) (e : Ending) (w' : World) : Prop :=
  ∃ c0 c1 c2 c3, e = .returned (.tuple #[.agg #[c0, c1, c2, c3], .int .i64 (outE r)]) ∧ NShape c0 c1 c2 c3 ∧ Fr (fun _ => False) w w' ∧ NodeV w' (fun k => w.heap.size ≤ k ∧ k < w'.heap.size) (outN r) [c0, c1, c2, c3]
theorem tbuild_at {l : List TokD} {w : World} {S : Nat → Prop} {tv : Value} (hv : TokV w S tv l) (hS : ∀ k, S k → k < w.heap.size) (hT : TextOK l) (hl : l.length ≤ 60010) : Calls Tryz.prog 24 #[tv] w (TreePost (buildL l) w) := by
  refine (tbuild_h hv hS hT hl).mono ?_
  rintro e w' ⟨c0, c1, c2, c3, er, rfl, h1, h2, h3⟩
  unfold TreePost
  cases hb : buildL l with
  | ok n =>
    rw [hb] at h3
    obtain ⟨rfl, h4⟩ := h3
    exact ⟨c0, c1, c2, c3, rfl, h1, h2, h4⟩
  | error x =>
    rw [hb] at h3
    obtain ⟨rfl, h4⟩ := h3
    exact ⟨c0, c1, c2, c3, rfl, h1, h2, h4⟩
theorem read_textOK {s : Str} {l : List TokD} (h : readL s = .ok l) (hs : s.length ≤ 20000) : TextOK l ∧ l.length ≤ 60010 := by
  have hw := readL_w h
  have hm := readL_many h
  refine ⟨fun x hx => ⟨?_, ?_⟩, by omega⟩
  · obtain ⟨i, hi⟩ := List.getElem?_of_mem hx
    have h1 := write_part hi
    have h2 : x.text.length ≤ (tokW x).length := by
      rcases good_tok (readL_good h) x hx with ⟨_, _, _, k⟩ | ⟨_, _, _, k⟩ | ⟨k, _⟩
      · rw [k]; exact Nat.zero_le _
      · rw [k]; exact Nat.zero_le _
      · have := esc_ge x.text
        unfold tokW
        rw [if_neg (by omega), if_neg (by omega), if_pos k]
        exact this
    unfold txM; omega
  · have := tok_attrs (readL_good h) (n := 1000000) (by omega) x hx
    exact this
theorem parse_of {s : Str} : parseL s = if (readD s).2.1 = 0 then buildL (readD s).1 else .error (readD s).2.1 := rfl
set_option maxRecDepth 100000 in
set_option maxHeartbeats 8000000 in
theorem parse_h {w : World} (hE : Env w) (s : Str) (hs : s.length ≤ 1000000) : Calls Tryz.prog 26 #[.string (bs s)] w (TreePost (parseL s) w) := by
  have HRd := Lib.hid (fun (W : World) (hF : Fr (fun _ => False) w W) => read_h (hE.grow hF) s hs)
  have HB0 : Hid ((w.alloc (.cells #[.string ⟨#[]⟩, .slice none 0 0, .string ⟨#[]⟩, .slice none 0 0] 30)).heap[w.heap.size]? = some (.cells #[.string ⟨#[]⟩, .slice none 0 0, .string ⟨#[]⟩, .slice none 0 0] 30 (0, 0))) := block_new _ _
  have HF0 : Hid (Fr (fun _ => False) w (w.alloc (.cells #[.string ⟨#[]⟩, .slice none 0 0, .string ⟨#[]⟩, .slice none 0 0] 30))) := (Fr.refl _ _).alloc _
  have hq : (readD s).2.1 = 0 → ∃ l, readD s = (l, 0, 0) ∧ TextOK l ∧ l.length ≤ 60010 := by
    intro h0
    by_cases hlong : 20000 < s.length
    · rw [readD_big hlong] at h0; cases h0
    · cases hr : readL s with
      | error k => rw [readD_bad hr (by omega)] at h0; cases h0
      | ok l =>
        have h3 := read_textOK hr (by omega)
        exact ⟨l, readD_ok hr (by omega), h3.1, h3.2⟩
  by_cases h0 : (readD s).2.1 = 0
  · obtain ⟨l, hl, hT, hln⟩ := hq h0
    have HP := Lib.hid (show parseL s = buildL l by rw [parse_of, if_pos h0, hl])
    have HL := Lib.hid hl
    have HT := Lib.hid hT
    clear hq h0 hl hT hE
    go_enter Tryz.func26, Tryz.ntmps26
    go_wp2_with fail
    refine Calls.mono (HRd.out _ HF0.out) ?_
    rintro e w2 ⟨⟨v, rfl, hT2⟩, hF2⟩
    rw [HL.out] at hT2 ⊢
    obtain ⟨a, cap, rfl, _, _⟩ := hT2.sliced
    have hb2 := hF2.keep HB0.out (fun h => h)
    have HB2 := Lib.hid hb2
    have HF2 := Lib.hid (HF0.out.next hF2)
    have HV2 := Lib.hid hT2.view
    have hlt2 : w.heap.size < w2.heap.size := lt_of_block hb2
    clear hF2 hT2 hb2
    go_wp2_with fail
    refine Calls.mono (tbuild_at (HV2.out.fr ((Fr.refl (fun _ => False) w2)) fun _ _ h => h) (fun k h => h.2) HT.out hln) ?_
    rintro e w3 ⟨c0, c1, c2, c3, rfl, hsh, hF3, hn⟩
    obtain ⟨s0, a1, n1, p1, s2, a3, n3, p3, rfl, rfl, rfl, rfl⟩ := hsh
    have HF3 := Lib.hid (HF2.out.next hF3)
    have HN3 := Lib.hid hn
    have hb3 := hF3.keep HB2.out (fun h => h)
    have HB3 := Lib.hid hb3
    have hlt3 : w.heap.size < w3.heap.size := lt_of_block hb3
    have f0 := free_of 0 hb3
    have f1 := free_of 1 hb3
    have f2 := free_of 2 hb3
    have f3 := free_of 3 hb3
    have y0 := cell_of hb3 (i := 0) (v := .string ⟨#[]⟩) rfl
    have y1 := cell_of hb3 (i := 1) (v := .slice none 0 0) rfl
    have y2 := cell_of hb3 (i := 2) (v := .string ⟨#[]⟩) rfl
    have y3 := cell_of hb3 (i := 3) (v := .slice none 0 0) rfl
    clear hb3 hF3 hn
    go_wp2_with fail
    have hz := block_set4b (a := .string s0) (b := .slice a1 n1 p1) (c := .string s2) (d := .slice a3 n3 p3) HB3.out
    have e0 := cell_of hz (i := 0) (v := .string s0) rfl
    have e1 := cell_of hz (i := 1) (v := .slice a1 n1 p1) rfl
    have e2 := cell_of hz (i := 2) (v := .string s2) rfl
    have e3 := cell_of hz (i := 3) (v := .slice a3 n3 p3) rfl
    refine bodyPost_ret (v := .tuple #[.agg #[.string s0, .slice a1 n1 p1, .string s2, .slice a3 n3 p3], .int .i64 (outE (buildL l))]) (by simp [results, Tryz.results26, go_sem, e0, e1, e2, e3] <;> rfl) rfl ?_
    have hfs := fr_set4b w3 w.heap.size (.string s0) (.slice a1 n1 p1) (.string s2) (.slice a3 n3 p3)
    show TreePost (parseL s) w _ _
    rw [HP.out]
    exact ⟨_, _, _, _, rfl, .mk ⟨_, _, _, rfl⟩ ⟨_, _, _, rfl⟩, HF3.out.trans hfs fun k e => .inr (by omega), NodeV.mono (fun k hk => ⟨by omega, Nat.lt_of_lt_of_le hk.2 hfs.size⟩) _ (NodeV.fr hfs (fun k hk e => by omega) _ HN3.out)⟩
  · obtain ⟨er, her⟩ : ∃ er, (readD s).2.1 = er := ⟨_, rfl⟩
    have HP := Lib.hid (show parseL s = .error er by rw [parse_of, if_neg h0, her])
    rw [her] at h0
    have HER := Lib.hid her
    have e1 : (er != 0) = true := by rw [bne_iff_ne]; exact h0
    have e2 : (er == 0) = false := beq_eq_false_iff_ne.2 h0
    clear hq her hE h0
    go_enter Tryz.func26, Tryz.ntmps26
    go_wp2_with fail
    refine Calls.mono (HRd.out _ HF0.out) ?_
    rintro e w2 ⟨⟨v, rfl, hT2⟩, hF2⟩
    obtain ⟨a, cap, rfl, _, _⟩ := hT2.sliced
    rw [HER.out]
    have hb3 := hF2.keep HB0.out (fun h => h)
    have HF3 := Lib.hid (HF0.out.next hF2)
    have HB3 := Lib.hid hb3
    have hlt3 : w.heap.size < w2.heap.size := lt_of_block hb3
    have f0 := free_of 0 hb3
    have f1 := free_of 1 hb3
    have f2 := free_of 2 hb3
    have f3 := free_of 3 hb3
    have y0 := cell_of hb3 (i := 0) (v := .string ⟨#[]⟩) rfl
    have y1 := cell_of hb3 (i := 1) (v := .slice none 0 0) rfl
    have y2 := cell_of hb3 (i := 2) (v := .string ⟨#[]⟩) rfl
    have y3 := cell_of hb3 (i := 3) (v := .slice none 0 0) rfl
    clear hb3 hF2 hT2
    go_wp2_with fail
    have hz := block_set4b (a := .string ⟨#[]⟩) (b := .slice none 0 0) (c := .string ⟨#[]⟩) (d := .slice none 0 0) HB3.out
    have g0 := cell_of hz (i := 0) (v := .string ⟨#[]⟩) rfl
    have g1 := cell_of hz (i := 1) (v := .slice none 0 0) rfl
    have g2 := cell_of hz (i := 2) (v := .string ⟨#[]⟩) rfl
    have g3 := cell_of hz (i := 3) (v := .slice none 0 0) rfl
    refine bodyPost_ret (v := .tuple #[.agg #[.string ⟨#[]⟩, .slice none 0 0, .string ⟨#[]⟩, .slice none 0 0], .int .i64 er]) (by simp [results, Tryz.results26, go_sem, g0, g1, g2, g3] <;> rfl) rfl ?_
    have hfs := fr_set4b w2 w.heap.size (.string ⟨#[]⟩) (.slice none 0 0) (.string ⟨#[]⟩) (.slice none 0 0)
    show TreePost (parseL s) w _ _
    rw [HP.out]
    exact ⟨_, _, _, _, rfl, .mk ⟨_, _, _, rfl⟩ ⟨_, _, _, rfl⟩, HF3.out.trans hfs fun k e => .inr (by omega), NodeV.zero _ _⟩
end Go.Proofs.YtpinjgdnhbogoaaGreatDoor
