/- The reference's blanks and Build: walked. -/
import Derived.Test.YtpinjgdnhbogoaaGreatDoorO6
import Derived.Test.YtpinjgdnhbogoaaGreatDoorO2
import Derived.Test.YtpinjgdnhbogoaaGreatDoorNB
import Derived.BigQuiet
namespace Go.Proofs.YtpinjgdnhbogoaaGreatDoor
open Go.RowKit Go.Lib

theorem all_snoc {s : Str} {k : Nat} (h : k < s.length) : (s.take (k + 1)).all blankC = ((s.take k).all blankC && blankC (s.getD k 0)) := by rw [List.take_add_one, List.getElem?_eq_getElem h, List.all_append, List.getD_eq_getElem?_getD, List.getElem?_eq_getElem h]; simp
set_option maxHeartbeats 4000000 in
theorem rblanksD_h {w : World} (s : Str) (hs : s.length ≤ 140737488355328) : Calls Tryz.prog 69 #[.string (bs s)] w fun e w' => e = .returned (.bool (s.all blankC)) ∧ w = w' := by
  have hsz : (bs s).size = s.length := rfl
  go_enter Tryz.func69, Tryz.ntmps69
  go_wp2_with fail
  go_loopg [3] s.length (fun j v3 wr => (∃ i : Nat, i + j = s.length ∧ v3 = .int .i64 i ∧ Hid ((s.take i).all blankC = true)) ∧ w = wr)
  case atStart => exact ⟨⟨0, by omega, rfl, rfl⟩, rfl⟩
  case round =>
    obtain ⟨⟨i, hi, rfl, HH⟩, rfl⟩ := hrel
    by_cases hlt : i < s.length
    · have hz : i < (bs s).size := hlt
      have hg := bs_at s i hz
      have hsn := all_snoc hlt
      obtain ⟨c, hc⟩ : ∃ c, s.getD i 0 = c := ⟨_, rfl⟩
      rw [hc] at hg hsn
      rw [HH.out, Bool.true_and] at hsn
      have HB := Lib.hid (tblank_h (w := w) c)
      have HK := Lib.hid hi
      clear hi
      cases hb : blankC c with
      | true =>
        rw [hb] at HB hsn
        have HN := Lib.hid hsn
        clear hb hsn hc
        go_wp2_with fail
        refine Calls.mono HB.out ?_
        rintro e w2 ⟨rfl, rfl⟩
        go_wp2_with fail
        go_roundg (s.length - (i + 1))
        case measure => have := HK.out; omega
        case rel => exact ⟨⟨i + 1, by have := HK.out; omega, by go_num, HN.out⟩, rfl⟩
      | false =>
        rw [hb] at HB hsn
        have HE := Lib.hid (show s.all blankC = false by
          rw [← List.take_append_drop (i + 1) s, List.all_append, hsn]; rfl)
        clear hb hsn hc
        go_wp2_with fail
        refine Calls.mono HB.out ?_
        rintro e w2 ⟨rfl, rfl⟩
        go_wp2_with fail
        go_ret
        exact ⟨by rw [HE.out] <;> rfl, rfl⟩
    · have hil : i = s.length := by omega
      have HE := Lib.hid (show s.all blankC = true by have h := HH.out; rw [hil, List.take_length] at h; exact h)
      clear hi hlt
      subst hil
      go_wp2_with fail
      go_ret
      exact ⟨by rw [HE.out] <;> rfl, rfl⟩
def RBuildPost (r : Except Int NodeD) (S : Nat → Prop) (w : World) (e : Ending) (w' : World) : Prop :=
  ∃ c0 c1 c2 c3, e = .returned (.tuple #[.agg #[c0, c1, c2, c3], .int .i64 (outE r)]) ∧ NShape c0 c1 c2 c3 ∧ Fr (fun _ => False) w w' ∧ NodeV w' (fun k => S k ∨ (w.heap.size ≤ k ∧ k < w'.heap.size)) (outN r) [c0, c1, c2, c3]
theorem rbuild_err {l : List TokD} {r : Except Int NodeD} {S : Nat → Prop} {w : World} {i : Nat} {st : List NodeD} {dn : Option NodeD} {ov : Value} {xs : List Value} {d0 d1 d2 d3 : Value} {W : World} {er : Int} (h : RB l w S i st dn ov xs d0 d1 d2 d3 W) (he : r = .error er) :
    RBuildPost r S w (.returned (.tuple #[.agg #[.string ⟨#[]⟩, .slice none 0 0, .string ⟨#[]⟩, .slice none 0 0], .int .i64 er])) ((((W.setCell ⟨w.heap.size, 0, none⟩ (.string ⟨#[]⟩)).setCell ⟨w.heap.size, 1, none⟩ (.slice none 0 0)).setCell ⟨w.heap.size, 2, none⟩ (.string ⟨#[]⟩)).setCell ⟨w.heap.size, 3, none⟩ (.slice none 0 0)) := by
  subst he
  exact ⟨_, _, _, _, rfl, ⟨_, _, _, _, _, _, _, _, rfl, rfl, rfl, rfl⟩, h.fr.trans (fr_set4 _ _ _ _ _ _) fun k e => .inr (by have e : k = w.heap.size := e; omega), NodeV.zero _ _⟩
theorem rbuild_ok {l : List TokD} {r : Except Int NodeD} {S : Nat → Prop} {w : World} {i : Nat} {st : List NodeD} {n : NodeD} {ov : Value} {xs : List Value} {d0 d1 d2 d3 : Value} {W : World} (h : RB l w S i st (some n) ov xs d0 d1 d2 d3 W) (he : r = .ok n) :
    RBuildPost r S w (.returned (.tuple #[.agg #[d0, d1, d2, d3], .int .i64 0])) ((((W.setCell ⟨w.heap.size, 0, none⟩ d0).setCell ⟨w.heap.size, 1, none⟩ d1).setCell ⟨w.heap.size, 2, none⟩ d2).setCell ⟨w.heap.size, 3, none⟩ d3) := by
  subst he
  have h4 := fr_set4 W w.heap.size d0 d1 d2 d3
  have hsz := h.size
  refine ⟨_, _, _, _, rfl, h.shape, h.fr.trans h4 fun k e => .inr (by have e : k = w.heap.size := e; omega), NodeV.mono (fun k hk => ?_) _ (NodeV.fr h4 (fun k hk e => ?_) _ h.node)⟩
  · rcases hk with hk | hk
    · exact .inl hk
    · exact .inr ⟨by omega, Nat.lt_of_lt_of_le hk.2.1 h4.size⟩
  · have e : k = w.heap.size := e
    rcases hk with hk | hk
    · have := h.low k hk; omega
    · omega
theorem info37b : (Tryz.prog.info? 37).map (fun i => (i.zero, i.size, i.bytes)) = some (some (.agg #[.string ⟨#[]⟩, .slice none 0 0, .string ⟨#[]⟩, .slice none 0 0]), 4, 80) := by kernel_rfl
end Go.Proofs.YtpinjgdnhbogoaaGreatDoor
