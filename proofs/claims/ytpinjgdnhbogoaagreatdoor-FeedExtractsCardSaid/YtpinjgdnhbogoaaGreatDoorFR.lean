/- A tree that is parsed of a text is small (no walk). -/
import Derived.Test.YtpinjgdnhbogoaaGreatDoorNB
import Derived.Test.YtpinjgdnhbogoaaGreatDoorFQ
namespace Go.Proofs.YtpinjgdnhbogoaaGreatDoor

theorem asz_write : ∀ la : List (Str × Str), aszL la ≤ (la.flatMap attrW).length
  | [] => Nat.le_refl _
  | a :: l => by
    have ih := asz_write l
    have h2 := esc_ge a.2
    have e : (attrW a).length = a.1.length + (escL a.2).length + 4 := by unfold attrW; simp; omega
    rw [List.flatMap_cons, List.length_append, e]
    unfold aszL; omega
theorem tsz_write : ∀ {l : List TokD}, Good l → tszL l ≤ l.length + (writeL l).length
  | [], _ => Nat.zero_le _
  | x :: l, .cons h1 _ h3 => by
    have ih := tsz_write h3
    have e : tszL (x :: l) = 1 + x.text.length + aszL x.attrs + tszL l := rfl
    have ew : writeL (x :: l) = tokW x ++ writeL l := rfl
    have h2 : x.text.length + aszL x.attrs ≤ (tokW x).length := by
      have h4 := asz_write x.attrs
      have h5 := esc_ge x.text
      unfold tokW
      rcases h1 with ⟨k, _, _, e1⟩ | ⟨k, _, e1, e2⟩ | ⟨k, _, e1, _⟩
      · rw [if_pos k, e1, List.length_cons, List.length_append, List.length_append]; simp only [List.length_nil]; omega
      · rw [if_neg (by omega), if_pos k, e1, e2]; simp [aszL]
      · rw [if_neg (by omega), if_neg (by omega), if_pos k, e1]; simp [aszL]; exact h5
    rw [e, ew, List.length_append, List.length_cons]; omega
theorem parse_nsz {s : Str} {n : NodeD} (h : parseL s = .ok n) : nszN n ≤ 1000000 := by
  unfold parseL at h
  split at h
  · rename_i h0
    by_cases hb : 20000 < s.length
    · rw [readD_big hb] at h0; cases h0
    · cases hr : readL s with
      | error k => rw [readD_bad hr (by omega)] at h0; cases h0
      | ok l =>
        rw [readD_ok hr (by omega)] at h
        have h1 := buildL_nsz h
        have h2 := tsz_write (readL_good hr)
        have h3 := readL_w hr
        have h4 := readL_many hr
        dsimp only at h1
        omega
  · cases h
end Go.Proofs.YtpinjgdnhbogoaaGreatDoor
