/- Trees in memory. -/
import Derived.Test.YtpinjgdnhbogoaaDoorM7
import Derived.Test.YtpinjgdnhbogoaaDoorM0
namespace Go.Proofs.YtpinjgdnhbogoaaDoor
open Go.RowKit Go.Lib

mutual
/-- four cells that are an element, whatever it leads to lying in blocks of S -/
def NodeV (w : World) (S : Nat → Prop) : NodeD → List Value → Prop
  | .mk nm la tx ks, cs => ∃ av kv xs, cs = [.string (bs nm), av, .string (bs tx), kv] ∧ SRow w S 2 av la.length (acells la) ∧ SRow w S 4 kv ks.length xs ∧ KidsV w S ks xs
def KidsV (w : World) (S : Nat → Prop) : List NodeD → List Value → Prop
  | [], xs => xs = []
  | k :: ks, xs => ∃ ys zs, xs = ys ++ zs ∧ NodeV w S k ys ∧ KidsV w S ks zs
end
theorem NodeV.parts {w : World} {S : Nat → Prop} {n : NodeD} {cs : List Value} (h : NodeV w S n cs) : ∃ av kv xs, cs = [.string (bs n.name), av, .string (bs n.text), kv] ∧ SRow w S 2 av n.attrs.length (acells n.attrs) ∧ SRow w S 4 kv n.kids.length xs ∧ KidsV w S n.kids xs := by
  cases n with
  | mk a b c d => unfold NodeV at h; exact h
theorem NodeV.intro {w : World} {S : Nat → Prop} {nm tx : Str} {la : List (Str × Str)} {ks : List NodeD} {av kv : Value} {xs : List Value} (h1 : SRow w S 2 av la.length (acells la)) (h2 : SRow w S 4 kv ks.length xs) (h3 : KidsV w S ks xs) : NodeV w S (.mk nm la tx ks) [.string (bs nm), av, .string (bs tx), kv] := by
  unfold NodeV; exact ⟨_, _, _, rfl, h1, h2, h3⟩
mutual
theorem NodeV.fr {w w' : World} {S o : Nat → Prop} (hf : Fr o w w') (ho : ∀ k, S k → ¬ o k) : ∀ (n : NodeD) {cs : List Value}, NodeV w S n cs → NodeV w' S n cs
  | .mk nm la tx ks, cs, h => by
    unfold NodeV at h ⊢
    obtain ⟨av, kv, xs, h1, h2, h3, h4⟩ := h
    exact ⟨av, kv, xs, h1, h2.fr hf ho, h3.fr hf ho, KidsV.fr hf ho ks h4⟩
theorem KidsV.fr {w w' : World} {S o : Nat → Prop} (hf : Fr o w w') (ho : ∀ k, S k → ¬ o k) : ∀ (ks : List NodeD) {xs : List Value}, KidsV w S ks xs → KidsV w' S ks xs
  | [], xs, h => by unfold KidsV at h ⊢; exact h
  | k :: ks, xs, h => by
    unfold KidsV at h ⊢
    obtain ⟨ys, zs, h1, h2, h3⟩ := h
    exact ⟨ys, zs, h1, NodeV.fr hf ho k h2, KidsV.fr hf ho ks h3⟩
end
mutual
theorem NodeV.mono {w : World} {S S' : Nat → Prop} (hs : ∀ k, S k → S' k) : ∀ (n : NodeD) {cs : List Value}, NodeV w S n cs → NodeV w S' n cs
  | .mk nm la tx ks, cs, h => by
    unfold NodeV at h ⊢
    obtain ⟨av, kv, xs, h1, h2, h3, h4⟩ := h
    exact ⟨av, kv, xs, h1, h2.mono hs, h3.mono hs, KidsV.mono hs ks h4⟩
theorem KidsV.mono {w : World} {S S' : Nat → Prop} (hs : ∀ k, S k → S' k) : ∀ (ks : List NodeD) {xs : List Value}, KidsV w S ks xs → KidsV w S' ks xs
  | [], xs, h => by unfold KidsV at h ⊢; exact h
  | k :: ks, xs, h => by
    unfold KidsV at h ⊢
    obtain ⟨ys, zs, h1, h2, h3⟩ := h
    exact ⟨ys, zs, h1, NodeV.mono hs k h2, KidsV.mono hs ks h3⟩
end
theorem SRow.one {w : World} {S : Nat → Prop} {size n : Nat} {v : Value} {xs : List Value} (h : SRow w S size v n xs) : v.oneCell' = true := by
  obtain ⟨_, a, c, rfl, _⟩ := h; rfl
theorem NodeV.len {w : World} {S : Nat → Prop} {n : NodeD} {cs : List Value} (h : NodeV w S n cs) : cs.length = 4 := by
  obtain ⟨_, _, _, rfl, _⟩ := h.parts; rfl
theorem NodeV.one {w : World} {S : Nat → Prop} {n : NodeD} {cs : List Value} (h : NodeV w S n cs) : ∀ u ∈ cs, u.oneCell' = true := by
  obtain ⟨av, kv, xs, rfl, h1, h2, _⟩ := h.parts
  intro u hu
  simp at hu
  rcases hu with rfl | rfl | rfl | rfl
  · rfl
  · exact h1.one
  · rfl
  · exact h2.one
theorem KidsV.cons {w : World} {S : Nat → Prop} {k : NodeD} {ks : List NodeD} {xs : List Value} : KidsV w S (k :: ks) xs ↔ ∃ ys zs, xs = ys ++ zs ∧ NodeV w S k ys ∧ KidsV w S ks zs := by
  conv => lhs; unfold KidsV
theorem KidsV.nil {w : World} {S : Nat → Prop} {xs : List Value} : KidsV w S [] xs ↔ xs = [] := by
  conv => lhs; unfold KidsV
theorem KidsV.len {w : World} {S : Nat → Prop} : ∀ {ks : List NodeD} {xs : List Value}, KidsV w S ks xs → xs.length = ks.length * 4
  | [], xs, h => by rw [KidsV.nil.1 h]; rfl
  | k :: ks, xs, h => by
    obtain ⟨ys, zs, rfl, h1, h2⟩ := KidsV.cons.1 h
    rw [List.length_append, h1.len, h2.len, List.length_cons]; omega
theorem KidsV.one {w : World} {S : Nat → Prop} : ∀ {ks : List NodeD} {xs : List Value}, KidsV w S ks xs → ∀ u ∈ xs, u.oneCell' = true
  | [], xs, h => by rw [KidsV.nil.1 h]; intro u hu; cases hu
  | k :: ks, xs, h => by
    obtain ⟨ys, zs, rfl, h1, h2⟩ := KidsV.cons.1 h
    intro u hu
    rcases List.mem_append.1 hu with hu | hu
    · exact h1.one u hu
    · exact h2.one u hu
theorem KidsV.snoc {w : World} {S : Nat → Prop} {n : NodeD} {cs : List Value} (hn : NodeV w S n cs) : ∀ {ks : List NodeD} {xs : List Value}, KidsV w S ks xs → KidsV w S (ks ++ [n]) (xs ++ cs)
  | [], xs, h => by
    rw [KidsV.nil.1 h]
    exact KidsV.cons.2 ⟨cs, [], by simp, hn, KidsV.nil.2 rfl⟩
  | k :: ks, xs, h => by
    obtain ⟨ys, zs, rfl, h1, h2⟩ := KidsV.cons.1 h
    exact KidsV.cons.2 ⟨ys, zs ++ cs, by simp, h1, KidsV.snoc hn h2⟩
/-- one of the kids -/
theorem KidsV.at {w : World} {S : Nat → Prop} : ∀ {ks : List NodeD} {xs : List Value} {i : Nat} {k : NodeD}, KidsV w S ks xs → ks[i]? = some k → ∃ ys, NodeV w S k ys ∧ ∀ j u, ys[j]? = some u → xs[i * 4 + j]? = some u
  | [], _, _, _, _, h => by simp at h
  | k0 :: ks, xs, 0, k, hk, h => by
    simp at h; subst h
    obtain ⟨ys, zs, rfl, h1, h2⟩ := KidsV.cons.1 hk
    refine ⟨ys, h1, fun j u hu => ?_⟩
    rw [Nat.zero_mul, Nat.zero_add, List.getElem?_append_left (by
      rcases Nat.lt_or_ge j ys.length with h | h
      · exact h
      · rw [List.getElem?_eq_none h] at hu; cases hu)]
    exact hu
  | k0 :: ks, xs, i + 1, k, hk, h => by
    obtain ⟨ys, zs, rfl, h1, h2⟩ := KidsV.cons.1 hk
    obtain ⟨cs, h3, h4⟩ := KidsV.at h2 (i := i) (by simpa using h)
    refine ⟨cs, h3, fun j u hu => ?_⟩
    rw [List.getElem?_append_right (by rw [h1.len]; omega), h1.len, show (i + 1) * 4 + j - 4 = i * 4 + j by omega]
    exact h4 j u hu
end Go.Proofs.YtpinjgdnhbogoaaDoor
