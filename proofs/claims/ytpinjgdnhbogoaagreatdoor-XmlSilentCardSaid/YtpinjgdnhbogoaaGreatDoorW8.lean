/- slices.ContainsFunc over attributes, with the closure of tag. -/
import Derived.Test.YtpinjgdnhbogoaaGreatDoorW7
import Derived.Test.YtpinjgdnhbogoaaGreatDoorRow
namespace Go.Proofs.YtpinjgdnhbogoaaGreatDoor
open Go.RowKit Go.Lib

def acells (l : List (Str × Str)) : List Value := l.flatMap fun a => [.string (bs a.1), .string (bs a.2)]
theorem acells_len (l : List (Str × Str)) : (acells l).length = l.length * 2 := by
  unfold acells; induction l with
  | nil => rfl
  | cons a l ih => rw [List.flatMap_cons, List.length_append, ih]; simp; omega
theorem acells_app (a b : List (Str × Str)) : acells a ++ acells b = acells (a ++ b) := List.flatMap_append.symm
theorem acells_at : ∀ {l : List (Str × Str)} {k : Nat} {a : Str × Str}, l[k]? = some a → (acells l)[k * 2]? = some (.string (bs a.1)) ∧ (acells l)[k * 2 + 1]? = some (.string (bs a.2))
  | [], _, _, h => by simp at h
  | x :: l, 0, a, h => by
    obtain rfl := Option.some.inj (show some x = some a from h)
    exact ⟨rfl, rfl⟩
  | x :: l, k + 1, a, h => by
    have := acells_at (l := l) (k := k) (a := a) (by simpa using h)
    rw [show (k + 1) * 2 = k * 2 + 2 by omega]
    exact this
theorem acells_one {l : List (Str × Str)} : ∀ u ∈ acells l, u.oneCell' = true := by
  intro u hu
  obtain ⟨a, _, ha⟩ := List.mem_flatMap.1 hu
  simp at ha
  rcases ha with rfl | rfl <;> rfl
section
variable {w : World} {S : Nat → Prop} {v : Value} {l : List (Str × Str)}
theorem bs_eqv (a b : Str) : ((bs a).toList == (bs b).toList) = (a == b) := by rw [bs_toList, bs_toList]
theorem bs_inj {a b : Str} (h : bs a = bs b) : a = b := by rw [← bs_data a, h, bs_data]
theorem bs_dec (a b : Str) : decide (bs a = bs b) = (a == b) := by
  rw [Bool.eq_iff_iff, decide_eq_true_iff, beq_iff_eq]
  exact ⟨bs_inj, fun h => by rw [h]⟩
theorem tagf_h {ab : Nat} {a b : Str} (hb : w.heap[ab]? = some (.cells #[.string (bs a), .string (bs b)] 64 (0, 0))) (x y : Str) :
    Calls Tryz.prog 145 #[.agg #[.string (bs x), .string (bs y)], .pointer (some ⟨ab, 0, none⟩)] w fun e w' => e = .returned (.bool (x == a)) ∧ Fr (fun _ => False) w w' := by
  have hF : Fr (fun _ => False) w (w.alloc (.cells #[.string (bs x), .string (bs y)] 64)) := (Fr.refl _ _).alloc _
  have hb2 := hF.keep hb (fun h => h)
  have c0 := cell_of hb2 (i := 0) (v := _) rfl
  have HE := Lib.hid (bs_eqv x a)
  have HF := Lib.hid hF
  clear hF
  go_enter Tryz.func145, Tryz.ntmps145
  go_wp2_with fail
  go_ret
  exact ⟨by rw [← HE.out] <;> rfl, HF.out⟩
def IdxAPost (l : List (Str × Str)) (a : Str) (w : World) (e : Ending) (w' : World) : Prop :=
  (∃ r : Int, e = .returned (.int .i64 r) ∧ decide (0 ≤ r) = l.any (fun b => b.1 == a)) ∧ Fr (fun _ => False) w w'
set_option maxHeartbeats 2000000 in
theorem idxa_h (ha : SRow w S 2 v l.length (acells l)) (hl : l.length < 1000000) {ab : Nat} {a b : Str} (hb : w.heap[ab]? = some (.cells #[.string (bs a), .string (bs b)] 64 (0, 0))) :
    Calls Tryz.prog 168 #[v, .func (.func 145) #[] #[.pointer (some ⟨ab, 0, none⟩)]] w (IdxAPost l a w) := by
  have HS := Lib.hid ha
  have HB := Lib.hid hb
  obtain ⟨_, p, cap, rfl, hnc, hcm, h5, h6⟩ := ha
  clear hb h6 h5
  go_enter Tryz.func168, Tryz.ntmps168
  go_wp2_with fail
  go_loopg [8] (l.length) (fun j u wr => ∃ k : Nat, k + j = l.length ∧ u = .int .i64 k ∧ (∀ i x, i < k → l[i]? = some x → (x.1 == a) = false) ∧ Fr (fun _ => False) w wr)
  case atStart => exact ⟨0, by omega, rfl, fun i x h => by omega, Fr.refl _ _⟩
  case round =>
    obtain ⟨k, hk, rfl, ht, hf⟩ := hrel
    have HK := Lib.hid (And.intro hk (And.intro ht hf))
    clear hk ht
    have hs2 := HS.out.fr hf (fun _ _ h => h)
    have hb2 := hf.keep HB.out (fun h => h)
    clear hf
    by_cases hlt : k < l.length
    · obtain ⟨g, off, rfl, hc⟩ := hs2.cell (by omega)
      obtain ⟨q, hq⟩ : ∃ p, l[k]? = some p := ⟨_, List.getElem?_eq_getElem hlt⟩
      obtain ⟨k0, k1⟩ := acells_at hq
      have c0 := hc _ _ k0
      have c1 := hc _ _ k1
      rw [← Nat.add_assoc] at c1
      have HP := Lib.hid hq
      have HT := Lib.hid (tagf_h hb2 q.1 q.2)
      clear hc hq k0 k1 hb2 hs2
      go_wp2_with fail
      refine Calls.mono HT.out ?_
      rintro e w' ⟨rfl, hf2⟩
      have HF2 := Lib.hid (HK.out.2.2.next hf2)
      clear hf2
      cases hB : q.1 == a with
      | true =>
        have HQ := Lib.hid hB
        clear hB
        go_wp2_with fail
        go_ret
        refine ⟨⟨k, rfl, ?_⟩, HF2.out⟩
        have : l.any (fun b => b.1 == a) = true := by rw [List.any_eq_true]; exact ⟨q, List.mem_of_getElem? HP.out, HQ.out⟩
        rw [this]; simp
      | false =>
        have HQ := Lib.hid hB
        clear hB
        go_wp2_with fail
        go_roundg (l.length - (k + 1))
        case measure => have := HK.out.1; omega
        case rel =>
          refine ⟨k + 1, by omega, by go_num, fun i x hi hx => ?_, HF2.out⟩
          by_cases hik : i = k
          · subst hik; rw [HP.out] at hx; obtain rfl := Option.some.inj hx; exact HQ.out
          · exact HK.out.2.1 i x (by omega) hx
    · clear hs2 hb2
      go_wp2_with fail
      go_ret
      refine ⟨⟨-1, rfl, ?_⟩, HK.out.2.2⟩
      have : l.any (fun b => b.1 == a) = false := by
        rw [List.any_eq_false]
        intro x hx
        obtain ⟨i, hi⟩ := List.getElem?_of_mem hx
        rw [HK.out.2.1 i x (by have := (List.getElem?_eq_some_iff.1 hi).1; omega) hi]; simp
      rw [this]; rfl
theorem hasa_h (ha : SRow w S 2 v l.length (acells l)) (hl : l.length < 1000000) {ab : Nat} {a b : Str} (hb : w.heap[ab]? = some (.cells #[.string (bs a), .string (bs b)] 64 (0, 0))) :
    Calls Tryz.prog 144 #[v, .func (.func 145) #[] #[.pointer (some ⟨ab, 0, none⟩)]] w fun e w' => e = .returned (.bool (l.any (fun b => b.1 == a))) ∧ Fr (fun _ => False) w w' := by
  have H := Lib.hid (idxa_h ha hl hb)
  clear ha hb
  go_enter Tryz.func144, Tryz.ntmps144
  go_wp2_with fail
  refine Calls.mono H.out ?_
  rintro e w' ⟨⟨r, rfl, hr⟩, hf⟩
  have HD := Lib.hid hr
  have HF := Lib.hid hf
  clear hr hf
  go_wp2_with fail
  go_ret
  exact ⟨by rw [← HD.out] <;> rfl, HF.out⟩
end
/-! ### tokens in memory -/
def tc (p : TokD × Value) : List Value := [.int .i64 p.1.kind, .string (bs p.1.name), p.2, .string (bs p.1.text)]
def tcells (ps : List (TokD × Value)) : List Value := ps.flatMap tc
theorem tcells_len (ps : List (TokD × Value)) : (tcells ps).length = ps.length * 4 := by
  unfold tcells; induction ps with
  | nil => rfl
  | cons a l ih => rw [List.flatMap_cons, List.length_append, ih]; simp [tc]; omega
theorem tcells_app (a b : List (TokD × Value)) : tcells a ++ tcells b = tcells (a ++ b) := List.flatMap_append.symm
/-- v is a slice of one's own that holds the tokens l; their attributes lie in rows of one's own, too -/
def Toks (B : Nat) (w : World) (v : Value) (l : List TokD) : Prop :=
  ∃ ps : List (TokD × Value), ps.map Prod.fst = l ∧ w.ownsRow B 54 4 v ps.length (tcells ps) ∧ ∀ p ∈ ps, w.ownsRow B 64 2 p.2 p.1.attrs.length (acells p.1.attrs)
theorem ownsRow_fr {w w' : World} {B e size n : Nat} {v : Value} {xs : List Value} (h : w.ownsRow B e size v n xs) (hf : Fr (fun _ => False) w w') : w'.ownsRow B e size v n xs :=
  ownsRow_keep h fun k hk => hf.block k (h.lt k hk).2 (fun h => h)
theorem Toks.fr {B : Nat} {w w' : World} {v : Value} {l : List TokD} (h : Toks B w v l) (hf : Fr (fun _ => False) w w') : Toks B w' v l := by
  obtain ⟨ps, h1, h2, h3⟩ := h
  exact ⟨ps, h1, ownsRow_fr h2 hf, fun p hp => ownsRow_fr (h3 p hp) hf⟩
theorem ownsRow_others {w w' : World} {B e size n b : Nat} {v : Value} {xs : List Value} (h : w.ownsRow B e size v n xs) (hk : Lib.OthersKept 5 (some b) w w') (hs : w.heap.size ≤ w'.heap.size) (he : e ≠ 5) (hb : ∃ c T f, w.heap[b]? = some (.cells c T f) ∧ T ≠ e) : w'.ownsRow B e size v n xs := by
  refine ⟨h.1, ?_⟩
  rcases h.2 with h2 | ⟨g, cap, cur, hv, hg, hh, r⟩
  · exact .inl h2
  · refine .inr ⟨g, cap, cur, hv, hg, hk g _ hh ?_ ?_, r⟩
    · intro e1
      obtain rfl := Option.some.inj e1
      obtain ⟨c, T, f, h1, h2⟩ := hb
      rw [hh] at h1
      injection h1 with h1; injection h1 with _ h1
      exact h2 h1.symm
    · intro c fz e1; injection e1 with _ e1; exact he e1
theorem Toks.others {B b : Nat} {w w' : World} {v : Value} {l : List TokD} (h : Toks B w v l) (hk : Lib.OthersKept 5 (some b) w w') (hs : w.heap.size ≤ w'.heap.size) (hb : ∃ c f, w.heap[b]? = some (.cells c 115 f)) : Toks B w' v l := by
  obtain ⟨ps, h1, h2, h3⟩ := h
  obtain ⟨c, f, hb⟩ := hb
  exact ⟨ps, h1, ownsRow_others h2 hk hs (by decide) ⟨c, 115, f, hb, by decide⟩, fun p hp => ownsRow_others (h3 p hp) hk hs (by decide) ⟨c, 115, f, hb, by decide⟩⟩
theorem Toks.nil (B : Nat) (w : World) : Toks B w (.slice none 0 0) [] := ⟨[], rfl, World.ownsRow_nil _ _ _ _, fun _ h => by cases h⟩
theorem Toks.base {B B2 : Nat} {w : World} {v : Value} {l : List TokD} (h : Toks B w v l) (hb : B2 ≤ B) : Toks B2 w v l := by
  obtain ⟨ps, h1, h2, h3⟩ := h
  exact ⟨ps, h1, ownsRow_base h2 hb, fun p hp => ownsRow_base (h3 p hp) hb⟩
theorem Toks.shape {B : Nat} {w : World} {v : Value} {l : List TokD} (h : Toks B w v l) : ∃ a cap, v = .slice a l.length cap := by
  obtain ⟨ps, h1, h2, _⟩ := h
  rw [← h1, List.length_map]
  rcases h2.2 with ⟨rfl, h3⟩ | ⟨g, cap, cur, rfl, _⟩
  · exact ⟨none, 0, by rw [h3]⟩
  · exact ⟨_, _, rfl⟩
end Go.Proofs.YtpinjgdnhbogoaaGreatDoor
