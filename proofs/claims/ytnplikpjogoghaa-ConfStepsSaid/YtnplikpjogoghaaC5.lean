/- The walks of IndexFunc, ContainsFunc and Next. -/
import Derived.Test.YtnplikpjogoghaaC2
namespace Go.Proofs.Ytnplikpjogoghaa
open Go.RowKit Go.Lib

section
variable {w : World} {S S' : Nat → Prop} {a b : Value} {l m : List Int}

def IdxFPost (l : List Int) (p : Int → Bool) (w : World) (e : Ending) (w' : World) : Prop :=
  ∃ r : Int, e = .returned (.int .i64 r) ∧ ((r = -1 ∧ ∀ x ∈ l, p x = false) ∨ ∃ k : Nat, r = k ∧ k < l.length ∧ (∀ i x, i < k → l[i]? = some x → p x = false) ∧ ∃ x, l[k]? = some x ∧ p x = true) ∧ w = w'
set_option maxHeartbeats 1000000 in
theorem indexf33_h (ha : IR w S a l) (hl : l.length < 1000000) (B : Nat) (p : Int → Bool) (hp : ∀ n, Calls Try.prog 33 #[.int .i64 n, .pointer (some ⟨B, 0, none⟩)] w fun e w' => e = .returned (.bool (p n)) ∧ w = w') :
    Calls Try.prog 35 #[a, .func (.func 33) #[] #[.pointer (some ⟨B, 0, none⟩)]] w (IdxFPost l p w) := by
  have HH := Lib.hid hp
  clear hp
  obtain ⟨a, cap, rfl, hc1, hc2⟩ := ha.form
  go_enter Try.func35, Try.ntmps35
  go_wp2_with fail
  go_loopg [8] (l.length) (fun j v wr => ∃ k : Nat, k + j = l.length ∧ v = .int .i64 k ∧ (∀ i x, i < k → l[i]? = some x → p x = false) ∧ w = wr)
  case atStart => exact ⟨0, by omega, rfl, fun i x h => by omega, rfl⟩
  case round =>
    obtain ⟨k, hk, rfl, ht, rfl⟩ := hrel
    have HK := Lib.hid (And.intro hk ht)
    clear hk ht
    by_cases hlt : k < l.length
    · obtain ⟨g, off, rfl, hc⟩ := ha.cells (by omega)
      obtain ⟨q, hq⟩ : ∃ p, l[k]? = some p := ⟨_, List.getElem?_eq_getElem hlt⟩
      have c1 := hc k q hq
      have HP := Lib.hid hq
      clear hc hq
      go_wp2_with fail
      refine Calls.mono (HH.out q) ?_
      rintro e w' ⟨rfl, rfl⟩
      cases hB : p q with
      | true =>
        have HQ := Lib.hid hB
        clear hB
        go_wp2_with fail
        go_ret
        exact ⟨k, rfl, .inr ⟨k, rfl, hlt, HK.out.2, q, HP.out, HQ.out⟩, rfl⟩
      | false =>
        have HQ := Lib.hid hB
        clear hB
        go_wp2_with fail
        go_roundg (l.length - (k + 1))
        case measure => have := HK.out; omega
        case rel =>
          refine ⟨k + 1, by omega, by go_num, fun i x hi hx => ?_, rfl⟩
          by_cases hik : i = k
          · subst hik; rw [HP.out] at hx; obtain rfl := Option.some.inj hx; exact HQ.out
          · exact HK.out.2 i x (by omega) hx
    · go_wp2_with fail
      go_ret
      refine ⟨-1, rfl, .inl ⟨rfl, fun x hx => ?_⟩, rfl⟩
      obtain ⟨i, hi⟩ := List.getElem?_of_mem hx
      exact HK.out.2 i x (by have := (List.getElem?_eq_some_iff.1 hi).1; omega) hi

theorem containsf33_h (ha : IR w S a l) (hl : l.length < 1000000) (B : Nat) (p : Int → Bool) (hp : ∀ n, Calls Try.prog 33 #[.int .i64 n, .pointer (some ⟨B, 0, none⟩)] w fun e w' => e = .returned (.bool (p n)) ∧ w = w') :
    Calls Try.prog 32 #[a, .func (.func 33) #[] #[.pointer (some ⟨B, 0, none⟩)]] w fun e w' => e = .returned (.bool (l.any p)) ∧ w = w' := by
  have H := indexf33_h ha hl B p hp
  clear hp
  go_enter Try.func32, Try.ntmps32
  go_wp2_with fail
  refine Calls.mono H ?_
  rintro e w' ⟨r, rfl, hr, rfl⟩
  have hd : decide (0 ≤ r) = l.any p := by
    rcases hr with ⟨rfl, hn⟩ | ⟨k, rfl, hk, _, x, hx, hpx⟩
    · have : l.any p = false := by rw [List.any_eq_false]; exact fun x hx => by simp [hn x hx]
      rw [this]; rfl
    · have : l.any p = true := by rw [List.any_eq_true]; exact ⟨x, List.mem_of_getElem? hx, hpx⟩
      rw [this]; simp
  have HD := Lib.hid hd
  clear hr hd
  go_wp2_with fail
  go_ret
  exact ⟨by rw [← HD.out]; rfl, rfl⟩

theorem next1_h {B : Nat} (hb : IR w S b m) (hm : m.length < 1000000) (hc : w.cell? ⟨B, 0, none⟩ = some b) (n : Int) :
    Calls Try.prog 33 #[.int .i64 n, .pointer (some ⟨B, 0, none⟩)] w fun e w' => e = .returned (.bool (!hasB m n)) ∧ w = w' := by
  have HH := Lib.hid (chas_h hb hm n)
  obtain ⟨b, cap, rfl, hc1, hc2⟩ := hb.form
  go_enter Try.func33, Try.ntmps33
  go_wp2_with fail
  refine Calls.mono HH.out ?_
  rintro e w' ⟨rfl, rfl⟩
  go_wp2_with fail
  go_ret
  exact ⟨rfl, rfl⟩
end
end Go.Proofs.Ytnplikpjogoghaa
