/- Ahead of the walk of conf.With: IndexFunc with its closure, what Insert leaves. -/
import Derived.Test.YtnplikpjogoghaaV2
import Derived.Deep.RegionWith
namespace Go.Proofs.Ytnplikpjogoghaa
open Go.RowKit Go.Lib

section
variable {w : World} {S S' : Nat → Prop} {a b : Value} {l m : List Int}

set_option maxHeartbeats 1000000 in
theorem indexf36_h (ha : IR w S a l) (hl : l.length < 1000000) (B : Nat) (p : Int → Bool) (hp : ∀ n, Calls Try.prog 36 #[.int .i64 n, .pointer (some ⟨B, 0, none⟩)] w fun e w' => e = .returned (.bool (p n)) ∧ w = w') :
    Calls Try.prog 35 #[a, .func (.func 36) #[] #[.pointer (some ⟨B, 0, none⟩)]] w (IdxFPost l p w) := by
  have HH := Lib.hid hp
  clear hp
  obtain ⟨a, cap, rfl, hc1, hc2⟩ := ha.form
  go_enter Try.func35, Try.ntmps35
  go_wp2_with fail
  go_loopg [8] (l.length) (fun j v wr => ∃ k : Nat, k + j = l.length ∧ v = .int .i64 k ∧ (∀ i x, i < k → l[i]? = some x → p x = false) ∧ w = wr)
  case atStart => exact ⟨0, by omega, rfl, fun i x h => by omega, rfl⟩
  case round =>
    obtain ⟨k, hk, rfl, ht, rfl⟩ := hrel
    have HK := Lib.hid (And.intro hk ht)
    clear hk ht
    by_cases hlt : k < l.length
    · obtain ⟨g, off, rfl, hc⟩ := ha.cells (by omega)
      obtain ⟨q, hq⟩ : ∃ p, l[k]? = some p := ⟨_, List.getElem?_eq_getElem hlt⟩
      have c1 := hc k q hq
      have HP := Lib.hid hq
      clear hc hq
      go_wp2_with fail
      refine Calls.mono (HH.out q) ?_
      rintro e w' ⟨rfl, rfl⟩
      cases hB : p q with
      | true =>
        have HQ := Lib.hid hB
        clear hB
        go_wp2_with fail
        go_ret
        exact ⟨k, rfl, .inr ⟨k, rfl, hlt, HK.out.2, q, HP.out, HQ.out⟩, rfl⟩
      | false =>
        have HQ := Lib.hid hB
        clear hB
        go_wp2_with fail
        go_roundg (l.length - (k + 1))
        case measure => have := HK.out; omega
        case rel =>
          refine ⟨k + 1, by omega, by go_num, fun i x hi hx => ?_, rfl⟩
          by_cases hik : i = k
          · subst hik; rw [HP.out] at hx; obtain rfl := Option.some.inj hx; exact HQ.out
          · exact HK.out.2 i x (by omega) hx
    · go_wp2_with fail
      go_ret
      refine ⟨-1, rfl, .inl ⟨rfl, fun x hx => ?_⟩, rfl⟩
      obtain ⟨i, hi⟩ := List.getElem?_of_mem hx
      exact HK.out.2 i x (by have := (List.getElem?_eq_some_iff.1 hi).1; omega) hi


theorem clos36_h {B : Nat} {n : Int} (hc : w.cell? ⟨B, 0, none⟩ = some (.int .i64 n)) (x : Int) :
    Calls Try.prog 36 #[.int .i64 x, .pointer (some ⟨B, 0, none⟩)] w fun e w' => e = .returned (.bool (decide (n < x))) ∧ w = w' := by
  go_enter Try.func36, Try.ntmps36
  go_wp2_with fail
  go_ret
  exact ⟨rfl, rfl⟩

def NewPost (l : List Int) (w : World) (e : Ending) (w' : World) : Prop := ∃ v, e = .returned v ∧ IR w' (fun k => w.heap.size ≤ k) v l ∧ Fr (fun _ => False) w w'
theorem new_of {w0 w1 w' : World} {B : Nat} {e : Ending} (hF : Fr (fun _ => False) w0 w1) (hB : w0.heap.size ≤ B) (h : InsPost B l w1 e w') : NewPost l w0 e w' := by
  obtain ⟨v, rfl, h1, h2⟩ := h
  exact ⟨v, rfl, IR.mono h1 fun k hk => Nat.le_trans hB hk, hF.trans h2 fun i hi => .inr (Nat.le_trans hB hi)⟩

/-- where it is put, by what IndexFunc says -/
theorem with_none {l : List Int} {n : Int} (hh : hasB l n = false) (h : ∀ x ∈ l, decide (n < x) = false) : withL l n = putAt l l.length n := by
  unfold withL
  rw [if_neg (by rw [hh]; simp), below_at (Nat.le_refl _) (fun i x _ hx => by have := h x (List.mem_of_getElem? hx); simpa using this) (fun x hx => by have := (List.getElem?_eq_some_iff.1 hx).1; omega)]
theorem with_some {l : List Int} {n x : Int} {k : Nat} (hh : hasB l n = false) (hk : k < l.length) (h : ∀ i x, i < k → l[i]? = some x → decide (n < x) = false) (hx : l[k]? = some x) (hn : decide (n < x) = true) : withL l n = putAt l k n := by
  unfold withL
  rw [if_neg (by rw [hh]; simp), below_at (Nat.le_of_lt hk) (fun i y hi hy => by have := h i y hi hy; simpa using this) (fun y hy => by rw [hx] at hy; obtain rfl := Option.some.inj hy; simpa using hn)]

theorem ins1 {w W w3 : World} {v : Value} {k : Nat} {n : Int} (hW : Fr (fun _ => False) w W) (hO : OI w3 W.heap.size v l) (hF : Fr (fun _ => False) W w3) (hl : l.length < 100000) (hk : k ≤ l.length) :
    Calls Try.prog 37 #[v, .int .i64 k, .slice (some ⟨w3.heap.size, 0, none⟩) 1 1] (w3.alloc (.cells #[.int .i64 n] 3)) fun e w' => ∃ v, e = .returned v ∧ IR w' (fun k => w.heap.size ≤ k) v (putAt l k n) ∧ Fr (fun _ => False) w w' := by
  refine Calls.mono (insert_h (n := n) (hO.alloc _) (by omega) (by have := hF.size; simp; omega) hk (block_new _ _) (fun e => by have := (World.ownsRow.lt hO _ e).2; omega)) ?_
  intro e w' h
  exact new_of ((hW.next hF).alloc _) hW.size h
theorem ins2 {w W w3 : World} {v : Value} {k : Nat} {n : Int} (x : Obj) (hW : W = ((w.alloc x).alloc (.cells #[.int .i64 n] 3)).drew) (hO : OI w3 W.heap.size v l) (hF : Fr (fun _ => False) W w3) (hl : l.length < 100000) (hk : k ≤ l.length) :
    Calls Try.prog 37 #[v, .int .i64 k, .slice (some ⟨w.heap.size + 1, 0, none⟩) 1 1] w3 fun e w' => ∃ v, e = .returned v ∧ IR w' (fun k => w.heap.size ≤ k) v (putAt l k n) ∧ Fr (fun _ => False) w w' := by
  have hFW : Fr (fun _ => False) w W := by rw [hW]; exact (((Fr.refl _ _).alloc _).alloc _).drew
  have hb : W.heap[w.heap.size + 1]? = some (.cells #[.int .i64 n] 3 (0, 0)) := by rw [hW]; exact block_new_drew (by simp)
  have hsz : W.heap.size = w.heap.size + 2 := by rw [hW]; simp [World.drew]
  refine Calls.mono (insert_h (n := n) hO (by omega) hF.size hk (hF.keep hb (fun h => h)) (fun e => by have := (World.ownsRow.lt hO _ e).1; omega)) ?_
  intro e w' h
  exact new_of (hFW.next hF) hFW.size h

end
end Go.Proofs.Ytnplikpjogoghaa
