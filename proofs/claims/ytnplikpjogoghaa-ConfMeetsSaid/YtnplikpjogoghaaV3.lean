/- The walk of conf.With. -/
import Derived.Test.YtnplikpjogoghaaV3a
namespace Go.Proofs.Ytnplikpjogoghaa
open Go.RowKit Go.Lib

section
variable {w : World} {S S' : Nat → Prop} {a b : Value} {l m : List Int}

set_option maxHeartbeats 4000000 in
theorem with_h (ha : IR w S a l) (hl : l.length < 100000) (n : Int) : Calls Try.prog 23 #[a, .int .i64 n] w (NewPost (withL l n) w) := by
  have HC := Lib.hid (fun (W : World) (hF : Fr (fun _ => False) w W) => clone_h (ha.grow hF) (by omega))
  have HH := Lib.hid (fun (W : World) (hF : Fr (fun _ => False) w W) => chas_h (ha.grow hF) (by omega) n)
  have HI := Lib.hid (fun (W : World) (hF : Fr (fun _ => False) w W) (hc : W.cell? ⟨w.heap.size, 0, none⟩ = some (.int .i64 n)) => indexf36_h (ha.grow hF) (by omega) w.heap.size _ (clos36_h hc))
  have hmf : ∀ (fn : Fn) (first cap : Array Value) (w : World), (Instr.makeFunc fn first cap).run Try.prog w = .ok (.func fn first cap) w := fun _ _ _ _ => rfl
  obtain ⟨a, ca, rfl, hca1, hca2⟩ := ha.form
  clear ha
  go_enter Try.func23, Try.ntmps23
  go_wp2_with fail
  refine Calls.mono (HH.out _ ((Fr.refl _ _).alloc _)) ?_
  rintro e w1 ⟨rfl, rfl⟩
  cases hb : hasB l n with
  | true =>
    have HB := Lib.hid hb
    clear hb
    go_wp2_with fail
    refine Calls.mono (HC.out _ ((Fr.refl _ _).alloc _)) ?_
    rintro e w2 ⟨v, rfl, hO, hF⟩
    go_wp2_with fail
    go_ret
    refine ⟨v, rfl, ?_, ((Fr.refl _ _).alloc _).next hF⟩
    unfold withL
    rw [if_pos HB.out]
    exact hO.irb.mono fun k hk => by simp at hk; omega
  | false =>
    have HB := Lib.hid hb
    clear hb
    go_wp2_with fail
    refine Calls.mono (HI.out _ ((Fr.refl _ _).alloc _) (cell_of (block_new _ _) rfl)) ?_
    rintro e w2 ⟨r, rfl, hr, rfl⟩
    obtain ⟨k, hk, hput, hrk⟩ : ∃ k : Nat, k ≤ l.length ∧ withL l n = putAt l k n ∧ ((r = -1 ∧ k = l.length) ∨ r = k) := by
      rcases hr with ⟨rfl, hn⟩ | ⟨k, rfl, hk, h1, x, h2, h3⟩
      · exact ⟨l.length, Nat.le_refl _, with_none HB.out hn, .inl ⟨rfl, rfl⟩⟩
      · exact ⟨k, Nat.le_of_lt hk, with_some HB.out hk h1 h2 h3, .inr rfl⟩
    have HP := Lib.hid hput
    clear hput hr
    clear HB HI HH
    have hW1 : Fr (fun _ => False) w (w.alloc (.cells #[.int .i64 n] 3)).drew := ((Fr.refl _ _).alloc _).drew
    have H1 := HC.out _ hW1
    have H2 := HC.out ((w.alloc (.cells #[.int .i64 n] 3)).alloc (.cells #[.int .i64 n] 3)).drew (((Fr.refl _ _).alloc _).alloc _).drew
    have hc1 : (w.alloc (.cells #[.int .i64 n] 3)).drew.cell? ⟨w.heap.size, 0, none⟩ = some (.int .i64 n) := cell_of (block_new_drew rfl) rfl
    have hc2 : ((w.alloc (.cells #[.int .i64 n] 3)).alloc (.cells #[.int .i64 n] 3)).drew.cell? ⟨w.heap.size, 0, none⟩ = some (.int .i64 n) := cell_of (block_old_drew (block_new _ _) _) rfl
    clear HC
    rcases hrk with ⟨rfl, rfl⟩ | rfl
    · clear hmf hca1 hca2
      go_wp2_with fail
      go_region_with (first
        | (go_at_call 29; with_reducible refine Calls.mono H1 ?_; rintro e w3 ⟨v, rfl, hO, hF⟩; have hcx := hF.cell hc1 (fun h => h))
        | (go_at_call 29; with_reducible refine Calls.mono H2 ?_; rintro e w3 ⟨v, rfl, hO2, hF2⟩; have hcx := hF2.cell hc2 (fun h => h))
        | (go_at_call 37; have I1 := ins1 (n := n) hW1 hO hF hl hk; with_reducible refine Calls.mono I1 ?_; clear I1; rintro e w4 ⟨v4, rfl, h4, hF4⟩)
        | (go_at_call 37; have I1 := ins2 _ rfl hO2 hF2 hl hk; with_reducible refine Calls.mono I1 ?_; clear I1; rintro e w4 ⟨v4, rfl, h4, hF4⟩))
      all_goals (go_wp2_with fail)
      all_goals (go_ret; exact ⟨v4, rfl, by rw [HP.out]; exact h4, hF4⟩)
    · clear hmf hca1 hca2
      go_wp2_with fail
      go_region_with (first
        | (go_at_call 29; with_reducible refine Calls.mono H1 ?_; rintro e w3 ⟨v, rfl, hO, hF⟩; have hcx := hF.cell hc1 (fun h => h))
        | (go_at_call 29; with_reducible refine Calls.mono H2 ?_; rintro e w3 ⟨v, rfl, hO2, hF2⟩; have hcx := hF2.cell hc2 (fun h => h))
        | (go_at_call 37; have I1 := ins1 (n := n) hW1 hO hF hl hk; with_reducible refine Calls.mono I1 ?_; clear I1; rintro e w4 ⟨v4, rfl, h4, hF4⟩)
        | (go_at_call 37; have I1 := ins2 _ rfl hO2 hF2 hl hk; with_reducible refine Calls.mono I1 ?_; clear I1; rintro e w4 ⟨v4, rfl, h4, hF4⟩))
      all_goals (go_wp2_with fail)
      all_goals (go_ret; exact ⟨v4, rfl, by rw [HP.out]; exact h4, hF4⟩)
end
end Go.Proofs.Ytnplikpjogoghaa
