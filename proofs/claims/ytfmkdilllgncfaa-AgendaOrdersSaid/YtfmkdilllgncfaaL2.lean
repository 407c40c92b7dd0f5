/- The walk of the law AgendaOrders. -/
import Derived.Test.YtfmkdilllgncfaaTwo
namespace Go.Proofs.Ytfmkdilllgncfaa
open Go.RowKit Go.Lib

def OrdRel (w0 : World) (l : List Int) (s b1 b2 : Nat) (j : Nat) (v : Value) (wr : World) : Prop := ∃ (k : Nat) (m1 m2 : List (Int × Int)), k + j = l.length ∧ v = .int .i64 k ∧ Two w0 wr (fun _ => False) b1 m1 b2 m2 ∧ m1.Perm (prs l k) ∧ m2.Perm (turned l s k)
theorem pickZ_bounds (c : Int) {n : Int} (hn : 0 < n) : 0 ≤ pickZ c n ∧ pickZ c n < n := by
  unfold pickZ
  split
  · exact ⟨Int.emod_nonneg _ (by omega), Int.emod_lt_of_pos _ hn⟩
  · exact ⟨Int.emod_nonneg _ (by omega), Int.emod_lt_of_pos _ hn⟩

set_option maxRecDepth 100000 in
set_option maxHeartbeats 4000000 in
theorem orders_h {w : World} {v : Value} {l : List Int} (h : IR w (fun k => k < w.heap.size) v l) (hx : ∀ p ∈ l, p ≤ maxI) (turn : Int) (ht : -9223372036854775808 ≤ turn ∧ turn ≤ 9223372036854775807) :
    Calls Try.prog 6 #[v, .int .i64 turn] w fun e w' => e = .returned (.bool true) ∧ Fr (fun _ => False) w w' := by
  obtain ⟨a, cap, rfl⟩ := h.form
  obtain ⟨ht1, ht2⟩ := ht
  go_enter Try.func6, Try.ntmps6
  go_wp2_with fail
  refine Calls.mono (shown_h w) ?_
  rintro e w1 ⟨rfl, hf1⟩
  by_cases hbig : 200 < l.length
  · have d1 : decide (200 < (l.length : Int)) = true := by simp; omega
    go_wp2_with fail
    go_ret
    exact ⟨rfl, hf1⟩
  · have d1 : decide (200 < (l.length : Int)) = false := by simp; omega
    have hl2 : l.length ≤ 200 := by omega
    clear hbig
    by_cases h0 : l.length = 0
    · have d2 : ((l.length : Int) == 0) = true := by rw [beq_iff_eq]; omega
      have H0 := Lib.hid h0
      clear h0
      go_wp2_with fail
      go_ret
      exact ⟨rfl, hf1⟩
    · have d2 : ((l.length : Int) == 0) = false := by rw [beq_eq_false_iff_ne]; omega
      have hpos : 0 < l.length := by omega
      clear h0
      go_wp2_with fail
      refine Calls.mono (mine_new w1) ?_
      rintro e w2 ⟨b1, rfl, hm⟩
      go_wp2_with fail
      refine Calls.mono (two_new hm) ?_
      rintro e w3 ⟨b2, rfl, h3⟩
      clear hm
      go_wp2_with fail
      refine Calls.mono (pick_any turn l.length _ ht1 ht2 (by omega) (by omega)) ?_
      rintro e w4 ⟨rfl, rfl⟩
      obtain ⟨hs1, hs2⟩ := pickZ_bounds turn (n := (l.length : Int)) (by omega)
      obtain ⟨s, hs⟩ := Int.eq_ofNat_of_zero_le hs1
      rw [hs] at hs2 ⊢
      have hsl : s < l.length := by omega
      clear hs hs1 hs2
      go_wp2_with fail
      go_loopg [9] (l.length) (fun j v wr => OrdRel w1 l s b1 b2 j v wr)
      case atStart => exact ⟨0, [], [], by omega, rfl, h3, by simp [prs], by simp [turned]⟩
      case round =>
        clear h3
        obtain ⟨k, m1, m2, hk, rfl, hm, hp1, hp2⟩ := hrel
        have hl1 : m1.length < 999999 := by rw [hp1.length_eq, prs_length l (by omega)]; omega
        have hl3 : m2.length < 999999 := by rw [hp2.length_eq, turned_length]; omega
        have HK := Lib.hid (And.intro hk (And.intro hp1 hp2))
        clear hk hp1 hp2
        by_cases hlt : k < l.length
        · obtain ⟨g, off, rfl, hc⟩ := h.cells (by omega)
          have hc' := fun i p (hi : l[i]? = some p) => hf1.cell (hc i p hi) (fun h => h)
          clear hc
          obtain ⟨p, hp⟩ : ∃ p, l[k]? = some p := ⟨_, List.getElem?_eq_getElem hlt⟩
          have c1 := hm.fr.cell (hc' k p hp) (fun h => h)
          have HP := Lib.hid hp
          have hmod : ((k : Int) + (s : Int)) % (l.length : Int) = (((k + s) % l.length : Nat) : Int) := by simp
          have hml : (k + s) % l.length < l.length := Nat.mod_lt _ hpos
          obtain ⟨q, hq⟩ : ∃ p, l[(k + s) % l.length]? = some p := ⟨_, List.getElem?_eq_getElem hml⟩
          have hq2 : l.getD ((k + s) % l.length) 0 = q := by simp [List.getD, hq]
          have HQ := Lib.hid (And.intro hq hq2)
          have HC := Lib.hid hc'
          clear hp hq hq2 hc'
          go_wp2_with fail
          refine Calls.mono (two_put hm hl1 p k) ?_
          rintro e w4 ⟨rfl, hm4⟩
          have c2 := hm4.fr.cell (HC.out _ _ HQ.out.1) (fun h => h)
          generalize hn : (k + s) % l.length = n at hmod c2 hml
          have HN := Lib.hid hn
          clear hn
          go_wp2_with fail
          refine Calls.mono (two_put hm4.symm hl3 q n) ?_
          rintro e w5 ⟨rfl, hm5⟩
          go_wp2_with fail
          go_roundg (l.length - (k + 1))
          case measure => have := HK.out; omega
          case rel =>
            refine ⟨k + 1, _, _, by omega, by go_num, hm5.symm, put_perm HP.out HK.out.2.1, ?_⟩
            have := turned_put hsl hlt HK.out.2.2
            rwa [HN.out, ← HN.out, HQ.out.2, HN.out] at this
        · have hkl : k = l.length := by have := HK.out; omega
          subst hkl
          have heq : m1 = m2 := sorted_eq (HK.out.2.1.trans ((turned_perm hsl).symm.trans HK.out.2.2.symm)) hm.sorted.1 hm.sorted.2
          subst heq
          have hdue := due_all (m := m1) (now := maxI) fun q hq => by
            obtain ⟨n, hn, h1, h2⟩ := prs_mem (HK.out.2.1.mem_iff.1 hq)
            exact hx _ (List.mem_of_getElem? h1)
          have hd1 := two_due hm hl1 maxI
          have HD := Lib.hid (And.intro hd1 hdue)
          clear hd1 hdue hx
          go_wp2_with fail
          refine Calls.mono HD.out.1 ?_
          rintro e w4 ⟨v, rfl, h4, hv, hfv, _⟩
          have hd2 := two_due h4.symm hl1 maxI
          have HD2 := Lib.hid hd2
          clear hd2
          go_wp2_with fail
          refine Calls.mono HD2.out ?_
          rintro e w5 ⟨v2, rfl, h5, hv2, hfv2, _⟩
          have hv' := hv.fr hfv2 fun k hk hn => hn (.inr hk)
          have hlen : ((dueL m1 maxI).map (·.2)).length < 1000000 := by rw [List.length_map, HD.out.2.1]; omega
          go_wp2_with fail
          refine Calls.mono (same_h hv' hv2 hlen hlen) ?_
          rintro e w6 ⟨rfl, N, rfl⟩
          have hfr := h5.fr
          go_wp2_with fail
          go_ret
          exact ⟨by simp, (hf1.next hfr).drewN _⟩
end Go.Proofs.Ytfmkdilllgncfaa
