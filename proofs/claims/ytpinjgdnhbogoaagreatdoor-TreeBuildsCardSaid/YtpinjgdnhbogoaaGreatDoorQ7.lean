/- The reference's blanks and until. -/
import Derived.Test.YtpinjgdnhbogoaaGreatDoorQ6
import Derived.Test.YtpinjgdnhbogoaaGreatDoorM0
namespace Go.Proofs.YtpinjgdnhbogoaaGreatDoor
open Go.RowKit Go.Lib

set_option maxRecDepth 100000 in
set_option maxHeartbeats 4000000 in
theorem rblanks_h {w : World} (s : Str) (hs : s.length ≤ 1000000) : Calls Tryz.prog 118 #[.string (bs s)] w fun e w' => e = .returned (.int .i64 ((blanksN s : Nat) : Int)) ∧ w = w' := by
  have hsz : (bs s).size = s.length := rfl
  go_enter Tryz.func118, Tryz.ntmps118
  go_wp2_with fail
  go_loopg [3] (s.length) (fun j v wr => (∃ k : Nat, k + j = s.length ∧ v = .int .i64 k ∧ Hid (BlankTo s k)) ∧ w = wr)
  case atStart => exact ⟨⟨0, by omega, rfl, BlankTo.start s⟩, rfl⟩
  case round =>
    obtain ⟨⟨k, hk, rfl, HT⟩, rfl⟩ := hrel
    by_cases hlt : k < s.length
    · have hz : k < (bs s).size := hlt
      have hg := bs_at s k hz
      obtain ⟨c, hc⟩ : ∃ c, s.getD k 0 = c := ⟨_, rfl⟩
      rw [hc] at hg
      have HB := Lib.hid (rblank_h (w := w) c)
      have HK := Lib.hid (And.intro hk hlt)
      cases hb : blankC c with
      | true =>
        have HN := Lib.hid (HT.out.step hlt (by rw [hc]; exact hb))
        rw [hb] at HB
        clear hb hc hk
        go_wp2_with fail
        refine Calls.mono HB.out ?_
        rintro e w1 ⟨rfl, rfl⟩
        go_wp2_with fail
        go_roundg (s.length - (k + 1))
        case measure => have := HK.out; omega
        case rel => exact ⟨⟨k + 1, by have := HK.out; omega, by go_num, HN.out⟩, rfl⟩
      | false =>
        have HN := Lib.hid (HT.out.stop hlt (by rw [hc]; exact hb))
        rw [hb] at HB
        clear hb hc hk
        go_wp2_with fail
        refine Calls.mono HB.out ?_
        rintro e w1 ⟨rfl, rfl⟩
        go_wp2_with fail
        go_ret
        exact ⟨by rw [HN.out] <;> rfl, rfl⟩
    · have HN := Lib.hid (HT.out.all hlt)
      have h1 : ¬ (k : Int) < (s.length : Int) := by omega
      clear hlt hk
      go_wp2_with fail
      go_ret
      exact ⟨by rw [HN.out] <;> rfl, rfl⟩
set_option maxRecDepth 100000 in
set_option maxHeartbeats 4000000 in
theorem runtil_h {w : World} (s t : Str) (k : Nat) (hs : s.length ≤ 1000000) (ht : t.length ≤ 1000000) (h0 : 0 < t.length) (hk : k ≤ 1000000) :
    Calls Tryz.prog 116 #[.string (bs s), .int .i64 (k : Int), .string (bs t)] w fun e w' => e = .returned (.int .i64 ((untilN t s k : Nat) : Int)) ∧ w = w' := by
  have hsz : (bs s).size = s.length := rfl
  have htz : (bs t).size = t.length := rfl
  have HF := Lib.hid (rfind_h (w := w) s t k hs ht h0 hk)
  by_cases hn : findZ t s k < 0
  · have HE := Lib.hid (until_none hn)
    obtain ⟨z, hz⟩ : ∃ z, findZ t s k = z := ⟨_, rfl⟩
    rw [hz] at HF hn
    clear hz
    go_enter Tryz.func116, Tryz.ntmps116
    go_wp2_with fail
    refine Calls.mono HF.out ?_
    rintro e w1 ⟨rfl, rfl⟩
    go_wp2_with fail
    go_ret
    exact ⟨by rw [HE.out] <;> rfl, rfl⟩
  · have HE := Lib.hid (until_some hn)
    obtain ⟨a, b, h1, h2, h3⟩ := find_some hn
    have hl := congrArg List.length h3
    rw [List.length_drop, List.length_append, List.length_append] at hl
    obtain ⟨z, hz⟩ : ∃ z : Nat, z = k + a.length := ⟨_, rfl⟩
    have h4 : findZ t s k = (z : Int) := by rw [h2, hz]
    have hz2 : z ≤ 2000000 := by omega
    rw [h4] at HF HE
    clear hn h1 h2 h3 hl hz h4
    go_enter Tryz.func116, Tryz.ntmps116
    go_wp2_with fail
    refine Calls.mono HF.out ?_
    rintro e w1 ⟨rfl, rfl⟩
    go_wp2_with fail
    go_ret
    exact ⟨by rw [HE.out] <;> rfl, rfl⟩
end Go.Proofs.YtpinjgdnhbogoaaGreatDoor
