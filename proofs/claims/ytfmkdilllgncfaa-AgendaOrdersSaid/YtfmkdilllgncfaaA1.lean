import Derived.Test.YtfmkdilllgncfaaProg
import Derived.WalkKit
import Derived.WalkSpells
import Derived.WalkLawsBesides
import Derived.Outline
import Derived.Lib.Hide
import Derived.Deep.QuietTactic
import Derived.BigQuiet
import Derived.Deep.DeepMust
import Derived.Deep.DeepFit
namespace Go.Proofs.Ytfmkdilllgncfaa
open Go.RowKit Go.Lib

def pickZ (c n : Int) : Int := if c < 0 then (-(c+1)) % n else c % n
theorem pick_any (c n : Int) (w : World) (h : -9223372036854775808 ≤ c) (h' : c ≤ 9223372036854775807) (hn : 0 < n) (hn' : n ≤ 1000) :
    Calls Try.prog 10 #[.int .i64 c, .int .i64 n] w fun e w' => e = .returned (.int .i64 (pickZ c n)) ∧ w = w' := by
  by_cases hc : c < 0
  · go_enter Try.func10, Try.ntmps10
    go_wp2
    go_ret
    refine ⟨?_, rfl⟩
    show Ending.returned (.int .i64 _) = _
    rw [pickZ, if_pos hc, ← Int.tmod_eq_emod_of_nonneg (by omega), Int.neg_tmod]
  · go_enter Try.func10, Try.ntmps10
    go_wp2
    go_ret
    refine ⟨?_, rfl⟩
    rw [pickZ, if_neg (by omega)]
    rfl

def ltT (a1 i1 a2 i2 : Int) : Bool := decide (a1 < a2 ∨ (a1 = a2 ∧ i1 < i2))

set_option maxHeartbeats 400000 in
theorem before_any (p q : Nat) (a1 i1 a2 i2 : Int) (w : World) (h1 : w.cell? ⟨p,0,none⟩ = some (.int .i64 a1)) (h2 : w.cell? ⟨p,1,none⟩ = some (.int .i64 i1))
   (h3 : w.cell? ⟨q,0,none⟩ = some (.int .i64 a2)) (h4 : w.cell? ⟨q,1,none⟩ = some (.int .i64 i2)) :
    Calls Try.prog 47 #[.pointer (some ⟨p,0,none⟩), .pointer (some ⟨q,0,none⟩)] w fun e w' => e = .returned (.bool (ltT a1 i1 a2 i2)) ∧ ∃ n, w' = w.drewN n := by
  by_cases c1 : a1 < a2
  · have d1 : decide (a1 < a2) = true := by simpa using c1
    go_enter Try.func47, Try.ntmps47
    go_wp2
    go_quiet (fail)
    go_wp2
    go_ret
    exact ⟨by simp [ltT, c1], _, rfl⟩
  · have d1 : decide (a1 < a2) = false := by simpa using c1
    by_cases c2 : a1 = a2
    · subst c2
      go_enter Try.func47, Try.ntmps47
      go_wp2
      go_quiet (fail)
      go_wp2
      go_ret
      exact ⟨by simp [ltT], _, rfl⟩
    · have d2 : (a1 == a2) = false := by simpa using c2
      go_enter Try.func47, Try.ntmps47
      go_wp2
      go_quiet (fail)
      go_wp2
      go_ret
      exact ⟨by simp [ltT, c1, c2], _, rfl⟩
end Go.Proofs.Ytfmkdilllgncfaa
