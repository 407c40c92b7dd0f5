/- The walks of the reference's Drop, At, Due, and of the law's same and has. -/
import Derived.Test.YtfmkdilllgncfaaRow
import Derived.Test.YtfmkdilllgncfaaA1
import Derived.Test.YtfmkdilllgncfaaW7
namespace Go.Proofs.Ytfmkdilllgncfaa
open Go.RowKit Go.Lib

def tcells (l : List (Int × Int)) : List Value := l.flatMap fun p => [.int .i64 p.1, .int .i64 p.2]
theorem tcells_append (l m : List (Int × Int)) : tcells (l ++ m) = tcells l ++ tcells m := by simp [tcells]
theorem tcells_length (l : List (Int × Int)) : (tcells l).length = l.length * 2 := by
  induction l with
  | nil => rfl
  | cons p l ih => simp [tcells] at *; omega
theorem tcells_fst {l : List (Int × Int)} {i : Nat} {p : Int × Int} (h : l[i]? = some p) : (tcells l)[i * 2]? = some (.int .i64 p.1) ∧ (tcells l)[i * 2 + 1]? = some (.int .i64 p.2) := by
  induction l generalizing i with
  | nil => simp at h
  | cons q l ih =>
    cases i with
    | zero => simp at h; subst h; simp [tcells]
    | succ i =>
      have := ih (i := i) (by simpa using h)
      have e : tcells (q :: l) = .int .i64 q.1 :: .int .i64 q.2 :: tcells l := by simp [tcells]
      rw [e, show (i + 1) * 2 = i * 2 + 1 + 1 from by omega]
      simpa using this
theorem tcells_take (l : List (Int × Int)) (k : Nat) : (tcells l).take (k * 2) = tcells (l.take k) := by
  induction l generalizing k with
  | nil => simp [tcells]
  | cons q l ih =>
    cases k with
    | zero => simp [tcells]
    | succ k =>
      have e : ∀ l, tcells (q :: l) = .int .i64 q.1 :: .int .i64 q.2 :: tcells l := fun l => by simp [tcells]
      rw [List.take_succ_cons, e, e, show (k + 1) * 2 = k * 2 + 1 + 1 from by omega, List.take_succ_cons, List.take_succ_cons, ih]
theorem tcells_drop (l : List (Int × Int)) (k : Nat) : (tcells l).drop (k * 2) = tcells (l.drop k) := by
  induction l generalizing k with
  | nil => simp [tcells]
  | cons q l ih =>
    cases k with
    | zero => simp
    | succ k =>
      have e : ∀ l, tcells (q :: l) = .int .i64 q.1 :: .int .i64 q.2 :: tcells l := fun l => by simp [tcells]
      rw [List.drop_succ_cons, e, show (k + 1) * 2 = k * 2 + 1 + 1 from by omega, List.drop_succ_cons, List.drop_succ_cons, ih]
theorem tcells_one (l : List (Int × Int)) : ∀ u ∈ tcells l, u.oneCell' = true := by
  intro u hu
  simp only [tcells, List.mem_flatMap] at hu
  obtain ⟨p, _, hp⟩ := hu
  simp at hp
  rcases hp with rfl | rfl <;> rfl

/-- a slice of things that reads as l -/
def TR (w : World) (S : Nat → Prop) (v : Value) (l : List (Int × Int)) : Prop := SRow w S 2 v l.length (tcells l)
/-- a slice of numbers that reads as l -/
def IR (w : World) (S : Nat → Prop) (v : Value) (l : List Int) : Prop := SRow w S 1 v l.length (l.map (Value.int .i64))

theorem TR.cells {w : World} {S : Nat → Prop} {a : Option Addr} {cap : Nat} {l : List (Int × Int)} (h : TR w S (.slice a l.length cap) l) (hn : 0 < l.length) :
    ∃ g off, a = some ⟨g, off, none⟩ ∧ ∀ i p, l[i]? = some p → w.cell? ⟨g, off + i * 2, none⟩ = some (.int .i64 p.1) ∧ w.cell? ⟨g, off + i * 2 + 1, none⟩ = some (.int .i64 p.2) := by
  obtain ⟨g, off, h1, h2⟩ := SRow.cell h hn
  exact ⟨g, off, h1, fun i p hp => ⟨h2 _ _ (tcells_fst hp).1, h2 _ _ (tcells_fst hp).2⟩⟩
theorem TR.form {w : World} {S : Nat → Prop} {v : Value} {l : List (Int × Int)} (h : TR w S v l) : ∃ a cap, v = .slice a l.length cap := let ⟨_, a, cap, h2, _⟩ := h; ⟨a, cap, h2⟩
theorem IR.form {w : World} {S : Nat → Prop} {v : Value} {l : List Int} (h : IR w S v l) : ∃ a cap, v = .slice a l.length cap := let ⟨_, a, cap, h2, _⟩ := h; ⟨a, cap, h2⟩
theorem IR.cells {w : World} {S : Nat → Prop} {a : Option Addr} {cap : Nat} {l : List Int} (h : IR w S (.slice a l.length cap) l) (hn : 0 < l.length) :
    ∃ g off, a = some ⟨g, off, none⟩ ∧ ∀ i p, l[i]? = some p → w.cell? ⟨g, off + i, none⟩ = some (.int .i64 p) := by
  obtain ⟨g, off, h1, h2⟩ := SRow.cell h hn
  exact ⟨g, off, h1, fun i p hp => h2 _ _ (by simp [hp])⟩

/-! ### At -/
def RAtPost (l : List (Int × Int)) (id : Int) (w : World) (e : Ending) (w' : World) : Prop :=
  e = .returned (.tuple #[.int .i64 ((atL l id).getD 0), .bool (atL l id).isSome]) ∧ w = w'
theorem atL_skip {l : List (Int × Int)} {id : Int} {k : Nat} (h : ∀ i p, i < k → l[i]? = some p → p.2 ≠ id) : atL l id = atL (l.drop k) id := by
  unfold atL
  conv => lhs; rw [← List.take_append_drop k l]
  rw [List.find?_append, List.find?_eq_none.2]
  · rfl
  · intro p hp
    obtain ⟨i, hi⟩ := List.getElem?_of_mem hp
    rw [List.getElem?_take] at hi
    split at hi
    · simp [h i p ‹_› hi]
    · cases hi

set_option maxHeartbeats 1000000 in
theorem rat_h {w : World} {S : Nat → Prop} {v : Value} {l : List (Int × Int)} (h : TR w S v l) (hlen : l.length < 1000000) (id : Int) : Calls Try.prog 21 #[v, .int .i64 id] w (RAtPost l id w) := by
  obtain ⟨a, cap, rfl⟩ := h.form
  go_enter Try.func21, Try.ntmps21
  go_wp2_with fail
  go_loop [6] (fun v => ∃ k : Nat, k ≤ l.length ∧ v = .int .i64 k ∧ ∀ i p, i < k → l[i]? = some p → p.2 ≠ id) (fun v => l.length - (intOf v).toNat)
  case atStart => exact ⟨0, Nat.zero_le _, rfl, fun i p hi => absurd hi (Nat.not_lt_zero _)⟩
  case round =>
    obtain ⟨k, hk, rfl, hno⟩ := hrel
    have HN := Lib.hid hno; clear hno
    by_cases hlt : k < l.length
    · obtain ⟨g, off, rfl, hc⟩ := h.cells (by omega)
      obtain ⟨p, hp⟩ : ∃ p, l[k]? = some p := ⟨_, List.getElem?_eq_getElem hlt⟩
      obtain ⟨c1, c2⟩ := hc k p hp
      have HP := Lib.hid hp
      clear hc hp h
      by_cases hid : p.2 = id
      · have d1 : (p.2 == id) = true := by simpa using hid
        have HI := Lib.hid hid
        clear hid
        go_wp2_with fail
        go_ret2
        have ha : atL l id = some p.1 := by
          rw [atL_skip HN.out]
          obtain ⟨_, he⟩ := List.getElem?_eq_some_iff.1 HP.out
          rw [List.drop_eq_getElem_cons hlt, he]
          unfold atL
          rw [List.find?_cons_of_pos (by simp [HI.out])]
          rfl
        exact ⟨by rw [ha]; rfl, rfl⟩
      · have d1 : (p.2 == id) = false := by simpa using hid
        have HI := Lib.hid hid
        clear hid
        go_wp2_with fail
        go_round
        case rel => exact ⟨k + 1, by omega, by go_num, fun i q hi hq => by
                      rcases Nat.lt_succ_iff_lt_or_eq.1 hi with h1 | h1
                      · exact HN.out i q h1 hq
                      · subst h1; rw [HP.out] at hq; obtain rfl := Option.some.inj hq; exact HI.out⟩
        case measure => simp [intOf]; omega
    · go_wp2_with fail
      go_ret2
      have ha : atL l id = none := atL_none fun p hp => by
        obtain ⟨i, hi⟩ := List.getElem?_of_mem hp
        exact HN.out i p (by have := (List.getElem?_eq_some_iff.1 hi).1; omega) hi
      exact ⟨by rw [ha]; rfl, rfl⟩
end Go.Proofs.Ytfmkdilllgncfaa
