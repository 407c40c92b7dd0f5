/- The walk of the agenda's Due. -/
import Derived.Test.YtfmkdilllgncfaaW6
import Derived.Deep.LoopGhost
namespace Go.Proofs.Ytfmkdilllgncfaa
open Go.RowKit Go.Lib

theorem info3 : (Try.prog.info? 3).map (fun i => (i.zero, i.size, i.bytes)) = some (some (.int .i64 0), 1, 8) := by kernel_rfl

/-- what is due, what is left -/
def dueL (m : List (Int × Int)) (now : Int) : List (Int × Int) := m.takeWhile fun p => decide (p.1 ≤ now)
def leftL (m : List (Int × Int)) (now : Int) : List (Int × Int) := m.dropWhile fun p => decide (p.1 ≤ now)
theorem due_head (p : Int × Int) (m : List (Int × Int)) (now : Int) (h : p.1 ≤ now) : dueL (p :: m) now = p :: dueL m now ∧ leftL (p :: m) now = leftL m now := by
  simp [dueL, leftL, h]
theorem due_stop (p : Int × Int) (m : List (Int × Int)) (now : Int) (h : ¬ p.1 ≤ now) : dueL (p :: m) now = [] ∧ leftL (p :: m) now = p :: m := by
  simp [dueL, leftL, h]

def idsV (l : List (Int × Int)) : List Value := l.map fun p => .int .i64 p.2
theorem dropL_head {p : Int × Int} {m : List (Int × Int)} (hn : ((p :: m).map (·.2)).Nodup) : dropL p.2 (p :: m) = m := by
  rw [List.map_cons, List.nodup_cons] at hn
  unfold dropL
  rw [List.filter_cons_of_neg (by simp), List.filter_eq_self]
  intro q hq
  simp only [bne_iff_ne]
  intro e; exact hn.1 (List.mem_map.2 ⟨q, hq, e⟩)

section
variable {w : World} {own : Nat → Prop} {ba : Nat} {m : List (Int × Int)}

def DuePost (w : World) (own : Nat → Prop) (ba : Nat) (m : List (Int × Int)) (now : Int) (e : Ending) (w' : World) : Prop :=
  ∃ v, e = .returned v ∧ Ag w' own ba (leftL m now) ∧ Fr own w w' ∧ w'.ownsRow w.heap.size 3 1 v (dueL m now).length (idsV (dueL m now))
def DueRel (w : World) (own : Nat → Prop) (ba : Nat) (m : List (Int × Int)) (now : Int) (k : Nat) (v5 v8 v9 v10 : Value) (wr : World) : Prop :=
  ∃ done rest, rest.length = k ∧ m = done ++ rest ∧ dueL m now = done ++ dueL rest now ∧ leftL m now = leftL rest now ∧ Ag wr own ba rest ∧ Fr own w wr ∧ wr.ownsRow w.heap.size 3 1 v5 done.length (idsV done) ∧
    v8 = .int .i64 ((rest.head?.map (·.1)).getD 0) ∧ v9 = .int .i64 ((rest.head?.map (·.2)).getD 0) ∧ v10 = .bool rest.head?.isSome

theorem ownsRow_fr {w w' : World} {base e size n : Nat} {v : Value} {xs : List Value} {o : Nat → Prop} (h : w.ownsRow base e size v n xs) (hf : Fr o w w') (ho : ∀ k, base ≤ k → ¬ o k) : w'.ownsRow base e size v n xs :=
  ownsRow_keep h fun k hk => hf.block k (h.lt k hk).2 (ho k (h.lt k hk).1)

set_option maxHeartbeats 2000000 in
theorem due_m (h : Ag w own ba m) (hm : m.length < 999999) (now : Int) : Calls Try.prog 15 #[.pointer (some ⟨ba, 0, none⟩), .int .i64 now] w (DuePost w own ba m now) := by
  obtain ⟨i0, hi, hz0, hz1, hz2⟩ := info_parts info3
  have hown6 : ∀ k, w.heap.size ≤ k → ¬ own k := by
    obtain ⟨_, _, _, _, _, _, _, _, h6⟩ := h
    intro k hk ho; have := h6 k ho; omega
  go_enter Try.func15, Try.ntmps15
  go_wp2_with fail
  refine Calls.mono (next_m h) ?_
  rintro e w1 ⟨rfl, N, rfl⟩
  have hN := h.drewN N
  go_wp2_with fail
  go_loopg [5, 8, 9, 10] (m.length) (fun k v5 v8 v9 v10 wr => DueRel w own ba m now k v5 v8 v9 v10 wr)
  case atStart => exact ⟨[], m, rfl, rfl, rfl, rfl, hN, (Fr.refl _ _).drewN N, World.ownsRow_nil _ _ _ _, rfl, rfl, rfl⟩
  case round =>
    clear h hN
    obtain ⟨done, rest, hk, hm1, hd, hl, hag, hfr, hrow, rfl, rfl, rfl⟩ := hrel
    have HK := Lib.hid (And.intro hk (And.intro hm1 (And.intro hd hl)))
    have hdm : done.length + rest.length = m.length := by rw [hm1]; simp
    clear hk hm1 hd hl
    cases rest with
    | nil =>
      go_wp2_with fail
      go_ret
      refine ⟨_, rfl, ?_, hfr, ?_⟩
      · rw [HK.out.2.2.2]; exact hag
      · rw [HK.out.2.2.1]; simpa [dueL] using hrow
    | cons p rest =>
      by_cases hp : p.1 ≤ now
      · have d1 : decide (p.1 ≤ now) = true := by simpa using hp
        have hdl : done.length + 1 < 1000000 := by simp at hdm; omega
        have HM := Lib.hid (And.intro hm hdm)
        clear hdm hm
        have hidsp : idsV (done ++ [p]) = idsV done ++ [.int .i64 p.2] := by simp [idsV]
        have HI := Lib.hid hidsp
        clear hidsp
        go_wp2_with (at_builtin; go_must (refine wpList_append_shape rfl _ _ 33 rfl w.heap.size 3 i0 (.int .i64 0) 1 8 Try.underlying33 hi hz0 hz1 hz2 rfl (by decide) _ _ _ rfl (hrow.alloc _) ⟨wr.heap.size, 0, none⟩ 1 1 [.int .i64 p.2] rfl rfl (cell_one_new _ _ _) (ints_oneCell .i64 [p.2]) (by unfold maxLen; omega) (by omega) (by have := hfr.size; simp; omega) (by omega) ?_; intro g cap w2 hrow2 hgrow hat))
        have hbase : w.heap.size ≤ wr.heap.size := hfr.size
        have hfo : ∀ k, Value.ownBlock _ = some k → w.heap.size ≤ k := fun k hk => (hrow.lt k hk).1
        have hf2 : Fr own w w2 := (hfr.alloc _).grown hgrow fun k hk => .inr (hfo k hk)
        have hag2 : Ag w2 own ba (p :: rest) := hag.other (o2 := fun k => w.heap.size ≤ k) (((Fr.refl _ _).alloc _).grown hgrow fun k hk => .inl (hfo k hk)) fun k hk hk2 => hown6 k hk2 hk
        have HG := Lib.hid (And.intro hgrow (And.intro hat hfo))
        clear hgrow hat hfo
        refine Calls.mono (drop_m hag2 (by have := HM.out; simp at this; simp; omega) p.2) ?_
        rintro e w3 ⟨rfl, hag3, hf3⟩
        rw [dropL_head hag2.nodup] at hag3
        go_wp2_with fail
        refine Calls.mono (next_m hag3) ?_
        rintro e w4 ⟨rfl, N2, rfl⟩
        go_wp2_with fail
        go_roundg rest.length
        case measure => have := HK.out.1; simp at this; omega
        case rel =>
          refine ⟨done ++ [p], rest, rfl, by rw [HK.out.2.1]; simp, by rw [HK.out.2.2.1, (due_head p rest now hp).1]; simp, by rw [HK.out.2.2.2, (due_head p rest now hp).2], hag3.drewN N2, (hf2.next hf3).drewN N2, ?_, rfl, rfl, rfl⟩
          rw [HI.out, List.length_append]
          exact ownsRow_fr hrow2 (hf3.drewN N2) fun k hk hk2 => hown6 k hk hk2
      · have d1 : decide (p.1 ≤ now) = false := by simpa using hp
        go_wp2_with fail
        go_ret
        refine ⟨_, rfl, ?_, hfr, ?_⟩
        · rw [HK.out.2.2.2, (due_stop p rest now (by omega)).2]; exact hag
        · rw [HK.out.2.2.1, (due_stop p rest now (by omega)).1]; simpa using hrow
end
end Go.Proofs.Ytfmkdilllgncfaa
