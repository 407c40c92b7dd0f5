/- An agenda in memory, as the list of its times and numbers in the order in which they come. -/
import Derived.Test.YtfmkdilllgncfaaW4
import Derived.Test.YtfmkdilllgncfaaMaps
namespace Go.Proofs.Ytfmkdilllgncfaa
open Go.RowKit Go.Lib

/-! ### sorted lists -/
def Sorted (m : List (Int × Int)) : Prop := m.Pairwise ltK
def insL (x : Int × Int) : List (Int × Int) → List (Int × Int)
  | [] => [x]
  | y :: r => if ltK y x then y :: insL x r else x :: y :: r
def dropL (id : Int) (m : List (Int × Int)) : List (Int × Int) := m.filter fun p => p.2 != id
def putL (m : List (Int × Int)) (t id : Int) : List (Int × Int) := insL (t, id) (dropL id m)
def atL (m : List (Int × Int)) (id : Int) : Option Int := (m.find? fun p => p.2 == id).map (·.1)

theorem insL_perm (x : Int × Int) : ∀ m, (insL x m).Perm (x :: m)
  | [] => .refl _
  | y :: r => by
    unfold insL
    split
    · exact ((insL_perm x r).cons y).trans (.swap x y r)
    · exact .refl _
theorem insL_sorted {x : Int × Int} : ∀ {m}, Sorted m → x ∉ m → Sorted (insL x m)
  | [], _, _ => List.pairwise_singleton _ _
  | y :: r, h, hx => by
    obtain ⟨h1, h2⟩ := List.pairwise_cons.1 h
    unfold insL
    split
    · rename_i hl
      refine List.pairwise_cons.2 ⟨fun z hz => ?_, insL_sorted h2 fun h => hx (.tail _ h)⟩
      rcases List.mem_cons.1 ((insL_perm x r).mem_iff.1 hz) with rfl | hz
      · exact hl
      · exact h1 z hz
    · rename_i hl
      refine List.pairwise_cons.2 ⟨fun z hz => ?_, h⟩
      have hxy : ltK x y := by
        by_cases h' : ltK x y
        · exact h'
        · exact absurd (leK_antisymm hl h') (fun e => hx (by rw [e]; exact .head _))
      rcases List.mem_cons.1 hz with rfl | hz
      · exact hxy
      · exact ltK_trans hxy (h1 z hz)
theorem sorted_eq : ∀ {l m : List (Int × Int)}, l.Perm m → Sorted l → Sorted m → l = m
  | [], m, h, _, _ => (List.nil_perm.1 h).symm
  | x :: l, [], h, _, _ => absurd h.length_eq (by simp)
  | x :: l, y :: m, h, h1, h2 => by
    have e : x = y := by
      rcases List.mem_cons.1 (h.mem_iff.1 (.head _)) with e | hx
      · exact e
      · rcases List.mem_cons.1 (h.mem_iff.2 (.head _)) with e | hy
        · exact e.symm
        · exact absurd ((List.pairwise_cons.1 h1).1 y hy) (ltK_asymm ((List.pairwise_cons.1 h2).1 x hx))
    subst e
    rw [sorted_eq h.cons_inv (List.pairwise_cons.1 h1).2 (List.pairwise_cons.1 h2).2]
theorem dropL_sorted {m : List (Int × Int)} (h : Sorted m) (id : Int) : Sorted (dropL id m) := List.Pairwise.filter _ h
theorem not_mem_dropL (m : List (Int × Int)) (t id : Int) : (t, id) ∉ dropL id m := by simp [dropL]
theorem putL_sorted {m : List (Int × Int)} (h : Sorted m) (t id : Int) : Sorted (putL m t id) := insL_sorted (dropL_sorted h id) (not_mem_dropL m t id)
theorem dropL_of_not {m : List (Int × Int)} {id : Int} (h : ∀ p ∈ m, p.2 ≠ id) : dropL id m = m := by
  unfold dropL; rw [List.filter_eq_self]; intro p hp; simp [h p hp]
theorem dropL_of_perm {m R : List (Int × Int)} {t id : Int} (hp : m.Perm ((t, id) :: R)) (hR : ∀ p ∈ R, p.2 ≠ id) : (dropL id m).Perm R := by
  have := hp.filter (fun p => p.2 != id)
  rw [List.filter_cons_of_neg (by simp)] at this
  rw [← dropL_of_not hR]
  exact this
theorem dropL_length (m : List (Int × Int)) (id : Int) : (dropL id m).length ≤ m.length := List.length_filter_le _ _
theorem putL_length (m : List (Int × Int)) (t id : Int) : (putL m t id).length ≤ m.length + 1 := by
  unfold putL; rw [(insL_perm _ _).length_eq]; have := dropL_length m id; simp; omega
theorem atL_some {m : List (Int × Int)} {t id : Int} (hn : (m.map (·.2)).Nodup) (h : (t, id) ∈ m) : atL m id = some t := by
  unfold atL
  induction m with
  | nil => cases h
  | cons p m ih =>
    rw [List.map_cons, List.nodup_cons] at hn
    rcases List.mem_cons.1 h with rfl | h'
    · simp
    · have hne : (p.2 == id) = false := by
        rw [beq_eq_false_iff_ne]; intro e; exact hn.1 (List.mem_map.2 ⟨_, h', e.symm⟩)
      rw [List.find?_cons_of_neg (by simp [hne])]
      exact ih hn.2 h'
theorem atL_none {m : List (Int × Int)} {id : Int} (h : ∀ p ∈ m, p.2 ≠ id) : atL m id = none := by
  unfold atL; rw [List.find?_eq_none.2 (fun p hp => by simp [h p hp])]; rfl

/-! ### the agenda -/
def ent (x : T3) : Value × Value := (.int .i64 x.id, x.ptr)
structure ARep (w : World) (ba mb : Nat) (hv : Value) (ts : List T3) : Prop where
  things : HRep w ba hv (.map (some mb)) ts
  by_ : MapOf w (.int .i64) mb (ts.map ent)
  ordered : HeapTo (keyF ts) ts.length

/-- 'ba' is an agenda that holds m, in blocks of 'own' -/
def Ag (w : World) (own : Nat → Prop) (ba : Nat) (m : List (Int × Int)) : Prop :=
  ∃ mb hv ts, ARep w ba mb hv ts ∧ (ts.map T3.key).Perm m ∧ Sorted m ∧ own mb ∧ (∀ k, foot ba hv ts k → own k) ∧ ∀ k, own k → k < w.heap.size

theorem ARep.ids {w : World} {ba mb : Nat} {hv : Value} {ts : List T3} (h : ARep w ba mb hv ts) : (ts.map T3.id).Nodup := by
  have h1 := h.by_.nodup
  rw [List.map_map] at h1
  have e : ts.map ((·.1) ∘ ent) = (ts.map T3.id).map (Value.int .i64) := by simp [ent, Function.comp_def]
  rw [e] at h1
  exact List.Pairwise.of_map _ (fun a b hab e => hab (by rw [e])) h1
theorem Ag.nodup {w : World} {own : Nat → Prop} {ba : Nat} {m : List (Int × Int)} (h : Ag w own ba m) : (m.map (·.2)).Nodup := by
  obtain ⟨mb, hv, ts, h1, h2, _⟩ := h
  have := h1.ids
  have e := (h2.map (·.2))
  rw [List.map_map] at e
  exact e.nodup_iff.1 this
theorem Ag.sorted {w : World} {own : Nat → Prop} {ba : Nat} {m : List (Int × Int)} (h : Ag w own ba m) : Sorted m := let ⟨_, _, _, _, _, h3, _⟩ := h; h3
theorem ARep.keep {w w' : World} {ba mb : Nat} {hv : Value} {ts : List T3} (h : ARep w ba mb hv ts) (hk : ∀ k, k = mb ∨ foot ba hv ts k → w'.heap[k]? = w.heap[k]?) : ARep w' ba mb hv ts :=
  ⟨h.things.keep fun k hf => hk k (.inr hf), h.by_.keep (hk mb (.inl rfl)), h.ordered⟩
/-- another call that does not own the agenda's blocks leaves it -/
theorem Ag.other {w w' : World} {own o2 : Nat → Prop} {ba : Nat} {m : List (Int × Int)} (h : Ag w own ba m) (hf : Fr o2 w w') (hd : ∀ k, own k → ¬ o2 k) : Ag w' own ba m := by
  obtain ⟨mb, hv, ts, h1, h2, h3, h4, h5, h6⟩ := h
  refine ⟨mb, hv, ts, h1.keep fun k hk => ?_, h2, h3, h4, h5, fun k hk => Nat.lt_of_lt_of_le (h6 k hk) hf.size⟩
  have hok : own k := by rcases hk with rfl | hk; exact h4; exact h5 k hk
  exact hf.block k (h6 k hok) (hd k hok)
theorem Ag.drewN {w : World} {own : Nat → Prop} {ba : Nat} {m : List (Int × Int)} (h : Ag w own ba m) (n : Nat) : Ag (w.drewN n) own ba m :=
  h.other (o2 := fun _ => False) ((Fr.refl _ _).drewN n) fun _ _ h => h
theorem Ag.mono {w : World} {own o2 : Nat → Prop} {ba : Nat} {m : List (Int × Int)} (h : Ag w own ba m) (ho : ∀ k, own k → o2 k) (hl : ∀ k, o2 k → k < w.heap.size) : Ag w o2 ba m :=
  let ⟨mb, hv, ts, h1, h2, h3, h4, h5, _⟩ := h; ⟨mb, hv, ts, h1, h2, h3, ho _ h4, fun k hk => ho _ (h5 k hk), hl⟩
/-- what a call leaves that owned 'own': the agenda with its blocks and new ones -/
def Left (w : World) (own : Nat → Prop) (ba : Nat) (m : List (Int × Int)) (w' : World) : Prop :=
  ∃ own', Ag w' own' ba m ∧ (∀ k, own' k → own k ∨ w.heap.size ≤ k) ∧ Fr own w w'

theorem ne_map {w : World} {a b : Nat} {c : Array Value} {e : TypeId} {f : Nat × Nat} {d : TypeDesc} {M : List (Value × Value)} (ha : w.heap[a]? = some (.cells c e f)) (hb : MapOf w d b M) : a ≠ b := by
  obtain ⟨es, cl, h⟩ := hb.block
  exact ne_of_obj ha h (by intro e; cases e)
theorem map_not_foot {w : World} {ba mb : Nat} {hv mv : Value} {ts : List T3} {d : TypeDesc} {M : List (Value × Value)} (h : HRep w ba hv mv ts) (hb : MapOf w d mb M) : ¬ foot ba hv ts mb := by
  rintro (e | e | ⟨x, hx, e⟩)
  · exact ne_map h.head hb e.symm
  · rcases h.row.2 with ⟨e2, _⟩ | ⟨g, cap, cur, e2, _, hg, _⟩
    · rw [e2] at e; simp [Value.ownBlock] at e
    · rw [e2] at e
      obtain rfl : g = mb := by simpa [Value.ownBlock] using e
      exact ne_map hg hb rfl
  · obtain ⟨k, hk⟩ := List.getElem?_of_mem hx
    exact ne_map (h.item k x hk) hb e
end Go.Proofs.Ytfmkdilllgncfaa
