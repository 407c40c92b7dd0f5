/- The walks of the reference's Drop and Due. -/
import Derived.Test.YtfmkdilllgncfaaR1
namespace Go.Proofs.Ytfmkdilllgncfaa
open Go.RowKit Go.Lib

theorem info44 : (Try.prog.info? 44).map (fun i => (i.zero, i.size, i.bytes)) = some (some (.agg #[.int .i64 0, .int .i64 0]), 2, 16) := by kernel_rfl

theorem cell_two_at (w : World) (x y : Value) (t : TypeId) : ∀ j u, [x, y][j]? = some u → (w.alloc (.cells #[x, y] t)).cell? ((⟨w.heap.size, 0, none⟩ : Addr).add j) = some u := by
  intro j u h
  rw [Addr.add_lit, Nat.zero_add, World.cell?_alloc_new]
  simpa using h

def RDropPost (l : List (Int × Int)) (id : Int) (w : World) (e : Ending) (w' : World) : Prop :=
  ∃ v, e = .returned (.tuple #[v, .bool (decide ((dropL id l).length < l.length))]) ∧ w'.ownsRow w.heap.size 44 2 v (dropL id l).length (tcells (dropL id l)) ∧ Fr (fun _ => False) w w'
def RDropRel (l : List (Int × Int)) (id : Int) (w : World) (k : Nat) (v6 v7 : Value) (wr : World) : Prop :=
  ∃ i : Nat, i + k = l.length ∧ v7 = .int .i64 i ∧ wr.ownsRow w.heap.size 44 2 v6 (dropL id (l.take i)).length (tcells (dropL id (l.take i))) ∧ Fr (fun _ => False) w wr

theorem dropL_snoc {l : List (Int × Int)} {i : Nat} {p : Int × Int} (h : l[i]? = some p) (id : Int) : dropL id (l.take (i + 1)) = dropL id (l.take i) ++ if p.2 = id then [] else [p] := by
  rw [List.take_add_one, h]
  unfold dropL
  rw [List.filter_append]
  congr 1
  by_cases hp : p.2 = id <;> simp [hp]

set_option maxHeartbeats 1000000 in
theorem rdrop_h {w : World} {S : Nat → Prop} {v : Value} {l : List (Int × Int)} (h : TR w S v l) (hlen : l.length < 1000000) (id : Int) : Calls Try.prog 12 #[v, .int .i64 id] w (RDropPost l id w) := by
  obtain ⟨a, cap, rfl⟩ := h.form
  obtain ⟨i0, hi, hz0, hz1, hz2⟩ := info_parts info44
  go_enter Try.func12, Try.ntmps12
  go_wp2_with fail
  go_loopg [6, 7] (l.length) (fun k v6 v7 wr => RDropRel l id w k v6 v7 wr)
  case atStart => exact ⟨0, by omega, rfl, World.ownsRow_nil _ _ _ _, Fr.refl _ _⟩
  case round =>
    obtain ⟨i, hik, rfl, hrow, hfr⟩ := hrel
    have HK := Lib.hid hik
    by_cases hlt : i < l.length
    · obtain ⟨g, off, rfl, hc⟩ := h.cells (by omega)
      obtain ⟨p, hp⟩ : ∃ p, l[i]? = some p := ⟨_, List.getElem?_eq_getElem hlt⟩
      obtain ⟨c1, c2⟩ := hc i p hp
      have d1 := hfr.cell c1 (fun h => h)
      have d2 := hfr.cell c2 (fun h => h)
      have HS := Lib.hid (dropL_snoc hp id)
      clear hc hp h c1 c2 hik
      by_cases hid : p.2 = id
      · have d3 : (p.2 != id) = false := by simpa using hid
        have HI := Lib.hid hid
        clear hid
        go_wp2_with fail
        go_roundg (l.length - (i + 1))
        case measure => have := HK.out; omega
        case rel =>
          refine ⟨i + 1, by omega, by go_num, ?_, hfr⟩
          rw [HS.out, if_pos HI.out, List.append_nil]; exact hrow
      · have d3 : (p.2 != id) = true := by simpa using hid
        have HI := Lib.hid hid
        clear hid
        have hn : (dropL id (l.take i)).length ≤ i := by have := dropL_length (l.take i) id; rw [List.length_take] at this; omega
        go_wp2_with (at_builtin; go_must (refine wpList_append_shape rfl _ _ 26 rfl w.heap.size 44 i0 (.agg #[.int .i64 0, .int .i64 0]) 2 16 Try.underlying26 hi hz0 hz1 hz2 rfl (by decide) _ _ _ rfl (hrow.alloc _) ⟨wr.heap.size, 0, none⟩ 1 1 [.int .i64 p.1, .int .i64 p.2] rfl rfl (cell_two_at _ _ _ _) (tcells_one [p]) (by unfold maxLen; omega) (by omega) (by have := hfr.size; simp; omega) (by omega) ?_; intro g2 cap2 w2 hrow2 hgrow hat))
        go_roundg (l.length - (i + 1))
        case measure => have := HK.out; omega
        case rel =>
          refine ⟨i + 1, by omega, by go_num, ?_, (hfr.alloc _).grown hgrow fun k hk => .inr ((hrow.lt k hk).1)⟩
          rw [HS.out, if_neg HI.out, tcells_append, List.length_append]; exact hrow2
    · have hil : i = l.length := by omega
      have e1 : l.take i = l := List.take_of_length_le (by omega)
      rw [e1] at hrow
      obtain ⟨b, c, rfl⟩ := ownsRow_shape hrow
      have HE := Lib.hid e1
      have HI := Lib.hid hil
      clear e1 hil hik
      go_wp2_with fail
      go_ret2
      exact ⟨_, rfl, hrow, hfr⟩

/-! ### Due -/
def RDuePost (w : World) (S : Nat → Prop) (l : List (Int × Int)) (now : Int) (e : Ending) (w' : World) : Prop :=
  ∃ v1 v2, e = .returned (.tuple #[v1, v2]) ∧ TR w' S v1 (leftL l now) ∧ w'.ownsRow w.heap.size 3 1 v2 (dueL l now).length (idsV (dueL l now)) ∧ Fr (fun _ => False) w w'
def RDueRel (w : World) (l : List (Int × Int)) (now : Int) (k : Nat) (v6 v7 : Value) (wr : World) : Prop :=
  ∃ i : Nat, i + k = l.length ∧ v7 = .int .i64 i ∧ dueL l now = l.take i ++ dueL (l.drop i) now ∧ leftL l now = leftL (l.drop i) now ∧ wr.ownsRow w.heap.size 3 1 v6 i (idsV (l.take i)) ∧ Fr (fun _ => False) w wr

set_option maxHeartbeats 1000000 in
theorem rdue_h {w : World} {S : Nat → Prop} {v : Value} {l : List (Int × Int)} (h : TR w S v l) (hlen : l.length < 1000000) (now : Int) : Calls Try.prog 13 #[v, .int .i64 now] w (RDuePost w S l now) := by
  obtain ⟨a, cap, rfl⟩ := h.form
  obtain ⟨i0, hi, hz0, hz1, hz2⟩ := info_parts info3
  have htail := fun k (hk : k ≤ l.length) => SRow.tail h hk
  have hcap : l.length ≤ cap ∧ cap ≤ 9223372036854775807 := by
    obtain ⟨_, a', c', e, h1, h2, _⟩ := h
    injection e with e1 e2 e3
    subst e3; unfold maxLen at h2; exact ⟨h1, by omega⟩
  obtain ⟨hcap1, hcap2⟩ := hcap
  have HT := Lib.hid htail; clear htail
  go_enter Try.func13, Try.ntmps13
  go_wp2_with fail
  go_loopg [6, 7] (l.length) (fun k v6 v7 wr => RDueRel w l now k v6 v7 wr)
  case atStart => exact ⟨0, by omega, rfl, rfl, rfl, World.ownsRow_nil _ _ _ _, Fr.refl _ _⟩
  case round =>
    obtain ⟨i, hik, rfl, hd, hl, hrow, hfr⟩ := hrel
    have HK := Lib.hid (And.intro hik (And.intro hd hl))
    clear hd hl
    have hend : (dueL (l.drop i) now = [] ∧ leftL (l.drop i) now = l.drop i) → RDuePost w S l now (.returned (.tuple #[.slice (if cap = i then a else a.map (·.add (i * 2))) (l.length - i) (cap - i), .slice none 0 0])) wr → True := fun _ _ => trivial
    clear hend
    by_cases hlt : i < l.length
    · obtain ⟨g, off, rfl, hc⟩ := h.cells (by omega)
      obtain ⟨p, hp⟩ : ∃ p, l[i]? = some p := ⟨_, List.getElem?_eq_getElem hlt⟩
      obtain ⟨c1, c2⟩ := hc i p hp
      have d1 := hfr.cell c1 (fun h => h)
      have d2 := hfr.cell c2 (fun h => h)
      have hdr : l.drop i = p :: l.drop (i + 1) := by
        obtain ⟨_, he⟩ := List.getElem?_eq_some_iff.1 hp
        rw [List.drop_eq_getElem_cons hlt, he]
      have htk : l.take (i + 1) = l.take i ++ [p] := by rw [List.take_add_one, hp]; rfl
      have HP := Lib.hid (And.intro hp (And.intro hdr htk))
      clear hc hp c1 c2 hik hdr htk
      by_cases hid : p.1 ≤ now
      · have d3 : decide (p.1 ≤ now) = true := by simpa using hid
        go_wp2_with (at_builtin; go_must (refine wpList_append_shape rfl _ _ 33 rfl w.heap.size 3 i0 (.int .i64 0) 1 8 Try.underlying33 hi hz0 hz1 hz2 rfl (by decide) _ _ _ rfl (hrow.alloc _) ⟨wr.heap.size, 0, none⟩ 1 1 [.int .i64 p.2] rfl rfl (cell_one_new _ _ _) (ints_oneCell .i64 [p.2]) (by unfold maxLen; omega) (by omega) (by have := hfr.size; simp; omega) (by omega) ?_; intro g2 cap2 w2 hrow2 hgrow hat))
        go_roundg (l.length - (i + 1))
        case measure => have := HK.out; omega
        case rel =>
          refine ⟨i + 1, by omega, by go_num, ?_, ?_, ?_, (hfr.alloc _).grown hgrow fun k hk => .inr ((hrow.lt k hk).1)⟩
          · rw [HK.out.2.1, HP.out.2.1, (due_head _ _ _ hid).1, HP.out.2.2]; simp
          · rw [HK.out.2.2, HP.out.2.1, (due_head _ _ _ hid).2]
          · have e : idsV (l.take (i + 1)) = idsV (l.take i) ++ [.int .i64 p.2] := by rw [HP.out.2.2]; simp [idsV]
            rw [e]; exact hrow2
      · have d3 : decide (p.1 ≤ now) = false := by simpa using hid
        have hci : (cap = i) = False := by simp; omega
        go_wp2_with fail
        go_ret2
        have e1 := due_stop p (l.drop (i + 1)) now (by omega)
        rw [← HP.out.2.1] at e1
        refine ⟨_, _, rfl, ?_, ?_, hfr⟩
        · have := HT.out i (by omega)
          rw [HK.out.2.2, e1.2]
          have e2 : (l.drop i).length = l.length - i := by simp
          unfold TR
          rw [e2, ← tcells_drop]
          simpa [hci, Addr.add_lit] using this.fr hfr fun _ _ h => h
        · rw [HK.out.2.1, e1.1, List.append_nil, List.length_take, Nat.min_eq_left (by omega)]; exact hrow
    · have hil : i = l.length := by have := HK.out; omega
      have HI := Lib.hid hil
      have hdr : l.drop i = [] := by rw [hil]; simp
      have HD := Lib.hid hdr
      clear hil hdr hik
      have hx := (HT.out i (by rw [HI.out]; exact Nat.le_refl _)).fr hfr fun _ _ h => h
      have hn : (leftL l now).length = l.length - i := by rw [HK.out.2.2, HD.out, HI.out]; simp [leftL]
      have hd1 : dueL l now = l.take i := by rw [HK.out.2.1, HD.out]; simp [dueL]
      have hd2 : (leftL l now) = l.drop i := by rw [HK.out.2.2, HD.out]; simp [leftL]
      have hi2 : (l.take i).length = i := by rw [List.length_take, HI.out]; simp
      have HH := Lib.hid (And.intro hn (And.intro hd1 (And.intro hd2 hi2)))
      have HX := Lib.hid hx
      clear hn hd1 hd2 hi2 hx
      have hile : i ≤ l.length := by rw [HI.out]; exact Nat.le_refl _
      go_wp2_with fail
      all_goals
        go_ret2
        refine ⟨_, _, rfl, ?_, ?_, hfr⟩
        · unfold TR
          rw [HH.out.1, HH.out.2.2.1, ← tcells_drop]
          have := HX.out
          simpa [*] using this
        · rw [HH.out.2.1, HH.out.2.2.2]; exact hrow
end Go.Proofs.Ytfmkdilllgncfaa
