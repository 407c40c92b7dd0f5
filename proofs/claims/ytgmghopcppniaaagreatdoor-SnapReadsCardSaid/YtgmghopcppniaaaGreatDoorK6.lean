/- List. -/
import Derived.Test.YtgmghopcppniaaaGreatDoorK5
namespace Go.Proofs.YtgmghopcppniaaaGreatDoor
open Go.RowKit Go.Lib Go.Shelf
open Go.WideElems (Fit rd rg rd_key rg_of rd_mk)

def names (l : List FileD) : List (List UInt8) := l.map (·.name)
/-- whatever the elements are, they read as something -/
def anyR (_ : Value) : Option (DataW Unit × List MemPlace) := some (.nil, [])

theorem strs_ext : ∀ {a b : List (List UInt8)}, a.Pairwise (· < ·) → b.Pairwise (· < ·) → (∀ x, x ∈ a ↔ x ∈ b) → a = b
  | [], [], _, _, _ => rfl
  | [], y :: b, _, _, h => absurd ((h y).2 (List.mem_cons_self ..)) (by simp)
  | x :: a, [], _, _, h => absurd ((h x).1 (List.mem_cons_self ..)) (by simp)
  | x :: a, y :: b, ha, hb, h => by
    rw [List.pairwise_cons] at ha hb
    have hxy : x = y := by
      have h1 := (h x).1 (List.mem_cons_self ..)
      have h2 := (h y).2 (List.mem_cons_self ..)
      rcases List.mem_cons.1 h1 with e | h1
      · exact e
      · rcases List.mem_cons.1 h2 with e | h2
        · exact e.symm
        · exact absurd (str_lt_trans (ha.1 _ h2) (hb.1 _ h1)) str_lt_irrefl
    subst hxy
    congr 1
    refine strs_ext ha.2 hb.2 fun z => ?_
    constructor
    · intro hz
      rcases List.mem_cons.1 ((h z).1 (List.mem_cons_of_mem _ hz)) with e | h2
      · exact absurd (ha.1 _ hz) (by rw [e]; exact str_lt_irrefl)
      · exact h2
    · intro hz
      rcases List.mem_cons.1 ((h z).2 (List.mem_cons_of_mem _ hz)) with e | h2
      · exact absurd (hb.1 _ hz) (by rw [e]; exact str_lt_irrefl)
      · exact h2
theorem sort_names {l : List FileD} (hs : Sorted l) {ss : List (List UInt8)} (hp : ss.Perm (names l)) : ss.mergeSort (fun x y => decide (x ≤ y)) = names l := by
  have hn : (names l).Pairwise (· < ·) := List.pairwise_map.2 hs
  have hp2 : (ss.mergeSort (fun x y => decide (x ≤ y))).Perm (names l) := (List.mergeSort_perm _ _).trans hp
  have hle : (ss.mergeSort (fun x y => decide (x ≤ y))).Pairwise fun x y => decide (x ≤ y) = true :=
    List.pairwise_mergeSort (fun a b c h1 h2 => by simp at h1 h2 ⊢; exact List.le_trans h1 h2) (fun a b => by simp; exact List.le_total a b) ss
  have hnd : (ss.mergeSort (fun x y => decide (x ≤ y))).Nodup := hp2.nodup_iff.2 (hn.imp fun h => str_lt_ne h)
  refine strs_ext ?_ hn fun x => hp2.mem_iff
  refine (hle.and hnd).imp fun {a b} ⟨h1, h2⟩ => ?_
  simp at h1
  by_cases h3 : a < b
  · exact h3
  · exact absurd (List.le_antisymm h1 (List.not_lt.1 h3)) h2

section
variable {w w' : World} {pb mb : Nat} {D : DiskD}
theorem keyOf_str (s : ByteArray) (h : s.size ≤ maxLen) : keyOf Tryz.prog 9 (.string s) = some (.string s.data.toList) := by
  simp [keyOf, mapKey, Tryz.underlying9, h]
theorem name_len (h : InvD D) {f : FileD} (hf : f ∈ D.files) : f.name.length ≤ 24 := by
  have := h.names f hf
  unfold nameOK at this
  simp at this
  exact this.1.2
theorem disk_owns (hD : DiskAt w pb mb D) : ∃ D0 : DataW Unit, w.ownsMap Tryz.prog 9 anyR mb 40 D0 ∧ Maps.size D0 ≤ 40 ∧ (strKeys D0).Perm (names D.files) := by
  obtain ⟨es, c, h1, h2, h3, h4⟩ := hD.map
  have hlen : es.size = D.files.length := by simpa using h4.length_eq
  have hmany := hD.inv.many
  have hkey : ∀ x ∈ es.toList, ∃ f ∈ D.files, x.key = .string (bs f.name) := fun x hx => by
    obtain ⟨f, hf, e⟩ := List.mem_map.1 (h4.mem_iff.1 (List.mem_map.2 ⟨x, hx, rfl⟩))
    exact ⟨f, hf, (Prod.mk.inj e).1.symm⟩
  have hrd : ∀ x ∈ es.toList, ∀ f, x.key = .string (bs f.name) → f ∈ D.files → rd Tryz.prog 9 anyR x = some (.string f.name, .nil) := fun x _ f e hf => by
    have hl := name_len hD.inv hf
    have := keyOf_str (bs f.name) (by unfold maxLen; show f.name.length ≤ _; omega)
    unfold rd
    rw [e, this]
    rfl
  refine ⟨_, ⟨es, c, h1, ⟨by unfold maxLen; omega, h2, fun x hx => ?_⟩, by omega, rfl⟩, ?_, ?_⟩
  · obtain ⟨f, hf, e⟩ := hkey x hx
    exact ⟨_, hrd x hx f e hf⟩
  · simp only [Maps.size, length_sorted, List.length_map]
    simp
    omega
  · refine ((Go.WideShapes.sorted_perm _).map _).trans ?_
    rw [List.map_map]
    have e1 : es.toList.map ((fun p => strOf p.1) ∘ rg Tryz.prog 9 anyR) = (es.toList.map fun x => (x.key, x.val)).map fun p => (match p.1 with | .string s => s.data.toList | _ => []) := by
      rw [List.map_map]
      refine List.map_congr_left fun x hx => ?_
      obtain ⟨f, hf, e⟩ := hkey x hx
      have := rg_of (hrd x hx f e hf)
      simp only [Function.comp, this, e]
      rfl
    rw [e1]
    refine (h4.map _).trans ?_
    rw [List.map_map]
    exact .of_eq (List.map_congr_left fun f _ => rfl)

def encS (l : List UInt8) : Value := .string (bs l)
theorem encS_eq : (encStr : List UInt8 → Value) = encS := rfl
def ListPost (l : List (List UInt8)) (w : World) (e : Ending) (w' : World) : Prop := ∃ v, e = .returned v ∧ w'.ownsRow w.heap.size 9 1 v l.length (l.map encS) ∧ Fr (fun _ => False) w w'
theorem list_h (hD : DiskAt w pb mb D) : Calls Tryz.prog 56 #[.pointer (some ⟨pb, 0, none⟩)] w (ListPost (names D.files) w) := by
  obtain ⟨D0, hown, hsz, hp⟩ := disk_owns hD
  have h1 := callsIn_wide.1 (Tryz.maps_Keys_41 (some mb) w)
  have h2 := callsIn_wide.1 (Tryz.slices_Sorted_keys_40_41 mb 40 D0 anyR w hown (by unfold maxLen; omega) (by omega))
  have hs := hD.inv.sorted
  obtain ⟨c0, c1, c2, c3⟩ := hD.cells
  have HP := Lib.hid (And.intro hs hp)
  have H1 := Lib.hid h1
  have H2 := Lib.hid h2
  clear hs hp h1 h2 hown hsz hD
  go_enter Tryz.func56, Tryz.ntmps56
  go_wp2_with fail
  refine Calls.mono H1.out ?_
  rintro e w' ⟨rfl, rfl⟩
  go_wp2_with fail
  refine Calls.mono H2.out ?_
  rintro e w2 ⟨v, ss, rfl, hS, hrow, -, hb⟩
  have e1 := sort_names HP.out.1 (hS.trans HP.out.2)
  have hl : ss.length = (names D.files).length := (hS.trans HP.out.2).length_eq
  rw [e1, hl, encS_eq] at hrow
  have HR := Lib.hid (And.intro hrow hb)
  clear hrow hb e1 hl hS H1 H2
  go_wp2_with fail
  go_ret
  exact ⟨v, rfl, ownsRow_base HR.out.1 (by simp), ((Fr.refl (fun _ => False) w).alloc _).trans (Fr.of_below HR.out.2) fun i hi => .inr (by simp at hi; omega)⟩
end
end Go.Proofs.YtgmghopcppniaaaGreatDoor
