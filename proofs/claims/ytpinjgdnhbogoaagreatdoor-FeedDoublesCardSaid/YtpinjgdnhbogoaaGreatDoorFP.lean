/- Items of a document, step by step (no program). -/
import Derived.Test.YtpinjgdnhbogoaaGreatDoorM0
namespace Go.Proofs.YtpinjgdnhbogoaaGreatDoor

theorem with_noId {l : List ItemD} {x : ItemD} (h : x.id = []) : withL l x = l := by unfold withL; rw [if_pos (by rw [h]; rfl)]
theorem with_old {l : List ItemD} {x : ItemD} (h : hasI l x.id = true) : withL l x = l := by unfold withL; rw [if_pos (by rw [h]; simp)]
/-- k items are read, and make l -/
def ItAt' (m : List ItemD) (k : Nat) (l : List ItemD) : Prop := (m.take k).foldl withL [] = l
theorem fold_step {m : List ItemD} {k : Nat} {x : ItemD} {l : List ItemD} (h : (m.take k).foldl withL [] = l) (hx : m[k]? = some x) : (m.take (k + 1)).foldl withL [] = withL l x := by
  rw [List.take_add_one, hx, List.foldl_append, h]; rfl
theorem fold_stop {m : List ItemD} {k : Nat} {l : List ItemD} (h : (m.take k).foldl withL [] = l) (hl : 100 ≤ l.length) : m.foldl withL [] = l := by
  conv => lhs; rw [← List.take_append_drop k m, List.foldl_append, h]
  exact fold_full _ _ hl
theorem with_len {l : List ItemD} {x : ItemD} (h : l.length ≤ 100) : (withL l x).length ≤ 100 := by
  unfold withL
  split
  · exact h
  · rename_i hc
    simp only [Bool.or_eq_true, decide_eq_true_eq, not_or] at hc
    simp; omega
theorem has_snoc {l : List ItemD} {x : ItemD} {id : Str} : hasI (l ++ [x]) id = (hasI l id || (x.id == id)) := by unfold hasI; rw [List.any_append]; simp
/-- the ids that were seen -/
def idsI (l : List ItemD) : List Str := l.map (·.id)
theorem has_ids {l : List ItemD} {id : Str} : hasI l id = true ↔ id ∈ idsI l := by
  unfold hasI idsI
  rw [List.any_eq_true, List.mem_map]
  simp
theorem short_len (s : Str) : (shortL s).length ≤ 200 := by
  unfold shortL; split
  · exact Nat.zero_le _
  · omega
theorem text_len (n : NodeD) (nm : Str) : (textL n nm).length ≤ 200 := by
  unfold textL; split
  · simp
  · exact short_len _
theorem text_kid {n k : NodeD} {nm : Str} {l : List NodeD} (h : allL n nm = k :: l) : textL n nm = shortL k.text := by unfold textL; rw [h]
theorem text_none {n : NodeD} {nm : Str} (h : allL n nm = []) : textL n nm = [] := by unfold textL; rw [h]
/-- the first k links are not meant -/
def LinkTo (l : List NodeD) (k : Nat) : Prop := (l.take k).find? meantB = none
theorem LinkTo.start (l : List NodeD) : LinkTo l 0 := rfl
theorem LinkTo.step {l : List NodeD} {k : Nat} {x : NodeD} (h : LinkTo l k) (hx : l[k]? = some x) (hm : meantB x = false) : LinkTo l (k + 1) := by
  unfold LinkTo at h ⊢
  rw [List.take_add_one, hx, List.find?_append, h]
  simp [hm]
theorem LinkTo.hit {l : List NodeD} {k : Nat} {x : NodeD} (h : LinkTo l k) (hx : l[k]? = some x) (hm : meantB x = true) : l.find? meantB = some x := by
  unfold LinkTo at h
  obtain ⟨hk, e⟩ := List.getElem?_eq_some_iff.1 hx
  rw [← List.take_append_drop k l, List.find?_append, h, List.drop_eq_getElem_cons hk, e]
  simp [hm]
theorem LinkTo.done {l : List NodeD} {k : Nat} (h : LinkTo l k) (hk : l.length ≤ k) : l.find? meantB = none := by
  unfold LinkTo at h
  rw [List.take_of_length_le hk] at h; exact h
end Go.Proofs.YtpinjgdnhbogoaaGreatDoor
