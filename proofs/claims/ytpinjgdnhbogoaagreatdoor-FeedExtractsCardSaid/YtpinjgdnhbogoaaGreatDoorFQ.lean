/- Items of a document, step by step (no program). -/
import Derived.Test.YtpinjgdnhbogoaaGreatDoorM0
namespace Go.Proofs.YtpinjgdnhbogoaaGreatDoor

theorem with_noId {l : List ItemD} {x : ItemD} (h : x.id = []) : withL l x = l := by unfold withL; rw [if_pos (by rw [h]; rfl)]
theorem with_old {l : List ItemD} {x : ItemD} (h : hasI l x.id = true) : withL l x = l := by unfold withL; rw [if_pos (by rw [h]; simp)]
/-- k items are read, and make l -/
def ItAt' (m : List ItemD) (k : Nat) (l : List ItemD) : Prop := (m.take k).foldl withL [] = l
theorem with_len {l : List ItemD} {x : ItemD} (h : l.length ≤ 100) : (withL l x).length ≤ 100 := by
  unfold withL
  split
  · exact h
  · rename_i hc
    simp only [Bool.or_eq_true, decide_eq_true_eq, not_or] at hc
    simp; omega
theorem has_snoc {l : List ItemD} {x : ItemD} {id : Str} : hasI (l ++ [x]) id = (hasI l id || (x.id == id)) := by unfold hasI; rw [List.any_append]; simp
/-- the ids that were seen -/
def idsI (l : List ItemD) : List Str := l.map (·.id)
theorem text_kid {n k : NodeD} {nm : Str} {l : List NodeD} (h : allL n nm = k :: l) : textL n nm = shortL k.text := by unfold textL; rw [h]
theorem text_none {n : NodeD} {nm : Str} (h : allL n nm = []) : textL n nm = [] := by unfold textL; rw [h]
/-- the first k links are not meant -/
def LinkTo (l : List NodeD) (k : Nat) : Prop := (l.take k).find? meantB = none
theorem LinkTo.start (l : List NodeD) : LinkTo l 0 := rfl
theorem LinkTo.step {l : List NodeD} {k : Nat} {x : NodeD} (h : LinkTo l k) (hx : l[k]? = some x) (hm : meantB x = false) : LinkTo l (k + 1) := by
  unfold LinkTo at h ⊢
  rw [List.take_add_one, hx, List.find?_append, h]
  simp [hm]
theorem LinkTo.hit {l : List NodeD} {k : Nat} {x : NodeD} (h : LinkTo l k) (hx : l[k]? = some x) (hm : meantB x = true) : l.find? meantB = some x := by
  unfold LinkTo at h
  obtain ⟨hk, e⟩ := List.getElem?_eq_some_iff.1 hx
  rw [← List.take_append_drop k l, List.find?_append, h, List.drop_eq_getElem_cons hk, e]
  simp [hm]
theorem LinkTo.done {l : List NodeD} {k : Nat} (h : LinkTo l k) (hk : l.length ≤ k) : l.find? meantB = none := by
  unfold LinkTo at h
  rw [List.take_of_length_le hk] at h; exact h
end Go.Proofs.YtpinjgdnhbogoaaGreatDoor

/- How large a tree is: all its texts, values and elements together (no program). -/
namespace Go.Proofs.YtpinjgdnhbogoaaGreatDoor

def aszL : List (Str × Str) → Nat
  | [] => 0
  | a :: l => 1 + a.2.length + aszL l
mutual
def nszN : NodeD → Nat
  | .mk _ a t k => 1 + t.length + aszL a + nszK k
def nszK : List NodeD → Nat
  | [] => 0
  | x :: l => nszN x + nszK l
end
def tszT (x : TokD) : Nat := 1 + x.text.length + aszL x.attrs
def tszL : List TokD → Nat
  | [] => 0
  | x :: l => tszT x + tszL l
theorem nszN_eq (nm : Str) (a : List (Str × Str)) (t : Str) (k : List NodeD) : nszN (.mk nm a t k) = 1 + t.length + aszL a + nszK k := by conv => lhs; unfold nszN
theorem nszK_cons (x : NodeD) (l : List NodeD) : nszK (x :: l) = nszN x + nszK l := by conv => lhs; unfold nszK
theorem nszK_nil : nszK [] = 0 := by unfold nszK; rfl
theorem nszK_snoc : ∀ (l : List NodeD) (x : NodeD), nszK (l ++ [x]) = nszK l + nszN x
  | [], x => by rw [List.nil_append, nszK_cons, nszK_nil]; omega
  | y :: l, x => by rw [List.cons_append, nszK_cons, nszK_cons, nszK_snoc l x]; omega
theorem nsz_node (n : NodeD) : nszN n = 1 + n.text.length + aszL n.attrs + nszK n.kids := by cases n; rw [nszN_eq]; rfl
theorem nsz_len : ∀ l : List NodeD, l.length ≤ nszK l
  | [] => Nat.zero_le _
  | x :: l => by have := nsz_len l; have := nsz_node x; rw [nszK_cons, List.length_cons]; omega
theorem nsz_mem : ∀ {l : List NodeD} {x : NodeD}, x ∈ l → nszN x ≤ nszK l
  | [], _, h => by cases h
  | y :: l, x, h => by
    rw [nszK_cons]
    rcases List.mem_cons.1 h with rfl | h
    · omega
    · have := nsz_mem h; omega
theorem asz_len : ∀ l : List (Str × Str), l.length ≤ aszL l
  | [] => Nat.zero_le _
  | x :: l => by have := asz_len l; unfold aszL; rw [List.length_cons]; omega
theorem asz_mem : ∀ {l : List (Str × Str)} {x : Str × Str}, x ∈ l → x.2.length ≤ aszL l
  | [], _, h => by cases h
  | y :: l, x, h => by
    unfold aszL
    rcases List.mem_cons.1 h with rfl | h
    · omega
    · have := asz_mem h; omega
theorem nsz_kid {n x : NodeD} (h : x ∈ n.kids) : nszN x ≤ nszN n := by rw [nsz_node n]; have := nsz_mem h; omega
theorem nsz_text (n : NodeD) : n.text.length ≤ nszN n := by rw [nsz_node n]; omega
theorem nsz_kids (n : NodeD) : n.kids.length ≤ nszN n := by rw [nsz_node n]; have := nsz_len n.kids; omega
theorem nsz_attrs (n : NodeD) : n.attrs.length ≤ nszN n := by rw [nsz_node n]; have := asz_len n.attrs; omega
theorem nsz_attr {n : NodeD} {nm v : Str} (h : attrN n nm = some v) : v.length ≤ nszN n := by
  unfold attrN at h
  cases hf : n.attrs.find? fun a => a.1 == nm with
  | none => rw [hf] at h; cases h
  | some a =>
    rw [hf] at h
    have e : a.2 = v := Option.some.inj h
    have := asz_mem (List.mem_of_find?_eq_some hf)
    rw [nsz_node n, ← e]; omega
theorem nsz_all {n k : NodeD} {nm : Str} (h : k ∈ allL n nm) : nszN k ≤ nszN n := nsz_kid (List.mem_filter.1 h).1
theorem elem_nsz : ∀ (m d : Nat) (nm : Str) (as : List (Str × Str)) (tx : Str) (ks : List NodeD) (l : List TokD) {n : NodeD} {r : List TokD}, elemF m d nm as tx ks l = .ok (n, r) → nszN n + tszL r ≤ 1 + aszL as + tx.length + nszK ks + tszL l
  | 0, _, _, _, _, _, _, _, _, h => by cases h
  | _ + 1, _, _, _, _, _, [], _, _, h => by cases h
  | m + 1, d, nm, as, tx, ks, t :: l, n, r, h => by
    have ht : tszL (t :: l) = 1 + t.text.length + aszL t.attrs + tszL l := rfl
    unfold elemF at h
    split at h
    · have := elem_nsz m _ _ _ _ _ _ h
      rw [List.length_append] at this
      omega
    split at h
    · split at h
      · cases h
      · cases he : elemF m (d + 1) t.name t.attrs [] [] l with
        | error e => rw [he] at h; cases h
        | ok p =>
          obtain ⟨k', r'⟩ := p
          rw [he] at h
          have h1 := elem_nsz m _ _ _ _ _ _ he
          have h2 := elem_nsz m _ _ _ _ _ _ h
          rw [nszK_snoc] at h2
          rw [nszK_nil] at h1
          simp only [List.length_nil] at h1
          omega
    split at h
    · simp only [Except.ok.injEq, Prod.mk.injEq] at h
      obtain ⟨rfl, rfl⟩ := h
      rw [nszN_eq]; omega
    · cases h
theorem build_nsz : ∀ (k : Nat) (dn : Option NodeD) (l : List TokD) {n : NodeD}, buildF k dn l = .ok n → nszN n ≤ (match dn with | none => 0 | some x => nszN x) + tszL l
  | 0, _, _, _, h => by cases h
  | _ + 1, none, [], _, h => by cases h
  | _ + 1, some x, [], n, h => by
    have e : x = n := Except.ok.inj h
    rw [e]; exact Nat.le_add_right _ _
  | k + 1, dn, t :: r, n, h => by
    have ht : tszL (t :: r) = 1 + t.text.length + aszL t.attrs + tszL r := rfl
    have e : buildF (k + 1) dn (t :: r) = if t.kind = 3 ∧ t.text.all blankC = true then buildF k dn r
        else if t.kind = 1 ∧ dn.isNone = true then match elemL 0 t.name t.attrs [] [] r with
          | .error e => .error e
          | .ok (n, r') => buildF k (some n) r'
        else .error 8 := by cases dn <;> (conv => lhs; unfold buildF) <;> rfl
    rw [e] at h
    split at h
    · have := build_nsz k dn r h; omega
    split at h
    · cases he : elemL 0 t.name t.attrs [] [] r with
      | error e => rw [he] at h; cases h
      | ok p =>
        obtain ⟨x, r'⟩ := p
        rw [he] at h
        have h1 := elem_nsz _ _ _ _ _ _ _ (show elemF _ 0 t.name t.attrs [] [] r = .ok (x, r') from he)
        have h2 := build_nsz k (some x) r' h
        rw [nszK_nil] at h1
        simp only [List.length_nil] at h1
        dsimp only at h2
        omega
    · cases h
theorem buildL_nsz {l : List TokD} {n : NodeD} (h : buildL l = .ok n) : nszN n ≤ tszL l := by
  have := build_nsz _ none l h
  simpa using this
theorem parse_ne {s : Str} {e : Int} (h : parseL s = .error e) : e ≠ 0 := by
  unfold parseL at h
  split at h
  · rcases buildF_err _ _ _ h with h | h <;> omega
  · rename_i h0
    have h2 : (readD s).2.1 = e := Except.error.inj h
    rw [← h2]; exact h0
end Go.Proofs.YtpinjgdnhbogoaaGreatDoor
