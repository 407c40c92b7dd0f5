/- Elements in one another, in plain words: tokens of a tree, a tree of tokens (no program). -/
import Derived.Test.YtpinjgdnhbogoaaDoorXX
namespace Go.Proofs.YtpinjgdnhbogoaaDoor

inductive NodeD where
  | mk (name : Str) (attrs : List (Str × Str)) (text : Str) (kids : List NodeD)
def NodeD.name : NodeD → Str | .mk n _ _ _ => n
def NodeD.attrs : NodeD → List (Str × Str) | .mk _ a _ _ => a
def NodeD.text : NodeD → Str | .mk _ _ t _ => t
def NodeD.kids : NodeD → List NodeD | .mk _ _ _ k => k
def wordsT (tx : Str) : List TokD := if tx.isEmpty then [] else [⟨3, [], [], tx⟩]
mutual
def tokN : NodeD → List TokD
  | .mk nm as tx ks => ⟨1, nm, as, []⟩ :: (wordsT tx ++ (tokK ks ++ [⟨2, nm, [], []⟩]))
def tokK : List NodeD → List TokD
  | [] => []
  | k :: ks => tokN k ++ tokK ks
end
mutual
def deepN : NodeD → Nat
  | .mk _ _ _ ks => deepK ks + 1
def deepK : List NodeD → Nat
  | [] => 0
  | k :: ks => max (deepN k) (deepK ks)
end
mutual
def manyN : NodeD → Nat
  | .mk _ _ _ ks => manyK ks + 1
def manyK : List NodeD → Nat
  | [] => 0
  | k :: ks => manyN k + manyK ks
end

/-- an element at a depth, of which so much is read, and the tokens behind -/
def elemF : Nat → Nat → Str → List (Str × Str) → Str → List NodeD → List TokD → Except Int (NodeD × List TokD)
  | 0, _, _, _, _, _, _ => .error 8
  | _ + 1, _, _, _, _, _, [] => .error 8
  | n + 1, d, nm, as, tx, ks, t :: r =>
    if t.kind = 3 then elemF n d nm as (tx ++ t.text) ks r
    else if t.kind = 1 then
      if d + 1 = 20 then .error 19
      else match elemF n (d + 1) t.name t.attrs [] [] r with
        | .error e => .error e
        | .ok (k, r') => elemF n d nm as tx (ks ++ [k]) r'
    else if t.kind = 2 ∧ t.name = nm then .ok (.mk nm as tx ks, r)
    else .error 8
theorem elemF_len : ∀ (n d : Nat) (nm : Str) (as : List (Str × Str)) (tx : Str) (ks : List NodeD) (l : List TokD) {k : NodeD} {r : List TokD}, elemF n d nm as tx ks l = .ok (k, r) → r.length < l.length
  | 0, _, _, _, _, _, _, _, _, h => by cases h
  | _ + 1, _, _, _, _, _, [], _, _, h => by cases h
  | n + 1, d, nm, as, tx, ks, t :: l, k, r, h => by
    unfold elemF at h
    split at h
    · have := elemF_len n _ _ _ _ _ _ h; simp; omega
    split at h
    · split at h
      · cases h
      · cases he : elemF n (d + 1) t.name t.attrs [] [] l with
        | error e => rw [he] at h; cases h
        | ok p =>
          obtain ⟨k', r'⟩ := p
          rw [he] at h
          have h1 := elemF_len n _ _ _ _ _ _ he
          have h2 := elemF_len n _ _ _ _ _ _ h
          simp; omega
    split at h
    · simp only [Except.ok.injEq, Prod.mk.injEq] at h
      rw [← h.2]; simp
    · cases h
theorem elemF_fuel : ∀ (n m d : Nat) (nm : Str) (as : List (Str × Str)) (tx : Str) (ks : List NodeD) (l : List TokD), l.length < n → l.length < m → elemF n d nm as tx ks l = elemF m d nm as tx ks l
  | 0, _, _, _, _, _, _, _, h, _ => by omega
  | _, 0, _, _, _, _, _, _, _, h => by omega
  | n + 1, m + 1, d, nm, as, tx, ks, [], _, _ => rfl
  | n + 1, m + 1, d, nm, as, tx, ks, t :: l, h1, h2 => by
    simp only [List.length_cons] at h1 h2
    unfold elemF
    rw [elemF_fuel n m d nm as (tx ++ t.text) ks l (by omega) (by omega), elemF_fuel n m (d + 1) t.name t.attrs [] [] l (by omega) (by omega)]
    cases he : elemF m (d + 1) t.name t.attrs [] [] l with
    | error e => rfl
    | ok p =>
      obtain ⟨k', r'⟩ := p
      have h3 := elemF_len m _ _ _ _ _ _ he
      dsimp only
      rw [elemF_fuel n m d nm as tx (ks ++ [k']) r' (by omega) (by omega)]
def elemL (d : Nat) (nm : Str) (as : List (Str × Str)) (tx : Str) (ks : List NodeD) (l : List TokD) : Except Int (NodeD × List TokD) := elemF (l.length + 1) d nm as tx ks l
theorem elemL_nil (d : Nat) (nm : Str) (as : List (Str × Str)) (tx : Str) (ks : List NodeD) : elemL d nm as tx ks [] = .error 8 := rfl
theorem elemL_cons (d : Nat) (nm : Str) (as : List (Str × Str)) (tx : Str) (ks : List NodeD) (t : TokD) (r : List TokD) : elemL d nm as tx ks (t :: r) =
    (if t.kind = 3 then elemL d nm as (tx ++ t.text) ks r
    else if t.kind = 1 then
      if d + 1 = 20 then .error 19
      else match elemL (d + 1) t.name t.attrs [] [] r with
        | .error e => .error e
        | .ok (k, r') => elemL d nm as tx (ks ++ [k]) r'
    else if t.kind = 2 ∧ t.name = nm then .ok (.mk nm as tx ks, r)
    else .error 8) := by
  conv => lhs; unfold elemL elemF
  show (if t.kind = 3 then elemL d nm as (tx ++ t.text) ks r else if t.kind = 1 then if d + 1 = 20 then .error 19 else match elemL (d + 1) t.name t.attrs [] [] r with | .error e => .error e | .ok (k, r') => elemF (t :: r).length d nm as tx (ks ++ [k]) r' else if t.kind = 2 ∧ t.name = nm then .ok (.mk nm as tx ks, r) else .error 8) = _
  cases he : elemL (d + 1) t.name t.attrs [] [] r with
  | error e => rfl
  | ok p =>
    obtain ⟨k', r'⟩ := p
    have h3 := elemF_len _ _ _ _ _ _ _ he
    dsimp only
    rw [show elemF (t :: r).length d nm as tx (ks ++ [k']) r' = elemL d nm as tx (ks ++ [k']) r' from elemF_fuel _ _ _ _ _ _ _ _ (by simp; omega) (Nat.lt_succ_self _)]
theorem elemL_words (d : Nat) (nm : Str) (as : List (Str × Str)) (tx : Str) (ks : List NodeD) (w : Str) (r : List TokD) : elemL d nm as tx ks (⟨3, [], [], w⟩ :: r) = elemL d nm as (tx ++ w) ks r := by
  rw [elemL_cons, if_pos rfl]
theorem elemL_wordsT (d : Nat) (nm : Str) (as : List (Str × Str)) (tx : Str) (ks : List NodeD) (w : Str) (r : List TokD) : elemL d nm as tx ks (wordsT w ++ r) = elemL d nm as (tx ++ w) ks r := by
  unfold wordsT
  cases w with
  | nil => simp
  | cons c t => exact elemL_words d nm as tx ks (c :: t) r
theorem elemL_close (d : Nat) (nm : Str) (as : List (Str × Str)) (tx : Str) (ks : List NodeD) (r : List TokD) : elemL d nm as tx ks (⟨2, nm, [], []⟩ :: r) = .ok (.mk nm as tx ks, r) := by
  rw [elemL_cons, if_neg (by simp), if_neg (by simp), if_pos ⟨rfl, rfl⟩]
theorem elemL_open (d : Nat) (nm : Str) (as : List (Str × Str)) (tx : Str) (ks : List NodeD) (nm2 : Str) (as2 : List (Str × Str)) (r : List TokD) : elemL d nm as tx ks (⟨1, nm2, as2, []⟩ :: r) =
    if d + 1 = 20 then .error 19 else match elemL (d + 1) nm2 as2 [] [] r with | .error e => .error e | .ok (k, r') => elemL d nm as tx (ks ++ [k]) r' := by
  rw [elemL_cons, if_neg (by simp), if_pos rfl]

mutual
theorem elem_node : ∀ (n : NodeD) (d : Nat) (r : List TokD), d + deepN n ≤ 20 → elemL d n.name n.attrs [] [] (wordsT n.text ++ (tokK n.kids ++ (⟨2, n.name, [], []⟩ :: r))) = .ok (n, r)
  | .mk nm as tx ks, d, r, h => by
    show elemL d nm as [] [] (wordsT tx ++ (tokK ks ++ (⟨2, nm, [], []⟩ :: r))) = _
    unfold deepN at h
    rw [elemL_wordsT, elem_kids ks d nm as _ [] _ (by omega), List.nil_append, List.nil_append, elemL_close]
theorem elem_kids : ∀ (ks : List NodeD) (d : Nat) (nm : Str) (as : List (Str × Str)) (tx : Str) (k0 : List NodeD) (r : List TokD), d + 1 + deepK ks ≤ 20 → elemL d nm as tx k0 (tokK ks ++ r) = elemL d nm as tx (k0 ++ ks) r
  | [], d, nm, as, tx, k0, r, _ => by rw [tokK, List.nil_append, List.append_nil]
  | k :: ks, d, nm, as, tx, k0, r, h => by
    unfold deepK at h
    have h1 : d + 1 + deepN k ≤ 20 := by omega
    have hn := elem_node k (d + 1) (tokK ks ++ r) h1
    have e : tokK (k :: ks) ++ r = ⟨1, k.name, k.attrs, []⟩ :: (wordsT k.text ++ (tokK k.kids ++ (⟨2, k.name, [], []⟩ :: (tokK ks ++ r)))) := by
      cases k with
      | mk a b c e => simp [tokK, tokN, NodeD.name, NodeD.attrs, NodeD.text, NodeD.kids]
    have hd : ¬ d + 1 = 20 := by
      have : 0 < deepN k := by cases k; unfold deepN; omega
      omega
    rw [e, elemL_open, if_neg hd, hn]
    dsimp only
    rw [elem_kids ks d nm as tx (k0 ++ [k]) r (by omega), List.append_assoc]; rfl
end
mutual
theorem elem_deep : ∀ (n : NodeD) (d : Nat) (r : List TokD), d < 20 → 20 < d + deepN n → elemL d n.name n.attrs [] [] (wordsT n.text ++ (tokK n.kids ++ (⟨2, n.name, [], []⟩ :: r))) = .error 19
  | .mk nm as tx ks, d, r, h0, h => by
    show elemL d nm as [] [] (wordsT tx ++ (tokK ks ++ (⟨2, nm, [], []⟩ :: r))) = _
    unfold deepN at h
    rw [elemL_wordsT, kids_deep ks d nm as _ [] _ h0 (by omega)]
theorem kids_deep : ∀ (ks : List NodeD) (d : Nat) (nm : Str) (as : List (Str × Str)) (tx : Str) (k0 : List NodeD) (r : List TokD), d < 20 → 20 < d + 1 + deepK ks → elemL d nm as tx k0 (tokK ks ++ r) = .error 19
  | [], d, nm, as, tx, k0, r, h0, h => by unfold deepK at h; omega
  | k :: ks, d, nm, as, tx, k0, r, h0, h => by
    unfold deepK at h
    have e : tokK (k :: ks) ++ r = ⟨1, k.name, k.attrs, []⟩ :: (wordsT k.text ++ (tokK k.kids ++ (⟨2, k.name, [], []⟩ :: (tokK ks ++ r)))) := by
      cases k with
      | mk a b c e => simp [tokK, tokN, NodeD.name, NodeD.attrs, NodeD.text, NodeD.kids]
    rw [e, elemL_open]
    by_cases hd : d + 1 = 20
    · rw [if_pos hd]
    · rw [if_neg hd]
      by_cases hk : d + 1 + deepN k ≤ 20
      · rw [elem_node k (d + 1) (tokK ks ++ r) hk]
        dsimp only
        exact kids_deep ks d nm as tx (k0 ++ [k]) r h0 (by omega)
      · rw [elem_deep k (d + 1) (tokK ks ++ r) (by omega) (by omega)]
end
/-- a tree of tokens -/
def buildF : Nat → Option NodeD → List TokD → Except Int NodeD
  | 0, _, _ => .error 8
  | _ + 1, none, [] => .error 8
  | _ + 1, some n, [] => .ok n
  | k + 1, root, t :: r =>
    if t.kind = 3 ∧ t.text.all blankC = true then buildF k root r
    else if t.kind = 1 ∧ root.isNone = true then match elemL 0 t.name t.attrs [] [] r with
      | .error e => .error e
      | .ok (n, r') => buildF k (some n) r'
    else .error 8
def buildL (l : List TokD) : Except Int NodeD := buildF (l.length + 1) none l
theorem tokN_eq (n : NodeD) : tokN n = ⟨1, n.name, n.attrs, []⟩ :: (wordsT n.text ++ (tokK n.kids ++ [⟨2, n.name, [], []⟩])) := by
  cases n with
  | mk a b c e => simp [tokN, NodeD.name, NodeD.attrs, NodeD.text, NodeD.kids]
/-- TreeBack -/
theorem build_tok (n : NodeD) : buildL (tokN n) = if deepN n ≤ 20 then .ok n else .error 19 := by
  rw [tokN_eq]
  unfold buildL buildF
  rw [if_neg (by simp), if_pos ⟨rfl, rfl⟩]
  by_cases h : deepN n ≤ 20
  · rw [if_pos h, elem_node n 0 [] (by omega)]
    rfl
  · rw [if_neg h, elem_deep n 0 [] (by omega) (by omega)]
/-- TreeWraps -/
theorem build_wrap (n : NodeD) (w words : Str) : buildL (⟨1, w, [], []⟩ :: (tokN n ++ [⟨3, [], [], words⟩, ⟨2, w, [], []⟩])) = if deepN n < 20 then .ok (.mk w [] words [n]) else .error 19 := by
  have e : tokN n = tokK [n] := by simp [tokK]
  unfold buildL buildF
  rw [if_neg (by simp), if_pos ⟨rfl, rfl⟩, e]
  by_cases h : deepN n < 20
  · rw [if_pos h, elem_kids [n] 0 w [] [] [] _ (by unfold deepK deepK; omega), elemL_words, List.nil_append, elemL_close]
    rfl
  · rw [if_neg h, kids_deep [n] 0 w [] [] [] _ (by omega) (by unfold deepK deepK; omega)]
end Go.Proofs.YtpinjgdnhbogoaaDoor

/- What is squeezed, in plain words (no program). -/
namespace Go.Proofs.YtpinjgdnhbogoaaDoor

/-- st: is something written already; gap: was there a blank since -/
def sqF : Bool → Bool → Str → Str
  | _, _, [] => []
  | st, gap, c :: s => if blankC c then sqF st st s else (if gap then [32] else []) ++ c :: sqF true false s
def squeezeL (s : Str) : Str := sqF false false s
def fieldsF : Nat → Str → List Str
  | 0, _ => []
  | n + 1, s => match trimL s with
    | [] => []
    | c :: t => (c :: t).takeWhile (fun x => !blankC x) :: fieldsF n ((c :: t).dropWhile (fun x => !blankC x))
def fieldsL (s : Str) : List Str := fieldsF (s.length + 1) s
def joinL : List Str → Str
  | [] => []
  | [x] => x
  | x :: y :: l => x ++ 32 :: joinL (y :: l)

theorem sq_blank {c : UInt8} (h : blankC c = true) (st gap : Bool) (s : Str) : sqF st gap (c :: s) = sqF st st s := by
  rw [sqF, if_pos h]
theorem sq_plain {c : UInt8} (h : blankC c = false) (st gap : Bool) (s : Str) : sqF st gap (c :: s) = (if gap then [32] else []) ++ c :: sqF true false s := by
  rw [sqF, if_neg (by rw [h]; simp)]
theorem sq_trim (st : Bool) : ∀ s : Str, sqF st st s = sqF st st (trimL s)
  | [] => rfl
  | c :: s => by
    unfold trimL
    rw [List.dropWhile_cons]
    by_cases h : blankC c = true
    · rw [if_pos h, sq_blank h]; exact sq_trim st s
    · rw [if_neg h]
theorem sq_word : ∀ (w r : Str), (∀ c ∈ w, blankC c = false) → sqF true false (w ++ r) = w ++ sqF true false r
  | [], r, _ => rfl
  | c :: w, r, h => by
    rw [List.cons_append, sq_plain (h c (List.mem_cons_self ..)), sq_word w r (fun x hx => h x (List.mem_cons_of_mem _ hx))]; rfl
theorem trim_first {s : Str} {c : UInt8} {t : Str} (h : trimL s = c :: t) : blankC c = false := by
  have := List.head?_dropWhile_not blankC s
  unfold trimL at h
  rw [h] at this
  simpa using this
/-- behind a word: a blank, or the end -/
def preL (st : Bool) (l : List Str) : Str := match l with | [] => [] | x :: y => (if st then [32] else []) ++ joinL (x :: y)
theorem sq_fields : ∀ (n : Nat) (s : Str), s.length < n → (∀ st, sqF st st s = preL st (fieldsF n s))
  | 0, _, h => by omega
  | n + 1, s, hn => fun st => by
    rw [sq_trim]
    unfold fieldsF
    cases ht : trimL s with
    | nil => rfl
    | cons c t =>
      have hc := trim_first ht
      have hl := trim_le s
      rw [ht] at hl
      dsimp only
      have hw : ∀ x ∈ t.takeWhile (fun x => !blankC x), blankC x = false := fun x hx => by
        have := List.all_eq_true.1 (List.all_takeWhile (l := t) (p := fun x => !blankC x)) x hx
        simpa using this
      have e1 : (c :: t).takeWhile (fun x => !blankC x) = c :: t.takeWhile (fun x => !blankC x) := by rw [List.takeWhile_cons, if_pos (by rw [hc]; rfl)]
      have e2 : (c :: t).dropWhile (fun x => !blankC x) = t.dropWhile (fun x => !blankC x) := by rw [List.dropWhile_cons, if_pos (by rw [hc]; rfl)]
      have e3 : t = t.takeWhile (fun x => !blankC x) ++ t.dropWhile (fun x => !blankC x) := List.takeWhile_append_dropWhile.symm
      rw [e1, e2, sq_plain hc]
      conv => lhs; rw [e3, sq_word _ _ hw]
      generalize hr : t.dropWhile (fun x => !blankC x) = r
      have hrl : r.length ≤ t.length := by rw [← hr]; exact (List.dropWhile_suffix _).length_le
      have ih := sq_fields n r (by simp at hl; omega) true
      have key : sqF true false r = sqF true true r := by
        cases r with
        | nil => rfl
        | cons x y =>
          have hx : blankC x = true := by
            have := List.head?_dropWhile_not (fun x => !blankC x) t
            rw [hr] at this
            simpa using this
          rw [sq_blank hx, sq_blank hx]
      rw [key, ih]
      cases hf : fieldsF n r with
      | nil => simp [preL, joinL]
      | cons a b => simp [preL, joinL]
theorem squeeze_join (s : Str) : squeezeL s = joinL (fieldsL s) := by
  unfold squeezeL fieldsL
  rw [sq_fields (s.length + 1) s (Nat.lt_succ_self _) false]
  cases fieldsF (s.length + 1) s with
  | nil => rfl
  | cons a b => rfl
/-! ### TreeSqueezes -/
theorem sq_head : ∀ (s : Str) (c : UInt8) (t : Str), sqF false false s = c :: t → blankC c = false
  | [], _, _, h => by cases h
  | x :: s, c, t, h => by
    by_cases hx : blankC x = true
    · rw [sq_blank hx] at h; exact sq_head s c t h
    · have hx' : blankC x = false := by simpa using hx
      rw [sq_plain hx'] at h
      simp only [Bool.false_eq_true, if_false, List.nil_append, List.cons.injEq] at h
      rw [← h.1]; exact hx'
theorem sq_last : ∀ (s : Str) (st gap : Bool) (c : UInt8), (sqF st gap s).getLast? = some c → blankC c = false
  | [], _, _, _, h => by cases h
  | x :: s, st, gap, c, h => by
    by_cases hx : blankC x = true
    · rw [sq_blank hx] at h; exact sq_last s _ _ c h
    · have hx' : blankC x = false := by simpa using hx
      rw [sq_plain hx', List.getLast?_append] at h
      simp only [List.getLast?_cons] at h
      cases hl : (sqF true false s).getLast? with
      | none => rw [hl] at h; simp at h; rw [← h]; exact hx'
      | some y => rw [hl] at h; simp at h; rw [← h]; exact sq_last s _ _ y hl
theorem sq_again : ∀ (s : Str) (gap : Bool), sqF true false (sqF true gap s) = sqF true gap s
  | [], _ => rfl
  | x :: s, gap => by
    by_cases hx : blankC x = true
    · rw [sq_blank hx]; exact sq_again s true
    · have hx' : blankC x = false := by simpa using hx
      have ih := sq_again s false
      rw [sq_plain hx']
      cases gap with
      | false =>
        show sqF true false (x :: sqF true false s) = x :: sqF true false s
        rw [sq_plain hx', ih]; rfl
      | true =>
        show sqF true false (32 :: x :: sqF true false s) = 32 :: x :: sqF true false s
        rw [sq_blank (by decide), sq_plain hx', ih]; rfl
theorem squeeze_twice : ∀ s : Str, squeezeL (squeezeL s) = squeezeL s
  | [] => rfl
  | x :: s => by
    unfold squeezeL
    by_cases hx : blankC x = true
    · rw [sq_blank hx]; exact squeeze_twice s
    · have hx' : blankC x = false := by simpa using hx
      rw [sq_plain hx']
      show sqF false false (x :: sqF true false s) = x :: sqF true false s
      rw [sq_plain hx', sq_again]; rfl
/-- one byte of the text against what is left of the squeezed one -/
theorem sq_step_blank {c : UInt8} (h : blankC c = true) (st gap : Bool) (s : Str) : sqF st gap (c :: s) = sqF st st s := sq_blank h st gap s
theorem sq_step_plain {c : UInt8} (h : blankC c = false) (st gap : Bool) (s : Str) : ∃ r, sqF st gap (c :: s) = r ∧ (match r with | 32 :: t => t | t => t) = c :: sqF true false s := by
  refine ⟨_, rfl, ?_⟩
  rw [sq_plain h]
  cases gap with
  | true => rfl
  | false =>
    show (match c :: sqF true false s with | 32 :: t => t | t => t) = c :: sqF true false s
    split
    · rename_i e
      have hc := (List.cons.inj e).1
      rw [hc] at h; exact absurd h (by decide)
    · rfl
end Go.Proofs.YtpinjgdnhbogoaaDoor

/- What documents tell, in plain words: items of a tree, documents written (no program). -/
namespace Go.Proofs.YtpinjgdnhbogoaaDoor

structure ItemD where
  id : Str
  title : Str
  link : Str
deriving DecidableEq
def nRss : Str := [114, 115, 115]
def nFeed : Str := [102, 101, 101, 100]
def nChannel : Str := [99, 104, 97, 110, 110, 101, 108]
def nItem : Str := [105, 116, 101, 109]
def nEntry : Str := [101, 110, 116, 114, 121]
def nGuid : Str := [103, 117, 105, 100]
def nTitle : Str := [116, 105, 116, 108, 101]
def nLink : Str := [108, 105, 110, 107]
def nId : Str := [105, 100]
def nRel : Str := [114, 101, 108]
def nHref : Str := [104, 114, 101, 102]
def nAlt : Str := [97, 108, 116, 101, 114, 110, 97, 116, 101]
def nVersion : Str := [118, 101, 114, 115, 105, 111, 110]
def nXmlns : Str := [120, 109, 108, 110, 115]
def vTwo : Str := [50, 46, 48]
def vAtom : Str := [104, 116, 116, 112, 58, 47, 47, 119, 119, 119, 46, 119, 51, 46, 111, 114, 103, 47, 50, 48, 48, 53, 47, 65, 116, 111, 109]

def shortL (s : Str) : Str := if 200 < (squeezeL s).length then [] else squeezeL s
def fitB (s : Str) : Bool := decide (s.length ≤ 200) && (squeezeL s == s)
def rightD (x : ItemD) : Bool := !x.id.isEmpty && (fitB x.id && (fitB x.title && fitB x.link))
def allL (n : NodeD) (nm : Str) : List NodeD := n.kids.filter fun k => k.name == nm
def textL (n : NodeD) (nm : Str) : Str := match allL n nm with | [] => [] | k :: _ => shortL k.text
def attrN (n : NodeD) (nm : Str) : Option Str := (n.attrs.find? fun a => a.1 == nm).map (·.2)
def meantB (n : NodeD) : Bool := match attrN n nRel with | none => true | some r => r == nAlt
def hrefL (n : NodeD) : Str := match (allL n nLink).find? meantB with | none => [] | some k => shortL ((attrN k nHref).getD [])
def rssI (n : NodeD) : ItemD := ⟨if (textL n nGuid).isEmpty then textL n nLink else textL n nGuid, textL n nTitle, textL n nLink⟩
def atomI (n : NodeD) : ItemD := ⟨textL n nId, textL n nTitle, hrefL n⟩
def hasI (l : List ItemD) (id : Str) : Bool := l.any fun y => y.id == id
def withL (l : List ItemD) (x : ItemD) : List ItemD := if x.id.isEmpty || (decide (100 ≤ l.length) || hasI l x.id) then l else l ++ [x]
def itemsL (n : NodeD) : Option (List ItemD) :=
  if n.name = nRss then match allL n nChannel with | [] => none | c :: _ => some (((allL c nItem).map rssI).foldl withL [])
  else if n.name = nFeed then some (((allL n nEntry).map atomI).foldl withL [])
  else none
def parseL (s : Str) : Except Int NodeD := if (readD s).2.1 = 0 then buildL (readD s).1 else .error (readD s).2.1
def extractL (s : Str) : List ItemD × Int := match parseL s with
  | .error e => ([], e)
  | .ok n => match itemsL n with
    | none => ([], 8)
    | some l => (l, 0)

/-! ### items are right, each once, at most 100 -/
theorem short_fit (s : Str) : fitB (shortL s) = true := by
  unfold shortL fitB
  split
  · decide
  · rename_i h
    rw [squeeze_twice]; simp; omega
theorem fit_short {s : Str} (h : fitB s = true) : shortL s = s := by
  unfold fitB at h
  simp only [Bool.and_eq_true, decide_eq_true_eq, beq_iff_eq] at h
  unfold shortL
  rw [h.2, if_neg (by omega)]
theorem text_fit (n : NodeD) (nm : Str) : fitB (textL n nm) = true := by
  unfold textL; split
  · decide
  · exact short_fit _
theorem href_fit (n : NodeD) : fitB (hrefL n) = true := by
  unfold hrefL; split
  · decide
  · exact short_fit _
def RightL (l : List ItemD) : Prop := (∀ x ∈ l, rightD x = true) ∧ (l.map (·.id)).Nodup ∧ l.length ≤ 100
theorem with_right {l : List ItemD} {x : ItemD} (h : RightL l) (h1 : fitB x.id = true) (h2 : fitB x.title = true) (h3 : fitB x.link = true) : RightL (withL l x) := by
  unfold withL
  split
  · exact h
  · rename_i hc
    simp only [Bool.or_eq_true, decide_eq_true_eq, not_or, Bool.not_eq_true] at hc
    obtain ⟨c1, c2, c3⟩ := hc
    refine ⟨fun y hy => ?_, ?_, by simp; omega⟩
    · rcases List.mem_append.1 hy with h4 | h4
      · exact h.1 y h4
      · rw [List.mem_singleton.1 h4]
        unfold rightD
        rw [c1, h1, h2, h3]; rfl
    · rw [List.map_append, List.nodup_append]
      refine ⟨h.2.1, by simp, fun a ha b hb => ?_⟩
      obtain ⟨y, hy, rfl⟩ := List.mem_map.1 ha
      have hb' : b = x.id := by simpa using hb
      rintro rfl
      have : hasI l x.id = true := by
        unfold hasI
        exact List.any_eq_true.2 ⟨y, hy, by simpa using hb'⟩
      rw [this] at c3; cases c3
theorem fold_right : ∀ (m : List ItemD) (l : List ItemD), RightL l → (∀ x ∈ m, fitB x.id = true ∧ fitB x.title = true ∧ fitB x.link = true) → RightL (m.foldl withL l)
  | [], _, h, _ => h
  | x :: m, _l, h, hm => fold_right m _ (with_right h (hm x (List.mem_cons_self ..)).1 (hm x (List.mem_cons_self ..)).2.1 (hm x (List.mem_cons_self ..)).2.2) fun y hy => hm y (List.mem_cons_of_mem _ hy)
theorem right_nil : RightL [] := ⟨(fun _ h => by cases h), List.nodup_nil, Nat.zero_le _⟩
theorem rss_fit (n : NodeD) : fitB (rssI n).id = true ∧ fitB (rssI n).title = true ∧ fitB (rssI n).link = true := by
  refine ⟨?_, text_fit _ _, text_fit _ _⟩
  show fitB (if (textL n nGuid).isEmpty then textL n nLink else textL n nGuid) = true
  split <;> exact text_fit _ _
theorem atom_fit (n : NodeD) : fitB (atomI n).id = true ∧ fitB (atomI n).title = true ∧ fitB (atomI n).link = true := ⟨text_fit _ _, text_fit _ _, href_fit _⟩
theorem items_right {n : NodeD} {l : List ItemD} (h : itemsL n = some l) : RightL l := by
  unfold itemsL at h
  split at h
  · split at h
    · cases h
    · rw [← Option.some.inj h]
      exact fold_right _ _ right_nil fun x hx => by
        obtain ⟨k, _, rfl⟩ := List.mem_map.1 hx
        exact rss_fit k
  split at h
  · rw [← Option.some.inj h]
    exact fold_right _ _ right_nil fun x hx => by
      obtain ⟨k, _, rfl⟩ := List.mem_map.1 hx
      exact atom_fit k
  · cases h
/-- FeedItems -/
theorem extract_right (s : Str) : RightL (extractL s).1 ∧ ((extractL s).2 ≠ 0 → (extractL s).1 = []) := by
  unfold extractL
  cases parseL s with
  | error e => exact ⟨right_nil, fun _ => rfl⟩
  | ok n =>
    dsimp only
    cases hi : itemsL n with
    | none => exact ⟨right_nil, fun _ => rfl⟩
    | some l => exact ⟨items_right hi, fun h => absurd rfl h⟩

/-! ### documents -/
def elemW (nm s : Str) : Str := 60 :: (nm ++ 62 :: (escL s ++ 60 :: 47 :: (nm ++ [62])))
def itemW (x : ItemD) : Str := 60 :: (nItem ++ 62 :: (elemW nGuid x.id ++ (elemW nTitle x.title ++ (elemW nLink x.link ++ 60 :: 47 :: (nItem ++ [62])))))
def rssL (title : Str) (l : List ItemD) : Str :=
  60 :: (nRss ++ 32 :: (nVersion ++ 61 :: 34 :: (vTwo ++ 34 :: 62 :: 60 :: (nChannel ++ 62 :: (elemW nTitle title ++ (l.flatMap itemW ++ 60 :: 47 :: (nChannel ++ 62 :: 60 :: 47 :: (nRss ++ [62]))))))))
def entryW (x : ItemD) : Str := 60 :: (nEntry ++ 62 :: (elemW nId x.id ++ (elemW nTitle x.title ++ 60 :: (nLink ++ 32 :: (nHref ++ 61 :: 34 :: (escL x.link ++ 34 :: 47 :: 62 :: 60 :: 47 :: (nEntry ++ [62])))))))
def atomL (title : Str) (l : List ItemD) : Str :=
  60 :: (nFeed ++ 32 :: (nXmlns ++ 61 :: 34 :: (vAtom ++ 34 :: 62 :: (elemW nTitle title ++ (l.flatMap entryW ++ 60 :: 47 :: (nFeed ++ [62]))))))
/-- a piece that is read as tokens, with no words left -/
def Reads (p : Str) (a : List TokD) : Prop := ∀ (k : Nat) (l : List TokD) (r : Str), readG k l [] (p ++ r) = readG (k + p.length) (l ++ a) [] r
theorem Reads.nil : Reads [] [] := fun k l r => by rw [List.append_nil]; rfl
theorem Reads.app {p q : Str} {a b : List TokD} (h1 : Reads p a) (h2 : Reads q b) : Reads (p ++ q) (a ++ b) := fun k l r => by
  rw [List.append_assoc, h1, h2, List.append_assoc, List.length_append, Nat.add_assoc]
theorem Reads.part {p : Str} {a : List TokD} (ha : a ≠ []) (h : ∀ r, partL (60 :: (p ++ r)) = some ([], a, r)) : Reads (60 :: p) a := fun k l r => by
  show readG k l [] (60 :: (p ++ r)) = _
  rw [readG_part (h r), if_neg (by simpa using ha)]
  rw [List.append_nil, flush_nil]
  congr 1
  simp; omega
theorem Reads.open {n : Str} (h : NameOK n) : Reads (60 :: (n ++ [62])) [⟨1, n, [], []⟩] := Reads.part (by simp) fun r => by
  have := part_open h attrs_nil r
  simpa using this
theorem Reads.close {n : Str} (h : NameOK n) : Reads (60 :: 47 :: (n ++ [62])) [⟨2, n, [], []⟩] := Reads.part (p := 47 :: (n ++ [62])) (by simp) fun r => by
  have := part_close h r
  simpa using this
theorem Reads.openA {n m v : Str} (h : NameOK n) (hm : NameOK m) : Reads (60 :: (n ++ 32 :: (m ++ 61 :: 34 :: (escL v ++ 34 :: [62])))) [⟨1, n, [(m, v)], []⟩] := Reads.part (by simp) fun r => by
  have ha : AttrsOK [(m, v)] := ⟨fun a h => by rw [List.mem_singleton.1 h]; exact hm, by simp⟩
  have := part_open h ha r
  simpa [attrW] using this
theorem Reads.self {n m v : Str} (h : NameOK n) (hm : NameOK m) : Reads (60 :: (n ++ 32 :: (m ++ 61 :: 34 :: (escL v ++ 34 :: 47 :: [62])))) [⟨1, n, [(m, v)], []⟩, ⟨2, n, [], []⟩] := Reads.part (by simp) fun r => by
  have e : (n ++ 32 :: (m ++ 61 :: 34 :: (escL v ++ 34 :: 47 :: [62]))) ++ r = n ++ 32 :: (m ++ 61 :: 34 :: (escL v ++ 34 :: 47 :: 62 :: r)) := by simp
  rw [e]
  have h1 := h.stop (c := 32) (by decide) (m ++ 61 :: 34 :: (escL v ++ 34 :: 47 :: 62 :: r))
  have ht : tagL (n ++ 32 :: (m ++ 61 :: 34 :: (escL v ++ 34 :: 47 :: 62 :: r))) = some ([⟨1, n, [(m, v)], []⟩, ⟨2, n, [], []⟩], r) := by
    unfold tagL
    rw [h1, if_neg h.nonempty, List.drop_left, attrsL_eq (by simp; omega), attrs_one hm (.inl rfl) [] v _ rfl, attrs_self]
    rfl
  obtain ⟨c, t, rfl, hb⟩ := h.first
  rw [List.cons_append] at ht ⊢
  rw [part_tag hb, ht]; rfl
theorem Reads.textClose {n s : Str} (h : NameOK n) : Reads (escL s ++ 60 :: 47 :: (n ++ [62])) (wordsT s ++ [⟨2, n, [], []⟩]) := fun k l r => by
  by_cases hs : s = []
  · subst hs; exact Reads.close h k l r
  · have hp := part_close h r
    have e : (escL s ++ 60 :: 47 :: (n ++ [62])) ++ r = escL s ++ 60 :: 47 :: (n ++ 62 :: r) := by simp
    rw [e, readG_text (esc_ne hs) (esc_mem (.inl rfl) s) (.inr ⟨_, rfl⟩), saidL_esc]
    dsimp only
    rw [List.nil_append, readG_part hp, if_neg (by simp), List.append_nil, flush_words _ hs]
    have hw : wordsT s = [⟨3, [], [], s⟩] := by unfold wordsT; rw [if_neg (by simpa using hs)]
    rw [hw, List.append_assoc]
    congr 1
    simp; omega
theorem Reads.elem {n s : Str} (h : NameOK n) : Reads (elemW n s) (tokN (.mk n [] s [])) := by
  have := (Reads.open h).app (Reads.textClose (s := s) h)
  have e1 : 60 :: (n ++ [62]) ++ (escL s ++ 60 :: 47 :: (n ++ [62])) = elemW n s := by unfold elemW; simp
  rw [e1] at this
  exact this
theorem Reads.flat {α : Type} {f : α → Str} {g : α → List TokD} (h : ∀ x, Reads (f x) (g x)) : ∀ l : List α, Reads (l.flatMap f) (l.flatMap g)
  | [] => Reads.nil
  | x :: l => (h x).app (Reads.flat h l)
theorem Reads.read {p : Str} {a : List TokD} (h : Reads p a) : readL p = .ok a := by
  have := h 0 [] []
  rw [List.append_nil, readG_nil] at this
  exact this
theorem tokK_flat {α : Type} (f : α → NodeD) : ∀ l : List α, l.flatMap (fun x => tokN (f x)) = tokK (l.map f)
  | [] => by simp [tokK]
  | x :: l => by rw [List.flatMap_cons, tokK_flat f l, List.map_cons, tokK]
theorem tokK_app : ∀ a b : List NodeD, tokK (a ++ b) = tokK a ++ tokK b
  | [], b => by simp [tokK]
  | k :: a, b => by rw [List.cons_append, tokK, tokK, tokK_app a b, List.append_assoc]
def leafN (nm s : Str) : NodeD := .mk nm [] s []
def itemN (x : ItemD) : NodeD := .mk nItem [] [] [leafN nGuid x.id, leafN nTitle x.title, leafN nLink x.link]
def entryN (x : ItemD) : NodeD := .mk nEntry [] [] [leafN nId x.id, leafN nTitle x.title, .mk nLink [(nHref, x.link)] [] []]
def rssN (title : Str) (l : List ItemD) : NodeD := .mk nRss [(nVersion, vTwo)] [] [.mk nChannel [] [] (leafN nTitle title :: l.map itemN)]
def atomN (title : Str) (l : List ItemD) : NodeD := .mk nFeed [(nXmlns, vAtom)] [] (leafN nTitle title :: l.map entryN)
theorem ok_of {n : Str} (h : decide (n ≠ [] ∧ nameL n = n) = true) : NameOK n := of_decide_eq_true (p := n ≠ [] ∧ nameL n = n) h
theorem Reads.item (x : ItemD) : Reads (itemW x) (tokN (itemN x)) := by
  have := (Reads.open (n := nItem) (ok_of (by decide))).app ((Reads.elem (n := nGuid) (s := x.id) (ok_of (by decide))).app ((Reads.elem (n := nTitle) (s := x.title) (ok_of (by decide))).app ((Reads.elem (n := nLink) (s := x.link) (ok_of (by decide))).app (Reads.close (n := nItem) (ok_of (by decide))))))
  have e1 : 60 :: (nItem ++ [62]) ++ (elemW nGuid x.id ++ (elemW nTitle x.title ++ (elemW nLink x.link ++ 60 :: 47 :: (nItem ++ [62])))) = itemW x := by unfold itemW; simp
  rw [e1] at this
  have e2 : tokN (itemN x) = [⟨1, nItem, [], []⟩] ++ (tokN (leafN nGuid x.id) ++ (tokN (leafN nTitle x.title) ++ (tokN (leafN nLink x.link) ++ [⟨2, nItem, [], []⟩]))) := by
    unfold itemN
    simp [tokN, tokK, wordsT]
  rw [e2]; exact this
theorem Reads.entry (x : ItemD) : Reads (entryW x) (tokN (entryN x)) := by
  have := (Reads.open (n := nEntry) (ok_of (by decide))).app ((Reads.elem (n := nId) (s := x.id) (ok_of (by decide))).app ((Reads.elem (n := nTitle) (s := x.title) (ok_of (by decide))).app ((Reads.self (n := nLink) (m := nHref) (v := x.link) (ok_of (by decide)) (ok_of (by decide))).app (Reads.close (n := nEntry) (ok_of (by decide))))))
  have e1 : 60 :: (nEntry ++ [62]) ++ (elemW nId x.id ++ (elemW nTitle x.title ++ (60 :: (nLink ++ 32 :: (nHref ++ 61 :: 34 :: (escL x.link ++ 34 :: 47 :: [62]))) ++ 60 :: 47 :: (nEntry ++ [62])))) = entryW x := by unfold entryW; simp
  rw [e1] at this
  have e2 : tokN (entryN x) = [⟨1, nEntry, [], []⟩] ++ (tokN (leafN nId x.id) ++ (tokN (leafN nTitle x.title) ++ ([⟨1, nLink, [(nHref, x.link)], []⟩, ⟨2, nLink, [], []⟩] ++ [⟨2, nEntry, [], []⟩]))) := by
    unfold entryN
    simp [tokN, tokK, wordsT]
  rw [e2]; exact this
theorem esc_plain : escL vTwo = vTwo ∧ escL vAtom = vAtom := ⟨by decide, by decide⟩
theorem reads_rss (title : Str) (l : List ItemD) : Reads (rssL title l) (tokN (rssN title l)) := by
  have h1 := Reads.openA (n := nRss) (m := nVersion) (v := vTwo) (ok_of (by decide)) (ok_of (by decide))
  have := h1.app ((Reads.open (n := nChannel) (ok_of (by decide))).app ((Reads.elem (n := nTitle) (s := title) (ok_of (by decide))).app ((Reads.flat Reads.item l).app ((Reads.close (n := nChannel) (ok_of (by decide))).app (Reads.close (n := nRss) (ok_of (by decide)))))))
  rw [esc_plain.1] at this
  have e1 : 60 :: (nRss ++ 32 :: (nVersion ++ 61 :: 34 :: (vTwo ++ 34 :: [62]))) ++ (60 :: (nChannel ++ [62]) ++ (elemW nTitle title ++ (l.flatMap itemW ++ (60 :: 47 :: (nChannel ++ [62]) ++ 60 :: 47 :: (nRss ++ [62]))))) = rssL title l := by unfold rssL; simp
  rw [e1, tokK_flat] at this
  have e2 : tokN (rssN title l) = [⟨1, nRss, [(nVersion, vTwo)], []⟩] ++ ([⟨1, nChannel, [], []⟩] ++ (tokN (leafN nTitle title) ++ (tokK (l.map itemN) ++ ([⟨2, nChannel, [], []⟩] ++ [⟨2, nRss, [], []⟩])))) := by
    unfold rssN
    simp [tokN, tokK, wordsT]
  rw [e2]; exact this
theorem reads_atom (title : Str) (l : List ItemD) : Reads (atomL title l) (tokN (atomN title l)) := by
  have h1 := Reads.openA (n := nFeed) (m := nXmlns) (v := vAtom) (ok_of (by decide)) (ok_of (by decide))
  have := h1.app ((Reads.elem (n := nTitle) (s := title) (ok_of (by decide))).app ((Reads.flat Reads.entry l).app (Reads.close (n := nFeed) (ok_of (by decide)))))
  rw [esc_plain.2] at this
  have e1 : 60 :: (nFeed ++ 32 :: (nXmlns ++ 61 :: 34 :: (vAtom ++ 34 :: [62]))) ++ (elemW nTitle title ++ (l.flatMap entryW ++ 60 :: 47 :: (nFeed ++ [62]))) = atomL title l := by unfold atomL; simp
  rw [e1, tokK_flat] at this
  have e2 : tokN (atomN title l) = [⟨1, nFeed, [(nXmlns, vAtom)], []⟩] ++ (tokN (leafN nTitle title) ++ (tokK (l.map entryN) ++ [⟨2, nFeed, [], []⟩])) := by
    unfold atomN
    simp [tokN, tokK, wordsT]
  rw [e2]; exact this
end Go.Proofs.YtpinjgdnhbogoaaDoor

/- What is read of documents that were written (no program). -/
namespace Go.Proofs.YtpinjgdnhbogoaaDoor

def shortI (x : ItemD) : ItemD := ⟨shortL x.id, shortL x.title, shortL x.link⟩
theorem short_nil : shortL [] = [] := by decide
theorem right_parts {x : ItemD} (h : rightD x = true) : x.id ≠ [] ∧ fitB x.id = true ∧ fitB x.title = true ∧ fitB x.link = true := by
  unfold rightD at h
  simp only [Bool.and_eq_true, Bool.not_eq_true', List.isEmpty_eq_false_iff] at h
  exact ⟨h.1, h.2.1, h.2.2.1, h.2.2.2⟩
theorem short_right {x : ItemD} (h : rightD x = true) : shortI x = x := by
  obtain ⟨_, h1, h2, h3⟩ := right_parts h
  unfold shortI
  rw [fit_short h1, fit_short h2, fit_short h3]
theorem atomI_entry (x : ItemD) : atomI (entryN x) = shortI x := by
  have e1 : textL (entryN x) nId = shortL x.id := by
    unfold textL allL entryN; rfl
  have e2 : textL (entryN x) nTitle = shortL x.title := by
    unfold textL allL entryN; rfl
  have e3 : hrefL (entryN x) = shortL x.link := by
    unfold hrefL allL entryN; rfl
  unfold atomI shortI
  rw [e1, e2, e3]
theorem rssI_item (x : ItemD) : rssI (itemN x) = ⟨if (shortL x.id).isEmpty then shortL x.link else shortL x.id, shortL x.title, shortL x.link⟩ := by
  have e1 : textL (itemN x) nGuid = shortL x.id := by
    unfold textL allL itemN; rfl
  have e2 : textL (itemN x) nTitle = shortL x.title := by
    unfold textL allL itemN; rfl
  have e3 : textL (itemN x) nLink = shortL x.link := by
    unfold textL allL itemN; rfl
  unfold rssI
  rw [e1, e2, e3]
theorem rssI_right {x : ItemD} (h : rightD x = true) : rssI (itemN x) = x := by
  obtain ⟨h0, h1, h2, h3⟩ := right_parts h
  rw [rssI_item, fit_short h1, fit_short h2, fit_short h3, if_neg (by simpa using h0)]
theorem filter_name {α : Type} (f : α → NodeD) (nm : Str) (h : ∀ x, (f x).name = nm) : ∀ l : List α, (l.map f).filter (fun k => k.name == nm) = l.map f
  | [] => rfl
  | x :: l => by
    rw [List.map_cons, List.filter_cons, if_pos (by rw [h x]; simp), filter_name f nm h l]
theorem items_rss {title : Str} {l : List ItemD} (h : ∀ x ∈ l, rightD x = true) : itemsL (rssN title l) = some (l.foldl withL []) := by
  have e1 : allL (rssN title l) nChannel = [.mk nChannel [] [] (leafN nTitle title :: l.map itemN)] := by
    unfold allL rssN; rfl
  have e2 : allL (.mk nChannel [] [] (leafN nTitle title :: l.map itemN)) nItem = l.map itemN := by
    show (leafN nTitle title :: l.map itemN).filter _ = _
    rw [List.filter_cons, show ((leafN nTitle title).name == nItem) = false from show (nTitle == nItem) = false by decide, if_neg (by simp), filter_name itemN nItem (fun _ => rfl)]
  unfold itemsL
  rw [if_pos (show (rssN title l).name = nRss from rfl), e1]
  dsimp only
  rw [e2, List.map_map]
  have e3 : l.map (rssI ∘ itemN) = l := by
    conv => rhs; rw [← List.map_id l]
    exact List.map_congr_left fun x hx => rssI_right (h x hx)
  rw [e3]
theorem items_atom (title : Str) (l : List ItemD) : itemsL (atomN title l) = some ((l.map shortI).foldl withL []) := by
  have e2 : allL (atomN title l) nEntry = l.map entryN := by
    show (leafN nTitle title :: l.map entryN).filter _ = _
    rw [List.filter_cons, show ((leafN nTitle title).name == nEntry) = false from show (nTitle == nEntry) = false by decide, if_neg (by simp), filter_name entryN nEntry (fun _ => rfl)]
  unfold itemsL
  rw [if_neg (show ¬ (atomN title l).name = nRss from by show ¬ nFeed = nRss; decide), if_pos (show (atomN title l).name = nFeed from rfl)]
  rw [e2, List.map_map]
  have e3 : l.map (atomI ∘ entryN) = l.map shortI := List.map_congr_left fun x _ => atomI_entry x
  rw [e3]
theorem map_short {l : List ItemD} (h : ∀ x ∈ l, rightD x = true) : l.map shortI = l := by
  conv => rhs; rw [← List.map_id l]
  exact List.map_congr_left fun x hx => short_right (h x hx)
theorem with_new {l : List ItemD} {x : ItemD} (h1 : x.id ≠ []) (h2 : l.length < 100) (h3 : hasI l x.id = false) : withL l x = l ++ [x] := by
  unfold withL
  rw [if_neg]
  rw [h3]
  simp
  exact ⟨h1, h2⟩
theorem fold_all : ∀ (m acc : List ItemD), RightL (acc ++ m) → m.foldl withL acc = acc ++ m
  | [], _, _ => by simp
  | x :: m, acc, h => by
    have h1 : rightD x = true := h.1 x (by simp)
    have h2 : acc.length < 100 := by have := h.2.2; simp at this; omega
    have h3 : hasI acc x.id = false := by
      have := h.2.1
      rw [List.map_append, List.nodup_append] at this
      unfold hasI
      rw [List.any_eq_false]
      intro y hy e
      exact this.2.2 y.id (List.mem_map_of_mem hy) x.id (by simp) (by simpa using e)
    rw [List.foldl_cons, with_new (right_parts h1).1 h2 h3, fold_all m (acc ++ [x]) (by rw [List.append_assoc]; exact h), List.append_assoc]; rfl
theorem fold_self {l : List ItemD} (h : RightL l) : l.foldl withL [] = l := by
  have := fold_all l [] (by simpa using h)
  simpa using this

/-! ### depths -/
theorem deep_map {α : Type} {f : α → NodeD} {d : Nat} (h : ∀ x, deepN (f x) ≤ d) : ∀ l : List α, deepK (l.map f) ≤ d
  | [] => by simp [deepK]
  | x :: l => by
    rw [List.map_cons, deepK]
    have h1 := h x
    have h2 := deep_map h l
    omega
theorem deep_leaf (n s : Str) : deepN (leafN n s) = 1 := by unfold leafN; simp [deepN, deepK]
theorem deep_rss (title : Str) (l : List ItemD) : deepN (rssN title l) ≤ 20 := by
  have h : deepK (l.map itemN) ≤ 2 := deep_map (fun x => by unfold itemN; simp [deepN, deepK, deep_leaf]) l
  unfold rssN
  simp only [deepN, deepK, deep_leaf]
  omega
theorem deep_atom (title : Str) (l : List ItemD) : deepN (atomN title l) ≤ 20 := by
  have h : deepK (l.map entryN) ≤ 2 := deep_map (fun x => by unfold entryN; simp [deepN, deepK, deep_leaf]) l
  unfold atomN
  simp only [deepN, deepK, deep_leaf]
  omega

/-! ### extracted -/
theorem readD_fine {s : Str} {l : List TokD} (hs : s.length ≤ 20000) (h : readL s = .ok l) : readD s = (l, 0, 0) := by
  unfold readD; rw [if_neg (by omega), h]
theorem readD_long {s : Str} (hs : 20000 < s.length) : readD s = ([], 10, 0) := by
  unfold readD; rw [if_pos hs]
theorem extract_long {s : Str} (hs : 20000 < s.length) : extractL s = ([], 10) := by
  unfold extractL parseL
  rw [readD_long hs]
  rfl
theorem extract_of {s : Str} {l : List TokD} {n : NodeD} {m : List ItemD} (hs : s.length ≤ 20000) (h : readL s = .ok l) (hb : buildL l = .ok n) (hi : itemsL n = some m) : extractL s = (m, 0) := by
  unfold extractL parseL
  rw [readD_fine hs h]
  dsimp only
  rw [if_pos rfl, hb]
  dsimp only
  rw [hi]
theorem extract_rss {title : Str} {l : List ItemD} (hs : (rssL title l).length ≤ 20000) (h : ∀ x ∈ l, rightD x = true) : extractL (rssL title l) = (l.foldl withL [], 0) :=
  extract_of hs (reads_rss title l).read (by rw [build_tok, if_pos (deep_rss title l)]) (items_rss h)
theorem extract_atom {title : Str} {l : List ItemD} (hs : (atomL title l).length ≤ 20000) : extractL (atomL title l) = ((l.map shortI).foldl withL [], 0) :=
  extract_of hs (reads_atom title l).read (by rw [build_tok, if_pos (deep_atom title l)]) (items_atom title l)

/-! ### FeedBack -/
def wantL (l : List ItemD) : List ItemD := (l.filter rightD).foldl withL []
theorem want_right (l : List ItemD) : RightL (wantL l) :=
  fold_right _ _ right_nil fun _x hx => (right_parts (List.mem_filter.1 hx).2).2
theorem want_take (l : List ItemD) (i : Nat) (h : i < l.length) : wantL (l.take (i + 1)) = if rightD l[i] = true then withL (wantL (l.take i)) l[i] else wantL (l.take i) := by
  unfold wantL
  rw [List.take_succ_eq_append_getElem h, List.filter_append, List.foldl_append]
  by_cases hr : rightD l[i] = true
  · rw [if_pos hr, List.filter_cons, if_pos hr]; rfl
  · rw [if_neg hr, List.filter_cons, if_neg hr]; rfl
theorem with_full {l : List ItemD} (x : ItemD) (h : 100 ≤ l.length) : withL l x = l := by
  unfold withL
  rw [if_pos (by simp [h])]
theorem fold_full : ∀ (m l : List ItemD), 100 ≤ l.length → m.foldl withL l = l
  | [], _, _ => rfl
  | x :: m, l, h => by rw [List.foldl_cons, with_full x h, fold_full m l h]
theorem want_full (l : List ItemD) (i : Nat) (h : 100 ≤ (wantL (l.take i)).length) : wantL l = wantL (l.take i) := by
  conv => lhs; rw [← List.take_append_drop i l]
  unfold wantL at h ⊢
  rw [List.filter_append, List.foldl_append, fold_full _ _ h]
theorem back_rss (title l) (hs : (rssL title (wantL l)).length ≤ 20000) : extractL (rssL title (wantL l)) = (wantL l, 0) := by
  rw [extract_rss hs (want_right l).1, fold_self (want_right l)]
theorem back_atom (title l) (hs : (atomL title (wantL l)).length ≤ 20000) : extractL (atomL title (wantL l)) = (wantL l, 0) := by
  rw [extract_atom hs, map_short (want_right l).1, fold_self (want_right l)]

/-! ### FeedAlike -/
theorem first_flush {k : Nat} {l toks : List TokD} {w t left : Str} (h : partL (60 :: t) = some ([], toks, left)) (ht : toks ≠ []) : readG k l w (60 :: t) = readG k (flushL l w) [] (60 :: t) := by
  rw [readG_part h, readG_part h, if_neg (by simpa using ht), if_neg (by simpa using ht), List.append_nil, List.append_nil, flush_nil]
theorem part_rss (title : Str) (l : List ItemD) (r : Str) : ∃ t toks left, rssL title l ++ r = 60 :: t ∧ partL (60 :: t) = some ([], toks, left) ∧ toks ≠ [] := by
  have ha : AttrsOK [(nVersion, vTwo)] := ⟨fun a h => by rw [List.mem_singleton.1 h]; exact ok_of (by decide), by simp⟩
  have h := part_open (n := nRss) (ok_of (by decide)) ha (60 :: (nChannel ++ 62 :: (elemW nTitle title ++ (l.flatMap itemW ++ 60 :: 47 :: (nChannel ++ 62 :: 60 :: 47 :: (nRss ++ [62]))))) ++ r)
  refine ⟨_, _, _, ?_, h, by simp⟩
  unfold rssL
  simp [attrW, esc_plain.1]
theorem build_last (m : Nat) (n : NodeD) {b : Str} (hb : b.all blankC = true) : buildF (m + 2) (some n) [⟨3, [], [], b⟩] = .ok n := by
  rw [buildF, if_pos ⟨rfl, hb⟩]; rfl
theorem build_blanks (n : NodeD) {a b : Str} (ha : a.all blankC = true) (hb : b.all blankC = true) (hd : deepN n ≤ 20) : buildL (⟨3, [], [], a⟩ :: (tokN n ++ [⟨3, [], [], b⟩])) = .ok n := by
  rw [tokN_eq]
  unfold buildL
  rw [buildF, if_pos ⟨rfl, ha⟩]
  show buildF _ none (⟨1, n.name, n.attrs, []⟩ :: ((wordsT n.text ++ (tokK n.kids ++ [⟨2, n.name, [], []⟩])) ++ [⟨3, [], [], b⟩])) = _
  have e : (wordsT n.text ++ (tokK n.kids ++ [⟨2, n.name, [], []⟩])) ++ [⟨3, [], [], b⟩] = wordsT n.text ++ (tokK n.kids ++ (⟨2, n.name, [], []⟩ :: [⟨3, [], [], b⟩])) := by simp
  rw [e]
  simp only [List.length_cons]
  rw [buildF, if_neg (by simp), if_pos ⟨rfl, rfl⟩, elem_node n 0 _ (by omega)]
  dsimp only
  obtain ⟨m, hm⟩ : ∃ m, ((⟨1, n.name, n.attrs, []⟩ : TokD) :: (wordsT n.text ++ (tokK n.kids ++ [(⟨2, n.name, [], []⟩ : TokD)])) ++ [(⟨3, [], [], b⟩ : TokD)]).length = m + 2 :=
    ⟨(wordsT n.text).length + (tokK n.kids).length + 1, by simp; omega⟩
  rw [hm]
  exact build_last m n hb
def bigR (title : Str) (l : List ItemD) : Str := 10 :: (rssL title l ++ [32])
theorem read_bigR (title : Str) (l : List ItemD) : readL (bigR title l) = .ok (⟨3, [], [], [10]⟩ :: (tokN (rssN title l) ++ [⟨3, [], [], [32]⟩])) := by
  obtain ⟨t, toks, left, h1, h2, h3⟩ := part_rss title l [32]
  show readG 0 [] [] ([10] ++ (rssL title l ++ [32])) = _
  rw [readG_text (by simp) (by decide) (.inr ⟨t, h1⟩)]
  rw [show saidL [10] = .ok [10] from by rw [saidL_cons _ (by decide), saidL_nil]]
  dsimp only
  rw [h1, first_flush h2 h3, ← h1, reads_rss title l]
  have := readG_text (k := 0 + [(10 : UInt8)].length + (rssL title l).length) (l := flushL [] ([] ++ [10]) ++ tokN (rssN title l)) (w := []) (seg := [32]) (rest := []) (by simp) (by decide) (.inl rfl)
  rw [List.append_nil] at this
  rw [this, show saidL [32] = .ok [32] from by rw [saidL_cons _ (by decide), saidL_nil]]
  rfl
theorem extract_bigR {title : Str} {l : List ItemD} (hs : (bigR title l).length ≤ 20000) (h : ∀ x ∈ l, rightD x = true) : extractL (bigR title l) = (l.foldl withL [], 0) :=
  extract_of hs (read_bigR title l) (build_blanks _ (by decide) (by decide) (deep_rss title l)) (items_rss h)
/-- xml version="1.0" -/
def vHead : Str := [120, 109, 108, 32, 118, 101, 114, 115, 105, 111, 110, 61, 34, 49, 46, 48, 34]
def bigAtom (title : Str) (l : List ItemD) : Str := 60 :: 63 :: (vHead ++ 63 :: 62 :: atomL title l)
theorem read_bigA (title : Str) (l : List ItemD) : readL (bigAtom title l) = .ok (tokN (atomN title l)) := by
  have hp := part_instr (c := vHead) (atomL title l) (by decide)
  show readG 0 [] [] (60 :: 63 :: (vHead ++ 63 :: 62 :: atomL title l)) = _
  rw [readG_part hp, if_pos (show ([] : List TokD).isEmpty = true from rfl), List.append_nil]
  have := reads_atom title l (0 + ((60 :: 63 :: (vHead ++ 63 :: 62 :: atomL title l)).length - (atomL title l).length)) [] []
  rw [List.append_nil] at this
  rw [this]; rfl
theorem extract_bigA {title : Str} {l : List ItemD} (hs : (bigAtom title l).length ≤ 20000) (h : ∀ x ∈ l, rightD x = true) : extractL (bigAtom title l) = (l.foldl withL [], 0) := by
  have := extract_of hs (read_bigA title l) (by rw [build_tok, if_pos (deep_atom title l)]) (items_atom title l)
  rw [map_short h] at this; exact this

/-! ### FeedDoubles -/
def nOther : Str := [111, 116, 104, 101, 114]
def twiceL (l : List ItemD) : List ItemD := l.flatMap fun x => [x, ⟨x.id, nOther, []⟩, ⟨[], x.title, []⟩]
theorem with_has {l : List ItemD} {x : ItemD} (h : hasI l x.id = true) : withL l x = l := by
  unfold withL; rw [if_pos (by simp [h])]
theorem with_same (l : List ItemD) (x y : ItemD) (h : x.id ≠ []) (he : y.id = x.id) : withL (withL l x) y = withL l x := by
  by_cases h1 : 100 ≤ l.length
  · rw [with_full x h1, with_full y h1]
  by_cases h2 : hasI l x.id = true
  · rw [with_has h2]; exact with_has (by rw [he]; exact h2)
  · have h2' : hasI l x.id = false := by simpa using h2
    rw [with_new h (by omega) h2']
    refine with_has ?_
    unfold hasI
    rw [List.any_append, he]
    simp
theorem with_none (l : List ItemD) {y : ItemD} (h : y.id = []) : withL l y = l := by
  unfold withL; rw [if_pos (by simp [h])]
theorem fold_twice : ∀ (l acc : List ItemD), (∀ x ∈ l, rightD x = true) → ((twiceL l).map shortI).foldl withL acc = l.foldl withL acc
  | [], _, _ => rfl
  | x :: l, acc, h => by
    have hr := h x (List.mem_cons_self ..)
    obtain ⟨h0, h1, h2, h3⟩ := right_parts hr
    have e : (twiceL (x :: l)).map shortI = shortI x :: shortI ⟨x.id, nOther, []⟩ :: shortI ⟨[], x.title, []⟩ :: (twiceL l).map shortI := rfl
    rw [e, List.foldl_cons, List.foldl_cons, List.foldl_cons, short_right hr, with_same acc x _ h0 (by show shortL x.id = _; exact fit_short h1), with_none _ (show (shortI ⟨[], x.title, []⟩).id = [] from short_nil), List.foldl_cons]
    exact fold_twice l _ fun y hy => h y (List.mem_cons_of_mem _ hy)
theorem extract_twice {title : Str} {l : List ItemD} (hs : (atomL title (twiceL l)).length ≤ 20000) (h : ∀ x ∈ l, rightD x = true) : extractL (atomL title (twiceL l)) = (l.foldl withL [], 0) := by
  rw [extract_atom hs, fold_twice l [] h]
end Go.Proofs.YtpinjgdnhbogoaaDoor

/- A document that is cut short, or that words stand behind, is refused (no program). -/
namespace Go.Proofs.YtpinjgdnhbogoaaDoor

/-! ### a part has its end -/
theorem cut_has {p s a b : Str} {x : UInt8} (hx : x ∈ p) (h : cutL p s = some (a, b)) : x ∈ s := by
  rw [cutL_some h]; simp [hx]
theorem mem_drop {x : UInt8} {k : Nat} {s : Str} (h : x ∈ s.drop k) : x ∈ s := List.mem_of_mem_drop h
theorem mem_trim {x : UInt8} {s : Str} (h : x ∈ trimL s) : x ∈ s := (List.dropWhile_suffix blankC).subset h
theorem mem_strip {p s r : Str} {x : UInt8} (h : stripL p s = some r) (hx : x ∈ r) : x ∈ s := by
  rw [stripL_some h]; simp [hx]
theorem attrL_left {s a v left : Str} {x : UInt8} (h : attrL s = some (a, v, left)) (hx : x ∈ left) : x ∈ s := by
  unfold attrL at h
  split at h
  · cases h
  split at h
  · rename_i s2 h2
    split at h
    · rename_i q s4 h4
      split at h
      · split at h
        · cases h
        · rename_i value rest h5
          split at h
          · cases h
          · split at h
            · cases h
            · simp only [Option.some.injEq, Prod.mk.injEq] at h
              obtain ⟨_, _, rfl⟩ := h
              have h6 : x ∈ s4 := by rw [cutL_some h5]; simp [hx]
              have h7 : x ∈ s2 := mem_trim (by rw [h4]; exact List.mem_cons_of_mem _ h6)
              exact mem_drop (mem_trim (by rw [h2]; exact List.mem_cons_of_mem _ h7))
      · cases h
    · cases h
  · cases h
theorem attrsF_end : ∀ (n : Nat) (l : List (Str × Str)) (s : Str) {y : List (Str × Str) × Bool × Str}, attrsF n l s = some y → (62 : UInt8) ∈ s
  | 0, _, _, _, h => by cases h
  | n + 1, l, s, y, h => by
    unfold attrsF at h
    dsimp only at h
    split at h
    · rename_i hp
      exact mem_trim ((List.isPrefixOf_iff_prefix.1 hp).subset (by simp))
    split at h
    · rename_i hp
      exact mem_trim ((List.isPrefixOf_iff_prefix.1 hp).subset (by simp))
    split at h
    · cases h
    split at h
    · cases h
    · rename_i a v left ha
      split at h
      · cases h
      · exact mem_trim (attrL_left ha (attrsF_end n _ _ h))
theorem tagL_end {s : Str} {y : List TokD × Str} (h : tagL s = some y) : (62 : UInt8) ∈ s := by
  unfold tagL at h
  split at h
  · cases h
  split at h
  · cases h
  all_goals
    rename_i ha
    exact mem_drop (attrsF_end _ _ _ ha)
theorem closeL_end {s : Str} {y : List TokD × Str} (h : closeL s = some y) : (62 : UInt8) ∈ s := by
  unfold closeL at h
  split at h
  · cases h
  split at h
  · rename_i h1
    exact mem_drop (mem_trim (by rw [h1]; simp))
  · cases h
theorem map_some {α β : Type} {o : Option α} {f : α → β} {y : β} (h : o.map f = some y) : ∃ x, o = some x := by
  cases o with
  | none => cases h
  | some x => exact ⟨x, rfl⟩
theorem partL_end {s : Str} {y : Str × List TokD × Str} (h : partL s = some y) : (62 : UInt8) ∈ s := by
  unfold partL at h
  split at h
  · rename_i r hr
    obtain ⟨q, hq⟩ := map_some h
    exact mem_strip hr (cut_has (by simp) (show cutL _ r = some (q.1, q.2) from hq))
  split at h
  · rename_i r hr
    obtain ⟨q, hq⟩ := map_some h
    exact mem_strip hr (cut_has (by simp) (show cutL _ r = some (q.1, q.2) from hq))
  split at h
  · rename_i r hr
    obtain ⟨q, hq⟩ := map_some h
    exact mem_strip hr (cut_has (by simp) (show cutL _ r = some (q.1, q.2) from hq))
  split at h
  · rename_i r hr
    split at h
    · cases h
    · rename_i hc
      exact mem_strip hr (cut_has (by simp) hc)
  split at h
  · rename_i r hr
    obtain ⟨q, hq⟩ := map_some h
    exact mem_strip hr (closeL_end hq)
  · obtain ⟨q, hq⟩ := map_some h
    exact mem_drop (tagL_end hq)

/-! ### what is read of a beginning -/
/-- each beginning of p that is read gives a beginning of p's tokens, and words; p whole alone gives all -/
def Cuts (p : Str) (a : List TokD) : Prop := ∀ (j : Nat), j < p.length → ∀ (k : Nat) (l : List TokD) (m : List TokD), readG k l [] (p.take j) = .ok m → ∃ (i : Nat) (w : Str), i < a.length ∧ m = flushL (l ++ a.take i) w
theorem Cuts.app {p q : Str} {a b : List TokD} (hp : Cuts p a) (hr : Reads p a) (hq : Cuts q b) : Cuts (p ++ q) (a ++ b) := by
  intro j hj k l m h
  by_cases h1 : j < p.length
  · rw [List.take_append_of_le_length (by omega)] at h
    obtain ⟨i, w, h2, h3⟩ := hp j h1 k l m h
    exact ⟨i, w, by simp; omega, by rw [List.take_append_of_le_length (by omega)]; exact h3⟩
  · rw [List.take_append, List.take_of_length_le (by omega), hr] at h
    obtain ⟨i, w, h2, h3⟩ := hq (j - p.length) (by simp at hj; omega) _ _ _ h
    refine ⟨a.length + i, w, by simp; omega, ?_⟩
    rw [List.take_append, List.take_of_length_le (l := a) (by omega), show a.length + i - a.length = i by omega, ← List.append_assoc]
    exact h3
/-- a tag: it ends in its only mark -/
theorem Cuts.tag {p : Str} {a : List TokD} (h : (62 : UInt8) ∉ p) (ha : 0 < a.length) : Cuts (60 :: (p ++ [62])) a := by
  intro j hj k l m hm
  cases j with
  | zero =>
    refine ⟨0, [], ha, ?_⟩
    rw [List.take_zero, readG_nil] at hm
    rw [List.take_zero, List.append_nil]
    exact (Except.ok.inj hm).symm
  | succ j =>
    exfalso
    rw [List.take_succ_cons] at hm
    have hj' : j ≤ p.length := by simp at hj; omega
    rw [List.take_append_of_le_length hj'] at hm
    have hn : partL (60 :: p.take j) = none := by
      cases hc : partL (60 :: p.take j) with
      | none => rfl
      | some y =>
        have := partL_end hc
        rcases List.mem_cons.1 this with e | e
        · exact absurd e (by decide)
        · exact absurd (List.mem_of_mem_take e) h
    rw [readG_bad hn] at hm
    cases hm
theorem Cuts.textClose {n s : Str} (h : (62 : UInt8) ∉ n) : Cuts (escL s ++ 60 :: 47 :: (n ++ [62])) (wordsT s ++ [⟨2, n, [], []⟩]) := by
  by_cases hs : s = []
  · subst hs
    exact Cuts.tag (p := 47 :: n) (by simp [h]) (by simp)
  have hw : wordsT s = [⟨3, [], [], s⟩] := by unfold wordsT; rw [if_neg (by simpa using hs)]
  intro j hj k l m hm
  by_cases h1 : j ≤ (escL s).length
  · rw [List.take_append_of_le_length h1] at hm
    refine ⟨0, ?_⟩
    have hno : (60 : UInt8) ∉ (escL s).take j := fun e => esc_mem (.inl rfl) s (List.mem_of_mem_take e)
    by_cases h0 : (escL s).take j = []
    · rw [h0, readG_nil] at hm
      exact ⟨[], by rw [hw]; simp, by rw [List.take_zero, List.append_nil]; exact (Except.ok.inj hm).symm⟩
    · have := readG_text (k := k) (l := l) (w := []) (rest := []) h0 hno (.inl rfl)
      rw [List.append_nil] at this
      rw [this] at hm
      cases hc : saidL ((escL s).take j) with
      | error e => rw [hc] at hm; cases hm
      | ok u =>
        rw [hc] at hm
        dsimp only at hm
        rw [readG_nil, List.nil_append] at hm
        exact ⟨u, by rw [hw]; simp, by rw [List.take_zero, List.append_nil]; exact (Except.ok.inj hm).symm⟩
  · exfalso
    have hj' : j - (escL s).length - 1 ≤ (47 :: n).length := by simp at hj ⊢; omega
    have e : (escL s ++ 60 :: 47 :: (n ++ [62])).take j = escL s ++ 60 :: (47 :: n).take (j - (escL s).length - 1) := by
      rw [List.take_append, List.take_of_length_le (by omega)]
      obtain ⟨i, hi⟩ : ∃ i, j - (escL s).length = i + 1 := ⟨j - (escL s).length - 1, by omega⟩
      rw [hi, List.take_succ_cons, Nat.add_sub_cancel]
      congr 2
      show ((47 :: n) ++ [62]).take i = _
      rw [List.take_append_of_le_length (by omega)]
    rw [e, readG_text (esc_ne hs) (esc_mem (.inl rfl) s) (.inr ⟨_, rfl⟩), saidL_esc] at hm
    dsimp only at hm
    have hn2 : partL (60 :: (47 :: n).take (j - (escL s).length - 1)) = none := by
      cases hc : partL (60 :: (47 :: n).take (j - (escL s).length - 1)) with
      | none => rfl
      | some y =>
        have := partL_end hc
        rcases List.mem_cons.1 this with e | e
        · exact absurd e (by decide)
        · have := List.mem_of_mem_take e
          simp [h] at this
    rw [readG_bad hn2] at hm
    cases hm
theorem Cuts.nil : Cuts [] [] := fun j hj => by simp at hj
theorem Cuts.elem {n s : Str} (hn : NameOK n) (h : (62 : UInt8) ∉ n) : Cuts (elemW n s) (tokN (.mk n [] s [])) := by
  have := (Cuts.tag (p := n) (a := [⟨1, n, [], []⟩]) h (by simp)).app (Reads.open hn) (Cuts.textClose (s := s) h)
  have e1 : 60 :: (n ++ [62]) ++ (escL s ++ 60 :: 47 :: (n ++ [62])) = elemW n s := by unfold elemW; simp
  rw [e1] at this
  exact this
theorem Cuts.flat {α : Type} {f : α → Str} {g : α → List TokD} (h : ∀ x, Cuts (f x) (g x)) (hr : ∀ x, Reads (f x) (g x)) : ∀ l : List α, Cuts (l.flatMap f) (l.flatMap g)
  | [] => Cuts.nil
  | x :: l => (h x).app (hr x) (Cuts.flat h hr l)
theorem Cuts.entry (x : ItemD) : Cuts (entryW x) (tokN (entryN x)) := by
  have hself : Cuts (60 :: (nLink ++ 32 :: (nHref ++ 61 :: 34 :: (escL x.link ++ 34 :: 47 :: [62])))) [⟨1, nLink, [(nHref, x.link)], []⟩, ⟨2, nLink, [], []⟩] := by
    have := Cuts.tag (p := nLink ++ 32 :: (nHref ++ 61 :: 34 :: (escL x.link ++ 34 :: 47 :: []))) (a := [⟨1, nLink, [(nHref, x.link)], []⟩, ⟨2, nLink, [], []⟩]) (by
      have := esc_mem (x := 62) (.inr (.inl rfl)) x.link
      simp [nLink, nHref, this]) (by simp)
    simpa using this
  have := (Cuts.tag (p := nEntry) (a := [⟨1, nEntry, [], []⟩]) (by decide) (by simp)).app (Reads.open (n := nEntry) (ok_of (by decide))) ((Cuts.elem (n := nId) (s := x.id) (ok_of (by decide)) (by decide)).app (Reads.elem (ok_of (by decide))) ((Cuts.elem (n := nTitle) (s := x.title) (ok_of (by decide)) (by decide)).app (Reads.elem (ok_of (by decide))) (hself.app (Reads.self (n := nLink) (m := nHref) (v := x.link) (ok_of (by decide)) (ok_of (by decide))) (Cuts.tag (p := 47 :: nEntry) (a := [⟨2, nEntry, [], []⟩]) (by decide) (by simp)))))
  have e1 : 60 :: (nEntry ++ [62]) ++ (elemW nId x.id ++ (elemW nTitle x.title ++ (60 :: (nLink ++ 32 :: (nHref ++ 61 :: 34 :: (escL x.link ++ 34 :: 47 :: [62]))) ++ 60 :: (47 :: nEntry ++ [62])))) = entryW x := by unfold entryW; simp
  rw [e1] at this
  have e2 : tokN (entryN x) = [⟨1, nEntry, [], []⟩] ++ (tokN (leafN nId x.id) ++ (tokN (leafN nTitle x.title) ++ ([⟨1, nLink, [(nHref, x.link)], []⟩, ⟨2, nLink, [], []⟩] ++ [⟨2, nEntry, [], []⟩]))) := by
    unfold entryN
    simp [tokN, tokK, wordsT]
  rw [e2]; exact this
theorem cuts_atom (title : Str) (l : List ItemD) : Cuts (atomL title l) (tokN (atomN title l)) := by
  have hopen : Cuts (60 :: (nFeed ++ 32 :: (nXmlns ++ 61 :: 34 :: (vAtom ++ 34 :: [62])))) [⟨1, nFeed, [(nXmlns, vAtom)], []⟩] := by
    have := Cuts.tag (p := nFeed ++ 32 :: (nXmlns ++ 61 :: 34 :: (vAtom ++ 34 :: []))) (a := [⟨1, nFeed, [(nXmlns, vAtom)], []⟩]) (by decide) (by simp)
    simpa using this
  have hr := Reads.openA (n := nFeed) (m := nXmlns) (v := vAtom) (ok_of (by decide)) (ok_of (by decide))
  rw [esc_plain.2] at hr
  have := hopen.app hr ((Cuts.elem (n := nTitle) (s := title) (ok_of (by decide)) (by decide)).app (Reads.elem (ok_of (by decide))) ((Cuts.flat Cuts.entry Reads.entry l).app (Reads.flat Reads.entry l) (Cuts.tag (p := 47 :: nFeed) (a := [⟨2, nFeed, [], []⟩]) (by decide) (by simp))))
  have e1 : 60 :: (nFeed ++ 32 :: (nXmlns ++ 61 :: 34 :: (vAtom ++ 34 :: [62]))) ++ (elemW nTitle title ++ (l.flatMap entryW ++ 60 :: (47 :: nFeed ++ [62]))) = atomL title l := by unfold atomL; simp
  rw [e1, tokK_flat] at this
  have e2 : tokN (atomN title l) = [⟨1, nFeed, [(nXmlns, vAtom)], []⟩] ++ (tokN (leafN nTitle title) ++ (tokK (l.map entryN) ++ [⟨2, nFeed, [], []⟩])) := by
    unfold atomN
    simp [tokN, tokK, wordsT]
  rw [e2]; exact this

/-! ### what is built is closed -/
def opens : List TokD → Int
  | [] => 0
  | t :: l => (if t.kind = 1 then 1 else if t.kind = 2 then -1 else 0) + opens l
theorem opens_app : ∀ a b : List TokD, opens (a ++ b) = opens a + opens b
  | [], b => by simp [opens]
  | t :: a, b => by rw [List.cons_append, opens, opens, opens_app a b]; omega
theorem opens_flush (l : List TokD) (w : Str) : opens (flushL l w) = opens l := by
  unfold flushL
  split
  · rfl
  · rw [opens_app]; simp [opens]
theorem elemF_opens : ∀ (n d : Nat) (nm : Str) (as : List (Str × Str)) (tx : Str) (ks : List NodeD) (l : List TokD) {k : NodeD} {r : List TokD}, elemF n d nm as tx ks l = .ok (k, r) → opens l = opens r - 1
  | 0, _, _, _, _, _, _, _, _, h => by cases h
  | _ + 1, _, _, _, _, _, [], _, _, h => by cases h
  | n + 1, d, nm, as, tx, ks, t :: l, k, r, h => by
    unfold elemF at h
    split at h
    · rename_i h3
      have := elemF_opens n _ _ _ _ _ _ h
      rw [opens, if_neg (by omega), if_neg (by omega)]; omega
    split at h
    · rename_i h1
      split at h
      · cases h
      · cases he : elemF n (d + 1) t.name t.attrs [] [] l with
        | error e => rw [he] at h; cases h
        | ok p =>
          obtain ⟨k', r'⟩ := p
          rw [he] at h
          have h1' := elemF_opens n _ _ _ _ _ _ he
          have h2 := elemF_opens n _ _ _ _ _ _ h
          rw [opens, if_pos h1]; omega
    split at h
    · rename_i h2
      simp only [Except.ok.injEq, Prod.mk.injEq] at h
      rw [opens, if_neg (by omega), if_pos h2.1, h.2]; omega
    · cases h
theorem buildF_opens : ∀ (k : Nat) (o : Option NodeD) (l : List TokD) {n : NodeD}, buildF k o l = .ok n → opens l = 0
  | 0, _, _, _, h => by cases h
  | _ + 1, none, [], _, h => by cases h
  | _ + 1, some _, [], _, _ => rfl
  | k + 1, o, t :: l, n, h => by
    rw [buildF] at h
    split at h
    · rename_i h3
      have := buildF_opens k _ _ h
      rw [opens, if_neg (by omega), if_neg (by omega)]; omega
    split at h
    · rename_i h1
      split at h
      · cases h
      · rename_i h2
        have h3 := elemF_opens _ _ _ _ _ _ _ h2
        have h4 := buildF_opens k _ _ h
        rw [opens, if_pos h1.1]; omega
    · cases h
/-- a row of tags that is never closed more than it was opened -/
def Bal (l : List TokD) : Prop := opens l = 0 ∧ ∀ i, 0 ≤ opens (l.take i)
theorem Bal.nil : Bal [] := ⟨rfl, fun i => by simp [opens]⟩
theorem Bal.app {a b : List TokD} (ha : Bal a) (hb : Bal b) : Bal (a ++ b) := by
  refine ⟨by rw [opens_app, ha.1, hb.1]; rfl, fun i => ?_⟩
  rw [List.take_append, opens_app]
  have h1 := ha.2 i
  have h2 := hb.2 (i - a.length)
  omega
theorem Bal.words (s : Str) : Bal (wordsT s) := by
  unfold wordsT
  split
  · exact Bal.nil
  · refine ⟨by simp [opens], fun i => ?_⟩
    cases i with
    | zero => simp [opens]
    | succ i => simp [opens]
theorem wrap_take {l : List TokD} (nm : Str) (as : List (Str × Str)) (i : Nat) (hi : i ≤ l.length) : opens ((⟨1, nm, as, []⟩ :: (l ++ [⟨2, nm, [], []⟩]) : List TokD).take (i + 1)) = 1 + opens (l.take i) := by
  rw [List.take_succ_cons, List.take_append_of_le_length hi, opens, if_pos rfl]
mutual
theorem bal_node : ∀ n : NodeD, Bal (tokN n)
  | .mk nm as tx ks => by
    have h := (Bal.words tx).app (bal_kids ks)
    have e : tokN (.mk nm as tx ks) = ⟨1, nm, as, []⟩ :: ((wordsT tx ++ tokK ks) ++ [⟨2, nm, [], []⟩]) := by rw [tokN, List.append_assoc]
    rw [e]
    have h0 : opens (⟨1, nm, as, []⟩ :: ((wordsT tx ++ tokK ks) ++ [⟨2, nm, [], []⟩])) = 0 := by
      rw [opens, opens_app, h.1]; simp [opens]
    refine ⟨h0, fun i => ?_⟩
    cases i with
    | zero => simp [opens]
    | succ i =>
      by_cases hi : i ≤ (wordsT tx ++ tokK ks).length
      · rw [wrap_take nm as i hi]
        have := h.2 i
        omega
      · rw [List.take_of_length_le (by simp at hi ⊢; omega), h0]; omega
theorem bal_kids : ∀ ks : List NodeD, Bal (tokK ks)
  | [] => by rw [tokK]; exact Bal.nil
  | k :: ks => by rw [tokK]; exact (bal_node k).app (bal_kids ks)
end
/-- a beginning of a tree's tokens, not empty and not all of them, is open -/
theorem node_open : ∀ (n : NodeD) (i : Nat), i + 1 < (tokN n).length → 0 < opens ((tokN n).take (i + 1))
  | .mk nm as tx ks, i, hi => by
    have h := (Bal.words tx).app (bal_kids ks)
    have e : tokN (.mk nm as tx ks) = ⟨1, nm, as, []⟩ :: ((wordsT tx ++ tokK ks) ++ [⟨2, nm, [], []⟩]) := by rw [tokN, List.append_assoc]
    rw [e] at hi ⊢
    rw [wrap_take nm as i (by simp at hi ⊢; omega)]
    have := h.2 i
    omega
theorem build_words (w : Str) : ∀ n, buildL (flushL [] w) ≠ .ok n := by
  intro n h
  unfold flushL at h
  split at h
  · cases h
  · unfold buildL at h
    rw [List.nil_append, List.length_singleton, buildF] at h
    split at h
    · cases h
    · rw [if_neg (by simp)] at h; cases h
theorem parse_long {s : Str} (h : 20000 < s.length) : parseL s = .error 10 := by
  unfold parseL; rw [readD_long h]; rfl
theorem parse_bad {s : Str} (h : ¬ 20000 < s.length) {k : Nat} (hr : readL s = .error k) : parseL s = .error 8 := by
  unfold parseL readD; rw [if_neg h, hr]; rfl
theorem parse_ok {s : Str} (h : ¬ 20000 < s.length) {l : List TokD} (hr : readL s = .ok l) : parseL s = buildL l := by
  unfold parseL readD; rw [if_neg h, hr]; rfl
theorem elemF_err : ∀ (n d : Nat) (nm : Str) (as : List (Str × Str)) (tx : Str) (ks : List NodeD) (l : List TokD) {e : Int}, elemF n d nm as tx ks l = .error e → e = 8 ∨ e = 19
  | 0, _, _, _, _, _, _, _, h => by cases h; exact .inl rfl
  | _ + 1, _, _, _, _, _, [], _, h => by cases h; exact .inl rfl
  | n + 1, d, nm, as, tx, ks, t :: l, e, h => by
    unfold elemF at h
    split at h
    · exact elemF_err n _ _ _ _ _ _ h
    split at h
    · split at h
      · cases h; exact .inr rfl
      · cases he : elemF n (d + 1) t.name t.attrs [] [] l with
        | error e' => rw [he] at h; cases h; exact elemF_err n _ _ _ _ _ _ he
        | ok p =>
          obtain ⟨k', r'⟩ := p
          rw [he] at h
          exact elemF_err n _ _ _ _ _ _ h
    split at h
    · cases h
    · cases h; exact .inl rfl
theorem buildF_err : ∀ (k : Nat) (o : Option NodeD) (l : List TokD) {e : Int}, buildF k o l = .error e → e = 8 ∨ e = 19
  | 0, _, _, _, h => by cases h; exact .inl rfl
  | _ + 1, none, [], _, h => by cases h; exact .inl rfl
  | _ + 1, some _, [], _, h => by cases h
  | k + 1, o, t :: l, e, h => by
    rw [buildF] at h
    split at h
    · exact buildF_err k _ _ h
    split at h
    · split at h
      · rename_i h2
        cases h
        exact elemF_err _ _ _ _ _ _ _ h2
      · exact buildF_err k _ _ h
    · cases h; exact .inl rfl
theorem parse_err {s : Str} {e : Int} (h : parseL s = .error e) : e = 8 ∨ e = 10 ∨ e = 19 := by
  by_cases hs : 20000 < s.length
  · rw [parse_long hs] at h; cases h; simp
  cases hr : readL s with
  | error k => rw [parse_bad hs hr] at h; cases h; simp
  | ok l =>
    rw [parse_ok hs hr] at h
    rcases buildF_err _ _ _ h with rfl | rfl <;> simp
theorem extract_bad {s : Str} (h : ∀ n, parseL s ≠ .ok n) : (extractL s).2 ≠ 0 := by
  unfold extractL
  cases hc : parseL s with
  | ok n => exact absurd hc (h n)
  | error e =>
    dsimp only
    rcases parse_err hc with rfl | rfl | rfl <;> decide
/-- FeedCuts, the one half: cut short -/
theorem cut_refused (title : Str) (l : List ItemD) (j : Nat) (hj : j < (atomL title l).length) : (extractL ((atomL title l).take j)).2 ≠ 0 := by
  refine extract_bad fun n h => ?_
  by_cases hs : 20000 < ((atomL title l).take j).length
  · rw [parse_long hs] at h; cases h
  cases hr : readL ((atomL title l).take j) with
  | error k => rw [parse_bad hs hr] at h; cases h
  | ok m =>
    rw [parse_ok hs hr] at h
    obtain ⟨i, w, hi, rfl⟩ := cuts_atom title l j hj 0 [] m hr
    rw [List.nil_append] at h
    cases i with
    | zero => rw [List.take_zero] at h; exact build_words w n h
    | succ i =>
      have h1 := buildF_opens _ _ _ h
      rw [opens_flush] at h1
      have h2 := node_open (atomN title l) i hi
      omega
theorem build_then (n : NodeD) (w : Str) (hw : w.all blankC = false) (m : NodeD) : buildL (tokN n ++ [⟨3, [], [], w⟩]) ≠ .ok m := by
  intro h
  by_cases hd : deepN n ≤ 20
  · rw [tokN_eq] at h
    have e : (⟨1, n.name, n.attrs, []⟩ :: (wordsT n.text ++ (tokK n.kids ++ [⟨2, n.name, [], []⟩])) : List TokD) ++ [⟨3, [], [], w⟩] = ⟨1, n.name, n.attrs, []⟩ :: (wordsT n.text ++ (tokK n.kids ++ (⟨2, n.name, [], []⟩ :: [⟨3, [], [], w⟩]))) := by simp
    rw [e] at h
    unfold buildL at h
    obtain ⟨k, hk⟩ : ∃ k, ((⟨1, n.name, n.attrs, []⟩ : TokD) :: (wordsT n.text ++ (tokK n.kids ++ ((⟨2, n.name, [], []⟩ : TokD) :: [(⟨3, [], [], w⟩ : TokD)])))).length + 1 = k + 3 :=
      ⟨(wordsT n.text).length + (tokK n.kids).length + 1, by simp; omega⟩
    rw [hk, buildF, if_neg (by simp), if_pos ⟨rfl, rfl⟩, elem_node n 0 _ (by omega)] at h
    dsimp only at h
    rw [buildF, if_neg (by rw [hw]; simp), if_neg (by simp)] at h
    cases h
  · rw [tokN_eq] at h
    have e : (⟨1, n.name, n.attrs, []⟩ :: (wordsT n.text ++ (tokK n.kids ++ [⟨2, n.name, [], []⟩])) : List TokD) ++ [⟨3, [], [], w⟩] = ⟨1, n.name, n.attrs, []⟩ :: (wordsT n.text ++ (tokK n.kids ++ (⟨2, n.name, [], []⟩ :: [⟨3, [], [], w⟩]))) := by simp
    rw [e] at h
    unfold buildL at h
    rw [buildF, if_neg (by simp), if_pos ⟨rfl, rfl⟩, elem_deep n 0 _ (by omega) (by omega)] at h
    cases h
/-- FeedCuts, the other half: words behind -/
theorem then_refused (title : Str) (l : List ItemD) : (extractL (atomL title l ++ [120])).2 ≠ 0 := by
  refine extract_bad fun n h => ?_
  have hr : readL (atomL title l ++ [120]) = .ok (tokN (atomN title l) ++ [⟨3, [], [], [120]⟩]) := by
    show readG 0 [] [] _ = _
    rw [reads_atom title l]
    have := readG_text (k := 0 + (atomL title l).length) (l := [] ++ tokN (atomN title l)) (w := []) (seg := [120]) (rest := []) (by simp) (by decide) (.inl rfl)
    rw [List.append_nil] at this
    rw [this, show saidL [120] = .ok [120] from by rw [saidL_cons _ (by decide), saidL_nil]]
    rfl
  by_cases hs : 20000 < (atomL title l ++ [120]).length
  · rw [parse_long hs] at h; cases h
  rw [parse_ok hs hr] at h
  exact build_then _ _ (by decide) n h
theorem refused_none {s : Str} (h : (extractL s).2 ≠ 0) : (extractL s).1 = [] := (extract_right s).2 h
end Go.Proofs.YtpinjgdnhbogoaaDoor

/- The reference's way to build a tree: the open elements stand in a list (no program). -/
namespace Go.Proofs.YtpinjgdnhbogoaaDoor

def NodeD.addKid : NodeD → NodeD → NodeD | .mk n a t k, x => .mk n a t (k ++ [x])
def NodeD.addText : NodeD → Str → NodeD | .mk n a t k, s => .mk n a (t ++ s) k
/-- open elements, the innermost first -/
def refB : List NodeD → Option NodeD → List TokD → Except Int NodeD
  | [], none, [] => .error 8
  | [], some n, [] => .ok n
  | _ :: _, _, [] => .error 8
  | st, dn, t :: r =>
    if t.kind = 1 then
      if 20 ≤ st.length then .error 19
      else if st.isEmpty && dn.isSome then .error 8
      else refB (.mk t.name t.attrs [] [] :: st) dn r
    else if t.kind = 2 then match st with
      | [] => .error 8
      | x :: s => if x.name = t.name then match s with
          | [] => refB [] (some x) r
          | y :: s' => refB (y.addKid x :: s') dn r
        else .error 8
    else if t.kind = 3 then match st with
      | [] => if t.text.all blankC = true then refB [] dn r else .error 8
      | x :: s => refB (x.addText t.text :: s) dn r
    else .error 8
def popB (k : NodeD) (st : List NodeD) (dn : Option NodeD) (r : List TokD) : Except Int NodeD := match st with | [] => refB [] (some k) r | y :: s => refB (y.addKid k :: s) dn r
def andB (x : Except Int (NodeD × List TokD)) (f : NodeD → List TokD → Except Int NodeD) : Except Int NodeD := match x with | .error e => .error e | .ok (k, r) => f k r
theorem refB_open {t : TokD} (h : t.kind = 1) (st : List NodeD) (dn : Option NodeD) (r : List TokD) : refB st dn (t :: r) = if 20 ≤ st.length then .error 19 else if st.isEmpty && dn.isSome then .error 8 else refB (.mk t.name t.attrs [] [] :: st) dn r := by
  cases st <;> cases dn <;> (conv => lhs; unfold refB) <;> rw [if_pos h]
theorem refB_close0 {t : TokD} (h : t.kind = 2) (dn : Option NodeD) (r : List TokD) : refB [] dn (t :: r) = .error 8 := by
  have h1 : ¬ t.kind = 1 := by omega
  cases dn <;> (conv => lhs; unfold refB) <;> rw [if_neg h1, if_pos h]
theorem refB_close1 {t : TokD} (h : t.kind = 2) (x : NodeD) (s : List NodeD) (dn : Option NodeD) (r : List TokD) : refB (x :: s) dn (t :: r) = if x.name = t.name then popB x s dn r else .error 8 := by
  have h1 : ¬ t.kind = 1 := by omega
  cases s <;> cases dn <;> (conv => lhs; unfold refB) <;> rw [if_neg h1, if_pos h] <;> rfl
theorem refB_words0 {t : TokD} (h : t.kind = 3) (dn : Option NodeD) (r : List TokD) : refB [] dn (t :: r) = if t.text.all blankC = true then refB [] dn r else .error 8 := by
  have h1 : ¬ t.kind = 1 := by omega
  have h2 : ¬ t.kind = 2 := by omega
  cases dn <;> (conv => lhs; unfold refB) <;> rw [if_neg h1, if_neg h2, if_pos h]
theorem refB_words1 {t : TokD} (h : t.kind = 3) (x : NodeD) (s : List NodeD) (dn : Option NodeD) (r : List TokD) : refB (x :: s) dn (t :: r) = refB (x.addText t.text :: s) dn r := by
  have h1 : ¬ t.kind = 1 := by omega
  have h2 : ¬ t.kind = 2 := by omega
  cases dn <;> (conv => lhs; unfold refB) <;> rw [if_neg h1, if_neg h2, if_pos h]
theorem refB_else {t : TokD} (h1 : ¬ t.kind = 1) (h2 : ¬ t.kind = 2) (h3 : ¬ t.kind = 3) (st : List NodeD) (dn : Option NodeD) (r : List TokD) : refB st dn (t :: r) = .error 8 := by
  cases st <;> cases dn <;> (conv => lhs; unfold refB) <;> rw [if_neg h1, if_neg h2, if_neg h3]
theorem refB_elem : ∀ (m : Nat) (l : List TokD) (st : List NodeD) (dn : Option NodeD) (nm : Str) (as : List (Str × Str)) (tx : Str) (ks : List NodeD), l.length < m → st.length < 20 →
    refB (.mk nm as tx ks :: st) dn l = andB (elemL st.length nm as tx ks l) fun k r => popB k st dn r
  | 0, _, _, _, _, _, _, _, h, _ => by omega
  | m + 1, [], st, dn, nm, as, tx, ks, _, _ => by rw [elemL_nil]; rfl
  | m + 1, t :: r, st, dn, nm, as, tx, ks, hm, hs => by
    have hr : r.length < m := by simp at hm; omega
    rw [elemL_cons]
    by_cases h3 : t.kind = 3
    · rw [refB_words1 h3, if_pos h3]
      exact refB_elem m r st dn nm as (tx ++ t.text) ks hr hs
    rw [if_neg h3]
    by_cases h1 : t.kind = 1
    · rw [refB_open h1, if_pos h1]
      by_cases hd : st.length + 1 = 20
      · rw [if_pos (by simp; omega), if_pos hd]; rfl
      · rw [if_neg (by simp; omega), if_neg (by simp), if_neg hd]
        have h := refB_elem m r (.mk nm as tx ks :: st) dn t.name t.attrs [] [] hr (by simp; omega)
        rw [h]
        show andB (elemL (st.length + 1) t.name t.attrs [] [] r) _ = _
        cases he : elemL (st.length + 1) t.name t.attrs [] [] r with
        | error e => rfl
        | ok p =>
          obtain ⟨k, r'⟩ := p
          have hl := elemF_len _ _ _ _ _ _ _ he
          exact refB_elem m r' st dn nm as tx (ks ++ [k]) (by omega) hs
    rw [if_neg h1]
    by_cases h2 : t.kind = 2
    · rw [refB_close1 h2]
      by_cases hn : t.name = nm
      · rw [if_pos (c := t.kind = 2 ∧ t.name = nm) ⟨h2, hn⟩]
        exact if_pos (c := nm = t.name) hn.symm
      · rw [if_neg (fun h : t.kind = 2 ∧ t.name = nm => hn h.2)]
        exact if_neg (fun h : nm = t.name => hn h.symm)
    · rw [refB_else h1 h2 h3, if_neg (fun h => h2 h.1)]; rfl
theorem refB_build : ∀ (m : Nat) (l : List TokD) (dn : Option NodeD) (k : Nat), l.length < m → l.length < k → refB [] dn l = buildF k dn l
  | 0, _, _, _, h, _ => by omega
  | _, _, _, 0, _, h => by omega
  | m + 1, [], none, k + 1, _, _ => rfl
  | m + 1, [], some n, k + 1, _, _ => rfl
  | m + 1, t :: r, dn, k + 1, hm, hk => by
    have hr : r.length < m := by simp at hm; omega
    have hrk : r.length < k := by simp at hk; omega
    have e : buildF (k + 1) dn (t :: r) = if t.kind = 3 ∧ t.text.all blankC = true then buildF k dn r
        else if t.kind = 1 ∧ dn.isNone = true then match elemL 0 t.name t.attrs [] [] r with
          | .error e => .error e
          | .ok (n, r') => buildF k (some n) r'
        else .error 8 := by cases dn <;> (conv => lhs; unfold buildF) <;> rfl
    rw [e]
    by_cases h3 : t.kind = 3
    · rw [refB_words0 h3]
      by_cases hb : t.text.all blankC = true
      · rw [if_pos hb, if_pos ⟨h3, hb⟩]
        exact refB_build m r dn k hr hrk
      · rw [if_neg hb, if_neg (fun h => hb h.2), if_neg (fun h => by omega)]
    rw [if_neg (fun h : t.kind = 3 ∧ _ => h3 h.1)]
    by_cases h1 : t.kind = 1
    · rw [refB_open h1, if_neg (by simp)]
      cases dn with
      | some n => rw [if_pos (by rfl), if_neg (fun h => by cases h.2)]
      | none =>
        rw [if_neg (by simp), if_pos ⟨h1, rfl⟩, refB_elem m r [] none t.name t.attrs [] [] hr (by simp)]
        show andB (elemL 0 t.name t.attrs [] [] r) _ = _
        cases he : elemL 0 t.name t.attrs [] [] r with
        | error e => rfl
        | ok p =>
          obtain ⟨x, r'⟩ := p
          have hl := elemF_len _ _ _ _ _ _ _ he
          exact refB_build m r' (some x) k (by omega) (by omega)
    rw [if_neg (fun h : t.kind = 1 ∧ _ => h1 h.1)]
    by_cases h2 : t.kind = 2
    · exact refB_close0 h2 _ _
    · exact refB_else h1 h2 h3 _ _ _
/-- TreeBuilds -/
theorem refB_eq (l : List TokD) : refB [] none l = buildL l := refB_build _ l none _ (Nat.lt_succ_self _) (Nat.lt_succ_self _)
end Go.Proofs.YtpinjgdnhbogoaaDoor

/- The reference's helpers of layer 11 in the same plain words (no program). -/
namespace Go.Proofs.YtpinjgdnhbogoaaDoor

/-- where p stands in s from i on; -1: nowhere -/
def findZ (p s : Str) (i : Nat) : Int := match cutL p (s.drop i) with | none => -1 | some q => ((i + q.1.length : Nat) : Int)
theorem cut_short : ∀ {p s : Str}, s.length < p.length → cutL p s = none
  | [], _, h => by simp at h
  | y :: p, [], h => by simp [cutL]
  | y :: p, x :: t, h => by
    unfold cutL
    rw [if_neg (fun hp => by have := (List.isPrefixOf_iff_prefix.1 hp).length_le; omega), cut_short (p := y :: p) (s := t) (by simp at h ⊢; omega)]; rfl
theorem drop_cons {s : Str} {i : Nat} (hi : i < s.length) : s.drop i = s[i] :: s.drop (i + 1) := List.drop_eq_getElem_cons hi
theorem find_hit {p s : Str} {i : Nat} (hi : i < s.length) (h : p.isPrefixOf (s.drop i) = true) : findZ p s i = (i : Int) := by
  unfold findZ
  rw [drop_cons hi] at h ⊢
  unfold cutL
  rw [if_pos h]; rfl
theorem find_miss {p s : Str} {i : Nat} (hi : i < s.length) (h : ¬ p.isPrefixOf (s.drop i) = true) : findZ p s i = findZ p s (i + 1) := by
  unfold findZ
  rw [drop_cons hi] at h ⊢
  conv => lhs; unfold cutL
  rw [if_neg h]
  cases cutL p (s.drop (i + 1)) with
  | none => rfl
  | some q => simp only [Option.map_some, List.length_cons]; rw [show i + (q.1.length + 1) = i + 1 + q.1.length by omega]
theorem find_end {p s : Str} {i : Nat} (h0 : 0 < p.length) (h : s.length < i + p.length) : findZ p s i = -1 := by
  unfold findZ
  rw [cut_short (by rw [List.length_drop]; omega)]
theorem find_none {p s : Str} {i : Nat} (h : findZ p s i < 0) : cutL p (s.drop i) = none := by
  unfold findZ at h
  cases hc : cutL p (s.drop i) with
  | none => rfl
  | some q => rw [hc] at h; simp only at h; omega
theorem find_some {p s : Str} {i : Nat} (h : ¬ findZ p s i < 0) : ∃ a b, cutL p (s.drop i) = some (a, b) ∧ findZ p s i = ((i + a.length : Nat) : Int) ∧ s.drop i = a ++ (p ++ b) := by
  unfold findZ at h ⊢
  cases hc : cutL p (s.drop i) with
  | none => rw [hc] at h; simp at h
  | some q => exact ⟨q.1, q.2, rfl, rfl, cutL_some hc⟩

/-! ### digits -/
def sixV (c : UInt8) : Int := if digV c < 16 then digV c else -1
def numQ (base most : Nat) (ds : Str) : Bool := ds.all (fun c => decide (digV c < base)) && decide (ds.length ≤ most)
theorem numL_num (base most : Nat) (ds : Str) : numL base most ds = if !ds.isEmpty && numQ base most ds && runeOK (numV base ds) then some (utf8L (numV base ds)) else none := by
  unfold numL numQ
  cases ds.isEmpty <;> simp [Bool.and_assoc]

/-! ### a reference -/
def refNames : List (Str × Str) := [([97, 109, 112, 59], [38]), ([108, 116, 59], [60]), ([103, 116, 59], [62]), ([113, 117, 111, 116, 59], [34]), ([97, 112, 111, 115, 59], [39])]
theorem ref_named {p c s : Str} (h : (p, c) ∈ refNames) (hp : p.isPrefixOf s = true) : refL s = some (c, s.drop p.length) := by
  obtain ⟨r, rfl⟩ := List.isPrefixOf_iff_prefix.1 hp
  rw [List.drop_left]
  simp only [refNames, List.mem_cons, Prod.mk.injEq, List.not_mem_nil, or_false] at h
  rcases h with ⟨rfl, rfl⟩ | ⟨rfl, rfl⟩ | ⟨rfl, rfl⟩ | ⟨rfl, rfl⟩ | ⟨rfl, rfl⟩
  · exact ref_amp r
  · exact ref_lt r
  · exact ref_gt r
  · exact ref_quot r
  · exact ref_apos r
def numRef (b : Str) : Option Str := match b with | 35 :: 120 :: ds => numL 16 6 ds | 35 :: ds => numL 10 7 ds | _ => none
theorem numRef_16 (ds : Str) : numRef (35 :: 120 :: ds) = numL 16 6 ds := rfl
theorem numRef_10 {ds : Str} (hx : ∀ t, ds ≠ 120 :: t) : numRef (35 :: ds) = numL 10 7 ds := by
  cases ds with
  | nil => rfl
  | cons c t =>
    have h : c ≠ 120 := fun e => hx t (by rw [e])
    unfold numRef
    split
    · rename_i he; injection he with _ he; injection he with he _; exact absurd he h
    · rename_i he; injection he with _ he; rw [he]
    · rename_i he; exact absurd rfl (he _)
theorem numRef_no {b : Str} (hb : ∀ t, b ≠ 35 :: t) : numRef b = none := by
  unfold numRef
  split
  · exact absurd rfl (hb _)
  · exact absurd rfl (hb _)
  · rfl
/-- none of the five: a number, or nothing -/
theorem ref_other {s : Str} (h : ∀ q ∈ refNames, ¬ q.1.isPrefixOf s = true) : refL s = match cutL [59] s with
    | none => none
    | some (b, rest) => (numRef b).map fun t => (t, rest) := by
  unfold refL
  cases hc : cutL [59] s with
  | none => rfl
  | some q =>
    obtain ⟨b, rest⟩ := q
    have hs := cutL_some hc
    have key : ∀ p c, (p ++ [59], c) ∈ refNames → b ≠ p := by
      rintro p c hm rfl
      refine h _ hm (List.isPrefixOf_iff_prefix.2 ⟨rest, ?_⟩)
      rw [hs, List.append_assoc]
    dsimp only
    unfold bodyL
    rw [if_neg (key [97, 109, 112] [38] (by simp [refNames])), if_neg (key [108, 116] [60] (by simp [refNames])), if_neg (key [103, 116] [62] (by simp [refNames])), if_neg (key [113, 117, 111, 116] [34] (by simp [refNames])), if_neg (key [97, 112, 111, 115] [39] (by simp [refNames]))]
    rfl
end Go.Proofs.YtpinjgdnhbogoaaDoor

/- Building a tree, token by token (no program). -/
namespace Go.Proofs.YtpinjgdnhbogoaaDoor

theorem buildF_fuel : ∀ (n m : Nat) (o : Option NodeD) (l : List TokD), l.length < n → l.length < m → buildF n o l = buildF m o l
  | 0, _, _, _, h, _ => by omega
  | _, 0, _, _, _, h => by omega
  | n + 1, m + 1, o, [], _, _ => by cases o <;> rfl
  | n + 1, m + 1, o, t :: r, h1, h2 => by
    have e : ∀ k, buildF (k + 1) o (t :: r) = if t.kind = 3 ∧ t.text.all blankC = true then buildF k o r
        else if t.kind = 1 ∧ o.isNone = true then match elemL 0 t.name t.attrs [] [] r with
          | .error e => .error e
          | .ok (n, r') => buildF k (some n) r'
        else .error 8 := fun k => by cases o <;> (conv => lhs; unfold buildF) <;> rfl
    have hr1 : r.length < n := by simp at h1; omega
    have hr2 : r.length < m := by simp at h2; omega
    rw [e, e, buildF_fuel n m o r hr1 hr2]
    cases he : elemL 0 t.name t.attrs [] [] r with
    | error x => rfl
    | ok p =>
      obtain ⟨k, r'⟩ := p
      have hl := elemF_len _ _ _ _ _ _ _ he
      dsimp only
      rw [buildF_fuel n m (some k) r' (by omega) (by omega)]
def buildG (o : Option NodeD) (l : List TokD) : Except Int NodeD := buildF (l.length + 1) o l
theorem buildG_nil (o : Option NodeD) : buildG o [] = match o with | none => .error 8 | some n => .ok n := by cases o <;> rfl
theorem buildG_cons (o : Option NodeD) (t : TokD) (r : List TokD) : buildG o (t :: r) = if t.kind = 3 ∧ t.text.all blankC = true then buildG o r
        else if t.kind = 1 ∧ o.isNone = true then match elemL 0 t.name t.attrs [] [] r with
          | .error e => .error e
          | .ok (n, r') => buildG (some n) r'
        else .error 8 := by
  have e : buildF ((t :: r).length + 1) o (t :: r) = if t.kind = 3 ∧ t.text.all blankC = true then buildF (t :: r).length o r
        else if t.kind = 1 ∧ o.isNone = true then match elemL 0 t.name t.attrs [] [] r with
          | .error e => .error e
          | .ok (n, r') => buildF (t :: r).length (some n) r'
        else .error 8 := by cases o <;> (conv => lhs; unfold buildF) <;> rfl
  show buildF ((t :: r).length + 1) o (t :: r) = _
  rw [e]
  unfold buildG
  rw [buildF_fuel (t :: r).length (r.length + 1) o r (by simp) (by simp)]
  cases he : elemL 0 t.name t.attrs [] [] r with
  | error x => rfl
  | ok p =>
    obtain ⟨k, r'⟩ := p
    have hl := elemF_len _ _ _ _ _ _ _ he
    dsimp only
    rw [buildF_fuel (t :: r).length (r'.length + 1) (some k) r' (by simp; omega) (by simp)]
theorem buildG_start (l : List TokD) : buildG none l = buildL l := rfl
end Go.Proofs.YtpinjgdnhbogoaaDoor

/- The kids of all names together are the kids, each once (no program). -/
namespace Go.Proofs.YtpinjgdnhbogoaaDoor

/-- how many kids have a name of one of the first k -/
def seenN (ks : List NodeD) (k : Nat) : Nat := ks.countP fun x => (ks.take k).any fun y => y.name == x.name
theorem seen_zero (ks : List NodeD) : seenN ks 0 = 0 := by unfold seenN; simp
theorem seen_all (ks : List NodeD) : seenN ks ks.length = ks.length := by
  unfold seenN
  rw [List.take_length, List.countP_eq_length]
  intro x hx
  exact List.any_eq_true.2 ⟨x, hx, by simp⟩
theorem take_any {ks : List NodeD} {k : Nat} {y : NodeD} (hk : ks[k]? = some y) (x : NodeD) : ((ks.take (k + 1)).any fun z => z.name == x.name) = (((ks.take k).any fun z => z.name == x.name) || (y.name == x.name)) := by
  rw [List.take_add_one, hk, List.any_append]; simp
theorem seen_old {ks : List NodeD} {k : Nat} {y : NodeD} (hk : ks[k]? = some y) (h : ((ks.take k).any fun z => z.name == y.name) = true) : seenN ks (k + 1) = seenN ks k := by
  unfold seenN
  congr 1
  funext x
  rw [take_any hk]
  by_cases hx : y.name = x.name
  · rw [← hx, h]; simp
  · simp [hx]
theorem countP_or {α : Type} (p q : α → Bool) : ∀ l : List α, (∀ x ∈ l, ¬ (p x = true ∧ q x = true)) → l.countP (fun x => p x || q x) = l.countP p + l.countP q
  | [], _ => rfl
  | a :: l, h => by
    have ih := countP_or p q l fun x hx => h x (List.mem_cons_of_mem _ hx)
    have ha := h a List.mem_cons_self
    rw [List.countP_cons, List.countP_cons, List.countP_cons, ih]
    cases hp : p a <;> cases hq : q a
    · simp
    · simp; omega
    · simp; omega
    · exact absurd ⟨hp, hq⟩ ha
theorem seen_new {ks : List NodeD} {k : Nat} {y : NodeD} (hk : ks[k]? = some y) (h : ((ks.take k).any fun z => z.name == y.name) = false) : seenN ks (k + 1) = seenN ks k + (ks.filter fun x => x.name == y.name).length := by
  unfold seenN
  rw [show (fun x : NodeD => (ks.take (k + 1)).any fun z => z.name == x.name) = fun x => ((ks.take k).any fun z => z.name == x.name) || (y.name == x.name) from funext fun x => take_any hk x]
  rw [countP_or, ← List.countP_eq_length_filter]
  · congr 1
    refine List.countP_congr fun x _ => ?_
    rw [beq_iff_eq, beq_iff_eq]
    exact ⟨fun h => h.symm, fun h => h.symm⟩
  · rintro x _ ⟨h1, h2⟩
    have e : y.name = x.name := by simpa using h2
    rw [e, h1] at h
    cases h
theorem all_first {ks : List NodeD} {k : Nat} {y : NodeD} (hk : ks[k]? = some y) (h : ((ks.take k).any fun z => z.name == y.name) = false) : (ks.filter fun x => x.name == y.name)[0]? = some y := by
  have hlt : k < ks.length := by rcases Nat.lt_or_ge k ks.length with h1 | h1; exact h1; rw [List.getElem?_eq_none h1] at hk; cases hk
  have e : ks = ks.take k ++ y :: ks.drop (k + 1) := by
    have h2 : ks[k] = y := by rw [List.getElem?_eq_getElem hlt] at hk; exact Option.some.inj hk
    rw [← h2, ← List.drop_eq_getElem_cons hlt, List.take_append_drop]
  have h0 : (ks.take k).filter (fun x => x.name == y.name) = [] := by
    rw [List.filter_eq_nil_iff]
    intro x hx hx2
    have : (ks.take k).any (fun z => z.name == y.name) = true := List.any_eq_true.2 ⟨x, hx, hx2⟩
    rw [h] at this; cases this
  rw [e, List.filter_append, h0, List.filter_cons_of_pos (by simp)]
  rfl
theorem all_some {ks : List NodeD} {k : Nat} {y : NodeD} (hk : ks[k]? = some y) : 0 < (ks.filter fun x => x.name == y.name).length :=
  List.length_pos_of_mem (List.mem_filter.2 ⟨List.mem_of_getElem? hk, by simp⟩)
end Go.Proofs.YtpinjgdnhbogoaaDoor

/- The law's copy of a tree, up to some depth, so many elements, so many attributes (no program). -/
namespace Go.Proofs.YtpinjgdnhbogoaaDoor

mutual
def cpN : NodeD → Nat → Int → NodeD × Int
  | .mk nm la tx ks, deep, left => (.mk nm (la.take 30) tx (cpK ks deep (left - 1)).1, (cpK ks deep (left - 1)).2)
def cpK : List NodeD → Nat → Int → List NodeD × Int
  | [], _, left => ([], left)
  | k :: ks, deep, left => if 0 < deep ∧ 0 < left then ((cpN k (deep - 1) left).1 :: (cpK ks deep (cpN k (deep - 1) left).2).1, (cpK ks deep (cpN k (deep - 1) left).2).2) else ([], left)
end
mutual
/-- no element has more than so many attributes -/
def fewN : NodeD → Prop
  | .mk _ la _ ks => la.length ≤ 30 ∧ fewK ks
def fewK : List NodeD → Prop
  | [] => True
  | k :: ks => fewN k ∧ fewK ks
end
theorem cpN_eq (nm : Str) (la : List (Str × Str)) (tx : Str) (ks : List NodeD) (deep : Nat) (left : Int) : cpN (.mk nm la tx ks) deep left = (.mk nm (la.take 30) tx (cpK ks deep (left - 1)).1, (cpK ks deep (left - 1)).2) := by
  conv => lhs; unfold cpN
theorem cpK_cons (k : NodeD) (ks : List NodeD) (deep : Nat) (left : Int) : cpK (k :: ks) deep left = if 0 < deep ∧ 0 < left then ((cpN k (deep - 1) left).1 :: (cpK ks deep (cpN k (deep - 1) left).2).1, (cpK ks deep (cpN k (deep - 1) left).2).2) else ([], left) := by
  conv => lhs; unfold cpK
theorem cpK_nil (deep : Nat) (left : Int) : cpK [] deep left = ([], left) := by unfold cpK; rfl
theorem cpK_stop (ks : List NodeD) {deep : Nat} {left : Int} (h : ¬ (0 < deep ∧ 0 < left)) : cpK ks deep left = ([], left) := by
  cases ks with
  | nil => exact cpK_nil _ _
  | cons k ks => rw [cpK_cons, if_neg h]
mutual
theorem cpN_many : ∀ (n : NodeD) (deep : Nat) (left : Int), (cpN n deep left).1 = n → (cpN n deep left).2 = left - manyN n ∧ fewN n
  | .mk nm la tx ks, deep, left, h => by
    rw [cpN_eq] at h ⊢
    injection h with h1 h2 h3 h4
    have := cpK_many ks deep (left - 1) h4
    unfold manyN fewN
    refine ⟨?_, ?_, this.2⟩
    · rw [this.1]; simp; omega
    · have h5 := congrArg List.length h2; rw [List.length_take] at h5; omega
theorem cpK_many : ∀ (ks : List NodeD) (deep : Nat) (left : Int), (cpK ks deep left).1 = ks → (cpK ks deep left).2 = left - manyK ks ∧ fewK ks
  | [], deep, left, _ => by rw [cpK_nil]; unfold manyK fewK; simp
  | k :: ks, deep, left, h => by
    rw [cpK_cons] at h ⊢
    split at h
    · rename_i hc
      rw [if_pos hc]
      injection h with h1 h2
      have a := cpN_many k (deep - 1) left h1
      have b := cpK_many ks deep _ h2
      unfold manyK fewK
      refine ⟨?_, a.2, b.2⟩
      rw [b.1, a.1]; simp; omega
    · cases h
end
mutual
theorem cpN_deep : ∀ (n : NodeD) (deep : Nat) (left : Int), (cpN n deep left).1 = n → deepN n ≤ deep + 1
  | .mk nm la tx ks, deep, left, h => by
    rw [cpN_eq] at h
    injection h with h1 h2 h3 h4
    have := cpK_deep ks deep (left - 1) h4
    unfold deepN
    omega
theorem cpK_deep : ∀ (ks : List NodeD) (deep : Nat) (left : Int), (cpK ks deep left).1 = ks → deepK ks ≤ deep
  | [], deep, left, _ => by unfold deepK; omega
  | k :: ks, deep, left, h => by
    rw [cpK_cons] at h
    split at h
    · rename_i hc
      injection h with h1 h2
      have a := cpN_deep k (deep - 1) left h1
      have b := cpK_deep ks deep _ h2
      unfold deepK
      omega
    · cases h
end
theorem many_pos (n : NodeD) : 0 < manyN n := by cases n; unfold manyN; omega
end Go.Proofs.YtpinjgdnhbogoaaDoor

/- When two trees are the same; what Size and Tokens do step by step (no program). -/
namespace Go.Proofs.YtpinjgdnhbogoaaDoor

mutual
def sameN : NodeD → NodeD → Bool
  | .mk n a t k, .mk n2 a2 t2 k2 => decide (n = n2) && (decide (t = t2) && (decide (a = a2) && sameK k k2))
def sameK : List NodeD → List NodeD → Bool
  | [], [] => true
  | x :: l, y :: m => sameN x y && sameK l m
  | _ :: _, [] => false
  | [], _ :: _ => false
end
mutual
theorem sameN_iff : ∀ a b : NodeD, sameN a b = true ↔ a = b
  | .mk n a t k, .mk n2 a2 t2 k2 => by
    have ih := sameK_iff k k2
    unfold sameN
    simp only [Bool.and_eq_true, decide_eq_true_eq, ih, NodeD.mk.injEq]
    exact ⟨fun ⟨h1, h2, h3, h4⟩ => ⟨h1, h3, h2, h4⟩, fun ⟨h1, h2, h3, h4⟩ => ⟨h1, h3, h2, h4⟩⟩
theorem sameK_iff : ∀ a b : List NodeD, sameK a b = true ↔ a = b
  | [], [] => by unfold sameK; simp
  | x :: l, y :: m => by
    have h1 := sameN_iff x y
    have h2 := sameK_iff l m
    unfold sameK
    simp only [Bool.and_eq_true, h1, h2, List.cons.injEq]
  | _ :: _, [] => by unfold sameK; simp
  | [], _ :: _ => by unfold sameK; simp
end
theorem same_no {a b : NodeD} (h : a ≠ b) : sameN a b = false := by
  cases hc : sameN a b with
  | false => rfl
  | true => exact absurd ((sameN_iff a b).1 hc) h
theorem same_yes {a b : NodeD} (h : a = b) : sameN a b = true := (sameN_iff a b).2 h
theorem node_ext {a b : NodeD} (h1 : a.name = b.name) (h2 : a.attrs = b.attrs) (h3 : a.text = b.text) (h4 : a.kids = b.kids) : a = b := by
  cases a; cases b
  simp only [NodeD.name, NodeD.attrs, NodeD.text, NodeD.kids] at h1 h2 h3 h4
  subst h1 h2 h3 h4; rfl
mutual
/-- a measure: how many elements there are in one another -/
def weighN : NodeD → Nat
  | .mk _ _ _ k => weighK k + 1
def weighK : List NodeD → Nat
  | [] => 0
  | x :: l => weighN x + weighK l + 1
end
theorem weigh_kid : ∀ {l : List NodeD} {i : Nat} {x : NodeD}, l[i]? = some x → weighN x < weighK l
  | [], _, _, h => by simp at h
  | y :: l, 0, x, h => by simp at h; subst h; unfold weighK; omega
  | y :: l, i + 1, x, h => by have := weigh_kid (l := l) (i := i) (by simpa using h); unfold weighK; omega
theorem weigh_node (n : NodeD) : weighN n = weighK n.kids + 1 := by cases n; simp [weighN, NodeD.kids]
theorem weigh_in {n : NodeD} {i : Nat} {x : NodeD} (h : n.kids[i]? = some x) : weighN x < weighN n := by rw [weigh_node n]; have := weigh_kid h; omega

/-! ### Size -/
theorem many_node (n : NodeD) : manyN n = manyK n.kids + 1 := by cases n; simp [manyN, NodeD.kids]
theorem deep_node (n : NodeD) : deepN n = deepK n.kids + 1 := by cases n; simp [deepN, NodeD.kids]
theorem manyK_take : ∀ {l : List NodeD} {i : Nat} {x : NodeD}, l[i]? = some x → manyK (l.take (i + 1)) = manyK (l.take i) + manyN x
  | [], _, _, h => by simp at h
  | y :: l, 0, x, h => by simp at h; subst h; simp [manyK]
  | y :: l, i + 1, x, h => by
    have := manyK_take (l := l) (i := i) (by simpa using h)
    rw [List.take_succ_cons, List.take_succ_cons]
    unfold manyK; omega
theorem deepK_take : ∀ {l : List NodeD} {i : Nat} {x : NodeD}, l[i]? = some x → deepK (l.take (i + 1)) = max (deepK (l.take i)) (deepN x)
  | [], _, _, h => by simp at h
  | y :: l, 0, x, h => by simp at h; subst h; simp [deepK]
  | y :: l, i + 1, x, h => by
    have := deepK_take (l := l) (i := i) (by simpa using h)
    rw [List.take_succ_cons, List.take_succ_cons]
    unfold deepK; rw [this]; omega
theorem manyK_app : ∀ a b : List NodeD, manyK (a ++ b) = manyK a + manyK b
  | [], b => by unfold manyK; simp
  | x :: a, b => by
    have e : ∀ (y : NodeD) (l : List NodeD), manyK (y :: l) = manyN y + manyK l := fun y l => by conv => lhs; unfold manyK
    rw [List.cons_append, e, e, manyK_app a b]; omega
theorem many_le {l : List NodeD} (i : Nat) : manyK (l.take i) ≤ manyK l := by
  conv => rhs; rw [← List.take_append_drop i l, manyK_app]
  omega
theorem many_kid {l : List NodeD} {i : Nat} {x : NodeD} (h : l[i]? = some x) : manyK (l.take i) + manyN x ≤ manyK l := by
  rw [← manyK_take h]; exact many_le _
theorem manyK_len : ∀ l : List NodeD, l.length ≤ manyK l
  | [] => Nat.zero_le _
  | x :: l => by have := many_pos x; have := manyK_len l; unfold manyK; rw [List.length_cons]; omega
theorem deep_kid {l : List NodeD} {i : Nat} {x : NodeD} (h : l[i]? = some x) : deepN x ≤ deepK l := by
  induction l generalizing i with
  | nil => simp at h
  | cons y l ih =>
    unfold deepK
    cases i with
    | zero => simp at h; subst h; omega
    | succ i => have := ih (i := i) (by simpa using h); omega
mutual
theorem deep_many : ∀ n : NodeD, deepN n ≤ manyN n
  | .mk _ _ _ k => by have := deep_manyK k; unfold deepN manyN; omega
theorem deep_manyK : ∀ l : List NodeD, deepK l ≤ manyK l
  | [] => by unfold deepK manyK; omega
  | x :: l => by have := deep_many x; have := deep_manyK l; unfold deepK manyK; omega
end
/-- the deepest, when an element at a depth has been looked at -/
def deepTo (best d : Nat) (n : NodeD) : Nat := max best (d + deepN n - 1)
theorem deepTo_kids (best d : Nat) (l : List NodeD) (i : Nat) {x : NodeD} (h : l[i]? = some x) : deepTo (max (max best d) (d + deepK (l.take i))) (d + 1) x = max (max best d) (d + deepK (l.take (i + 1))) := by
  rw [deepK_take h]
  unfold deepTo
  have hp : 0 < deepN x := by cases x; unfold deepN; omega
  omega
theorem deepTo_all (best d : Nat) (n : NodeD) : max (max best d) (d + deepK n.kids) = deepTo best d n := by
  unfold deepTo; rw [deep_node]; omega

/-! ### Tokens -/
theorem tokK_take : ∀ {l : List NodeD} {i : Nat} {x : NodeD}, l[i]? = some x → tokK (l.take (i + 1)) = tokK (l.take i) ++ tokN x
  | [], _, _, h => by simp at h
  | y :: l, 0, x, h => by simp at h; subst h; simp [tokK]
  | y :: l, i + 1, x, h => by
    have := tokK_take (l := l) (i := i) (by simpa using h)
    rw [List.take_succ_cons, List.take_succ_cons]
    unfold tokK; rw [this, List.append_assoc]
theorem fewK_of : ∀ {l : List NodeD} {x : NodeD}, fewK l → x ∈ l → fewN x
  | [], _, _, h => by cases h
  | y :: l, x, hf, h => by
    unfold fewK at hf
    rcases List.mem_cons.1 h with rfl | h
    · exact hf.1
    · exact fewK_of hf.2 h
theorem few_node {n : NodeD} (h : fewN n) : n.attrs.length ≤ 30 ∧ fewK n.kids := by cases n; unfold fewN at h; exact h
theorem few_kid {n x : NodeD} {i : Nat} (h : fewN n) (hx : n.kids[i]? = some x) : fewN x := fewK_of (few_node h).2 (List.mem_of_getElem? hx)

/-! ### All -/
theorem all_take {l : List NodeD} {nm : Str} {i : Nat} {x : NodeD} (h : l[i]? = some x) : (l.take (i + 1)).filter (fun k => k.name == nm) = (l.take i).filter (fun k => k.name == nm) ++ if x.name = nm then [x] else [] := by
  rw [List.take_add_one, h, List.filter_append]
  congr 1
  by_cases hx : x.name = nm <;> simp [hx]
end Go.Proofs.YtpinjgdnhbogoaaDoor

/- The reference's said, attr, tag, part, Read in the same plain words (no program). -/
namespace Go.Proofs.YtpinjgdnhbogoaaDoor

theorem drop_getD {s : Str} {i : Nat} (hi : i < s.length) : s.drop i = s.getD i 0 :: s.drop (i + 1) := by
  rw [List.drop_eq_getElem_cons hi, List.getD_eq_getElem?_getD, List.getElem?_eq_getElem hi]; rfl

/-! ### said -/
/-- i bytes of s are read, and say u -/
def SaidAt (s : Str) (i : Nat) (u : Str) : Prop := i ≤ s.length ∧ saidL s = match saidL (s.drop i) with | .ok v => .ok (u ++ v) | .error k => .error (i + k)
theorem SaidAt.start (s : Str) : SaidAt s 0 [] := by
  refine ⟨Nat.zero_le _, ?_⟩
  rw [List.drop_zero]
  cases saidL s with
  | ok v => rfl
  | error k => simp
theorem SaidAt.plain {s : Str} {i : Nat} {u : Str} (h : SaidAt s i u) (hi : i < s.length) (hc : s.getD i 0 ≠ 38) : SaidAt s (i + 1) (u ++ [s.getD i 0]) := by
  refine ⟨hi, ?_⟩
  rw [h.2, drop_getD hi, saidL_cons _ hc]
  cases saidL (s.drop (i + 1)) with
  | ok v => simp
  | error k => simp; omega
theorem refL_left {m t left : Str} (h : refL m = some (t, left)) : left = m.drop (m.length - left.length) := by
  unfold refL at h
  cases hc : cutL [59] m with
  | none => rw [hc] at h; cases h
  | some q =>
    obtain ⟨b, rest⟩ := q
    rw [hc] at h
    dsimp only at h
    cases hb : bodyL b with
    | none => rw [hb] at h; cases h
    | some x =>
      rw [hb] at h
      simp only [Option.map_some, Option.some.injEq, Prod.mk.injEq] at h
      obtain ⟨_, rfl⟩ := h
      have e := cutL_some hc
      rw [← List.append_assoc] at e
      have hl : m.length - rest.length = (b ++ [59]).length := by rw [e]; simp; omega
      rw [hl, e, List.drop_left]
theorem SaidAt.ref {s : Str} {i : Nat} {u t left : Str} (h : SaidAt s i u) (hi : i < s.length) (hc : s.getD i 0 = 38) (hr : refL (s.drop (i + 1)) = some (t, left)) :
    SaidAt s (i + (1 + ((s.drop (i + 1)).length - left.length))) (u ++ t) := by
  have hl := refL_len hr
  have hd : (s.drop (i + 1)).length = s.length - (i + 1) := List.length_drop
  refine ⟨by omega, ?_⟩
  have e : s.drop (i + (1 + ((s.drop (i + 1)).length - left.length))) = left := by
    have h1 := refL_left hr
    rw [List.drop_drop] at h1
    rw [← Nat.add_assoc, ← h1]
  rw [e, h.2, drop_getD hi, hc, saidL_amp hr]
  cases saidL left with
  | ok v => simp
  | error k => simp; omega
theorem SaidAt.bad {s : Str} {i : Nat} {u : Str} (h : SaidAt s i u) (hi : i < s.length) (hc : s.getD i 0 = 38) (hr : refL (s.drop (i + 1)) = none) : saidL s = .error i := by
  rw [h.2, drop_getD hi, hc, saidL_none hr]; rfl
theorem SaidAt.done {s : Str} {u : Str} (h : SaidAt s s.length u) : saidL s = .ok u := by
  rw [h.2, List.drop_length, saidL_nil]; simp
theorem SaidAt.len {s : Str} : ∀ {i : Nat} {u : Str}, SaidAt s i u → i ≤ s.length := fun h => h.1

/-! ### blanks -/
def blanksN (s : Str) : Nat := s.length - (trimL s).length
theorem blanks_drop (s : Str) : s.drop (blanksN s) = trimL s := by
  unfold blanksN trimL
  have h : s = s.takeWhile blankC ++ s.dropWhile blankC := (List.takeWhile_append_dropWhile).symm
  have hl : s.length - (s.dropWhile blankC).length = (s.takeWhile blankC).length := by
    have := congrArg List.length h
    rw [List.length_append] at this
    omega
  rw [hl]
  conv => lhs; rw [h]
  rw [List.drop_left' (by rw [← h])]
theorem blanks_le (s : Str) : blanksN s ≤ s.length := Nat.sub_le _ _
/-- k blanks stand ahead -/
def BlankTo (s : Str) (k : Nat) : Prop := k ≤ s.length ∧ trimL s = trimL (s.drop k)
theorem BlankTo.start (s : Str) : BlankTo s 0 := ⟨Nat.zero_le _, by rw [List.drop_zero]⟩
theorem BlankTo.step {s : Str} {k : Nat} (h : BlankTo s k) (hk : k < s.length) (hb : blankC (s.getD k 0) = true) : BlankTo s (k + 1) := by
  refine ⟨hk, ?_⟩
  rw [h.2, drop_getD hk]
  unfold trimL
  rw [List.dropWhile_cons, if_pos hb]
theorem BlankTo.stop {s : Str} {k : Nat} (h : BlankTo s k) (hk : k < s.length) (hb : blankC (s.getD k 0) = false) : blanksN s = k := by
  unfold blanksN
  rw [h.2, drop_getD hk]
  unfold trimL
  rw [List.dropWhile_cons, if_neg (by rw [hb]; simp), ← drop_getD hk, List.length_drop]; omega
theorem BlankTo.all {s : Str} {k : Nat} (h : BlankTo s k) (hk : ¬ k < s.length) : blanksN s = k := by
  have h1 := h.1
  unfold blanksN
  rw [h.2, show k = s.length by omega, List.drop_length]
  unfold trimL; simp
theorem blanks_zero {s : Str} : blanksN s = 0 ↔ (trimL s).length = s.length := by
  have := trim_le s
  unfold blanksN; omega

/-! ### an attribute -/
theorem attr_noName {s : Str} (h : nameL s = []) : attrL s = none := by unfold attrL; rw [h]; rfl
/-- the place behind the name and its blanks -/
def eqAt (s : Str) : Nat := (nameL s).length + blanksN (s.drop (nameL s).length)
theorem eq_drop (s : Str) : s.drop (eqAt s) = trimL (s.drop (nameL s).length) := by
  unfold eqAt
  rw [← List.drop_drop, blanks_drop]
theorem eq_le (s : Str) : eqAt s ≤ s.length := by
  have h1 := blanks_le (s.drop (nameL s).length)
  have h2 := name_le s
  rw [List.length_drop] at h1
  unfold eqAt; omega
def quoteAt (s : Str) : Nat := eqAt s + 1 + blanksN (s.drop (eqAt s + 1))
theorem quote_drop (s : Str) : s.drop (quoteAt s) = trimL (s.drop (eqAt s + 1)) := by
  unfold quoteAt
  rw [← List.drop_drop, blanks_drop]
theorem quote_le {s : Str} (h : eqAt s < s.length) : quoteAt s ≤ s.length := by
  have h1 := blanks_le (s.drop (eqAt s + 1))
  rw [List.length_drop] at h1
  unfold quoteAt; omega
theorem attr_noEq {s : Str} (h : s.length ≤ eqAt s ∨ s.getD (eqAt s) 0 ≠ 61) : attrL s = none := by
  unfold attrL
  split
  · rfl
  rw [← eq_drop]
  rcases Nat.lt_or_ge (eqAt s) s.length with h1 | h1
  · have h2 : s.getD (eqAt s) 0 ≠ 61 := by rcases h with h | h; omega; exact h
    rw [drop_getD h1]
    split
    · rename_i he; injection he with he _; exact absurd he h2
    · rfl
  · rw [List.drop_eq_nil_of_le h1]
theorem attr_eq {s : Str} (hn : nameL s ≠ []) (h1 : eqAt s < s.length) (h2 : s.getD (eqAt s) 0 = 61) : attrL s = match s.drop (quoteAt s) with
    | q :: s4 => if q = 34 ∨ q = 39 then
          match cutL [q] s4 with
          | none => none
          | some (value, rest) => match saidL value with
            | .error _ => none
            | .ok v => if value.contains 60 then none else some (nameL s, v, rest)
        else none
    | [] => none := by
  unfold attrL
  rw [if_neg (by simpa using hn), ← eq_drop, drop_getD h1, h2, quote_drop]
  rfl
theorem attr_noQuote {s : Str} (h1 : eqAt s < s.length) (h : s.length ≤ quoteAt s ∨ (s.getD (quoteAt s) 0 ≠ 34 ∧ s.getD (quoteAt s) 0 ≠ 39)) : attrL s = none := by
  by_cases hn : nameL s = []
  · exact attr_noName hn
  by_cases h2 : s.getD (eqAt s) 0 = 61
  · rw [attr_eq hn h1 h2]
    rcases Nat.lt_or_ge (quoteAt s) s.length with h3 | h3
    · have h4 : s.getD (quoteAt s) 0 ≠ 34 ∧ s.getD (quoteAt s) 0 ≠ 39 := by rcases h with h | h; omega; exact h
      rw [drop_getD h3]
      dsimp only
      rw [if_neg (by intro e; rcases e with e | e; exact h4.1 e; exact h4.2 e)]
    · rw [List.drop_eq_nil_of_le h3]
  · exact attr_noEq (.inr h2)
section
variable {s : Str} (hn : nameL s ≠ []) (h1 : eqAt s < s.length) (h2 : s.getD (eqAt s) 0 = 61) (h3 : quoteAt s < s.length) (h4 : s.getD (quoteAt s) 0 = 34 ∨ s.getD (quoteAt s) 0 = 39)
include hn h1 h2 h3 h4
theorem attr_quote : attrL s = match cutL [s.getD (quoteAt s) 0] (s.drop (quoteAt s + 1)) with
          | none => none
          | some (value, rest) => match saidL value with
            | .error _ => none
            | .ok v => if value.contains 60 then none else some (nameL s, v, rest) := by
  rw [attr_eq hn h1 h2, drop_getD h3]
  dsimp only
  rw [if_pos h4]
theorem attr_open (h : findZ [s.getD (quoteAt s) 0] s (quoteAt s + 1) < 0) : attrL s = none := by
  rw [attr_quote hn h1 h2 h3 h4, find_none h]
end
theorem find_in {p s : Str} {i : Nat} {a b : Str} (h : cutL p (s.drop i) = some (a, b)) : findZ p s i = ((i + a.length : Nat) : Int) := by
  unfold findZ; rw [h]
theorem cut1_none {c : UInt8} : ∀ {s : Str}, cutL [c] s = none ↔ c ∉ s
  | [] => by simp [cutL]
  | x :: t => by
    rw [cut1_cons]
    by_cases hx : x = c
    · subst hx; simp
    · rw [if_neg hx, Option.map_eq_none_iff, cut1_none]
      simp only [List.mem_cons, not_or]
      exact ⟨fun h => ⟨fun e => hx e.symm, h⟩, fun h => h.2⟩
/-- is a byte found in s from i on, up to e? -/
theorem find_take {c : UInt8} {s : Str} {i e : Nat} : 0 ≤ findZ [c] (s.take e) i ↔ c ∈ (s.take e).drop i := by
  unfold findZ
  cases hc : cutL [c] ((s.take e).drop i) with
  | none => simp [cut1_none.1 hc]
  | some q =>
    simp only [Int.natCast_nonneg, true_iff]
    exact Classical.byContradiction fun h => by rw [cut1_none.2 h] at hc; cases hc
theorem take_mid {s : Str} {i : Nat} {a b : Str} (h : s.drop i = a ++ b) (_hi : i ≤ s.length) : (s.take (i + a.length)).drop i = a := by
  rw [List.drop_take, h, show i + a.length - i = a.length by omega, List.take_left' rfl]
theorem cut_place {p s : Str} {i : Nat} {a b : Str} (h : cutL p (s.drop i) = some (a, b)) (hi : i ≤ s.length) : s.length - b.length = i + a.length + p.length ∧ i + a.length + p.length ≤ s.length ∧ b = s.drop (i + a.length + p.length) := by
  have e := cutL_some h
  have hl := congrArg List.length e
  rw [List.length_drop, List.length_append, List.length_append] at hl
  refine ⟨by omega, by omega, ?_⟩
  have h2 : s.drop (i + a.length + p.length) = (s.drop i).drop (a.length + p.length) := by rw [List.drop_drop, Nat.add_assoc]
  rw [h2, e, ← List.append_assoc, List.drop_left' (by simp)]

/-- the place behind p, from i on; 0: none -/
def untilN (p s : Str) (i : Nat) : Nat := match cutL p (s.drop i) with | none => 0 | some q => i + q.1.length + p.length
theorem until_none {p s : Str} {i : Nat} (h : findZ p s i < 0) : untilN p s i = 0 := by unfold untilN; rw [find_none h]
theorem until_some {p s : Str} {i : Nat} (h : ¬ findZ p s i < 0) : (untilN p s i : Int) = findZ p s i + (p.length : Int) := by
  obtain ⟨a, b, h1, h2, _⟩ := find_some h
  unfold untilN
  rw [h1, h2]; simp
theorem strip_part {p s : Str} : stripL p s = if p.isPrefixOf s then some (s.drop p.length) else none := rfl
/-- how many bytes a part has; 0: it is none -/
def partN (s : Str) : Nat := match partL s with | none => 0 | some (_, _, left) => s.length - left.length
theorem part_none {s : Str} : partN s = 0 ↔ partL s = none := by
  unfold partN
  cases h : partL s with
  | none => simp
  | some q =>
    obtain ⟨u, l, left⟩ := q
    have := partL_len h
    simp; omega
end Go.Proofs.YtpinjgdnhbogoaaDoor

/- The reference's Squeeze, byte by byte (no program). -/
namespace Go.Proofs.YtpinjgdnhbogoaaDoor

/-- i bytes are read; b is written, with a gap to come or not -/
structure SqAt (s : Str) (i : Nat) (b : Str) (gap : Bool) : Prop where
  le : i ≤ s.length
  eq : squeezeL s = b ++ sqF (!b.isEmpty) gap (s.drop i)
  len : b.length + gap.toNat ≤ i
theorem SqAt.start (s : Str) : SqAt s 0 [] false := ⟨Nat.zero_le _, by rw [List.drop_zero]; rfl, Nat.le_refl _⟩
theorem SqAt.blank {s : Str} {i : Nat} {b : Str} {gap : Bool} (h : SqAt s i b gap) (hi : i < s.length) (hc : blankC (s.getD i 0) = true) : SqAt s (i + 1) b (!b.isEmpty) := by
  refine ⟨hi, by rw [h.eq, drop_getD hi, sq_blank hc], ?_⟩
  have := h.len
  cases b with
  | nil => exact Nat.zero_le _
  | cons x l => simp at this ⊢; omega
theorem SqAt.gap {s : Str} {i : Nat} {b : Str} (h : SqAt s i b true) (hi : i < s.length) (hc : blankC (s.getD i 0) = false) : SqAt s (i + 1) (b ++ [32] ++ [s.getD i 0]) false := by
  refine ⟨hi, ?_, ?_⟩
  · rw [h.eq, drop_getD hi, sq_plain hc]
    cases b <;> simp
  · have := h.len
    simp at this ⊢; omega
theorem SqAt.plain {s : Str} {i : Nat} {b : Str} (h : SqAt s i b false) (hi : i < s.length) (hc : blankC (s.getD i 0) = false) : SqAt s (i + 1) (b ++ [s.getD i 0]) false := by
  refine ⟨hi, ?_, ?_⟩
  · rw [h.eq, drop_getD hi, sq_plain hc]
    cases b <;> simp
  · have := h.len
    simp at this ⊢; omega
theorem SqAt.done {s : Str} {b : Str} {gap : Bool} (h : SqAt s s.length b gap) : squeezeL s = b := by
  rw [h.eq, List.drop_length]
  show b ++ [] = b
  simp
end Go.Proofs.YtpinjgdnhbogoaaDoor
