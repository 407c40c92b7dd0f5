/- Elements in one another, in plain words: tokens of a tree, a tree of tokens (no program). -/
import Derived.Test.YtpinjgdnhbogoaaGreatDoorXX
namespace Go.Proofs.YtpinjgdnhbogoaaGreatDoor

inductive NodeD where
  | mk (name : Str) (attrs : List (Str × Str)) (text : Str) (kids : List NodeD)
def NodeD.name : NodeD → Str | .mk n _ _ _ => n
def NodeD.attrs : NodeD → List (Str × Str) | .mk _ a _ _ => a
def NodeD.text : NodeD → Str | .mk _ _ t _ => t
def NodeD.kids : NodeD → List NodeD | .mk _ _ _ k => k
def wordsT (tx : Str) : List TokD := if tx.isEmpty then [] else [⟨3, [], [], tx⟩]
mutual
def tokN : NodeD → List TokD
  | .mk nm as tx ks => ⟨1, nm, as, []⟩ :: (wordsT tx ++ (tokK ks ++ [⟨2, nm, [], []⟩]))
def tokK : List NodeD → List TokD
  | [] => []
  | k :: ks => tokN k ++ tokK ks
end
mutual
def deepN : NodeD → Nat
  | .mk _ _ _ ks => deepK ks + 1
def deepK : List NodeD → Nat
  | [] => 0
  | k :: ks => max (deepN k) (deepK ks)
end
mutual
def manyN : NodeD → Nat
  | .mk _ _ _ ks => manyK ks + 1
def manyK : List NodeD → Nat
  | [] => 0
  | k :: ks => manyN k + manyK ks
end

/-- an element at a depth, of which so much is read, and the tokens behind -/
def elemF : Nat → Nat → Str → List (Str × Str) → Str → List NodeD → List TokD → Except Int (NodeD × List TokD)
  | 0, _, _, _, _, _, _ => .error 8
  | _ + 1, _, _, _, _, _, [] => .error 8
  | n + 1, d, nm, as, tx, ks, t :: r =>
    if t.kind = 3 then elemF n d nm as (tx ++ t.text) ks r
    else if t.kind = 1 then
      if d + 1 = 20 then .error 19
      else match elemF n (d + 1) t.name t.attrs [] [] r with
        | .error e => .error e
        | .ok (k, r') => elemF n d nm as tx (ks ++ [k]) r'
    else if t.kind = 2 ∧ t.name = nm then .ok (.mk nm as tx ks, r)
    else .error 8
theorem elemF_len : ∀ (n d : Nat) (nm : Str) (as : List (Str × Str)) (tx : Str) (ks : List NodeD) (l : List TokD) {k : NodeD} {r : List TokD}, elemF n d nm as tx ks l = .ok (k, r) → r.length < l.length
  | 0, _, _, _, _, _, _, _, _, h => by cases h
  | _ + 1, _, _, _, _, _, [], _, _, h => by cases h
  | n + 1, d, nm, as, tx, ks, t :: l, k, r, h => by
    unfold elemF at h
    split at h
    · have := elemF_len n _ _ _ _ _ _ h; simp; omega
    split at h
    · split at h
      · cases h
      · cases he : elemF n (d + 1) t.name t.attrs [] [] l with
        | error e => rw [he] at h; cases h
        | ok p =>
          obtain ⟨k', r'⟩ := p
          rw [he] at h
          have h1 := elemF_len n _ _ _ _ _ _ he
          have h2 := elemF_len n _ _ _ _ _ _ h
          simp; omega
    split at h
    · simp only [Except.ok.injEq, Prod.mk.injEq] at h
      rw [← h.2]; simp
    · cases h
theorem elemF_fuel : ∀ (n m d : Nat) (nm : Str) (as : List (Str × Str)) (tx : Str) (ks : List NodeD) (l : List TokD), l.length < n → l.length < m → elemF n d nm as tx ks l = elemF m d nm as tx ks l
  | 0, _, _, _, _, _, _, _, h, _ => by omega
  | _, 0, _, _, _, _, _, _, _, h => by omega
  | n + 1, m + 1, d, nm, as, tx, ks, [], _, _ => rfl
  | n + 1, m + 1, d, nm, as, tx, ks, t :: l, h1, h2 => by
    simp only [List.length_cons] at h1 h2
    unfold elemF
    rw [elemF_fuel n m d nm as (tx ++ t.text) ks l (by omega) (by omega), elemF_fuel n m (d + 1) t.name t.attrs [] [] l (by omega) (by omega)]
    cases he : elemF m (d + 1) t.name t.attrs [] [] l with
    | error e => rfl
    | ok p =>
      obtain ⟨k', r'⟩ := p
      have h3 := elemF_len m _ _ _ _ _ _ he
      dsimp only
      rw [elemF_fuel n m d nm as tx (ks ++ [k']) r' (by omega) (by omega)]
def elemL (d : Nat) (nm : Str) (as : List (Str × Str)) (tx : Str) (ks : List NodeD) (l : List TokD) : Except Int (NodeD × List TokD) := elemF (l.length + 1) d nm as tx ks l
theorem elemL_nil (d : Nat) (nm : Str) (as : List (Str × Str)) (tx : Str) (ks : List NodeD) : elemL d nm as tx ks [] = .error 8 := rfl
theorem elemL_cons (d : Nat) (nm : Str) (as : List (Str × Str)) (tx : Str) (ks : List NodeD) (t : TokD) (r : List TokD) : elemL d nm as tx ks (t :: r) =
    (if t.kind = 3 then elemL d nm as (tx ++ t.text) ks r
    else if t.kind = 1 then
      if d + 1 = 20 then .error 19
      else match elemL (d + 1) t.name t.attrs [] [] r with
        | .error e => .error e
        | .ok (k, r') => elemL d nm as tx (ks ++ [k]) r'
    else if t.kind = 2 ∧ t.name = nm then .ok (.mk nm as tx ks, r)
    else .error 8) := by
  conv => lhs; unfold elemL elemF
  show (if t.kind = 3 then elemL d nm as (tx ++ t.text) ks r else if t.kind = 1 then if d + 1 = 20 then .error 19 else match elemL (d + 1) t.name t.attrs [] [] r with | .error e => .error e | .ok (k, r') => elemF (t :: r).length d nm as tx (ks ++ [k]) r' else if t.kind = 2 ∧ t.name = nm then .ok (.mk nm as tx ks, r) else .error 8) = _
  cases he : elemL (d + 1) t.name t.attrs [] [] r with
  | error e => rfl
  | ok p =>
    obtain ⟨k', r'⟩ := p
    have h3 := elemF_len _ _ _ _ _ _ _ he
    dsimp only
    rw [show elemF (t :: r).length d nm as tx (ks ++ [k']) r' = elemL d nm as tx (ks ++ [k']) r' from elemF_fuel _ _ _ _ _ _ _ _ (by simp; omega) (Nat.lt_succ_self _)]
/-- a tree of tokens -/
def buildF : Nat → Option NodeD → List TokD → Except Int NodeD
  | 0, _, _ => .error 8
  | _ + 1, none, [] => .error 8
  | _ + 1, some n, [] => .ok n
  | k + 1, root, t :: r =>
    if t.kind = 3 ∧ t.text.all blankC = true then buildF k root r
    else if t.kind = 1 ∧ root.isNone = true then match elemL 0 t.name t.attrs [] [] r with
      | .error e => .error e
      | .ok (n, r') => buildF k (some n) r'
    else .error 8
def buildL (l : List TokD) : Except Int NodeD := buildF (l.length + 1) none l
end Go.Proofs.YtpinjgdnhbogoaaGreatDoor

/- What is squeezed, in plain words (no program). -/
namespace Go.Proofs.YtpinjgdnhbogoaaGreatDoor

/-- st: is something written already; gap: was there a blank since -/
def sqF : Bool → Bool → Str → Str
  | _, _, [] => []
  | st, gap, c :: s => if blankC c then sqF st st s else (if gap then [32] else []) ++ c :: sqF true false s
def squeezeL (s : Str) : Str := sqF false false s
def fieldsF : Nat → Str → List Str
  | 0, _ => []
  | n + 1, s => match trimL s with
    | [] => []
    | c :: t => (c :: t).takeWhile (fun x => !blankC x) :: fieldsF n ((c :: t).dropWhile (fun x => !blankC x))
def fieldsL (s : Str) : List Str := fieldsF (s.length + 1) s
def joinL : List Str → Str
  | [] => []
  | [x] => x
  | x :: y :: l => x ++ 32 :: joinL (y :: l)

theorem sq_blank {c : UInt8} (h : blankC c = true) (st gap : Bool) (s : Str) : sqF st gap (c :: s) = sqF st st s := by
  rw [sqF, if_pos h]
theorem sq_plain {c : UInt8} (h : blankC c = false) (st gap : Bool) (s : Str) : sqF st gap (c :: s) = (if gap then [32] else []) ++ c :: sqF true false s := by
  rw [sqF, if_neg (by rw [h]; simp)]
theorem sq_trim (st : Bool) : ∀ s : Str, sqF st st s = sqF st st (trimL s)
  | [] => rfl
  | c :: s => by
    unfold trimL
    rw [List.dropWhile_cons]
    by_cases h : blankC c = true
    · rw [if_pos h, sq_blank h]; exact sq_trim st s
    · rw [if_neg h]
theorem sq_word : ∀ (w r : Str), (∀ c ∈ w, blankC c = false) → sqF true false (w ++ r) = w ++ sqF true false r
  | [], r, _ => rfl
  | c :: w, r, h => by
    rw [List.cons_append, sq_plain (h c (List.mem_cons_self ..)), sq_word w r (fun x hx => h x (List.mem_cons_of_mem _ hx))]; rfl
theorem trim_first {s : Str} {c : UInt8} {t : Str} (h : trimL s = c :: t) : blankC c = false := by
  have := List.head?_dropWhile_not blankC s
  unfold trimL at h
  rw [h] at this
  simpa using this
/-- behind a word: a blank, or the end -/
def preL (st : Bool) (l : List Str) : Str := match l with | [] => [] | x :: y => (if st then [32] else []) ++ joinL (x :: y)
theorem sq_fields : ∀ (n : Nat) (s : Str), s.length < n → (∀ st, sqF st st s = preL st (fieldsF n s))
  | 0, _, h => by omega
  | n + 1, s, hn => fun st => by
    rw [sq_trim]
    unfold fieldsF
    cases ht : trimL s with
    | nil => rfl
    | cons c t =>
      have hc := trim_first ht
      have hl := trim_le s
      rw [ht] at hl
      dsimp only
      have hw : ∀ x ∈ t.takeWhile (fun x => !blankC x), blankC x = false := fun x hx => by
        have := List.all_eq_true.1 (List.all_takeWhile (l := t) (p := fun x => !blankC x)) x hx
        simpa using this
      have e1 : (c :: t).takeWhile (fun x => !blankC x) = c :: t.takeWhile (fun x => !blankC x) := by rw [List.takeWhile_cons, if_pos (by rw [hc]; rfl)]
      have e2 : (c :: t).dropWhile (fun x => !blankC x) = t.dropWhile (fun x => !blankC x) := by rw [List.dropWhile_cons, if_pos (by rw [hc]; rfl)]
      have e3 : t = t.takeWhile (fun x => !blankC x) ++ t.dropWhile (fun x => !blankC x) := List.takeWhile_append_dropWhile.symm
      rw [e1, e2, sq_plain hc]
      conv => lhs; rw [e3, sq_word _ _ hw]
      generalize hr : t.dropWhile (fun x => !blankC x) = r
      have hrl : r.length ≤ t.length := by rw [← hr]; exact (List.dropWhile_suffix _).length_le
      have ih := sq_fields n r (by simp at hl; omega) true
      have key : sqF true false r = sqF true true r := by
        cases r with
        | nil => rfl
        | cons x y =>
          have hx : blankC x = true := by
            have := List.head?_dropWhile_not (fun x => !blankC x) t
            rw [hr] at this
            simpa using this
          rw [sq_blank hx, sq_blank hx]
      rw [key, ih]
      cases hf : fieldsF n r with
      | nil => simp [preL, joinL]
      | cons a b => simp [preL, joinL]
theorem squeeze_join (s : Str) : squeezeL s = joinL (fieldsL s) := by
  unfold squeezeL fieldsL
  rw [sq_fields (s.length + 1) s (Nat.lt_succ_self _) false]
  cases fieldsF (s.length + 1) s with
  | nil => rfl
  | cons a b => rfl
/-! ### TreeSqueezes -/
theorem sq_again : ∀ (s : Str) (gap : Bool), sqF true false (sqF true gap s) = sqF true gap s
  | [], _ => rfl
  | x :: s, gap => by
    by_cases hx : blankC x = true
    · rw [sq_blank hx]; exact sq_again s true
    · have hx' : blankC x = false := by simpa using hx
      have ih := sq_again s false
      rw [sq_plain hx']
      cases gap with
      | false =>
        show sqF true false (x :: sqF true false s) = x :: sqF true false s
        rw [sq_plain hx', ih]; rfl
      | true =>
        show sqF true false (32 :: x :: sqF true false s) = 32 :: x :: sqF true false s
        rw [sq_blank (by decide), sq_plain hx', ih]; rfl
theorem squeeze_twice : ∀ s : Str, squeezeL (squeezeL s) = squeezeL s
  | [] => rfl
  | x :: s => by
    unfold squeezeL
    by_cases hx : blankC x = true
    · rw [sq_blank hx]; exact squeeze_twice s
    · have hx' : blankC x = false := by simpa using hx
      rw [sq_plain hx']
      show sqF false false (x :: sqF true false s) = x :: sqF true false s
      rw [sq_plain hx', sq_again]; rfl
end Go.Proofs.YtpinjgdnhbogoaaGreatDoor

/- What documents tell, in plain words: items of a tree, documents written (no program). -/
namespace Go.Proofs.YtpinjgdnhbogoaaGreatDoor

structure ItemD where
  id : Str
  title : Str
  link : Str
deriving DecidableEq
def nRss : Str := [114, 115, 115]
def nFeed : Str := [102, 101, 101, 100]
def nChannel : Str := [99, 104, 97, 110, 110, 101, 108]
def nItem : Str := [105, 116, 101, 109]
def nEntry : Str := [101, 110, 116, 114, 121]
def nGuid : Str := [103, 117, 105, 100]
def nTitle : Str := [116, 105, 116, 108, 101]
def nLink : Str := [108, 105, 110, 107]
def nId : Str := [105, 100]
def nRel : Str := [114, 101, 108]
def nHref : Str := [104, 114, 101, 102]
def nAlt : Str := [97, 108, 116, 101, 114, 110, 97, 116, 101]
def nVersion : Str := [118, 101, 114, 115, 105, 111, 110]
def nXmlns : Str := [120, 109, 108, 110, 115]
def vTwo : Str := [50, 46, 48]
def vAtom : Str := [104, 116, 116, 112, 58, 47, 47, 119, 119, 119, 46, 119, 51, 46, 111, 114, 103, 47, 50, 48, 48, 53, 47, 65, 116, 111, 109]

def shortL (s : Str) : Str := if 200 < (squeezeL s).length then [] else squeezeL s
def fitB (s : Str) : Bool := decide (s.length ≤ 200) && (squeezeL s == s)
def rightD (x : ItemD) : Bool := !x.id.isEmpty && (fitB x.id && (fitB x.title && fitB x.link))
def allL (n : NodeD) (nm : Str) : List NodeD := n.kids.filter fun k => k.name == nm
def textL (n : NodeD) (nm : Str) : Str := match allL n nm with | [] => [] | k :: _ => shortL k.text
def attrN (n : NodeD) (nm : Str) : Option Str := (n.attrs.find? fun a => a.1 == nm).map (·.2)
def meantB (n : NodeD) : Bool := match attrN n nRel with | none => true | some r => r == nAlt
def hrefL (n : NodeD) : Str := match (allL n nLink).find? meantB with | none => [] | some k => shortL ((attrN k nHref).getD [])
def rssI (n : NodeD) : ItemD := ⟨if (textL n nGuid).isEmpty then textL n nLink else textL n nGuid, textL n nTitle, textL n nLink⟩
def atomI (n : NodeD) : ItemD := ⟨textL n nId, textL n nTitle, hrefL n⟩
def hasI (l : List ItemD) (id : Str) : Bool := l.any fun y => y.id == id
def withL (l : List ItemD) (x : ItemD) : List ItemD := if x.id.isEmpty || (decide (100 ≤ l.length) || hasI l x.id) then l else l ++ [x]
def itemsL (n : NodeD) : Option (List ItemD) :=
  if n.name = nRss then match allL n nChannel with | [] => none | c :: _ => some (((allL c nItem).map rssI).foldl withL [])
  else if n.name = nFeed then some (((allL n nEntry).map atomI).foldl withL [])
  else none
def parseL (s : Str) : Except Int NodeD := if (readD s).2.1 = 0 then buildL (readD s).1 else .error (readD s).2.1
def extractL (s : Str) : List ItemD × Int := match parseL s with
  | .error e => ([], e)
  | .ok n => match itemsL n with
    | none => ([], 8)
    | some l => (l, 0)

/-! ### items are right, each once, at most 100 -/
theorem short_fit (s : Str) : fitB (shortL s) = true := by
  unfold shortL fitB
  split
  · decide
  · rename_i h
    rw [squeeze_twice]; simp; omega
theorem text_fit (n : NodeD) (nm : Str) : fitB (textL n nm) = true := by
  unfold textL; split
  · decide
  · exact short_fit _
theorem href_fit (n : NodeD) : fitB (hrefL n) = true := by
  unfold hrefL; split
  · decide
  · exact short_fit _
def RightL (l : List ItemD) : Prop := (∀ x ∈ l, rightD x = true) ∧ (l.map (·.id)).Nodup ∧ l.length ≤ 100
theorem with_right {l : List ItemD} {x : ItemD} (h : RightL l) (h1 : fitB x.id = true) (h2 : fitB x.title = true) (h3 : fitB x.link = true) : RightL (withL l x) := by
  unfold withL
  split
  · exact h
  · rename_i hc
    simp only [Bool.or_eq_true, decide_eq_true_eq, not_or, Bool.not_eq_true] at hc
    obtain ⟨c1, c2, c3⟩ := hc
    refine ⟨fun y hy => ?_, ?_, by simp; omega⟩
    · rcases List.mem_append.1 hy with h4 | h4
      · exact h.1 y h4
      · rw [List.mem_singleton.1 h4]
        unfold rightD
        rw [c1, h1, h2, h3]; rfl
    · rw [List.map_append, List.nodup_append]
      refine ⟨h.2.1, by simp, fun a ha b hb => ?_⟩
      obtain ⟨y, hy, rfl⟩ := List.mem_map.1 ha
      have hb' : b = x.id := by simpa using hb
      rintro rfl
      have : hasI l x.id = true := by
        unfold hasI
        exact List.any_eq_true.2 ⟨y, hy, by simpa using hb'⟩
      rw [this] at c3; cases c3
theorem fold_right : ∀ (m : List ItemD) (l : List ItemD), RightL l → (∀ x ∈ m, fitB x.id = true ∧ fitB x.title = true ∧ fitB x.link = true) → RightL (m.foldl withL l)
  | [], _, h, _ => h
  | x :: m, _l, h, hm => fold_right m _ (with_right h (hm x (List.mem_cons_self ..)).1 (hm x (List.mem_cons_self ..)).2.1 (hm x (List.mem_cons_self ..)).2.2) fun y hy => hm y (List.mem_cons_of_mem _ hy)
theorem right_nil : RightL [] := ⟨(fun _ h => by cases h), List.nodup_nil, Nat.zero_le _⟩
theorem rss_fit (n : NodeD) : fitB (rssI n).id = true ∧ fitB (rssI n).title = true ∧ fitB (rssI n).link = true := by
  refine ⟨?_, text_fit _ _, text_fit _ _⟩
  show fitB (if (textL n nGuid).isEmpty then textL n nLink else textL n nGuid) = true
  split <;> exact text_fit _ _
theorem atom_fit (n : NodeD) : fitB (atomI n).id = true ∧ fitB (atomI n).title = true ∧ fitB (atomI n).link = true := ⟨text_fit _ _, text_fit _ _, href_fit _⟩
theorem items_right {n : NodeD} {l : List ItemD} (h : itemsL n = some l) : RightL l := by
  unfold itemsL at h
  split at h
  · split at h
    · cases h
    · rw [← Option.some.inj h]
      exact fold_right _ _ right_nil fun x hx => by
        obtain ⟨k, _, rfl⟩ := List.mem_map.1 hx
        exact rss_fit k
  split at h
  · rw [← Option.some.inj h]
    exact fold_right _ _ right_nil fun x hx => by
      obtain ⟨k, _, rfl⟩ := List.mem_map.1 hx
      exact atom_fit k
  · cases h
/-- FeedItems -/
theorem extract_right (s : Str) : RightL (extractL s).1 ∧ ((extractL s).2 ≠ 0 → (extractL s).1 = []) := by
  unfold extractL
  cases parseL s with
  | error e => exact ⟨right_nil, fun _ => rfl⟩
  | ok n =>
    dsimp only
    cases hi : itemsL n with
    | none => exact ⟨right_nil, fun _ => rfl⟩
    | some l => exact ⟨items_right hi, fun h => absurd rfl h⟩

/-! ### documents -/
def elemW (nm s : Str) : Str := 60 :: (nm ++ 62 :: (escL s ++ 60 :: 47 :: (nm ++ [62])))
def itemW (x : ItemD) : Str := 60 :: (nItem ++ 62 :: (elemW nGuid x.id ++ (elemW nTitle x.title ++ (elemW nLink x.link ++ 60 :: 47 :: (nItem ++ [62])))))
def rssL (title : Str) (l : List ItemD) : Str :=
  60 :: (nRss ++ 32 :: (nVersion ++ 61 :: 34 :: (vTwo ++ 34 :: 62 :: 60 :: (nChannel ++ 62 :: (elemW nTitle title ++ (l.flatMap itemW ++ 60 :: 47 :: (nChannel ++ 62 :: 60 :: 47 :: (nRss ++ [62]))))))))
def entryW (x : ItemD) : Str := 60 :: (nEntry ++ 62 :: (elemW nId x.id ++ (elemW nTitle x.title ++ 60 :: (nLink ++ 32 :: (nHref ++ 61 :: 34 :: (escL x.link ++ 34 :: 47 :: 62 :: 60 :: 47 :: (nEntry ++ [62])))))))
def atomL (title : Str) (l : List ItemD) : Str :=
  60 :: (nFeed ++ 32 :: (nXmlns ++ 61 :: 34 :: (vAtom ++ 34 :: 62 :: (elemW nTitle title ++ (l.flatMap entryW ++ 60 :: 47 :: (nFeed ++ [62]))))))
/-- a piece that is read as tokens, with no words left -/
def Reads (p : Str) (a : List TokD) : Prop := ∀ (k : Nat) (l : List TokD) (r : Str), readG k l [] (p ++ r) = readG (k + p.length) (l ++ a) [] r
theorem Reads.nil : Reads [] [] := fun k l r => by rw [List.append_nil]; rfl
theorem Reads.app {p q : Str} {a b : List TokD} (h1 : Reads p a) (h2 : Reads q b) : Reads (p ++ q) (a ++ b) := fun k l r => by
  rw [List.append_assoc, h1, h2, List.append_assoc, List.length_append, Nat.add_assoc]
theorem Reads.part {p : Str} {a : List TokD} (ha : a ≠ []) (h : ∀ r, partL (60 :: (p ++ r)) = some ([], a, r)) : Reads (60 :: p) a := fun k l r => by
  show readG k l [] (60 :: (p ++ r)) = _
  rw [readG_part (h r), if_neg (by simpa using ha)]
  rw [List.append_nil, flush_nil]
  congr 1
  simp; omega
theorem Reads.open {n : Str} (h : NameOK n) : Reads (60 :: (n ++ [62])) [⟨1, n, [], []⟩] := Reads.part (by simp) fun r => by
  have := part_open h attrs_nil r
  simpa using this
theorem Reads.close {n : Str} (h : NameOK n) : Reads (60 :: 47 :: (n ++ [62])) [⟨2, n, [], []⟩] := Reads.part (p := 47 :: (n ++ [62])) (by simp) fun r => by
  have := part_close h r
  simpa using this
theorem Reads.self {n m v : Str} (h : NameOK n) (hm : NameOK m) : Reads (60 :: (n ++ 32 :: (m ++ 61 :: 34 :: (escL v ++ 34 :: 47 :: [62])))) [⟨1, n, [(m, v)], []⟩, ⟨2, n, [], []⟩] := Reads.part (by simp) fun r => by
  have e : (n ++ 32 :: (m ++ 61 :: 34 :: (escL v ++ 34 :: 47 :: [62]))) ++ r = n ++ 32 :: (m ++ 61 :: 34 :: (escL v ++ 34 :: 47 :: 62 :: r)) := by simp
  rw [e]
  have h1 := h.stop (c := 32) (by decide) (m ++ 61 :: 34 :: (escL v ++ 34 :: 47 :: 62 :: r))
  have ht : tagL (n ++ 32 :: (m ++ 61 :: 34 :: (escL v ++ 34 :: 47 :: 62 :: r))) = some ([⟨1, n, [(m, v)], []⟩, ⟨2, n, [], []⟩], r) := by
    unfold tagL
    rw [h1, if_neg h.nonempty, List.drop_left, attrsL_eq (by simp; omega), attrs_one hm (.inl rfl) [] v _ rfl, attrs_self]
    rfl
  obtain ⟨c, t, rfl, hb⟩ := h.first
  rw [List.cons_append] at ht ⊢
  rw [part_tag hb, ht]; rfl
theorem Reads.textClose {n s : Str} (h : NameOK n) : Reads (escL s ++ 60 :: 47 :: (n ++ [62])) (wordsT s ++ [⟨2, n, [], []⟩]) := fun k l r => by
  by_cases hs : s = []
  · subst hs; exact Reads.close h k l r
  · have hp := part_close h r
    have e : (escL s ++ 60 :: 47 :: (n ++ [62])) ++ r = escL s ++ 60 :: 47 :: (n ++ 62 :: r) := by simp
    rw [e, readG_text (esc_ne hs) (esc_mem (.inl rfl) s) (.inr ⟨_, rfl⟩), saidL_esc]
    dsimp only
    rw [List.nil_append, readG_part hp, if_neg (by simp), List.append_nil, flush_words _ hs]
    have hw : wordsT s = [⟨3, [], [], s⟩] := by unfold wordsT; rw [if_neg (by simpa using hs)]
    rw [hw, List.append_assoc]
    congr 1
    simp; omega
theorem Reads.elem {n s : Str} (h : NameOK n) : Reads (elemW n s) (tokN (.mk n [] s [])) := by
  have := (Reads.open h).app (Reads.textClose (s := s) h)
  have e1 : 60 :: (n ++ [62]) ++ (escL s ++ 60 :: 47 :: (n ++ [62])) = elemW n s := by unfold elemW; simp
  rw [e1] at this
  exact this
theorem Reads.read {p : Str} {a : List TokD} (h : Reads p a) : readL p = .ok a := by
  have := h 0 [] []
  rw [List.append_nil, readG_nil] at this
  exact this
def leafN (nm s : Str) : NodeD := .mk nm [] s []
def itemN (x : ItemD) : NodeD := .mk nItem [] [] [leafN nGuid x.id, leafN nTitle x.title, leafN nLink x.link]
def entryN (x : ItemD) : NodeD := .mk nEntry [] [] [leafN nId x.id, leafN nTitle x.title, .mk nLink [(nHref, x.link)] [] []]
def rssN (title : Str) (l : List ItemD) : NodeD := .mk nRss [(nVersion, vTwo)] [] [.mk nChannel [] [] (leafN nTitle title :: l.map itemN)]
def atomN (title : Str) (l : List ItemD) : NodeD := .mk nFeed [(nXmlns, vAtom)] [] (leafN nTitle title :: l.map entryN)
theorem ok_of {n : Str} (h : decide (n ≠ [] ∧ nameL n = n) = true) : NameOK n := of_decide_eq_true (p := n ≠ [] ∧ nameL n = n) h
theorem Reads.item (x : ItemD) : Reads (itemW x) (tokN (itemN x)) := by
  have := (Reads.open (n := nItem) (ok_of (by decide))).app ((Reads.elem (n := nGuid) (s := x.id) (ok_of (by decide))).app ((Reads.elem (n := nTitle) (s := x.title) (ok_of (by decide))).app ((Reads.elem (n := nLink) (s := x.link) (ok_of (by decide))).app (Reads.close (n := nItem) (ok_of (by decide))))))
  have e1 : 60 :: (nItem ++ [62]) ++ (elemW nGuid x.id ++ (elemW nTitle x.title ++ (elemW nLink x.link ++ 60 :: 47 :: (nItem ++ [62])))) = itemW x := by unfold itemW; simp
  rw [e1] at this
  have e2 : tokN (itemN x) = [⟨1, nItem, [], []⟩] ++ (tokN (leafN nGuid x.id) ++ (tokN (leafN nTitle x.title) ++ (tokN (leafN nLink x.link) ++ [⟨2, nItem, [], []⟩]))) := by
    unfold itemN
    simp [tokN, tokK, wordsT]
  rw [e2]; exact this
end Go.Proofs.YtpinjgdnhbogoaaGreatDoor

/- What is read of documents that were written (no program). -/
namespace Go.Proofs.YtpinjgdnhbogoaaGreatDoor

def shortI (x : ItemD) : ItemD := ⟨shortL x.id, shortL x.title, shortL x.link⟩
theorem short_nil : shortL [] = [] := by decide
theorem with_new {l : List ItemD} {x : ItemD} (h1 : x.id ≠ []) (h2 : l.length < 100) (h3 : hasI l x.id = false) : withL l x = l ++ [x] := by
  unfold withL
  rw [if_neg]
  rw [h3]
  simp
  exact ⟨h1, h2⟩
/-! ### depths -/
/-! ### extracted -/
/-! ### FeedBack -/
def wantL (l : List ItemD) : List ItemD := (l.filter rightD).foldl withL []
theorem with_full {l : List ItemD} (x : ItemD) (h : 100 ≤ l.length) : withL l x = l := by
  unfold withL
  rw [if_pos (by simp [h])]
theorem fold_full : ∀ (m l : List ItemD), 100 ≤ l.length → m.foldl withL l = l
  | [], _, _ => rfl
  | x :: m, l, h => by rw [List.foldl_cons, with_full x h, fold_full m l h]
/-! ### FeedAlike -/
def bigR (title : Str) (l : List ItemD) : Str := 10 :: (rssL title l ++ [32])
/-- xml version="1.0" -/
def vHead : Str := [120, 109, 108, 32, 118, 101, 114, 115, 105, 111, 110, 61, 34, 49, 46, 48, 34]
def bigAtom (title : Str) (l : List ItemD) : Str := 60 :: 63 :: (vHead ++ 63 :: 62 :: atomL title l)
/-! ### FeedDoubles -/
def nOther : Str := [111, 116, 104, 101, 114]
def twiceL (l : List ItemD) : List ItemD := l.flatMap fun x => [x, ⟨x.id, nOther, []⟩, ⟨[], x.title, []⟩]
theorem with_has {l : List ItemD} {x : ItemD} (h : hasI l x.id = true) : withL l x = l := by
  unfold withL; rw [if_pos (by simp [h])]
theorem with_none (l : List ItemD) {y : ItemD} (h : y.id = []) : withL l y = l := by
  unfold withL; rw [if_pos (by simp [h])]
end Go.Proofs.YtpinjgdnhbogoaaGreatDoor

/- A document that is cut short, or that words stand behind, is refused (no program). -/
namespace Go.Proofs.YtpinjgdnhbogoaaGreatDoor

/-! ### a part has its end -/
theorem cut_has {p s a b : Str} {x : UInt8} (hx : x ∈ p) (h : cutL p s = some (a, b)) : x ∈ s := by
  rw [cutL_some h]; simp [hx]
theorem mem_drop {x : UInt8} {k : Nat} {s : Str} (h : x ∈ s.drop k) : x ∈ s := List.mem_of_mem_drop h
theorem mem_trim {x : UInt8} {s : Str} (h : x ∈ trimL s) : x ∈ s := (List.dropWhile_suffix blankC).subset h
theorem mem_strip {p s r : Str} {x : UInt8} (h : stripL p s = some r) (hx : x ∈ r) : x ∈ s := by
  rw [stripL_some h]; simp [hx]
theorem attrL_left {s a v left : Str} {x : UInt8} (h : attrL s = some (a, v, left)) (hx : x ∈ left) : x ∈ s := by
  unfold attrL at h
  split at h
  · cases h
  split at h
  · rename_i s2 h2
    split at h
    · rename_i q s4 h4
      split at h
      · split at h
        · cases h
        · rename_i value rest h5
          split at h
          · cases h
          · split at h
            · cases h
            · simp only [Option.some.injEq, Prod.mk.injEq] at h
              obtain ⟨_, _, rfl⟩ := h
              have h6 : x ∈ s4 := by rw [cutL_some h5]; simp [hx]
              have h7 : x ∈ s2 := mem_trim (by rw [h4]; exact List.mem_cons_of_mem _ h6)
              exact mem_drop (mem_trim (by rw [h2]; exact List.mem_cons_of_mem _ h7))
      · cases h
    · cases h
  · cases h
theorem attrsF_end : ∀ (n : Nat) (l : List (Str × Str)) (s : Str) {y : List (Str × Str) × Bool × Str}, attrsF n l s = some y → (62 : UInt8) ∈ s
  | 0, _, _, _, h => by cases h
  | n + 1, l, s, y, h => by
    unfold attrsF at h
    dsimp only at h
    split at h
    · rename_i hp
      exact mem_trim ((List.isPrefixOf_iff_prefix.1 hp).subset (by simp))
    split at h
    · rename_i hp
      exact mem_trim ((List.isPrefixOf_iff_prefix.1 hp).subset (by simp))
    split at h
    · cases h
    split at h
    · cases h
    · rename_i a v left ha
      split at h
      · cases h
      · exact mem_trim (attrL_left ha (attrsF_end n _ _ h))
theorem tagL_end {s : Str} {y : List TokD × Str} (h : tagL s = some y) : (62 : UInt8) ∈ s := by
  unfold tagL at h
  split at h
  · cases h
  split at h
  · cases h
  all_goals
    rename_i ha
    exact mem_drop (attrsF_end _ _ _ ha)
theorem closeL_end {s : Str} {y : List TokD × Str} (h : closeL s = some y) : (62 : UInt8) ∈ s := by
  unfold closeL at h
  split at h
  · cases h
  split at h
  · rename_i h1
    exact mem_drop (mem_trim (by rw [h1]; simp))
  · cases h
theorem map_some {α β : Type} {o : Option α} {f : α → β} {y : β} (h : o.map f = some y) : ∃ x, o = some x := by
  cases o with
  | none => cases h
  | some x => exact ⟨x, rfl⟩
theorem partL_end {s : Str} {y : Str × List TokD × Str} (h : partL s = some y) : (62 : UInt8) ∈ s := by
  unfold partL at h
  split at h
  · rename_i r hr
    obtain ⟨q, hq⟩ := map_some h
    exact mem_strip hr (cut_has (by simp) (show cutL _ r = some (q.1, q.2) from hq))
  split at h
  · rename_i r hr
    obtain ⟨q, hq⟩ := map_some h
    exact mem_strip hr (cut_has (by simp) (show cutL _ r = some (q.1, q.2) from hq))
  split at h
  · rename_i r hr
    obtain ⟨q, hq⟩ := map_some h
    exact mem_strip hr (cut_has (by simp) (show cutL _ r = some (q.1, q.2) from hq))
  split at h
  · rename_i r hr
    split at h
    · cases h
    · rename_i hc
      exact mem_strip hr (cut_has (by simp) hc)
  split at h
  · rename_i r hr
    obtain ⟨q, hq⟩ := map_some h
    exact mem_strip hr (closeL_end hq)
  · obtain ⟨q, hq⟩ := map_some h
    exact mem_drop (tagL_end hq)

/-! ### what is read of a beginning -/
/-- each beginning of p that is read gives a beginning of p's tokens, and words; p whole alone gives all -/
def Cuts (p : Str) (a : List TokD) : Prop := ∀ (j : Nat), j < p.length → ∀ (k : Nat) (l : List TokD) (m : List TokD), readG k l [] (p.take j) = .ok m → ∃ (i : Nat) (w : Str), i < a.length ∧ m = flushL (l ++ a.take i) w
theorem Cuts.app {p q : Str} {a b : List TokD} (hp : Cuts p a) (hr : Reads p a) (hq : Cuts q b) : Cuts (p ++ q) (a ++ b) := by
  intro j hj k l m h
  by_cases h1 : j < p.length
  · rw [List.take_append_of_le_length (by omega)] at h
    obtain ⟨i, w, h2, h3⟩ := hp j h1 k l m h
    exact ⟨i, w, by simp; omega, by rw [List.take_append_of_le_length (by omega)]; exact h3⟩
  · rw [List.take_append, List.take_of_length_le (by omega), hr] at h
    obtain ⟨i, w, h2, h3⟩ := hq (j - p.length) (by simp at hj; omega) _ _ _ h
    refine ⟨a.length + i, w, by simp; omega, ?_⟩
    rw [List.take_append, List.take_of_length_le (l := a) (by omega), show a.length + i - a.length = i by omega, ← List.append_assoc]
    exact h3
/-- a tag: it ends in its only mark -/
theorem Cuts.tag {p : Str} {a : List TokD} (h : (62 : UInt8) ∉ p) (ha : 0 < a.length) : Cuts (60 :: (p ++ [62])) a := by
  intro j hj k l m hm
  cases j with
  | zero =>
    refine ⟨0, [], ha, ?_⟩
    rw [List.take_zero, readG_nil] at hm
    rw [List.take_zero, List.append_nil]
    exact (Except.ok.inj hm).symm
  | succ j =>
    exfalso
    rw [List.take_succ_cons] at hm
    have hj' : j ≤ p.length := by simp at hj; omega
    rw [List.take_append_of_le_length hj'] at hm
    have hn : partL (60 :: p.take j) = none := by
      cases hc : partL (60 :: p.take j) with
      | none => rfl
      | some y =>
        have := partL_end hc
        rcases List.mem_cons.1 this with e | e
        · exact absurd e (by decide)
        · exact absurd (List.mem_of_mem_take e) h
    rw [readG_bad hn] at hm
    cases hm
theorem Cuts.textClose {n s : Str} (h : (62 : UInt8) ∉ n) : Cuts (escL s ++ 60 :: 47 :: (n ++ [62])) (wordsT s ++ [⟨2, n, [], []⟩]) := by
  by_cases hs : s = []
  · subst hs
    exact Cuts.tag (p := 47 :: n) (by simp [h]) (by simp)
  have hw : wordsT s = [⟨3, [], [], s⟩] := by unfold wordsT; rw [if_neg (by simpa using hs)]
  intro j hj k l m hm
  by_cases h1 : j ≤ (escL s).length
  · rw [List.take_append_of_le_length h1] at hm
    refine ⟨0, ?_⟩
    have hno : (60 : UInt8) ∉ (escL s).take j := fun e => esc_mem (.inl rfl) s (List.mem_of_mem_take e)
    by_cases h0 : (escL s).take j = []
    · rw [h0, readG_nil] at hm
      exact ⟨[], by rw [hw]; simp, by rw [List.take_zero, List.append_nil]; exact (Except.ok.inj hm).symm⟩
    · have := readG_text (k := k) (l := l) (w := []) (rest := []) h0 hno (.inl rfl)
      rw [List.append_nil] at this
      rw [this] at hm
      cases hc : saidL ((escL s).take j) with
      | error e => rw [hc] at hm; cases hm
      | ok u =>
        rw [hc] at hm
        dsimp only at hm
        rw [readG_nil, List.nil_append] at hm
        exact ⟨u, by rw [hw]; simp, by rw [List.take_zero, List.append_nil]; exact (Except.ok.inj hm).symm⟩
  · exfalso
    have hj' : j - (escL s).length - 1 ≤ (47 :: n).length := by simp at hj ⊢; omega
    have e : (escL s ++ 60 :: 47 :: (n ++ [62])).take j = escL s ++ 60 :: (47 :: n).take (j - (escL s).length - 1) := by
      rw [List.take_append, List.take_of_length_le (by omega)]
      obtain ⟨i, hi⟩ : ∃ i, j - (escL s).length = i + 1 := ⟨j - (escL s).length - 1, by omega⟩
      rw [hi, List.take_succ_cons, Nat.add_sub_cancel]
      congr 2
      show ((47 :: n) ++ [62]).take i = _
      rw [List.take_append_of_le_length (by omega)]
    rw [e, readG_text (esc_ne hs) (esc_mem (.inl rfl) s) (.inr ⟨_, rfl⟩), saidL_esc] at hm
    dsimp only at hm
    have hn2 : partL (60 :: (47 :: n).take (j - (escL s).length - 1)) = none := by
      cases hc : partL (60 :: (47 :: n).take (j - (escL s).length - 1)) with
      | none => rfl
      | some y =>
        have := partL_end hc
        rcases List.mem_cons.1 this with e | e
        · exact absurd e (by decide)
        · have := List.mem_of_mem_take e
          simp [h] at this
    rw [readG_bad hn2] at hm
    cases hm
theorem Cuts.nil : Cuts [] [] := fun j hj => by simp at hj
theorem Cuts.elem {n s : Str} (hn : NameOK n) (h : (62 : UInt8) ∉ n) : Cuts (elemW n s) (tokN (.mk n [] s [])) := by
  have := (Cuts.tag (p := n) (a := [⟨1, n, [], []⟩]) h (by simp)).app (Reads.open hn) (Cuts.textClose (s := s) h)
  have e1 : 60 :: (n ++ [62]) ++ (escL s ++ 60 :: 47 :: (n ++ [62])) = elemW n s := by unfold elemW; simp
  rw [e1] at this
  exact this
/-! ### what is built is closed -/
def opens : List TokD → Int
  | [] => 0
  | t :: l => (if t.kind = 1 then 1 else if t.kind = 2 then -1 else 0) + opens l
theorem opens_app : ∀ a b : List TokD, opens (a ++ b) = opens a + opens b
  | [], b => by simp [opens]
  | t :: a, b => by rw [List.cons_append, opens, opens, opens_app a b]; omega
/-- a row of tags that is never closed more than it was opened -/
def Bal (l : List TokD) : Prop := opens l = 0 ∧ ∀ i, 0 ≤ opens (l.take i)
theorem Bal.nil : Bal [] := ⟨rfl, fun i => by simp [opens]⟩
theorem Bal.app {a b : List TokD} (ha : Bal a) (hb : Bal b) : Bal (a ++ b) := by
  refine ⟨by rw [opens_app, ha.1, hb.1]; rfl, fun i => ?_⟩
  rw [List.take_append, opens_app]
  have h1 := ha.2 i
  have h2 := hb.2 (i - a.length)
  omega
theorem Bal.words (s : Str) : Bal (wordsT s) := by
  unfold wordsT
  split
  · exact Bal.nil
  · refine ⟨by simp [opens], fun i => ?_⟩
    cases i with
    | zero => simp [opens]
    | succ i => simp [opens]
theorem elemF_err : ∀ (n d : Nat) (nm : Str) (as : List (Str × Str)) (tx : Str) (ks : List NodeD) (l : List TokD) {e : Int}, elemF n d nm as tx ks l = .error e → e = 8 ∨ e = 19
  | 0, _, _, _, _, _, _, _, h => by cases h; exact .inl rfl
  | _ + 1, _, _, _, _, _, [], _, h => by cases h; exact .inl rfl
  | n + 1, d, nm, as, tx, ks, t :: l, e, h => by
    unfold elemF at h
    split at h
    · exact elemF_err n _ _ _ _ _ _ h
    split at h
    · split at h
      · cases h; exact .inr rfl
      · cases he : elemF n (d + 1) t.name t.attrs [] [] l with
        | error e' => rw [he] at h; cases h; exact elemF_err n _ _ _ _ _ _ he
        | ok p =>
          obtain ⟨k', r'⟩ := p
          rw [he] at h
          exact elemF_err n _ _ _ _ _ _ h
    split at h
    · cases h
    · cases h; exact .inl rfl
theorem buildF_err : ∀ (k : Nat) (o : Option NodeD) (l : List TokD) {e : Int}, buildF k o l = .error e → e = 8 ∨ e = 19
  | 0, _, _, _, h => by cases h; exact .inl rfl
  | _ + 1, none, [], _, h => by cases h; exact .inl rfl
  | _ + 1, some _, [], _, h => by cases h
  | k + 1, o, t :: l, e, h => by
    rw [buildF] at h
    split at h
    · exact buildF_err k _ _ h
    split at h
    · split at h
      · rename_i h2
        cases h
        exact elemF_err _ _ _ _ _ _ _ h2
      · exact buildF_err k _ _ h
    · cases h; exact .inl rfl
end Go.Proofs.YtpinjgdnhbogoaaGreatDoor

/- The reference's way to build a tree: the open elements stand in a list (no program). -/
namespace Go.Proofs.YtpinjgdnhbogoaaGreatDoor

def NodeD.addKid : NodeD → NodeD → NodeD | .mk n a t k, x => .mk n a t (k ++ [x])
def NodeD.addText : NodeD → Str → NodeD | .mk n a t k, s => .mk n a (t ++ s) k
/-- open elements, the innermost first -/
def refB : List NodeD → Option NodeD → List TokD → Except Int NodeD
  | [], none, [] => .error 8
  | [], some n, [] => .ok n
  | _ :: _, _, [] => .error 8
  | st, dn, t :: r =>
    if t.kind = 1 then
      if 20 ≤ st.length then .error 19
      else if st.isEmpty && dn.isSome then .error 8
      else refB (.mk t.name t.attrs [] [] :: st) dn r
    else if t.kind = 2 then match st with
      | [] => .error 8
      | x :: s => if x.name = t.name then match s with
          | [] => refB [] (some x) r
          | y :: s' => refB (y.addKid x :: s') dn r
        else .error 8
    else if t.kind = 3 then match st with
      | [] => if t.text.all blankC = true then refB [] dn r else .error 8
      | x :: s => refB (x.addText t.text :: s) dn r
    else .error 8
def popB (k : NodeD) (st : List NodeD) (dn : Option NodeD) (r : List TokD) : Except Int NodeD := match st with | [] => refB [] (some k) r | y :: s => refB (y.addKid k :: s) dn r
def andB (x : Except Int (NodeD × List TokD)) (f : NodeD → List TokD → Except Int NodeD) : Except Int NodeD := match x with | .error e => .error e | .ok (k, r) => f k r
theorem refB_open {t : TokD} (h : t.kind = 1) (st : List NodeD) (dn : Option NodeD) (r : List TokD) : refB st dn (t :: r) = if 20 ≤ st.length then .error 19 else if st.isEmpty && dn.isSome then .error 8 else refB (.mk t.name t.attrs [] [] :: st) dn r := by
  cases st <;> cases dn <;> (conv => lhs; unfold refB) <;> rw [if_pos h]
theorem refB_close0 {t : TokD} (h : t.kind = 2) (dn : Option NodeD) (r : List TokD) : refB [] dn (t :: r) = .error 8 := by
  have h1 : ¬ t.kind = 1 := by omega
  cases dn <;> (conv => lhs; unfold refB) <;> rw [if_neg h1, if_pos h]
theorem refB_close1 {t : TokD} (h : t.kind = 2) (x : NodeD) (s : List NodeD) (dn : Option NodeD) (r : List TokD) : refB (x :: s) dn (t :: r) = if x.name = t.name then popB x s dn r else .error 8 := by
  have h1 : ¬ t.kind = 1 := by omega
  cases s <;> cases dn <;> (conv => lhs; unfold refB) <;> rw [if_neg h1, if_pos h] <;> rfl
theorem refB_words0 {t : TokD} (h : t.kind = 3) (dn : Option NodeD) (r : List TokD) : refB [] dn (t :: r) = if t.text.all blankC = true then refB [] dn r else .error 8 := by
  have h1 : ¬ t.kind = 1 := by omega
  have h2 : ¬ t.kind = 2 := by omega
  cases dn <;> (conv => lhs; unfold refB) <;> rw [if_neg h1, if_neg h2, if_pos h]
theorem refB_words1 {t : TokD} (h : t.kind = 3) (x : NodeD) (s : List NodeD) (dn : Option NodeD) (r : List TokD) : refB (x :: s) dn (t :: r) = refB (x.addText t.text :: s) dn r := by
  have h1 : ¬ t.kind = 1 := by omega
  have h2 : ¬ t.kind = 2 := by omega
  cases dn <;> (conv => lhs; unfold refB) <;> rw [if_neg h1, if_neg h2, if_pos h]
theorem refB_else {t : TokD} (h1 : ¬ t.kind = 1) (h2 : ¬ t.kind = 2) (h3 : ¬ t.kind = 3) (st : List NodeD) (dn : Option NodeD) (r : List TokD) : refB st dn (t :: r) = .error 8 := by
  cases st <;> cases dn <;> (conv => lhs; unfold refB) <;> rw [if_neg h1, if_neg h2, if_neg h3]
theorem refB_elem : ∀ (m : Nat) (l : List TokD) (st : List NodeD) (dn : Option NodeD) (nm : Str) (as : List (Str × Str)) (tx : Str) (ks : List NodeD), l.length < m → st.length < 20 →
    refB (.mk nm as tx ks :: st) dn l = andB (elemL st.length nm as tx ks l) fun k r => popB k st dn r
  | 0, _, _, _, _, _, _, _, h, _ => by omega
  | m + 1, [], st, dn, nm, as, tx, ks, _, _ => by rw [elemL_nil]; rfl
  | m + 1, t :: r, st, dn, nm, as, tx, ks, hm, hs => by
    have hr : r.length < m := by simp at hm; omega
    rw [elemL_cons]
    by_cases h3 : t.kind = 3
    · rw [refB_words1 h3, if_pos h3]
      exact refB_elem m r st dn nm as (tx ++ t.text) ks hr hs
    rw [if_neg h3]
    by_cases h1 : t.kind = 1
    · rw [refB_open h1, if_pos h1]
      by_cases hd : st.length + 1 = 20
      · rw [if_pos (by simp; omega), if_pos hd]; rfl
      · rw [if_neg (by simp; omega), if_neg (by simp), if_neg hd]
        have h := refB_elem m r (.mk nm as tx ks :: st) dn t.name t.attrs [] [] hr (by simp; omega)
        rw [h]
        show andB (elemL (st.length + 1) t.name t.attrs [] [] r) _ = _
        cases he : elemL (st.length + 1) t.name t.attrs [] [] r with
        | error e => rfl
        | ok p =>
          obtain ⟨k, r'⟩ := p
          have hl := elemF_len _ _ _ _ _ _ _ he
          exact refB_elem m r' st dn nm as tx (ks ++ [k]) (by omega) hs
    rw [if_neg h1]
    by_cases h2 : t.kind = 2
    · rw [refB_close1 h2]
      by_cases hn : t.name = nm
      · rw [if_pos (c := t.kind = 2 ∧ t.name = nm) ⟨h2, hn⟩]
        exact if_pos (c := nm = t.name) hn.symm
      · rw [if_neg (fun h : t.kind = 2 ∧ t.name = nm => hn h.2)]
        exact if_neg (fun h : nm = t.name => hn h.symm)
    · rw [refB_else h1 h2 h3, if_neg (fun h => h2 h.1)]; rfl
theorem refB_build : ∀ (m : Nat) (l : List TokD) (dn : Option NodeD) (k : Nat), l.length < m → l.length < k → refB [] dn l = buildF k dn l
  | 0, _, _, _, h, _ => by omega
  | _, _, _, 0, _, h => by omega
  | m + 1, [], none, k + 1, _, _ => rfl
  | m + 1, [], some n, k + 1, _, _ => rfl
  | m + 1, t :: r, dn, k + 1, hm, hk => by
    have hr : r.length < m := by simp at hm; omega
    have hrk : r.length < k := by simp at hk; omega
    have e : buildF (k + 1) dn (t :: r) = if t.kind = 3 ∧ t.text.all blankC = true then buildF k dn r
        else if t.kind = 1 ∧ dn.isNone = true then match elemL 0 t.name t.attrs [] [] r with
          | .error e => .error e
          | .ok (n, r') => buildF k (some n) r'
        else .error 8 := by cases dn <;> (conv => lhs; unfold buildF) <;> rfl
    rw [e]
    by_cases h3 : t.kind = 3
    · rw [refB_words0 h3]
      by_cases hb : t.text.all blankC = true
      · rw [if_pos hb, if_pos ⟨h3, hb⟩]
        exact refB_build m r dn k hr hrk
      · rw [if_neg hb, if_neg (fun h => hb h.2), if_neg (fun h => by omega)]
    rw [if_neg (fun h : t.kind = 3 ∧ _ => h3 h.1)]
    by_cases h1 : t.kind = 1
    · rw [refB_open h1, if_neg (by simp)]
      cases dn with
      | some n => rw [if_pos (by rfl), if_neg (fun h => by cases h.2)]
      | none =>
        rw [if_neg (by simp), if_pos ⟨h1, rfl⟩, refB_elem m r [] none t.name t.attrs [] [] hr (by simp)]
        show andB (elemL 0 t.name t.attrs [] [] r) _ = _
        cases he : elemL 0 t.name t.attrs [] [] r with
        | error e => rfl
        | ok p =>
          obtain ⟨x, r'⟩ := p
          have hl := elemF_len _ _ _ _ _ _ _ he
          exact refB_build m r' (some x) k (by omega) (by omega)
    rw [if_neg (fun h : t.kind = 1 ∧ _ => h1 h.1)]
    by_cases h2 : t.kind = 2
    · exact refB_close0 h2 _ _
    · exact refB_else h1 h2 h3 _ _ _
/-- TreeBuilds -/
theorem refB_eq (l : List TokD) : refB [] none l = buildL l := refB_build _ l none _ (Nat.lt_succ_self _) (Nat.lt_succ_self _)
end Go.Proofs.YtpinjgdnhbogoaaGreatDoor

/- The reference's helpers of layer 11 in the same plain words (no program). -/
namespace Go.Proofs.YtpinjgdnhbogoaaGreatDoor

/-- where p stands in s from i on; -1: nowhere -/
def findZ (p s : Str) (i : Nat) : Int := match cutL p (s.drop i) with | none => -1 | some q => ((i + q.1.length : Nat) : Int)
theorem cut_short : ∀ {p s : Str}, s.length < p.length → cutL p s = none
  | [], _, h => by simp at h
  | y :: p, [], h => by simp [cutL]
  | y :: p, x :: t, h => by
    unfold cutL
    rw [if_neg (fun hp => by have := (List.isPrefixOf_iff_prefix.1 hp).length_le; omega), cut_short (p := y :: p) (s := t) (by simp at h ⊢; omega)]; rfl
theorem drop_cons {s : Str} {i : Nat} (hi : i < s.length) : s.drop i = s[i] :: s.drop (i + 1) := List.drop_eq_getElem_cons hi
theorem find_hit {p s : Str} {i : Nat} (hi : i < s.length) (h : p.isPrefixOf (s.drop i) = true) : findZ p s i = (i : Int) := by
  unfold findZ
  rw [drop_cons hi] at h ⊢
  unfold cutL
  rw [if_pos h]; rfl
theorem find_miss {p s : Str} {i : Nat} (hi : i < s.length) (h : ¬ p.isPrefixOf (s.drop i) = true) : findZ p s i = findZ p s (i + 1) := by
  unfold findZ
  rw [drop_cons hi] at h ⊢
  conv => lhs; unfold cutL
  rw [if_neg h]
  cases cutL p (s.drop (i + 1)) with
  | none => rfl
  | some q => simp only [Option.map_some, List.length_cons]; rw [show i + (q.1.length + 1) = i + 1 + q.1.length by omega]
theorem find_end {p s : Str} {i : Nat} (h0 : 0 < p.length) (h : s.length < i + p.length) : findZ p s i = -1 := by
  unfold findZ
  rw [cut_short (by rw [List.length_drop]; omega)]
theorem find_none {p s : Str} {i : Nat} (h : findZ p s i < 0) : cutL p (s.drop i) = none := by
  unfold findZ at h
  cases hc : cutL p (s.drop i) with
  | none => rfl
  | some q => rw [hc] at h; simp only at h; omega
theorem find_some {p s : Str} {i : Nat} (h : ¬ findZ p s i < 0) : ∃ a b, cutL p (s.drop i) = some (a, b) ∧ findZ p s i = ((i + a.length : Nat) : Int) ∧ s.drop i = a ++ (p ++ b) := by
  unfold findZ at h ⊢
  cases hc : cutL p (s.drop i) with
  | none => rw [hc] at h; simp at h
  | some q => exact ⟨q.1, q.2, rfl, rfl, cutL_some hc⟩

/-! ### digits -/
def sixV (c : UInt8) : Int := if digV c < 16 then digV c else -1
def numQ (base most : Nat) (ds : Str) : Bool := ds.all (fun c => decide (digV c < base)) && decide (ds.length ≤ most)
theorem numL_num (base most : Nat) (ds : Str) : numL base most ds = if !ds.isEmpty && numQ base most ds && runeOK (numV base ds) then some (utf8L (numV base ds)) else none := by
  unfold numL numQ
  cases ds.isEmpty <;> simp [Bool.and_assoc]

/-! ### a reference -/
def refNames : List (Str × Str) := [([97, 109, 112, 59], [38]), ([108, 116, 59], [60]), ([103, 116, 59], [62]), ([113, 117, 111, 116, 59], [34]), ([97, 112, 111, 115, 59], [39])]
theorem ref_named {p c s : Str} (h : (p, c) ∈ refNames) (hp : p.isPrefixOf s = true) : refL s = some (c, s.drop p.length) := by
  obtain ⟨r, rfl⟩ := List.isPrefixOf_iff_prefix.1 hp
  rw [List.drop_left]
  simp only [refNames, List.mem_cons, Prod.mk.injEq, List.not_mem_nil, or_false] at h
  rcases h with ⟨rfl, rfl⟩ | ⟨rfl, rfl⟩ | ⟨rfl, rfl⟩ | ⟨rfl, rfl⟩ | ⟨rfl, rfl⟩
  · exact ref_amp r
  · exact ref_lt r
  · exact ref_gt r
  · exact ref_quot r
  · exact ref_apos r
def numRef (b : Str) : Option Str := match b with | 35 :: 120 :: ds => numL 16 6 ds | 35 :: ds => numL 10 7 ds | _ => none
theorem numRef_16 (ds : Str) : numRef (35 :: 120 :: ds) = numL 16 6 ds := rfl
theorem numRef_10 {ds : Str} (hx : ∀ t, ds ≠ 120 :: t) : numRef (35 :: ds) = numL 10 7 ds := by
  cases ds with
  | nil => rfl
  | cons c t =>
    have h : c ≠ 120 := fun e => hx t (by rw [e])
    unfold numRef
    split
    · rename_i he; injection he with _ he; injection he with he _; exact absurd he h
    · rename_i he; injection he with _ he; rw [he]
    · rename_i he; exact absurd rfl (he _)
theorem numRef_no {b : Str} (hb : ∀ t, b ≠ 35 :: t) : numRef b = none := by
  unfold numRef
  split
  · exact absurd rfl (hb _)
  · exact absurd rfl (hb _)
  · rfl
/-- none of the five: a number, or nothing -/
theorem ref_other {s : Str} (h : ∀ q ∈ refNames, ¬ q.1.isPrefixOf s = true) : refL s = match cutL [59] s with
    | none => none
    | some (b, rest) => (numRef b).map fun t => (t, rest) := by
  unfold refL
  cases hc : cutL [59] s with
  | none => rfl
  | some q =>
    obtain ⟨b, rest⟩ := q
    have hs := cutL_some hc
    have key : ∀ p c, (p ++ [59], c) ∈ refNames → b ≠ p := by
      rintro p c hm rfl
      refine h _ hm (List.isPrefixOf_iff_prefix.2 ⟨rest, ?_⟩)
      rw [hs, List.append_assoc]
    dsimp only
    unfold bodyL
    rw [if_neg (key [97, 109, 112] [38] (by simp [refNames])), if_neg (key [108, 116] [60] (by simp [refNames])), if_neg (key [103, 116] [62] (by simp [refNames])), if_neg (key [113, 117, 111, 116] [34] (by simp [refNames])), if_neg (key [97, 112, 111, 115] [39] (by simp [refNames]))]
    rfl
end Go.Proofs.YtpinjgdnhbogoaaGreatDoor

/- Building a tree, token by token (no program). -/
namespace Go.Proofs.YtpinjgdnhbogoaaGreatDoor

theorem buildF_fuel : ∀ (n m : Nat) (o : Option NodeD) (l : List TokD), l.length < n → l.length < m → buildF n o l = buildF m o l
  | 0, _, _, _, h, _ => by omega
  | _, 0, _, _, _, h => by omega
  | n + 1, m + 1, o, [], _, _ => by cases o <;> rfl
  | n + 1, m + 1, o, t :: r, h1, h2 => by
    have e : ∀ k, buildF (k + 1) o (t :: r) = if t.kind = 3 ∧ t.text.all blankC = true then buildF k o r
        else if t.kind = 1 ∧ o.isNone = true then match elemL 0 t.name t.attrs [] [] r with
          | .error e => .error e
          | .ok (n, r') => buildF k (some n) r'
        else .error 8 := fun k => by cases o <;> (conv => lhs; unfold buildF) <;> rfl
    have hr1 : r.length < n := by simp at h1; omega
    have hr2 : r.length < m := by simp at h2; omega
    rw [e, e, buildF_fuel n m o r hr1 hr2]
    cases he : elemL 0 t.name t.attrs [] [] r with
    | error x => rfl
    | ok p =>
      obtain ⟨k, r'⟩ := p
      have hl := elemF_len _ _ _ _ _ _ _ he
      dsimp only
      rw [buildF_fuel n m (some k) r' (by omega) (by omega)]
def buildG (o : Option NodeD) (l : List TokD) : Except Int NodeD := buildF (l.length + 1) o l
theorem buildG_nil (o : Option NodeD) : buildG o [] = match o with | none => .error 8 | some n => .ok n := by cases o <;> rfl
theorem buildG_cons (o : Option NodeD) (t : TokD) (r : List TokD) : buildG o (t :: r) = if t.kind = 3 ∧ t.text.all blankC = true then buildG o r
        else if t.kind = 1 ∧ o.isNone = true then match elemL 0 t.name t.attrs [] [] r with
          | .error e => .error e
          | .ok (n, r') => buildG (some n) r'
        else .error 8 := by
  have e : buildF ((t :: r).length + 1) o (t :: r) = if t.kind = 3 ∧ t.text.all blankC = true then buildF (t :: r).length o r
        else if t.kind = 1 ∧ o.isNone = true then match elemL 0 t.name t.attrs [] [] r with
          | .error e => .error e
          | .ok (n, r') => buildF (t :: r).length (some n) r'
        else .error 8 := by cases o <;> (conv => lhs; unfold buildF) <;> rfl
  show buildF ((t :: r).length + 1) o (t :: r) = _
  rw [e]
  unfold buildG
  rw [buildF_fuel (t :: r).length (r.length + 1) o r (by simp) (by simp)]
  cases he : elemL 0 t.name t.attrs [] [] r with
  | error x => rfl
  | ok p =>
    obtain ⟨k, r'⟩ := p
    have hl := elemF_len _ _ _ _ _ _ _ he
    dsimp only
    rw [buildF_fuel (t :: r).length (r'.length + 1) (some k) r' (by simp; omega) (by simp)]
theorem buildG_start (l : List TokD) : buildG none l = buildL l := rfl
end Go.Proofs.YtpinjgdnhbogoaaGreatDoor

/- The kids of all names together are the kids, each once (no program). -/
namespace Go.Proofs.YtpinjgdnhbogoaaGreatDoor

/-- how many kids have a name of one of the first k -/
def seenN (ks : List NodeD) (k : Nat) : Nat := ks.countP fun x => (ks.take k).any fun y => y.name == x.name
end Go.Proofs.YtpinjgdnhbogoaaGreatDoor

/- The law's copy of a tree, up to some depth, so many elements, so many attributes (no program). -/
namespace Go.Proofs.YtpinjgdnhbogoaaGreatDoor

mutual
def cpN : NodeD → Nat → Int → NodeD × Int
  | .mk nm la tx ks, deep, left => (.mk nm (la.take 30) tx (cpK ks deep (left - 1)).1, (cpK ks deep (left - 1)).2)
def cpK : List NodeD → Nat → Int → List NodeD × Int
  | [], _, left => ([], left)
  | k :: ks, deep, left => if 0 < deep ∧ 0 < left then ((cpN k (deep - 1) left).1 :: (cpK ks deep (cpN k (deep - 1) left).2).1, (cpK ks deep (cpN k (deep - 1) left).2).2) else ([], left)
end
mutual
/-- no element has more than so many attributes -/
def fewN : NodeD → Prop
  | .mk _ la _ ks => la.length ≤ 30 ∧ fewK ks
def fewK : List NodeD → Prop
  | [] => True
  | k :: ks => fewN k ∧ fewK ks
end
theorem cpN_eq (nm : Str) (la : List (Str × Str)) (tx : Str) (ks : List NodeD) (deep : Nat) (left : Int) : cpN (.mk nm la tx ks) deep left = (.mk nm (la.take 30) tx (cpK ks deep (left - 1)).1, (cpK ks deep (left - 1)).2) := by
  conv => lhs; unfold cpN
theorem cpK_cons (k : NodeD) (ks : List NodeD) (deep : Nat) (left : Int) : cpK (k :: ks) deep left = if 0 < deep ∧ 0 < left then ((cpN k (deep - 1) left).1 :: (cpK ks deep (cpN k (deep - 1) left).2).1, (cpK ks deep (cpN k (deep - 1) left).2).2) else ([], left) := by
  conv => lhs; unfold cpK
theorem cpK_nil (deep : Nat) (left : Int) : cpK [] deep left = ([], left) := by unfold cpK; rfl
theorem cpK_stop (ks : List NodeD) {deep : Nat} {left : Int} (h : ¬ (0 < deep ∧ 0 < left)) : cpK ks deep left = ([], left) := by
  cases ks with
  | nil => exact cpK_nil _ _
  | cons k ks => rw [cpK_cons, if_neg h]
end Go.Proofs.YtpinjgdnhbogoaaGreatDoor

/- When two trees are the same; what Size and Tokens do step by step (no program). -/
namespace Go.Proofs.YtpinjgdnhbogoaaGreatDoor

mutual
def sameN : NodeD → NodeD → Bool
  | .mk n a t k, .mk n2 a2 t2 k2 => decide (n = n2) && (decide (t = t2) && (decide (a = a2) && sameK k k2))
def sameK : List NodeD → List NodeD → Bool
  | [], [] => true
  | x :: l, y :: m => sameN x y && sameK l m
  | _ :: _, [] => false
  | [], _ :: _ => false
end
mutual
/-- a measure: how many elements there are in one another -/
def weighN : NodeD → Nat
  | .mk _ _ _ k => weighK k + 1
def weighK : List NodeD → Nat
  | [] => 0
  | x :: l => weighN x + weighK l + 1
end
/-! ### Size -/
theorem manyK_take : ∀ {l : List NodeD} {i : Nat} {x : NodeD}, l[i]? = some x → manyK (l.take (i + 1)) = manyK (l.take i) + manyN x
  | [], _, _, h => by simp at h
  | y :: l, 0, x, h => by simp at h; subst h; simp [manyK]
  | y :: l, i + 1, x, h => by
    have := manyK_take (l := l) (i := i) (by simpa using h)
    rw [List.take_succ_cons, List.take_succ_cons]
    unfold manyK; omega
theorem deepK_take : ∀ {l : List NodeD} {i : Nat} {x : NodeD}, l[i]? = some x → deepK (l.take (i + 1)) = max (deepK (l.take i)) (deepN x)
  | [], _, _, h => by simp at h
  | y :: l, 0, x, h => by simp at h; subst h; simp [deepK]
  | y :: l, i + 1, x, h => by
    have := deepK_take (l := l) (i := i) (by simpa using h)
    rw [List.take_succ_cons, List.take_succ_cons]
    unfold deepK; rw [this]; omega
/-- the deepest, when an element at a depth has been looked at -/
def deepTo (best d : Nat) (n : NodeD) : Nat := max best (d + deepN n - 1)
theorem deepTo_kids (best d : Nat) (l : List NodeD) (i : Nat) {x : NodeD} (h : l[i]? = some x) : deepTo (max (max best d) (d + deepK (l.take i))) (d + 1) x = max (max best d) (d + deepK (l.take (i + 1))) := by
  rw [deepK_take h]
  unfold deepTo
  have hp : 0 < deepN x := by cases x; unfold deepN; omega
  omega
/-! ### Tokens -/
/-! ### All -/
theorem all_take {l : List NodeD} {nm : Str} {i : Nat} {x : NodeD} (h : l[i]? = some x) : (l.take (i + 1)).filter (fun k => k.name == nm) = (l.take i).filter (fun k => k.name == nm) ++ if x.name = nm then [x] else [] := by
  rw [List.take_add_one, h, List.filter_append]
  congr 1
  by_cases hx : x.name = nm <;> simp [hx]
end Go.Proofs.YtpinjgdnhbogoaaGreatDoor

/- The reference's said, attr, tag, part, Read in the same plain words (no program). -/
namespace Go.Proofs.YtpinjgdnhbogoaaGreatDoor

theorem drop_getD {s : Str} {i : Nat} (hi : i < s.length) : s.drop i = s.getD i 0 :: s.drop (i + 1) := by
  rw [List.drop_eq_getElem_cons hi, List.getD_eq_getElem?_getD, List.getElem?_eq_getElem hi]; rfl

/-! ### said -/
/-- i bytes of s are read, and say u -/
def SaidAt (s : Str) (i : Nat) (u : Str) : Prop := i ≤ s.length ∧ saidL s = match saidL (s.drop i) with | .ok v => .ok (u ++ v) | .error k => .error (i + k)
theorem SaidAt.start (s : Str) : SaidAt s 0 [] := by
  refine ⟨Nat.zero_le _, ?_⟩
  rw [List.drop_zero]
  cases saidL s with
  | ok v => rfl
  | error k => simp
theorem SaidAt.plain {s : Str} {i : Nat} {u : Str} (h : SaidAt s i u) (hi : i < s.length) (hc : s.getD i 0 ≠ 38) : SaidAt s (i + 1) (u ++ [s.getD i 0]) := by
  refine ⟨hi, ?_⟩
  rw [h.2, drop_getD hi, saidL_cons _ hc]
  cases saidL (s.drop (i + 1)) with
  | ok v => simp
  | error k => simp; omega
theorem refL_left {m t left : Str} (h : refL m = some (t, left)) : left = m.drop (m.length - left.length) := by
  unfold refL at h
  cases hc : cutL [59] m with
  | none => rw [hc] at h; cases h
  | some q =>
    obtain ⟨b, rest⟩ := q
    rw [hc] at h
    dsimp only at h
    cases hb : bodyL b with
    | none => rw [hb] at h; cases h
    | some x =>
      rw [hb] at h
      simp only [Option.map_some, Option.some.injEq, Prod.mk.injEq] at h
      obtain ⟨_, rfl⟩ := h
      have e := cutL_some hc
      rw [← List.append_assoc] at e
      have hl : m.length - rest.length = (b ++ [59]).length := by rw [e]; simp; omega
      rw [hl, e, List.drop_left]
theorem SaidAt.ref {s : Str} {i : Nat} {u t left : Str} (h : SaidAt s i u) (hi : i < s.length) (hc : s.getD i 0 = 38) (hr : refL (s.drop (i + 1)) = some (t, left)) :
    SaidAt s (i + (1 + ((s.drop (i + 1)).length - left.length))) (u ++ t) := by
  have hl := refL_len hr
  have hd : (s.drop (i + 1)).length = s.length - (i + 1) := List.length_drop
  refine ⟨by omega, ?_⟩
  have e : s.drop (i + (1 + ((s.drop (i + 1)).length - left.length))) = left := by
    have h1 := refL_left hr
    rw [List.drop_drop] at h1
    rw [← Nat.add_assoc, ← h1]
  rw [e, h.2, drop_getD hi, hc, saidL_amp hr]
  cases saidL left with
  | ok v => simp
  | error k => simp; omega
theorem SaidAt.bad {s : Str} {i : Nat} {u : Str} (h : SaidAt s i u) (hi : i < s.length) (hc : s.getD i 0 = 38) (hr : refL (s.drop (i + 1)) = none) : saidL s = .error i := by
  rw [h.2, drop_getD hi, hc, saidL_none hr]; rfl
theorem SaidAt.done {s : Str} {u : Str} (h : SaidAt s s.length u) : saidL s = .ok u := by
  rw [h.2, List.drop_length, saidL_nil]; simp
theorem SaidAt.len {s : Str} : ∀ {i : Nat} {u : Str}, SaidAt s i u → i ≤ s.length := fun h => h.1

/-! ### blanks -/
def blanksN (s : Str) : Nat := s.length - (trimL s).length
theorem blanks_drop (s : Str) : s.drop (blanksN s) = trimL s := by
  unfold blanksN trimL
  have h : s = s.takeWhile blankC ++ s.dropWhile blankC := (List.takeWhile_append_dropWhile).symm
  have hl : s.length - (s.dropWhile blankC).length = (s.takeWhile blankC).length := by
    have := congrArg List.length h
    rw [List.length_append] at this
    omega
  rw [hl]
  conv => lhs; rw [h]
  rw [List.drop_left' (by rw [← h])]
theorem blanks_le (s : Str) : blanksN s ≤ s.length := Nat.sub_le _ _
/-- k blanks stand ahead -/
def BlankTo (s : Str) (k : Nat) : Prop := k ≤ s.length ∧ trimL s = trimL (s.drop k)
theorem BlankTo.start (s : Str) : BlankTo s 0 := ⟨Nat.zero_le _, by rw [List.drop_zero]⟩
theorem BlankTo.step {s : Str} {k : Nat} (h : BlankTo s k) (hk : k < s.length) (hb : blankC (s.getD k 0) = true) : BlankTo s (k + 1) := by
  refine ⟨hk, ?_⟩
  rw [h.2, drop_getD hk]
  unfold trimL
  rw [List.dropWhile_cons, if_pos hb]
theorem BlankTo.stop {s : Str} {k : Nat} (h : BlankTo s k) (hk : k < s.length) (hb : blankC (s.getD k 0) = false) : blanksN s = k := by
  unfold blanksN
  rw [h.2, drop_getD hk]
  unfold trimL
  rw [List.dropWhile_cons, if_neg (by rw [hb]; simp), ← drop_getD hk, List.length_drop]; omega
theorem BlankTo.all {s : Str} {k : Nat} (h : BlankTo s k) (hk : ¬ k < s.length) : blanksN s = k := by
  have h1 := h.1
  unfold blanksN
  rw [h.2, show k = s.length by omega, List.drop_length]
  unfold trimL; simp
/-! ### an attribute -/
theorem attr_noName {s : Str} (h : nameL s = []) : attrL s = none := by unfold attrL; rw [h]; rfl
/-- the place behind the name and its blanks -/
def eqAt (s : Str) : Nat := (nameL s).length + blanksN (s.drop (nameL s).length)
theorem eq_drop (s : Str) : s.drop (eqAt s) = trimL (s.drop (nameL s).length) := by
  unfold eqAt
  rw [← List.drop_drop, blanks_drop]
theorem eq_le (s : Str) : eqAt s ≤ s.length := by
  have h1 := blanks_le (s.drop (nameL s).length)
  have h2 := name_le s
  rw [List.length_drop] at h1
  unfold eqAt; omega
def quoteAt (s : Str) : Nat := eqAt s + 1 + blanksN (s.drop (eqAt s + 1))
theorem quote_drop (s : Str) : s.drop (quoteAt s) = trimL (s.drop (eqAt s + 1)) := by
  unfold quoteAt
  rw [← List.drop_drop, blanks_drop]
theorem quote_le {s : Str} (h : eqAt s < s.length) : quoteAt s ≤ s.length := by
  have h1 := blanks_le (s.drop (eqAt s + 1))
  rw [List.length_drop] at h1
  unfold quoteAt; omega
theorem attr_noEq {s : Str} (h : s.length ≤ eqAt s ∨ s.getD (eqAt s) 0 ≠ 61) : attrL s = none := by
  unfold attrL
  split
  · rfl
  rw [← eq_drop]
  rcases Nat.lt_or_ge (eqAt s) s.length with h1 | h1
  · have h2 : s.getD (eqAt s) 0 ≠ 61 := by rcases h with h | h; omega; exact h
    rw [drop_getD h1]
    split
    · rename_i he; injection he with he _; exact absurd he h2
    · rfl
  · rw [List.drop_eq_nil_of_le h1]
theorem attr_eq {s : Str} (hn : nameL s ≠ []) (h1 : eqAt s < s.length) (h2 : s.getD (eqAt s) 0 = 61) : attrL s = match s.drop (quoteAt s) with
    | q :: s4 => if q = 34 ∨ q = 39 then
          match cutL [q] s4 with
          | none => none
          | some (value, rest) => match saidL value with
            | .error _ => none
            | .ok v => if value.contains 60 then none else some (nameL s, v, rest)
        else none
    | [] => none := by
  unfold attrL
  rw [if_neg (by simpa using hn), ← eq_drop, drop_getD h1, h2, quote_drop]
  rfl
theorem attr_noQuote {s : Str} (h1 : eqAt s < s.length) (h : s.length ≤ quoteAt s ∨ (s.getD (quoteAt s) 0 ≠ 34 ∧ s.getD (quoteAt s) 0 ≠ 39)) : attrL s = none := by
  by_cases hn : nameL s = []
  · exact attr_noName hn
  by_cases h2 : s.getD (eqAt s) 0 = 61
  · rw [attr_eq hn h1 h2]
    rcases Nat.lt_or_ge (quoteAt s) s.length with h3 | h3
    · have h4 : s.getD (quoteAt s) 0 ≠ 34 ∧ s.getD (quoteAt s) 0 ≠ 39 := by rcases h with h | h; omega; exact h
      rw [drop_getD h3]
      dsimp only
      rw [if_neg (by intro e; rcases e with e | e; exact h4.1 e; exact h4.2 e)]
    · rw [List.drop_eq_nil_of_le h3]
  · exact attr_noEq (.inr h2)
section
variable {s : Str} (hn : nameL s ≠ []) (h1 : eqAt s < s.length) (h2 : s.getD (eqAt s) 0 = 61) (h3 : quoteAt s < s.length) (h4 : s.getD (quoteAt s) 0 = 34 ∨ s.getD (quoteAt s) 0 = 39)
include hn h1 h2 h3 h4
theorem attr_quote : attrL s = match cutL [s.getD (quoteAt s) 0] (s.drop (quoteAt s + 1)) with
          | none => none
          | some (value, rest) => match saidL value with
            | .error _ => none
            | .ok v => if value.contains 60 then none else some (nameL s, v, rest) := by
  rw [attr_eq hn h1 h2, drop_getD h3]
  dsimp only
  rw [if_pos h4]
end
theorem cut1_none {c : UInt8} : ∀ {s : Str}, cutL [c] s = none ↔ c ∉ s
  | [] => by simp [cutL]
  | x :: t => by
    rw [cut1_cons]
    by_cases hx : x = c
    · subst hx; simp
    · rw [if_neg hx, Option.map_eq_none_iff, cut1_none]
      simp only [List.mem_cons, not_or]
      exact ⟨fun h => ⟨fun e => hx e.symm, h⟩, fun h => h.2⟩
/-- is a byte found in s from i on, up to e? -/
theorem find_take {c : UInt8} {s : Str} {i e : Nat} : 0 ≤ findZ [c] (s.take e) i ↔ c ∈ (s.take e).drop i := by
  unfold findZ
  cases hc : cutL [c] ((s.take e).drop i) with
  | none => simp [cut1_none.1 hc]
  | some q =>
    simp only [Int.natCast_nonneg, true_iff]
    exact Classical.byContradiction fun h => by rw [cut1_none.2 h] at hc; cases hc
theorem take_mid {s : Str} {i : Nat} {a b : Str} (h : s.drop i = a ++ b) (_hi : i ≤ s.length) : (s.take (i + a.length)).drop i = a := by
  rw [List.drop_take, h, show i + a.length - i = a.length by omega, List.take_left' rfl]
theorem cut_place {p s : Str} {i : Nat} {a b : Str} (h : cutL p (s.drop i) = some (a, b)) (hi : i ≤ s.length) : s.length - b.length = i + a.length + p.length ∧ i + a.length + p.length ≤ s.length ∧ b = s.drop (i + a.length + p.length) := by
  have e := cutL_some h
  have hl := congrArg List.length e
  rw [List.length_drop, List.length_append, List.length_append] at hl
  refine ⟨by omega, by omega, ?_⟩
  have h2 : s.drop (i + a.length + p.length) = (s.drop i).drop (a.length + p.length) := by rw [List.drop_drop, Nat.add_assoc]
  rw [h2, e, ← List.append_assoc, List.drop_left' (by simp)]

/-- the place behind p, from i on; 0: none -/
def untilN (p s : Str) (i : Nat) : Nat := match cutL p (s.drop i) with | none => 0 | some q => i + q.1.length + p.length
theorem until_none {p s : Str} {i : Nat} (h : findZ p s i < 0) : untilN p s i = 0 := by unfold untilN; rw [find_none h]
theorem until_some {p s : Str} {i : Nat} (h : ¬ findZ p s i < 0) : (untilN p s i : Int) = findZ p s i + (p.length : Int) := by
  obtain ⟨a, b, h1, h2, _⟩ := find_some h
  unfold untilN
  rw [h1, h2]; simp
/-- how many bytes a part has; 0: it is none -/
def partN (s : Str) : Nat := match partL s with | none => 0 | some (_, _, left) => s.length - left.length
end Go.Proofs.YtpinjgdnhbogoaaGreatDoor

/- The reference's Squeeze, byte by byte (no program). -/
namespace Go.Proofs.YtpinjgdnhbogoaaGreatDoor

/-- i bytes are read; b is written, with a gap to come or not -/
structure SqAt (s : Str) (i : Nat) (b : Str) (gap : Bool) : Prop where
  le : i ≤ s.length
  eq : squeezeL s = b ++ sqF (!b.isEmpty) gap (s.drop i)
  len : b.length + gap.toNat ≤ i
theorem SqAt.start (s : Str) : SqAt s 0 [] false := ⟨Nat.zero_le _, by rw [List.drop_zero]; rfl, Nat.le_refl _⟩
theorem SqAt.blank {s : Str} {i : Nat} {b : Str} {gap : Bool} (h : SqAt s i b gap) (hi : i < s.length) (hc : blankC (s.getD i 0) = true) : SqAt s (i + 1) b (!b.isEmpty) := by
  refine ⟨hi, by rw [h.eq, drop_getD hi, sq_blank hc], ?_⟩
  have := h.len
  cases b with
  | nil => exact Nat.zero_le _
  | cons x l => simp at this ⊢; omega
theorem SqAt.gap {s : Str} {i : Nat} {b : Str} (h : SqAt s i b true) (hi : i < s.length) (hc : blankC (s.getD i 0) = false) : SqAt s (i + 1) (b ++ [32] ++ [s.getD i 0]) false := by
  refine ⟨hi, ?_, ?_⟩
  · rw [h.eq, drop_getD hi, sq_plain hc]
    cases b <;> simp
  · have := h.len
    simp at this ⊢; omega
theorem SqAt.plain {s : Str} {i : Nat} {b : Str} (h : SqAt s i b false) (hi : i < s.length) (hc : blankC (s.getD i 0) = false) : SqAt s (i + 1) (b ++ [s.getD i 0]) false := by
  refine ⟨hi, ?_, ?_⟩
  · rw [h.eq, drop_getD hi, sq_plain hc]
    cases b <;> simp
  · have := h.len
    simp at this ⊢; omega
theorem SqAt.done {s : Str} {b : Str} {gap : Bool} (h : SqAt s s.length b gap) : squeezeL s = b := by
  rw [h.eq, List.drop_length]
  show b ++ [] = b
  simp
end Go.Proofs.YtpinjgdnhbogoaaGreatDoor
