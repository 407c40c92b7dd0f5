/- What layer 11 reads of a text, in plain words (no program). -/
import Derived.WalkKit
namespace Go.Proofs.YtpinjgdnhbogoaaGreatDoor

abbrev Str := List UInt8
structure TokD where
  kind : Int
  name : Str
  attrs : List (Str × Str)
  text : Str
deriving DecidableEq

def blankC (c : UInt8) : Bool := c == 32 || c == 9 || c == 10 || c == 13
def beginsC (c : UInt8) : Bool := (decide (65 ≤ c.toNat) && decide (c.toNat ≤ 90)) || (decide (97 ≤ c.toNat) && decide (c.toNat ≤ 122)) || c == 95 || c == 58 || decide (128 ≤ c.toNat)
def goesC (c : UInt8) : Bool := beginsC c || (decide (48 ≤ c.toNat) && decide (c.toNat ≤ 57)) || c == 46 || c == 45
def nameL : Str → Str
  | [] => []
  | c :: t => if beginsC c then c :: t.takeWhile goesC else []
def trimL (s : Str) : Str := s.dropWhile blankC
/-- what is ahead of a text, and behind it; none: it is not there -/
def cutL (p : Str) : Str → Option (Str × Str)
  | [] => if p.isEmpty then some ([], []) else none
  | x :: t => if p.isPrefixOf (x :: t) then some ([], (x :: t).drop p.length) else (cutL p t).map fun q => (x :: q.1, q.2)
def digV (c : UInt8) : Nat := if 48 ≤ c.toNat ∧ c.toNat ≤ 57 then c.toNat - 48 else if 97 ≤ c.toNat ∧ c.toNat ≤ 122 then c.toNat - 87 else if 65 ≤ c.toNat ∧ c.toNat ≤ 90 then c.toNat - 55 else 99
def numV (base : Nat) (l : Str) : Nat := l.foldl (fun v c => base * v + digV c) 0
def runeOK (v : Nat) : Bool := decide (1 ≤ v) && decide (v ≤ 1114111) && !(decide (55296 ≤ v) && decide (v ≤ 57343))
def utf8L (v : Nat) : Str :=
  if v < 128 then [UInt8.ofNat v]
  else if v < 2048 then [UInt8.ofNat (192 + v / 64), UInt8.ofNat (128 + v % 64)]
  else if v < 65536 then [UInt8.ofNat (224 + v / 4096), UInt8.ofNat (128 + v / 64 % 64), UInt8.ofNat (128 + v % 64)]
  else [UInt8.ofNat (240 + v / 262144), UInt8.ofNat (128 + v / 4096 % 64), UInt8.ofNat (128 + v / 64 % 64), UInt8.ofNat (128 + v % 64)]
def numL (base most : Nat) (ds : Str) : Option Str :=
  if !ds.isEmpty && ds.all (fun c => decide (digV c < base)) && decide (ds.length ≤ most) && runeOK (numV base ds) then some (utf8L (numV base ds)) else none
def bodyL (b : Str) : Option Str :=
  if b = [97, 109, 112] then some [38] else if b = [108, 116] then some [60] else if b = [103, 116] then some [62] else if b = [113, 117, 111, 116] then some [34] else if b = [97, 112, 111, 115] then some [39]
  else match b with
    | 35 :: 120 :: ds => numL 16 6 ds
    | 35 :: ds => numL 10 7 ds
    | _ => none
def refL (s : Str) : Option (Str × Str) := match cutL [59] s with | none => none | some (b, rest) => (bodyL b).map fun t => (t, rest)
/-- what a text says; else the place of what is no reference -/
def saidF : Nat → Str → Except Nat Str
  | 0, s => .ok s
  | n + 1, s => match cutL [38] s with
    | none => .ok s
    | some (plain, more) => match refL more with
      | none => .error plain.length
      | some (t, left) => match saidF n left with
        | .ok u => .ok (plain ++ (t ++ u))
        | .error k => .error (plain.length + 1 + (more.length - left.length) + k)
def saidL (s : Str) : Except Nat Str := saidF (s.length + 1) s
def attrL (s : Str) : Option (Str × Str × Str) :=
  if (nameL s).isEmpty then none
  else match trimL (s.drop (nameL s).length) with
    | 61 :: s2 => match trimL s2 with
      | q :: s4 => if q = 34 ∨ q = 39 then
          match cutL [q] s4 with
          | none => none
          | some (value, rest) => match saidL value with
            | .error _ => none
            | .ok v => if value.contains 60 then none else some (nameL s, v, rest)
        else none
      | [] => none
    | _ => none
/-- the attributes of a tag, whether it closes itself, and what is behind it -/
def attrsF : Nat → List (Str × Str) → Str → Option (List (Str × Str) × Bool × Str)
  | 0, _, _ => none
  | n + 1, l, s =>
    let rest := trimL s
    if [47, 62].isPrefixOf rest then some (l, true, rest.drop 2)
    else if [62].isPrefixOf rest then some (l, false, rest.drop 1)
    else if rest.length = s.length then none
    else match attrL rest with
      | none => none
      | some (a, v, left) => if l.any (fun b => b.1 == a) then none else attrsF n (l ++ [(a, v)]) left
def tagL (s : Str) : Option (List TokD × Str) :=
  if (nameL s).isEmpty then none
  else match attrsF (s.length + 1) [] (s.drop (nameL s).length) with
    | none => none
    | some (l, true, rest) => some ([⟨1, nameL s, l, []⟩, ⟨2, nameL s, [], []⟩], rest)
    | some (l, false, rest) => some ([⟨1, nameL s, l, []⟩], rest)
def stripL (p s : Str) : Option Str := if p.isPrefixOf s then some (s.drop p.length) else none
def closeL (s : Str) : Option (List TokD × Str) :=
  if (nameL s).isEmpty then none
  else match trimL (s.drop (nameL s).length) with
    | 62 :: rest => some ([⟨2, nameL s, [], []⟩], rest)
    | _ => none
def partL (s : Str) : Option (Str × List TokD × Str) :=
  match stripL [60, 33, 45, 45] s with
  | some r => (cutL [45, 45, 62] r).map fun q => ([], [], q.2)
  | none => match stripL [60, 63] s with
    | some r => (cutL [63, 62] r).map fun q => ([], [], q.2)
    | none => match stripL [60, 33, 91, 67, 68, 65, 84, 65, 91] s with
      | some r => (cutL [93, 93, 62] r).map fun q => (q.1, [], q.2)
      | none => match stripL [60, 33, 68, 79, 67, 84, 89, 80, 69] s with
        | some r => match cutL [62] r with
          | none => none
          | some (t, rest) => if t.contains 60 || t.contains 91 then none else some ([], [], rest)
        | none => match stripL [60, 47] s with
          | some r => (closeL r).map fun q => ([], q.1, q.2)
          | none => (tagL (s.drop 1)).map fun q => ([], q.1, q.2)
def flushL (l : List TokD) (words : Str) : List TokD := if words.isEmpty then l else l ++ [⟨3, [], [], words⟩]
/-- at: how many bytes are read -/
def readF : Nat → Nat → List TokD → Str → Str → Except Nat (List TokD)
  | 0, _, l, words, _ => .ok (flushL l words)
  | n + 1, at_, l, words, s => match s with
    | [] => .ok (flushL l words)
    | c :: t => if c ≠ 60 then
        match saidL ((c :: t).takeWhile (· ≠ 60)) with
        | .error k => .error (at_ + k)
        | .ok u => readF n (at_ + ((c :: t).takeWhile (· ≠ 60)).length) l (words ++ u) ((c :: t).dropWhile (· ≠ 60))
      else match partL (c :: t) with
        | none => .error at_
        | some (u, toks, left) =>
          if toks.isEmpty then readF n (at_ + ((c :: t).length - left.length)) l (words ++ u) left
          else readF n (at_ + ((c :: t).length - left.length)) (flushL l (words ++ u) ++ toks) [] left
def readL (s : Str) : Except Nat (List TokD) := readF (s.length + 1) 0 [] [] s
/-- the whole answer: tokens, error, place -/
def readD (s : Str) : List TokD × Int × Int := if 20000 < s.length then ([], 10, 0) else match readL s with | .error k => ([], 8, k) | .ok l => (l, 0, 0)
def ofS (s : String) : Str := s.toUTF8.data.toList

example : readD [60, 97, 32, 98, 61, 34, 49, 38, 97, 109, 112, 59, 50, 34, 62, 120, 60, 33, 45, 45, 32, 121, 32, 45, 45, 62, 60, 33, 91, 67, 68, 65, 84, 65, 91, 60, 122, 62, 93, 93, 62, 60, 47, 97, 62] = ([⟨1, [97], [([98], [49, 38, 50])], []⟩, ⟨3, [], [], [120, 60, 122, 62]⟩, ⟨2, [97], [], []⟩], 0, 0) := by decide +kernel
end Go.Proofs.YtpinjgdnhbogoaaGreatDoor
