/- Layer 3 in plain words: records, and how they are read (no program). -/
import Derived.Test.YtgmghopcppniaaaGreatDoorFBb
namespace Go.Proofs.YtgmghopcppniaaaGreatDoor

structure EntD where
 index : Int
 term : Int
 kind : Int
 data : Str
deriving DecidableEq
inductive RecD where
 | hard (t v : Int)
 | ent (e : EntD)
 | reset
deriving DecidableEq
def textL (s : Str) : Str := intL s.length ++ s
def toTextL (s : Str) : Option (Str × Str) := match toIntL s with
 | none => none
 | some (n, r) => if n < 0 ∨ (r.length : Int) < n then none else some (r.take n.toNat, r.drop n.toNat)
/-- so many numbers, none below 0, and the rest -/
def numsK : Nat → Str → Option (List Int × Str)
 | 0, s => some ([], s)
 | k + 1, s => match toIntL s with
  | none => none
  | some (v, t) => if v < 0 then none else match numsK k t with | none => none | some (l, r) => some (v :: l, r)
def rightE (e : EntD) : Bool := decide (0 < e.index) && (decide (0 ≤ e.term) && (decide (1 ≤ e.kind) && decide (e.kind ≤ 3)))
theorem rightE_parts {e : EntD} : rightE e = true ↔ 0 < e.index ∧ 0 ≤ e.term ∧ 1 ≤ e.kind ∧ e.kind ≤ 3 := by
 unfold rightE; simp only [Bool.and_eq_true, decide_eq_true_eq]
def hardTx (t v : Int) : Str := intsL [1, t, v]
def entTx (e : EntD) : Str := intsL [2, e.index, e.term, e.kind] ++ textL e.data
def payL : RecD → Str
 | .hard t v => hardTx t v
 | .ent e => entTx e
 | .reset => intL 3
/-- a record that may be one -/
def GoodR : RecD → Prop
 | .hard t v => (0 ≤ t ∧ 0 ≤ v) ∧ I64 t ∧ I64 v
 | .ent e => rightE e = true ∧ I64 e.index ∧ I64 e.term ∧ I64 e.kind ∧ e.data.length ≤ 9223372036854775807
 | .reset => True
/-- what stands behind a record's kind -/
def hardOf (r : Str) : Option RecD := match numsK 2 r with
 | some ([t, v], []) => some (.hard t v)
 | _ => none
def entOf (r : Str) : Option RecD := match numsK 3 r with
 | some ([i, t, k], q) => (match toTextL q with
  | some (d, []) => if rightE ⟨i, t, k, d⟩ = true then some (.ent ⟨i, t, k, d⟩) else none
  | _ => none)
 | _ => none
def recL (s : Str) : Option RecD := match toIntL s with
 | none => none
 | some (k, r) => if k = 1 then hardOf r else if k = 2 then entOf r else if k = 3 ∧ r = [] then some .reset else none
theorem nums_good : ∀ (l : List Int) (r : Str), (∀ n ∈ l, I64 n ∧ 0 ≤ n) → numsK l.length (intsL l ++ r) = some (l, r)
 | [], r, _ => rfl
 | n :: l, r, h => by
  obtain ⟨h1, h2⟩ := h n (List.mem_cons_self ..)
  show numsK (l.length + 1) _ = _
  unfold numsK
  rw [intsL_cons, List.append_assoc, toInt_int h1]
  dsimp only
  rw [if_neg (by omega), nums_good l r fun m hm => h m (List.mem_cons_of_mem _ hm)]
theorem numsK_back : ∀ (k : Nat) (s : Str) {l : List Int} {r : Str}, numsK k s = some (l, r) → s = intsL l ++ r ∧ l.length = k ∧ ∀ n ∈ l, I64 n ∧ 0 ≤ n
 | 0, s, l, r, h => by
  simp only [numsK, Option.some.injEq, Prod.mk.injEq] at h
  obtain ⟨rfl, rfl⟩ := h
  exact ⟨rfl, rfl, fun _ h => by cases h⟩
 | k + 1, s, l, r, h => by
  unfold numsK at h
  cases ht : toIntL s with
  | none => rw [ht] at h; cases h
  | some p =>
   obtain ⟨v, t⟩ := p
   rw [ht] at h
   dsimp only at h
   by_cases hv : v < 0
   ·rw [if_pos hv] at h; cases h
   ·rw [if_neg hv] at h
    cases hn : numsK k t with
    | none => rw [hn] at h; cases h
    | some q =>
     obtain ⟨m, r2⟩ := q
     rw [hn] at h
     simp only [Option.some.injEq, Prod.mk.injEq] at h
     obtain ⟨rfl, rfl⟩ := h
     obtain ⟨h1, h2⟩ := toInt_back ht
     obtain ⟨h3, h4, h5⟩ := numsK_back k t hn
     refine ⟨by rw [h1, h3, intsL_cons, List.append_assoc], by simp [h4], fun n hn => ?_⟩
     rcases List.mem_cons.1 hn with rfl | hn
     ·exact ⟨h2, by omega⟩
     ·exact h5 n hn
theorem toText_text {s : Str} (h : s.length ≤ 9223372036854775807) (r : Str) : toTextL (textL s ++ r) = some (s, r) := by
 unfold toTextL textL
 rw [List.append_assoc, toInt_int (by unfold I64; omega)]
 dsimp only
 rw [if_neg (by rw [List.length_append]; omega)]
 simp
theorem toText_back {s d r : Str} (h : toTextL s = some (d, r)) : s = textL d ++ r ∧ d.length ≤ 9223372036854775807 := by
 unfold toTextL at h
 cases ht : toIntL s with
 | none => rw [ht] at h; cases h
 | some p =>
  obtain ⟨n, t⟩ := p
  rw [ht] at h
  dsimp only at h
  by_cases hn : n < 0 ∨ (t.length : Int) < n
  ·rw [if_pos hn] at h; cases h
  ·rw [if_neg hn] at h
   simp only [Option.some.injEq, Prod.mk.injEq] at h
   obtain ⟨rfl, rfl⟩ := h
   obtain ⟨h1, h2⟩ := toInt_back ht
   unfold I64 at h2
   have hl : (t.take n.toNat).length = n.toNat := by rw [List.length_take]; omega
   refine ⟨?_, by omega⟩
   unfold textL
   rw [hl, show ((n.toNat : Nat) : Int) = n by omega, List.append_assoc, List.take_append_drop]; exact h1
theorem hard_of {t v : Int} (h : GoodR (.hard t v)) : hardOf (intsL [t, v]) = some (.hard t v) := by
 obtain ⟨⟨h1, h2⟩, h3, h4⟩ := h
 have := nums_good [t, v] [] (by intro n hn; simp at hn; rcases hn with rfl | rfl <;> exact ⟨by assumption, by assumption⟩)
 rw [List.append_nil] at this
 unfold hardOf
 rw [show (2 : Nat) = [t, v].length from rfl, this]
theorem ent_of {e : EntD} (h : GoodR (.ent e)) : entOf (intsL [e.index, e.term, e.kind] ++ textL e.data) = some (.ent e) := by
 obtain ⟨h1, h2, h3, h4, h5⟩ := h
 have hr := rightE_parts.1 h1
 have := nums_good [e.index, e.term, e.kind] (textL e.data) (by intro n hn; simp at hn; rcases hn with rfl | rfl | rfl <;> exact ⟨by assumption, by omega⟩)
 unfold entOf
 rw [show (3 : Nat) = [e.index, e.term, e.kind].length from rfl, this]
 dsimp only
 have h6 := toText_text h5 []
 rw [List.append_nil] at h6
 rw [h6]
 dsimp only
 rw [if_pos h1]
theorem hardOf_back {r : Str} {x : RecD} (h : hardOf r = some x) : ∃ t v, x = .hard t v ∧ r = intsL [t, v] ∧ GoodR (.hard t v) := by
 unfold hardOf at h
 cases hn : numsK 2 r with
 | none => rw [hn] at h; cases h
 | some p =>
  obtain ⟨l, q⟩ := p
  rw [hn] at h
  obtain ⟨h1, h2, h3⟩ := numsK_back 2 r hn
  match l, h2 with
  | [t, v], _ =>
   cases q with
   | cons c q => cases h
   | nil =>
    simp only [Option.some.injEq] at h
    have ht := h3 t (by simp)
    have hv := h3 v (by simp)
    exact ⟨t, v, h.symm, by rw [h1, List.append_nil], ⟨ht.2, hv.2⟩, ht.1, hv.1⟩
theorem entOf_back {r : Str} {x : RecD} (h : entOf r = some x) : ∃ e, x = .ent e ∧ r = intsL [e.index, e.term, e.kind] ++ textL e.data ∧ GoodR (.ent e) := by
 unfold entOf at h
 cases hn : numsK 3 r with
 | none => rw [hn] at h; cases h
 | some p =>
  obtain ⟨l, q⟩ := p
  rw [hn] at h
  obtain ⟨h1, h2, h3⟩ := numsK_back 3 r hn
  match l, h2 with
  | [i, t, k], _ =>
   dsimp only at h
   cases hq : toTextL q with
   | none => rw [hq] at h; cases h
   | some p =>
    obtain ⟨d, q2⟩ := p
    rw [hq] at h
    cases q2 with
    | cons c q => cases h
    | nil =>
     dsimp only at h
     by_cases hr : rightE ⟨i, t, k, d⟩ = true
     ·rw [if_pos hr] at h
      obtain ⟨h4, h5⟩ := toText_back hq
      rw [List.append_nil] at h4
      refine ⟨⟨i, t, k, d⟩, (Option.some.inj h).symm, by rw [h1, h4], hr, (h3 i (by simp)).1, (h3 t (by simp)).1, (h3 k (by simp)).1, h5⟩
     ·rw [if_neg hr] at h; cases h
theorem i64_small {n : Int} (h0 : -1000 ≤ n) (h1 : n ≤ 1000) : I64 n := by unfold I64; omega
theorem rec_pay {r : RecD} (h : GoodR r) : recL (payL r) = some r := by
 cases r with
 | hard t v =>
  show recL (intL 1 ++ intsL [t, v]) = _
  unfold recL
  rw [toInt_int (i64_small (by omega) (by omega))]
  dsimp only
  rw [if_pos rfl, hard_of h]
 | ent e =>
  show recL ((intL 2 ++ intsL [e.index, e.term, e.kind]) ++ textL e.data) = _
  unfold recL
  rw [List.append_assoc, toInt_int (i64_small (by omega) (by omega))]
  dsimp only
  rw [if_neg (by omega), if_pos rfl, ent_of h]
 | reset =>
  show recL (intL 3) = _
  have := toInt_int (n := 3) (i64_small (by omega) (by omega)) []
  rw [List.append_nil] at this
  unfold recL
  rw [this]
  rfl
theorem rec_back {s : Str} {r : RecD} (h : recL s = some r) : s = payL r ∧ GoodR r := by
 unfold recL at h
 cases ht : toIntL s with
 | none => rw [ht] at h; cases h
 | some p =>
  obtain ⟨k, q⟩ := p
  rw [ht] at h
  dsimp only at h
  obtain ⟨h1, h2⟩ := toInt_back ht
  by_cases k1 : k = 1
  ·rw [if_pos k1] at h
   obtain ⟨t, v, rfl, h3, h4⟩ := hardOf_back h
   exact ⟨by rw [h1, k1, h3]; rfl, h4⟩
  ·rw [if_neg k1] at h
   by_cases k2 : k = 2
   ·rw [if_pos k2] at h
    obtain ⟨e, rfl, h3, h4⟩ := entOf_back h
    exact ⟨by rw [h1, k2, h3]; exact (List.append_assoc (intL 2) (intsL [e.index, e.term, e.kind]) _).symm, h4⟩
   ·rw [if_neg k2] at h
    by_cases k3 : k = 3 ∧ q = []
    ·rw [if_pos k3] at h
     obtain rfl := Option.some.inj h
     exact ⟨by rw [h1, k3.1, k3.2, List.append_nil]; rfl, trivial⟩
    ·rw [if_neg k3] at h; cases h
theorem pay_pos (r : RecD) : 0 < (payL r).length := by
 cases r with
 | hard t v => show 0 < (intL 1 ++ intsL [t, v]).length; rw [List.length_append]; have := intL_pos 1; omega
 | ent e => show 0 < ((intL 2 ++ intsL [e.index, e.term, e.kind]) ++ textL e.data).length; rw [List.length_append, List.length_append]; have := intL_pos 2; omega
 | reset => exact intL_pos 3

/-! ### a segment's bytes -/
def recF (r : RecD) : Str := frameL (payL r)
def recsL (l : List RecD) : Str := l.flatMap recF
/-- the records, how many bytes they have, what stands behind (0: nothing) -/
def readF : Nat → Str → (List RecD × Nat) × Int
 | 0, _ => (([], 0), 0)
 | k + 1, s => if s = [] then (([], 0), 0) else match unframeL s with
  | .error e => (([], 0), if e = 9 then 9 else 8)
  | .ok (t, n) => match recL t with
   | none => (([], 0), 8)
   | some r => ((r :: (readF k (s.drop n)).1.1, n + (readF k (s.drop n)).1.2), (readF k (s.drop n)).2)
def readS (s : Str) : (List RecD × Nat) × Int := readF s.length s
theorem readF_nil (k : Nat) : readF k [] = (([], 0), 0) := by cases k <;> rfl
theorem readF_more : ∀ (k m : Nat) (s : Str), s.length ≤ k → s.length ≤ m → readF k s = readF m s
 | 0, m, s, h, _ => by
  obtain rfl := List.length_eq_zero_iff.1 (Nat.le_zero.1 h)
  rw [readF_nil, readF_nil]
 | k, 0, s, _, h => by
  obtain rfl := List.length_eq_zero_iff.1 (Nat.le_zero.1 h)
  rw [readF_nil, readF_nil]
 | k + 1, m + 1, s, h1, h2 => by
  unfold readF
  by_cases hs : s = []
  ·rw [if_pos hs, if_pos hs]
  ·rw [if_neg hs, if_neg hs]
   cases hu : unframeL s with
   | error e => rfl
   | ok p =>
    obtain ⟨t, n⟩ := p
    obtain ⟨h3, h4, h5, h6⟩ := unframe_back hu
    have e := readF_more k m (s.drop n) (by rw [List.length_drop]; omega) (by rw [List.length_drop]; omega)
    dsimp only
    rw [e]
theorem readS_nil : readS [] = (([], 0), 0) := rfl
theorem readS_err {s : Str} (hs : s ≠ []) {e : Int} (h : unframeL s = .error e) : readS s = (([], 0), if e = 9 then 9 else 8) := by
 unfold readS
 cases s with
 | nil => exact absurd rfl hs
 | cons c s => show readF (s.length + 1) _ = _; unfold readF; rw [if_neg hs, h]
theorem readS_bad {s t : Str} {n : Nat} (h : unframeL s = .ok (t, n)) (hr : recL t = none) : readS s = (([], 0), 8) := by
 unfold readS
 cases s with
 | nil => cases h
 | cons c s => show readF (s.length + 1) _ = _; unfold readF; rw [if_neg (by simp), h]; dsimp only; rw [hr]
theorem readS_more {s t : Str} {n : Nat} {r : RecD} (h : unframeL s = .ok (t, n)) (hr : recL t = some r) : readS s = ((r :: (readS (s.drop n)).1.1, n + (readS (s.drop n)).1.2), (readS (s.drop n)).2) := by
 obtain ⟨h3, h4, h5, h6⟩ := unframe_back h
 have e := readF_more (s.length - 1) (s.drop n).length (s.drop n) (by rw [List.length_drop]; omega) (Nat.le_refl _)
 unfold readS
 cases s with
 | nil => cases h
 | cons c s => 
  show readF (s.length + 1) _ = _
  conv => lhs; unfold readF
  rw [if_neg (by simp), h]
  dsimp only
  rw [hr]
  dsimp only
  rw [show s.length = (c :: s).length - 1 from rfl, e]
theorem rec_frame {r : RecD} (hg : GoodR r) (hl : (payL r).length ≤ 65536) (x : Str) : readS (recF r ++ x) = ((r :: (readS x).1.1, (recF r).length + (readS x).1.2), (readS x).2) := by
 have h := unframe_frame hl x
 have e : (frameL (payL r) ++ x).drop (8 + (payL r).length) = x := by rw [← frame_len, List.drop_left]
 unfold recF
 rw [readS_more h (rec_pay hg), e, frame_len]
theorem read_recs : ∀ (l : List RecD) (x : Str), (∀ r ∈ l, GoodR r ∧ (payL r).length ≤ 65536) → readS (recsL l ++ x) = ((l ++ (readS x).1.1, (recsL l).length + (readS x).1.2), (readS x).2)
 | [], x, _ => by simp [recsL]
 | r :: l, x, h => by
  obtain ⟨h1, h2⟩ := h r (List.mem_cons_self ..)
  show readS ((recF r ++ recsL l) ++ x) = _
  rw [List.append_assoc, rec_frame h1 h2, read_recs l x fun m hm => h m (List.mem_cons_of_mem _ hm)]
  show _ = ((r :: l ++ _, (recF r ++ recsL l).length + _), _)
  rw [List.length_append]
  simp only [List.cons_append, Nat.add_assoc]
/-- what is read is what stands there -/
theorem readF_back : ∀ (k : Nat) (s : Str), s.length ≤ k → s = recsL (readF k s).1.1 ++ s.drop (readF k s).1.2 ∧ (readF k s).1.2 = (recsL (readF k s).1.1).length ∧ (readF k s).1.2 ≤ s.length ∧ ((readF k s).2 = 0 ↔ (readF k s).1.2 = s.length) ∧ ((readF k s).2 = 0 ∨ (readF k s).2 = 8 ∨ (readF k s).2 = 9) ∧ ∀ r ∈ (readF k s).1.1, GoodR r ∧ (payL r).length ≤ 65536
 | 0, s, h => by
  obtain rfl := List.length_eq_zero_iff.1 (Nat.le_zero.1 h)
  exact ⟨rfl, rfl, Nat.le_refl _, by simp [readF], .inl rfl, fun _ h => by cases h⟩
 | k + 1, s, h => by
  unfold readF
  by_cases hs : s = []
  ·subst hs
   exact ⟨rfl, rfl, Nat.le_refl _, by simp, .inl rfl, fun _ h => by cases h⟩
  ·rw [if_neg hs]
   have hsl : 0 < s.length := List.length_pos_iff.2 hs
   cases hu : unframeL s with
   | error e =>
    refine ⟨rfl, rfl, Nat.zero_le _, ?_, ?_, fun _ h => by cases h⟩
    ·dsimp only; constructor
     ·intro h; split at h <;> omega
     ·intro h; omega
    ·dsimp only; split <;> simp
   | ok p =>
    obtain ⟨t, n⟩ := p
    dsimp only
    cases hr : recL t with
    | none =>
     refine ⟨rfl, rfl, Nat.zero_le _, ?_, .inr (.inl rfl), fun _ h => by cases h⟩
     dsimp only; omega
    | some r =>
     obtain ⟨h3, h4, h5, h6⟩ := unframe_back hu
     obtain ⟨h7, h8⟩ := rec_back hr
     obtain ⟨i1, i2, i3, i4, i5, i6⟩ := readF_back k (s.drop n) (by rw [List.length_drop]; omega)
     have hrl : (recF r).length = n := by unfold recF; rw [frame_len, ← h7]; omega
     have hrs : recsL (r :: (readF k (s.drop n)).1.1) = recF r ++ recsL (readF k (s.drop n)).1.1 := rfl
     rw [List.length_drop] at i3 i4
     refine ⟨?_, ?_, ?_, ?_, i5, fun m hm => ?_⟩
     ·dsimp only
      rw [hrs, List.append_assoc, ← List.drop_drop, ← i1]
      unfold recF; rw [← h7]; exact h3
     ·dsimp only; rw [hrs, List.length_append, hrl]; omega
     ·dsimp only; omega
     ·dsimp only; rw [i4]; omega
     ·rcases List.mem_cons.1 hm with rfl | hm
      ·exact ⟨h8, by rw [← h7]; exact h5⟩
      ·exact i6 m hm
theorem readS_back (s : Str) : s = recsL (readS s).1.1 ++ s.drop (readS s).1.2 ∧ (readS s).1.2 = (recsL (readS s).1.1).length ∧ (readS s).1.2 ≤ s.length ∧ ((readS s).2 = 0 ↔ (readS s).1.2 = s.length) ∧ ((readS s).2 = 0 ∨ (readS s).2 = 8 ∨ (readS s).2 = 9) ∧ ∀ r ∈ (readS s).1.1, GoodR r ∧ (payL r).length ≤ 65536 := readF_back _ _ (Nat.le_refl _)
end Go.Proofs.YtgmghopcppniaaaGreatDoor

/- Layer 3 in plain words: entries that rise by one, what records make of a log (no program). -/
namespace Go.Proofs.YtgmghopcppniaaaGreatDoor

def zeroE : EntD := ⟨0, 0, 0, []⟩
def lastE (l : List EntD) : EntD := l.getD (l.length - 1) zeroE
/-- an entry is put where it belongs -/
def putE (l : List EntD) (e : EntD) : List EntD :=
 if l = [] ∨ IntKind.i64.wrap ((lastE l).index + 1) < e.index ∨ e.index < (l.getD 0 zeroE).index then [e]
 else l.take (e.index - (l.getD 0 zeroE).index).toNat ++ [e]
def GoodE (e : EntD) : Prop := GoodR (.ent e)
structure RunE (l : List EntD) : Prop where
 step : ∀ (i : Nat) (e : EntD), l[i]? = some e → e.index = (l.getD 0 zeroE).index + i
 good : ∀ e ∈ l, GoodE e
theorem RunE.nil : RunE [] := ⟨fun i e h => by simp at h, fun _ h => by cases h⟩
theorem RunE.one {e : EntD} (h : GoodE e) : RunE [e] := by
 refine ⟨fun i f hf => ?_, fun f hf => by rw [List.mem_singleton.1 hf]; exact h⟩
 cases i with
 | zero => simp at hf; subst hf; simp
 | succ i => simp at hf
theorem GoodE.parts {e : EntD} (h : GoodE e) : 0 < e.index ∧ e.index ≤ 9223372036854775807 ∧ 0 ≤ e.term ∧ e.term ≤ 9223372036854775807 ∧ 1 ≤ e.kind ∧ e.kind ≤ 3 := by
 obtain ⟨h1, h2, h3, h4, h5⟩ := h
 have := rightE_parts.1 h1
 unfold I64 at h2 h3
 omega
theorem getD_some {l : List EntD} {i : Nat} (h : i < l.length) : l[i]? = some (l.getD i zeroE) := by
 rw [List.getD_eq_getElem?_getD, List.getElem?_eq_getElem h]; rfl
theorem RunE.last {l : List EntD} (h : RunE l) (hn : l ≠ []) : (lastE l).index = (l.getD 0 zeroE).index + (l.length - 1 : Nat) := by
 have hl : 0 < l.length := List.length_pos_iff.2 hn
 exact h.step _ _ (getD_some (by omega))
theorem RunE.at {l : List EntD} (h : RunE l) {i : Nat} (hi : i < l.length) : GoodE (l.getD i zeroE) := h.good _ (List.mem_of_getElem? (getD_some hi))
/-- where the cut falls -/
theorem RunE.cut {l : List EntD} (h : RunE l) {e : EntD} (he : GoodE e) (hc : ¬ (l = [] ∨ IntKind.i64.wrap ((lastE l).index + 1) < e.index ∨ e.index < (l.getD 0 zeroE).index)) :
  IntKind.i64.wrap ((lastE l).index + 1) = (lastE l).index + 1 ∧ ∃ k : Nat, e.index - (l.getD 0 zeroE).index = (k : Int) ∧ k ≤ l.length := by
 simp only [not_or] at hc
 obtain ⟨hn, h1, h2⟩ := hc
 have hl : 0 < l.length := List.length_pos_iff.2 hn
 have h3 := h.last hn
 have h4 := (h.at (show l.length - 1 < l.length by omega)).parts
 have h5 := (h.at hl).parts
 have h6 := he.parts
 have h7 : IntKind.i64.wrap ((lastE l).index + 1) = (lastE l).index + 1 := by
  by_cases hm : (lastE l).index = 9223372036854775807
  ·rw [hm] at h1
   exfalso
   have : IntKind.i64.wrap (9223372036854775807 + 1) = -9223372036854775808 := by decide
   omega
  ·apply IntWalk.i64_in
   have : (lastE l).index = (l.getD (l.length - 1) zeroE).index := rfl
   omega
 refine ⟨h7, (e.index - (l.getD 0 zeroE).index).toNat, by omega, by omega⟩
theorem put_one {l : List EntD} {e : EntD} (hc : l = [] ∨ IntKind.i64.wrap ((lastE l).index + 1) < e.index ∨ e.index < (l.getD 0 zeroE).index) : putE l e = [e] := if_pos hc
theorem put_at {l : List EntD} {e : EntD} (hc : ¬ (l = [] ∨ IntKind.i64.wrap ((lastE l).index + 1) < e.index ∨ e.index < (l.getD 0 zeroE).index)) : putE l e = l.take (e.index - (l.getD 0 zeroE).index).toNat ++ [e] := if_neg hc
theorem RunE.put {l : List EntD} (h : RunE l) {e : EntD} (he : GoodE e) : RunE (putE l e) := by
 by_cases hc : l = [] ∨ IntKind.i64.wrap ((lastE l).index + 1) < e.index ∨ e.index < (l.getD 0 zeroE).index
 ·rw [put_one hc]; exact RunE.one he
 ·obtain ⟨_, k, hk, hkl⟩ := h.cut he hc
  rw [put_at hc, hk, Int.toNat_natCast]
  have hn : l ≠ [] := fun hn => hc (.inl hn)
  have hlen : (l.take k).length = k := by rw [List.length_take]; omega
  refine ⟨fun i f hf => ?_, fun f hf => ?_⟩
  ·have h0 : (l.take k ++ [e]).getD 0 zeroE = if k = 0 then e else l.getD 0 zeroE := by
    by_cases k0 : k = 0
    ·subst k0; simp
    ·rw [if_neg k0, List.getD_eq_getElem?_getD, List.getElem?_append_left (by omega), List.getElem?_take_of_lt (by omega), ← List.getD_eq_getElem?_getD]
   rw [h0]
   by_cases hi : i < k
   ·rw [List.getElem?_append_left (by omega), List.getElem?_take_of_lt hi] at hf
    rw [if_neg (by omega)]; exact h.step i f hf
   ·rw [List.getElem?_append_right (by omega), hlen] at hf
    have h2 : i = k := by
     cases hik : i - k with
     | zero => omega
     | succ j => rw [hik] at hf; simp at hf
    subst h2
    simp at hf
    subst hf
    by_cases k0 : i = 0
    ·rw [if_pos k0, k0]; simp
    ·rw [if_neg k0]; omega
  ·rcases List.mem_append.1 hf with hf | hf
   ·exact h.good f (List.mem_of_mem_take hf)
   ·rw [List.mem_singleton.1 hf]; exact he
/-! ### what records make of a log -/
structure StD where
 t : Int
 v : Int
 ents : List EntD
deriving DecidableEq
def zeroS : StD := ⟨0, 0, []⟩
def stepS (s : StD) : RecD → StD
 | .hard t v => { s with t := t, v := v }
 | .ent e => { s with ents := putE s.ents e }
 | .reset => { s with ents := [] }
def foldS (s : StD) (l : List RecD) : StD := l.foldl stepS s
theorem foldS_app (s : StD) (a b : List RecD) : foldS s (a ++ b) = foldS (foldS s a) b := List.foldl_append
theorem foldS_nil (s : StD) : foldS s [] = s := rfl
structure OkS (s : StD) : Prop where
 hard : 0 ≤ s.t ∧ 0 ≤ s.v ∧ I64 s.t ∧ I64 s.v
 run : RunE s.ents
theorem OkS.zero : OkS zeroS := ⟨⟨by decide, by decide, i64_small (by decide) (by decide), i64_small (by decide) (by decide)⟩, RunE.nil⟩
theorem OkS.step {s : StD} (h : OkS s) {r : RecD} (hr : GoodR r) : OkS (stepS s r) := by
 cases r with
 | hard t v => exact ⟨⟨hr.1.1, hr.1.2, hr.2.1, hr.2.2⟩, h.run⟩
 | ent e => exact ⟨h.hard, h.run.put hr⟩
 | reset => exact ⟨h.hard, RunE.nil⟩
theorem OkS.fold : ∀ (l : List RecD) {s : StD}, OkS s → (∀ r ∈ l, GoodR r) → OkS (foldS s l)
 | [], _, h, _ => h
 | r :: l, _, h, hl => OkS.fold l (h.step (hl r (List.mem_cons_self ..))) fun m hm => hl m (List.mem_cons_of_mem _ hm)
/-- the greatest Index of a segment's entries -/
def topR (m : Int) : RecD → Int
 | .ent e => max m e.index
 | _ => m
def topL (l : List RecD) : Int := l.foldl topR 0
theorem topL_app (a b : List RecD) : topL (a ++ b) = b.foldl topR (topL a) := List.foldl_append
theorem top_fold : ∀ (l : List RecD) (m i : Int), l.foldl topR m ≤ i ↔ m ≤ i ∧ ∀ e, RecD.ent e ∈ l → e.index ≤ i
 | [], m, i => by simp
 | r :: l, m, i => by
  rw [List.foldl_cons, top_fold l]
  cases r with
  | hard t v => simp [topR]
  | reset => simp [topR]
  | ent e =>
   simp only [topR, List.mem_cons, RecD.ent.injEq]
   constructor
   ·rintro ⟨h1, h2⟩
    refine ⟨by omega, fun f hf => ?_⟩
    rcases hf with rfl | hf
    ·omega
    ·exact h2 f hf
   ·rintro ⟨h1, h2⟩
    have := h2 e (.inl rfl)
    exact ⟨by omega, fun f hf => h2 f (.inr hf)⟩
theorem top_le {l : List RecD} {i : Int} : topL l ≤ i ↔ 0 ≤ i ∧ ∀ e, RecD.ent e ∈ l → e.index ≤ i := top_fold l 0 i

/-! ### a log: what it holds in memory -/
structure SegD where
 num : Nat
 size : Nat
 top : Int
deriving DecidableEq
/-- its segments: those ahead, and the last one -/
structure LogD where
 st : StD
 pre : List SegD
 last : SegD
def segsL (L : LogD) : List SegD := L.pre ++ [L.last]
def stepL (L : LogD) (r : RecD) : LogD := { L with st := stepS L.st r, last := { L.last with top := topR L.last.top r } }
def foldR (L : LogD) (l : List RecD) : LogD := l.foldl stepL L
theorem foldR_is : ∀ (l : List RecD) (L : LogD), foldR L l = { L with st := foldS L.st l, last := { L.last with top := l.foldl topR L.last.top } }
 | [], L => rfl
 | r :: l, L => by
  show foldR (stepL L r) l = _
  rw [foldR_is l]; rfl
/-- segments' names -/
def nameW (n : Nat) : Str := 119 :: decHi n
def numW (s : Str) : Nat := match s with
 | 119 :: t => if t.length ≤ 6 ∧ 0 < decV t ∧ decHi (decV t) = t then decV t else 0
 | _ => 0
theorem numW_name {n : Nat} (h0 : 0 < n) (h1 : n < 1000000) : numW (nameW n) = n := by
 have h2 := decV_hi _ n (Nat.le_refl _)
 have h3 := decHi_len 6 n (by omega)
 show (if (decHi n).length ≤ 6 ∧ 0 < decV (decHi n) ∧ decHi (decV (decHi n)) = decHi n then decV (decHi n) else 0) = n
 rw [h2, if_pos ⟨h3, by omega, rfl⟩]
theorem numW_back {s : Str} (h : numW s ≠ 0) : 0 < numW s ∧ s = nameW (numW s) := by
 unfold numW at h ⊢
 split at h
 ·rename_i t
  split at h
  ·rename_i h1
   rw [if_pos h1]
   exact ⟨h1.2.1, by unfold nameW; rw [h1.2.2]⟩
  ·exact absurd rfl h
 ·exact absurd rfl h
theorem decV_lt : ∀ (k : Nat) (t : Str), t.length ≤ k → (∀ c ∈ t, 48 ≤ c.toNat ∧ c.toNat ≤ 57) → decV t < 10 ^ k := by
 intro k
 induction k with
 | zero => intro t h _; obtain rfl := List.length_eq_zero_iff.1 (Nat.le_zero.1 h); decide
 | succ k ih =>
  intro t h hd
  rcases List.eq_nil_or_concat t with rfl | ⟨t, c, rfl⟩
  ·show 0 < 10 ^ (k + 1); exact Nat.pow_pos (by decide)
  ·rw [List.concat_eq_append] at h hd ⊢
   rw [List.length_append, List.length_singleton] at h
   have h1 := ih t (by omega) fun c hc => hd c (List.mem_append_left _ hc)
   have h2 := hd c (List.mem_append_right _ (List.mem_singleton.2 rfl))
   rw [decV_snoc, Nat.pow_succ]; omega
theorem numW_lt (s : Str) : numW s < 1000000 := by
 unfold numW
 split
 ·rename_i t
  split
  ·rename_i h1
   refine decV_lt 6 t h1.1 ?_
   rw [← h1.2.2]
   exact decHi_digit _ _ (Nat.le_refl _)
  ·decide
 ·decide
theorem nameW_inj {a b : Nat} (ha : 0 < a) (ha2 : a < 1000000) (hb : 0 < b) (hb2 : b < 1000000) (h : nameW a = nameW b) : a = b := by
 rw [← numW_name ha ha2, h, numW_name hb hb2]
theorem nameW_ok {n : Nat} (h1 : n < 1000000) : nameOK (nameW n) = true := by
 have h3 := decHi_len 6 n (by omega)
 have h4 := decHi_digit n n (Nat.le_refl _)
 unfold nameOK nameW
 simp only [Bool.and_eq_true, decide_eq_true_eq, List.length_cons, List.all_cons, List.all_eq_true]
 refine ⟨⟨by omega, by omega⟩, by decide, fun c hc => ?_⟩
 have := h4 c hc
 unfold okByte
 simp only [Bool.or_eq_true, Bool.and_eq_true, decide_eq_true_eq]
 omega
end Go.Proofs.YtgmghopcppniaaaGreatDoor

/- Layer 3 in plain words: a frame that was torn is none; the numbers of a disk's segments (no program). -/
namespace Go.Proofs.YtgmghopcppniaaaGreatDoor

/-! ### the sum tells a last byte that was changed -/
theorem xor_top {a : Nat} (ha : a < 2147483648) : 2147483648 ≤ a ^^^ 2197175160 := by
 have h1 : (a ^^^ 2197175160).testBit 31 = true := by
  rw [Nat.testBit_xor, Nat.testBit_lt_two_pow (show a < 2 ^ 31 by omega)]
  decide
 have h2 := Nat.ge_two_pow_of_testBit h1
 omega
theorem crcB_inj {a b : Nat} (ha : a < 4294967296) (hb : b < 4294967296) (h : crcB a = crcB b) : a = b := by
 unfold crcB at h
 by_cases h1 : a % 2 = 1
 ·rw [if_pos h1] at h
  by_cases h2 : b % 2 = 1
  ·rw [if_pos h2] at h
   have h3 : a / 2 = b / 2 := by
    have := congrArg (· ^^^ 2197175160) h
    simpa [Nat.xor_assoc] using this
   omega
  ·rw [if_neg h2] at h
   have := xor_top (a := a / 2) (by omega)
   omega
 ·rw [if_neg h1] at h
  by_cases h2 : b % 2 = 1
  ·rw [if_pos h2] at h
   have := xor_top (a := b / 2) (by omega)
   omega
  ·rw [if_neg h2] at h
   omega
theorem crcN_inj : ∀ (k : Nat) {a b : Nat}, a < 4294967296 → b < 4294967296 → crcN k a = crcN k b → a = b
 | 0, _, _, _, _, h => h
 | k + 1, a, b, ha, hb, h => by
  rw [crcN_snoc, crcN_snoc] at h
  exact crcN_inj k ha hb (crcB_inj (crcN_lt k ha) (crcN_lt k hb) h)
theorem sum_last {q : Str} {b c : UInt8} {s : Nat} (hs : s < 4294967296) (h : sumL s (q ++ [b]) = sumL s (q ++ [c])) : b = c := by
 rw [sum_app, sum_app] at h
 have h1 := sum_lt q hs
 have hb := b.toNat_lt
 have hc := c.toNat_lt
 have h2 : sumL s q ^^^ b.toNat = sumL s q ^^^ c.toNat :=
  crcN_inj 8 (Nat.xor_lt_two_pow (n := 32) h1 (by omega)) (Nat.xor_lt_two_pow (n := 32) h1 (by omega)) h
 have h3 : b.toNat = c.toNat := by
  have := congrArg (sumL s q ^^^ ·) h2
  simpa [← Nat.xor_assoc] using this
 exact byte_eq h3
theorem crc_last {q : Str} {b c : UInt8} (h : crcL (q ++ [b]) = crcL (q ++ [c])) : b = c := by
 unfold crcL at h
 have h2 := congrArg (4294967295 ^^^ ·) h
 simp only [← Nat.xor_assoc, Nat.xor_self, Nat.zero_xor] at h2
 exact sum_last (by decide) h2
theorem four_inj {a b : Nat} (ha : a < 4294967296) (hb : b < 4294967296) (h : fourL a = fourL b) : a = b := by
 have h1 := four_back ha []
 rw [h, four_back hb] at h1
 exact h1.symm
/-- a frame of which some bytes are there, the last of them perhaps another one: all of it, or none -/
theorem torn_frame {p : Str} (hp : p ≠ []) (hl : p.length ≤ 65536) {m : Nat} (hm : m < (frameL p).length) (c : UInt8) :
  (frameL p).take m ++ [c] = frameL p ∨ ∃ e, unframeL ((frameL p).take m ++ [c]) = .error e := by
 have hpl : 0 < p.length := List.length_pos_iff.2 hp
 have hfl := frame_len p
 have hzl : ((frameL p).take m ++ [c]).length = m + 1 := by rw [List.length_append, List.length_take, List.length_singleton]; omega
 obtain ⟨z, hz⟩ : ∃ z, (frameL p).take m ++ [c] = z := ⟨_, rfl⟩
 rw [hz] at hzl ⊢
 unfold unframeL
 by_cases h4 : z.length < 4
 ·right; exact ⟨8, if_pos h4⟩
 ·rw [if_neg h4]
  by_cases hL : 65536 < fourN z
  ·right; exact ⟨10, by rw [if_pos hL]⟩
  ·rw [if_neg hL]
   by_cases h8 : z.length < 8 + fourN z
   ·right; exact ⟨8, by rw [if_pos h8]⟩
   ·rw [if_neg h8]
    have hm4 : 4 ≤ m := by omega
    have h4n : fourN z = p.length := by
     have e : z = fourL p.length ++ (z.drop 4) := by
      have e1 : z.take 4 = (frameL p).take 4 := by
       rw [← hz, List.take_append_of_le_length (by rw [List.length_take]; omega), List.take_take, Nat.min_eq_left hm4]
      have e2 : (frameL p).take 4 = fourL p.length := by
       unfold frameL headF; rw [List.append_assoc, List.take_left' (four_len _)]
      conv => lhs; rw [← List.take_append_drop 4 z, e1, e2]
     rw [e]; exact four_back (by omega) _
    rw [h4n] at h8 ⊢
    obtain rfl : m = 7 + p.length := by omega
    obtain ⟨q, b, rfl⟩ : ∃ q b, p = q ++ [b] := by
     rcases List.eq_nil_or_concat p with h | ⟨q, b, h⟩
     ·exact absurd h hp
     ·exact ⟨q, b, by rw [h, List.concat_eq_append]⟩
    have hql : (q ++ [b]).length = q.length + 1 := by rw [List.length_append]; rfl
    have hfr : frameL (q ++ [b]) = (headF (q ++ [b]) ++ q) ++ [b] := by unfold frameL; rw [List.append_assoc]
    have htk : (frameL (q ++ [b])).take (7 + (q ++ [b]).length) = headF (q ++ [b]) ++ q := by
     rw [hfr, List.take_left' (by rw [List.length_append, headF_len]; omega)]
    rw [htk] at hz
    have hd : (z.drop 8).take (q ++ [b]).length = q ++ [c] := by
     rw [← hz, List.append_assoc, List.drop_left' (headF_len _), hql, List.take_of_length_le (by rw [List.length_append]; simp)]
    have ht : z.take (8 + (q ++ [b]).length) = z := List.take_of_length_le (by omega)
    rw [hd, ht]
    by_cases hbc : b = c
    ·left; rw [← hz, ← hbc, hfr]
    ·right
     refine ⟨9, if_neg fun h => hbc ?_⟩
     rw [← hz] at h
     have hqc : (q ++ [c]).length = (q ++ [b]).length := by simp
     have h2 : fourL (crcL (fourL (q ++ [c]).length ++ (q ++ [c]))) = fourL (crcL (fourL (q ++ [b]).length ++ (q ++ [b]))) := by
      unfold frameL headF at h
      rw [hqc] at h ⊢
      have h3 := congrArg (fun l => (l.drop 4).take 4) h
      simp only [List.append_assoc, List.drop_left' (four_len _), List.take_left' (four_len _)] at h3
      exact h3
     have h3 := four_inj (crc_lt _) (crc_lt _) h2
     rw [hqc, ← List.append_assoc, ← List.append_assoc] at h3
     exact (crc_last h3).symm
theorem torn_rec {r : RecD} (hl : (payL r).length ≤ 65536) {m : Nat} (hm : m < (recF r).length) (c : UInt8) :
  (recF r).take m ++ [c] = recF r ∨ ∃ e, readS ((recF r).take m ++ [c]) = (([], 0), e) ∧ e ≠ 0 := by
 have hp := pay_pos r
 rcases torn_frame (List.length_pos_iff.1 hp) hl hm c with h | ⟨e, h⟩
 ·exact .inl h
 ·refine .inr ⟨_, readS_err (by simp) h, ?_⟩
  split <;> omega
theorem recsL_cons (r : RecD) (l : List RecD) : recsL (r :: l) = recF r ++ recsL l := rfl
theorem recsL_app (a b : List RecD) : recsL (a ++ b) = recsL a ++ recsL b := List.flatMap_append
/-- of some records that were going on, a beginning is there -/
theorem torn_recs : ∀ (l : List RecD), (∀ r ∈ l, (payL r).length ≤ 65536) → ∀ (m : Nat), m < (recsL l).length → ∀ (c : UInt8),
  ∃ j z e, j ≤ l.length ∧ (recsL l).take m ++ [c] = recsL (l.take j) ++ z ∧ readS z = (([], 0), e)
 | [], _, m, hm, _ => by simp [recsL] at hm
 | r :: l, hl, m, hm, c => by
  have hr := hl r (List.mem_cons_self ..)
  rw [recsL_cons] at hm ⊢
  by_cases h : m < (recF r).length
  ·rw [List.take_append_of_le_length (by omega)]
   rcases torn_rec hr h c with h1 | ⟨e, h1, _⟩
   ·exact ⟨1, [], 0, by simp, by rw [h1]; simp [recsL], rfl⟩
   ·exact ⟨0, _, e, by simp, by simp [recsL], h1⟩
  ·obtain ⟨k, hk⟩ : ∃ k, m = (recF r).length + k := ⟨m - (recF r).length, by omega⟩
   subst hk
   rw [List.length_append] at hm
   obtain ⟨j, z, e, h1, h2, h3⟩ := torn_recs l (fun x hx => hl x (List.mem_cons_of_mem _ hx)) k (by omega) c
   refine ⟨j + 1, z, e, by simp; omega, ?_, h3⟩
   rw [List.take_length_add_append, List.append_assoc, h2]
   show _ = (recF r ++ recsL (l.take j)) ++ z
   rw [List.append_assoc]

/-! ### the segments of a disk -/
def numsD (l : List FileD) : List Int := ((l.map fun f => ((numW f.name : Nat) : Int)).filter fun n => decide (0 < n)).mergeSort fun x y => decide (x ≤ y)
theorem mem_numsD {l : List FileD} {n : Int} : n ∈ numsD l ↔ 0 < n ∧ ∃ f ∈ l, n = numW f.name := by
 unfold numsD
 rw [(List.mergeSort_perm _ _).mem_iff, List.mem_filter, List.mem_map]
 constructor
 ·rintro ⟨⟨f, h1, h2⟩, h3⟩; exact ⟨by simpa using h3, f, h1, h2.symm⟩
 ·rintro ⟨h3, f, h1, h2⟩; exact ⟨⟨f, h1, h2.symm⟩, by simpa using h3⟩
theorem numsD_rise {l : List FileD} (hs : Sorted l) : (numsD l).Pairwise (· < ·) := by
 have h1 : (numsD l).Pairwise fun a b => decide (a ≤ b) = true := List.pairwise_mergeSort (by intro a b c; simp; omega) (by intro a b; simp; omega) _
 have h2 : ((l.map fun f => ((numW f.name : Nat) : Int)).filter fun n => decide (0 < n)).Pairwise (· ≠ ·) := by
  rw [List.filter_map, List.pairwise_map, List.pairwise_filter]
  refine hs.imp ?_
  intro f g h hf hg e
  simp only [Function.comp_apply, decide_eq_true_eq] at hf hg
  have e2 : numW f.name = numW g.name := by omega
  have h5 := (numW_back (s := f.name) (by omega)).2
  have h6 := (numW_back (s := g.name) (by omega)).2
  rw [e2, ← h6] at h5
  exact str_lt_ne h h5
 have h3 : (numsD l).Pairwise (· ≠ ·) := (List.mergeSort_perm _ _).symm.pairwise h2 (fun h => h.symm)
 exact (h1.and h3).imp (fun ⟨a, b⟩ => by simp at a; omega)
theorem numsD_is {l : List FileD} (hs : Sorted l) {ns : List Nat} (hr : ns.Pairwise (· < ·)) (hp : ∀ n ∈ ns, 0 < n ∧ n < 1000000) (h1 : ∀ n ∈ ns, ∃ f ∈ l, f.name = nameW n) (h2 : ∀ f ∈ l, ∃ n ∈ ns, f.name = nameW n) : numsD l = ns.map fun n => ((n : Nat) : Int) := by
 have h3 : (ns.map fun n => ((n : Nat) : Int)).Pairwise (· < ·) := by
  rw [List.pairwise_map]; exact hr.imp (by omega)
 have h4 := numsD_rise hs
 refine List.Perm.eq_of_pairwise (le := (· < ·)) (fun a b _ _ h k => by omega) h4 h3 ?_
 refine (List.perm_ext_iff_of_nodup (h4.imp (by omega)) (h3.imp (by omega))).2 fun a => ?_
 rw [mem_numsD, List.mem_map]
 constructor
 ·rintro ⟨h5, f, hf, h6⟩
  obtain ⟨n, hn, h7⟩ := h2 f hf
  refine ⟨n, hn, ?_⟩
  rw [h6, h7, numW_name (hp n hn).1 (hp n hn).2]
 ·rintro ⟨n, hn, rfl⟩
  obtain ⟨f, hf, h7⟩ := h1 n hn
  have := (hp n hn).1
  exact ⟨by omega, f, hf, by rw [h7, numW_name (hp n hn).1 (hp n hn).2]⟩
end Go.Proofs.YtgmghopcppniaaaGreatDoor

/- Layer 3 in plain words: a disk opened; what a crash leaves of it (no program). -/
namespace Go.Proofs.YtgmghopcppniaaaGreatDoor

/-- one segment read; what stands behind the records of the last one is cut off -/
def readSeg (D : DiskD) (st : StD) (n : Nat) (last : Bool) : (Int × (StD × SegD)) × DiskD :=
 if (readD D (nameW n)).2 ≠ 0 then (((readD D (nameW n)).2, (st, ⟨n, 0, 0⟩)), D)
 else
  let q := readS (readD D (nameW n)).1
  let r : StD × SegD := (foldS st q.1.1, ⟨n, q.1.2, topL q.1.1⟩)
  if q.2 = 0 then ((0, r), D)
  else if last = false then ((q.2, r), D)
  else if (truncD D (nameW n) q.1.2).1 ≠ 0 then (((truncD D (nameW n) q.1.2).1, r), (truncD D (nameW n) q.1.2).2)
  else (((syncD (truncD D (nameW n) q.1.2).2 (nameW n)).1, r), (syncD (truncD D (nameW n) q.1.2).2 (nameW n)).2)
def readAll : List Nat → StD → List SegD → DiskD → (Int × (StD × List SegD)) × DiskD
 | [], st, segs, D => ((0, (st, segs)), D)
 | n :: t, st, segs, D =>
  let p := readSeg D st n t.isEmpty
  if p.1.1 ≠ 0 then ((p.1.1, (p.1.2.1, segs ++ [p.1.2.2])), p.2) else readAll t p.1.2.1 (segs ++ [p.1.2.2]) p.2
/-- the first segment, begun -/
def firstD (D : DiskD) : Int × DiskD :=
 if (appendD D (nameW 1) (frameL (hardTx 0 0))).1 ≠ 0 then appendD D (nameW 1) (frameL (hardTx 0 0))
 else syncD (appendD D (nameW 1) (frameL (hardTx 0 0))).2 (nameW 1)
def numsN (D : DiskD) : List Nat := (numsD D.files).map Int.toNat
def openD (D : DiskD) : (Int × (StD × List SegD)) × DiskD :=
 if numsN D = [] then (((firstD D).1, (zeroS, [⟨1, (frameL (hardTx 0 0)).length, 0⟩])), (firstD D).2)
 else readAll (numsN D) zeroS [] D

/-- the files of a disk are these segments alone; behind the last one's records stands x, of which k bytes are synced -/
structure SegsAt (D : DiskD) (pre : List Nat) (n : Nat) (R : Nat → List RecD) (x : Str) (k : Nat) : Prop where
 inv : InvD D
 rise : (pre ++ [n]).Pairwise (· < ·)
 range : ∀ m ∈ pre ++ [n], 0 < m ∧ m < 1000000
 good : ∀ m ∈ pre ++ [n], ∀ r ∈ R m, GoodR r ∧ (payL r).length ≤ 65536
 ahead : ∀ m ∈ pre, getF D.files (nameW m) = some ⟨nameW m, recsL (R m), (recsL (R m)).length⟩
 last : getF D.files (nameW n) = some ⟨nameW n, recsL (R n) ++ x, (recsL (R n)).length + k⟩
 only : ∀ f ∈ D.files, ∃ m ∈ pre ++ [n], f.name = nameW m
def recsOf (R : Nat → List RecD) (l : List Nat) : List RecD := l.flatMap R
def segOf (R : Nat → List RecD) (n : Nat) : SegD := ⟨n, (recsL (R n)).length, topL (R n)⟩
theorem then_dies {D : DiskD} {l : List FileD} (hf : D.fuse = 0) : thenD D l = (7, { D with dead := true }) := by
 unfold thenD turnD; rw [if_pos hf, if_neg (by simp)]
theorem then_does {D : DiskD} {l : List FileD} (hf : D.fuse ≠ 0) : thenD D l = (0, { D with files := l, fuse := max (D.fuse - 1) (-1) }) := by
 unfold thenD turnD; rw [if_neg hf, if_pos rfl]; rfl
section
variable {D : DiskD} {pre : List Nat} {n : Nat} {R : Nat → List RecD} {x : Str} {k : Nat}
theorem SegsAt.nums (h : SegsAt D pre n R x k) : numsD D.files = (pre ++ [n]).map fun n => ((n : Nat) : Int) := by
 refine numsD_is h.inv.sorted h.rise h.range (fun m hm => ?_) h.only
 rcases List.mem_append.1 hm with hm | hm
 ·exact ⟨_, (get_mem (h.ahead m hm)).1, rfl⟩
 ·rw [List.mem_singleton.1 hm]; exact ⟨_, (get_mem h.last).1, rfl⟩
theorem SegsAt.numsN (h : SegsAt D pre n R x k) : numsN D = pre ++ [n] := by
 unfold Go.Proofs.YtgmghopcppniaaaGreatDoor.numsN
 rw [h.nums, List.map_map]
 have : (Int.toNat ∘ fun n : Nat => ((n : Nat) : Int)) = id := by funext a; simp
 rw [this, List.map_id]
theorem SegsAt.ne (h : SegsAt D pre n R x k) {m : Nat} (hm : m ∈ pre) : m < n := by
 have := List.pairwise_append.1 h.rise
 exact this.2.2 m hm n (List.mem_singleton.2 rfl)
theorem SegsAt.name_ne (h : SegsAt D pre n R x k) {m : Nat} (hm : m ∈ pre) : nameW m ≠ nameW n := by
 have h1 := h.range m (List.mem_append_left _ hm)
 have h2 := h.range n (List.mem_append_right _ (List.mem_singleton.2 rfl))
 intro e
 have := nameW_inj h1.1 h1.2 h2.1 h2.2 e
 have := h.ne hm
 omega
theorem SegsAt.rangeN (h : SegsAt D pre n R x k) : 0 < n ∧ n < 1000000 := h.range n (List.mem_append_right _ (List.mem_singleton.2 rfl))
theorem SegsAt.goodN (h : SegsAt D pre n R x k) : ∀ r ∈ R n, GoodR r ∧ (payL r).length ≤ 65536 := h.good n (List.mem_append_right _ (List.mem_singleton.2 rfl))
theorem read_file' {D : DiskD} {n : Str} {f : FileD} (hd : D.dead = false) (h : getF D.files n = some f) : readD D n = (f.bytes, 0) := by
 unfold readD; rw [if_neg (by rw [hd]; simp), h]
theorem readS_recs {l : List RecD} (hl : ∀ r ∈ l, GoodR r ∧ (payL r).length ≤ 65536) : readS (recsL l) = ((l, (recsL l).length), 0) := by
 have := read_recs l [] hl
 rw [readS_nil, List.append_nil, List.append_nil] at this
 exact this
theorem readSeg_ahead (h : SegsAt D pre n R x k) (hd : D.dead = false) {m : Nat} (hm : m ∈ pre) (st : StD) (last : Bool) : readSeg D st m last = ((0, (foldS st (R m), segOf R m)), D) := by
 have h1 := read_file' hd (h.ahead m hm)
 unfold readSeg
 rw [h1]
 dsimp only
 rw [if_neg (by simp), readS_recs (h.good m (List.mem_append_left _ hm)), if_pos rfl]; rfl
theorem readSeg_clean (h : SegsAt D pre n R [] k) (hd : D.dead = false) (st : StD) : readSeg D st n true = ((0, (foldS st (R n), segOf R n)), D) := by
 have h1 := read_file' hd h.last
 unfold readSeg
 rw [h1]
 dsimp only
 rw [if_neg (by simp), List.append_nil, readS_recs h.goodN, if_pos rfl]; rfl
theorem readAll_pre (h : SegsAt D pre n R x k) (hd : D.dead = false) : ∀ (l : List Nat) (st : StD) (segs : List SegD), (∀ m ∈ l, m ∈ pre) →
  readAll (l ++ [n]) st segs D = readAll [n] (foldS st (recsOf R l)) (segs ++ l.map (segOf R)) D
 | [], st, segs, _ => by simp [recsOf, foldS_nil]
 | m :: l, st, segs, hl => by
  show readAll (m :: (l ++ [n])) st segs D = _
  have he : (l ++ [n]).isEmpty = false := by simp
  conv => lhs; unfold readAll
  rw [he, readSeg_ahead h hd (hl m (List.mem_cons_self ..))]
  dsimp only
  rw [if_neg (by simp), readAll_pre h hd l _ _ fun y hy => hl y (List.mem_cons_of_mem _ hy), ← foldS_app]
  simp [recsOf]
theorem readAll_one (n : Nat) (st : StD) (segs : List SegD) (D : DiskD) : readAll [n] st segs D = (((readSeg D st n true).1.1, ((readSeg D st n true).1.2.1, segs ++ [(readSeg D st n true).1.2.2])), (readSeg D st n true).2) := by
 unfold readAll
 rw [show (([] : List Nat).isEmpty) = true from rfl]
 dsimp only
 by_cases h : (readSeg D st n true).1.1 ≠ 0
 ·rw [if_pos h]
 ·rw [if_neg h]
  have h0 : (readSeg D st n true).1.1 = 0 := Classical.byContradiction h
  rw [h0]; rfl
theorem open_is (h : SegsAt D pre n R x k) (hd : D.dead = false) : openD D =
  (((readSeg D (foldS zeroS (recsOf R pre)) n true).1.1, ((readSeg D (foldS zeroS (recsOf R pre)) n true).1.2.1, pre.map (segOf R) ++ [(readSeg D (foldS zeroS (recsOf R pre)) n true).1.2.2])), (readSeg D (foldS zeroS (recsOf R pre)) n true).2) := by
 unfold openD
 rw [h.numsN, if_neg (by simp), readAll_pre h hd pre _ _ (fun _ h => h), readAll_one, List.nil_append]
/-- a disk of whole records alone is opened as it is -/
theorem open_clean (h : SegsAt D pre n R [] k) (hd : D.dead = false) : openD D = ((0, (foldS zeroS (recsOf R (pre ++ [n])), (pre ++ [n]).map (segOf R))), D) := by
 rw [open_is h hd, readSeg_clean h hd, ← foldS_app]
 simp [recsOf]
/-- a change of the last segment alone -/
theorem SegsAt.put (h : SegsAt D pre n R x k) {E : DiskD} {y : Str} {j : Nat} (hE : InvD E) (hf : E.files = putF D.files ⟨nameW n, recsL (R n) ++ y, (recsL (R n)).length + j⟩) : SegsAt E pre n R y j := by
 refine ⟨hE, h.rise, h.range, h.good, fun m hm => ?_, ?_, fun f hf2 => ?_⟩
 ·rw [hf, get_put h.inv.sorted, if_neg (h.name_ne hm)]; exact h.ahead m hm
 ·rw [hf, get_put h.inv.sorted, if_pos rfl]
 ·rw [hf, mem_put h.inv.sorted] at hf2
  rcases hf2 with rfl | ⟨hf2, _⟩
  ·exact ⟨n, List.mem_append_right _ (List.mem_singleton.2 rfl), rfl⟩
  ·exact h.only f hf2
theorem SegsAt.same (h : SegsAt D pre n R x k) {E : DiskD} (hE : InvD E) (hf : E.files = D.files) : SegsAt E pre n R x k :=
 ⟨hE, h.rise, h.range, h.good, fun m hm => by rw [hf]; exact h.ahead m hm, by rw [hf]; exact h.last, fun f hf2 => h.only f (by rw [← hf]; exact hf2)⟩
/-- what is no record behind the last one is cut off, or the power goes -/
theorem open_torn (h : SegsAt D pre n R x k) (hd : D.dead = false) {e : Int} (hx : readS x = (([], 0), e)) (hk : k = 0 ∨ k = x.length) :
  ((openD D).1 = (0, (foldS zeroS (recsOf R (pre ++ [n])), (pre ++ [n]).map (segOf R))) ∧ (openD D).2.dead = false ∧ SegsAt (openD D).2 pre n R [] 0 ∧ (D.fuse = -1 → (openD D).2.fuse = -1)) ∨
  ((openD D).1.1 = 7 ∧ (openD D).2.dead = true ∧ ∃ y, SegsAt (openD D).2 pre n R y (if y = [] then 0 else k) ∧ (y = x ∨ y = []) ∧ D.fuse ≠ -1) := by
 by_cases hx0 : x = []
 ·subst hx0
  have hk0 : k = 0 := by rcases hk with h | h <;> simpa using h
  subst hk0
  left
  rw [open_clean h hd]
  exact ⟨rfl, hd, h, fun h => h⟩
 ·have h1 := read_file' hd h.last
  have hr := read_recs (R n) x h.goodN
  rw [hx, List.append_nil, Nat.add_zero] at hr
  have he0 : e ≠ 0 := by
   have := (readS_back x).2.2.2.1
   rw [hx] at this
   have hxl := List.length_pos_iff.2 hx0
   dsimp only at this
   omega
  have hst : foldS (foldS zeroS (recsOf R pre)) (R n) = foldS zeroS (recsOf R (pre ++ [n])) := by rw [← foldS_app]; simp [recsOf]
  have hsg : pre.map (segOf R) ++ [segOf R n] = (pre ++ [n]).map (segOf R) := by simp
  have hTi := h.inv.trunc (nameW n) ((recsL (R n)).length : Int)
  have hSi := hTi.sync (nameW n)
  have hT : truncD D (nameW n) ((recsL (R n)).length : Int) = thenD D (putF D.files ⟨nameW n, recsL (R n), (recsL (R n)).length⟩) := by
   unfold truncD
   rw [if_neg (by rw [hd]; simp), h.last]
   dsimp only
   rw [if_neg (by rw [List.length_append]; omega), Int.toNat_natCast, List.take_left, Nat.min_eq_right (by omega)]
  have hq : readSeg D (foldS zeroS (recsOf R pre)) n true = if (truncD D (nameW n) ((recsL (R n)).length : Int)).1 ≠ 0 then (((truncD D (nameW n) ((recsL (R n)).length : Int)).1, (foldS zeroS (recsOf R (pre ++ [n])), segOf R n)), (truncD D (nameW n) ((recsL (R n)).length : Int)).2)
    else (((syncD (truncD D (nameW n) ((recsL (R n)).length : Int)).2 (nameW n)).1, (foldS zeroS (recsOf R (pre ++ [n])), segOf R n)), (syncD (truncD D (nameW n) ((recsL (R n)).length : Int)).2 (nameW n)).2) := by
   unfold readSeg
   rw [h1]
   dsimp only
   rw [if_neg (by simp), hr]
   dsimp only
   rw [if_neg he0, if_neg (by simp), hst]; rfl
  rw [open_is h hd, hq]
  by_cases hz : D.fuse = 0
  ·rw [hT, then_dies hz] at hTi ⊢
   right
   rw [if_pos (by simp)]
   refine ⟨rfl, rfl, x, ?_, .inl rfl, by omega⟩
   rw [if_neg hx0]
   exact h.same hTi rfl
  ·rw [hT, then_does hz] at hTi ⊢
   rw [if_neg (by simp)]
   obtain ⟨E, hE⟩ : ∃ E : DiskD, E = { D with files := putF D.files ⟨nameW n, recsL (R n), (recsL (R n)).length⟩, fuse := max (D.fuse - 1) (-1) } := ⟨_, rfl⟩
   rw [← hE] at hTi ⊢
   have hEd : E.dead = false := by rw [hE]; exact hd
   have hEf : E.fuse = max (D.fuse - 1) (-1) := by rw [hE]
   have hES : SegsAt E pre n R [] 0 := h.put hTi (by rw [hE, List.append_nil]; rfl)
   have hSi := hTi.sync (nameW n)
   have hS : syncD E (nameW n) = thenD E (putF E.files ⟨nameW n, recsL (R n), (recsL (R n)).length⟩) := by
    unfold syncD
    rw [if_neg (by rw [hEd]; simp), hES.last]
    dsimp only
    rw [List.append_nil]
   by_cases hz2 : E.fuse = 0
   ·rw [hS, then_dies hz2] at hSi ⊢
    right
    refine ⟨rfl, rfl, [], ?_, .inr rfl, by have := h.inv.fuse; omega⟩
    rw [if_pos rfl]
    exact hES.same hSi rfl
   ·rw [hS, then_does hz2] at hSi ⊢
    left
    refine ⟨?_, hEd, hES.put hSi (by rw [List.append_nil]; rfl), fun hm => ?_⟩
    ·dsimp only; rw [hsg]
    ·show max (E.fuse - 1) (-1) = -1
     rw [hEf, hm]; decide
end
end Go.Proofs.YtgmghopcppniaaaGreatDoor

/- Layer 3 in plain words: what a crash leaves of a log's disk (no program). -/
namespace Go.Proofs.YtgmghopcppniaaaGreatDoor

def updR (R : Nat → List RecD) (n : Nat) (l : List RecD) (m : Nat) : List RecD := if m = n then l else R m
theorem updR_at (R : Nat → List RecD) (n : Nat) (l : List RecD) : updR R n l n = l := if_pos rfl
theorem updR_ne {R : Nat → List RecD} {n m : Nat} {l : List RecD} (h : m ≠ n) : updR R n l m = R m := if_neg h
theorem recsOf_app (R : Nat → List RecD) (a b : List Nat) : recsOf R (a ++ b) = recsOf R a ++ recsOf R b := List.flatMap_append
theorem recsOf_upd {R : Nat → List RecD} {n : Nat} {l : List RecD} : ∀ {a : List Nat}, (∀ m ∈ a, m ≠ n) → recsOf (updR R n l) a = recsOf R a
 | [], _ => rfl
 | m :: a, h => by
  show updR R n l m ++ recsOf (updR R n l) a = R m ++ recsOf R a
  rw [updR_ne (h m (List.mem_cons_self ..)), recsOf_upd fun x hx => h x (List.mem_cons_of_mem _ hx)]
theorem segOf_upd {R : Nat → List RecD} {n : Nat} {l : List RecD} {a : List Nat} (h : ∀ m ∈ a, m ≠ n) : a.map (segOf (updR R n l)) = a.map (segOf R) := by
 refine List.map_congr_left fun m hm => ?_
 unfold segOf
 rw [updR_ne (h m hm)]
section
variable {D : DiskD} {pre : List Nat} {n : Nat} {R : Nat → List RecD} {x : Str} {k : Nat}
variable {xb : UInt8 → Int → UInt8} {keep noise : List Int}
theorem SegsAt.ne' (h : SegsAt D pre n R x k) : ∀ m ∈ pre, m ≠ n := fun m hm => by have := h.ne hm; omega
/-- which files there are -/
theorem SegsAt.file (h : SegsAt D pre n R x k) {f : FileD} (hf : f ∈ D.files) : (f.name = nameW n ∧ f = ⟨nameW n, recsL (R n) ++ x, (recsL (R n)).length + k⟩) ∨ (f.name ≠ nameW n ∧ f.bytes.length = f.synced) := by
 obtain ⟨m, hm, hn⟩ := h.only f hf
 have hg := get_of_mem h.inv.sorted hf hn
 rcases List.mem_append.1 hm with hm | hm
 ·right
  rw [h.ahead m hm] at hg
  obtain rfl := Option.some.inj hg
  exact ⟨h.name_ne hm, rfl⟩
 ·left
  obtain rfl := List.mem_singleton.1 hm
  rw [h.last] at hg
  obtain rfl := Option.some.inj hg
  exact ⟨rfl, rfl⟩
theorem SegsAt.tail (h : SegsAt D pre n R x k) : OneTail (nameW n) D.files := by
 intro f hf hn
 rcases h.file hf with ⟨h1, _⟩ | ⟨_, h2⟩
 ·exact absurd h1 hn
 ·exact h2
/-- of what was not synced, a beginning is there -/
theorem crash_torn {tl : List RecD} (h : SegsAt D pre n R (recsL tl) 0) (ht : ∀ r ∈ tl, GoodR r ∧ (payL r).length ≤ 65536) :
  ∃ j z e, j ≤ tl.length ∧ SegsAt (crashD xb D keep noise) pre n (updR R n (R n ++ tl.take j)) z z.length ∧ readS z = (([], 0), e) := by
 obtain ⟨f, hf⟩ : ∃ f : FileD, f = ⟨nameW n, recsL (R n) ++ recsL tl, (recsL (R n)).length⟩ := ⟨_, rfl⟩
 have hgf : getF D.files (nameW n) = some f := by rw [hf]; exact h.last
 have hc := crash_one (xb := xb) (keep := keep) (noise := noise) h.inv.sorted h.tail hgf
 have hs : (crashD xb D keep noise).files = crashL xb keep noise 0 D.files := rfl
 have hbytes := crash1_bytes (xb := xb) (nameW n) (recsL (R n)) (recsL tl) keep noise
 rw [← hf] at hbytes
 obtain ⟨g, hg⟩ : ∃ g, crash1 xb keep noise f = g := ⟨_, rfl⟩
 rw [hg] at hc hbytes
 have hgm := get_mem hc
 have hgs : g.bytes.length = g.synced := crash_tails h.inv g (by rw [hs]; exact hgm.1)
 have hmain : ∃ j z e, j ≤ tl.length ∧ g.bytes = recsL (R n) ++ recsL (tl.take j) ++ z ∧ readS z = (([], 0), e) := by
  by_cases hk : keptN (nthD keep 0) (recsL tl) = 0
  ·rw [if_pos hk] at hbytes
   exact ⟨0, [], 0, Nat.zero_le _, by rw [hbytes]; simp [recsL], rfl⟩
  ·rw [if_neg hk] at hbytes
   have hkl := keptN_le (nthD keep 0) (recsL tl)
   obtain ⟨j, z, e, h1, h2, h3⟩ := torn_recs tl (fun r hr => (ht r hr).2) (keptN (nthD keep 0) (recsL tl) - 1) (by omega) (xb ((recsL tl).getD (keptN (nthD keep 0) (recsL tl) - 1) 0) (nthD noise 0))
   exact ⟨j, z, e, h1, by rw [hbytes, h2, List.append_assoc], h3⟩
 obtain ⟨j, z, e, h1, h2, h3⟩ := hmain
 refine ⟨j, z, e, h1, ?_, h3⟩
 refine ⟨h.inv.crash, h.rise, h.range, fun m hm r hr => ?_, fun m hm => ?_, ?_, fun y hy => ?_⟩
 ·by_cases hmn : m = n
  ·subst hmn
   rw [updR_at] at hr
   rcases List.mem_append.1 hr with hr | hr
   ·exact h.good m hm r hr
   ·exact ht r (List.mem_of_mem_take hr)
  ·rw [updR_ne hmn] at hr; exact h.good m hm r hr
 ·rw [updR_ne (h.ne' m hm), hs]
  have h5 := get_mem (h.ahead m hm)
  exact get_of_mem h.inv.crash.sorted (crash_mem D.files 0 h5.1 rfl) h5.2
 ·rw [updR_at, hs, hc]
  have h6 : g = ⟨nameW n, g.bytes, g.bytes.length⟩ := by
   have h7 := hgm.2
   rw [hgs]
   cases g; simp at h7; rw [h7]
  rw [h6, h2, recsL_app]
  simp
  omega
 ·rw [hs] at hy
  obtain ⟨f2, h4, h5, _⟩ := crash_back D.files 0 hy
  obtain ⟨m, hm, h6⟩ := h.only f2 h4
  exact ⟨m, hm, by rw [h5, h6]⟩
end
end Go.Proofs.YtgmghopcppniaaaGreatDoor

/- Layer 3 in plain words: records laid down, saves, resets, cuts (no program). -/
namespace Go.Proofs.YtgmghopcppniaaaGreatDoor

/-- records laid down behind the last segment -/
def layRs (L : LogD) (t v : Int) (tell : Bool) (ps : List RecD) : List RecD := if tell = true ∨ L.last.size = 0 then .hard t v :: ps else ps
def sized (L : LogD) (k : Nat) : LogD := { L with last := { L.last with size := L.last.size + k } }
def layL (L : LogD) (D : DiskD) (rs : List RecD) : Int × (LogD × DiskD) :=
 if (appendD D (nameW L.last.num) (recsL rs)).1 ≠ 0 then ((appendD D (nameW L.last.num) (recsL rs)).1, (L, (appendD D (nameW L.last.num) (recsL rs)).2))
 else ((syncD (appendD D (nameW L.last.num) (recsL rs)).2 (nameW L.last.num)).1, (sized L (recsL rs).length, (syncD (appendD D (nameW L.last.num) (recsL rs)).2 (nameW L.last.num)).2))
def grownL (L : LogD) : LogD := if 2000 ≤ L.last.size ∧ L.pre.length + 1 < 20 then ⟨L.st, L.pre ++ [L.last], ⟨L.last.num + 1, 0, 0⟩⟩ else L
def stillL (was now : LogD) (D : DiskD) : LogD := if (getF D.files (nameW now.last.num)).isSome = true then now else was
def wrongA (t v : Int) (l : List EntD) : Bool := decide (t < 0) || (decide (v < 0) || (!l.all rightE || l.any fun e => decide (65536 < (entTx e).length)))
def idleA (L : LogD) (t v : Int) (l : List EntD) : Bool := l.isEmpty && (decide (t = L.st.t) && decide (v = L.st.v))
def saveRs (L : LogD) (t v : Int) (l : List EntD) : List RecD := layRs (grownL L) t v (!(decide (t = L.st.t) && decide (v = L.st.v))) (l.map .ent)
def saveL (L : LogD) (D : DiskD) (t v : Int) (l : List EntD) : Int × (LogD × DiskD) :=
 if wrongA t v l = true then (1, (L, D))
 else if idleA L t v l = true then (0, (L, D))
 else if (layL (grownL L) D (saveRs L t v l)).1 ≠ 0 then ((layL (grownL L) D (saveRs L t v l)).1, (stillL L (layL (grownL L) D (saveRs L t v l)).2.1 (layL (grownL L) D (saveRs L t v l)).2.2, (layL (grownL L) D (saveRs L t v l)).2.2))
 else (0, (foldR (layL (grownL L) D (saveRs L t v l)).2.1 (saveRs L t v l), (layL (grownL L) D (saveRs L t v l)).2.2))
def resetRs (L : LogD) : List RecD := layRs L L.st.t L.st.v false [.reset]
def resetL (L : LogD) (D : DiskD) : Int × (LogD × DiskD) :=
 if (layL L D (resetRs L)).1 ≠ 0 then layL L D (resetRs L)
 else (0, (foldR (layL L D (resetRs L)).2.1 (resetRs L), (layL L D (resetRs L)).2.2))
def cutF (i : Int) : List SegD → DiskD → Int × (List SegD × DiskD)
 | [], D => (0, ([], D))
 | s :: t, D => if s.top ≤ i then (if (deleteD D (nameW s.num)).1 ≠ 0 then ((deleteD D (nameW s.num)).1, (s :: t, (deleteD D (nameW s.num)).2)) else cutF i t (deleteD D (nameW s.num)).2) else (0, (s :: t, D))
def cutL (L : LogD) (D : DiskD) (i : Int) : Int × (LogD × DiskD) :=
 if D.dead = true then (7, (L, D)) else ((cutF i L.pre D).1, ({ L with pre := (cutF i L.pre D).2.1 }, (cutF i L.pre D).2.2))

/-! ### what a log has on its disk -/
structure Held (L : LogD) (D : DiskD) (R : Nat → List RecD) : Prop where
 at' : SegsAt D (L.pre.map (·.num)) L.last.num R [] 0
 segs : L.pre = (L.pre.map (·.num)).map (segOf R)
 last : L.last = segOf R L.last.num
 fresh : ∀ m, L.last.num < m → R m = []
 alive : D.dead = false
 ok : OkS L.st
def numsL (L : LogD) : List Nat := L.pre.map (·.num) ++ [L.last.num]
theorem foldR_num (L : LogD) (rs : List RecD) : (foldR L rs).pre = L.pre ∧ (foldR L rs).last.num = L.last.num ∧ (foldR L rs).last.size = L.last.size ∧ (foldR L rs).st = foldS L.st rs := by
 rw [foldR_is]; exact ⟨rfl, rfl, rfl, rfl⟩
theorem append_cases {D : DiskD} {n : Str} {x : Str} (hd : D.dead = false) (hn : nameOK n = true) :
  ((appendD D n x) = (11, D) ∧ D.files.length = 40) ∨ ((appendD D n x) = (6, D)) ∨ appendD D n x = thenD D (putF D.files (grown D.files n x)) := by
 unfold appendD
 rw [if_neg (by rw [hd]; simp), if_neg (by rw [hn]; simp)]
 by_cases h1 : getF D.files n = none ∧ D.files.length = 40
 ·rw [if_pos h1]; exact .inl ⟨rfl, h1.2⟩
 ·rw [if_neg h1]
  by_cases h2 : D.most < (total D.files : Int) + x.length
  ·rw [if_pos h2]; exact .inr (.inl rfl)
  ·rw [if_neg h2]; exact .inr (.inr rfl)
/-- how laying records down may end -/
inductive LaidR (M : LogD) (D : DiskD) (R : Nat → List RecD) (rs : List RecD) (p : Int × (LogD × DiskD)) : Prop
 | done (h0 : p.1 = 0) (h : Held (foldR p.2.1 rs) p.2.2 (updR R M.last.num (R M.last.num ++ rs))) (hs : p.2.1 = sized M (recsL rs).length) (hf : D.fuse = -1 → p.2.2.fuse = -1) (ht : total p.2.2.files = total D.files + (recsL rs).length) (hm : p.2.2.most = D.most)
 | no (e : Int) (h : p = (e, (M, D))) (he : e = 6 ∨ (e = 11 ∧ D.files.length = 40))
 | dies (h : p = (7, (M, { D with dead := true }))) (hf : D.fuse ≠ -1)
 | torn (h7 : p.1 = 7) (hd : p.2.2.dead = true) (h : SegsAt p.2.2 (M.pre.map (·.num)) M.last.num R (recsL rs) 0) (hs : p.2.1 = sized M (recsL rs).length) (hf : D.fuse ≠ -1) (hm : p.2.2.most = D.most)
/-- the segment that is laid behind: it is there, or it is new -/
structure Room (M : LogD) (D : DiskD) (R : Nat → List RecD) : Prop where
 rise : (numsL M).Pairwise (· < ·)
 range : ∀ m ∈ numsL M, 0 < m ∧ m < 1000000
 good : ∀ m ∈ numsL M, ∀ r ∈ R m, GoodR r ∧ (payL r).length ≤ 65536
 ahead : ∀ m ∈ M.pre.map (·.num), getF D.files (nameW m) = some ⟨nameW m, recsL (R m), (recsL (R m)).length⟩
 last : getF D.files (nameW M.last.num) = some ⟨nameW M.last.num, recsL (R M.last.num), (recsL (R M.last.num)).length⟩ ∨ (getF D.files (nameW M.last.num) = none ∧ R M.last.num = [])
 only : ∀ f ∈ D.files, ∃ m ∈ numsL M, f.name = nameW m
 segs : M.pre = (M.pre.map (·.num)).map (segOf R)
 seg : M.last = segOf R M.last.num
 fresh : ∀ m, M.last.num < m → R m = []
 inv : InvD D
 alive : D.dead = false
 ok : OkS M.st
theorem Held.room {L : LogD} {D : DiskD} {R : Nat → List RecD} (h : Held L D R) : Room L D R :=
 ⟨h.at'.rise, h.at'.range, h.at'.good, h.at'.ahead, .inl (by have := h.at'.last; rwa [List.append_nil] at this), h.at'.only, h.segs, h.last, h.fresh, h.at'.inv, h.alive, h.ok⟩
theorem Held.grow {L : LogD} {D : DiskD} {R : Nat → List RecD} (h : Held L D R) (hn : L.last.num + 1 < 1000000) : Room ⟨L.st, L.pre ++ [L.last], ⟨L.last.num + 1, 0, 0⟩⟩ D R := by
 have e : numsL ⟨L.st, L.pre ++ [L.last], ⟨L.last.num + 1, 0, 0⟩⟩ = numsL L ++ [L.last.num + 1] := by simp [numsL]
 have hle : ∀ m ∈ numsL L, m ≤ L.last.num := fun m hm => by
  rcases List.mem_append.1 hm with hm | hm
  ·exact Nat.le_of_lt (h.at'.ne hm)
  ·rw [List.mem_singleton.1 hm]; exact Nat.le_refl _
 have hr := h.fresh (L.last.num + 1) (by omega)
 refine ⟨?_, fun m hm => ?_, fun m hm => ?_, fun m hm => ?_, .inr ⟨?_, hr⟩, fun f hf => ?_, ?_, ?_, fun m hm => h.fresh m (by have : L.last.num + 1 < m := hm; omega), h.at'.inv, h.alive, h.ok⟩
 ·rw [e]
  refine List.pairwise_append.2 ⟨h.at'.rise, List.pairwise_singleton _ _, fun a ha b hb => ?_⟩
  rw [List.mem_singleton.1 hb]; have := hle a ha; omega
 ·rw [e] at hm
  rcases List.mem_append.1 hm with hm | hm
  ·exact h.at'.range m hm
  ·rw [List.mem_singleton.1 hm]; omega
 ·rw [e] at hm
  rcases List.mem_append.1 hm with hm | hm
  ·exact h.at'.good m hm
  ·rw [List.mem_singleton.1 hm, hr]; intro r hr; cases hr
 ·have hm2 : m ∈ numsL L := by simpa [numsL] using hm
  rcases List.mem_append.1 hm2 with hm | hm
  ·exact h.at'.ahead m hm
  ·rw [List.mem_singleton.1 hm]
   have := h.at'.last
   rwa [List.append_nil] at this
 ·refine get_none.2 fun f hf e2 => ?_
  obtain ⟨m, hm, h3⟩ := h.at'.only f hf
  have h4 := h.at'.range m hm
  have h5 := hle m hm
  have : m = L.last.num + 1 := nameW_inj h4.1 h4.2 (by omega) hn (by rw [← h3]; exact e2)
  omega
 ·obtain ⟨m, hm, h3⟩ := h.at'.only f hf
  exact ⟨m, by rw [e]; exact List.mem_append_left _ hm, h3⟩
 ·show L.pre ++ [L.last] = _
  rw [List.map_append, List.map_append, ← h.segs, List.map_singleton, List.map_singleton, ← h.last]
 ·show (⟨L.last.num + 1, 0, 0⟩ : SegD) = segOf R (L.last.num + 1)
  unfold segOf; rw [hr]; rfl
theorem Room.lay {M : LogD} {D : DiskD} {R : Nat → List RecD} (h : Room M D R) {rs : List RecD} (hg : ∀ r ∈ rs, GoodR r ∧ (payL r).length ≤ 65536) : LaidR M D R rs (layL M D rs) := by
 have hrn := h.range M.last.num (List.mem_append_right _ (List.mem_singleton.2 rfl))
 have hne : ∀ m ∈ M.pre.map (·.num), m ≠ M.last.num := fun m hm => by
  have := (List.pairwise_append.1 h.rise).2.2 m hm _ (List.mem_singleton.2 rfl)
  omega
 have hnn : ∀ m ∈ M.pre.map (·.num), nameW m ≠ nameW M.last.num := fun m hm e => by
  have h1 := h.range m (List.mem_append_left _ hm)
  exact hne m hm (nameW_inj h1.1 h1.2 hrn.1 hrn.2 e)
 have hok := nameW_ok hrn.2
 unfold layL
 rcases append_cases (x := recsL rs) h.alive hok with ⟨hp, hq⟩ | hp | hp
 ·rw [hp, if_pos (by simp)]; exact .no 11 rfl (.inr ⟨rfl, hq⟩)
 ·rw [hp, if_pos (by simp)]; exact .no 6 rfl (.inl rfl)
 ·by_cases hz : D.fuse = 0
  ·rw [hp, then_dies hz, if_pos (by simp)]; exact .dies rfl (by omega)
  ·have hAi := h.inv.append (nameW M.last.num) (recsL rs)
   have htot : total (putF D.files (grown D.files (nameW M.last.num) (recsL rs))) = total D.files + (recsL rs).length := by
    rw [total_put h.inv.sorted, grown_name]
    rcases h.last with hl | ⟨hl, _⟩
    ·rw [total_get h.inv.sorted hl, grown_some hl, List.length_append]
     dsimp only; omega
    ·rw [grown_none hl, del_none hl]
     dsimp only; omega
   have hgr : grown D.files (nameW M.last.num) (recsL rs) = ⟨nameW M.last.num, recsL (R M.last.num) ++ recsL rs, (recsL (R M.last.num)).length⟩ := by
    rcases h.last with hl | ⟨hl, hl2⟩
    ·rw [grown_some hl]
    ·rw [grown_none hl, hl2]; rfl
   rw [hp, then_does hz] at hAi ⊢
   rw [if_neg (by simp)]
   rw [hgr] at hAi htot ⊢
   obtain ⟨E, hE⟩ : ∃ E : DiskD, E = { D with files := putF D.files ⟨nameW M.last.num, recsL (R M.last.num) ++ recsL rs, (recsL (R M.last.num)).length⟩, fuse := max (D.fuse - 1) (-1) } := ⟨_, rfl⟩
   rw [← hE] at hAi ⊢
   have hEd : E.dead = false := by rw [hE]; exact h.alive
   have hEf : E.fuse = max (D.fuse - 1) (-1) := by rw [hE]
   have hEm : E.most = D.most := by rw [hE]
   have hEt : total E.files = total D.files + (recsL rs).length := by rw [hE]; exact htot
   have hES : SegsAt E (M.pre.map (·.num)) M.last.num R (recsL rs) 0 := by
    refine ⟨hAi, h.rise, h.range, h.good, fun m hm => ?_, ?_, fun f hf => ?_⟩
    ·rw [hE]; show getF (putF _ _) _ = _; rw [get_put h.inv.sorted, if_neg (hnn m hm)]; exact h.ahead m hm
    ·rw [hE]; show getF (putF _ _) _ = _; rw [get_put h.inv.sorted, if_pos rfl, Nat.add_zero]
    ·rw [hE] at hf
     rcases (mem_put h.inv.sorted).1 hf with rfl | ⟨hf, _⟩
     ·exact ⟨M.last.num, List.mem_append_right _ (List.mem_singleton.2 rfl), rfl⟩
     ·exact h.only f hf
   have hSi := hAi.sync (nameW M.last.num)
   have hS : syncD E (nameW M.last.num) = thenD E (putF E.files ⟨nameW M.last.num, recsL (R M.last.num) ++ recsL rs, (recsL (R M.last.num) ++ recsL rs).length⟩) := by
    unfold syncD
    rw [if_neg (by rw [hEd]; simp), hES.last]
   by_cases hz2 : E.fuse = 0
   ·rw [hS, then_dies hz2] at hSi ⊢
    exact .torn rfl rfl (hES.same hSi rfl) rfl (by have := h.inv.fuse; omega) hEm
   ·rw [hS, then_does hz2] at hSi ⊢
    have hT : total (putF E.files ⟨nameW M.last.num, recsL (R M.last.num) ++ recsL rs, (recsL (R M.last.num) ++ recsL rs).length⟩) = total D.files + (recsL rs).length := by
     rw [total_put hES.inv.sorted, ← hEt, total_get hES.inv.sorted hES.last]
    refine .done rfl ?_ rfl (fun hm => ?_) hT hEm
    ·have h2 := hES.put (y := recsL rs) (j := (recsL rs).length) hSi (by rw [← List.length_append])
     obtain ⟨f1, f2, f3, f4⟩ := foldR_num (sized M (recsL rs).length) rs
     refine ⟨⟨hSi, by rw [f1, f2]; exact h.rise, by rw [f1, f2]; exact h.range, ?_, ?_, ?_, ?_⟩, ?_, ?_, ?_, hEd, ?_⟩
     ·rw [f1, f2]
      intro m hm r hr
      by_cases e : m = M.last.num
      ·subst e
       rw [updR_at] at hr
       rcases List.mem_append.1 hr with hr | hr
       ·exact h.good _ hm r hr
       ·exact hg r hr
      ·rw [updR_ne e] at hr; exact h.good m hm r hr
     ·rw [f1]; intro m hm; rw [updR_ne (hne m hm)]; exact h2.ahead m hm
     ·rw [f2]; show getF _ (nameW M.last.num) = _
      rw [h2.last, show (sized M (recsL rs).length).last.num = M.last.num from rfl, updR_at, recsL_app]; simp
     ·rw [f1, f2]; exact h2.only
     ·rw [f1]; show M.pre = (M.pre.map (·.num)).map (segOf (updR R M.last.num (R M.last.num ++ rs)))
      rw [segOf_upd hne]; exact h.segs
     ·rw [f2, foldR_is]
      show (⟨M.last.num, M.last.size + (recsL rs).length, rs.foldl topR M.last.top⟩ : SegD) = segOf _ M.last.num
      unfold segOf
      rw [updR_at, recsL_app, List.length_append, topL_app]
      have := h.seg
      rw [congrArg SegD.size this, congrArg SegD.top this]; rfl
     ·rw [f2]
      intro m hm
      have : M.last.num < m := hm
      rw [updR_ne (by omega)]; exact h.fresh m this
     ·rw [f4]; exact OkS.fold rs h.ok fun r hr => (hg r hr).1
    ·show max (E.fuse - 1) (-1) = -1
     rw [hEf, hm]; decide
end Go.Proofs.YtgmghopcppniaaaGreatDoor

/- Layer 3 in plain words: segments' names read and written (no program). -/
namespace Go.Proofs.YtgmghopcppniaaaGreatDoor

def digitB (c : UInt8) : Bool := decide (48 ≤ c.toNat) && decide (c.toNat ≤ 57)
theorem decHi_head : ∀ (n v : Nat), v ≤ n → v ≠ 0 → ∃ c l, decHi v = c :: l ∧ 49 ≤ c.toNat
 | 0, v, h, h0 => absurd (by omega) h0
 | n + 1, v, h, h0 => by
  rw [decHi_pos h0]
  by_cases h2 : v / 10 = 0
  ·refine ⟨UInt8.ofNat (48 + v % 10), [], by rw [h2, decHi_zero]; rfl, ?_⟩
   rw [UInt8.toNat_ofNat']; omega
  ·obtain ⟨c, l, h3, h4⟩ := decHi_head n (v / 10) (by omega) h2
   exact ⟨c, l ++ [UInt8.ofNat (48 + v % 10)], by rw [h3]; rfl, h4⟩
theorem dec_pos : ∀ (k : Nat) (t : Str), t.length ≤ k → (∀ c ∈ t, 48 ≤ c.toNat ∧ c.toNat ≤ 57) → (∀ c l, t = c :: l → 49 ≤ c.toNat) → t ≠ [] → 0 < decV t ∧ decHi (decV t) = t := by
 intro k
 induction k with
 | zero => intro t h _ _ hn; exact absurd (List.length_eq_zero_iff.1 (Nat.le_zero.1 h)) hn
 | succ k ih =>
  intro t h hd hh hn
  rcases List.eq_nil_or_concat t with rfl | ⟨t, c, rfl⟩
  ·exact absurd rfl hn
  ·rw [List.concat_eq_append] at h hd hh hn ⊢
   rw [List.length_append, List.length_singleton] at h
   have hc := hd c (List.mem_append_right _ (List.mem_singleton.2 rfl))
   rw [decV_snoc]
   by_cases ht : t = []
   ·subst ht
    have h1 := hh c [] rfl
    have h0 : decV [] = 0 := rfl
    rw [h0]
    have h2 : 0 * 10 + (c.toNat - 48) = c.toNat - 48 := by omega
    rw [h2, decHi_pos (by omega), show (c.toNat - 48) / 10 = 0 by omega, decHi_zero]
    refine ⟨by omega, ?_⟩
    rw [show 48 + (c.toNat - 48) % 10 = c.toNat by omega]
    simp
   ·obtain ⟨h1, h2⟩ := ih t (by omega) (fun x hx => hd x (List.mem_append_left _ hx)) (fun x l e => hh x (l ++ [c]) (by rw [e]; rfl)) ht
    refine ⟨by omega, ?_⟩
    rw [decHi_pos (by omega), show (decV t * 10 + (c.toNat - 48)) / 10 = decV t by omega, h2, show 48 + (decV t * 10 + (c.toNat - 48)) % 10 = c.toNat by omega]
    simp
/-- what a name's number hangs on -/
theorem numW_is (t : Str) : numW (119 :: t) = if t ≠ [] ∧ t.head? ≠ some 48 ∧ t.length ≤ 6 ∧ t.all digitB = true then decV t else 0 := by
 show (if t.length ≤ 6 ∧ 0 < decV t ∧ decHi (decV t) = t then decV t else 0) = _
 by_cases h : t ≠ [] ∧ t.head? ≠ some 48 ∧ t.length ≤ 6 ∧ t.all digitB = true
 ·rw [if_pos h]
  have hd : ∀ c ∈ t, 48 ≤ c.toNat ∧ c.toNat ≤ 57 := fun c hc => by
   have := List.all_eq_true.1 h.2.2.2 c hc
   unfold digitB at this; simpa using this
  have h1 := dec_pos t.length t (Nat.le_refl _) hd (fun c l e => by
   have h3 := h.2.1
   rw [e] at h3
   have h4 := hd c (by rw [e]; exact List.mem_cons_self ..)
   have h5 : c ≠ 48 := fun h6 => h3 (by rw [h6]; rfl)
   have h7 : c.toNat ≠ 48 := fun h8 => h5 (byte_eq h8)
   omega) h.1
  rw [if_pos ⟨h.2.2.1, h1⟩]
 ·rw [if_neg h]
  by_cases h2 : t.length ≤ 6 ∧ 0 < decV t ∧ decHi (decV t) = t
  ·exfalso
   obtain ⟨h3, h4, h5⟩ := h2
   obtain ⟨c, l, h6, h7⟩ := decHi_head (decV t) (decV t) (Nat.le_refl _) (by omega)
   have h8 := decHi_digit (decV t) (decV t) (Nat.le_refl _)
   rw [h5] at h6 h8
   refine h ⟨by rw [h6]; simp, by rw [h6]; intro e; injection e with e; rw [e] at h7; exact absurd h7 (by decide), h3, List.all_eq_true.2 fun x hx => ?_⟩
   have := h8 x hx
   unfold digitB; simpa using this
  ·rw [if_neg h2]
theorem numW_other {s : Str} (h : ∀ t, s ≠ 119 :: t) : numW s = 0 := by
 unfold numW
 split
 ·rename_i t; exact absurd rfl (h t)
 ·rfl
theorem itoa_nat {n : Nat} (h : 0 < n) : Lib.itoa (n : Int) = decHi n := by
 rw [itoa_dec (by omega)]; rfl
end Go.Proofs.YtgmghopcppniaaaGreatDoor

/- Layer 3 in plain words: what saves, resets and cuts leave (no program). -/
namespace Go.Proofs.YtgmghopcppniaaaGreatDoor

/-- bytes of the records that are no entries -/
def thinR : RecD → Nat
 | .ent _ => 0
 | .hard t v => (recF (.hard t v)).length
 | .reset => (recF .reset).length
def thinL (l : List RecD) : Nat := (l.map thinR).sum
theorem thin_app (a b : List RecD) : thinL (a ++ b) = thinL a + thinL b := by simp [thinL]
theorem thin_cons (r : RecD) (l : List RecD) : thinL (r :: l) = thinR r + thinL l := by simp [thinL]
theorem thin_take (l : List RecD) (j : Nat) : thinL (l.take j) ≤ thinL l := by
 have := thin_app (l.take j) (l.drop j)
 rw [List.take_append_drop] at this
 omega
theorem thin_ents (l : List EntD) : thinL (l.map .ent) = 0 := by
 induction l with
 | nil => rfl
 | cons e l ih => rw [List.map_cons, thin_cons, ih]; rfl
theorem thin_hard {t v : Int} (ht : I64 t) (hv : I64 v) : thinR (.hard t v) ≤ 38 := by
 have h1 := ints_len [1, t, v] (by intro n hn; simp at hn; rcases hn with rfl | rfl | rfl <;> first | assumption | exact i64_small (by decide) (by decide))
 show (recF (.hard t v)).length ≤ 38
 unfold recF
 rw [frame_len]
 show 8 + (hardTx t v).length ≤ 38
 unfold hardTx
 simp at h1
 omega
theorem thin_reset : thinR .reset ≤ 18 := by
 have h1 := intL_len (n := 3) (i64_small (by decide) (by decide))
 show (recF .reset).length ≤ 18
 unfold recF
 rw [frame_len]
 show 8 + (intL 3).length ≤ 18
 omega
/-- no entry at all: all bytes are thin -/
theorem thin_all : ∀ {l : List RecD}, (∀ e, RecD.ent e ∉ l) → (recsL l).length = thinL l
 | [], _ => rfl
 | r :: l, h => by
  rw [recsL_cons, List.length_append, thin_cons, thin_all fun e he => h e (List.mem_cons_of_mem _ he)]
  cases r with
  | ent e => exact absurd (List.mem_cons_self ..) (h e)
  | hard t v => rfl
  | reset => rfl
/-- a log and its disk, between two calls that were right -/
structure LogOK (L : LogD) (D : DiskD) (R : Nat → List RecD) (b : Nat) : Prop where
 held : Held L D R
 head : ∀ m ∈ numsL L, R m = [] ∨ ∃ t v l, R m = .hard t v :: l
 many : L.pre.length ≤ 19
 full : ∀ m ∈ L.pre.map (·.num), 2000 ≤ (recsL (R m)).length
 thin : ∀ m, thinL (R m) ≤ b
/-- the log with the segment that is laid behind -/
def Grows (L M : LogD) : Prop := M = L ∨ (M = ⟨L.st, L.pre ++ [L.last], ⟨L.last.num + 1, 0, 0⟩⟩ ∧ 2000 ≤ L.last.size ∧ L.pre.length + 1 < 20)
theorem grown_grows (L : LogD) : Grows L (grownL L) := by
 unfold grownL
 split
 ·rename_i h; exact .inr ⟨rfl, h⟩
 ·exact .inl rfl
theorem recs_pos {l : List RecD} {r : RecD} (h : r ∈ l) : 0 < (recsL l).length := by
 obtain ⟨a, b, rfl⟩ := List.append_of_mem h
 rw [recsL_app, recsL_cons, List.length_append, List.length_append]
 have : 0 < (recF r).length := by unfold recF; rw [frame_len]; omega
 omega
theorem recsne {l : List RecD} (h : l ≠ []) : 0 < (recsL l).length := by
 obtain ⟨r, hr⟩ := List.exists_mem_of_ne_nil l h
 exact recs_pos hr
section
variable {L M : LogD} {D : DiskD} {R : Nat → List RecD} {b : Nat}
theorem LogOK.room (h : LogOK L D R b) (hg : Grows L M) (hn : L.last.num + 1 < 1000000) : Room M D R ∧ recsOf R (numsL M) = recsOf R (numsL L) ∧ M.st = L.st ∧ M.pre.length ≤ 19 ∧ (∀ m ∈ M.pre.map (·.num), 2000 ≤ (recsL (R m)).length) ∧
  (∀ m ∈ M.pre.map (·.num), R m = [] ∨ ∃ t v l, R m = .hard t v :: l) ∧ (R M.last.num = [] ∨ ∃ t v l, R M.last.num = .hard t v :: l) ∧ M.last.num ≤ L.last.num + 1 ∧ M.last.size ≤ L.last.size := by
 rcases hg with rfl | ⟨rfl, h1, h2⟩
 ·refine ⟨h.held.room, rfl, rfl, h.many, h.full, fun m hm => h.head m (List.mem_append_left _ hm), h.head _ (List.mem_append_right _ (List.mem_singleton.2 rfl)), by omega, Nat.le_refl _⟩
 ·have hr := h.held.fresh (L.last.num + 1) (by omega)
  have e : numsL ⟨L.st, L.pre ++ [L.last], ⟨L.last.num + 1, 0, 0⟩⟩ = numsL L ++ [L.last.num + 1] := by simp [numsL]
  have e2 : (L.pre ++ [L.last]).map (·.num) = numsL L := by simp [numsL]
  refine ⟨h.held.grow hn, ?_, rfl, by simp; omega, fun m hm => ?_, fun m hm => ?_, .inl hr, Nat.le_refl _, Nat.zero_le _⟩
  ·rw [e, recsOf_app]; simp [recsOf, hr]
  ·have hm : m ∈ numsL L := by rw [← e2]; exact hm
   rcases List.mem_append.1 hm with hm | hm
   ·exact h.full m hm
   ·rw [List.mem_singleton.1 hm]
    have h3 := congrArg SegD.size h.held.last
    have h4 : L.last.size = (recsL (R L.last.num)).length := h3
    omega
  ·have hm : m ∈ numsL L := by rw [← e2]; exact hm
   exact h.head m hm
/-- how laying records down may end, between two calls that were right -/
inductive LayR (L M : LogD) (D : DiskD) (R : Nat → List RecD) (rs : List RecD) (b : Nat) (p : Int × (LogD × DiskD)) : Prop
 | done (h0 : p.1 = 0) (R' : Nat → List RecD) (h : LogOK (foldR p.2.1 rs) p.2.2 R' (b + thinL rs)) (hrec : recsOf R' (numsL (foldR p.2.1 rs)) = recsOf R (numsL L) ++ rs) (hst : (foldR p.2.1 rs).st = foldS L.st rs)
   (hR : R' = updR R M.last.num (R M.last.num ++ rs)) (hnum : numsL (foldR p.2.1 rs) = numsL M) (hsz : (foldR p.2.1 rs).last.size = M.last.size + (recsL rs).length) (hf : D.fuse = -1 → p.2.2.fuse = -1) (ht : total p.2.2.files = total D.files + (recsL rs).length) (hm : p.2.2.most = D.most)
 | no (e : Int) (h : p = (e, (M, D))) (he : e = 6 ∨ (e = 11 ∧ D.files.length = 40))
 | dies (h : p = (7, (M, { D with dead := true }))) (hf : D.fuse ≠ -1)
 | torn (h7 : p.1 = 7) (hd : p.2.2.dead = true) (h : SegsAt p.2.2 (M.pre.map (·.num)) M.last.num R (recsL rs) 0) (hs : p.2.1 = sized M (recsL rs).length) (hf : D.fuse ≠ -1) (hm : p.2.2.most = D.most)
theorem LogOK.lay (h : LogOK L D R b) (hg : Grows L M) (hn : L.last.num + 1 < 1000000) {rs : List RecD} (hgood : ∀ r ∈ rs, GoodR r ∧ (payL r).length ≤ 65536) (hhead : M.last.size = 0 → ∃ t v l, rs = .hard t v :: l) : LayR L M D R rs b (layL M D rs) := by
 obtain ⟨hr, h1, h2, h3, h4, h5, h6, _, _⟩ := h.room hg hn
 cases hr.lay hgood with
 | no e h he => exact .no e h he
 | dies h hf => exact .dies h hf
 | torn h7 hd h hs hf hm => exact .torn h7 hd h hs hf hm
 | done h0 hH hs hf ht hm =>
  obtain ⟨f1, f2, f3, f4⟩ := foldR_num (layL M D rs).2.1 rs
  have g1 : (foldR (layL M D rs).2.1 rs).pre = M.pre := by rw [f1, hs]; rfl
  have g2 : (foldR (layL M D rs).2.1 rs).last.num = M.last.num := by rw [f2, hs]; rfl
  have hne : ∀ m ∈ M.pre.map (·.num), m ≠ M.last.num := fun m hm => by
   have := (List.pairwise_append.1 hr.rise).2.2 m hm _ (List.mem_singleton.2 rfl)
   omega
  have hnum : numsL (foldR (layL M D rs).2.1 rs) = numsL M := by unfold numsL; rw [g1, g2]
  refine .done h0 _ ⟨hH, ?_, by rw [g1]; exact h3, ?_, ?_⟩ ?_ ?_ rfl hnum ?_ hf ht hm
  ·rw [hnum]
   intro m hm
   rcases List.mem_append.1 hm with hm | hm
   ·rw [updR_ne (hne m hm)]; exact h5 m hm
   ·rw [List.mem_singleton.1 hm, updR_at]
    rcases h6 with h6 | ⟨t, v, l, h6⟩
    ·have h8 := congrArg SegD.size hr.seg
     have h9 : (segOf R M.last.num).size = (recsL (R M.last.num)).length := rfl
     rw [h9, h6] at h8
     obtain ⟨t, v, l, h7⟩ := hhead h8
     rw [h6, h7]
     exact .inr ⟨t, v, l, rfl⟩
    ·rw [h6]; exact .inr ⟨t, v, l ++ rs, rfl⟩
  ·rw [g1]
   intro m hm
   rw [updR_ne (hne m hm)]; exact h4 m hm
  ·intro m
   by_cases e : m = M.last.num
   ·rw [e, updR_at, thin_app]; have := h.thin M.last.num; omega
   ·rw [updR_ne e]; have := h.thin m; omega
  ·rw [hnum, ← h1]
   unfold numsL
   rw [recsOf_app, recsOf_upd hne, recsOf_app]
   simp [recsOf, updR_at]
  ·rw [f4, hs]; show foldS M.st rs = _; rw [h2]
  ·rw [f3, hs]; rfl
/-- a save that is no wrong one, and not an idle one -/
theorem save_lay {t v : Int} {l : List EntD} (hw : wrongA t v l = false) (hi : idleA L t v l = false) : saveL L D t v l =
  if (layL (grownL L) D (saveRs L t v l)).1 ≠ 0 then ((layL (grownL L) D (saveRs L t v l)).1, (stillL L (layL (grownL L) D (saveRs L t v l)).2.1 (layL (grownL L) D (saveRs L t v l)).2.2, (layL (grownL L) D (saveRs L t v l)).2.2))
  else (0, (foldR (layL (grownL L) D (saveRs L t v l)).2.1 (saveRs L t v l), (layL (grownL L) D (saveRs L t v l)).2.2)) := by
 unfold saveL
 rw [if_neg (by rw [hw]; simp), if_neg (by rw [hi]; simp)]
theorem wrong_parts {t v : Int} {l : List EntD} (h : wrongA t v l = false) : 0 ≤ t ∧ 0 ≤ v ∧ (∀ e ∈ l, rightE e = true) ∧ ∀ e ∈ l, (entTx e).length ≤ 65536 := by
 unfold wrongA at h
 simp only [Bool.or_eq_false_iff, decide_eq_false_iff_not, Bool.not_eq_false', List.all_eq_true, List.any_eq_false, decide_eq_true_eq] at h
 exact ⟨by omega, by omega, h.2.2.1, fun e he => by have := h.2.2.2 e he; omega⟩
theorem saveRs_good {t v : Int} {l : List EntD} (ht : I64 t) (hv : I64 v) (hI : ∀ e ∈ l, I64 e.index ∧ I64 e.term ∧ I64 e.kind ∧ e.data.length ≤ 1000000) (hw : wrongA t v l = false) : ∀ r ∈ saveRs L t v l, GoodR r ∧ (payL r).length ≤ 65536 := by
 obtain ⟨h1, h2, h3, h4⟩ := wrong_parts hw
 have he : ∀ r ∈ l.map RecD.ent, GoodR r ∧ (payL r).length ≤ 65536 := by
  intro r hr
  obtain ⟨e, he, rfl⟩ := List.mem_map.1 hr
  obtain ⟨i1, i2, i3, i4⟩ := hI e he
  exact ⟨⟨h3 e he, i1, i2, i3, by omega⟩, h4 e he⟩
 intro r hr
 unfold saveRs layRs at hr
 split at hr
 ·rcases List.mem_cons.1 hr with rfl | hr
  ·refine ⟨⟨⟨h1, h2⟩, ht, hv⟩, ?_⟩
   have := thin_hard ht hv
   have h5 : thinR (.hard t v) = (recF (.hard t v)).length := rfl
   unfold recF at h5
   rw [frame_len] at h5
   omega
  ·exact he r hr
 ·exact he r hr
theorem saveRs_thin {t v : Int} {l : List EntD} (ht : I64 t) (hv : I64 v) : thinL (saveRs L t v l) ≤ 38 := by
 unfold saveRs layRs
 split
 ·rw [thin_cons, thin_ents]; have := thin_hard ht hv; omega
 ·rw [thin_ents]; omega
theorem saveRs_head {t v : Int} {l : List EntD} (h : (grownL L).last.size = 0) : ∃ t' v' l', saveRs L t v l = .hard t' v' :: l' := by
 unfold saveRs layRs
 rw [if_pos (.inr h)]
 exact ⟨_, _, _, rfl⟩
theorem saveRs_ne {t v : Int} {l : List EntD} (hi : idleA L t v l = false) : saveRs L t v l ≠ [] := by
 unfold saveRs layRs
 split
 ·simp
 ·rename_i h
  intro hl
  have hl2 : l = [] := by simpa using hl
  unfold idleA at hi
  rw [hl2] at hi
  simp only [List.isEmpty_nil, Bool.true_and] at hi
  rw [hi] at h
  exact h (.inl rfl)
/-- the segments that are there -/
theorem still_no (h : LogOK L D R b) (hg : Grows L M) (hn : L.last.num + 1 < 1000000) : stillL L M D = L := by
 unfold stillL
 rcases hg with rfl | ⟨rfl, h1, h2⟩
 ·split <;> rfl
 ·rw [if_neg]
  have hR := h.held.grow hn
  rcases hR.last with hl | ⟨hl, _⟩
  ·exfalso
   obtain ⟨m, hm, h3⟩ := h.held.at'.only _ (get_mem hl).1
   have h4 := h.held.at'.range m hm
   have hle : m ≤ L.last.num := by
    rcases List.mem_append.1 hm with hm | hm
    ·exact Nat.le_of_lt (h.held.at'.ne hm)
    ·rw [List.mem_singleton.1 hm]; exact Nat.le_refl _
   have h5 : nameW (L.last.num + 1) = nameW m := h3
   have := nameW_inj (by omega) hn h4.1 h4.2 h5
   omega
  ·rw [hl]; simp
theorem still_st (was now : LogD) (D : DiskD) (h : now.st = was.st) : (stillL was now D).st = was.st := by unfold stillL; split <;> first | exact h | rfl
/-- how a save may end -/
inductive SaveR (L : LogD) (D : DiskD) (R : Nat → List RecD) (rs : List RecD) (b : Nat) (p : Int × (LogD × DiskD)) : Prop
 | done (h0 : p.1 = 0) (R' : Nat → List RecD) (h : LogOK p.2.1 p.2.2 R' (b + thinL rs)) (hrec : recsOf R' (numsL p.2.1) = recsOf R (numsL L) ++ rs) (hst : p.2.1.st = foldS L.st rs)
   (hnum : p.2.1.last.num ≤ L.last.num + 1) (hsz : p.2.1.last.size ≤ L.last.size + (recsL rs).length) (hpos : rs ≠ [] → 0 < p.2.1.last.size) (hf : D.fuse = -1 → p.2.2.fuse = -1) (ht : total p.2.2.files = total D.files + (recsL rs).length) (hm : p.2.2.most = D.most)
 | no (e : Int) (h : p = (e, (L, D))) (he : e = 6 ∨ (e = 11 ∧ D.files.length = 40))
 | dies (h7 : p.1 = 7) (hst : p.2.1.st = L.st) (hD : p.2.2 = { D with dead := true }) (hf : D.fuse ≠ -1)
 | torn (M : LogD) (hg : Grows L M) (h7 : p.1 = 7) (hst : p.2.1.st = L.st) (hd : p.2.2.dead = true) (h : SegsAt p.2.2 (M.pre.map (·.num)) M.last.num R (recsL rs) 0) (hf : D.fuse ≠ -1) (hm : p.2.2.most = D.most)
theorem LogOK.save (h : LogOK L D R b) (hn : L.last.num + 1 < 1000000) {t v : Int} {l : List EntD} (ht : I64 t) (hv : I64 v) (hI : ∀ e ∈ l, I64 e.index ∧ I64 e.term ∧ I64 e.kind ∧ e.data.length ≤ 1000000) (hw : wrongA t v l = false) (hi : idleA L t v l = false) :
  SaveR L D R (saveRs L t v l) b (saveL L D t v l) := by
 have hg := grown_grows L
 obtain ⟨hr, h1, h2, h3, h4, h5, h6, h7, h8⟩ := h.room hg hn
 rw [save_lay hw hi]
 cases h.lay hg hn (saveRs_good ht hv hI hw) (fun h0 => saveRs_head h0) with
 | done h0 R' hH hrec hst hR hnum hsz hf htt hm =>
  rw [if_neg (by rw [h0]; simp)]
  refine .done rfl R' hH hrec hst ?_ ?_ ?_ hf htt hm
  ·have : (foldR (layL (grownL L) D (saveRs L t v l)).2.1 (saveRs L t v l)).last.num = (grownL L).last.num := by
    have := congrArg List.getLast? hnum
    simpa [numsL] using this
   show (foldR _ _).last.num ≤ _
   omega
  ·show (foldR _ _).last.size ≤ _
   omega
  ·intro hne
   show 0 < (foldR _ _).last.size
   have := recsne hne
   omega
 | no e hp he =>
  rw [hp, if_pos (by rcases he with rfl | ⟨rfl, _⟩ <;> simp)]
  dsimp only
  rw [still_no h hg hn]
  exact .no e rfl he
 | dies hp hf =>
  rw [hp, if_pos (by simp)]
  exact .dies rfl (still_st _ _ _ h2) rfl hf
 | torn h7 hd hS hs hf hm =>
  rw [if_pos (by rw [h7]; simp), h7]
  exact .torn _ hg rfl (still_st _ _ _ (by rw [hs]; exact h2)) hd hS hf hm
theorem resetRs_good (h : OkS L.st) : ∀ r ∈ resetRs L, GoodR r ∧ (payL r).length ≤ 65536 := by
 have hres : GoodR .reset ∧ (payL .reset).length ≤ 65536 := by
  refine ⟨trivial, ?_⟩
  have h1 := intL_len (n := 3) (i64_small (by decide) (by decide))
  show (intL 3).length ≤ 65536
  omega
 intro r hr
 unfold resetRs layRs at hr
 split at hr
 ·rcases List.mem_cons.1 hr with rfl | hr
  ·refine ⟨⟨⟨h.hard.1, h.hard.2.1⟩, h.hard.2.2⟩, ?_⟩
   have := thin_hard h.hard.2.2.1 h.hard.2.2.2
   have h5 : thinR (.hard L.st.t L.st.v) = (recF (.hard L.st.t L.st.v)).length := rfl
   unfold recF at h5
   rw [frame_len] at h5
   omega
  ·rw [List.mem_singleton.1 hr]; exact hres
 ·rw [List.mem_singleton.1 hr]; exact hres
theorem resetRs_thin (h : OkS L.st) : thinL (resetRs L) ≤ 56 := by
 have h1 := thin_hard h.hard.2.2.1 h.hard.2.2.2
 have h2 := thin_reset
 unfold resetRs layRs
 split
 ·rw [thin_cons, thin_cons]; show _ + (_ + 0) ≤ 56; omega
 ·rw [thin_cons]; show _ + 0 ≤ 56; omega
theorem resetRs_ne : resetRs L ≠ [] := by unfold resetRs layRs; split <;> simp
theorem LogOK.reset (h : LogOK L D R b) (hn : L.last.num + 1 < 1000000) : SaveR L D R (resetRs L) b (resetL L D) := by
 have hl := h.lay (.inl rfl) hn (resetRs_good h.held.ok) (fun h0 => by unfold resetRs layRs; rw [if_pos (.inr h0)]; exact ⟨_, _, _, rfl⟩)
 unfold resetL
 cases hl with
 | done h0 R' hH hrec hst hR hnum hsz hf htt hm =>
  rw [if_neg (by rw [h0]; simp)]
  refine .done rfl R' hH hrec hst ?_ ?_ ?_ hf htt hm
  ·have : (foldR (layL L D (resetRs L)).2.1 (resetRs L)).last.num = L.last.num := by
    have := congrArg List.getLast? hnum
    simpa [numsL] using this
   show (foldR _ _).last.num ≤ _
   omega
  ·show (foldR _ _).last.size ≤ _
   omega
  ·intro hne
   show 0 < (foldR _ _).last.size
   have := recsne hne
   omega
 | no e hp he =>
  rw [hp, if_pos (by rcases he with rfl | ⟨rfl, _⟩ <;> simp)]
  exact .no e rfl he
 | dies hp hf =>
  rw [hp, if_pos (by simp)]
  exact .dies rfl rfl rfl hf
 | torn h7 hd hS hs hf hm =>
  rw [if_pos (by rw [h7]; simp)]
  exact .torn _ (.inl rfl) h7 (by rw [hs]; rfl) hd hS hf hm
end
end Go.Proofs.YtgmghopcppniaaaGreatDoor

/- Layer 3 in plain words: what cuts leave, what is read again (no program). -/
namespace Go.Proofs.YtgmghopcppniaaaGreatDoor

section
variable {L M : LogD} {D : DiskD} {R : Nat → List RecD} {b : Nat} {pre : List Nat} {n k : Nat} {x : Str}
theorem SegsAt.flen (h : SegsAt D pre n R x k) : D.files.length = pre.length + 1 := by
 have h1 := congrArg List.length h.nums
 unfold numsD at h1
 rw [List.length_mergeSort, List.filter_eq_self.2, List.length_map, List.length_map, List.length_append, List.length_singleton] at h1
 ·exact h1
 ·intro m hm
  obtain ⟨f, hf, rfl⟩ := List.mem_map.1 hm
  obtain ⟨j, hj, hn⟩ := h.only f hf
  have h2 := h.range j hj
  rw [hn, numW_name h2.1 h2.2]
  simp; omega
theorem append_fits {n x : Str} (hd : D.dead = false) (hn : nameOK n = true) (hm : D.files.length < 40) (hx : (total D.files : Int) + x.length ≤ D.most) : appendD D n x = thenD D (putF D.files (grown D.files n x)) := by
 unfold appendD
 rw [if_neg (by rw [hd]; simp), if_neg (by rw [hn]; simp), if_neg (by omega), if_neg (by omega)]
/-- what fits, and no power that goes: it is done -/
theorem lay_fits (h : LogOK L D R b) (hg : Grows L M) (hn : L.last.num + 1 < 1000000) (hf : D.fuse = -1) {rs : List RecD} (hx : (total D.files : Int) + (recsL rs).length ≤ D.most) : (layL M D rs).1 = 0 := by
 obtain ⟨hr, _, _, hp, _⟩ := h.room hg hn
 have hrn := hr.range M.last.num (List.mem_append_right _ (List.mem_singleton.2 rfl))
 have hfl := h.held.at'.flen
 have hL := h.many
 rw [List.length_map] at hfl
 have ha := append_fits (n := nameW M.last.num) (x := recsL rs) hr.alive (nameW_ok hrn.2) (by omega) hx
 have h2 := then_does (D := D) (l := putF D.files (grown D.files (nameW M.last.num) (recsL rs))) (by omega)
 unfold layL
 rw [ha, h2, if_neg (by simp)]
 dsimp only
 unfold syncD
 rw [if_neg (by rw [show ({ D with files := putF D.files (grown D.files (nameW M.last.num) (recsL rs)), fuse := max (D.fuse - 1) (-1) } : DiskD).dead = D.dead from rfl, hr.alive]; simp)]
 dsimp only
 rw [get_put hr.inv.sorted, grown_name, if_pos rfl]
 dsimp only
 rw [then_does (by dsimp only; omega)]
/-- too long: it is full -/
theorem lay_full (h : LogOK L D R b) {e : Int} (he : e = 6 ∨ (e = 11 ∧ D.files.length = 40)) : e = 6 := by
 rcases he with he | ⟨_, he⟩
 ·exact he
 ·have hfl := h.held.at'.flen
  have hL := h.many
  rw [List.length_map] at hfl
  omega

/-! ### cuts -/
theorem SegsAt.delete {m : Nat} (h : SegsAt D (m :: pre) n R x k) (hd : D.dead = false) :
  (D.fuse ≠ 0 ∧ deleteD D (nameW m) = (0, { D with files := delF D.files (nameW m), fuse := max (D.fuse - 1) (-1) }) ∧ SegsAt { D with files := delF D.files (nameW m), fuse := max (D.fuse - 1) (-1) } pre n R x k) ∨
  (D.fuse = 0 ∧ deleteD D (nameW m) = (7, { D with dead := true }) ∧ SegsAt { D with dead := true } (m :: pre) n R x k) := by
 have hg := h.ahead m (List.mem_cons_self ..)
 have hdel : deleteD D (nameW m) = thenD D (delF D.files (nameW m)) := by
  unfold deleteD
  rw [if_neg (by rw [hd]; simp), hg]
 have hi := h.inv.delete (nameW m)
 have hrise := List.pairwise_cons.1 (show (m :: (pre ++ [n])).Pairwise (· < ·) from h.rise)
 have hne : ∀ j ∈ pre ++ [n], nameW j ≠ nameW m := fun j hj e => by
  have h1 := h.range j (List.mem_cons_of_mem _ hj)
  have h2 := h.range m (List.mem_cons_self ..)
  have := nameW_inj h1.1 h1.2 h2.1 h2.2 e
  have := hrise.1 j hj
  omega
 by_cases hz : D.fuse = 0
 ·right
  rw [hdel, then_dies hz] at hi ⊢
  exact ⟨hz, rfl, h.same hi rfl⟩
 ·left
  rw [hdel, then_does hz] at hi ⊢
  refine ⟨hz, rfl, hi, hrise.2, fun j hj => h.range j (List.mem_cons_of_mem _ hj), fun j hj => h.good j (List.mem_cons_of_mem _ hj), fun j hj => ?_, ?_, fun f hf => ?_⟩
  ·dsimp only
   rw [get_del, if_neg (hne j (List.mem_append_left _ hj))]
   exact h.ahead j (List.mem_cons_of_mem _ hj)
  ·dsimp only
   rw [get_del, if_neg (hne n (List.mem_append_right _ (List.mem_singleton.2 rfl)))]
   exact h.last
  ·obtain ⟨h1, h2⟩ := mem_del.1 hf
   obtain ⟨j, hj, h3⟩ := h.only f h1
   rcases List.mem_cons.1 (show j ∈ m :: (pre ++ [n]) from hj) with rfl | hj
   ·exact absurd h3 h2
   ·exact ⟨j, hj, h3⟩
/-- how a cut may end -/
theorem cutF_r {i : Int} : ∀ (pre : List SegD) {st : StD} {last : SegD} {D : DiskD}, LogOK ⟨st, pre, last⟩ D R b →
  ∃ j, j ≤ pre.length ∧ (∀ s ∈ pre.take j, s.top ≤ i) ∧ (cutF i pre D).2.1 = pre.drop j ∧
   (((cutF i pre D).1 = 0 ∧ LogOK ⟨st, pre.drop j, last⟩ (cutF i pre D).2.2 R b ∧ (D.fuse = -1 → (cutF i pre D).2.2.fuse = -1) ∧ (cutF i pre D).2.2.most = D.most ∧ ∀ s t, pre.drop j = s :: t → i < s.top) ∨
    ((cutF i pre D).1 = 7 ∧ (cutF i pre D).2.2.dead = true ∧ SegsAt (cutF i pre D).2.2 ((pre.drop j).map (·.num)) last.num R [] 0 ∧ D.fuse ≠ -1 ∧ (cutF i pre D).2.2.most = D.most))
 | [], st, last, D, h => ⟨0, Nat.le_refl _, fun s hs => (by cases hs), rfl, .inl ⟨rfl, h, fun h => h, rfl, fun s t e => (by cases e)⟩⟩
 | s :: pre, st, last, D, h => by
  unfold cutF
  by_cases hs : s.top ≤ i
  ·rw [if_pos hs]
   have hh := h.held
   rcases (show SegsAt D (s.num :: pre.map (·.num)) last.num R [] 0 from hh.at').delete hh.alive with ⟨hz, hdel, hS⟩ | ⟨hz, hdel, hS⟩
   ·rw [hdel, if_neg (by simp)]
    have hsg := hh.segs
    simp only [List.map_cons, List.cons.injEq] at hsg
    have hOK : LogOK ⟨st, pre, last⟩ { D with files := delF D.files (nameW s.num), fuse := max (D.fuse - 1) (-1) } R b :=
     ⟨⟨hS, hsg.2, hh.last, hh.fresh, hh.alive, hh.ok⟩, fun m hm => h.head m (List.mem_cons_of_mem _ hm), by have := h.many; simp at this ⊢; omega, fun m hm => h.full m (List.mem_cons_of_mem _ hm), h.thin⟩
    obtain ⟨j, h1, h2, h3, h4⟩ := cutF_r pre hOK
    refine ⟨j + 1, by simp; omega, fun y hy => ?_, h3, ?_⟩
    ·rcases List.mem_cons.1 (show y ∈ s :: pre.take j from hy) with rfl | hy
     ·exact hs
     ·exact h2 y hy
    ·rcases h4 with ⟨h5, h6, h7, h8, h9⟩ | ⟨h5, h6, h7, h8, h9⟩
     ·exact .inl ⟨h5, h6, fun hf => h7 (by show max (D.fuse - 1) (-1) = -1; omega), h8, h9⟩
     ·exact .inr ⟨h5, h6, h7, fun hf => h8 (by show max (D.fuse - 1) (-1) = -1; omega), h9⟩
   ·rw [hdel, if_pos (by simp)]
    exact ⟨0, Nat.zero_le _, fun y hy => (by cases hy), rfl, .inr ⟨rfl, rfl, hS, by omega, rfl⟩⟩
  ·rw [if_neg hs]
   refine ⟨0, Nat.zero_le _, fun y hy => (by cases hy), rfl, .inl ⟨rfl, h, fun h => h, rfl, fun y t e => ?_⟩⟩
   simp only [List.drop_zero, List.cons.injEq] at e
   rw [← e.1]; omega

/-! ### the same records upon two logs -/
end
end Go.Proofs.YtgmghopcppniaaaGreatDoor

/- Layer 3 in plain words: acts, and what they leave where no power goes (no program). -/
namespace Go.Proofs.YtgmghopcppniaaaGreatDoor

structure ActW where
 op : Int
 term : Int
 vote : Int
 index : Int
 n : Int
 data : Str
 keep : List Int
 noise : List Int
/-- an act that came in -/
structure GoodW (a : ActW) : Prop where
 op : I64 a.op
 term : I64 a.term
 vote : I64 a.vote
 index : I64 a.index
 n : I64 a.n
 data : a.data.length ≤ 700
def hardW (a : ActW) : Int × Int := if a.term % 41 = 0 ∧ a.term ≠ 0 then (a.term, a.vote) else (pickZ a.term 20, pickZ a.vote 4)
def entW (a : ActW) (i : Nat) : EntD := if a.index % 37 = 0 ∧ a.index ≠ 0 then ⟨a.index, pickZ a.term 20, a.n, a.data⟩ else ⟨1 + pickZ a.index 30 + i, pickZ a.term 20, 2, a.data⟩
def entriesW (a : ActW) : List EntD := (List.range (pickZ a.n 5).toNat).map (entW a)
/-- a save, or a reset -/
def doesL (L : LogD) (D : DiskD) (a : ActW) : Int × (LogD × DiskD) := if pickZ a.op 10 = 6 then resetL L D else saveL L D (hardW a).1 (hardW a).2 (entriesW a)
theorem pick_in {c n : Int} (hn : 0 < n) : 0 ≤ pickZ c n ∧ pickZ c n < n := by unfold pickZ; exact ⟨Int.emod_nonneg _ (by omega), Int.emod_lt_of_pos _ hn⟩
theorem hardW_in {a : ActW} (h : GoodW a) : I64 (hardW a).1 ∧ I64 (hardW a).2 := by
 unfold hardW
 split
 ·exact ⟨h.term, h.vote⟩
 ·have h1 := pick_in (c := a.term) (n := 20) (by decide)
  have h2 := pick_in (c := a.vote) (n := 4) (by decide)
  exact ⟨i64_small (by dsimp only; omega) (by dsimp only; omega), i64_small (by dsimp only; omega) (by dsimp only; omega)⟩
theorem entW_in {a : ActW} (h : GoodW a) {i : Nat} (hi : i < 5) : I64 (entW a i).index ∧ I64 (entW a i).term ∧ I64 (entW a i).kind ∧ (entW a i).data.length ≤ 1000000 := by
 have h1 := pick_in (c := a.term) (n := 20) (by decide)
 have h2 := pick_in (c := a.index) (n := 30) (by decide)
 have h3 := h.data
 unfold entW
 split
 ·exact ⟨h.index, i64_small (by dsimp only; omega) (by dsimp only; omega), h.n, by dsimp only; omega⟩
 ·exact ⟨i64_small (by dsimp only; omega) (by dsimp only; omega), i64_small (by dsimp only; omega) (by dsimp only; omega), (show I64 2 from i64_small (by decide) (by decide)), by dsimp only; omega⟩
theorem entriesW_mem {a : ActW} {e : EntD} (h : e ∈ entriesW a) : ∃ i, i < 4 ∧ e = entW a i := by
 obtain ⟨i, hi, rfl⟩ := List.mem_map.1 h
 have := pick_in (c := a.n) (n := 5) (by decide)
 have := List.mem_range.1 hi
 exact ⟨i, by omega, rfl⟩
theorem entriesW_in {a : ActW} (h : GoodW a) : ∀ e ∈ entriesW a, I64 e.index ∧ I64 e.term ∧ I64 e.kind ∧ e.data.length ≤ 1000000 := by
 intro e he
 obtain ⟨i, hi, rfl⟩ := entriesW_mem he
 exact entW_in h (by omega)
theorem entriesW_len (a : ActW) : (entriesW a).length ≤ 4 := by
 have := pick_in (c := a.n) (n := 5) (by decide)
 unfold entriesW
 rw [List.length_map, List.length_range]; omega
/-- how many bytes an act lays down at most -/
theorem ent_bytes {a : ActW} (h : GoodW a) : ∀ e ∈ entriesW a, (recF (.ent e)).length ≤ 800 := by
 intro e he
 obtain ⟨i, hi, rfl⟩ := entriesW_mem he
 obtain ⟨h1, h2, h3, _⟩ := entW_in h (show i < 5 by omega)
 have hd : (entW a i).data.length ≤ 700 := by unfold entW; split <;> exact h.data
 have h5 := ints_len [2, (entW a i).index, (entW a i).term, (entW a i).kind] (by intro n hn; simp at hn; rcases hn with rfl | rfl | rfl | rfl <;> first | assumption | exact i64_small (by decide) (by decide))
 have h6 := intL_len (n := ((entW a i).data.length : Int)) (by unfold I64; omega)
 unfold recF
 rw [frame_len]
 show 8 + (entTx (entW a i)).length ≤ 800
 unfold entTx textL
 rw [List.length_append, List.length_append]
 simp at h5
 omega
theorem recs_le {k : Nat} : ∀ {l : List RecD}, (∀ r ∈ l, (recF r).length ≤ k) → (recsL l).length ≤ l.length * k
 | [], _ => by simp [recsL]
 | r :: l, h => by
  have h1 := recs_le (l := l) fun r hr => h r (List.mem_cons_of_mem _ hr)
  have h2 := h r (List.mem_cons_self ..)
  rw [recsL_cons, List.length_append, List.length_cons, Nat.add_mul]; omega
theorem hard_bytes {t v : Int} (ht : I64 t) (hv : I64 v) : (recF (.hard t v)).length ≤ 38 := thin_hard ht hv
theorem saveRs_bytes {L : LogD} {a : ActW} (h : GoodW a) : (recsL (saveRs L (hardW a).1 (hardW a).2 (entriesW a))).length ≤ 3300 := by
 have hl := entriesW_len a
 have h1 := recs_le (k := 800) (l := (entriesW a).map .ent) fun r hr => by
  obtain ⟨e, he, rfl⟩ := List.mem_map.1 hr
  exact ent_bytes h e he
 rw [List.length_map] at h1
 have h2 : (entriesW a).length * 800 ≤ 3200 := by omega
 have h3 := hard_bytes (hardW_in h).1 (hardW_in h).2
 unfold saveRs layRs
 split
 ·rw [recsL_cons, List.length_append]; omega
 ·omega
theorem resetRs_bytes {L : LogD} (h : OkS L.st) : (recsL (resetRs L)).length ≤ 56 := by
 have h1 := hard_bytes h.hard.2.2.1 h.hard.2.2.2
 have h2 : (recF .reset).length ≤ 18 := thin_reset
 have h3 : (recsL [.reset]).length ≤ 18 := by rw [recsL_cons, List.length_append]; show _ + 0 ≤ 18; omega
 unfold resetRs layRs
 split
 ·rw [recsL_cons, List.length_append]; omega
 ·omega
/-- what one act without a crash does -/
inductive DoesR (a : ActW) (L : LogD) (D : DiskD) (R : Nat → List RecD) (b : Nat) (p : Int × (LogD × DiskD)) : Prop
 | same (e : Int) (h : p = (e, (L, D))) (he : e = 0 ∨ e = 1 ∨ e = 6)
 | done (rs : List RecD) (hrs : rs = if pickZ a.op 10 = 6 then resetRs L else saveRs L (hardW a).1 (hardW a).2 (entriesW a)) (hne : rs ≠ []) (h0 : p.1 = 0) (R' : Nat → List RecD) (h : LogOK p.2.1 p.2.2 R' (b + 56)) (hrec : recsOf R' (numsL p.2.1) = recsOf R (numsL L) ++ rs) (hst : p.2.1.st = foldS L.st rs)
   (hnum : p.2.1.last.num ≤ L.last.num + 1) (hpos : 0 < p.2.1.last.size) (hf : D.fuse = -1 → p.2.2.fuse = -1) (hm : p.2.2.most = D.most)
 | dies (h7 : p.1 = 7) (hst : p.2.1.st = L.st) (hD : p.2.2 = { D with dead := true }) (hf : D.fuse ≠ -1)
 | torn (M : LogD) (hg : Grows L M) (rs : List RecD) (hrs : rs = if pickZ a.op 10 = 6 then resetRs L else saveRs L (hardW a).1 (hardW a).2 (entriesW a)) (h7 : p.1 = 7) (hst : p.2.1.st = L.st) (hd : p.2.2.dead = true) (h : SegsAt p.2.2 (M.pre.map (·.num)) M.last.num R (recsL rs) 0) (hgood : ∀ r ∈ rs, GoodR r ∧ (payL r).length ≤ 65536) (hf : D.fuse ≠ -1) (hm : p.2.2.most = D.most)
section
variable {L : LogD} {D : DiskD} {R : Nat → List RecD} {b : Nat} {a : ActW}
theorem LogOK.up (h : LogOK L D R b) {c : Nat} (hc : b ≤ c) : LogOK L D R c := ⟨h.held, h.head, h.many, h.full, fun m => Nat.le_trans (h.thin m) hc⟩
theorem LogOK.does (h : LogOK L D R b) (hn : L.last.num + 1 < 1000000) (ha : GoodW a) : DoesR a L D R b (doesL L D a) := by
 unfold doesL
 by_cases h6 : pickZ a.op 10 = 6
 ·rw [if_pos h6]
  cases h.reset hn with
  | done h0 R' hH hrec hst hnum hsz hpos hf ht hm => exact .done _ (by rw [if_pos h6]) resetRs_ne h0 R' (hH.up (by have := resetRs_thin h.held.ok; omega)) hrec hst hnum (hpos resetRs_ne) hf hm
  | no e hp he => exact .same e hp (.inr (.inr (lay_full h he)))
  | dies h7 hst hD hf => exact .dies h7 hst hD hf
  | torn M hg h7 hst hd hS hf hm => exact .torn M hg _ (by rw [if_pos h6]) h7 hst hd hS (resetRs_good h.held.ok) hf hm
 ·rw [if_neg h6]
  obtain ⟨ht, hv⟩ := hardW_in ha
  cases hw : wrongA (hardW a).1 (hardW a).2 (entriesW a) with
  | true => exact .same 1 (by unfold saveL; rw [if_pos hw]) (.inr (.inl rfl))
  | false =>
   cases hi : idleA L (hardW a).1 (hardW a).2 (entriesW a) with
   | true => exact .same 0 (by unfold saveL; rw [if_neg (by rw [hw]; simp), if_pos hi]) (.inl rfl)
   | false =>
    cases h.save hn ht hv (entriesW_in ha) hw hi with
    | done h0 R' hH hrec hst hnum hsz hpos hf htt hm => exact .done _ (by rw [if_neg h6]) (saveRs_ne hi) h0 R' (hH.up (by have := saveRs_thin (L := L) (l := entriesW a) ht hv; omega)) hrec hst hnum (hpos (saveRs_ne hi)) hf hm
    | no e hp he => exact .same e hp (.inr (.inr (lay_full h he)))
    | dies h7 hst hD hf => exact .dies h7 hst hD hf
    | torn M hg h7 hst hd hS hf hm => exact .torn M hg _ (by rw [if_neg h6]) h7 hst hd hS (saveRs_good ht hv (entriesW_in ha) hw) hf hm
/-- a log of which the records tell all -/
structure Whole (L : LogD) (D : DiskD) (R : Nat → List RecD) (b : Nat) : Prop where
 ok : LogOK L D R b
 st : L.st = foldS zeroS (recsOf R (numsL L))
 pos : 0 < L.last.size
/-- acts that save or reset; all others are passed over -/
def runL : LogD → DiskD → List ActW → LogD × DiskD
 | L, D, [] => (L, D)
 | L, D, a :: t => if pickZ a.op 10 < 7 then runL (doesL L D a).2.1 (doesL L D a).2.2 t else runL L D t
/-- a log that was just begun -/
def beginL : LogD := ⟨zeroS, [], ⟨1, (recsL [.hard 0 0]).length, 0⟩⟩
def beginD (most : Int) : DiskD := ⟨[⟨nameW 1, recsL [.hard 0 0], (recsL [.hard 0 0]).length⟩], most, -1, false⟩
def beginR (m : Nat) : List RecD := if m = 1 then [.hard 0 0] else []
theorem begin_len : (recsL [.hard 0 0]).length ≤ 38 := by
 have h := hard_bytes (t := 0) (v := 0) (i64_small (by decide) (by decide)) (i64_small (by decide) (by decide))
 rw [recsL_cons, List.length_append]; show _ + 0 ≤ 38; omega
theorem first_good : GoodR (.hard 0 0) ∧ (payL (.hard 0 0)).length ≤ 65536 := by
 refine ⟨⟨⟨by decide, by decide⟩, i64_small (by decide) (by decide), i64_small (by decide) (by decide)⟩, ?_⟩
 have h := hard_bytes (t := 0) (v := 0) (i64_small (by decide) (by decide)) (i64_small (by decide) (by decide))
 unfold recF at h
 rw [frame_len] at h
 omega
theorem whole_begin {most : Int} (h0 : 100 ≤ most) (h1 : most ≤ 10000000) : Whole beginL (beginD most) beginR 38 := by
 have hl := begin_len
 have hpos : 0 < (recsL [.hard 0 0]).length := recsne (by simp)
 have hinv : InvD (beginD most) := by
  refine ⟨?_, ?_, ?_, ?_, ?_, ?_, ?_⟩ <;> first
   | exact List.pairwise_singleton _ _
   | (intro f hf; rw [List.mem_singleton.1 hf]; exact nameW_ok (by decide))
   | (intro f hf; rw [List.mem_singleton.1 hf]; exact Nat.le_refl _)
   | (unfold beginD total; simp; omega)
   | (unfold beginD; simp; done)
   | (unfold beginD; dsimp only; omega)
 have hS : SegsAt (beginD most) [] 1 beginR [] 0 := by
  refine ⟨hinv, List.pairwise_singleton _ _, fun m hm => ?_, fun m hm r hr => ?_, fun m hm => (by cases hm), ?_, fun f hf => ⟨1, List.mem_singleton.2 rfl, ?_⟩⟩
  ·rw [List.mem_singleton.1 hm]; omega
  ·rw [List.mem_singleton.1 hm] at hr
   rw [List.mem_singleton.1 hr]
   exact first_good
  ·rw [List.append_nil]; unfold beginD getF; simp [beginR]
  ·rw [List.mem_singleton.1 hf]
 refine ⟨⟨⟨hS, rfl, rfl, fun m hm => ?_, rfl, OkS.zero⟩, fun m hm => ?_, Nat.zero_le _, fun m hm => (by cases hm), fun m => ?_⟩, rfl, hpos⟩
 ·unfold beginR; rw [if_neg]; have : 1 < m := hm; omega
 ·rw [List.mem_singleton.1 hm]; exact .inr ⟨0, 0, [], rfl⟩
 ·unfold beginR
  split
  ·rw [← thin_all (by simp)]; exact hl
  ·exact Nat.zero_le _
end
end Go.Proofs.YtgmghopcppniaaaGreatDoor

/- Layer 3 in plain words: a save that does not fit; what is read behind a crash (no program). -/
namespace Go.Proofs.YtgmghopcppniaaaGreatDoor

/-! ### a save that does not fit -/
def FewE (l : List EntD) : Prop := (∀ e ∈ l, e.index ≤ 33) ∨ ∃ e, l = [e] ∧ e.index % 37 = 0
section
variable {L : LogD} {D : DiskD} {R : Nat → List RecD} {b : Nat} {a : ActW}
/-! ### behind a crash -/
variable {xb : UInt8 → Int → UInt8}
def reopenD (xb : UInt8 → Int → UInt8) (D : DiskD) (keep noise : List Int) (again : Int) : (Int × (StD × List SegD)) × DiskD :=
 if (openD (fuseD (crashD xb D keep noise) again)).1.1 ≠ 0 then openD (crashD xb (openD (fuseD (crashD xb D keep noise) again)).2 noise keep)
 else openD (fuseD (crashD xb D keep noise) again)
theorem fold_ents : ∀ (l : List EntD) (s : StD), foldS s (l.map .ent) = { s with ents := l.foldl putE s.ents }
 | [], _ => rfl
 | e :: l, s => by
  show foldS (stepS s (.ent e)) (l.map .ent) = _
  rw [fold_ents l]
  rfl
end
end Go.Proofs.YtgmghopcppniaaaGreatDoor

/- Layer 3 in plain words: a log just begun (no program). -/
namespace Go.Proofs.YtgmghopcppniaaaGreatDoor

def layD (D : DiskD) (n x : Str) : Int × DiskD := if (appendD D n x).1 ≠ 0 then appendD D n x else syncD (appendD D n x).2 n
theorem begin_lay {most : Int} (h0 : 100 ≤ most) : layD (newD most) (nameW 1) (recsL [.hard 0 0]) = (0, beginD most) := by
 have hl := begin_len
 obtain ⟨T, hT⟩ : ∃ T, recsL [.hard 0 0] = T := ⟨_, rfl⟩
 unfold beginD
 rw [hT] at hl ⊢
 have hok : nameOK (nameW 1) = true := nameW_ok (by decide)
 have ha := append_fits (D := newD most) (n := nameW 1) (x := T) rfl hok (by show (0 : Nat) < 40; decide) (by show ((0 : Nat) : Int) + T.length ≤ most; omega)
 have hg : grown (newD most).files (nameW 1) T = ⟨nameW 1, T, 0⟩ := grown_none rfl
 rw [hg, then_does (by show (-1 : Int) ≠ 0; decide)] at ha
 have hp : putF (newD most).files ⟨nameW 1, T, 0⟩ = [⟨nameW 1, T, 0⟩] := rfl
 rw [hp] at ha
 unfold layD
 rw [ha, if_neg (by simp)]
 dsimp only
 unfold syncD
 rw [if_neg (by show ¬ (false = true); simp)]
 have hgf : getF [(⟨nameW 1, T, 0⟩ : FileD)] (nameW 1) = some ⟨nameW 1, T, 0⟩ := by unfold getF; simp
 dsimp only
 rw [hgf]
 dsimp only
 rw [then_does (by show max ((-1 : Int) - 1) (-1) ≠ 0; decide)]
 have hp2 : putF [(⟨nameW 1, T, 0⟩ : FileD)] ⟨nameW 1, T, T.length⟩ = [⟨nameW 1, T, T.length⟩] := by
  unfold putF
  rw [if_neg (List.lt_irrefl _)]
  simp
 dsimp only
 rw [hp2]
 rfl
theorem begin_open {most : Int} (h0 : 100 ≤ most) : openD (newD most) = ((0, (zeroS, [⟨1, (recsL [.hard 0 0]).length, 0⟩])), beginD most) := by
 have h1 := begin_lay h0
 have hn : numsN (newD most) = [] := by unfold numsN numsD newD; simp
 have hr : recsL [.hard 0 0] = frameL (hardTx 0 0) := by unfold recsL; rw [List.flatMap_cons, List.flatMap_nil, List.append_nil]; rfl
 unfold openD
 rw [if_pos hn]
 unfold layD at h1
 unfold firstD
 rw [hr] at h1 ⊢
 rw [h1]
theorem begin_segs : beginL.pre ++ [beginL.last] = [⟨1, (recsL [.hard 0 0]).length, 0⟩] := rfl
end Go.Proofs.YtgmghopcppniaaaGreatDoor

/- Layer 3 in plain words: runs of saves and resets; the chapter's examples (no program). -/
namespace Go.Proofs.YtgmghopcppniaaaGreatDoor

/-- sizes that the walk asks for -/
structure Fit (L : LogD) (D : DiskD) : Prop where
 num0 : 0 < L.last.num
 num1 : L.last.num + 1 < 1000000
 size : L.last.size ≤ 1000000000
 many : L.pre.length ≤ 900
 ok : OkS L.st
 top : I64 L.last.top
 few : L.st.ents.length ≤ 800000
 pre : ∀ s ∈ L.pre, 0 < s.num ∧ s.num < 1000000
 most : D.most ≤ 100000
theorem top_in : ∀ (l : List RecD) (m : Int), I64 m → (∀ r ∈ l, GoodR r) → I64 (l.foldl topR m)
 | [], m, h, _ => h
 | r :: l, m, h, hg => by
  show I64 (l.foldl topR (topR m r))
  refine top_in l _ ?_ fun x hx => hg x (List.mem_cons_of_mem _ hx)
  have hr := hg r (List.mem_cons_self ..)
  cases r with
  | hard t v => exact h
  | reset => exact h
  | ent e =>
   have h7 := GoodE.parts (e := e) hr
   show I64 (max _ _)
   unfold I64 at *
   omega
theorem foldS_len : ∀ (l : List RecD) (s : StD), (foldS s l).ents.length ≤ s.ents.length + l.length
 | [], s => Nat.le_refl _
 | r :: l, s => by
  show (foldS (stepS s r) l).ents.length ≤ _
  have h1 := foldS_len l (stepS s r)
  have h2 : (stepS s r).ents.length ≤ s.ents.length + 1 := by
   cases r with
   | hard t v => exact Nat.le_succ _
   | reset => exact Nat.zero_le _
   | ent e =>
    show (putE s.ents e).length ≤ _
    unfold putE
    split
    ·simp
    ·rw [List.length_append, List.length_take, List.length_singleton]; omega
  rw [List.length_cons]; omega
section
variable {L : LogD} {D : DiskD} {R : Nat → List RecD} {b : Nat} {a : ActW}
theorem LogOK.fit (h : LogOK L D R b) (hn : L.last.num + 1 < 1000000) (he : L.st.ents.length ≤ 800000) (hm : D.most ≤ 100000) : Fit L D := by
 have hS := h.held.at'
 have hr := hS.rangeN
 refine ⟨hr.1, hn, ?_, by have := h.many; omega, h.held.ok, ?_, he, fun s hs => hS.range _ (List.mem_append_left _ (List.mem_map.2 ⟨s, hs, rfl⟩)), hm⟩
 ·have h1 := congrArg SegD.size h.held.last
  have h2 : L.last.size = (recsL (R L.last.num)).length := h1
  have h3 := mem_total (get_mem hS.last).1
  have h4 := hS.inv.full
  dsimp only at h3
  rw [List.append_nil] at h3
  omega
 ·have h1 := congrArg SegD.top h.held.last
  rw [h1]
  exact top_in (R L.last.num) 0 (i64_small (by decide) (by decide)) fun r hr => (hS.goodN r hr).1
theorem saveRs_fold {t v : Int} {l : List EntD} : foldS L.st (saveRs L t v l) = ⟨t, v, l.foldl putE L.st.ents⟩ := by
 unfold saveRs layRs
 split
 ·show foldS (stepS L.st (.hard t v)) (l.map .ent) = _
  rw [fold_ents]; rfl
 ·rename_i h
  have h2 : t = L.st.t ∧ v = L.st.v := by
   refine Classical.byContradiction fun h3 => h (.inl ?_)
   simp only [Bool.not_eq_true', Bool.and_eq_false_iff, decide_eq_false_iff_not]
   by_cases h4 : t = L.st.t
   ·exact .inr fun h5 => h3 ⟨h4, h5⟩
   ·exact .inl h4
  rw [fold_ents, h2.1, h2.2]
/-- a save that fits is done -/
theorem save_fits (h : LogOK L D R b) (hn : L.last.num + 1 < 1000000) {t v : Int} {l : List EntD} (ht : I64 t) (hv : I64 v) (hI : ∀ e ∈ l, I64 e.index ∧ I64 e.term ∧ I64 e.kind ∧ e.data.length ≤ 1000000) (hw : wrongA t v l = false) (hi : idleA L t v l = false) (hf : D.fuse = -1) (hx : (total D.files : Int) + (recsL (saveRs L t v l)).length ≤ D.most) :
  ∃ L' D' R' c, saveL L D t v l = (0, (L', D')) ∧ LogOK L' D' R' c ∧ L'.st = ⟨t, v, l.foldl putE L.st.ents⟩ ∧ D'.fuse = -1 ∧ total D'.files = total D.files + (recsL (saveRs L t v l)).length ∧ D'.most = D.most ∧ L'.last.num ≤ L.last.num + 1 := by
 have hl := lay_fits h (grown_grows L) hn hf hx
 have h0 : (saveL L D t v l).1 = 0 := by rw [save_lay hw hi, if_neg (by rw [hl]; simp)]
 have hs := h.save hn ht hv hI hw hi
 obtain ⟨p, hp⟩ : ∃ p, saveL L D t v l = p := ⟨_, rfl⟩
 rw [hp] at hs h0 ⊢
 cases hs with
 | done _ R' hH hrec hst hnum hsz hpos hf2 htt hm =>
  obtain ⟨c, L', D'⟩ := p
  dsimp only at h0
  subst h0
  exact ⟨L', D', R', _, rfl, hH, by rw [← saveRs_fold]; exact hst, hf2 hf, htt, hm, hnum⟩
 | no e h2 he => rw [h2] at h0; dsimp only at h0; rcases he with he | ⟨he, _⟩ <;> omega
 | dies h7 hst hD hf2 => omega
 | torn M hg h7 hst hd hS hf2 hm => omega
theorem reset_fits (h : LogOK L D R b) (hn : L.last.num + 1 < 1000000) (hf : D.fuse = -1) (hx : (total D.files : Int) + (recsL (resetRs L)).length ≤ D.most) :
  ∃ L' D' R' c, resetL L D = (0, (L', D')) ∧ LogOK L' D' R' c ∧ L'.st.ents = [] := by
 have hl := lay_fits h (.inl rfl) hn hf hx
 have h0 : (resetL L D).1 = 0 := by unfold resetL; rw [if_neg (by rw [hl]; simp)]
 have hs := h.reset hn
 obtain ⟨p, hp⟩ : ∃ p, resetL L D = p := ⟨_, rfl⟩
 rw [hp] at hs h0 ⊢
 cases hs with
 | done _ R' hH hrec hst hnum hsz hpos hf2 htt hm =>
  obtain ⟨c, L', D'⟩ := p
  dsimp only at h0
  subst h0
  refine ⟨L', D', R', _, rfl, hH, ?_⟩
  dsimp only at hst
  rw [hst]
  unfold resetRs layRs
  split <;> rfl
 | no e h2 he => rw [h2] at h0; dsimp only at h0; rcases he with he | ⟨he, _⟩ <;> omega
 | dies h7 hst hD hf2 => omega
 | torn M hg h7 hst hd hS hf2 hm => omega
theorem doesL_len (h : LogOK L D R b) (hn : L.last.num + 1 < 1000000) (ha : GoodW a) : (doesL L D a).2.1.st.ents.length ≤ L.st.ents.length + 5 := by
 cases h.does hn ha with
 | same e hp he => rw [hp]; dsimp only; omega
 | done rs hrs hne h0 R' hH hrec hst hnum hpos hf2 hm =>
  rw [hst]
  have h1 := foldS_len rs L.st
  have h2 : rs.length ≤ 5 := by
   rw [hrs]
   split
   ·unfold resetRs layRs; split <;> simp
   ·have := entriesW_len a
    unfold saveRs layRs
    split <;> simp <;> omega
  omega
 | dies h7 hst hD hf2 => rw [hst]; omega
 | torn M hg rs hrs h7 hst hd hS hgood hf2 hm => rw [hst]; omega
end
/-- behind so many saves and resets -/
structure RunInv (L : LogD) (D : DiskD) (i : Nat) (M : Int) : Prop where
 whole : ∃ R b, Whole L D R b
 fuse : D.fuse = -1
 num : L.last.num ≤ 1 + i
 len : L.st.ents.length ≤ 5 * i
 most : D.most = M
 few : FewE L.st.ents
theorem RunInv.start {M : Int} (h0 : 100 ≤ M) (h1 : M ≤ 100000) : RunInv beginL (beginD M) 0 M :=
 ⟨⟨beginR, 38, whole_begin h0 (by omega)⟩, rfl, Nat.le_refl _, Nat.le_refl _, rfl, .inl fun e he => by cases he⟩
theorem RunInv.fit {L : LogD} {D : DiskD} {i : Nat} {M : Int} (h : RunInv L D i M) (hi : i ≤ 100) (hM : M ≤ 100000) : Fit L D := by
 obtain ⟨R, b, hw⟩ := h.whole
 have := h.num
 have := h.len
 exact hw.ok.fit (by omega) (by omega) (by rw [h.most]; exact hM)

/-! ### the chapter's examples -/
def ea : EntD := ⟨1, 1, 2, [97]⟩
def eb : EntD := ⟨2, 1, 2, [98]⟩
def ec : EntD := ⟨2, 1, 2, [99]⟩
def ex : EntD := ⟨7, 2, 2, [120]⟩
theorem small_ent {i t : Int} {c : UInt8} (h1 : 1 ≤ i) (h2 : i ≤ 1000) (h3 : 0 ≤ t) (h4 : t ≤ 1000) : (I64 i ∧ I64 t ∧ I64 2 ∧ ([c] : Str).length ≤ 1000000) ∧ rightE ⟨i, t, 2, [c]⟩ = true ∧ (recF (.ent ⟨i, t, 2, [c]⟩)).length ≤ 100 ∧ (entTx ⟨i, t, 2, [c]⟩).length ≤ 65536 := by
 have hi : I64 i := i64_small (by omega) (by omega)
 have ht : I64 t := i64_small (by omega) (by omega)
 have h5 := ints_len [2, i, t, 2] (by intro n hn; simp at hn; rcases hn with rfl | rfl | rfl | rfl <;> first | assumption | exact i64_small (by decide) (by decide))
 have h6 := intL_len (n := 1) (i64_small (by decide) (by decide))
 have h7 : (entTx ⟨i, t, 2, [c]⟩).length ≤ 60 := by
  unfold entTx textL
  rw [List.length_append, List.length_append]
  have e1 : intL (([c] : Str).length : Int) = intL 1 := rfl
  rw [e1]
  simp at h5 h6 ⊢
  omega
 refine ⟨⟨hi, ht, i64_small (by decide) (by decide), by simp⟩, rightE_parts.2 ⟨by dsimp only; omega, h3, (by show (1 : Int) ≤ 2; decide), (by show (2 : Int) ≤ 3; decide)⟩, ?_, by omega⟩
 unfold recF
 rw [frame_len]
 show 8 + (entTx _).length ≤ 100
 omega
theorem small_save {L : LogD} {t v : Int} {l : List EntD} (ht : I64 t) (hv : I64 v) (hl : ∀ e ∈ l, (recF (.ent e)).length ≤ 100) (h2 : l.length ≤ 2) : (recsL (saveRs L t v l)).length ≤ 238 := by
 have h1 := recs_le (k := 100) (l := l.map .ent) fun r hr => by
  obtain ⟨e, he, rfl⟩ := List.mem_map.1 hr
  exact hl e he
 rw [List.length_map] at h1
 have h3 := hard_bytes ht hv
 unfold saveRs layRs
 split
 ·rw [recsL_cons, List.length_append]; omega
 ·omega
theorem wrong_small {l : List EntD} (h1 : ∀ e ∈ l, rightE e = true) (h2 : ∀ e ∈ l, (entTx e).length ≤ 65536) : wrongA 1 2 l = false := by
 have h3 : l.all rightE = true := List.all_eq_true.2 h1
 have h4 : (l.any fun e => decide (65536 < (entTx e).length)) = false := List.any_eq_false.2 fun e he => by have := h2 e he; simp; omega
 unfold wrongA
 rw [h3, h4]; rfl
theorem shown_plain : ∃ L1 D1 L2 D2 L3 D3 L4 D4, saveL beginL (beginD 10000) 1 2 [ea, eb] = (0, (L1, D1)) ∧ saveL L1 D1 1 2 [ec] = (0, (L2, D2)) ∧ saveL L2 D2 1 2 [ex] = (0, (L3, D3)) ∧ resetL L3 D3 = (0, (L4, D4)) ∧
  L2.st = ⟨1, 2, [ea, ec]⟩ ∧ L3.st = ⟨1, 2, [ex]⟩ ∧ L4.st.ents = [] ∧ Fit L1 D1 ∧ Fit L2 D2 ∧ Fit L3 D3 := by
 have h1 : I64 1 := i64_small (by decide) (by decide)
 have h2 : I64 2 := i64_small (by decide) (by decide)
 have qa := small_ent (i := 1) (t := 1) (c := 97) (by decide) (by decide) (by decide) (by decide)
 have qb := small_ent (i := 2) (t := 1) (c := 98) (by decide) (by decide) (by decide) (by decide)
 have qc := small_ent (i := 2) (t := 1) (c := 99) (by decide) (by decide) (by decide) (by decide)
 have qx := small_ent (i := 7) (t := 2) (c := 120) (by decide) (by decide) (by decide) (by decide)
 have two : ∀ e ∈ [ea, eb], (I64 e.index ∧ I64 e.term ∧ I64 e.kind ∧ e.data.length ≤ 1000000) ∧ rightE e = true ∧ (recF (.ent e)).length ≤ 100 ∧ (entTx e).length ≤ 65536 := by
  intro e he
  simp only [List.mem_cons, List.not_mem_nil, or_false] at he
  rcases he with rfl | rfl
  ·exact qa
  ·exact qb
 have onec : ∀ e ∈ [ec], (I64 e.index ∧ I64 e.term ∧ I64 e.kind ∧ e.data.length ≤ 1000000) ∧ rightE e = true ∧ (recF (.ent e)).length ≤ 100 ∧ (entTx e).length ≤ 65536 := by
  intro e he; rw [List.mem_singleton.1 he]; exact qc
 have onex : ∀ e ∈ [ex], (I64 e.index ∧ I64 e.term ∧ I64 e.kind ∧ e.data.length ≤ 1000000) ∧ rightE e = true ∧ (recF (.ent e)).length ≤ 100 ∧ (entTx e).length ≤ 65536 := by
  intro e he; rw [List.mem_singleton.1 he]; exact qx
 have hw := whole_begin (most := 10000) (by decide) (by decide)
 have ht0 : total (beginD 10000).files ≤ 38 := by
  have := begin_len
  unfold beginD total
  simp; omega
 have b1 := small_save (L := beginL) h1 h2 (fun e he => (two e he).2.2.1) (by decide)
 obtain ⟨L1, D1, R1, c1, e1, o1, s1, f1, t1, m1, n1⟩ := save_fits hw.ok (by decide) h1 h2 (fun e he => (two e he).1) (wrong_small (fun e he => (two e he).2.1) (fun e he => (two e he).2.2.2)) rfl rfl (by show _ ≤ (10000 : Int); omega)
 have m1' : D1.most = 10000 := m1
 have n1' : L1.last.num ≤ 2 := n1
 have b2 := small_save (L := L1) h1 h2 (fun e he => (onec e he).2.2.1) (by decide)
 obtain ⟨L2, D2, R2, c2, e2, o2, s2, f2, t2, m2, n2⟩ := save_fits o1 (by omega) h1 h2 (fun e he => (onec e he).1) (wrong_small (fun e he => (onec e he).2.1) (fun e he => (onec e he).2.2.2)) rfl f1 (by rw [m1']; omega)
 have b3 := small_save (L := L2) h1 h2 (fun e he => (onex e he).2.2.1) (by decide)
 obtain ⟨L3, D3, R3, c3, e3, o3, s3, f3, t3, m3, n3⟩ := save_fits o2 (by omega) h1 h2 (fun e he => (onex e he).1) (wrong_small (fun e he => (onex e he).2.1) (fun e he => (onex e he).2.2.2)) rfl f2 (by rw [m2, m1']; omega)
 have b4 := resetRs_bytes o3.held.ok
 obtain ⟨L4, D4, R4, c4, e4, o4, s4⟩ := reset_fits o3 (by omega) f3 (by rw [m3, m2, m1']; omega)
 have k1 : L1.st = ⟨1, 2, [ea, eb]⟩ := s1.trans (by decide)
 have k2 : L2.st = ⟨1, 2, [ea, ec]⟩ := s2.trans (by rw [k1]; decide)
 have k3 : L3.st = ⟨1, 2, [ex]⟩ := s3.trans (by rw [k2]; decide)
 exact ⟨L1, D1, L2, D2, L3, D3, L4, D4, e1, e2, e3, e4, k2, k3, s4, o1.fit (by omega) (by rw [k1]; decide) (by omega), o2.fit (by omega) (by rw [k2]; decide) (by omega), o3.fit (by omega) (by rw [k3]; decide) (by omega)⟩
end Go.Proofs.YtgmghopcppniaaaGreatDoor
