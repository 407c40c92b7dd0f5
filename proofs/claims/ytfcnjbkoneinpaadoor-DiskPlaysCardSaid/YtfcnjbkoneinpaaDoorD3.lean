/- What the laws say of a disk, in plain words. -/
import Derived.Test.YtfcnjbkoneinpaaDoorD2
namespace Go.Proofs.YtfcnjbkoneinpaaDoor

structure ActD where
  op : Int
  n : Int
  name : List UInt8
  to : List UInt8
  data : List UInt8
  keep : List Int
  noise : List Int

def pickZ (c n : Int) : Int := (if c < 0 then -(c + 1) else c) % n
def quietP (p : Int × DiskD) : (List UInt8 × Int) × DiskD := (([], p.1), p.2)
def doesD (xb : UInt8 → Int → UInt8) (D : DiskD) (a : ActD) : (List UInt8 × Int) × DiskD :=
  if pickZ a.op 11 = 4 then quietP (syncD D a.name)
  else if pickZ a.op 11 = 5 then quietP (truncD D a.name a.n)
  else if pickZ a.op 11 = 6 then quietP (renameD D a.name a.to)
  else if pickZ a.op 11 = 7 then quietP (deleteD D a.name)
  else if pickZ a.op 11 = 8 then (readD D a.name, D)
  else if pickZ a.op 11 = 9 then (([], 0), fuseD D a.n)
  else if pickZ a.op 11 = 10 then (([], 0), crashD xb D a.keep a.noise)
  else quietP (appendD D a.name a.data)
def playD (xb : UInt8 → Int → UInt8) : DiskD → List ActD → DiskD
  | D, [] => D
  | D, a :: l => playD xb (doesD xb D a).2 l

section
variable {D D' : DiskD} {l : List FileD} {n m x to s t : List UInt8} {f g : FileD} {e : Int} {xb : UInt8 → Int → UInt8} {keep noise : List Int}

theorem InvD.does (h : InvD D) (a : ActD) (hn : a.n ≤ 9223372036854775807) : InvD (doesD xb D a).2 := by
  unfold doesD quietP
  repeat' split
  · exact h.sync _
  · exact h.trunc _ _
  · exact h.rename _ _
  · exact h.delete _
  · exact h
  · exact h.fused _ hn
  · exact h.crash
  · exact h.append _ _
theorem does_most (a : ActD) : (doesD xb D a).2.most = D.most := by
  have ht : ∀ l, (thenD D l).2.most = D.most := fun l => by unfold thenD; split; exact turn_files.2; exact turn_files.2
  unfold doesD quietP
  repeat' split
  · unfold syncD; split; rfl; split; rfl; exact ht _
  · unfold truncD; split; rfl; split; rfl; split; rfl; exact ht _
  · unfold renameD; split; rfl; split; rfl; split; rfl; exact ht _
  · unfold deleteD; split; rfl; split; rfl; exact ht _
  · rfl
  · rfl
  · rfl
  · unfold appendD; split; rfl; split; rfl; split; rfl; split; rfl; exact ht _

/-- what a call that changes something comes to: nothing, for one reason or another; or a turn, and then the files l -/
def Turned (D : DiskD) (l : List FileD) (p : Int × DiskD) : Prop :=
  (D.dead = true ∧ p = (7, D)) ∨ (D.dead = false ∧ p.2 = D ∧ p.1 ≠ 0 ∧ p.1 ≠ 7) ∨ (D.dead = false ∧ D.fuse = 0 ∧ p = (7, { D with dead := true })) ∨
  (D.dead = false ∧ D.fuse ≠ 0 ∧ p = (0, { D with files := l, fuse := max (D.fuse - 1) (-1) }))
theorem Turned.gone (h : D.dead = true) : Turned D l (7, D) := .inl ⟨h, rfl⟩
theorem Turned.no (h : D.dead = false) (e : Int) (h0 : e ≠ 0) (h7 : e ≠ 7) : Turned D l (e, D) := .inr (.inl ⟨h, rfl, h0, h7⟩)
theorem Turned.dies (h : D.dead = false) (hf : D.fuse = 0) : Turned D l (7, { D with dead := true }) := .inr (.inr (.inl ⟨h, hf, rfl⟩))
theorem Turned.done (h : D.dead = false) (hf : D.fuse ≠ 0) : Turned D l (0, { D with files := l, fuse := max (D.fuse - 1) (-1) }) := .inr (.inr (.inr ⟨h, hf, rfl⟩))
theorem turned_then (h : D.dead = false) (l : List FileD) : Turned D l (thenD D l) := by
  unfold thenD turnD
  by_cases hf : D.fuse = 0
  · rw [if_pos hf]; simp; exact .dies h hf
  · rw [if_neg hf]; simp [setF]; exact .done h hf
theorem turned_append (D : DiskD) (n x : List UInt8) : Turned D (putF D.files (grown D.files n x)) (appendD D n x) := by
  unfold appendD
  by_cases h : D.dead = true
  · rw [if_pos h]; exact .gone h
  rw [if_neg h]
  have h : D.dead = false := by simpa using h
  split
  · exact .no h 3 (by decide) (by decide)
  split
  · exact .no h 11 (by decide) (by decide)
  split
  · exact .no h 6 (by decide) (by decide)
  exact turned_then h _
theorem turned_sync (D : DiskD) (n : List UInt8) : ∃ l, (∀ f, getF D.files n = some f → l = putF D.files ⟨n, f.bytes, f.bytes.length⟩) ∧ (getF D.files n = none → (syncD D n).1 ≠ 0) ∧ Turned D l (syncD D n) := by
  cases hd : D.dead with
  | true =>
    have e : syncD D n = (7, D) := by unfold syncD; rw [if_pos hd]
    rw [e]
    cases hg : getF D.files n with
    | none => exact ⟨[], (fun f hf => by cases hf), (fun _ => by simp), .gone hd⟩
    | some f => exact ⟨_, (fun f' hf => by obtain rfl := Option.some.inj hf; rfl), (fun h => by cases h), .gone hd⟩
  | false =>
    have hne : ¬ D.dead = true := by rw [hd]; simp
    unfold syncD
    rw [if_neg hne]
    cases hg : getF D.files n with
    | none => exact ⟨[], (fun f hf => by cases hf), (fun _ => by simp), .no hd 4 (by decide) (by decide)⟩
    | some f => exact ⟨_, (fun f' hf => by obtain rfl := Option.some.inj hf; rfl), (fun h => by cases h), turned_then hd _⟩
theorem turned_trunc (D : DiskD) (n : List UInt8) (k : Int) : ∃ l, (∀ m, m ≠ n → (truncD D n k).1 = 0 → Sorted D.files → getF l m = getF D.files m) ∧ Turned D l (truncD D n k) := by
  cases hd : D.dead with
  | true =>
    have e : truncD D n k = (7, D) := by unfold truncD; rw [if_pos hd]
    rw [e]
    exact ⟨[], (fun m _ he _ => by cases he), .gone hd⟩
  | false =>
    have hne : ¬ D.dead = true := by rw [hd]; simp
    unfold truncD
    rw [if_neg hne]
    cases hg : getF D.files n with
    | none => exact ⟨[], (fun m _ he _ => by cases he), .no hd 4 (by decide) (by decide)⟩
    | some f =>
      dsimp only
      split
      · exact ⟨[], (fun m _ he _ => by cases he), .no hd 2 (by decide) (by decide)⟩
      · exact ⟨_, (fun m hm _ hs => by rw [get_put hs, if_neg hm]), turned_then hd _⟩
theorem turned_rename (D : DiskD) (n to : List UInt8) : ∃ l, (∀ f, getF D.files n = some f → l = putF (delF D.files n) ⟨to, f.bytes, f.synced⟩) ∧ (getF D.files n = none → (renameD D n to).1 ≠ 0) ∧ Turned D l (renameD D n to) := by
  cases hd : D.dead with
  | true =>
    have e : renameD D n to = (7, D) := by unfold renameD; rw [if_pos hd]
    rw [e]
    cases hg : getF D.files n with
    | none => exact ⟨[], (fun f hf => by cases hf), (fun _ => by simp), .gone hd⟩
    | some f => exact ⟨_, (fun f' hf => by obtain rfl := Option.some.inj hf; rfl), (fun h => by cases h), .gone hd⟩
  | false =>
    have hne : ¬ D.dead = true := by rw [hd]; simp
    unfold renameD
    rw [if_neg hne]
    cases hg : getF D.files n with
    | none => exact ⟨[], (fun f hf => by cases hf), (fun _ => by simp), .no hd 4 (by decide) (by decide)⟩
    | some f =>
      dsimp only
      split
      · exact ⟨_, (fun f' hf => by obtain rfl := Option.some.inj hf; rfl), (fun h => by cases h), .no hd 3 (by decide) (by decide)⟩
      · exact ⟨_, (fun f' hf => by obtain rfl := Option.some.inj hf; rfl), (fun h => by cases h), turned_then hd _⟩
theorem turned_delete (D : DiskD) (n : List UInt8) : Turned D (delF D.files n) (deleteD D n) := by
  unfold deleteD
  by_cases h : D.dead = true
  · rw [if_pos h]; exact .gone h
  rw [if_neg h]
  have h : D.dead = false := by simpa using h
  cases hg : getF D.files n with
  | none => exact .no h 4 (by decide) (by decide)
  | some f => exact turned_then h _

/-! ### DiskOthers -/
theorem read_other {p : Int × DiskD} (hl : p.1 = 0 → getF l m = getF D.files m) (h : Turned D l p) (hd : p.2.dead = false) : readD p.2 m = readD D m := by
  rcases h with ⟨_, rfl⟩ | ⟨_, h, _, _⟩ | ⟨_, _, rfl⟩ | ⟨h, _, rfl⟩
  · rfl
  · rw [h]
  · cases hd
  · unfold readD; rw [h]; simp [hl rfl]
theorem others (hs : Sorted D.files) {a : ActD} (h1 : m ≠ a.name) (h2 : m ≠ a.to) (hop : pickZ a.op 11 < 9) (hd : (doesD xb D a).2.dead = false) : readD (doesD xb D a).2 m = readD D m := by
  unfold doesD quietP at hd ⊢
  by_cases k4 : pickZ a.op 11 = 4
  · simp only [k4, ↓reduceIte] at hd ⊢
    obtain ⟨l, g1, g2, g3⟩ := turned_sync D a.name
    refine read_other (fun he => ?_) g3 hd
    cases hg : getF D.files a.name with
    | none => exact absurd he (g2 hg)
    | some f => rw [g1 f hg, get_put hs, if_neg h1]
  by_cases k5 : pickZ a.op 11 = 5
  · simp only [k5, Int.reduceEq, ↓reduceIte] at hd ⊢
    obtain ⟨l, g1, g3⟩ := turned_trunc D a.name a.n
    exact read_other (fun he => g1 m h1 he hs) g3 hd
  by_cases k6 : pickZ a.op 11 = 6
  · simp only [k6, Int.reduceEq, ↓reduceIte] at hd ⊢
    obtain ⟨l, g1, g2, g3⟩ := turned_rename D a.name a.to
    refine read_other (fun he => ?_) g3 hd
    cases hg : getF D.files a.name with
    | none => exact absurd he (g2 hg)
    | some f => rw [g1 f hg, get_put (del_sorted hs _), if_neg h2, get_del, if_neg h1]
  by_cases k7 : pickZ a.op 11 = 7
  · simp only [k7, Int.reduceEq, ↓reduceIte] at hd ⊢
    exact read_other (fun _ => by rw [get_del, if_neg h1]) (turned_delete D a.name) hd
  by_cases k8 : pickZ a.op 11 = 8
  · simp only [k8, Int.reduceEq, ↓reduceIte] at hd ⊢
  have k9 : ¬ pickZ a.op 11 = 9 := by omega
  have k10 : ¬ pickZ a.op 11 = 10 := by omega
  simp only [k4, k5, k6, k7, k8, k9, k10, ↓reduceIte] at hd ⊢
  refine read_other (fun _ => ?_) (turned_append D a.name a.data) hd
  rw [get_put hs, grown_name, if_neg h1]

/-! ### DiskFuses -/
/-- a disk with a fuse of so many turns, of which so many are done -/
def Fused (most many : Nat) (D : DiskD) : Prop := (D.dead = false ∧ D.fuse = (most : Int) - many ∧ many ≤ most) ∨ (D.dead = true ∧ many = most)
theorem fused_turn {p : Int × DiskD} {most many : Nat} (hF : Fused most many D) (h : Turned D l p) : (p.1 = 7 → many = most) ∧ Fused most (if p.1 = 0 then many + 1 else many) p.2 := by
  rcases h with ⟨h, rfl⟩ | ⟨h, e2, h0, h7⟩ | ⟨h, hf, rfl⟩ | ⟨h, hf, rfl⟩
  · rcases hF with ⟨h1, _⟩ | ⟨_, h2⟩
    · rw [h] at h1; cases h1
    · exact ⟨fun _ => h2, .inr ⟨h, h2⟩⟩
  · exact ⟨fun h => absurd h h7, by rw [if_neg h0, e2]; exact hF⟩
  · rcases hF with ⟨_, h1, h2⟩ | ⟨h1, _⟩
    · exact ⟨(fun _ => by omega), .inr ⟨rfl, by show (if (7 : Int) = 0 then many + 1 else many) = most; rw [if_neg (by decide)]; omega⟩⟩
    · rw [h] at h1; cases h1
  · rcases hF with ⟨_, h1, h2⟩ | ⟨h1, _⟩
    · refine ⟨(fun h => by cases h), .inl ⟨h, ?_, ?_⟩⟩
      · show max (D.fuse - 1) (-1) = (most : Int) - ((if (0 : Int) = 0 then many + 1 else many : Nat) : Int); rw [if_pos rfl]; omega
      · show (if (0 : Int) = 0 then many + 1 else many) ≤ most; rw [if_pos rfl]; omega
    · rw [h] at h1; cases h1
theorem fused_does {most many : Nat} (hF : Fused most many D) {a : ActD} (hop : pickZ a.op 11 ≤ 8) :
    ((doesD xb D a).1.2 = 7 → (if pickZ a.op 11 < 8 ∧ (doesD xb D a).1.2 = 0 then many + 1 else many) = most) ∧ Fused most (if pickZ a.op 11 < 8 ∧ (doesD xb D a).1.2 = 0 then many + 1 else many) (doesD xb D a).2 := by
  have key : ∀ (p : Int × DiskD) (l : List FileD), Turned D l p → pickZ a.op 11 < 8 → doesD xb D a = quietP p → ((doesD xb D a).1.2 = 7 → (if pickZ a.op 11 < 8 ∧ (doesD xb D a).1.2 = 0 then many + 1 else many) = most) ∧ Fused most (if pickZ a.op 11 < 8 ∧ (doesD xb D a).1.2 = 0 then many + 1 else many) (doesD xb D a).2 := by
    intro p l ht hlt e
    obtain ⟨k1, k2⟩ := fused_turn hF ht
    rw [e]
    unfold quietP
    dsimp only
    by_cases h0 : p.1 = 0
    · rw [if_pos ⟨hlt, h0⟩]; rw [if_pos h0] at k2
      exact ⟨(fun h => by rw [h] at h0; cases h0), k2⟩
    · rw [if_neg (fun h => h0 h.2)]; rw [if_neg h0] at k2
      exact ⟨k1, k2⟩
  by_cases k4 : pickZ a.op 11 = 4
  · obtain ⟨l, _, _, g3⟩ := turned_sync D a.name
    exact key _ l g3 (by omega) (by unfold doesD; rw [if_pos k4])
  by_cases k5 : pickZ a.op 11 = 5
  · obtain ⟨l, _, g3⟩ := turned_trunc D a.name a.n
    exact key _ l g3 (by omega) (by unfold doesD; rw [if_neg k4, if_pos k5])
  by_cases k6 : pickZ a.op 11 = 6
  · obtain ⟨l, _, _, g3⟩ := turned_rename D a.name a.to
    exact key _ l g3 (by omega) (by unfold doesD; rw [if_neg k4, if_neg k5, if_pos k6])
  by_cases k7 : pickZ a.op 11 = 7
  · exact key _ _ (turned_delete D a.name) (by omega) (by unfold doesD; rw [if_neg k4, if_neg k5, if_neg k6, if_pos k7])
  by_cases k8 : pickZ a.op 11 = 8
  · have e : doesD xb D a = (readD D a.name, D) := by unfold doesD; rw [if_neg k4, if_neg k5, if_neg k6, if_neg k7, if_pos k8]
    rw [e, if_neg (by omega)]
    refine ⟨fun h => ?_, hF⟩
    rcases hF with ⟨h1, _⟩ | ⟨_, h2⟩
    · unfold readD at h; rw [h1] at h; simp only [Bool.false_eq_true, ↓reduceIte] at h
      cases hg : getF D.files a.name <;> rw [hg] at h <;> cases h
    · exact h2
  · exact key _ _ (turned_append D a.name a.data) (by omega) (by unfold doesD; rw [if_neg k4, if_neg k5, if_neg k6, if_neg k7, if_neg k8, if_neg (by omega), if_neg (by omega)])

/-! ### DiskSynced, DiskMoves -/
def crash1 (xb : UInt8 → Int → UInt8) (keep noise : List Int) (f : FileD) : FileD := if f.bytes.length = f.synced then f else crashF xb keep noise 0 f
/-- all files but one have no tail -/
def OneTail (n : List UInt8) (l : List FileD) : Prop := ∀ f ∈ l, f.name ≠ n → f.bytes.length = f.synced
theorem crash_none : ∀ {l : List FileD} {k : Nat}, (∀ f ∈ l, f.bytes.length = f.synced) → crashL xb keep noise k l = l
  | [], _, _ => rfl
  | f :: t, k, h => by unfold crashL; rw [if_pos (h f (List.mem_cons_self ..)), crash_none fun g hg => h g (List.mem_cons_of_mem _ hg)]
theorem crash_one : ∀ {l : List FileD}, Sorted l → OneTail n l → getF l n = some f → getF (crashL xb keep noise 0 l) n = some (crash1 xb keep noise f)
  | [], _, _, h => by cases h
  | g :: t, hs, ho, h => by
    have hs' := sorted_cons.1 hs
    rw [get_cons] at h
    unfold crashL
    by_cases e : g.name = n
    · rw [if_pos e] at h
      obtain rfl := Option.some.inj h
      unfold crash1
      split
      · rw [get_cons, if_pos e]
      · rw [get_cons, if_pos (show (crashF xb keep noise 0 g).name = n from e)]
    · rw [if_neg e] at h
      rw [if_pos (ho g (List.mem_cons_self ..) e), get_cons, if_neg e]
      exact crash_one hs'.2 (fun x hx => ho x (List.mem_cons_of_mem _ hx)) h
theorem crash_tails (h : InvD D) : ∀ f ∈ (crashD xb D keep noise).files, f.bytes.length = f.synced := fun f hf => ((crash_all D.files 0 h.synced).1 f hf).symm
theorem put_tail (hs : Sorted l) (hl : OneTail n l) (hf : f.name = n ∨ f.bytes.length = f.synced) : OneTail n (putF l f) := by
  intro g hg hn
  rcases (mem_put hs).1 hg with rfl | ⟨k, _⟩
  · rcases hf with h | h; exact absurd h hn; exact h
  · exact hl g k hn
theorem del_tail (hl : OneTail n l) (m : List UInt8) : OneTail n (delF l m) := fun g hg hn => hl g (mem_del.1 hg).1 hn

/-- a disk that is not dead and has no fuse -/
structure Free (D : DiskD) : Prop where
  dead : D.dead = false
  fuse : D.fuse = -1
theorem Free.then (h : Free D) (l : List FileD) : thenD D l = (0, { D with files := l }) := by
  have hne : D.fuse ≠ 0 := by rw [h.fuse]; decide
  have : max (D.fuse - 1) (-1) = D.fuse := by rw [h.fuse]; decide
  unfold thenD turnD setF
  rw [if_neg hne]
  simp [this]
theorem Free.files (h : Free D) (l : List FileD) : Free { D with files := l } := ⟨h.dead, h.fuse⟩
theorem Free.delete (h : Free D) (n : List UInt8) : (deleteD D n).2 = { D with files := delF D.files n } := by
  unfold deleteD
  rw [if_neg (by rw [h.dead]; simp)]
  cases hg : getF D.files n with
  | none => rw [del_none hg]
  | some f => dsimp only; rw [h.then]
theorem Free.append (h : Free D) (hn : nameOK n = true) (x : List UInt8) : ((appendD D n x).1 = 0 ∧ (appendD D n x).2 = { D with files := putF D.files (grown D.files n x) }) ∨ (((appendD D n x).1 = 6 ∨ (appendD D n x).1 = 11) ∧ (appendD D n x).2 = D) := by
  unfold appendD
  rw [if_neg (by rw [h.dead]; simp), if_neg (by rw [hn]; simp)]
  split
  · exact .inr ⟨.inr rfl, rfl⟩
  split
  · exact .inr ⟨.inl rfl, rfl⟩
  rw [h.then]
  exact .inl ⟨rfl, rfl⟩
theorem Free.sync (h : Free D) (hg : getF D.files n = some f) : syncD D n = (0, { D with files := putF D.files ⟨n, f.bytes, f.bytes.length⟩ }) := by
  unfold syncD
  rw [if_neg (by rw [h.dead]; simp), hg]
  exact h.then _
theorem Free.rename (h : Free D) (hg : getF D.files n = some f) (ht : nameOK to = true) : renameD D n to = (0, { D with files := putF (delF D.files n) ⟨to, f.bytes, f.synced⟩ }) := by
  unfold renameD
  rw [if_neg (by rw [h.dead]; simp), hg]
  dsimp only
  rw [if_neg (by rw [ht]; simp)]
  exact h.then _
theorem Free.crash (D : DiskD) : Free (crashD xb D keep noise) := ⟨rfl, rfl⟩
theorem Free.read (h : Free D) (hg : getF D.files n = some f) : readD D n = (f.bytes, 0) := by
  unfold readD; rw [if_neg (by rw [h.dead]; simp), hg]
theorem Free.read_none (h : Free D) (hg : getF D.files n = none) : readD D n = ([], 4) := by
  unfold readD; rw [if_neg (by rw [h.dead]; simp), hg]
theorem grown_none (h : getF l n = none) : grown l n x = ⟨n, x, 0⟩ := by unfold grown; rw [h]
theorem grown_some (h : getF l n = some f) : grown l n x = ⟨n, f.bytes ++ x, f.synced⟩ := by unfold grown; rw [h]

/-- how much of t is kept -/
def keptN (c : Int) (t : List UInt8) : Nat := (min (max c 0) (t.length : Int)).toNat
theorem keptN_le (c : Int) (t : List UInt8) : keptN c t ≤ t.length := by unfold keptN; omega
theorem crash1_bytes (n s t : List UInt8) (keep noise : List Int) : (crash1 xb keep noise ⟨n, s ++ t, s.length⟩).bytes =
    if keptN (nthD keep 0) t = 0 then s else s ++ (t.take (keptN (nthD keep 0) t - 1) ++ [xb (t.getD (keptN (nthD keep 0) t - 1) 0) (nthD noise 0)]) := by
  have hk := keptN_le (nthD keep 0) t
  have e1 : keptD ⟨n, s ++ t, s.length⟩ (nthD keep 0) = s.length + keptN (nthD keep 0) t := by
    unfold keptD keptN; simp only [List.length_append]; rw [Nat.add_sub_cancel_left]
  unfold crash1
  simp only [List.length_append]
  by_cases h0 : t.length = 0
  · have ht : t = [] := List.length_eq_zero_iff.1 h0
    subst ht
    simp [keptN]
    omega
  · rw [if_neg (by omega)]
    unfold crashF
    dsimp only
    rw [e1]
    by_cases hz : keptN (nthD keep 0) t = 0
    · rw [hz, if_neg (by omega), if_pos rfl]; simp
    · rw [if_pos (by omega), if_neg hz]
      have e2 : s.length + keptN (nthD keep 0) t - 1 = s.length + (keptN (nthD keep 0) t - 1) := by omega
      rw [e2, List.take_append, List.take_of_length_le (by omega), Nat.add_sub_cancel_left, List.append_assoc]
      congr 3
      rw [List.getD_eq_getElem?_getD, List.getElem?_append_right (by omega), Nat.add_sub_cancel_left, List.getD_eq_getElem?_getD]

/-- a disk that has crashed: no tail, no fuse -/
structure Calm (n : List UInt8) (D : DiskD) : Prop where
  inv : InvD D
  free : Free D
  tails : OneTail n D.files
theorem calm_crash (h : InvD D) (n : List UInt8) : Calm n (crashD xb D keep noise) := ⟨h.crash, Free.crash D, fun f hf _ => crash_tails h f hf⟩
theorem fuse_free (h : Free D) : fuseD D (-1) = D := by
  have : max (-1 : Int) (-1) = D.fuse := by rw [h.fuse]; decide
  unfold fuseD; rw [this]
theorem Calm.delete (h : Calm n D) (m : List UInt8) : Calm n (deleteD D m).2 ∧ (deleteD D m).2.files = delF D.files m :=
  ⟨⟨h.inv.delete m, by rw [h.free.delete]; exact h.free.files _, by rw [h.free.delete]; exact del_tail h.tails m⟩, by rw [h.free.delete]⟩
/-- a text that is put into a file of one's own -/
theorem Calm.append (h : Calm n D) (hn : nameOK n = true) (x : List UInt8) : ((appendD D n x).1 = 0 ∧ Calm n (appendD D n x).2 ∧ getF (appendD D n x).2.files n = some (grown D.files n x) ∧ ∀ m, m ≠ n → getF (appendD D n x).2.files m = getF D.files m) ∨ (appendD D n x).1 = 6 ∨ (appendD D n x).1 = 11 := by
  rcases h.free.append hn x with ⟨h1, h2⟩ | ⟨h1, _⟩
  · refine .inl ⟨h1, ⟨h.inv.append n x, by rw [h2]; exact h.free.files _, by rw [h2]; exact put_tail h.inv.sorted h.tails (.inl grown_name)⟩, by rw [h2]; show getF (putF _ _) n = _; rw [get_put h.inv.sorted, if_pos grown_name.symm], fun m hm => by rw [h2]; show getF (putF _ _) m = _; rw [get_put h.inv.sorted, if_neg (by rw [grown_name]; exact hm)]⟩
  · exact .inr h1
theorem Calm.sync (h : Calm n D) (hg : getF D.files n = some f) : (syncD D n).1 = 0 ∧ Calm n (syncD D n).2 ∧ getF (syncD D n).2.files n = some ⟨n, f.bytes, f.bytes.length⟩ ∧ ∀ m, m ≠ n → getF (syncD D n).2.files m = getF D.files m := by
  have hi := h.inv.sync n
  rw [h.free.sync hg] at hi ⊢
  refine ⟨rfl, ⟨hi, h.free.files _, put_tail h.inv.sorted h.tails (.inr rfl)⟩, ?_, fun m hm => ?_⟩
  · show getF (putF _ _) n = _; rw [get_put h.inv.sorted, if_pos rfl]
  · show getF (putF _ _) m = _; rw [get_put h.inv.sorted, if_neg hm]
theorem Calm.rename (h : Calm n D) (hg : getF D.files n = some f) (ht : nameOK to = true) (hne : to ≠ n) : (renameD D n to).1 = 0 ∧ Calm to (renameD D n to).2 ∧ getF (renameD D n to).2.files to = some ⟨to, f.bytes, f.synced⟩ ∧ getF (renameD D n to).2.files n = none := by
  have hi := h.inv.rename n to
  have hd := del_sorted h.inv.sorted n
  rw [h.free.rename hg ht] at hi ⊢
  refine ⟨rfl, ⟨hi, h.free.files _, ?_⟩, ?_, ?_⟩
  · exact put_tail hd (fun g hg _ => h.tails g (mem_del.1 hg).1 (mem_del.1 hg).2) (.inl rfl)
  · show getF (putF _ _) to = _; rw [get_put hd, if_pos rfl]
  · show getF (putF _ _) n = _; rw [get_put hd, if_neg (show n ≠ to from fun e => hne e.symm), get_del, if_pos rfl]
theorem Calm.crash (h : Calm n D) (hg : getF D.files n = some f) : readD (crashD xb D keep noise) n = ((crash1 xb keep noise f).bytes, 0) :=
  (Free.crash D).read (crash_one h.inv.sorted h.tails hg)
end
end Go.Proofs.YtfcnjbkoneinpaaDoor
