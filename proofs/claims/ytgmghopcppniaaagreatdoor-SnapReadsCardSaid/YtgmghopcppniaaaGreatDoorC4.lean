/- Layer 4 in plain words: snapshots saved on a disk, and loaded; what stays behind a crash (no program). -/
import Derived.Test.YtgmghopcppniaaaGreatDoorC3
import Derived.Test.YtgmghopcppniaaaGreatDoorD3
namespace Go.Proofs.YtgmghopcppniaaaGreatDoor

/-! ### names -/
def decHi (v : Nat) : Str := if v = 0 then [] else decHi (v / 10) ++ [UInt8.ofNat (48 + v % 10)]
termination_by v
decreasing_by omega
def decV (s : Str) : Nat := s.foldl (fun a c => a * 10 + (c.toNat - 48)) 0
theorem decHi_zero : decHi 0 = [] := by unfold decHi; rfl
theorem decHi_pos {v : Nat} (h : v ≠ 0) : decHi v = decHi (v / 10) ++ [UInt8.ofNat (48 + v % 10)] := by conv => lhs; unfold decHi; rw [if_neg h]
theorem decV_snoc (s : Str) (c : UInt8) : decV (s ++ [c]) = decV s * 10 + (c.toNat - 48) := by unfold decV; rw [List.foldl_append]; rfl
theorem decV_hi : ∀ (n v : Nat), v ≤ n → decV (decHi v) = v
  | n, 0, _ => by rw [decHi_zero]; rfl
  | 0, v + 1, h => by omega
  | n + 1, v + 1, h => by
    rw [decHi_pos (Nat.succ_ne_zero v), decV_snoc, decV_hi n _ (by omega), UInt8.toNat_ofNat']
    omega
theorem decHi_len : ∀ (k v : Nat), v < 10 ^ k → (decHi v).length ≤ k
  | 0, v, h => by
    have e : v = 0 := by simpa using h
    rw [e, decHi_zero]; exact Nat.le_refl _
  | k + 1, v, h => by
    by_cases e : v = 0
    · rw [e, decHi_zero]; exact Nat.zero_le _
    · rw [decHi_pos e, List.length_append, List.length_singleton]
      have := decHi_len k (v / 10) (by rw [Nat.pow_succ] at h; omega)
      omega
theorem decHi_digit : ∀ (n v : Nat), v ≤ n → ∀ c ∈ decHi v, 48 ≤ c.toNat ∧ c.toNat ≤ 57
  | n, 0, _, c, h => by rw [decHi_zero] at h; cases h
  | 0, v + 1, h, _, _ => by omega
  | n + 1, v + 1, h, c, hc => by
    rw [decHi_pos (Nat.succ_ne_zero v)] at hc
    rcases List.mem_append.1 hc with hc | hc
    · exact decHi_digit n _ (by omega) c hc
    · rw [List.mem_singleton] at hc
      rw [hc, UInt8.toNat_ofNat']
      omega
/-- a snapshot's file of a number -/
def nameS (n : Int) : Str := 112 :: decHi n.toNat
def freshN : Str := [116]
/-- the number that a file's name tells; 0: none -/
def idxD (s : Str) : Int := match s with
  | 112 :: t => if t.length ≤ 18 ∧ 0 < decV t ∧ decHi (decV t) = t then (decV t : Int) else 0
  | _ => 0
theorem idx_fresh : idxD freshN = 0 := rfl
theorem idx_name {n : Int} (h0 : 0 < n) (h1 : n ≤ 1099511627776) : idxD (nameS n) = n := by
  have h2 := decV_hi _ n.toNat (Nat.le_refl _)
  have h3 := decHi_len 18 n.toNat (by omega)
  show (if (decHi n.toNat).length ≤ 18 ∧ 0 < decV (decHi n.toNat) ∧ decHi (decV (decHi n.toNat)) = decHi n.toNat then ((decV (decHi n.toNat) : Nat) : Int) else 0) = n
  rw [h2, if_pos ⟨h3, by omega, rfl⟩]
  omega
theorem idx_back {s : Str} (h : idxD s ≠ 0) : 0 < idxD s ∧ s = nameS (idxD s) := by
  unfold idxD at h ⊢
  split at h
  · rename_i t
    split at h
    · rename_i h1
      rw [if_pos h1]
      refine ⟨by omega, ?_⟩
      unfold nameS
      rw [Int.toNat_natCast, h1.2.2]
    · exact absurd rfl h
  · exact absurd rfl h
theorem idx_nonneg (s : Str) : 0 ≤ idxD s := by
  by_cases h : idxD s = 0
  · omega
  · have := (idx_back h).1; omega
theorem name_ok {n : Int} (h0 : 0 < n) (h1 : n ≤ 1099511627776) : nameOK (nameS n) = true := by
  have h3 := decHi_len 18 n.toNat (by omega)
  have h4 := decHi_digit _ n.toNat (Nat.le_refl _)
  unfold nameOK nameS
  simp only [Bool.and_eq_true, decide_eq_true_eq, List.length_cons, List.all_cons]
  refine ⟨⟨by omega, by omega⟩, by decide, ?_⟩
  rw [List.all_eq_true]
  intro c hc
  have := h4 c hc
  unfold okByte
  simp only [Bool.or_eq_true, Bool.and_eq_true, decide_eq_true_eq]
  exact .inr this

/-! ### saved -/
def namesL (l : List FileD) : List Str := l.map (·.name)
def pourD : List Str → DiskD → Int × DiskD
  | [], D => (0, D)
  | p :: l, D => if (appendD D freshN (frameL p)).1 ≠ 0 then appendD D freshN (frameL p) else pourD l (appendD D freshN (frameL p)).2
def writeD (D : DiskD) (b : BaseD) : Int × DiskD :=
  if (pourD (payloadsL b) D).1 ≠ 0 then pourD (payloadsL b) D
  else if (syncD (pourD (payloadsL b) D).2 freshN).1 ≠ 0 then syncD (pourD (payloadsL b) D).2 freshN
  else renameD (syncD (pourD (payloadsL b) D).2 freshN).2 freshN (nameS b.index)
def wipeD (i : Int) : List Str → DiskD → Int × DiskD
  | [], D => (0, D)
  | s :: l, D => if 0 < idxD s ∧ idxD s ≠ i then (if (deleteD D s).1 ≠ 0 then deleteD D s else wipeD i l (deleteD D s).2) else wipeD i l D
def saveD (D : DiskD) (b : BaseD) : Int × DiskD :=
  if rightB b = false then (1, D)
  else if (deleteD D freshN).1 = 7 then deleteD D freshN
  else if (writeD (deleteD D freshN).2 b).1 ≠ 0 then
    (if (deleteD (writeD (deleteD D freshN).2 b).2 freshN).1 = 7 then deleteD (writeD (deleteD D freshN).2 b).2 freshN
      else ((writeD (deleteD D freshN).2 b).1, (deleteD (writeD (deleteD D freshN).2 b).2 freshN).2))
  else wipeD b.index (namesL (writeD (deleteD D freshN).2 b).2.files) (writeD (deleteD D freshN).2 b).2
/-! ### loaded -/
def zeroB : BaseD := ⟨0, 0, [], []⟩
def betterD (D : DiskD) (best : BaseD) (s : Str) : BaseD :=
  if idxD s ≤ best.index then best else match unpackL (readD D s).1 with
    | .ok b => if b.index = idxD s then b else best
    | .error _ => best
def bestD (D : DiskD) : BaseD := (namesL D.files).foldl (betterD D) zeroB
def loadD (D : DiskD) : (BaseD × Bool) × Int := if D.dead = true then ((zeroB, false), 7) else ((bestD D, decide (0 < (bestD D).index)), 0)

/-! ### what stays -/
def fileS (b : BaseD) : FileD := ⟨nameS b.index, packL b, (packL b).length⟩
/-- the snapshots among the files are as they were -/
def SameS (l m : List FileD) : Prop := ∀ f : FileD, 0 < idxD f.name → (f ∈ m ↔ f ∈ l)
theorem SameS.refl (l : List FileD) : SameS l l := fun _ _ => Iff.rfl
theorem SameS.trans {a b c : List FileD} (h : SameS a b) (k : SameS b c) : SameS a c := fun f hf => (k f hf).trans (h f hf)
theorem same_put {l : List FileD} {g : FileD} (hs : Sorted l) (hg : idxD g.name = 0) : SameS l (putF l g) := fun f hf => by
  rw [mem_put hs]
  constructor
  · rintro (rfl | h)
    · omega
    · exact h.1
  · exact fun h => .inr ⟨h, fun e => by rw [e] at hf; omega⟩
theorem same_del {l : List FileD} {n : Str} (hn : idxD n = 0) : SameS l (delF l n) := fun f hf => by
  rw [mem_del]
  exact ⟨fun h => h.1, fun h => ⟨h, fun e => by rw [e] at hf; omega⟩⟩
/-- how a call that touches no snapshot ends -/
structure Ends (D : DiskD) (p : Int × DiskD) : Prop where
  same : SameS D.files p.2.files
  sorted : Sorted p.2.files
  dead : p.1 = 7 ↔ p.2.dead = true
section
variable {D : DiskD} {l : List FileD} {n : Str} {p : Int × DiskD}
theorem ends_of (hd : D.dead = false) (hs : Sorted D.files) (h : Turned D l p) (hl : p.1 = 0 → SameS D.files l ∧ Sorted l) : Ends D p := by
  rcases h with ⟨h, _⟩ | ⟨_, h, h0, h7⟩ | ⟨_, _, rfl⟩ | ⟨_, _, rfl⟩
  · rw [hd] at h; cases h
  · rw [show p = (p.1, D) from by rw [← h]]
    exact ⟨SameS.refl _, hs, ⟨fun e => absurd e h7, fun e => by rw [hd] at e; cases e⟩⟩
  · exact ⟨SameS.refl _, hs, ⟨fun _ => rfl, fun _ => rfl⟩⟩
  · exact ⟨(hl rfl).1, (hl rfl).2, ⟨fun e => absurd (show (0 : Int) = 7 from e) (by decide), fun e => by rw [show ({ D with files := l, fuse := max (D.fuse - 1) (-1) } : DiskD).dead = D.dead from rfl, hd] at e; cases e⟩⟩
theorem Ends.trans {q : Int × DiskD} (h : Ends D p) (k : Ends p.2 q) : Ends D q := ⟨h.same.trans k.same, k.sorted, k.dead⟩
theorem Ends.alive (h : Ends D p) (h7 : p.1 ≠ 7) : p.2.dead = false := by
  cases hd : p.2.dead with
  | false => rfl
  | true => exact absurd (h.dead.2 hd) h7
theorem append_ends (hd : D.dead = false) (hs : Sorted D.files) (x : Str) : Ends D (appendD D freshN x) :=
  ends_of hd hs (turned_append D freshN x) fun _ => ⟨same_put hs (by rw [grown_name]; rfl), put_sorted hs _⟩
theorem delete_ends (hd : D.dead = false) (hs : Sorted D.files) : Ends D (deleteD D freshN) :=
  ends_of hd hs (turned_delete D freshN) fun _ => ⟨same_del rfl, del_sorted hs _⟩
theorem sync_ends (hd : D.dead = false) (hs : Sorted D.files) : Ends D (syncD D freshN) := by
  obtain ⟨l, h1, h2, h3⟩ := turned_sync D freshN
  refine ends_of hd hs h3 fun h0 => ?_
  cases hg : getF D.files freshN with
  | none => exact absurd h0 (h2 hg)
  | some f => rw [h1 f hg]; exact ⟨same_put hs rfl, put_sorted hs _⟩
/-- what the file that is being written has -/
def Has (D : DiskD) (x : Str) : Prop := (x = [] ∧ getF D.files freshN = none) ∨ ∃ f, getF D.files freshN = some f ∧ f.bytes = x
theorem append_has (hd : D.dead = false) (hs : Sorted D.files) {x y : Str} (h : Has D x) (h0 : (appendD D freshN y).1 = 0) : ∃ f, getF (appendD D freshN y).2.files freshN = some f ∧ f.bytes = x ++ y := by
  rcases turned_append D freshN y with ⟨h, _⟩ | ⟨_, _, h1, _⟩ | ⟨_, _, h1⟩ | ⟨_, _, h1⟩
  · rw [hd] at h; cases h
  · exact absurd h0 h1
  · rw [h1] at h0; cases h0
  · rw [h1]
    refine ⟨grown D.files freshN y, ?_, ?_⟩
    · show getF (putF D.files (grown D.files freshN y)) freshN = _
      rw [get_put hs, if_pos grown_name.symm]
    · unfold grown
      rcases h with ⟨rfl, hg⟩ | ⟨f, hg, rfl⟩
      · rw [hg]; rfl
      · rw [hg]
theorem pour_ends : ∀ (ps : List Str) (D : DiskD), D.dead = false → Sorted D.files → Ends D (pourD ps D)
  | [], D, hd, hs => ⟨SameS.refl _, hs, ⟨fun e => absurd e (by decide : (0 : Int) ≠ 7), fun e => by rw [show (pourD [] D).2.dead = D.dead from rfl, hd] at e; cases e⟩⟩
  | p :: ps, D, hd, hs => by
    have h1 := append_ends hd hs (frameL p)
    unfold pourD
    split
    · exact h1
    · rename_i h0
      exact h1.trans (pour_ends ps _ (h1.alive (by omega)) h1.sorted)
theorem pour_has : ∀ (ps : List Str) (D : DiskD) (x : Str), D.dead = false → Sorted D.files → Has D x → (pourD ps D).1 = 0 → Has (pourD ps D).2 (x ++ ps.flatMap frameL)
  | [], D, x, _, _, h, _ => by
    rw [List.flatMap_nil, List.append_nil]; exact h
  | p :: ps, D, x, hd, hs, h, h0 => by
    have h1 := append_ends hd hs (frameL p)
    unfold pourD at h0 ⊢
    split at h0
    · exact absurd h0 (by assumption)
    · rename_i h2
      have h2' : (appendD D freshN (frameL p)).1 = 0 := by omega
      rw [if_neg h2]
      have h3 := pour_has ps _ (x ++ frameL p) (h1.alive (by omega)) h1.sorted (.inr (append_has hd hs h h2')) h0
      rwa [List.append_assoc] at h3
end

/-! ### Keeps -/
/-- a snapshot among the files is one of these two -/
def OneOf (l : List FileD) (a b : BaseD) : Prop := ∀ f ∈ l, 0 < idxD f.name → (f = fileS a ∧ rightB a = true) ∨ (f = fileS b ∧ rightB b = true)
structure Alive (D : DiskD) (a : BaseD) : Prop where
  one : OneOf D.files a a
  has : a = zeroB ∨ (rightB a = true ∧ fileS a ∈ D.files)
structure Gone (l : List FileD) (a b : BaseD) : Prop where
  one : OneOf l a b
  has : a = zeroB ∨ (rightB a = true ∧ fileS a ∈ l) ∨ (rightB b = true ∧ fileS b ∈ l)
theorem Alive.gone {D : DiskD} {a : BaseD} (h : Alive D a) (b : BaseD) : Gone D.files a b :=
  ⟨fun f hf hi => by rcases h.one f hf hi with h | h <;> exact .inl h, h.has.elim .inl fun h => .inr (.inl h)⟩
theorem idx_file {b : BaseD} (h : rightB b = true) : idxD (fileS b).name = b.index := by
  obtain ⟨_, h1, h2, _⟩ := right_parts h
  exact idx_name h1 h2
theorem Alive.same {D E : DiskD} {a : BaseD} (h : Alive D a) (hs : SameS D.files E.files) : Alive E a := by
  refine ⟨fun f hf hi => h.one f ((hs f hi).1 hf) hi, ?_⟩
  rcases h.has with h1 | ⟨h1, h2⟩
  · exact .inl h1
  · refine .inr ⟨h1, (hs _ ?_).2 h2⟩
    rw [idx_file h1]; exact (right_parts h1).2.1
/-- a snapshot of another number is deleted -/
theorem delete_old {D : DiskD} {s : Str} (hd : D.dead = false) (hm : ∃ f ∈ D.files, f.name = s) (hs : Sorted D.files) : (deleteD D s = (7, { D with dead := true })) ∨ ((deleteD D s).1 = 0 ∧ (deleteD D s).2.files = delF D.files s ∧ (deleteD D s).2.dead = false) := by
  obtain ⟨f, h1, h2⟩ := hm
  have hg := get_of_mem hs h1 h2
  have e : deleteD D s = thenD D (delF D.files s) := by
    unfold deleteD
    rw [if_neg (by rw [hd]; decide), hg]
  rw [e]
  rcases turned_then hd (delF D.files s) with ⟨h, _⟩ | ⟨_, _, h0, h7⟩ | ⟨_, _, h⟩ | ⟨_, _, h⟩
  · rw [hd] at h; cases h
  · exfalso
    unfold thenD turnD at h0 h7
    by_cases hf : D.fuse = 0
    · simp [hf] at h7
    · simp [hf] at h0
  · exact .inl h
  · rw [h]; exact .inr ⟨rfl, rfl, hd⟩
theorem wipe_keeps (a b : BaseD) (hb : rightB b = true) : ∀ (ss : List Str) (D : DiskD), D.dead = false → Sorted D.files → OneOf D.files a b → fileS b ∈ D.files → (∀ s ∈ ss, ∃ f ∈ D.files, f.name = s) → ss.Nodup →
    ((wipeD b.index ss D).1 = 7 ∧ (wipeD b.index ss D).2.dead = true ∧ Gone (wipeD b.index ss D).2.files a b ∧ Sorted (wipeD b.index ss D).2.files) ∨
    ((wipeD b.index ss D).1 = 0 ∧ (wipeD b.index ss D).2.dead = false ∧ Sorted (wipeD b.index ss D).2.files ∧ fileS b ∈ (wipeD b.index ss D).2.files ∧ (∀ f ∈ (wipeD b.index ss D).2.files, f ∈ D.files ∧ (0 < idxD f.name → idxD f.name ≠ b.index → f.name ∉ ss)))
  | [], D, hd, hs, _, hf, _, _ => .inr ⟨rfl, hd, hs, hf, fun f hf => ⟨hf, fun _ _ h => by cases h⟩⟩
  | s :: ss, D, hd, hs, ho, hf, hm, hn => by
    have hn2 := List.nodup_cons.1 hn
    unfold wipeD
    by_cases hc : 0 < idxD s ∧ idxD s ≠ b.index
    · rw [if_pos hc]
      rcases delete_old hd (hm s (List.mem_cons_self ..)) hs with h | ⟨h0, h1, h2⟩
      · rw [h, if_pos (by decide : (7 : Int) ≠ 0)]
        exact .inl ⟨rfl, rfl, ⟨ho, .inr (.inr ⟨hb, hf⟩)⟩, hs⟩
      · rw [if_neg (by omega)]
        have hfb : fileS b ∈ (deleteD D s).2.files := by
          rw [h1, mem_del]
          refine ⟨hf, fun e => hc.2 ?_⟩
          rw [← e]; exact idx_file hb
        rcases wipe_keeps a b hb ss (deleteD D s).2 h2 (by rw [h1]; exact del_sorted hs s) (fun f hf => ho f (by rw [h1] at hf; exact (mem_del.1 hf).1)) hfb (fun x hx => by
          obtain ⟨f, k1, k2⟩ := hm x (List.mem_cons_of_mem _ hx)
          exact ⟨f, by rw [h1, mem_del]; exact ⟨k1, fun e => hn2.1 (by rw [← e, k2]; exact hx)⟩, k2⟩) hn2.2 with h | ⟨k1, k2, k3, k4, k5⟩
        · exact .inl h
        · refine .inr ⟨k1, k2, k3, k4, fun f hf => ?_⟩
          obtain ⟨k6, k7⟩ := k5 f hf
          rw [h1, mem_del] at k6
          refine ⟨k6.1, fun i1 i2 hx => ?_⟩
          rcases List.mem_cons.1 hx with e | hx
          · exact k6.2 e
          · exact k7 i1 i2 hx
    · rw [if_neg hc]
      rcases wipe_keeps a b hb ss D hd hs ho hf (fun x hx => hm x (List.mem_cons_of_mem _ hx)) hn2.2 with h | ⟨k1, k2, k3, k4, k5⟩
      · exact .inl h
      · refine .inr ⟨k1, k2, k3, k4, fun f hf => ?_⟩
        obtain ⟨k6, k7⟩ := k5 f hf
        refine ⟨k6, fun i1 i2 hx => ?_⟩
        rcases List.mem_cons.1 hx with e | hx
        · exact hc ⟨by rw [← e]; exact i1, by rw [← e]; exact i2⟩
        · exact k7 i1 i2 hx
/-- how a save ends -/
def SaveEnd (a b : BaseD) (r : Int × DiskD) : Prop :=
  Sorted r.2.files ∧ ((r.1 = 7 ∧ r.2.dead = true ∧ Gone r.2.files a b) ∨ (r.1 = 0 ∧ r.2.dead = false ∧ Alive r.2 b) ∨ (r.1 ≠ 0 ∧ r.1 ≠ 7 ∧ r.2.dead = false ∧ Alive r.2 a))
theorem save_keeps {D : DiskD} {a b : BaseD} (hd : D.dead = false) (hs : Sorted D.files) (ha : Alive D a) : SaveEnd a b (saveD D b) := by
  unfold saveD
  by_cases hr : rightB b = false
  · rw [if_pos hr]
    exact ⟨hs, .inr (.inr ⟨(by decide : (1 : Int) ≠ 0), (by decide : (1 : Int) ≠ 7), hd, ha⟩)⟩
  rw [if_neg hr]
  have hrb : rightB b = true := by simpa using hr
  have e1 := delete_ends hd hs
  by_cases h7 : (deleteD D freshN).1 = 7
  · rw [if_pos h7]
    exact ⟨e1.sorted, .inl ⟨h7, e1.dead.1 h7, (ha.same e1.same).gone b⟩⟩
  rw [if_neg h7]
  have hd1 := e1.alive h7
  have ha1 := ha.same e1.same
  have hn1 : getF (deleteD D freshN).2.files freshN = none := by
    cases hg : getF D.files freshN with
    | none =>
      have : deleteD D freshN = (4, D) := by unfold deleteD; rw [if_neg (by rw [hd]; decide), hg]
      rw [this]; exact hg
    | some f =>
      rcases delete_old hd ⟨f, (get_mem hg).1, (get_mem hg).2⟩ hs with h | ⟨_, h1, _⟩
      · rw [h] at h7; exact absurd rfl h7
      · rw [h1, get_del, if_pos rfl]
  obtain ⟨E, hE⟩ : ∃ E, (deleteD D freshN).2 = E := ⟨_, rfl⟩
  have hs1 := e1.sorted
  rw [hE] at hd1 ha1 hn1 hs1 ⊢
  clear e1 h7 ha hs hd hE
  have e2 := pour_ends (payloadsL b) E hd1 hs1
  -- a write that fails
  have fail : ∀ {q : Int × DiskD}, Ends E q → q.1 ≠ 0 → writeD E b = q → SaveEnd a b (if (writeD E b).1 ≠ 0 then (if (deleteD (writeD E b).2 freshN).1 = 7 then deleteD (writeD E b).2 freshN else ((writeD E b).1, (deleteD (writeD E b).2 freshN).2)) else wipeD b.index (namesL (writeD E b).2.files) (writeD E b).2) := fun {q} hq h0 hw => by
    rw [hw, if_pos h0]
    by_cases hd7 : q.1 = 7
    · have hqd := hq.dead.1 hd7
      have : deleteD q.2 freshN = (7, q.2) := by unfold deleteD; rw [if_pos hqd]
      rw [this, if_pos rfl]
      exact ⟨hq.sorted, .inl ⟨rfl, hqd, (ha1.same hq.same).gone b⟩⟩
    · have hqd := hq.alive hd7
      have e3 := hq.trans (delete_ends hqd hq.sorted)
      by_cases h8 : (deleteD q.2 freshN).1 = 7
      · rw [if_pos h8]
        exact ⟨e3.sorted, .inl ⟨h8, e3.dead.1 h8, (ha1.same e3.same).gone b⟩⟩
      · rw [if_neg h8]
        exact ⟨e3.sorted, .inr (.inr ⟨h0, hd7, e3.alive h8, ha1.same e3.same⟩)⟩
  by_cases h1 : (pourD (payloadsL b) E).1 ≠ 0
  · exact fail e2 h1 (by unfold writeD; rw [if_pos h1])
  have h1' : (pourD (payloadsL b) E).1 = 0 := by omega
  have hd2 := e2.alive (by omega)
  have hp := pour_has (payloadsL b) E [] hd1 hs1 (.inl ⟨rfl, hn1⟩) h1'
  rw [List.nil_append] at hp
  have e3 := sync_ends hd2 e2.sorted
  by_cases h2 : (syncD (pourD (payloadsL b) E).2 freshN).1 ≠ 0
  · exact fail (e2.trans e3) h2 (by unfold writeD; rw [if_neg h1, if_pos h2])
  have h2' : (syncD (pourD (payloadsL b) E).2 freshN).1 = 0 := by omega
  have hd3 := e3.alive (by omega)
  have hw : writeD E b = renameD (syncD (pourD (payloadsL b) E).2 freshN).2 freshN (nameS b.index) := by unfold writeD; rw [if_neg h1, if_neg h2]
  have hg3 : getF (syncD (pourD (payloadsL b) E).2 freshN).2.files freshN = some ⟨freshN, packL b, (packL b).length⟩ := by
    rcases hp with ⟨h, _⟩ | ⟨f, hg, hb⟩
    · exfalso
      have := congrArg List.length h
      unfold payloadsL at this
      rw [List.flatMap_cons, List.length_append, frame_len, List.length_nil] at this
      omega
    · obtain ⟨l, k1, k2, k3⟩ := turned_sync (pourD (payloadsL b) E).2 freshN
      have hl := k1 f hg
      rcases k3 with ⟨h, _⟩ | ⟨_, _, h0, _⟩ | ⟨_, _, h⟩ | ⟨_, _, h⟩
      · rw [hd2] at h; cases h
      · exact absurd h2' h0
      · rw [h] at h2'; cases h2'
      · rw [h]
        show getF l freshN = _
        rw [hl, get_put e2.sorted, if_pos rfl, hb]
        rfl
  obtain ⟨F, hF⟩ : ∃ F, (syncD (pourD (payloadsL b) E).2 freshN).2 = F := ⟨_, rfl⟩
  have e4 := e2.trans e3
  have hs3 := e4.sorted
  have ha3 := ha1.same e4.same
  rw [hF] at hd3 hg3 hw hs3 ha3
  clear hF h1 h2 h1' h2' hp e2 e3 hd2
  obtain ⟨_, i1, i2, _⟩ := right_parts hrb
  have hren : renameD F freshN (nameS b.index) = thenD F (putF (delF F.files freshN) (fileS b)) := by
    unfold renameD
    rw [if_neg (by rw [hd3]; decide), hg3]
    dsimp only
    rw [if_neg (by rw [name_ok i1 i2]; decide)]
    rfl
  rw [hren] at hw
  rcases turned_then hd3 (putF (delF F.files freshN) (fileS b)) with ⟨h, _⟩ | ⟨_, _, h0, h7⟩ | ⟨_, _, h⟩ | ⟨_, _, h⟩
  · rw [hd3] at h; cases h
  · exfalso
    unfold thenD turnD at h0 h7
    by_cases hf : F.fuse = 0
    · simp [hf] at h7
    · simp [hf] at h0
  · rw [h] at hw
    rw [hw, if_pos (by decide : (7 : Int) ≠ 0)]
    have : deleteD ({ F with dead := true } : DiskD) freshN = (7, { F with dead := true }) := by unfold deleteD; rw [if_pos rfl]
    rw [this, if_pos rfl]
    exact ⟨hs3, .inl ⟨rfl, rfl, ha3.gone b⟩⟩
  · rw [h] at hw
    rw [hw, if_neg (by simp)]
    dsimp only
    have hs4 : Sorted (putF (delF F.files freshN) (fileS b)) := put_sorted (del_sorted hs3 _) _
    have hm4 := fun f => mem_put (g := f) (f := fileS b) (del_sorted hs3 freshN)
    have hone : OneOf (putF (delF F.files freshN) (fileS b)) a b := fun f hf hi => by
      rcases (hm4 f).1 hf with e | ⟨hf, _⟩
      · exact .inr ⟨e, hrb⟩
      · rcases ha3.one f (mem_del.1 hf).1 hi with k | k <;> exact .inl k
    have hfb : fileS b ∈ putF (delF F.files freshN) (fileS b) := (hm4 _).2 (.inl rfl)
    have hnd : (namesL (putF (delF F.files freshN) (fileS b))).Nodup := by
      unfold namesL List.Nodup
      rw [List.pairwise_map]
      exact hs4.imp fun h => str_lt_ne h
    rcases wipe_keeps a b hrb (namesL (putF (delF F.files freshN) (fileS b))) { F with files := putF (delF F.files freshN) (fileS b), fuse := max (F.fuse - 1) (-1) } hd3 hs4 hone hfb (fun s hs => by
        obtain ⟨f, k1, k2⟩ := List.mem_map.1 hs
        exact ⟨f, k1, k2⟩) hnd with ⟨k1, k2, k3, k4⟩ | ⟨k1, k2, k3, k4, k5⟩
    · exact ⟨k4, .inl ⟨k1, k2, k3⟩⟩
    · refine ⟨k3, .inr (.inl ⟨k1, k2, ⟨fun f hf hi => ?_, .inr ⟨hrb, k4⟩⟩⟩)⟩
      obtain ⟨k6, k7⟩ := k5 f hf
      have hx : idxD f.name = b.index := by
        by_cases e : idxD f.name = b.index
        · exact e
        · exact absurd (List.mem_map.2 ⟨f, k6, rfl⟩) (k7 hi e)
      have hnm : f.name = nameS b.index := by rw [← hx]; exact (idx_back (by omega)).2
      rcases (hm4 f).1 k6 with e | ⟨_, e⟩
      · exact .inl ⟨e, hrb⟩
      · exact absurd hnm e
/-! ### Load -/
theorem read_file {D : DiskD} {f : FileD} (hd : D.dead = false) (hs : Sorted D.files) (hf : f ∈ D.files) : (readD D f.name).1 = f.bytes := by
  unfold readD
  rw [if_neg (by rw [hd]; decide), get_of_mem hs hf rfl]
theorem better_ok {D : DiskD} {best b : BaseD} {s : Str} (h : unpackL (readD D s).1 = .ok b) (hi : b.index = idxD s) : betterD D best s = if b.index ≤ best.index then best else b := by
  unfold betterD
  rw [h, ← hi]
  dsimp only
  rw [if_pos rfl]
theorem unpack_file {b : BaseD} (hr : rightB b = true) : unpackL (packL b) = .ok b := by
  have h := unpack_pack hr []
  rw [List.append_nil, if_pos rfl] at h
  exact h
theorem better_file {D : DiskD} {best b : BaseD} (hd : D.dead = false) (hs : Sorted D.files) (hf : fileS b ∈ D.files) (hr : rightB b = true) : betterD D best (fileS b).name = if b.index ≤ best.index then best else b :=
  better_ok (by rw [read_file hd hs hf]; exact unpack_file hr) (idx_file hr).symm
theorem better_none {D : DiskD} {best : BaseD} {s : Str} (h : idxD s = 0) (hb : 0 ≤ best.index) : betterD D best s = best := by
  unfold betterD; rw [if_pos (by omega)]
/-- of two snapshots that are all there are, one is told -/
theorem best_one {D : DiskD} {a b : BaseD} (hd : D.dead = false) (hs : Sorted D.files) (h : Gone D.files a b) : bestD D = a ∨ bestD D = b := by
  have key : ∀ (l : List FileD), (∀ f ∈ l, f ∈ D.files) → ∀ best : BaseD, (best = zeroB ∨ (best = a ∧ rightB a = true) ∨ (best = b ∧ rightB b = true)) →
      ∃ x, (namesL l).foldl (betterD D) best = x ∧ (x = zeroB ∨ (x = a ∧ rightB a = true) ∨ (x = b ∧ rightB b = true)) ∧ best.index ≤ x.index ∧ ∀ c, rightB c = true → fileS c ∈ l → c.index ≤ x.index := by
    intro l
    induction l with
    | nil => intro _ best hb; exact ⟨_, rfl, hb, Int.le_refl _, fun _ _ h => by cases h⟩
    | cons f l ih =>
      intro hl best hb
      have hfm := hl f (List.mem_cons_self ..)
      have h0 : 0 ≤ best.index := by
        rcases hb with rfl | ⟨rfl, hr⟩ | ⟨rfl, hr⟩
        · exact Int.le_refl _
        · have := (right_parts hr).2.1; omega
        · have := (right_parts hr).2.1; omega
      have step : ∃ y, betterD D best f.name = y ∧ (y = zeroB ∨ (y = a ∧ rightB a = true) ∨ (y = b ∧ rightB b = true)) ∧ best.index ≤ y.index ∧ ∀ c, rightB c = true → fileS c = f → c.index ≤ y.index := by
        by_cases hi : idxD f.name = 0
        · refine ⟨best, better_none hi h0, hb, Int.le_refl _, fun c hc e => ?_⟩
          have h1 := idx_file hc
          rw [e] at h1
          have := (right_parts hc).2.1
          omega
        · have hp := (idx_back hi).1
          have two : ∀ d, f = fileS d → rightB d = true → (d = a ∨ d = b) → ∃ y, betterD D best f.name = y ∧ (y = zeroB ∨ (y = a ∧ rightB a = true) ∨ (y = b ∧ rightB b = true)) ∧ best.index ≤ y.index ∧ ∀ c, rightB c = true → fileS c = f → c.index ≤ y.index := by
            intro d e hr hd2
            subst e
            have hcd : ∀ c, rightB c = true → fileS c = fileS d → c.index = d.index := fun c hc e => by rw [← idx_file hc, ← idx_file hr, e]
            rw [better_file hd hs hfm hr]
            by_cases hle : d.index ≤ best.index
            · rw [if_pos hle]
              exact ⟨best, rfl, hb, Int.le_refl _, fun c hc e => by rw [hcd c hc e]; exact hle⟩
            · rw [if_neg hle]
              refine ⟨d, rfl, ?_, by omega, fun c hc e => by rw [hcd c hc e]; exact Int.le_refl _⟩
              rcases hd2 with rfl | rfl
              · exact .inr (.inl ⟨rfl, hr⟩)
              · exact .inr (.inr ⟨rfl, hr⟩)
          rcases h.one f hfm hp with ⟨e, hr⟩ | ⟨e, hr⟩
          · exact two a e hr (.inl rfl)
          · exact two b e hr (.inr rfl)
      obtain ⟨y, y1, y2, y3, y4⟩ := step
      obtain ⟨x, x1, x2, x3, x4⟩ := ih (fun f hf => hl f (List.mem_cons_of_mem _ hf)) y y2
      refine ⟨x, ?_, x2, by omega, fun c hc hm => ?_⟩
      · show (namesL l).foldl (betterD D) (betterD D best f.name) = x
        rw [y1]; exact x1
      · rcases List.mem_cons.1 hm with e | hm
        · have := y4 c hc e; omega
        · exact x4 c hc hm
  obtain ⟨x, h1, h2, _, h4⟩ := key D.files (fun _ h => h) zeroB (.inl rfl)
  show (namesL D.files).foldl (betterD D) zeroB = a ∨ _
  rw [show bestD D = x from h1, h1]
  rcases h2 with rfl | ⟨e, _⟩ | ⟨e, _⟩
  · rcases h.has with e | ⟨hr, hm⟩ | ⟨hr, hm⟩
    · exact .inl e.symm
    · have := h4 a hr hm
      have h5 := (right_parts hr).2.1
      exact absurd (show zeroB.index = 0 from rfl) (by omega)
    · have := h4 b hr hm
      have h5 := (right_parts hr).2.1
      exact absurd (show zeroB.index = 0 from rfl) (by omega)
  · exact .inl e
  · exact .inr e
/-! ### the crash -/
theorem crash_back {xb : UInt8 → Int → UInt8} {keep noise : List Int} : ∀ (l : List FileD) (k : Nat) {g : FileD}, g ∈ crashL xb keep noise k l → ∃ f ∈ l, g.name = f.name ∧ (f.bytes.length = f.synced → g = f)
  | [], _, _, h => by cases h
  | f :: t, k, g, h => by
    unfold crashL at h
    split at h
    · rcases List.mem_cons.1 h with rfl | h
      · exact ⟨g, List.mem_cons_self .., rfl, fun _ => rfl⟩
      · obtain ⟨f2, h1, h2⟩ := crash_back t k h
        exact ⟨f2, List.mem_cons_of_mem _ h1, h2⟩
    · rename_i hne
      rcases List.mem_cons.1 h with rfl | h
      · exact ⟨f, List.mem_cons_self .., rfl, fun e => absurd e hne⟩
      · obtain ⟨f2, h1, h2⟩ := crash_back t (k + 1) h
        exact ⟨f2, List.mem_cons_of_mem _ h1, h2⟩
theorem crash_mem {xb : UInt8 → Int → UInt8} {keep noise : List Int} : ∀ (l : List FileD) (k : Nat) {f : FileD}, f ∈ l → f.bytes.length = f.synced → f ∈ crashL xb keep noise k l
  | [], _, _, h, _ => by cases h
  | g :: t, k, f, h, e => by
    unfold crashL
    rcases List.mem_cons.1 h with rfl | h
    · rw [if_pos e]; exact List.mem_cons_self ..
    · split
      · exact List.mem_cons_of_mem _ (crash_mem t k h e)
      · exact List.mem_cons_of_mem _ (crash_mem t (k + 1) h e)
theorem Gone.crash {xb : UInt8 → Int → UInt8} {keep noise : List Int} {D : DiskD} {a b : BaseD} (h : Gone D.files a b) : Gone (crashD xb D keep noise).files a b := by
  refine ⟨fun g hg hi => ?_, ?_⟩
  · obtain ⟨f, h1, h2, h3⟩ := crash_back D.files 0 hg
    rw [h2] at hi
    rcases h.one f h1 hi with ⟨e, hr⟩ | ⟨e, hr⟩
    · exact .inl ⟨by rw [h3 (by rw [e]; rfl), e], hr⟩
    · exact .inr ⟨by rw [h3 (by rw [e]; rfl), e], hr⟩
  · rcases h.has with e | ⟨hr, hm⟩ | ⟨hr, hm⟩
    · exact .inl e
    · exact .inr (.inl ⟨hr, crash_mem D.files 0 hm rfl⟩)
    · exact .inr (.inr ⟨hr, crash_mem D.files 0 hm rfl⟩)
/-- behind a crash what is loaded is the one or the other -/
theorem load_crash {xb : UInt8 → Int → UInt8} {keep noise : List Int} {D : DiskD} {a b : BaseD} (hs : Sorted D.files) (h : Gone D.files a b) :
    ∃ x, loadD (crashD xb D keep noise) = ((x, decide (0 < x.index)), 0) ∧ (x = a ∨ x = b) :=
  ⟨bestD (crashD xb D keep noise), by unfold loadD; rw [if_neg (by simp [crashD])], best_one rfl (sorted_names (crash_names D.files 0) hs) h.crash⟩
theorem Alive.new (most : Int) : Alive (newD most) zeroB := ⟨fun _ h => (by cases h), .inl rfl⟩
end Go.Proofs.YtgmghopcppniaaaGreatDoor
