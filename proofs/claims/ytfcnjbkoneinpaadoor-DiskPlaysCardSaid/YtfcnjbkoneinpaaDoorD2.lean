/- A disk in plain words: what each call answers, and what becomes of the disk. -/
import Derived.Test.YtfcnjbkoneinpaaDoorD1
namespace Go.Proofs.YtfcnjbkoneinpaaDoor

structure DiskD where
  files : List FileD
  most : Int
  fuse : Int
  dead : Bool

def okByte (b : UInt8) : Bool := (decide (97 ≤ b.toNat) && decide (b.toNat ≤ 122)) || (decide (48 ≤ b.toNat) && decide (b.toNat ≤ 57))
def nameOK (n : List UInt8) : Bool := decide (1 ≤ n.length) && decide (n.length ≤ 24) && n.all okByte

structure InvD (D : DiskD) : Prop where
  sorted : Sorted D.files
  names : ∀ f ∈ D.files, nameOK f.name = true
  synced : ∀ f ∈ D.files, f.synced ≤ f.bytes.length
  full : (total D.files : Int) ≤ D.most
  most : D.most ≤ 10000000
  many : D.files.length ≤ 40
  fuse : -1 ≤ D.fuse ∧ D.fuse ≤ 9223372036854775807

def newD (most : Int) : DiskD := ⟨[], most, -1, false⟩
def turnD (D : DiskD) : Int × DiskD := if D.fuse = 0 then (7, { D with dead := true }) else (0, { D with fuse := max (D.fuse - 1) (-1) })
def setF (D : DiskD) (l : List FileD) : DiskD := { D with files := l }
def findD (D : DiskD) (n : List UInt8) : Int := if D.dead then 7 else if (getF D.files n).isSome then 0 else 4
/-- a turn, and then the files -/
def thenD (D : DiskD) (l : List FileD) : Int × DiskD := if (turnD D).1 = 0 then (0, setF (turnD D).2 l) else turnD D
def grown (l : List FileD) (n x : List UInt8) : FileD := match getF l n with | some f => ⟨n, f.bytes ++ x, f.synced⟩ | none => ⟨n, x, 0⟩
def appendD (D : DiskD) (n x : List UInt8) : Int × DiskD :=
  if D.dead then (7, D) else if nameOK n = false then (3, D) else if getF D.files n = none ∧ D.files.length = 40 then (11, D)
  else if D.most < (total D.files : Int) + x.length then (6, D) else thenD D (putF D.files (grown D.files n x))
def syncD (D : DiskD) (n : List UInt8) : Int × DiskD :=
  if D.dead then (7, D) else match getF D.files n with | none => (4, D) | some f => thenD D (putF D.files ⟨n, f.bytes, f.bytes.length⟩)
def truncD (D : DiskD) (n : List UInt8) (k : Int) : Int × DiskD :=
  if D.dead then (7, D) else match getF D.files n with | none => (4, D) | some f => if k < 0 ∨ (f.bytes.length : Int) < k then (2, D) else thenD D (putF D.files ⟨n, f.bytes.take k.toNat, min f.synced k.toNat⟩)
def renameD (D : DiskD) (n to : List UInt8) : Int × DiskD :=
  if D.dead then (7, D) else match getF D.files n with | none => (4, D) | some f => if nameOK to = false then (3, D) else thenD D (putF (delF D.files n) ⟨to, f.bytes, f.synced⟩)
def deleteD (D : DiskD) (n : List UInt8) : Int × DiskD :=
  if D.dead then (7, D) else match getF D.files n with | none => (4, D) | some _ => thenD D (delF D.files n)
def readD (D : DiskD) (n : List UInt8) : List UInt8 × Int :=
  if D.dead then ([], 7) else match getF D.files n with | none => ([], 4) | some f => (f.bytes, 0)
def fuseD (D : DiskD) (k : Int) : DiskD := { D with fuse := max k (-1) }
/-- a byte that noise has met: how the two are put together is left open -/
def nthD (l : List Int) (k : Nat) : Int := l.getD k 0
def keptD (f : FileD) (c : Int) : Nat := f.synced + (min (max c 0) ((f.bytes.length - f.synced : Nat) : Int)).toNat
def crashF (xb : UInt8 → Int → UInt8) (keep noise : List Int) (k : Nat) (f : FileD) : FileD :=
  let n := keptD f (nthD keep k)
  ⟨f.name, if f.synced < n then f.bytes.take (n - 1) ++ [xb (f.bytes.getD (n - 1) 0) (nthD noise k)] else f.bytes.take f.synced, n⟩
def crashL (xb : UInt8 → Int → UInt8) (keep noise : List Int) : Nat → List FileD → List FileD
  | _, [] => []
  | k, f :: t => if f.bytes.length = f.synced then f :: crashL xb keep noise k t else crashF xb keep noise k f :: crashL xb keep noise (k + 1) t
def crashD (xb : UInt8 → Int → UInt8) (D : DiskD) (keep noise : List Int) : DiskD := { D with files := crashL xb keep noise 0 D.files, fuse := -1, dead := false }

/-! ### what stays right -/
section
variable {D : DiskD} {l : List FileD} {n x to : List UInt8} {f : FileD}
theorem InvD.new {most : Int} (h0 : 0 ≤ most) (h1 : most ≤ 10000000) : InvD (newD most) :=
  ⟨List.Pairwise.nil, (fun _ h => by cases h), (fun _ h => by cases h), by simp [newD, total]; exact h0, h1, by simp [newD], by simp [newD]⟩
theorem InvD.turn (h : InvD D) : InvD (turnD D).2 := by
  unfold turnD
  have := h.fuse
  split
  · exact ⟨h.sorted, h.names, h.synced, h.full, h.most, h.many, h.fuse⟩
  · exact ⟨h.sorted, h.names, h.synced, h.full, h.most, h.many, by simp; omega⟩
theorem turn_files : (turnD D).2.files = D.files ∧ (turnD D).2.most = D.most := by unfold turnD; split <;> exact ⟨rfl, rfl⟩
theorem InvD.set (h : InvD D) (h1 : Sorted l) (h2 : ∀ f ∈ l, nameOK f.name = true) (h3 : ∀ f ∈ l, f.synced ≤ f.bytes.length) (h4 : (total l : Int) ≤ D.most) (h5 : l.length ≤ 40) : InvD (setF D l) :=
  ⟨h1, h2, h3, h4, h.most, h5, h.fuse⟩
theorem InvD.then (h : InvD D) (h1 : Sorted l) (h2 : ∀ f ∈ l, nameOK f.name = true) (h3 : ∀ f ∈ l, f.synced ≤ f.bytes.length) (h4 : (total l : Int) ≤ D.most) (h5 : l.length ≤ 40) : InvD (thenD D l).2 := by
  unfold thenD
  split
  · exact h.turn.set h1 h2 h3 (by rw [turn_files.2]; exact h4) h5
  · exact h.turn
theorem InvD.then_put (h : InvD D) (f : FileD) (hn : nameOK f.name = true) (hs : f.synced ≤ f.bytes.length) (ht : (f.bytes.length : Int) + total (delF D.files f.name) ≤ D.most) (hm : (delF D.files f.name).length < 40) : InvD (thenD D (putF D.files f)).2 := by
  refine h.then (put_sorted h.sorted f) (fun g hg => ?_) (fun g hg => ?_) (by rw [total_put h.sorted]; omega) (by rw [len_put h.sorted]; omega)
  · rcases (mem_put h.sorted).1 hg with rfl | ⟨k, _⟩; exact hn; exact h.names g k
  · rcases (mem_put h.sorted).1 hg with rfl | ⟨k, _⟩; exact hs; exact h.synced g k
theorem grown_name : (grown l n x).name = n := by unfold grown; split <;> rfl
theorem del_len_lt (h : InvD D) (hg : getF D.files n = some f) : (delF D.files n).length < 40 := by
  have := len_get h.sorted hg; have := h.many; omega
theorem InvD.append (h : InvD D) (n x : List UInt8) : InvD (appendD D n x).2 := by
  unfold appendD
  split
  · exact h
  split
  · exact h
  next hn =>
  split
  · exact h
  next hm =>
  split
  · exact h
  next hf =>
  have hn' : nameOK n = true := by simpa using hn
  cases hg : getF D.files n with
  | none =>
    have e : grown D.files n x = ⟨n, x, 0⟩ := by unfold grown; rw [hg]
    rw [e]
    have hd := del_none hg
    refine h.then_put _ hn' (Nat.zero_le _) ?_ ?_
    · show (x.length : Int) + total (delF D.files n) ≤ _; rw [hd]; omega
    · show (delF D.files n).length < 40; rw [hd]; have := h.many; by_cases e : D.files.length = 40; exact absurd ⟨hg, e⟩ hm; omega
  | some f =>
    have e : grown D.files n x = ⟨n, f.bytes ++ x, f.synced⟩ := by unfold grown; rw [hg]
    rw [e]
    have hgm := get_mem hg
    have ht := total_get h.sorted hg
    refine h.then_put _ hn' ?_ ?_ ?_
    · show f.synced ≤ (f.bytes ++ x).length; rw [List.length_append]; have := h.synced f hgm.1; omega
    · show ((f.bytes ++ x).length : Int) + total (delF D.files n) ≤ _; rw [List.length_append]; omega
    · exact del_len_lt h hg
theorem InvD.sync (h : InvD D) (n : List UInt8) : InvD (syncD D n).2 := by
  unfold syncD
  split
  · exact h
  cases hg : getF D.files n with
  | none => exact h
  | some f =>
    have hgm := get_mem hg
    have ht := total_get h.sorted hg
    have hfull := h.full
    refine h.then_put ⟨n, f.bytes, f.bytes.length⟩ (by rw [← hgm.2]; exact h.names f hgm.1) (Nat.le_refl _) ?_ (del_len_lt h hg)
    show (f.bytes.length : Int) + total (delF D.files n) ≤ _; omega
theorem InvD.trunc (h : InvD D) (n : List UInt8) (k : Int) : InvD (truncD D n k).2 := by
  unfold truncD
  split
  · exact h
  cases hg : getF D.files n with
  | none => exact h
  | some f =>
    dsimp only
    split
    · exact h
    have hgm := get_mem hg
    have ht := total_get h.sorted hg
    have hfull := h.full
    have hs := h.synced f hgm.1
    refine h.then_put ⟨n, f.bytes.take k.toNat, min f.synced k.toNat⟩ (by rw [← hgm.2]; exact h.names f hgm.1) ?_ ?_ (del_len_lt h hg)
    · show min f.synced k.toNat ≤ (f.bytes.take k.toNat).length; rw [List.length_take]; omega
    · show ((f.bytes.take k.toNat).length : Int) + total (delF D.files n) ≤ _; rw [List.length_take]; omega
theorem InvD.rename (h : InvD D) (n to : List UInt8) : InvD (renameD D n to).2 := by
  unfold renameD
  split
  · exact h
  cases hg : getF D.files n with
  | none => exact h
  | some f =>
    dsimp only
    split
    · exact h
    next hn =>
    have hgm := get_mem hg
    have ht := total_get h.sorted hg
    have hfull := h.full
    have hs := h.synced f hgm.1
    have hd := del_sorted h.sorted n
    have hl := del_len_lt h hg
    refine h.then (put_sorted hd _) (fun g hgm2 => ?_) (fun g hgm2 => ?_) ?_ ?_
    · rcases (mem_put hd).1 hgm2 with rfl | ⟨k, _⟩; simpa using hn; exact h.names g (mem_del.1 k).1
    · rcases (mem_put hd).1 hgm2 with rfl | ⟨k, _⟩; exact hs; exact h.synced g (mem_del.1 k).1
    · rw [total_put hd]; have := del_total_le (delF D.files n) to; show ((f.bytes.length + total (delF (delF D.files n) to) : Nat) : Int) ≤ _; omega
    · rw [len_put hd]; have := del_len_le (delF D.files n) to; show (delF (delF D.files n) to).length + 1 ≤ 40; omega
theorem InvD.delete (h : InvD D) (n : List UInt8) : InvD (deleteD D n).2 := by
  unfold deleteD
  split
  · exact h
  cases hg : getF D.files n with
  | none => exact h
  | some f =>
    have := del_total_le D.files n
    have := del_len_le D.files n
    have := h.full
    have := h.many
    exact h.then (del_sorted h.sorted n) (fun g k => h.names g (mem_del.1 k).1) (fun g k => h.synced g (mem_del.1 k).1) (by omega) (by omega)
theorem InvD.fused (h : InvD D) (k : Int) (hk : k ≤ 9223372036854775807) : InvD (fuseD D k) :=
  ⟨h.sorted, h.names, h.synced, h.full, h.most, h.many, by simp [fuseD]; omega⟩
variable {xb : UInt8 → Int → UInt8} {keep noise : List Int}
theorem kept_le (hf : f.synced ≤ f.bytes.length) (c : Int) : keptD f c ≤ f.bytes.length := by unfold keptD; omega
theorem crashF_len (hf : f.synced ≤ f.bytes.length) (k : Nat) : (crashF xb keep noise k f).bytes.length = keptD f (nthD keep k) ∧ (crashF xb keep noise k f).synced = keptD f (nthD keep k) ∧ (crashF xb keep noise k f).name = f.name := by
  refine ⟨?_, rfl, rfl⟩
  have h1 := kept_le hf (nthD keep k)
  have h2 : f.synced ≤ keptD f (nthD keep k) := by unfold keptD; omega
  unfold crashF
  dsimp only
  split
  · rw [List.length_append, List.length_take, List.length_singleton]; omega
  · rw [List.length_take]; omega
theorem crash_names : ∀ (l : List FileD) (k : Nat), (crashL xb keep noise k l).map (·.name) = l.map (·.name)
  | [], _ => rfl
  | f :: t, k => by
    unfold crashL
    split
    · rw [List.map_cons, List.map_cons, crash_names t k]
    · rw [List.map_cons, List.map_cons, crash_names t (k + 1)]; rfl
theorem sorted_names {a b : List FileD} (h : a.map (·.name) = b.map (·.name)) (hb : Sorted b) : Sorted a := by
  unfold Sorted at *
  have := List.pairwise_map (f := fun f : FileD => f.name) (R := fun x y : List UInt8 => x < y) (l := b)
  have h2 := List.pairwise_map (f := fun f : FileD => f.name) (R := fun x y : List UInt8 => x < y) (l := a)
  exact h2.1 (h ▸ this.2 hb)
theorem crash_all : ∀ (l : List FileD) (k : Nat), (∀ f ∈ l, f.synced ≤ f.bytes.length) → (∀ g ∈ crashL xb keep noise k l, g.synced = g.bytes.length) ∧ total (crashL xb keep noise k l) ≤ total l
  | [], _, _ => ⟨fun _ h => (by cases h), Nat.le_refl _⟩
  | f :: t, k, h => by
    have h1 := h f (List.mem_cons_self ..)
    have h2 := fun g hg => h g (List.mem_cons_of_mem _ hg)
    unfold crashL
    split
    · next e =>
      obtain ⟨k1, k2⟩ := crash_all t k h2
      refine ⟨fun g hg => ?_, by simp only [total_cons]; omega⟩
      rcases List.mem_cons.1 hg with rfl | hg
      · exact e.symm
      · exact k1 g hg
    · obtain ⟨k1, k2⟩ := crash_all t (k + 1) h2
      obtain ⟨c1, c2, c3⟩ := crashF_len (xb := xb) (keep := keep) (noise := noise) h1 k
      have := kept_le h1 (nthD keep k)
      refine ⟨fun g hg => ?_, by simp only [total_cons]; omega⟩
      rcases List.mem_cons.1 hg with rfl | hg
      · omega
      · exact k1 g hg
theorem InvD.crash (h : InvD D) : InvD (crashD xb D keep noise) := by
  have hn := crash_names (xb := xb) (keep := keep) (noise := noise) D.files 0
  obtain ⟨h1, h2⟩ := crash_all (xb := xb) (keep := keep) (noise := noise) D.files 0 h.synced
  have hfull := h.full
  refine ⟨sorted_names hn h.sorted, fun f hf => ?_, fun f hf => Nat.le_of_eq (h1 f hf), ?_, h.most, ?_, by simp [crashD]⟩
  · have : f.name ∈ (crashL xb keep noise 0 D.files).map (·.name) := List.mem_map.2 ⟨f, hf, rfl⟩
    rw [hn] at this
    obtain ⟨g, hg, e⟩ := List.mem_map.1 this
    rw [← e]; exact h.names g hg
  · show ((total (crashL xb keep noise 0 D.files) : Nat) : Int) ≤ D.most; omega
  · have := congrArg List.length hn
    rw [List.length_map, List.length_map] at this
    show (crashL xb keep noise 0 D.files).length ≤ 40
    rw [this]; exact h.many
end
end Go.Proofs.YtfcnjbkoneinpaaDoor
