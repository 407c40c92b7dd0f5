/- Saves in a row, one of which may be cut short: what stays, in plain words; bases that came in a row. -/
import Derived.Test.YtgmghopcppniaaaGreatDoorS26
import Derived.Test.YtgmghopcppniaaaGreatDoorKB
namespace Go.Proofs.YtgmghopcppniaaaGreatDoor
open Go.RowKit Go.Lib

theorem then_most (D : DiskD) (l : List FileD) : (thenD D l).2.most = D.most := by unfold thenD; split; exact turn_files.2; exact turn_files.2
theorem append_most (D : DiskD) (n x : Str) : (appendD D n x).2.most = D.most := by
  unfold appendD
  repeat' split
  all_goals first | rfl | exact then_most _ _
theorem sync_most (D : DiskD) (n : Str) : (syncD D n).2.most = D.most := by
  unfold syncD
  repeat' split
  all_goals first | rfl | exact then_most _ _
theorem rename_most (D : DiskD) (n m : Str) : (renameD D n m).2.most = D.most := by
  unfold renameD
  repeat' split
  all_goals first | rfl | exact then_most _ _
theorem delete_most (D : DiskD) (n : Str) : (deleteD D n).2.most = D.most := by
  unfold deleteD
  repeat' split
  all_goals first | rfl | exact then_most _ _
theorem pour_most : ∀ (l : List Str) (D : DiskD), (pourD l D).2.most = D.most
  | [], _ => rfl
  | p :: l, D => by
    unfold pourD
    split
    · exact append_most _ _ _
    · rw [pour_most l, append_most]
theorem write_most (D : DiskD) (b : BaseD) : (writeD D b).2.most = D.most := by
  unfold writeD
  repeat' split
  · exact pour_most _ _
  · rw [sync_most, pour_most]
  · rw [rename_most, sync_most, pour_most]
theorem wipe_most (i : Int) : ∀ (l : List Str) (D : DiskD), (wipeD i l D).2.most = D.most
  | [], _ => rfl
  | s :: l, D => by
    unfold wipeD
    split
    · split
      · exact delete_most _ _
      · rw [wipe_most i l, delete_most]
    · exact wipe_most i l D
theorem save_most (D : DiskD) (b : BaseD) : (saveD D b).2.most = D.most := by
  unfold saveD
  repeat' split
  · rfl
  · exact delete_most _ _
  · rw [delete_most, write_most, delete_most]
  · show (deleteD (writeD (deleteD D freshN).2 b).2 freshN).2.most = _
    rw [delete_most, write_most, delete_most]
  · rw [wipe_most, write_most, delete_most]

/-- what holds between two saves: the base saved last, and the one that may have come next -/
structure KeepSt (D : DiskD) (a n : BaseD) : Prop where
  sorted : Sorted D.files
  most : D.most ≤ 1000000
  live : D.dead = false → Alive D a ∧ n = a
  gone : Gone D.files a n
theorem KeepSt.start (k : Int) : KeepSt (fuseD (newD 100000) k) zeroB zeroB :=
  ⟨List.Pairwise.nil, (by decide : (100000 : Int) ≤ 1000000), fun _ => ⟨⟨fun _ h => (by cases h), .inl rfl⟩, rfl⟩, (Alive.gone (D := newD 100000) (Alive.new 100000) zeroB)⟩
theorem KeepSt.save0 {D : DiskD} {a n b : BaseD} (h : KeepSt D a n) (hd : D.dead = false) (h0 : (saveD D b).1 = 0) : KeepSt (saveD D b).2 b b := by
  obtain ⟨hs, h1⟩ := save_keeps (b := b) hd h.sorted (h.live hd).1
  rcases h1 with ⟨e, _⟩ | ⟨_, e, h2⟩ | ⟨e, _⟩
  · rw [h0] at e; cases e
  · exact ⟨hs, by rw [save_most]; exact h.most, fun _ => ⟨h2, rfl⟩, h2.gone b⟩
  · exact absurd h0 e
theorem KeepSt.save7 {D : DiskD} {a n b : BaseD} (h : KeepSt D a n) (hd : D.dead = false) (h0 : (saveD D b).1 = 7) : KeepSt (saveD D b).2 a b := by
  obtain ⟨hs, h1⟩ := save_keeps (b := b) hd h.sorted (h.live hd).1
  rcases h1 with ⟨_, e, h2⟩ | ⟨e, _⟩ | ⟨_, e, _⟩
  · exact ⟨hs, by rw [save_most]; exact h.most, (fun k => by rw [k] at e; cases e), h2⟩
  · rw [h0] at e; cases e
  · exact absurd h0 e
theorem KeepSt.saveN {D : DiskD} {a n b : BaseD} (h : KeepSt D a n) (hd : D.dead = false) (h0 : (saveD D b).1 ≠ 0) (h7 : (saveD D b).1 ≠ 7) : KeepSt (saveD D b).2 a a := by
  obtain ⟨hs, h1⟩ := save_keeps (b := b) hd h.sorted (h.live hd).1
  rcases h1 with ⟨e, _⟩ | ⟨e, _⟩ | ⟨_, _, _, h2⟩
  · exact absurd e h7
  · exact absurd e h0
  · exact ⟨hs, by rw [save_most]; exact h.most, fun _ => ⟨h2, rfl⟩, h2.gone a⟩
theorem KeepSt.fin {D : DiskD} {a n : BaseD} (h : KeepSt D a n) (xb : UInt8 → Int → UInt8) (keep noise : List Int) :
    ∃ x, loadD (crashD xb D keep noise) = ((x, decide (0 < x.index)), 0) ∧ (x = a ∨ x = n) ∧ (crashD xb D keep noise).most ≤ 1000000 := by
  obtain ⟨x, h1, h2⟩ := load_crash (xb := xb) (keep := keep) (noise := noise) h.sorted h.gone
  exact ⟨x, h1, h2, h.most⟩

/-! ### bases that came in a row -/
def cellsB (m : BaseD × Value) : List Value := [.int .i64 m.1.index, .int .i64 m.1.term, m.2, .string (bs m.1.data)]
structure BasesAt (w : World) (S : Nat → Prop) (v : Value) (l : List (BaseD × Value)) : Prop where
  form : ∃ a cap, v = .slice a l.length cap ∧ l.length ≤ cap ∧ cap ≤ 9223372036854775807 ∧ (0 < l.length → ∃ g off, a = some ⟨g, off, none⟩ ∧ S g ∧ ∀ i m j u, l[i]? = some m → (cellsB m)[j]? = some u → w.cell? ⟨g, off + i * 4 + j, none⟩ = some u)
  bases : ∀ m ∈ l, BaseRaw w S m.1 m.2
variable {w w' : World} {S : Nat → Prop} {v : Value} {l : List (BaseD × Value)}
theorem BaseRaw.fr {o : Nat → Prop} {b : BaseD} (h : BaseRaw w S b v) (hf : Fr o w w') (ho : ∀ k, S k → ¬ o k) : BaseRaw w' S b v := ⟨h.row.fr hf ho, h.nums, h.index, h.term, h.data⟩
theorem BasesAt.fr {o : Nat → Prop} (h : BasesAt w S v l) (hf : Fr o w w') (ho : ∀ k, S k → ¬ o k) : BasesAt w' S v l := by
  obtain ⟨⟨a, cap, h1, h2, h3, h4⟩, h5⟩ := h
  refine ⟨⟨a, cap, h1, h2, h3, fun hn => ?_⟩, fun m hm => (h5 m hm).fr hf ho⟩
  obtain ⟨g, off, e1, e2, e3⟩ := h4 hn
  exact ⟨g, off, e1, e2, fun i m j u hm hu => hf.cell (e3 i m j u hm hu) (ho g e2)⟩
theorem BasesAt.grow (h : BasesAt w S v l) (hf : Fr (fun _ => False) w w') : BasesAt w' S v l := h.fr hf fun _ _ h => h

/-! ### two boxes beside a disk -/
abbrev set4 (w : World) (k : Nat) (b : BaseD) (v : Value) : World := (((w.setCell ⟨k, 0, none⟩ (.int .i64 b.index)).setCell ⟨k, 1, none⟩ (.int .i64 b.term)).setCell ⟨k, 2, none⟩ v).setCell ⟨k, 3, none⟩ (.string (bs b.data))
theorem set4_fr (w : World) (k : Nat) (b : BaseD) (v : Value) : Fr (fun i => i = k) w (set4 w k b v) :=
  ((((Fr.refl (fun i => i = k) w).setCell (p := ⟨k, 0, none⟩) (.inl rfl) _).setCell (p := ⟨k, 1, none⟩) (.inl rfl) _).setCell (p := ⟨k, 2, none⟩) (.inl rfl) _).setCell (p := ⟨k, 3, none⟩) (.inl rfl) _
structure Sep (n pb mb B1 B2 : Nat) : Prop where
  p : n ≤ pb
  m : n ≤ mb
  b1 : n ≤ B1
  b2 : n ≤ B2
  ne : B1 ≠ B2
  p1 : pb ≠ B1
  p2 : pb ≠ B2
  m1 : mb ≠ B1
  m2 : mb ≠ B2
structure KBox (w : World) (pb mb B1 B2 : Nat) (D : DiskD) (a n : BaseD) (va vn : Value) (wr : World) : Prop where
  disk : DiskAt wr pb mb D
  box1 : wr.heap[B1]? = some (.cells #[.int .i64 a.index, .int .i64 a.term, va, .string (bs a.data)] 24 (0, 0))
  box2 : wr.heap[B2]? = some (.cells #[.int .i64 n.index, .int .i64 n.term, vn, .string (bs n.data)] 24 (0, 0))
  in1 : BaseIn wr (fun k => k < w.heap.size) a va
  in2 : BaseIn wr (fun k => k < w.heap.size) n vn
  fr : Fr (fun _ => False) w wr
variable {pb mb B1 B2 : Nat} {D D' : DiskD} {a n c : BaseD} {va vn vc : Value} {wr W : World}
theorem KBox.carry (h : KBox w pb mb B1 B2 D a n va vn wr) (hf : Fr (fun _ => False) wr W) : KBox w pb mb B1 B2 D a n va vn W :=
  ⟨h.disk.grow hf, hf.keep h.box1 (fun h => h), hf.keep h.box2 (fun h => h), h.in1.grow hf, h.in2.grow hf, h.fr.next hf⟩
theorem KBox.save (h : KBox w pb mb B1 B2 D a n va vn wr) (hs : Sep w.heap.size pb mb B1 B2) (hd : DiskAt W pb mb D') (hf : Fr (Own pb mb) wr W) : KBox w pb mb B1 B2 D' a n va vn W := by
  have h1 := hs.p; have h2 := hs.m
  have hlow : ∀ k, k < w.heap.size → ¬ Own pb mb k := fun k hk ho => by rcases ho with h | h <;> omega
  exact ⟨hd, hf.keep h.box1 (fun ho => by rcases ho with h | h; exact hs.p1 h.symm; exact hs.m1 h.symm), hf.keep h.box2 (fun ho => by rcases ho with h | h; exact hs.p2 h.symm; exact hs.m2 h.symm), h.in1.fr hf hlow, h.in2.fr hf hlow,
    h.fr.trans hf fun i hi => by rcases hi with h | h <;> exact .inr (by omega)⟩
theorem KBox.set1 (h : KBox w pb mb B1 B2 D a n va vn W) (hs : Sep w.heap.size pb mb B1 B2) (hc : BaseIn W (fun k => k < w.heap.size) c vc) : KBox w pb mb B1 B2 D c n vc vn (set4 W B1 c vc) ∧ BaseIn (set4 W B1 c vc) (fun k => k < w.heap.size) c vc := by
  have hf := set4_fr W B1 c vc
  have h1 := hs.b1
  have hlow : ∀ k, k < w.heap.size → ¬ k = B1 := fun k hk => by omega
  exact ⟨⟨h.disk.fr hf hs.p1 hs.m1, block_set4 h.box1, hf.keep h.box2 (fun h => hs.ne h.symm), hc.fr hf hlow, h.in2.fr hf hlow, fr_set4 h.fr hs.b1⟩, hc.fr hf hlow⟩
theorem KBox.set2 (h : KBox w pb mb B1 B2 D a n va vn W) (hs : Sep w.heap.size pb mb B1 B2) (hc : BaseIn W (fun k => k < w.heap.size) c vc) : KBox w pb mb B1 B2 D a c va vc (set4 W B2 c vc) ∧ BaseIn (set4 W B2 c vc) (fun k => k < w.heap.size) c vc := by
  have hf := set4_fr W B2 c vc
  have h1 := hs.b2
  have hlow : ∀ k, k < w.heap.size → ¬ k = B2 := fun k hk => by omega
  exact ⟨⟨h.disk.fr hf hs.p2 hs.m2, hf.keep h.box1 hs.ne, block_set4 h.box2, h.in1.fr hf hlow, hc.fr hf hlow, fr_set4 h.fr hs.b2⟩, hc.fr hf hlow⟩
end Go.Proofs.YtgmghopcppniaaaGreatDoor
