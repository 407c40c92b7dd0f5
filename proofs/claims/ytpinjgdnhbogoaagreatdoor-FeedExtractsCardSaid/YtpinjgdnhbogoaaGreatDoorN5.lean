/- The walk of tree.Build. -/
import Derived.Test.YtpinjgdnhbogoaaGreatDoorN4
import Derived.Test.YtpinjgdnhbogoaaGreatDoorM0
import Derived.Test.YtpinjgdnhbogoaaGreatDoorM8
namespace Go.Proofs.YtpinjgdnhbogoaaGreatDoor
open Go.RowKit Go.Lib

theorem drop_nil {p : UInt8 → Bool} : ∀ {l : Str}, l.dropWhile p = [] ↔ l.all p = true
  | [] => by simp
  | x :: l => by
    rw [List.dropWhile_cons, List.all_cons]
    cases hx : p x
    · simp
    · simp only [if_pos, Bool.true_and]; exact drop_nil
theorem trims_nil (s : Str) : trimL (s.reverse.dropWhile blankC).reverse = [] ↔ s.all blankC = true := by
  unfold trimL
  rw [drop_nil, List.all_reverse]
  constructor
  · intro h
    have h2 : s.reverse.dropWhile blankC = [] := by
      cases hd : s.reverse.dropWhile blankC with
      | nil => rfl
      | cons x l =>
        have h1 := List.head?_dropWhile_not blankC s.reverse
        rw [hd] at h1 h
        simp at h1 h
        rw [h.1] at h1; cases h1
    rw [drop_nil, List.all_reverse] at h2
    exact h2
  · intro h
    have h2 : s.reverse.dropWhile blankC = [] := by rw [drop_nil, List.all_reverse]; exact h
    rw [h2]; rfl
def trimB (s : Str) : Str := trimL (s.reverse.dropWhile blankC).reverse
theorem trimB_nil (s : Str) : (trimB s = []) ↔ s.all blankC = true := trims_nil s
theorem trims_lib (s : Str) : Lib.trimS s [32, 9, 10, 13] = trimB s := by
  unfold Lib.trimS trimB Lib.trimRightS
  rw [trim_lib]
  congr 3
  funext c
  show List.contains [32, 9, 10, 13] c = blankC c
  unfold blankC
  simp only [List.contains_cons, List.contains_nil, Bool.or_false, Bool.or_assoc]
theorem trimB_h {s : Str} {w : World} (hs : s.length ≤ txM) : Calls Tryz.prog 67 #[.string (bs s), .string (bs [32, 9, 10, 13])] w fun e w' => e = .returned (.string (bs (trimB s))) ∧ Fr (fun _ => False) w w' := by
  have hC := Tryz.strings_Trim_laid (bs s) (bs [32, 9, 10, 13]) w (by rw [bs_size]; unfold txM at hs; omega) (by decide) ascii4
  rw [bs_data, bs_data, trims_lib] at hC
  exact hC.mono fun e w' h => ⟨h.1, fr_new h.2⟩
/-- the root, if there is one -/
def RootV (z : Nat) (v : Value) (W : World) : Option NodeD → Prop
  | none => v = .pointer none
  | some n => ∃ g c0 c1 c2 c3, v = .pointer (some ⟨g, 0, none⟩) ∧ z + 2 ≤ g ∧ W.heap[g]? = some (.cells #[c0, c1, c2, c3] 30 (0, 0)) ∧ NShape c0 c1 c2 c3 ∧ NodeV W (fun k => z + 2 ≤ k ∧ k < W.heap.size) n [c0, c1, c2, c3]
theorem RootV.fr {z : Nat} {v : Value} {W W' : World} {o : Option NodeD} (h : RootV z v W o) (hf : Fr (fun k => k = z + 1) W W') : RootV z v W' o := by
  cases o with
  | none => exact h
  | some n =>
    obtain ⟨g, c0, c1, c2, c3, h1, h2, h3, h4, h5⟩ := h
    exact ⟨g, c0, c1, c2, c3, h1, h2, hf.keep h3 (by omega), h4, NodeV.mono (fun k hk => ⟨hk.1, Nat.lt_of_lt_of_le hk.2 hf.size⟩) n (NodeV.fr hf (fun k hk e => by omega) n h5)⟩
structure BdIn (l0 : List TokD) (w0 : World) (S : Nat → Prop) (o : Option NodeD) (l lt : List TokD) (lv v5 : Value) (W : World) : Prop where
  eq : buildL l0 = buildG o l
  sub : ∀ x ∈ l, x ∈ l0
  len : l.length ≤ l0.length
  bld : W.heap[w0.heap.size + 1]? = some (.cells #[lv, .int .i64 0] 100 (0, 0))
  tok : TokV W S lv lt
  root : RootV w0.heap.size v5 W o
  fr : Fr (fun _ => False) w0 W
  rb : W.heap[w0.heap.size]? = some (.cells zeroNode 30 (0, 0))
  pos : w0.heap.size + 2 ≤ W.heap.size ∧ ∀ k, S k → k < w0.heap.size
/-- an error was noted -/
structure BdBad (l0 : List TokD) (w0 : World) (er : Int) (lv : Value) (W : World) : Prop where
  eq : buildL l0 = .error er
  bld : W.heap[w0.heap.size + 1]? = some (.cells #[lv, .int .i64 er] 100 (0, 0))
  fr : Fr (fun _ => False) w0 W
  rb : W.heap[w0.heap.size]? = some (.cells zeroNode 30 (0, 0))
theorem fr_one {z : Nat} {w0 W W' : World} (h : Fr (fun _ => False) w0 W) (hf : Fr (fun k => k = z) W W') (hz : w0.heap.size ≤ z) : Fr (fun _ => False) w0 W' := h.trans hf fun k e => .inr (by omega)
section
variable {l0 l lt : List TokD} {w0 : World} {S : Nat → Prop} {o : Option NodeD} {lv v5 : Value} {W w3 : World}
theorem BdIn.fr2 (h : BdIn l0 w0 S o l lt lv v5 W) (hf : Fr (fun _ => False) W w3) : BdIn l0 w0 S o l lt lv v5 w3 where
  eq := h.eq
  sub := h.sub
  len := h.len
  bld := hf.keep h.bld (fun h => h)
  tok := h.tok.fr hf fun _ _ h => h
  root := h.root.fr (hf.mono fun _ _ h => h.elim)
  fr := h.fr.trans hf fun _ h => h.elim
  rb := hf.keep h.rb (fun h => h)
  pos := ⟨Nat.le_trans h.pos.1 hf.size, h.pos.2⟩
theorem BdIn.next {lv2 : Value} {lt2 : List TokD} (h : BdIn l0 w0 S o l lt lv v5 W) (hf : Fr (fun k => k = w0.heap.size + 1) W w3) (hb : w3.heap[w0.heap.size + 1]? = some (.cells #[lv2, .int .i64 0] 100 (0, 0))) (ht : TokV w3 S lv2 lt2) : BdIn l0 w0 S o l lt2 lv2 v5 w3 where
  eq := h.eq
  sub := h.sub
  len := h.len
  bld := hb
  tok := ht
  root := h.root.fr hf
  fr := fr_one h.fr hf (by omega)
  rb := hf.keep h.rb (by omega)
  pos := ⟨Nat.le_trans h.pos.1 hf.size, h.pos.2⟩
theorem BdIn.blank {x : TokD} (h : BdIn l0 w0 S o (x :: l) lt lv v5 W) (hk : x.kind = 3) (hb : x.text.all blankC = true) : BdIn l0 w0 S o l lt lv v5 W where
  eq := by rw [h.eq, buildG_cons, if_pos ⟨hk, hb⟩]
  sub := fun y hy => h.sub y (List.mem_cons_of_mem _ hy)
  len := by have := h.len; simp at this; omega
  bld := h.bld
  tok := h.tok
  root := h.root
  fr := h.fr
  rb := h.rb
  pos := h.pos
theorem BdIn.bad {x : TokD} (h : BdIn l0 w0 S o (x :: l) lt lv v5 W) (hk : ¬ (x.kind = 3 ∧ x.text.all blankC = true)) (h1 : ¬ (x.kind = 1 ∧ o.isNone = true)) : BdBad l0 w0 8 lv (W.setCell ⟨w0.heap.size + 1, 1, none⟩ (.int .i64 8)) where
  eq := by rw [h.eq, buildG_cons, if_neg hk, if_neg h1]
  bld := block_set h.bld 1 _
  fr := fr_one h.fr (fr_set _ _ _ _) (by omega)
  rb := (fr_set W (w0.heap.size + 1) 1 (.int .i64 8)).keep h.rb (by omega)
theorem elemOut_zero (nm : Str) (la : List (Str × Str)) (l : List TokD) : elemOut 0 nm la l = elemL 0 nm la [] [] l := by unfold elemOut; rw [if_neg (by omega)]
theorem BdIn.elem {x : TokD} {n : NodeD} {r2 : List TokD} {w5 : World} {lv5 c0 c1 c2 c3 : Value} (h : BdIn l0 w0 S none (x :: l) lt lv v5 W) (hk : x.kind = 1) (he : elemOut 0 x.name x.attrs l = .ok (n, r2)) (hf : Fr (fun k => k = w0.heap.size + 1) W w5) (hb : w5.heap[w0.heap.size + 1]? = some (.cells #[lv5, .int .i64 0] 100 (0, 0))) (ht : TokV w5 S lv5 r2)
    (hs : NShape c0 c1 c2 c3) (hn : NodeV w5 (fun k => W.heap.size ≤ k ∧ k < w5.heap.size) n [c0, c1, c2, c3]) : BdIn l0 w0 S (some n) r2 r2 lv5 (.pointer (some ⟨w5.heap.size, 0, none⟩)) (w5.alloc (.cells #[c0, c1, c2, c3] 30)) := by
  have hr := elemOut_rest he
  have ha : Fr (fun _ => False) w5 (w5.alloc (.cells #[c0, c1, c2, c3] 30)) := (Fr.refl _ _).alloc _
  have hp := h.pos.1
  have hz := hf.size
  exact {
    eq := by rw [h.eq, buildG_cons, if_neg (by omega), if_pos ⟨hk, rfl⟩, ← elemOut_zero, he]
    sub := fun y hy => h.sub y (List.mem_cons_of_mem _ (hr.1 y hy))
    len := by have := h.len; simp at this; omega
    bld := ha.keep hb (fun h => h)
    tok := ht.fr ha fun _ _ h => h
    root := ⟨_, c0, c1, c2, c3, rfl, by omega, block_new _ _, hs, NodeV.mono (fun k hk => ⟨by omega, Nat.lt_of_lt_of_le hk.2 ha.size⟩) n (NodeV.fr ha (fun _ _ h => h) n hn)⟩
    fr := (fr_one h.fr hf (by omega)).trans ha fun _ h => h.elim
    rb := ha.keep (hf.keep h.rb (by omega)) (fun h => h)
    pos := ⟨Nat.le_trans h.pos.1 (Nat.le_trans hz ha.size), h.pos.2⟩ }
theorem BdIn.elemBad {x : TokD} {er : Int} {w5 : World} {lv5 c0 c1 c2 c3 : Value} (h : BdIn l0 w0 S none (x :: l) lt lv v5 W) (hk : x.kind = 1) (he : elemOut 0 x.name x.attrs l = .error er) (hf : Fr (fun k => k = w0.heap.size + 1) W w5) (hb : w5.heap[w0.heap.size + 1]? = some (.cells #[lv5, .int .i64 er] 100 (0, 0))) : BdBad l0 w0 er lv5 (w5.alloc (.cells #[c0, c1, c2, c3] 30)) := by
  have ha : Fr (fun _ => False) w5 (w5.alloc (.cells #[c0, c1, c2, c3] 30)) := (Fr.refl _ _).alloc _
  exact {
    eq := by rw [h.eq, buildG_cons, if_neg (by omega), if_pos ⟨hk, rfl⟩, ← elemOut_zero, he]
    bld := ha.keep hb (fun h => h)
    fr := (fr_one h.fr hf (by omega)).trans ha fun _ h => h.elim
    rb := ha.keep (hf.keep h.rb (by omega)) (fun h => h) }
end
def zeroD : NodeD := .mk [] [] [] []
theorem NodeV.zero (w : World) (S : Nat → Prop) : NodeV w S zeroD [.string ⟨#[]⟩, .slice none 0 0, .string ⟨#[]⟩, .slice none 0 0] := NodeV.intro (nm := []) (tx := []) (la := []) (ks := []) (xs := []) (SRow.nil _ _ _) (SRow.nil _ _ _) (KidsV.nil.2 rfl)
def BuildPost (l : List TokD) (w : World) (e : Ending) (w' : World) : Prop :=
  ∃ c0 c1 c2 c3 er, e = .returned (.tuple #[.agg #[c0, c1, c2, c3], .int .i64 er]) ∧ NShape c0 c1 c2 c3 ∧ Fr (fun _ => False) w w' ∧
    match buildL l with
    | .ok n => er = 0 ∧ NodeV w' (fun k => w.heap.size ≤ k ∧ k < w'.heap.size) n [c0, c1, c2, c3]
    | .error x => er = x ∧ NodeV w' (fun k => w.heap.size ≤ k ∧ k < w'.heap.size) zeroD [c0, c1, c2, c3]
def BdRel (l0 : List TokD) (w0 : World) (S : Nat → Prop) (v5 v6 v7 : Value) (j : Nat) (W : World) : Prop :=
  (∃ o lv, j = 1 ∧ BdIn l0 w0 S o [] [] lv v5 W ∧ v7 = .bool false) ∨
  (∃ o x r lv av tb, j = r.length + 2 ∧ BdIn l0 w0 S o (x :: r) r lv v5 W ∧ v7 = .bool true ∧ v6 = .pointer (some ⟨tb, 0, none⟩) ∧ w0.heap.size + 2 ≤ tb ∧ W.heap[tb]? = some (.cells #[.int .i64 x.kind, .string (bs x.name), av, .string (bs x.text)] 54 (0, 0)) ∧ SRow W S 2 av x.attrs.length (acells x.attrs))
end Go.Proofs.YtpinjgdnhbogoaaGreatDoor
