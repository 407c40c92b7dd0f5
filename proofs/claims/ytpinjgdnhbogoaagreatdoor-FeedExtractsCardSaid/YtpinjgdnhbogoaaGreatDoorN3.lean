/- Trees in memory. -/
import Derived.Test.YtpinjgdnhbogoaaGreatDoorM7
import Derived.Test.YtpinjgdnhbogoaaGreatDoorM0
import Derived.WalkSpells
namespace Go.Proofs.YtpinjgdnhbogoaaGreatDoor
open Go.RowKit Go.Lib

mutual
/-- four cells that are an element, whatever it leads to lying in blocks of S -/
def NodeV (w : World) (S : Nat → Prop) : NodeD → List Value → Prop
  | .mk nm la tx ks, cs => ∃ av kv xs, cs = [.string (bs nm), av, .string (bs tx), kv] ∧ SRow w S 2 av la.length (acells la) ∧ SRow w S 4 kv ks.length xs ∧ KidsV w S ks xs
def KidsV (w : World) (S : Nat → Prop) : List NodeD → List Value → Prop
  | [], xs => xs = []
  | k :: ks, xs => ∃ ys zs, xs = ys ++ zs ∧ NodeV w S k ys ∧ KidsV w S ks zs
end
theorem NodeV.parts {w : World} {S : Nat → Prop} {n : NodeD} {cs : List Value} (h : NodeV w S n cs) : ∃ av kv xs, cs = [.string (bs n.name), av, .string (bs n.text), kv] ∧ SRow w S 2 av n.attrs.length (acells n.attrs) ∧ SRow w S 4 kv n.kids.length xs ∧ KidsV w S n.kids xs := by
  cases n with
  | mk a b c d => unfold NodeV at h; exact h
theorem NodeV.intro {w : World} {S : Nat → Prop} {nm tx : Str} {la : List (Str × Str)} {ks : List NodeD} {av kv : Value} {xs : List Value} (h1 : SRow w S 2 av la.length (acells la)) (h2 : SRow w S 4 kv ks.length xs) (h3 : KidsV w S ks xs) : NodeV w S (.mk nm la tx ks) [.string (bs nm), av, .string (bs tx), kv] := by
  unfold NodeV; exact ⟨_, _, _, rfl, h1, h2, h3⟩
mutual
theorem NodeV.fr {w w' : World} {S o : Nat → Prop} (hf : Fr o w w') (ho : ∀ k, S k → ¬ o k) : ∀ (n : NodeD) {cs : List Value}, NodeV w S n cs → NodeV w' S n cs
  | .mk nm la tx ks, cs, h => by
    unfold NodeV at h ⊢
    obtain ⟨av, kv, xs, h1, h2, h3, h4⟩ := h
    exact ⟨av, kv, xs, h1, h2.fr hf ho, h3.fr hf ho, KidsV.fr hf ho ks h4⟩
theorem KidsV.fr {w w' : World} {S o : Nat → Prop} (hf : Fr o w w') (ho : ∀ k, S k → ¬ o k) : ∀ (ks : List NodeD) {xs : List Value}, KidsV w S ks xs → KidsV w' S ks xs
  | [], xs, h => by unfold KidsV at h ⊢; exact h
  | k :: ks, xs, h => by
    unfold KidsV at h ⊢
    obtain ⟨ys, zs, h1, h2, h3⟩ := h
    exact ⟨ys, zs, h1, NodeV.fr hf ho k h2, KidsV.fr hf ho ks h3⟩
end
mutual
theorem NodeV.mono {w : World} {S S' : Nat → Prop} (hs : ∀ k, S k → S' k) : ∀ (n : NodeD) {cs : List Value}, NodeV w S n cs → NodeV w S' n cs
  | .mk nm la tx ks, cs, h => by
    unfold NodeV at h ⊢
    obtain ⟨av, kv, xs, h1, h2, h3, h4⟩ := h
    exact ⟨av, kv, xs, h1, h2.mono hs, h3.mono hs, KidsV.mono hs ks h4⟩
theorem KidsV.mono {w : World} {S S' : Nat → Prop} (hs : ∀ k, S k → S' k) : ∀ (ks : List NodeD) {xs : List Value}, KidsV w S ks xs → KidsV w S' ks xs
  | [], xs, h => by unfold KidsV at h ⊢; exact h
  | k :: ks, xs, h => by
    unfold KidsV at h ⊢
    obtain ⟨ys, zs, h1, h2, h3⟩ := h
    exact ⟨ys, zs, h1, NodeV.mono hs k h2, KidsV.mono hs ks h3⟩
end
theorem SRow.one {w : World} {S : Nat → Prop} {size n : Nat} {v : Value} {xs : List Value} (h : SRow w S size v n xs) : v.oneCell' = true := by
  obtain ⟨_, a, c, rfl, _⟩ := h; rfl
theorem NodeV.len {w : World} {S : Nat → Prop} {n : NodeD} {cs : List Value} (h : NodeV w S n cs) : cs.length = 4 := by
  obtain ⟨_, _, _, rfl, _⟩ := h.parts; rfl
theorem NodeV.one {w : World} {S : Nat → Prop} {n : NodeD} {cs : List Value} (h : NodeV w S n cs) : ∀ u ∈ cs, u.oneCell' = true := by
  obtain ⟨av, kv, xs, rfl, h1, h2, _⟩ := h.parts
  intro u hu
  simp at hu
  rcases hu with rfl | rfl | rfl | rfl
  · rfl
  · exact h1.one
  · rfl
  · exact h2.one
theorem KidsV.cons {w : World} {S : Nat → Prop} {k : NodeD} {ks : List NodeD} {xs : List Value} : KidsV w S (k :: ks) xs ↔ ∃ ys zs, xs = ys ++ zs ∧ NodeV w S k ys ∧ KidsV w S ks zs := by
  conv => lhs; unfold KidsV
theorem KidsV.nil {w : World} {S : Nat → Prop} {xs : List Value} : KidsV w S [] xs ↔ xs = [] := by
  conv => lhs; unfold KidsV
theorem KidsV.len {w : World} {S : Nat → Prop} : ∀ {ks : List NodeD} {xs : List Value}, KidsV w S ks xs → xs.length = ks.length * 4
  | [], xs, h => by rw [KidsV.nil.1 h]; rfl
  | k :: ks, xs, h => by
    obtain ⟨ys, zs, rfl, h1, h2⟩ := KidsV.cons.1 h
    rw [List.length_append, h1.len, h2.len, List.length_cons]; omega
theorem KidsV.one {w : World} {S : Nat → Prop} : ∀ {ks : List NodeD} {xs : List Value}, KidsV w S ks xs → ∀ u ∈ xs, u.oneCell' = true
  | [], xs, h => by rw [KidsV.nil.1 h]; intro u hu; cases hu
  | k :: ks, xs, h => by
    obtain ⟨ys, zs, rfl, h1, h2⟩ := KidsV.cons.1 h
    intro u hu
    rcases List.mem_append.1 hu with hu | hu
    · exact h1.one u hu
    · exact h2.one u hu
theorem KidsV.snoc {w : World} {S : Nat → Prop} {n : NodeD} {cs : List Value} (hn : NodeV w S n cs) : ∀ {ks : List NodeD} {xs : List Value}, KidsV w S ks xs → KidsV w S (ks ++ [n]) (xs ++ cs)
  | [], xs, h => by
    rw [KidsV.nil.1 h]
    exact KidsV.cons.2 ⟨cs, [], by simp, hn, KidsV.nil.2 rfl⟩
  | k :: ks, xs, h => by
    obtain ⟨ys, zs, rfl, h1, h2⟩ := KidsV.cons.1 h
    exact KidsV.cons.2 ⟨ys, zs ++ cs, by simp, h1, KidsV.snoc hn h2⟩
/-- one of the kids -/
theorem KidsV.at {w : World} {S : Nat → Prop} : ∀ {ks : List NodeD} {xs : List Value} {i : Nat} {k : NodeD}, KidsV w S ks xs → ks[i]? = some k → ∃ ys, NodeV w S k ys ∧ ∀ j u, ys[j]? = some u → xs[i * 4 + j]? = some u
  | [], _, _, _, _, h => by simp at h
  | k0 :: ks, xs, 0, k, hk, h => by
    simp at h; subst h
    obtain ⟨ys, zs, rfl, h1, h2⟩ := KidsV.cons.1 hk
    refine ⟨ys, h1, fun j u hu => ?_⟩
    rw [Nat.zero_mul, Nat.zero_add, List.getElem?_append_left (by
      rcases Nat.lt_or_ge j ys.length with h | h
      · exact h
      · rw [List.getElem?_eq_none h] at hu; cases hu)]
    exact hu
  | k0 :: ks, xs, i + 1, k, hk, h => by
    obtain ⟨ys, zs, rfl, h1, h2⟩ := KidsV.cons.1 hk
    obtain ⟨cs, h3, h4⟩ := KidsV.at h2 (i := i) (by simpa using h)
    refine ⟨cs, h3, fun j u hu => ?_⟩
    rw [List.getElem?_append_right (by rw [h1.len]; omega), h1.len, show (i + 1) * 4 + j - 4 = i * 4 + j by omega]
    exact h4 j u hu
end Go.Proofs.YtpinjgdnhbogoaaGreatDoor

/- slices.Clone of attributes; the builder's next token. -/
namespace Go.Proofs.YtpinjgdnhbogoaaGreatDoor
open Go.RowKit Go.Lib

def ClonePost (l : List (Str × Str)) (w : World) (e : Ending) (w' : World) : Prop :=
  ∃ v', e = .returned v' ∧ SRow w' (fun k => w.heap.size ≤ k ∧ k < w'.heap.size) 2 v' l.length (acells l) ∧ Fr (fun _ => False) w w'
set_option maxRecDepth 100000 in
set_option maxHeartbeats 4000000 in
theorem clone_h {w : World} {S : Nat → Prop} {v : Value} {l : List (Str × Str)} (hv : SRow w S 2 v l.length (acells l)) (hl : l.length ≤ 1000000) :
    Calls Tryz.prog 73 #[v] w (ClonePost l w) := by
  obtain ⟨_, a, cap, rfl, hnc, hcm, hnone, _⟩ := id hv
  obtain ⟨i0, hi0, hz0, hz1, hz2⟩ := info_parts info64
  cases a with
  | none =>
    have hc0 := hnone rfl
    have hl0 : l = [] := List.eq_nil_of_length_eq_zero (by omega)
    subst hl0 hc0
    have hq : ∀ w : World, (binOp .eql 27 (.slice none 0 0) (.slice none 0 0)).run Tryz.prog w = .ok (.bool true) w := fun w => run_eql_nil_slice w 27 64 none 0 0 0 0 (by kernel_rfl)
    show Calls Tryz.prog 73 #[.slice none 0 0] w _
    clear hv hnone hnc hcm
    go_enter Tryz.func73, Tryz.ntmps73
    go_wp2_with fail
    go_ret
    exact ⟨_, rfl, SRow.nil _ _ _, Fr.refl _ _⟩
  | some p =>
    have hq : ∀ w : World, (binOp .eql 27 (.slice (some p) l.length cap) (.slice none 0 0)).run Tryz.prog w = .ok (.bool false) w := fun w => Lib.run_eql_slice_nil w 27 64 (some p) l.length cap 0 0 (by kernel_rfl)
    have HV := Lib.hid hv
    have HA : Hid (Fr (fun _ => False) w (w.alloc (.cells #[] 64))) := (Fr.refl _ _).alloc _
    have H0 : Hid ((w.alloc (.cells #[] 64)).ownsRow w.heap.size 64 2 (.slice (some ⟨w.heap.size, 0, none⟩) 0 0) 0 []) := ownsRow_empty (block_new _ _) (Nat.le_refl _)
    clear hv hnone
    go_enter Tryz.func73, Tryz.ntmps73
    go_wp2_with (at_builtin; refine wpList_append_row rfl (.tmp 5) (.tmp 6) 27 rfl w.heap.size 64 i0 (.agg #[.string ⟨#[]⟩, .string ⟨#[]⟩]) 2 32 Tryz.underlying27 hi0 hz0 hz1 hz2 rfl (by decide) (.slice (some ⟨w.heap.size, 0, none⟩) 0 0) 0 [] rfl H0.out S _ l.length (acells l) rfl (HV.out.fr HA.out fun _ _ h => h) acells_one (by unfold maxLen; omega) (by omega) (by simp) ?_; intro b7 cap7 w7 hown7 hgrow7 hfr7; rw [Nat.zero_add, List.nil_append] at hown7; have HR := Lib.hid ((SRow.of_owns hown7).mono fun k hk => hown7.lt k hk); have HF := Lib.hid (fr_to_base ((HA.out.mono (o2 := fun k => w.heap.size ≤ k) fun _ _ h => h.elim).next hfr7) (Nat.le_refl _)); clear hown7 hgrow7 hfr7)
    go_ret
    exact ⟨_, rfl, HR.out, HF.out⟩

/-- tokens, but the first -/
theorem TokV.rest {w : World} {S : Nat → Prop} {a : Option Addr} {cap : Nat} {x : TokD} {l : List TokD} (_h : TokV w S (.slice a (x :: l).length cap) (x :: l)) : ∃ a2 c2,
    (∀ w : World, (Instr.slice 22 (.slice a (x :: l).length cap) (some (.int .i64 1)) none none).run Tryz.prog w = .ok (.slice a2 l.length c2) w) ∧ ∀ {W : World} {S' : Nat → Prop}, TokV W S' (.slice a (x :: l).length cap) (x :: l) → TokV W S' (.slice a2 l.length c2) l := by
  obtain ⟨a2, c2, h1, h2⟩ := tail_run (a := a) (len := (x :: l).length) (cap := cap) (k := 1) (i := 1) rfl (by simp)
  rw [show (x :: l).length - 1 = l.length by simp] at h1 h2
  refine ⟨a2, c2, h1, fun {W S'} hv => ?_⟩
  obtain ⟨ps, e, hr, ha⟩ := hv
  have hl : ps.length = (x :: l).length := by rw [← e, List.length_map]
  rw [hl] at hr
  have := h2 hr
  rw [tcells_drop] at this
  refine ⟨ps.drop 1, by rw [List.map_drop, e]; rfl, ?_, fun p hp => ha p (List.mem_of_mem_drop hp)⟩
  rw [List.length_drop, hl, show (x :: l).length - 1 = l.length by simp]
  exact this
theorem fr_set (w : World) (b i : Nat) (v : Value) : Fr (fun k => k = b) w (w.setCell ⟨b, i, none⟩ v) := Fr.setCell (o := fun k => k = b) (p := ⟨b, i, none⟩) (Fr.refl _ _) (.inl rfl) v
def zeroTok : Array Value := #[.int .i64 0, .string ⟨#[]⟩, .slice none 0 0, .string ⟨#[]⟩]
def NextPost (b : Nat) (S : Nat → Prop) (er : Int) (l : List TokD) (w : World) (e : Ending) (w' : World) : Prop :=
  Fr (fun k => k = b) w w' ∧ match l with
  | [] => e = .returned (.tuple #[.agg zeroTok, .bool false]) ∧ ∃ lv, w'.heap[b]? = some (.cells #[lv, .int .i64 er] 100 (0, 0)) ∧ TokV w' S lv []
  | x :: r => ∃ av lv, e = .returned (.tuple #[.agg #[.int .i64 x.kind, .string (bs x.name), av, .string (bs x.text)], .bool true]) ∧ SRow w' S 2 av x.attrs.length (acells x.attrs) ∧ w'.heap[b]? = some (.cells #[lv, .int .i64 er] 100 (0, 0)) ∧ TokV w' S lv r
set_option maxRecDepth 100000 in
set_option maxHeartbeats 8000000 in
theorem next_h {w : World} {b : Nat} {S : Nat → Prop} {lv : Value} {er : Int} {l : List TokD} (hb : w.heap[b]? = some (.cells #[lv, .int .i64 er] 100 (0, 0))) (hv : TokV w S lv l) (hS : ∀ k, S k → k ≠ b) :
    Calls Tryz.prog 66 #[.pointer (some ⟨b, 0, none⟩)] w (NextPost b S er l w) := by
  have c0 := cell_of hb (i := 0) (v := lv) rfl
  have c1 := cell_of hb (i := 1) (v := .int .i64 er) rfl
  have f0 := free_of 0 hb
  have hlt := lt_of_block hb
  obtain ⟨a, cap, rfl, hnc, hcm, hel⟩ := hv.elems
  have HB := Lib.hid hb
  have HV := Lib.hid hv
  cases l with
  | nil =>
    have hl0 : ([] : List TokD).length = 0 := rfl
    rw [hl0] at c0
    clear hb hv hel hl0
    go_enter Tryz.func66, Tryz.ntmps66
    go_wp2_with fail
    have hz := block_new w (.cells zeroTok 54)
    have e0 := cell_of hz (i := 0) (v := .int .i64 0) rfl
    have e1 := cell_of hz (i := 1) (v := .string ⟨#[]⟩) rfl
    have e2 := cell_of hz (i := 2) (v := .slice none 0 0) rfl
    have e3 := cell_of hz (i := 3) (v := .string ⟨#[]⟩) rfl
    unfold zeroTok at e0 e1 e2 e3
    refine bodyPost_ret (v := .tuple #[.agg #[.int .i64 0, .string ⟨#[]⟩, .slice none 0 0, .string ⟨#[]⟩], .bool false]) (by simp [results, Tryz.results66, go_sem, e0, e1, e2, e3] <;> rfl) rfl ?_
    exact ⟨(Fr.refl _ _).alloc _, rfl, _, block_old HB.out _, HV.out.fr ((Fr.refl (fun _ => False) _).alloc _) fun _ _ h => h⟩
  | cons x r =>
    obtain ⟨g, off, rfl, hel2⟩ := hel (by simp)
    obtain ⟨av, a0, a1, a2, a3, ar⟩ := hel2 0 x rfl
    obtain ⟨_, aa, acap, rfl, _, _, _, _⟩ := id ar
    simp only [Nat.zero_mul, Nat.add_zero] at a0 a1 a2 a3
    obtain ⟨a5, c5, hsl, hrest⟩ := hv.rest
    have HR := Lib.hid (hrest hv)
    have HAr := Lib.hid ar
    obtain ⟨n, hn⟩ : ∃ n, (x :: r).length = n := ⟨_, rfl⟩
    have hpos : 0 < n := by rw [← hn]; simp
    rw [hn] at c0 hsl HB HV hnc
    have t0 : ((n : Int) == 0) = false := by rw [beq_eq_false_iff_ne]; omega
    have hg : g < w.heap.size := World.block_lt_of_cell? w ⟨g, _, none⟩ a0
    clear hb hv hel hel2 hrest ar hn
    go_enter Tryz.func66, Tryz.ntmps66
    go_wp2_with fail
    have hz : (((w.setCell ⟨b, 0, none⟩ (.slice a5 r.length c5)).alloc (.cells #[.int .i64 x.kind, .string (bs x.name), .slice aa x.attrs.length acap, .string (bs x.text)] 54)).alloc (.cells #[.int .i64 x.kind, .string (bs x.name), .slice aa x.attrs.length acap, .string (bs x.text)] 54)).heap[w.heap.size]? = some (.cells #[.int .i64 x.kind, .string (bs x.name), .slice aa x.attrs.length acap, .string (bs x.text)] 54 (0, 0)) := block_old (block_new_at (by simp)) _
    have e0 := cell_of hz (i := 0) (v := .int .i64 x.kind) rfl
    have e1 := cell_of hz (i := 1) (v := .string (bs x.name)) rfl
    have e2 := cell_of hz (i := 2) (v := .slice aa x.attrs.length acap) rfl
    have e3 := cell_of hz (i := 3) (v := .string (bs x.text)) rfl
    have hf1 : Fr (fun k => k = b) w (w.setCell ⟨b, 0, none⟩ (.slice a5 r.length c5)) := fr_set _ _ _ _
    have hf2 : Fr (fun k => k = b) w (((w.setCell ⟨b, 0, none⟩ (.slice a5 r.length c5)).alloc (.cells #[.int .i64 x.kind, .string (bs x.name), .slice aa x.attrs.length acap, .string (bs x.text)] 54)).alloc (.cells #[.int .i64 x.kind, .string (bs x.name), .slice aa x.attrs.length acap, .string (bs x.text)] 54)) := (hf1.alloc _).alloc _
    refine bodyPost_ret (v := .tuple #[.agg #[.int .i64 x.kind, .string (bs x.name), .slice aa x.attrs.length acap, .string (bs x.text)], .bool true]) (by simp [results, Tryz.results66, go_sem, e0, e1, e2, e3] <;> rfl) rfl ?_
    exact ⟨hf2, _, _, rfl, HAr.out.fr hf2 fun k hk e => hS k hk e, block_old (block_old (block_set HB.out 0 _) _) _, HR.out.fr hf2 fun k hk e => hS k hk e⟩
end Go.Proofs.YtpinjgdnhbogoaaGreatDoor

/- The reading of one element: an invariant (the walk is N4). -/
namespace Go.Proofs.YtpinjgdnhbogoaaGreatDoor
open Go.RowKit Go.Lib

theorem info30 : (Tryz.prog.info? 30).map (fun i => (i.zero, i.size, i.bytes)) = some (some (.agg #[.string ⟨#[]⟩, .slice none 0 0, .string ⟨#[]⟩, .slice none 0 0]), 4, 80) := by kernel_rfl
/-- what an element at a depth is, of the tokens behind its opening one -/
def elemOut (d : Nat) (nm : Str) (la : List (Str × Str)) (l : List TokD) : Except Int (NodeD × List TokD) := if d = 20 then .error 19 else elemL d nm la [] [] l
theorem elemL_err {d : Nat} {nm : Str} {la : List (Str × Str)} {tx : Str} {ks : List NodeD} {l : List TokD} {e : Int} (h : elemL d nm la tx ks l = .error e) : e = 8 ∨ e = 19 := elemF_err _ _ _ _ _ _ _ h
theorem elemOut_err {d : Nat} {nm : Str} {la : List (Str × Str)} {l : List TokD} {e : Int} (h : elemOut d nm la l = .error e) : e = 8 ∨ e = 19 := by
  unfold elemOut at h
  split at h
  · cases h; exact .inr rfl
  · exact elemL_err h
theorem elem_words {d : Nat} {nm : Str} {la : List (Str × Str)} {tx : Str} {ks : List NodeD} {x : TokD} {r : List TokD} (h : x.kind = 3) : elemL d nm la tx ks (x :: r) = elemL d nm la (tx ++ x.text) ks r := by rw [elemL_cons, if_pos h]
theorem elem_open {d : Nat} {nm : Str} {la : List (Str × Str)} {tx : Str} {ks : List NodeD} {x : TokD} {r : List TokD} (h : x.kind = 1) (_hd : d < 20) : elemL d nm la tx ks (x :: r) = match elemOut (d + 1) x.name x.attrs r with | .error e => .error e | .ok (k, r') => elemL d nm la tx (ks ++ [k]) r' := by
  rw [elemL_cons, if_neg (by omega), if_pos h]
  unfold elemOut
  by_cases h20 : d + 1 = 20
  · rw [if_pos h20, if_pos h20]
  · rw [if_neg h20, if_neg h20]; rfl
theorem elem_close {d : Nat} {nm : Str} {la : List (Str × Str)} {tx : Str} {ks : List NodeD} {x : TokD} {r : List TokD} (h : x.kind = 2) (hn : x.name = nm) : elemL d nm la tx ks (x :: r) = .ok (.mk nm la tx ks, r) := by
  rw [elemL_cons, if_neg (by omega), if_neg (by omega), if_pos ⟨h, hn⟩]
theorem elem_bad {d : Nat} {nm : Str} {la : List (Str × Str)} {tx : Str} {ks : List NodeD} {x : TokD} {r : List TokD} (h3 : ¬ x.kind = 3) (h1 : ¬ x.kind = 1) (h2 : ¬ (x.kind = 2 ∧ x.name = nm)) : elemL d nm la tx ks (x :: r) = .error 8 := by
  rw [elemL_cons, if_neg h3, if_neg h1, if_neg h2]
/-- the tokens behind, and how large they are -/
def txM : Nat := 140737488355328
def TextOK (l : List TokD) : Prop := ∀ x ∈ l, x.text.length ≤ txM ∧ x.attrs.length ≤ 1000000
theorem elemL_rest : ∀ (m : Nat) {d : Nat} {nm : Str} {la : List (Str × Str)} {tx : Str} {ks : List NodeD} {l : List TokD} {n : NodeD} {r : List TokD}, l.length < m → elemL d nm la tx ks l = .ok (n, r) → ∀ x ∈ r, x ∈ l
  | 0, _, _, _, _, _, _, _, _, h, _ => by omega
  | m + 1, d, nm, la, tx, ks, [], n, r, _, h => by rw [elemL_nil] at h; cases h
  | m + 1, d, nm, la, tx, ks, t :: l, n, r, hm, h => by
    have hl : l.length < m := by simp at hm; omega
    rw [elemL_cons] at h
    split at h
    · exact fun x hx => List.mem_cons_of_mem _ (elemL_rest m hl h x hx)
    split at h
    · split at h
      · cases h
      · cases he : elemL (d + 1) t.name t.attrs [] [] l with
        | error e => rw [he] at h; cases h
        | ok p =>
          obtain ⟨k, r'⟩ := p
          rw [he] at h
          have h1 := elemL_rest m hl he
          have h2 := elemF_len _ _ _ _ _ _ _ he
          have h3 := elemL_rest m (by omega) h
          exact fun x hx => List.mem_cons_of_mem _ (h1 x (h3 x hx))
    split at h
    · cases h; exact fun x hx => List.mem_cons_of_mem _ hx
    · cases h
theorem elemOut_rest {d : Nat} {nm : Str} {la : List (Str × Str)} {l : List TokD} {n : NodeD} {r : List TokD} (h : elemOut d nm la l = .ok (n, r)) : (∀ x ∈ r, x ∈ l) ∧ r.length < l.length := by
  unfold elemOut at h
  split at h
  · cases h
  · exact ⟨elemL_rest _ (Nat.lt_succ_self _) h, elemF_len _ _ _ _ _ _ _ h⟩
/-- the kids read so far, in a row of one's own in blocks from nk on -/
def KidsO (nk : Nat) (w : World) (kv : Value) (ks : List NodeD) : Prop :=
  ∃ xs, w.ownsRow nk 30 4 kv ks.length xs ∧ KidsV w (fun k => nk ≤ k ∧ k < w.heap.size ∧ kv.ownBlock ≠ some k) ks xs
theorem KidsO.nil (nk : Nat) (w : World) : KidsO nk w (.slice none 0 0) [] := ⟨[], World.ownsRow_nil _ _ _ _, KidsV.nil.2 rfl⟩
theorem KidsO.fr {nk : Nat} {w w' : World} {kv : Value} {ks : List NodeD} {o : Nat → Prop} (h : KidsO nk w kv ks) (hf : Fr o w w') (ho : ∀ k, o k → k < nk) : KidsO nk w' kv ks := by
  obtain ⟨xs, h1, h2⟩ := h
  refine ⟨xs, ownsRow_keep h1 fun k hk => hf.block k (h1.lt k hk).2 fun e => ?_, KidsV.mono (fun k hk => ⟨hk.1, Nat.lt_of_lt_of_le hk.2.1 hf.size, hk.2.2⟩) ks (KidsV.fr hf (fun k hk e => ?_) ks h2)⟩
  · have := ho k e; have := (h1.lt k hk).1; omega
  · have := ho k e; omega
theorem KidsO.view {nk : Nat} {w : World} {kv : Value} {ks : List NodeD} (h : KidsO nk w kv ks) : ∃ xs, SRow w (fun k => nk ≤ k ∧ k < w.heap.size) 4 kv ks.length xs ∧ KidsV w (fun k => nk ≤ k ∧ k < w.heap.size) ks xs := by
  obtain ⟨xs, h1, h2⟩ := h
  exact ⟨xs, (SRow.of_owns h1).mono fun k hk => h1.lt k hk, KidsV.mono (fun k hk => ⟨hk.1, hk.2.1⟩) ks h2⟩
/-- one more kid -/
theorem KidsO.push {nk B : Nat} {w W w7 : World} {kv kv2 : Value} {ks : List NodeD} {xs cs : List Value} {n : NodeD} (h1 : w.ownsRow nk 30 4 kv ks.length xs) (h2 : KidsV w (fun k => nk ≤ k ∧ k < w.heap.size ∧ kv.ownBlock ≠ some k) ks xs) {o : Nat → Prop} (hf : Fr o w W) (ho : ∀ k, o k → k < nk)
    (hn : NodeV W (fun k => B ≤ k ∧ k < W.heap.size) n cs) (hB : w.heap.size ≤ B) (hnb : nk ≤ B) (hg : W.grownBy w7 kv.ownBlock) (hat : kv2.ownBlock = kv.ownBlock ∨ kv2.ownBlock = some W.heap.size) (hr : w7.ownsRow nk 30 4 kv2 (ks.length + 1) (xs ++ cs)) : KidsO nk w7 kv2 (ks ++ [n]) := by
  have hlt : ∀ k, kv.ownBlock = some k → k < w.heap.size := fun k hk => (h1.lt k hk).2
  have hfg : Fr (fun k => kv.ownBlock = some k) W w7 := (Fr.refl _ _).grown hg fun k hk => .inl hk
  have hk1 : KidsV w7 (fun k => nk ≤ k ∧ k < w.heap.size ∧ kv.ownBlock ≠ some k) ks xs := KidsV.fr hfg (fun k hk => hk.2.2) ks (KidsV.fr hf (fun k hk e => by have := ho k e; omega) ks h2)
  have hn1 : NodeV w7 (fun k => B ≤ k ∧ k < W.heap.size) n cs := NodeV.fr hfg (fun k hk e => by have := hlt k e; omega) n hn
  have hsz := hf.size
  have hsz7 := hg.size
  refine ⟨xs ++ cs, by rw [List.length_append]; exact hr, KidsV.snoc (NodeV.mono (fun k hk => ⟨by omega, by omega, fun e => ?_⟩) n hn1) (KidsV.mono (fun k hk => ⟨hk.1, by omega, fun e => ?_⟩) ks hk1)⟩
  · rcases hat with h | h
    · rw [h] at e; have := hlt k e; omega
    · rw [h] at e; cases e; omega
  · rcases hat with h | h
    · rw [h] at e; exact hk.2.2 e
    · rw [h] at e; cases e; omega
/-- append of cells that lie at a known place, as a step of a region that draws: where the new row lies -/
theorem step_append_at {P : Program} {w : World} {ops : Array Oper} {o : Oper} {a : Act} {K : Act → World → Prop} {Q : Exit → Act → World → Prop} {E : Prop} (hgd : o.guard = none) (s x : Operand) (t : TypeId)
    (ho : o.op = .call { callee := .builtin .append, args := #[s, x], argTypes := #[t, t] })
    (base : Nat) (e : TypeId) (i : TypeInfo) (z : Value) (size bytes : Nat) (ht : P.underlying t = some (.slice e)) (hi : P.info? e = some i) (hz : i.zero = some z)
    (hsize : i.size = size) (hby : i.bytes = bytes) (hzs : z.cells.size = size) (hsz : 0 < size)
    (v : Value) (n : Nat) (xs : List Value) (hs : a.eval s = v) (hown : w.ownsRow base e size v n xs)
    (ad : Addr) (m c : Nat) (news : List Value) (hx : a.eval x = .slice (some ad) m c) (hl : news.length = m * size) (hnews : ∀ j u, news[j]? = some u → w.cell? (ad.add j) = some u) (h1 : ∀ u ∈ news, u.oneCell' = true)
    (h63 : n + m ≤ maxLen) (hbytes : (n + m) * bytes ≤ 140737488355328) (hbase : base ≤ w.heap.size) (hpos : 0 < n + m)
    (h : ∀ g cap w', w'.ownsRow base e size (.slice (some ⟨g, 0, none⟩) (n + m) cap) (n + m) (xs ++ news) → w.grownBy w' v.ownBlock → (Value.ownBlock (.slice (some ⟨g, 0, none⟩) (n + m) cap) = v.ownBlock ∨ Value.ownBlock (.slice (some ⟨g, 0, none⟩) (n + m) cap) = some w.heap.size) → K (a.put o.dst (.slice (some ⟨g, 0, none⟩) (n + m) cap)) w') :
    if Region.wanted o (yielded ops a.tmps) = true then Oper.wp P o a w K Q else E := by
  rw [if_pos (by simp [Region.wanted, hgd])]
  obtain ⟨v', w', hr, h2, h3, h4, h5⟩ := run_append_own_at (P := P) w base t o.type e i z size bytes ht hi hz hsize hby hzs hsz v n xs hown ad m c news hl hnews h1 h63 hbytes hbase
  obtain ⟨g, cap, rfl, _, _, _⟩ := ownsRow_form h2 hpos
  unfold Oper.wp execOp
  simp only [ho, resolve, invoke, builtin, Sem.run_bind, Sem.run_pure, Result.andThen_ok, List.map_toArray, List.map_cons, List.map_nil, hs, hx, hr]
  exact h g cap w' h2 h3 h5

/-! ### one element, while it is read -/
def zeroNode : Array Value := #[.string ⟨#[]⟩, .slice none 0 0, .string ⟨#[]⟩, .slice none 0 0]
/-- l: what is to be read (the equation); lt: the tokens that the builder still has -/
structure ElIn (b nb nk : Nat) (S : Nat → Prop) (d : Nat) (nm : Str) (la : List (Str × Str)) (l0 : List TokD) (w0 : World) (l lt : List TokD) (tx : Str) (ks : List NodeD) (lv av kv : Value) (W : World) : Prop where
  eq : elemOut d nm la l0 = elemL d nm la tx ks l
  len : ks.length + l.length ≤ l0.length
  text : tx.length + l.length * txM ≤ l0.length * txM
  sub : ∀ x ∈ l, x ∈ l0
  bld : W.heap[b]? = some (.cells #[lv, .int .i64 0] 100 (0, 0))
  tok : TokV W S lv lt
  node : W.heap[nb]? = some (.cells #[.string (bs nm), av, .string (bs tx), kv] 30 (0, 0))
  att : SRow W (fun k => w0.heap.size + 1 < k ∧ k < nk ∧ k ≠ nb) 2 av la.length (acells la)
  kids : KidsO nk W kv ks
  fr : Fr (fun k => k = b) w0 W
  rb : W.heap[w0.heap.size + 1]? = some (.cells zeroNode 30 (0, 0))
  pos : w0.heap.size + 1 < nb ∧ nb < nk ∧ nk ≤ W.heap.size ∧ b < w0.heap.size ∧ ∀ k, S k → k < w0.heap.size ∧ k ≠ b
/-- four cells as an element's are -/
def NShape (c0 c1 c2 c3 : Value) : Prop := ∃ s0 a1 n1 p1 s2 a3 n3 p3, c0 = .string s0 ∧ c1 = .slice a1 n1 p1 ∧ c2 = .string s2 ∧ c3 = .slice a3 n3 p3
theorem NShape.one {c0 c1 c2 c3 : Value} (h : NShape c0 c1 c2 c3) : ∀ u ∈ [c0, c1, c2, c3], u.oneCell' = true := by
  obtain ⟨_, _, _, _, _, _, _, _, rfl, rfl, rfl, rfl⟩ := h
  intro u hu
  simp at hu
  rcases hu with rfl | rfl | rfl | rfl <;> rfl
theorem SRow.sliced {w : World} {S : Nat → Prop} {size n : Nat} {v : Value} {xs : List Value} (h : SRow w S size v n xs) : ∃ a n c, v = .slice a n c := by
  obtain ⟨_, a, c, rfl, _⟩ := h; exact ⟨_, _, _, rfl⟩
theorem NShape.mk {s0 s2 : ByteArray} {v1 v3 : Value} (h1 : ∃ a n c, v1 = .slice a n c) (h3 : ∃ a n c, v3 = .slice a n c) : NShape (.string s0) v1 (.string s2) v3 := by
  obtain ⟨_, _, _, rfl⟩ := h1
  obtain ⟨_, _, _, rfl⟩ := h3
  exact ⟨_, _, _, _, _, _, _, _, rfl, rfl, rfl, rfl⟩
/-- an error is noted -/
structure ElBad (b nb : Nat) (x : Int) (w0 : World) (lv c0 c1 c2 c3 : Value) (W : World) : Prop where
  bld : W.heap[b]? = some (.cells #[lv, .int .i64 x] 100 (0, 0))
  node : W.heap[nb]? = some (.cells #[c0, c1, c2, c3] 30 (0, 0))
  shape : NShape c0 c1 c2 c3
  fr : Fr (fun k => k = b) w0 W
  rb : W.heap[w0.heap.size + 1]? = some (.cells zeroNode 30 (0, 0))
  pos : w0.heap.size + 1 < nb ∧ nb < W.heap.size ∧ b < w0.heap.size
section
variable {b nb nk : Nat} {S : Nat → Prop} {d : Nat} {nm : Str} {la : List (Str × Str)} {l0 : List TokD} {w0 : World} {l lt : List TokD} {tx : Str} {ks : List NodeD} {lv av kv : Value} {W w3 : World}
theorem ElIn.fr2 (h : ElIn b nb nk S d nm la l0 w0 l lt tx ks lv av kv W) (hf : Fr (fun _ => False) W w3) : ElIn b nb nk S d nm la l0 w0 l lt tx ks lv av kv w3 where
  eq := h.eq
  len := h.len
  text := h.text
  sub := h.sub
  bld := hf.keep h.bld (fun h => h)
  tok := h.tok.fr hf fun _ _ h => h
  node := hf.keep h.node (fun h => h)
  att := h.att.fr hf fun _ _ h => h
  kids := h.kids.fr hf fun _ h => h.elim
  fr := h.fr.trans hf fun _ h => h.elim
  rb := hf.keep h.rb (fun h => h)
  pos := ⟨h.pos.1, h.pos.2.1, Nat.le_trans h.pos.2.2.1 hf.size, h.pos.2.2.2⟩
/-- behind next -/
theorem ElIn.next {lv2 : Value} {lt2 : List TokD} (h : ElIn b nb nk S d nm la l0 w0 l lt tx ks lv av kv W) (hf : Fr (fun k => k = b) W w3) (hb : w3.heap[b]? = some (.cells #[lv2, .int .i64 0] 100 (0, 0))) (ht : TokV w3 S lv2 lt2) : ElIn b nb nk S d nm la l0 w0 l lt2 tx ks lv2 av kv w3 where
  eq := h.eq
  len := h.len
  text := h.text
  sub := h.sub
  bld := hb
  tok := ht
  node := hf.keep h.node (fun e => by have := h.pos; omega)
  att := h.att.fr hf fun k hk e => by have := h.pos; omega
  kids := h.kids.fr hf fun k e => by have := h.pos; omega
  fr := h.fr.next hf
  rb := hf.keep h.rb (fun e => by have := h.pos; omega)
  pos := ⟨h.pos.1, h.pos.2.1, Nat.le_trans h.pos.2.2.1 hf.size, h.pos.2.2.2⟩
theorem ElIn.words {x : TokD} (h : ElIn b nb nk S d nm la l0 w0 (x :: l) l tx ks lv av kv W) (hk : x.kind = 3) (hx : x.text.length ≤ txM) : ElIn b nb nk S d nm la l0 w0 l l (tx ++ x.text) ks lv av kv (W.setCell ⟨nb, 2, none⟩ (.string (bs (tx ++ x.text)))) := by
  have hf : Fr (fun k => k = nb) W (W.setCell ⟨nb, 2, none⟩ (.string (bs (tx ++ x.text)))) := fr_set _ _ _ _
  have hp := h.pos
  exact {
    eq := h.eq.trans (elem_words hk)
    len := by have := h.len; simp at this; omega
    text := by
      have := h.text
      rw [List.length_cons, Nat.succ_mul] at this
      rw [List.length_append]; omega
    sub := fun y hy => h.sub y (List.mem_cons_of_mem _ hy)
    bld := hf.keep h.bld (by omega)
    tok := h.tok.fr hf fun k hk e => by have := hp.2.2.2.2 k hk; omega
    node := block_set h.node 2 _
    att := h.att.fr hf fun k hk e => by omega
    kids := h.kids.fr hf fun k e => by omega
    fr := Fr.setCell (p := ⟨nb, 2, none⟩) h.fr (.inr (show w0.heap.size ≤ nb by omega)) _
    rb := hf.keep h.rb (by omega)
    pos := by simpa using hp }
theorem ElIn.bad (h : ElIn b nb nk S d nm la l0 w0 l lt tx ks lv av kv W) (x : Int) : ElBad b nb x w0 lv (.string (bs nm)) av (.string (bs tx)) kv (W.setCell ⟨b, 1, none⟩ (.int .i64 x)) := by
  have hf : Fr (fun k => k = b) W (W.setCell ⟨b, 1, none⟩ (.int .i64 x)) := fr_set _ _ _ _
  have hp := h.pos
  obtain ⟨xs, h1, _⟩ := h.kids.view
  exact {
    bld := block_set h.bld 1 _
    node := hf.keep h.node (by omega)
    shape := .mk h.att.sliced h1.sliced
    fr := h.fr.next hf
    rb := hf.keep h.rb (by omega)
    pos := ⟨hp.1, by have := hf.size; omega, hp.2.2.2.1⟩ }
/-- a kid was read: the row grows, its slice is stored -/
theorem ElIn.kid {x : TokD} {w5 w6 w7 : World} {n : NodeD} {r : List TokD} {lv5 kv7 : Value} {xs cs : List Value} (h : ElIn b nb nk S d nm la l0 w0 (x :: l) l tx ks lv av kv W) (hk : x.kind = 1) (hd : d < 20) (he : elemOut (d + 1) x.name x.attrs l = .ok (n, r))
    (hrow : W.ownsRow nk 30 4 kv ks.length xs) (hkids : KidsV W (fun k => nk ≤ k ∧ k < W.heap.size ∧ kv.ownBlock ≠ some k) ks xs)
    (hf5 : Fr (fun k => k = b) W w5) (hb5 : w5.heap[b]? = some (.cells #[lv5, .int .i64 0] 100 (0, 0))) (ht5 : TokV w5 S lv5 r) (hn : NodeV w5 (fun k => W.heap.size ≤ k ∧ k < w5.heap.size) n cs)
    (hf6 : Fr (fun _ => False) w5 w6) (hg : w6.grownBy w7 kv.ownBlock) (hat : kv7.ownBlock = kv.ownBlock ∨ kv7.ownBlock = some w6.heap.size) (hr : w7.ownsRow nk 30 4 kv7 (ks.length + 1) (xs ++ cs)) :
    w7.heap[nb]? = some (.cells #[.string (bs nm), av, .string (bs tx), kv] 30 (0, 0)) ∧ ElIn b nb nk S d nm la l0 w0 r r tx (ks ++ [n]) lv5 av kv7 (w7.setCell ⟨nb, 3, none⟩ kv7) := by
  have hp := h.pos
  have hrest := elemOut_rest he
  have h6 : Fr (fun k => k = b) W w6 := hf5.trans hf6 fun _ h => h.elim
  have hs6 := h6.size
  have hs7 := hg.size
  have hkb : ∀ k, kv.ownBlock = some k → nk ≤ k ∧ k < W.heap.size := fun k hk => hrow.lt k hk
  have hf7 : Fr (fun k => k = b ∨ kv.ownBlock = some k) W w7 := (h6.mono fun k _ e => .inl e).grown hg fun k e => .inl (.inr e)
  have hb7 : w7.heap[nb]? = some (.cells #[.string (bs nm), av, .string (bs tx), kv] 30 (0, 0)) := hf7.keep h.node (by rintro (e | e); omega; have := hkb nb e; omega)
  have hK : KidsO nk w7 kv7 (ks ++ [n]) := KidsO.push hrow hkids h6 (fun k e => by omega) (NodeV.mono (fun k hk => ⟨hk.1, Nat.lt_of_lt_of_le hk.2 hf6.size⟩) n (NodeV.fr hf6 (fun _ _ h => h) n hn)) (Nat.le_refl _) hp.2.2.1 hg hat hr
  have hne7 : kv7.ownBlock ≠ some nb := by
    intro e
    have := (hr.lt nb e).1
    omega
  have hfs : Fr (fun k => k = nb) w7 (w7.setCell ⟨nb, 3, none⟩ kv7) := fr_set _ _ _ _
  have hb57 : w7.heap[b]? = some (.cells #[lv5, .int .i64 0] 100 (0, 0)) := (Fr.refl (fun k => kv.ownBlock = some k) w6 |>.grown hg fun k e => .inl e).keep (hf6.keep hb5 (fun h => h)) (fun e => by have := hkb b e; omega)
  have ht7 : TokV w7 S lv5 r := (ht5.fr hf6 fun _ _ h => h).fr (Fr.refl (fun k => kv.ownBlock = some k) w6 |>.grown hg fun k e => .inl e) fun k hk e => by have := hkb k e; have := hp.2.2.2.2 k hk; omega
  refine ⟨hb7, {
    eq := by rw [h.eq, elem_open hk hd, he]
    len := by have := h.len; simp at this ⊢; omega
    text := by
      have h1 := h.text
      have h2 := Nat.mul_le_mul_right txM (Nat.le_of_lt hrest.2)
      rw [List.length_cons, Nat.succ_mul] at h1
      omega
    sub := fun y hy => h.sub y (List.mem_cons_of_mem _ (hrest.1 y hy))
    bld := hfs.keep hb57 (by omega)
    tok := ht7.fr hfs fun k hk e => by have := hp.2.2.2.2 k hk; omega
    node := block_set hb7 3 _
    att := (h.att.fr hf7 fun k hk => by rintro (e | e); omega; have := hkb k e; omega).fr hfs fun k hk e => by omega
    kids := hK.fr hfs fun k e => by omega
    fr := Fr.setCell (p := ⟨nb, 3, none⟩) (h.fr.trans hf7 fun k e => by rcases e with e | e; exact .inl e; have := hkb k e; exact .inr (by omega)) (.inr (show w0.heap.size ≤ nb by omega)) _
    rb := hfs.keep (hf7.keep h.rb (by rintro (e | e); omega; have := hkb _ e; omega)) (by omega)
    pos := ⟨hp.1, hp.2.1, by have := hfs.size; omega, hp.2.2.2⟩ }⟩
/-- a kid was refused -/
theorem ElIn.kidBad {x : TokD} {w5 w6 w7 : World} {er : Int} {lv5 kv7 : Value} {xs cs : List Value} (h : ElIn b nb nk S d nm la l0 w0 (x :: l) l tx ks lv av kv W)
    (hrow : W.ownsRow nk 30 4 kv ks.length xs)
    (hf5 : Fr (fun k => k = b) W w5) (hb5 : w5.heap[b]? = some (.cells #[lv5, .int .i64 er] 100 (0, 0)))
    (hf6 : Fr (fun _ => False) w5 w6) (hg : w6.grownBy w7 kv.ownBlock) (hr : w7.ownsRow nk 30 4 kv7 (ks.length + 1) (xs ++ cs)) :
    w7.heap[nb]? = some (.cells #[.string (bs nm), av, .string (bs tx), kv] 30 (0, 0)) ∧ ElBad b nb er w0 lv5 (.string (bs nm)) av (.string (bs tx)) kv7 (w7.setCell ⟨nb, 3, none⟩ kv7) := by
  have hp := h.pos
  have h6 : Fr (fun k => k = b) W w6 := hf5.trans hf6 fun _ h => h.elim
  have hs6 := h6.size
  have hs7 := hg.size
  have hkb : ∀ k, kv.ownBlock = some k → nk ≤ k ∧ k < W.heap.size := fun k hk => hrow.lt k hk
  have hf7 : Fr (fun k => k = b ∨ kv.ownBlock = some k) W w7 := (h6.mono fun k _ e => .inl e).grown hg fun k e => .inl (.inr e)
  have hb7 : w7.heap[nb]? = some (.cells #[.string (bs nm), av, .string (bs tx), kv] 30 (0, 0)) := hf7.keep h.node (by rintro (e | e); omega; have := hkb nb e; omega)
  have hfs : Fr (fun k => k = nb) w7 (w7.setCell ⟨nb, 3, none⟩ kv7) := fr_set _ _ _ _
  have hb57 : w7.heap[b]? = some (.cells #[lv5, .int .i64 er] 100 (0, 0)) := (Fr.refl (fun k => kv.ownBlock = some k) w6 |>.grown hg fun k e => .inl e).keep (hf6.keep hb5 (fun h => h)) (fun e => by have := hkb b e; omega)
  refine ⟨hb7, {
    bld := hfs.keep hb57 (by omega)
    node := block_set hb7 3 _
    shape := .mk h.att.sliced (by obtain ⟨b, c, e⟩ := ownsRow_shape hr; exact ⟨_, _, _, e⟩)
    fr := Fr.setCell (p := ⟨nb, 3, none⟩) (h.fr.trans hf7 fun k e => by rcases e with e | e; exact .inl e; have := hkb k e; exact .inr (by omega)) (.inr (show w0.heap.size ≤ nb by omega)) _
    rb := hfs.keep (hf7.keep h.rb (by rintro (e | e); omega; have := hkb _ e; omega)) (by omega)
    pos := ⟨hp.1, by have := hfs.size; omega, hp.2.2.2.1⟩ }⟩
theorem ElBad.fr2 {er : Int} {lv c0 c1 c2 c3 : Value} (h : ElBad b nb er w0 lv c0 c1 c2 c3 W) (hf : Fr (fun _ => False) W w3) : ElBad b nb er w0 lv c0 c1 c2 c3 w3 where
  bld := hf.keep h.bld (fun h => h)
  node := hf.keep h.node (fun h => h)
  shape := h.shape
  fr := h.fr.trans hf fun _ h => h.elim
  rb := hf.keep h.rb (fun h => h)
  pos := ⟨h.pos.1, Nat.lt_of_lt_of_le h.pos.2.1 hf.size, h.pos.2.2⟩
/-- n.Text += t.Text -/
theorem ElIn.sum {y : TokD} (h : ElIn b nb nk S d nm la l0 w0 (y :: l) lt tx ks lv av kv W) (hl : l0.length ≤ 60010) (hy : y.text.length ≤ txM) (w : World) : (Op.stringOp .add (bs tx) (bs y.text)).run Tryz.prog w = .ok (.string (bs (tx ++ y.text))) w := by
  rw [← bs_append]
  refine run_string_add_sum w _ _ ?_
  have h1 := h.text
  rw [List.length_cons, Nat.succ_mul] at h1
  rw [bs_size, bs_size]
  unfold txM at h1 hy
  omega
theorem news_at {w : World} {b : Nat} {vs : List Value} {e : TypeId} {f : Nat × Nat} (h : w.heap[b]? = some (.cells vs.toArray e f)) : ∀ (j : Nat) (u : Value), vs[j]? = some u → w.cell? ((⟨b, 0, none⟩ : Addr).add j) = some u := by
  intro j u hu
  rw [Addr.add_lit, Nat.zero_add]
  exact cell_of h (by simpa using hu)
theorem row_far {w W : World} {nk b e size n : Nat} {v : Value} {xs : List Value} (h : w.ownsRow nk e size v n xs) (hf : Fr (fun k => k = b) w W) (hb : b < nk) : W.ownsRow nk e size v n xs :=
  ownsRow_keep h fun k hk => hf.block k (h.lt k hk).2 fun e => by have := (h.lt k hk).1; omega
/-- the element is whole -/
theorem ElIn.node_done (h : ElIn b nb nk S d nm la l0 w0 l lt tx ks lv av kv W) : NodeV W (fun k => w0.heap.size + 1 < k ∧ k < W.heap.size) (.mk nm la tx ks) [.string (bs nm), av, .string (bs tx), kv] := by
  have hp := h.pos
  obtain ⟨xs, h1, h2⟩ := h.kids.view
  exact NodeV.intro (h.att.mono fun k hk => by omega) (h1.mono fun k hk => by omega) (KidsV.mono (fun k hk => by omega) ks h2)
end
end Go.Proofs.YtpinjgdnhbogoaaGreatDoor
