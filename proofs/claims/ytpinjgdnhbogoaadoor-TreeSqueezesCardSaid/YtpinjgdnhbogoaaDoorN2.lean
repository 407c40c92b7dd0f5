/- slices.Clone of attributes; the builder's next token. -/
import Derived.Test.YtpinjgdnhbogoaaDoorN1
import Derived.WalkSpells
namespace Go.Proofs.YtpinjgdnhbogoaaDoor
open Go.RowKit Go.Lib

def ClonePost (l : List (Str × Str)) (w : World) (e : Ending) (w' : World) : Prop :=
  ∃ v', e = .returned v' ∧ SRow w' (fun k => w.heap.size ≤ k ∧ k < w'.heap.size) 2 v' l.length (acells l) ∧ Fr (fun _ => False) w w'
set_option maxRecDepth 100000 in
set_option maxHeartbeats 4000000 in
theorem clone_h {w : World} {S : Nat → Prop} {v : Value} {l : List (Str × Str)} (hv : SRow w S 2 v l.length (acells l)) (hl : l.length ≤ 1000000) :
    Calls Tryd.prog 43 #[v] w (ClonePost l w) := by
  obtain ⟨_, a, cap, rfl, hnc, hcm, hnone, _⟩ := id hv
  obtain ⟨i0, hi0, hz0, hz1, hz2⟩ := info_parts info64
  cases a with
  | none =>
    have hc0 := hnone rfl
    have hl0 : l = [] := List.eq_nil_of_length_eq_zero (by omega)
    subst hl0 hc0
    have hq : ∀ w : World, (binOp .eql 25 (.slice none 0 0) (.slice none 0 0)).run Tryd.prog w = .ok (.bool true) w := fun w => run_eql_nil_slice w 25 48 none 0 0 0 0 (by kernel_rfl)
    show Calls Tryd.prog 43 #[.slice none 0 0] w _
    clear hv hnone hnc hcm
    go_enter Tryd.func43, Tryd.ntmps43
    go_wp2_with fail
    go_ret
    exact ⟨_, rfl, SRow.nil _ _ _, Fr.refl _ _⟩
  | some p =>
    have hq : ∀ w : World, (binOp .eql 25 (.slice (some p) l.length cap) (.slice none 0 0)).run Tryd.prog w = .ok (.bool false) w := fun w => Lib.run_eql_slice_nil w 25 48 (some p) l.length cap 0 0 (by kernel_rfl)
    have HV := Lib.hid hv
    have HA : Hid (Fr (fun _ => False) w (w.alloc (.cells #[] 48))) := (Fr.refl _ _).alloc _
    have H0 : Hid ((w.alloc (.cells #[] 48)).ownsRow w.heap.size 48 2 (.slice (some ⟨w.heap.size, 0, none⟩) 0 0) 0 []) := ownsRow_empty (block_new _ _) (Nat.le_refl _)
    clear hv hnone
    go_enter Tryd.func43, Tryd.ntmps43
    go_wp2_with (at_builtin; refine wpList_append_row rfl (.tmp 5) (.tmp 6) 25 rfl w.heap.size 48 i0 (.agg #[.string ⟨#[]⟩, .string ⟨#[]⟩]) 2 32 Tryd.underlying25 hi0 hz0 hz1 hz2 rfl (by decide) (.slice (some ⟨w.heap.size, 0, none⟩) 0 0) 0 [] rfl H0.out S _ l.length (acells l) rfl (HV.out.fr HA.out fun _ _ h => h) acells_one (by unfold maxLen; omega) (by omega) (by simp) ?_; intro b7 cap7 w7 hown7 hgrow7 hfr7; rw [Nat.zero_add, List.nil_append] at hown7; have HR := Lib.hid ((SRow.of_owns hown7).mono fun k hk => hown7.lt k hk); have HF := Lib.hid (fr_to_base ((HA.out.mono (o2 := fun k => w.heap.size ≤ k) fun _ _ h => h.elim).next hfr7) (Nat.le_refl _)); clear hown7 hgrow7 hfr7)
    go_ret
    exact ⟨_, rfl, HR.out, HF.out⟩

/-- tokens, but the first -/
theorem TokV.rest {w : World} {S : Nat → Prop} {a : Option Addr} {cap : Nat} {x : TokD} {l : List TokD} (_h : TokV w S (.slice a (x :: l).length cap) (x :: l)) : ∃ a2 c2,
    (∀ w : World, (Instr.slice 44 (.slice a (x :: l).length cap) (some (.int .i64 1)) none none).run Tryd.prog w = .ok (.slice a2 l.length c2) w) ∧ ∀ {W : World} {S' : Nat → Prop}, TokV W S' (.slice a (x :: l).length cap) (x :: l) → TokV W S' (.slice a2 l.length c2) l := by
  obtain ⟨a2, c2, h1, h2⟩ := tail_run (a := a) (len := (x :: l).length) (cap := cap) (k := 1) (i := 1) rfl (by simp)
  rw [show (x :: l).length - 1 = l.length by simp] at h1 h2
  refine ⟨a2, c2, h1, fun {W S'} hv => ?_⟩
  obtain ⟨ps, e, hr, ha⟩ := hv
  have hl : ps.length = (x :: l).length := by rw [← e, List.length_map]
  rw [hl] at hr
  have := h2 hr
  rw [tcells_drop] at this
  refine ⟨ps.drop 1, by rw [List.map_drop, e]; rfl, ?_, fun p hp => ha p (List.mem_of_mem_drop hp)⟩
  rw [List.length_drop, hl, show (x :: l).length - 1 = l.length by simp]
  exact this
theorem fr_set (w : World) (b i : Nat) (v : Value) : Fr (fun k => k = b) w (w.setCell ⟨b, i, none⟩ v) := Fr.setCell (o := fun k => k = b) (p := ⟨b, i, none⟩) (Fr.refl _ _) (.inl rfl) v
def zeroTok : Array Value := #[.int .i64 0, .string ⟨#[]⟩, .slice none 0 0, .string ⟨#[]⟩]
def NextPost (b : Nat) (S : Nat → Prop) (er : Int) (l : List TokD) (w : World) (e : Ending) (w' : World) : Prop :=
  Fr (fun k => k = b) w w' ∧ match l with
  | [] => e = .returned (.tuple #[.agg zeroTok, .bool false]) ∧ ∃ lv, w'.heap[b]? = some (.cells #[lv, .int .i64 er] 71 (0, 0)) ∧ TokV w' S lv []
  | x :: r => ∃ av lv, e = .returned (.tuple #[.agg #[.int .i64 x.kind, .string (bs x.name), av, .string (bs x.text)], .bool true]) ∧ SRow w' S 2 av x.attrs.length (acells x.attrs) ∧ w'.heap[b]? = some (.cells #[lv, .int .i64 er] 71 (0, 0)) ∧ TokV w' S lv r
set_option maxRecDepth 100000 in
set_option maxHeartbeats 8000000 in
theorem next_h {w : World} {b : Nat} {S : Nat → Prop} {lv : Value} {er : Int} {l : List TokD} (hb : w.heap[b]? = some (.cells #[lv, .int .i64 er] 71 (0, 0))) (hv : TokV w S lv l) (hS : ∀ k, S k → k ≠ b) :
    Calls Tryd.prog 23 #[.pointer (some ⟨b, 0, none⟩)] w (NextPost b S er l w) := by
  have c0 := cell_of hb (i := 0) (v := lv) rfl
  have c1 := cell_of hb (i := 1) (v := .int .i64 er) rfl
  have f0 := free_of 0 hb
  have hlt := lt_of_block hb
  obtain ⟨a, cap, rfl, hnc, hcm, hel⟩ := hv.elems
  have HB := Lib.hid hb
  have HV := Lib.hid hv
  cases l with
  | nil =>
    have hl0 : ([] : List TokD).length = 0 := rfl
    rw [hl0] at c0
    clear hb hv hel hl0
    go_enter Tryd.func23, Tryd.ntmps23
    go_wp2_with fail
    have hz := block_new w (.cells zeroTok 64)
    have e0 := cell_of hz (i := 0) (v := .int .i64 0) rfl
    have e1 := cell_of hz (i := 1) (v := .string ⟨#[]⟩) rfl
    have e2 := cell_of hz (i := 2) (v := .slice none 0 0) rfl
    have e3 := cell_of hz (i := 3) (v := .string ⟨#[]⟩) rfl
    unfold zeroTok at e0 e1 e2 e3
    refine bodyPost_ret (v := .tuple #[.agg #[.int .i64 0, .string ⟨#[]⟩, .slice none 0 0, .string ⟨#[]⟩], .bool false]) (by simp [results, Tryd.results23, go_sem, e0, e1, e2, e3] <;> rfl) rfl ?_
    exact ⟨(Fr.refl _ _).alloc _, rfl, _, block_old HB.out _, HV.out.fr ((Fr.refl (fun _ => False) _).alloc _) fun _ _ h => h⟩
  | cons x r =>
    obtain ⟨g, off, rfl, hel2⟩ := hel (by simp)
    obtain ⟨av, a0, a1, a2, a3, ar⟩ := hel2 0 x rfl
    obtain ⟨_, aa, acap, rfl, _, _, _, _⟩ := id ar
    simp only [Nat.zero_mul, Nat.add_zero] at a0 a1 a2 a3
    obtain ⟨a5, c5, hsl, hrest⟩ := hv.rest
    have HR := Lib.hid (hrest hv)
    have HAr := Lib.hid ar
    obtain ⟨n, hn⟩ : ∃ n, (x :: r).length = n := ⟨_, rfl⟩
    have hpos : 0 < n := by rw [← hn]; simp
    rw [hn] at c0 hsl HB HV hnc
    have t0 : ((n : Int) == 0) = false := by rw [beq_eq_false_iff_ne]; omega
    have hg : g < w.heap.size := World.block_lt_of_cell? w ⟨g, _, none⟩ a0
    clear hb hv hel hel2 hrest ar hn
    go_enter Tryd.func23, Tryd.ntmps23
    go_wp2_with fail
    have hz : (((w.setCell ⟨b, 0, none⟩ (.slice a5 r.length c5)).alloc (.cells #[.int .i64 x.kind, .string (bs x.name), .slice aa x.attrs.length acap, .string (bs x.text)] 64)).alloc (.cells #[.int .i64 x.kind, .string (bs x.name), .slice aa x.attrs.length acap, .string (bs x.text)] 64)).heap[w.heap.size]? = some (.cells #[.int .i64 x.kind, .string (bs x.name), .slice aa x.attrs.length acap, .string (bs x.text)] 64 (0, 0)) := block_old (block_new_at (by simp)) _
    have e0 := cell_of hz (i := 0) (v := .int .i64 x.kind) rfl
    have e1 := cell_of hz (i := 1) (v := .string (bs x.name)) rfl
    have e2 := cell_of hz (i := 2) (v := .slice aa x.attrs.length acap) rfl
    have e3 := cell_of hz (i := 3) (v := .string (bs x.text)) rfl
    have hf1 : Fr (fun k => k = b) w (w.setCell ⟨b, 0, none⟩ (.slice a5 r.length c5)) := fr_set _ _ _ _
    have hf2 : Fr (fun k => k = b) w (((w.setCell ⟨b, 0, none⟩ (.slice a5 r.length c5)).alloc (.cells #[.int .i64 x.kind, .string (bs x.name), .slice aa x.attrs.length acap, .string (bs x.text)] 64)).alloc (.cells #[.int .i64 x.kind, .string (bs x.name), .slice aa x.attrs.length acap, .string (bs x.text)] 64)) := (hf1.alloc _).alloc _
    refine bodyPost_ret (v := .tuple #[.agg #[.int .i64 x.kind, .string (bs x.name), .slice aa x.attrs.length acap, .string (bs x.text)], .bool true]) (by simp [results, Tryd.results23, go_sem, e0, e1, e2, e3] <;> rfl) rfl ?_
    exact ⟨hf2, _, _, rfl, HAr.out.fr hf2 fun k hk e => hS k hk e, block_old (block_old (block_set HB.out 0 _) _) _, HR.out.fr hf2 fun k hk e => hS k hk e⟩
end Go.Proofs.YtpinjgdnhbogoaaDoor
