/- as: tokens as the reference has them. -/
import Derived.Test.YtpinjgdnhbogoaaGreatDoorM2
import Derived.BigQuiet
import Derived.StillTailTactics
import Derived.Deep.RegionHeld3
namespace Go.Proofs.YtpinjgdnhbogoaaGreatDoor
open Go.RowKit Go.Lib

theorem info95 : (Tryz.prog.info? 95).map (fun i => (i.zero, i.size, i.bytes)) = some (some (.agg #[.string ⟨#[]⟩, .string ⟨#[]⟩]), 2, 32) := by kernel_rfl
theorem info97 : (Tryz.prog.info? 97).map (fun i => (i.zero, i.size, i.bytes)) = some (some (.agg #[.int .i64 0, .string ⟨#[]⟩, .slice none 0 0, .string ⟨#[]⟩]), 4, 64) := by kernel_rfl
def bigA (p : Str × Str) : Bool := decide (100 < p.1.length) || decide (300 < p.2.length)
def bigT (x : TokD) : Bool := decide (100 < x.name.length) || decide (500 < x.text.length) || decide (20 < x.attrs.length) || x.attrs.any bigA
def fitsA (a : List TokD) : Bool := decide (a.length ≤ 100) && !a.any bigT
/-- the reference's tokens in memory, in rows of one's own -/
def RToks (B : Nat) (w : World) (v : Value) (l : List TokD) : Prop :=
  ∃ ps : List (TokD × Value), ps.map Prod.fst = l ∧ w.ownsRow B 97 4 v ps.length (tcells ps) ∧ ∀ p ∈ ps, w.ownsRow B 95 2 p.2 p.1.attrs.length (acells p.1.attrs)
theorem RToks.fr {B : Nat} {w w' : World} {v : Value} {l : List TokD} (h : RToks B w v l) (hf : Fr (fun _ => False) w w') : RToks B w' v l := by
  obtain ⟨ps, h1, h2, h3⟩ := h
  exact ⟨ps, h1, ownsRow_fr h2 hf, fun p hp => ownsRow_fr (h3 p hp) hf⟩
theorem RToks.view {B : Nat} {w : World} {v : Value} {l : List TokD} (h : RToks B w v l) : TokV w (fun k => B ≤ k ∧ k < w.heap.size) v l := by
  obtain ⟨ps, h1, h2, h3⟩ := h
  exact ⟨ps, h1, (SRow.of_owns h2).mono fun k hk => h2.lt k hk, fun p hp => (SRow.of_owns (h3 p hp)).mono fun k hk => (h3 p hp).lt k hk⟩
theorem TokV.fr {w w' : World} {S o : Nat → Prop} {v : Value} {l : List TokD} (h : TokV w S v l) (hf : Fr o w w') (ho : ∀ k, S k → ¬ o k) : TokV w' S v l := by
  obtain ⟨ps, h1, h2, h3⟩ := h
  exact ⟨ps, h1, h2.fr hf ho, fun p hp => (h3 p hp).fr hf ho⟩
/-- a row grows by one token -/
theorem RToks.push {B : Nat} {w w7 : World} {v v2 av : Value} {l : List TokD} {x : TokD} {ps : List (TokD × Value)} (h1 : ps.map Prod.fst = l) (h2 : w.ownsRow B 97 4 v ps.length (tcells ps)) (h3 : ∀ p ∈ ps, w.ownsRow B 95 2 p.2 p.1.attrs.length (acells p.1.attrs))
    (hav : w.ownsRow B 95 2 av x.attrs.length (acells x.attrs)) (hg : w.grownBy w7 v.ownBlock) (hr : w7.ownsRow B 97 4 v2 (ps.length + 1) (tcells ps ++ tcells [(x, av)])) : RToks B w7 v2 (l ++ [x]) := by
  refine ⟨ps ++ [(x, av)], by simp [h1], by rw [List.length_append, ← tcells_app]; exact hr, fun p hp => ?_⟩
  have key : ∀ {q : Value} {n : Nat} {xs : List Value}, w.ownsRow B 95 2 q n xs → w7.ownsRow B 95 2 q n xs := by
    intro q n xs hq
    refine ownsRow_keep hq fun k hk => hg.block k (hq.lt k hk).2 fun e => ?_
    rcases hq.2 with ⟨rfl, _⟩ | ⟨g, cap, cur, rfl, _, hh, _⟩
    · simp [Value.ownBlock] at hk
    · simp only [Value.ownBlock, Option.some.injEq] at hk
      subst hk
      exact own_ne h2 hh (by decide) e.symm
  rcases List.mem_append.1 hp with hp | hp
  · exact key (h3 p hp)
  · simp only [List.mem_singleton] at hp; subst hp; exact key hav
/-- within a token: its struct t in block b6, its attributes so far -/
structure AttrIn (w9 : World) (x : TokD) (k : Nat) (av : Value) (W : World) : Prop where
  blk : W.heap[w9.heap.size]? = some (.cells #[.int .i64 x.kind, .string (bs x.name), av, .string (bs x.text)] 97 (0, 0))
  row : W.ownsRow (w9.heap.size + 1) 95 2 av k (acells (x.attrs.take k))
  ok : (x.attrs.take k).any bigA = false
  fr : Fr (fun _ => False) w9 W
theorem AttrIn.push {w9 W W2 w7 : World} {x : TokD} {k : Nat} {av av2 : Value} {p : Str × Str} (h : AttrIn w9 x k av W) (hx : x.attrs[k]? = some p) (hp : bigA p = false) (hF : Fr (fun _ => False) W W2)
    (hg : W2.grownBy w7 av.ownBlock) (hr : w7.ownsRow (w9.heap.size + 1) 95 2 av2 (k + 1) (acells (x.attrs.take k) ++ acells [p])) :
    w7.heap[w9.heap.size]? = some (.cells #[.int .i64 x.kind, .string (bs x.name), av, .string (bs x.text)] 97 (0, 0)) ∧ AttrIn w9 x (k + 1) av2 (w7.setCell ⟨w9.heap.size, 2, none⟩ av2) := by
  obtain ⟨h1, h2, h3, h4⟩ := h
  have htk : x.attrs.take (k + 1) = x.attrs.take k ++ [p] := by rw [List.take_add_one, hx]; rfl
  have hr2 := ownsRow_fr h2 hF
  have hb2 := hF.keep h1 (fun h => h)
  have hb7 := block_grown hb2 hg (fun e => by have := (hr2.lt _ e.symm).1; omega)
  have hne := own_ne hr hb7 (by decide)
  refine ⟨hb7, block_set hb7 2 av2, ?_, by rw [htk, List.any_append, h3]; simp [hp], ?_⟩
  · rw [htk, ← acells_app]
    exact ownsRow_keep hr fun j hj => block_set_ne (fun e => hne (by rw [hj, e]))
  · exact Fr.setCell (p := ⟨w9.heap.size, 2, none⟩) ((h4.next hF).grown hg fun j hj => .inr (by have := (hr2.lt _ hj).1; omega)) (.inr (Nat.le_refl _)) _
end Go.Proofs.YtpinjgdnhbogoaaGreatDoor

/- as, walked. -/
namespace Go.Proofs.YtpinjgdnhbogoaaGreatDoor
open Go.RowKit Go.Lib

theorem fits_len {a : List TokD} (h : 100 < a.length) : fitsA a = false := by unfold fitsA; rw [decide_eq_false (by omega)]; rfl
theorem fits_elem {a : List TokD} {x : TokD} (hx : x ∈ a) (h : bigT x = true) : fitsA a = false := by
  unfold fitsA
  rw [List.any_eq_true.2 ⟨x, hx, h⟩]; simp
theorem fits_all {a : List TokD} (h1 : a.length ≤ 100) (h2 : a.any bigT = false) : fitsA a = true := by unfold fitsA; rw [decide_eq_true h1, h2]; rfl
theorem big_attr {x : TokD} {p : Str × Str} (hp : p ∈ x.attrs) (h : bigA p = true) : bigT x = true := by
  unfold bigT
  rw [List.any_eq_true.2 ⟨p, hp, h⟩]; simp
theorem acell_one (p : Str × Str) : ∀ u ∈ acells [p], u.oneCell' = true := by
  intro u hu
  simp [acells] at hu
  rcases hu with rfl | rfl <;> rfl
theorem tcell_one (x : TokD) {av : Value} (h : av.oneCell' = true) : ∀ u ∈ tcells [(x, av)], u.oneCell' = true := by
  intro u hu
  simp [tcells, tc] at hu
  rcases hu with rfl | rfl | rfl | rfl
  · rfl
  · rfl
  · exact h
  · rfl
theorem own_one {w : World} {B e size n : Nat} {v : Value} {xs : List Value} (h : w.ownsRow B e size v n xs) : v.oneCell' = true := by
  rcases h.2 with ⟨rfl, _⟩ | ⟨g, cap, cur, rfl, _⟩ <;> rfl
def AsPost (a : List TokD) (w : World) (e : Ending) (w' : World) : Prop :=
  ∃ u b, e = .returned (.tuple #[u, .bool b]) ∧ b = fitsA a ∧ (b = true → RToks w.heap.size w' u a) ∧ Fr (fun _ => False) w w'
theorem as_no {a : List TokD} {w w' : World} {u : Value} (h : fitsA a = false) (hf : Fr (fun _ => False) w w') : AsPost a w (.returned (.tuple #[u, .bool false])) w' :=
  ⟨u, false, rfl, h.symm, fun e => (by cases e), hf⟩
set_option maxRecDepth 100000 in
set_option maxHeartbeats 16000000 in
theorem as_h {w : World} {S : Nat → Prop} {v : Value} {a : List TokD} (ha : TokV w S v a) : Calls Tryz.prog 39 #[v] w (AsPost a w) := by
  obtain ⟨ad, cap, rfl, hc1, hc2, _⟩ := ha.elems
  have HA := Lib.hid ha
  clear ha
  by_cases hlen : 100 < a.length
  · have HQ := Lib.hid (fits_len hlen)
    have hli : (100 : Int) < (a.length : Int) := by omega
    clear hlen
    go_enter Tryz.func39, Tryz.ntmps39
    go_wp2_with fail
    go_ret2
    exact as_no HQ.out (Fr.refl _ _)
  · have hli : ¬ (100 : Int) < (a.length : Int) := by omega
    have hl100 : a.length ≤ 100 := by omega
    have HL := Lib.hid hl100
    obtain ⟨i95, hi95, hz95, hs95, hb95⟩ := info_parts info95
    obtain ⟨i97, hi97, hz97, hs97, hb97⟩ := info_parts info97
    clear hlen
    go_enter Tryz.func39, Tryz.ntmps39
    go_wp2_with fail
    go_loopg [4, 5] a.length (fun j v4 v5 w' => ∃ (i : Nat) (wr : World) (tv : Value), wr = w' ∧ tv = v4 ∧ i + j = a.length ∧ v5 = .int .i64 i ∧ Hid (RToks w.heap.size wr tv (a.take i) ∧ (a.take i).any bigT = false ∧ Fr (fun _ => False) w wr))
    case atStart => exact ⟨0, _, _, rfl, rfl, by omega, rfl, ⟨[], rfl, World.ownsRow_nil _ _ _ _, fun p hp => by cases hp⟩, rfl, Fr.refl _ _⟩
    case round =>
      obtain ⟨i, wr, tv, rfl, rfl, hi, rfl, HR⟩ := hrel
      by_cases hlt : i < a.length
      · obtain ⟨_, _, e0, _, _, hel⟩ := (HA.out.fr HR.out.2.2 (fun _ _ h => h)).elems
        cases e0
        obtain ⟨g, off, rfl, hel2⟩ := hel (by omega)
        obtain ⟨x, hx⟩ : ∃ x, a[i]? = some x := ⟨_, List.getElem?_eq_getElem hlt⟩
        obtain ⟨avx, a0, a1, a2, a3, ar⟩ := hel2 i x hx
        obtain ⟨_, aa, acap, rfl, _, _, _, _⟩ := id ar
        have HAr := Lib.hid ar
        have HX := Lib.hid (And.intro hx (List.mem_of_getElem? hx))
        have HI2 := Lib.hid hi
        have z1 : (bs x.name).size = x.name.length := rfl
        have z2 : (bs x.text).size = x.text.length := rfl
        clear hel hel2 ar hx hi
        by_cases q1 : 100 < x.name.length
        · have q1i : (100 : Int) < (x.name.length : Int) := by omega
          have HQ := Lib.hid (fits_elem HX.out.2 (by unfold bigT; rw [decide_eq_true q1]; simp))
          clear q1
          go_wp2_with fail
          go_ret2
          exact as_no HQ.out HR.out.2.2
        have q1i : ¬ (100 : Int) < (x.name.length : Int) := by omega
        by_cases q2 : 500 < x.text.length
        · have q2i : (500 : Int) < (x.text.length : Int) := by omega
          have HQ := Lib.hid (fits_elem HX.out.2 (by unfold bigT; rw [decide_eq_true q2]; simp))
          clear q1 q2
          go_wp2_with fail
          go_ret2
          exact as_no HQ.out HR.out.2.2
        have q2i : ¬ (500 : Int) < (x.text.length : Int) := by omega
        by_cases q3 : 20 < x.attrs.length
        · have q3i : (20 : Int) < (x.attrs.length : Int) := by omega
          have HQ := Lib.hid (fits_elem HX.out.2 (by unfold bigT; rw [decide_eq_true q3]; simp))
          clear q1 q2 q3
          go_wp2_with fail
          go_ret2
          exact as_no HQ.out HR.out.2.2
        have q3i : ¬ (20 : Int) < (x.attrs.length : Int) := by omega
        have HQ := Lib.hid (And.intro q1 (And.intro q2 q3))
        clear q1 q2 q3
        go_wp2_with fail
        go_region_held3 (fun w' => w'.cell? ⟨g, off + i * 4, none⟩ = some (.int .i64 x.kind) ∧ w'.cell? ⟨g, off + i * 4 + 1, none⟩ = some (.string (bs x.name)) ∧ w'.cell? ⟨g, off + i * 4 + 3, none⟩ = some (.string (bs x.text))) (go_keep) (fail)
        go_wp2_with fail
        go_loopg [7] x.attrs.length (fun j v7 w' => ∃ (k : Nat) (W : World) (av : Value), W = w' ∧ k + j = x.attrs.length ∧ v7 = .int .i64 k ∧ Hid (AttrIn wr x k av W))
        case atStart => exact ⟨0, _, .slice none 0 0, rfl, by omega, rfl, ⟨block_new wr _, World.ownsRow_nil _ _ _ _, rfl, ((Fr.refl _ _).alloc _).drew⟩⟩
        case round =>
          obtain ⟨k, W, av, rfl, hk, rfl, HI⟩ := hrel
          have HW := Lib.hid HI.out.fr
          have e2 := HW.out.cell a2 (fun h => h)
          have b6 := HI.out.blk
          have f6 := cell_of b6 (i := 2) (v := av) rfl
          have hsz6 := lt_of_block b6
          by_cases hlt2 : k < x.attrs.length
          · obtain ⟨ga, oa, rfl, hca⟩ := HAr.out.cell (by omega)
            obtain ⟨r, hr⟩ : ∃ r, x.attrs[k]? = some r := ⟨_, List.getElem?_eq_getElem hlt2⟩
            obtain ⟨m0, m1⟩ := acells_at hr
            have ca0 := HW.out.cell (hca _ _ m0) (fun h => h)
            have ca1 := HW.out.cell (hca _ _ m1) (fun h => h)
            rw [← Nat.add_assoc] at ca1
            have HK := Lib.hid (And.intro hk (And.intro hr (List.mem_of_getElem? hr)))
            have y1 : (bs r.1).size = r.1.length := rfl
            have y2 : (bs r.2).size = r.2.length := rfl
            clear m0 m1 hca hk hr b6
            by_cases p1 : 100 < r.1.length
            · have p1i : (100 : Int) < (r.1.length : Int) := by omega
              have HP := Lib.hid (fits_elem HX.out.2 (big_attr HK.out.2.2 (by unfold bigA; rw [decide_eq_true p1]; simp)))
              clear p1
              go_wp2_with fail
              go_ret2
              exact as_no HP.out (HR.out.2.2.next (HW.out.alloc _))
            have p1i : ¬ (100 : Int) < (r.1.length : Int) := by omega
            by_cases p2 : 300 < r.2.length
            · have p2i : (300 : Int) < (r.2.length : Int) := by omega
              have HP := Lib.hid (fits_elem HX.out.2 (big_attr HK.out.2.2 (by unfold bigA; rw [decide_eq_true p2]; simp)))
              clear p1 p2
              go_wp2_with fail
              go_ret2
              exact as_no HP.out (HR.out.2.2.next (HW.out.alloc _))
            have p2i : ¬ (300 : Int) < (r.2.length : Int) := by omega
            have HP := Lib.hid (show bigA r = false by unfold bigA; rw [decide_eq_false p1, decide_eq_false p2]; rfl)
            clear p1 p2
            have HF2 : Hid (Fr (fun _ => False) W ((W.alloc (.cells #[.string (bs r.1), .string (bs r.2)] 64)).alloc (.cells #[.string (bs r.1), .string (bs r.2)] 95))) := ((Fr.refl _ _).alloc _).alloc _
            have hk20 : k ≤ 20 := by omega
            go_wp2_with (at_builtin; refine wpList_append_row rfl (.tmp 88) (.tmp 94) 34 rfl (wr.heap.size + 1) 95 i95 (.agg #[.string ⟨#[]⟩, .string ⟨#[]⟩]) 2 32 Tryz.underlying34 hi95 hz95 hs95 hb95 rfl (by decide) av k (acells (x.attrs.take k)) rfl (ownsRow_fr HI.out.row HF2.out) (fun _ => True) _ 1 (acells [r]) rfl (SRow.of_block (e := 95) (f := (0, 0)) (block_new_at (by simp)) rfl (by decide) trivial) (acell_one r) (by unfold maxLen; omega) (by omega) (by simp; omega) ?_; intro b7 cap7 w7 hown7 hgrow7 _; obtain ⟨hb7, hR7⟩ := HI.out.push HK.out.2.1 HP.out HF2.out hgrow7 hown7; have HR7 := Lib.hid hR7; have g7 := cell_of hb7 (i := 2) (v := av) rfl; have j7 := free_of 2 hb7; clear hown7 hgrow7 hb7 hR7 f6)
            go_roundg (x.attrs.length - (k + 1))
            case measure => have := HK.out.1; omega
            case rel => exact ⟨k + 1, _, _, rfl, by have := HK.out.1; omega, by go_num, HR7.out⟩
          · obtain rfl : k = x.attrs.length := by omega
            have f60 := cell_of b6 (i := 0) (v := .int .i64 x.kind) rfl
            have f61 := cell_of b6 (i := 1) (v := .string (bs x.name)) rfl
            have f63 := cell_of b6 (i := 3) (v := .string (bs x.text)) rfl
            have hsz6 := lt_of_block b6
            obtain ⟨ps, hps1, hps2, hps3⟩ := HR.out.1
            have hpl : ps.length = i := by have h := congrArg List.length hps1; rw [List.length_map, List.length_take] at h; omega
            have hpl2 : ps.length ≤ 100 := by omega
            have HPS := Lib.hid (And.intro hps1 (And.intro hps2 hps3))
            have hrow := HI.out.row
            rw [List.take_length] at hrow
            have hok := HI.out.ok
            rw [List.take_length] at hok
            have HB : Hid (bigT x = false) := by
              unfold bigT
              rw [hok, decide_eq_false HQ.out.1, decide_eq_false HQ.out.2.1, decide_eq_false HQ.out.2.2]; rfl
            have hsz0 := HR.out.2.2.size
            have HROW := Lib.hid (ownsRow_base hrow (show w.heap.size ≤ wr.heap.size + 1 by omega))
            have HWF := Lib.hid (fun (c : Obj) => HW.out.alloc c)
            have HTK := Lib.hid (show a.take (i + 1) = a.take i ++ [x] by rw [List.take_add_one, HX.out.1]; rfl)
            have hszW := HW.out.size
            clear hps1 hps2 hps3 hpl hrow hok b6 hk
            go_wp2_with (at_builtin; refine wpList_append_row rfl (.tmp 97) (.tmp 99) 24 rfl w.heap.size 97 i97 (.agg #[.int .i64 0, .string ⟨#[]⟩, .slice none 0 0, .string ⟨#[]⟩]) 4 64 Tryz.underlying24 hi97 hz97 hs97 hb97 rfl (by decide) tv ps.length (tcells ps) rfl (ownsRow_fr HPS.out.2.1 (HWF.out _)) (fun _ => True) _ 1 (tcells [(x, av)]) rfl (SRow.of_block (e := 97) (f := (0, 0)) (block_new _ _) rfl (by decide) trivial) (tcell_one x (own_one HROW.out)) (by unfold maxLen; omega) (by omega) (by simp; omega) ?_; intro b7 cap7 w7 hown7 hgrow7 _; have HR7 := Lib.hid (RToks.push HPS.out.1 (ownsRow_fr HPS.out.2.1 (HWF.out _)) (fun p hp => ownsRow_fr (HPS.out.2.2 p hp) (HWF.out _)) (ownsRow_fr HROW.out ((Fr.refl _ _).alloc _)) hgrow7 hown7); have HF7 := Lib.hid ((HR.out.2.2.next (HWF.out _)).grown hgrow7 (fun k hk => .inr (HPS.out.2.1.lt k hk).1)); clear hown7 hgrow7)
            go_roundg (a.length - (i + 1))
            case measure => have := HI2.out; omega
            case rel => exact ⟨i + 1, _, _, rfl, rfl, by have := HI2.out; omega, by go_num, by rw [HTK.out]; exact HR7.out, by rw [HTK.out, List.any_append, HR.out.2.1]; simp [HB.out], HF7.out⟩
      · have hi5 : i = a.length := by omega
        subst hi5
        clear hlt hi
        go_wp2_with fail
        go_ret2
        have h := HR.out
        rw [List.take_length] at h
        exact ⟨_, true, rfl, (fits_all HL.out h.2.1).symm, fun _ => h.1, h.2.2⟩
end Go.Proofs.YtpinjgdnhbogoaaGreatDoor

/- How many tokens are read, and where a text is refused; rows of tokens put together. -/
namespace Go.Proofs.YtpinjgdnhbogoaaGreatDoor
open Go.RowKit Go.Lib

theorem readG_place : ∀ (n : Nat) (s : Str) (k : Nat) (l : List TokD) (w : Str) {i : Nat}, s.length < n → readG k l w s = .error i → i ≤ k + s.length
  | 0, _, _, _, _, _, h, _ => by omega
  | n + 1, s, k, l, w, i, hn, h => by
    obtain ⟨seg, rest, rfl, hno, hrest⟩ := split_text s
    by_cases hs : seg = []
    · subst hs
      rw [List.nil_append] at h hn ⊢
      rcases hrest with rfl | ⟨t, rfl⟩
      · rw [readG_nil] at h; cases h
      · cases hp : partL (60 :: t) with
        | none => rw [readG_bad hp] at h; cases h; omega
        | some p =>
          obtain ⟨u, toks, left⟩ := p
          have hlen := partL_len hp
          rw [readG_part hp] at h
          by_cases ht : toks.isEmpty = true
          · rw [if_pos ht] at h
            have := readG_place n left _ _ _ (by omega) h
            omega
          · rw [if_neg ht] at h
            have := readG_place n left _ _ _ (by omega) h
            omega
    · rw [readG_text hs hno hrest] at h
      have hpos := List.length_pos_iff.2 hs
      rw [List.length_append] at hn ⊢
      cases hsd : saidL seg with
      | error j =>
        rw [hsd] at h
        have := said_place _ _ (Nat.lt_succ_self _) hsd
        cases h
        omega
      | ok u =>
        rw [hsd] at h
        have := readG_place n rest _ _ _ (by omega) h
        omega
theorem readG_many : ∀ (n : Nat) (s : Str) (k : Nat) (l : List TokD) (w : Str) {r : List TokD}, s.length < n → readG k l w s = .ok r → r.length ≤ l.length + 3 * s.length + 1
  | 0, _, _, _, _, _, h, _ => by omega
  | n + 1, s, k, l, w, r, hn, h => by
    obtain ⟨seg, rest, rfl, hno, hrest⟩ := split_text s
    by_cases hs : seg = []
    · subst hs
      rw [List.nil_append] at h hn ⊢
      rcases hrest with rfl | ⟨t, rfl⟩
      · rw [readG_nil] at h
        have := flush_len l w
        rw [← Except.ok.inj h]; simp; omega
      · cases hp : partL (60 :: t) with
        | none => rw [readG_bad hp] at h; cases h
        | some p =>
          obtain ⟨u, toks, left⟩ := p
          have hlen := partL_len hp
          have hout := partL_out hp
          rw [readG_part hp] at h
          by_cases ht : toks.isEmpty = true
          · rw [if_pos ht] at h
            have := readG_many n left _ _ _ (by omega) h
            omega
          · rw [if_neg ht] at h
            have h1 := readG_many n left _ _ _ (by omega) h
            have h2 := flush_len l (w ++ u)
            rw [List.length_append] at h1
            omega
    · rw [readG_text hs hno hrest] at h
      have hpos := List.length_pos_iff.2 hs
      rw [List.length_append] at hn ⊢
      cases hsd : saidL seg with
      | error j => rw [hsd] at h; cases h
      | ok u =>
        rw [hsd] at h
        have := readG_many n rest _ _ _ (by omega) h
        omega
theorem readL_place {s : Str} {i : Nat} (h : readL s = .error i) : i ≤ s.length := by
  have := readG_place _ s 0 [] [] (Nat.lt_succ_self _) h
  omega
theorem readL_many {s : Str} {r : List TokD} (h : readL s = .ok r) : r.length ≤ 3 * s.length + 1 := by
  have := readG_many _ s 0 [] [] (Nat.lt_succ_self _) h
  simpa using this

/-- tokens' headers in a row of one's own, the attributes wherever they lie below B -/
structure TokApp (B : Nat) (w : World) (v : Value) (ps : List (TokD × Value)) : Prop where
  row : w.ownsRow B 54 4 v ps.length (tcells ps)
  att : ∀ p ∈ ps, SRow w (fun k => k < B) 2 p.2 p.1.attrs.length (acells p.1.attrs)
theorem TokApp.view {B : Nat} {w : World} {v : Value} {ps : List (TokD × Value)} (h : TokApp B w v ps) : TokV w (fun _ => True) v (ps.map Prod.fst) :=
  ⟨ps, rfl, (SRow.of_owns h.row).mono fun _ _ => trivial, fun p hp => (h.att p hp).mono fun _ _ => trivial⟩
theorem TokApp.fr {B : Nat} {w w' : World} {v : Value} {ps : List (TokD × Value)} (h : TokApp B w v ps) (hf : Fr (fun _ => False) w w') : TokApp B w' v ps :=
  ⟨ownsRow_fr h.row hf, fun p hp => (h.att p hp).fr hf fun _ _ h => h⟩
theorem TokApp.nil {B b : Nat} {w : World} (h : w.heap[b]? = some (.cells #[] 54 (0, 0))) (hb : B ≤ b) : TokApp B w (.slice (some ⟨b, 0, none⟩) 0 0) [] :=
  ⟨ownsRow_empty h hb, fun p hp => by cases hp⟩
theorem TokApp.app {B : Nat} {w w' : World} {v v' : Value} {ps qs : List (TokD × Value)} (h : TokApp B w v ps) (hq : ∀ p ∈ qs, SRow w (fun k => k < B) 2 p.2 p.1.attrs.length (acells p.1.attrs))
    (hf : Fr (fun k => B ≤ k) w w') (hr : w'.ownsRow B 54 4 v' (ps.length + qs.length) (tcells ps ++ tcells qs)) : TokApp B w' v' (ps ++ qs) :=
  ⟨by rw [List.length_append, ← tcells_app]; exact hr, fun p hp => by
    rcases List.mem_append.1 hp with hp | hp
    · exact (h.att p hp).fr hf fun k hk hB => by omega
    · exact (hq p hp).fr hf fun k hk hB => by omega⟩
theorem TokApp.first {B m cap : Nat} {b : Option Addr} {w w' : World} {v : Value} {qs : List (TokD × Value)} (h : TokApp B w v []) (hm : qs.length = m) (hq : ∀ p ∈ qs, SRow w (fun k => k < B) 2 p.2 p.1.attrs.length (acells p.1.attrs))
    (hf : Fr (fun k => B ≤ k) w w') (hr : w'.ownsRow B 54 4 (.slice b (0 + m) cap) (0 + m) ([] ++ tcells qs)) : TokApp B w' (.slice b m cap) qs := by
  rw [Nat.zero_add] at hr
  subst hm
  exact h.app hq hf (by simpa [tcells] using hr)
theorem TokApp.then {B n m cap : Nat} {b : Option Addr} {w w' : World} {v : Value} {ps qs : List (TokD × Value)} (h : TokApp B w v ps) (hn : ps.length = n) (hm : qs.length = m) (hq : ∀ p ∈ qs, SRow w (fun k => k < B) 2 p.2 p.1.attrs.length (acells p.1.attrs))
    (hf : Fr (fun k => B ≤ k) w w') (hr : w'.ownsRow B 54 4 (.slice b (n + m) cap) (n + m) (tcells ps ++ tcells qs)) : TokApp B w' (.slice b (n + m) cap) (ps ++ qs) := by
  subst hm; subst hn
  exact h.app hq hf hr
theorem fr_to_base {B : Nat} {w w' : World} (h : Fr (fun k => B ≤ k) w w') (hB : w.heap.size ≤ B) : Fr (fun _ => False) w w' := h.mono fun k hk hB2 => by omega
theorem TokApp.row2 {B n : Nat} {w W : World} {v : Value} {ps : List (TokD × Value)} (h : TokApp B w v ps) (hn : ps.length = n) (hf : Fr (fun _ => False) w W) : W.ownsRow B 54 4 v n (tcells ps) := by
  subst hn; exact (h.fr hf).row
/-- tokens that lie below B -/
theorem TokV.parts {w : World} {B : Nat} {v : Value} {l : List TokD} (h : TokV w (fun k => k < B) v l) : ∃ ps : List (TokD × Value), ps.map Prod.fst = l ∧ ps.length = l.length ∧ SRow w (fun k => k < B) 4 v ps.length (tcells ps) ∧ (∀ p ∈ ps, SRow w (fun k => k < B) 2 p.2 p.1.attrs.length (acells p.1.attrs)) ∧ ∀ u ∈ tcells ps, u.oneCell' = true := by
  obtain ⟨ps, h1, h2, h3⟩ := h
  refine ⟨ps, h1, by rw [← h1, List.length_map], h2, h3, tcells_one fun p hp => ?_⟩
  obtain ⟨_, a, c, h4, _⟩ := h3 p hp
  exact ⟨_, _, _, h4⟩
theorem TokV.mono {w : World} {S S' : Nat → Prop} {v : Value} {l : List TokD} (h : TokV w S v l) (hs : ∀ k, S k → S' k) : TokV w S' v l := by
  obtain ⟨ps, h1, h2, h3⟩ := h
  exact ⟨ps, h1, h2.mono hs, fun p hp => (h3 p hp).mono hs⟩
theorem fits_len2 {a : List TokD} (h : fitsA a = true) : a.length ≤ 100 ∧ ∀ x ∈ a, x.attrs.length ≤ 20 := by
  unfold fitsA at h
  simp only [Bool.and_eq_true, decide_eq_true_eq, Bool.not_eq_true', List.any_eq_false] at h
  refine ⟨h.1, fun x hx => ?_⟩
  have := h.2 x hx
  unfold bigT at this
  simp only [Bool.or_eq_true, decide_eq_true_eq, not_or] at this
  omega
theorem elem22 : Tryz.prog.elem 22 = 54 := by kernel_rfl
theorem under22 : Tryz.prog.underlying 22 = some (.slice (Tryz.prog.elem 22)) := by rw [elem22]; exact Tryz.underlying22
theorem size54 (w : World) : (sizeOf (Tryz.prog.elem 22)).run Tryz.prog w = .ok 4 w := by
  rw [elem22]
  obtain ⟨i, hi, _, hs, _⟩ := info_parts info54
  simp [sizeOf, typeInfo, hi, hs]
theorem head_run {a : Option Addr} {len cap k : Nat} {i : Int} (hi : i = (k : Int)) (hk : k ≤ cap) (w : World) :
    (Instr.slice 22 (.slice a len cap) none (some (.int .i64 i)) none).run Tryz.prog w = .ok (.slice a k cap) w := by
  subst hi
  rw [run_slice_h w 22 a len cap under22 .i64 k (by omega) (by omega), size54]
  have h : a.map (fun x => x.add 0) = a := by
    cases a with
    | none => rfl
    | some p => cases p with | mk b o s => cases s <;> simp [Addr.add]
  simp only [Result.andThen, sliced, Int.toNat_natCast, Nat.zero_mul, Nat.sub_zero, h, ite_self]
theorem tail_run {a : Option Addr} {len cap k : Nat} {i : Int} (hi : i = (k : Int)) (hk : k ≤ len) : ∃ a2 c2,
    (∀ w : World, (Instr.slice 22 (.slice a len cap) (some (.int .i64 i)) none none).run Tryz.prog w = .ok (.slice a2 (len - k) c2) w) ∧
    ∀ {W : World} {S : Nat → Prop} {xs : List Value}, SRow W S 4 (.slice a len cap) len xs → SRow W S 4 (.slice a2 (len - k) c2) (len - k) (xs.drop (k * 4)) := by
  subst hi
  refine ⟨_, _, fun w => ?_, fun {W S xs} h => h.tail hk⟩
  rw [run_slice_l w 22 a len cap under22 .i64 k (by omega) (by omega), size54]
  rfl
theorem tcells_drop : ∀ (k : Nat) (ps : List (TokD × Value)), (tcells ps).drop (k * 4) = tcells (ps.drop k)
  | 0, ps => by simp
  | k + 1, [] => by simp [tcells]
  | k + 1, p :: ps => by
    have e : tcells (p :: ps) = .int .i64 p.1.kind :: .string (bs p.1.name) :: p.2 :: .string (bs p.1.text) :: tcells ps := by simp [tcells, tc]
    rw [e, show (k + 1) * 4 = k * 4 + 1 + 1 + 1 + 1 by omega]
    simp only [List.drop_succ_cons]
    exact tcells_drop k ps
theorem tcells_take : ∀ (k : Nat) (ps : List (TokD × Value)), (tcells ps).take (k * 4) = tcells (ps.take k)
  | 0, ps => by simp [tcells]
  | k + 1, [] => by simp [tcells]
  | k + 1, p :: ps => by
    have e : ∀ ps, tcells (p :: ps) = .int .i64 p.1.kind :: .string (bs p.1.name) :: p.2 :: .string (bs p.1.text) :: tcells ps := by intro ps; simp [tcells, tc]
    rw [e, List.take_succ_cons, e, show (k + 1) * 4 = k * 4 + 1 + 1 + 1 + 1 by omega]
    simp only [List.take_succ_cons]
    rw [tcells_take k ps]
theorem tcells_sub {ps qs : List (TokD × Value)} (h : ∀ u ∈ tcells ps, u.oneCell' = true) (hs : ∀ p ∈ qs, p ∈ ps) : ∀ u ∈ tcells qs, u.oneCell' = true := by
  intro u hu
  obtain ⟨p, hp, hp2⟩ := List.mem_flatMap.1 hu
  exact h u (List.mem_flatMap.2 ⟨p, hs p hp, hp2⟩)
end Go.Proofs.YtpinjgdnhbogoaaGreatDoor
