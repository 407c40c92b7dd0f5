/- Law 12's own tokens: the tokens as the reference has them; false: they are too many. -/
import Derived.Test.YtpinjgdnhbogoaaGreatDoorM7
import Derived.Test.YtpinjgdnhbogoaaGreatDoorN3
import Derived.Deep.RegionLaw
import Derived.Deep.RegionHeld3
namespace Go.Proofs.YtpinjgdnhbogoaaGreatDoor
open Go.RowKit Go.Lib

def bigU (x : TokD) : Bool := decide (30 < x.attrs.length) || decide (1000 < x.text.length)
def fitsU (a : List TokD) : Bool := decide (a.length ≤ 400) && !a.any bigU
theorem fitsU_len {a : List TokD} (h : 400 < a.length) : fitsU a = false := by unfold fitsU; rw [decide_eq_false (by omega)]; rfl
theorem fitsU_elem {a : List TokD} {x : TokD} (hx : x ∈ a) (h : bigU x = true) : fitsU a = false := by
  unfold fitsU
  rw [List.any_eq_true.2 ⟨x, hx, h⟩]; simp
theorem fitsU_all {a : List TokD} (h1 : a.length ≤ 400) (h2 : a.any bigU = false) : fitsU a = true := by unfold fitsU; rw [decide_eq_true h1, h2]; rfl
structure AttrU (w9 : World) (x : TokD) (k : Nat) (av : Value) (W : World) : Prop where
  blk : W.heap[w9.heap.size]? = some (.cells #[.int .i64 x.kind, .string (bs x.name), av, .string (bs x.text)] 97 (0, 0))
  row : W.ownsRow (w9.heap.size + 1) 95 2 av k (acells (x.attrs.take k))
  fr : Fr (fun _ => False) w9 W
theorem AttrU.push {w9 W W2 w7 : World} {x : TokD} {k : Nat} {av av2 : Value} {p : Str × Str} (h : AttrU w9 x k av W) (hx : x.attrs[k]? = some p) (hF : Fr (fun _ => False) W W2)
    (hg : W2.grownBy w7 av.ownBlock) (hr : w7.ownsRow (w9.heap.size + 1) 95 2 av2 (k + 1) (acells (x.attrs.take k) ++ acells [p])) :
    w7.heap[w9.heap.size]? = some (.cells #[.int .i64 x.kind, .string (bs x.name), av, .string (bs x.text)] 97 (0, 0)) ∧ AttrU w9 x (k + 1) av2 (w7.setCell ⟨w9.heap.size, 2, none⟩ av2) := by
  obtain ⟨h1, h2, h4⟩ := h
  have htk : x.attrs.take (k + 1) = x.attrs.take k ++ [p] := by rw [List.take_add_one, hx]; rfl
  have hr2 := ownsRow_fr h2 hF
  have hb2 := hF.keep h1 (fun h => h)
  have hb7 := block_grown hb2 hg (fun e => by have := (hr2.lt _ e.symm).1; omega)
  have hne := own_ne hr hb7 (by decide)
  refine ⟨hb7, block_set hb7 2 av2, ?_, ?_⟩
  · rw [htk, ← acells_app]
    exact ownsRow_keep hr fun j hj => block_set_ne (fun e => hne (by rw [hj, e]))
  · exact Fr.setCell (p := ⟨w9.heap.size, 2, none⟩) ((h4.next hF).grown hg fun j hj => .inr (by have := (hr2.lt _ hj).1; omega)) (.inr (Nat.le_refl _)) _
def TmPost (a : List TokD) (w : World) (e : Ending) (w' : World) : Prop :=
  ∃ u b, e = .returned (.tuple #[u, .bool b]) ∧ b = fitsU a ∧ (b = true → RToks w.heap.size w' u a) ∧ Fr (fun _ => False) w w'
theorem tm_no {a : List TokD} {w w' : World} {u : Value} (h : fitsU a = false) (hf : Fr (fun _ => False) w w') : TmPost a w (.returned (.tuple #[u, .bool false])) w' :=
  ⟨u, false, rfl, h.symm, fun e => (by cases e), hf⟩
set_option maxRecDepth 100000 in
set_option maxHeartbeats 16000000 in
theorem toksm_h {w : World} {S : Nat → Prop} {v : Value} {a : List TokD} (ha : TokV w S v a) : Calls Tryz.prog 23 #[v] w (TmPost a w) := by
  obtain ⟨ad, cap, rfl, hc1, hc2, _⟩ := ha.elems
  have HA := Lib.hid ha
  clear ha
  by_cases hlen : 400 < a.length
  · have HQ := Lib.hid (fitsU_len hlen)
    have hli : (400 : Int) < (a.length : Int) := by omega
    clear hlen
    go_enter Tryz.func23, Tryz.ntmps23
    go_wp2_with fail
    go_ret2
    exact tm_no HQ.out (Fr.refl _ _)
  · have hli : ¬ (400 : Int) < (a.length : Int) := by omega
    have hl400 : a.length ≤ 400 := by omega
    have HL := Lib.hid hl400
    obtain ⟨i95, hi95, hz95, hs95, hb95⟩ := info_parts info95
    obtain ⟨i97, hi97, hz97, hs97, hb97⟩ := info_parts info97
    clear hlen
    go_enter Tryz.func23, Tryz.ntmps23
    go_wp2_with fail
    go_loopg [4, 5] a.length (fun j v4 v5 w' => ∃ (i : Nat) (wr : World) (tv : Value), wr = w' ∧ tv = v4 ∧ i + j = a.length ∧ v5 = .int .i64 i ∧ Hid (RToks w.heap.size wr tv (a.take i) ∧ (a.take i).any bigU = false ∧ Fr (fun _ => False) w wr))
    case atStart => exact ⟨0, _, _, rfl, rfl, by omega, rfl, ⟨[], rfl, World.ownsRow_nil _ _ _ _, fun p hp => by cases hp⟩, rfl, Fr.refl _ _⟩
    case round =>
      obtain ⟨i, wr, tv, rfl, rfl, hi, rfl, HR⟩ := hrel
      by_cases hlt : i < a.length
      · obtain ⟨_, _, e0, _, _, hel⟩ := (HA.out.fr HR.out.2.2 (fun _ _ h => h)).elems
        cases e0
        obtain ⟨g, off, rfl, hel2⟩ := hel (by omega)
        obtain ⟨x, hx⟩ : ∃ x, a[i]? = some x := ⟨_, List.getElem?_eq_getElem hlt⟩
        obtain ⟨avx, a0, a1, a2, a3, ar⟩ := hel2 i x hx
        obtain ⟨_, aa, acap, rfl, _, _, _, _⟩ := id ar
        have HAr := Lib.hid ar
        have HX := Lib.hid (And.intro hx (List.mem_of_getElem? hx))
        have HI2 := Lib.hid hi
        have HC := Lib.hid (And.intro a2 a3)
        have z2 : (bs x.text).size = x.text.length := rfl
        clear hel hel2 ar hx hi
        go_wp2_with fail
        go_region_held3 (fun w' => w'.cell? ⟨g, off + i * 4, none⟩ = some (.int .i64 x.kind) ∧ w'.cell? ⟨g, off + i * 4 + 1, none⟩ = some (.string (bs x.name)) ∧ w'.cell? ⟨g, off + i * 4 + 3, none⟩ = some (.string (bs x.text))) (go_keep) (fail)
        obtain ⟨W6, hW6⟩ : ∃ W6, W6 = (wr.alloc (.cells #[.int .i64 x.kind, .string (bs x.name), .slice none 0 0, .string (bs x.text)] 97)).drew := ⟨_, rfl⟩
        have HS6 : Hid (AttrU wr x 0 (.slice none 0 0) W6) := by rw [hW6]; exact ⟨block_new wr _, World.ownsRow_nil _ _ _ _, ((Fr.refl _ _).alloc _).drew⟩
        rw [← hW6]
        clear a0 a1 a2 a3 hW6
        have e2 := HS6.out.fr.cell HC.out.1 (fun h => h)
        have e3 := HS6.out.fr.cell HC.out.2 (fun h => h)
        by_cases q3 : 30 < x.attrs.length
        · have q3i : (30 : Int) < (x.attrs.length : Int) := by omega
          have HQ := Lib.hid (fitsU_elem HX.out.2 (by unfold bigU; rw [decide_eq_true q3]; simp))
          clear q3
          go_wp2_with fail
          go_ret2
          exact tm_no HQ.out (HR.out.2.2.next HS6.out.fr)
        have q3i : ¬ (30 : Int) < (x.attrs.length : Int) := by omega
        by_cases q2 : 1000 < x.text.length
        · have q2i : (1000 : Int) < (x.text.length : Int) := by omega
          have HQ := Lib.hid (fitsU_elem HX.out.2 (by unfold bigU; rw [decide_eq_true q2]; simp))
          clear q2 q3
          go_wp2_with fail
          go_ret2
          exact tm_no HQ.out (HR.out.2.2.next HS6.out.fr)
        have q2i : ¬ (1000 : Int) < (x.text.length : Int) := by omega
        have HQ := Lib.hid (And.intro q2 q3)
        have hxa : x.attrs.length ≤ 30 := by omega
        clear q2 q3
        go_wp2_with fail
        clear e2 e3
        go_loopg [7] x.attrs.length (fun j v7 w' => ∃ (k : Nat) (W : World) (av : Value), W = w' ∧ k + j = x.attrs.length ∧ v7 = .int .i64 k ∧ Hid (AttrU wr x k av W))
        case atStart => exact ⟨0, _, .slice none 0 0, rfl, by omega, rfl, HS6.out⟩
        case round =>
          obtain ⟨k, W, av, rfl, hk, rfl, HI⟩ := hrel
          have HW := Lib.hid HI.out.fr
          have e2 := HW.out.cell HC.out.1 (fun h => h)
          have b6 := HI.out.blk
          by_cases hlt2 : k < x.attrs.length
          · obtain ⟨ga, oa, rfl, hca⟩ := HAr.out.cell (by omega)
            obtain ⟨r, hr⟩ : ∃ r, x.attrs[k]? = some r := ⟨_, List.getElem?_eq_getElem hlt2⟩
            obtain ⟨m0, m1⟩ := acells_at hr
            have ca0 := HW.out.cell (hca _ _ m0) (fun h => h)
            have ca1 := HW.out.cell (hca _ _ m1) (fun h => h)
            rw [← Nat.add_assoc] at ca1
            have HK := Lib.hid (And.intro hk hr)
            obtain ⟨bv, cv, rfl⟩ := ownsRow_shape HI.out.row
            have f6 := cell_of b6 (i := 2) (v := .slice bv k cv) rfl
            have j6 := free_of 2 b6
            have hsz6 := lt_of_block b6
            have hk30 : k ≤ 30 := by omega
            clear m0 m1 hca hk hr b6
            go_wp2_with fail
            go_region_law (first
              | (refine step_append_row rfl (.tmp 60) (.tmp 80) 34 rfl (wr.heap.size + 1) 95 i95 (.agg #[.string ⟨#[]⟩, .string ⟨#[]⟩]) 2 32 Tryz.underlying34 hi95 hz95 hs95 hb95 rfl (by decide) (.slice bv k cv) k (acells (x.attrs.take k)) rfl (ownsRow_fr HI.out.row (show Fr (fun _ => False) W _ by repeat (first | exact Fr.refl _ _ | refine Fr.drew ?_ | refine Fr.alloc ?_ _))) (fun _ => True) _ 1 (acells [r]) rfl (SRow.of_block (e := 95) (f := (0, 0)) (by first | exact block_new _ _ | exact block_new_drew rfl) rfl (by decide) trivial) (acell_one r) (by unfold maxLen; omega) (by omega) (by simp; omega) ?_; intro b7 cap7 w7 hown7 hgrow7 _; obtain ⟨hb7, hR7⟩ := HI.out.push HK.out.2 (show Fr (fun _ => False) W _ by repeat (first | exact Fr.refl _ _ | refine Fr.drew ?_ | refine Fr.alloc ?_ _)) hgrow7 hown7; have HR7 := Lib.hid hR7; have g7 := cell_of hb7 (i := 2) (v := .slice bv k cv) rfl; have j7 := free_of 2 hb7; have l7 := lt_of_block hb7; clear hown7 hgrow7 hb7 hR7)
              | fail)
            all_goals
              go_wp2_with fail
              go_roundg (x.attrs.length - (k + 1))
              case measure => have := HK.out.1; omega
              case rel => exact ⟨k + 1, _, _, rfl, by have := HK.out.1; omega, by go_num, HR7.out⟩
          · obtain rfl : k = x.attrs.length := by omega
            have f60 := cell_of b6 (i := 0) (v := .int .i64 x.kind) rfl
            have f61 := cell_of b6 (i := 1) (v := .string (bs x.name)) rfl
            have f62 := cell_of b6 (i := 2) (v := av) rfl
            have f63 := cell_of b6 (i := 3) (v := .string (bs x.text)) rfl
            have hsz6 := lt_of_block b6
            obtain ⟨ps, hps1, hps2, hps3⟩ := HR.out.1
            have hpl : ps.length = i := by have h := congrArg List.length hps1; rw [List.length_map, List.length_take] at h; omega
            have hpl2 : ps.length ≤ 400 := by omega
            have HPS := Lib.hid (And.intro hps1 (And.intro hps2 hps3))
            have hrow := HI.out.row
            rw [List.take_length] at hrow
            have HB : Hid (bigU x = false) := by
              unfold bigU
              rw [decide_eq_false HQ.out.1, decide_eq_false HQ.out.2]; rfl
            have hsz0 := HR.out.2.2.size
            have HROW := Lib.hid (ownsRow_base hrow (show w.heap.size ≤ wr.heap.size + 1 by omega))
            have HWF := Lib.hid (fun (c : Obj) => HW.out.alloc c)
            have HTK := Lib.hid (show a.take (i + 1) = a.take i ++ [x] by rw [List.take_add_one, HX.out.1]; rfl)
            have hszW := HW.out.size
            clear hps1 hps2 hps3 hpl hrow b6 hk
            go_wp2_with (at_builtin; refine wpList_append_row rfl (.tmp 83) (.tmp 85) 24 rfl w.heap.size 97 i97 (.agg #[.int .i64 0, .string ⟨#[]⟩, .slice none 0 0, .string ⟨#[]⟩]) 4 64 Tryz.underlying24 hi97 hz97 hs97 hb97 rfl (by decide) tv ps.length (tcells ps) rfl (ownsRow_fr HPS.out.2.1 (HWF.out _)) (fun _ => True) _ 1 (tcells [(x, av)]) rfl (SRow.of_block (e := 97) (f := (0, 0)) (block_new _ _) rfl (by decide) trivial) (tcell_one x (own_one HROW.out)) (by unfold maxLen; omega) (by omega) (by simp; omega) ?_; intro b7 cap7 w7 hown7 hgrow7 _; have HR7 := Lib.hid (RToks.push HPS.out.1 (ownsRow_fr HPS.out.2.1 (HWF.out _)) (fun p hp => ownsRow_fr (HPS.out.2.2 p hp) (HWF.out _)) (ownsRow_fr HROW.out ((Fr.refl _ _).alloc _)) hgrow7 hown7); have HF7 := Lib.hid ((HR.out.2.2.next (HWF.out _)).grown hgrow7 (fun k hk => .inr (HPS.out.2.1.lt k hk).1)); clear hown7 hgrow7)
            go_roundg (a.length - (i + 1))
            case measure => have := HI2.out; omega
            case rel => exact ⟨i + 1, _, _, rfl, rfl, by have := HI2.out; omega, by go_num, by rw [HTK.out]; exact HR7.out, by rw [HTK.out, List.any_append, HR.out.2.1]; simp [HB.out], HF7.out⟩
      · have hi5 : i = a.length := by omega
        subst hi5
        clear hlt hi
        go_wp2_with fail
        go_ret2
        have h := HR.out
        rw [List.take_length] at h
        exact ⟨_, true, rfl, (fitsU_all HL.out h.2.1).symm, fun _ => h.1, h.2.2⟩
end Go.Proofs.YtpinjgdnhbogoaaGreatDoor
