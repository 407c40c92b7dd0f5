/- as, walked. -/
import Derived.Test.YtpinjgdnhbogoaaGreatDoorA1
import Derived.Deep.RegionHeld3
namespace Go.Proofs.YtpinjgdnhbogoaaGreatDoor
open Go.RowKit Go.Lib

theorem fits_len {a : List TokD} (h : 100 < a.length) : fitsA a = false := by unfold fitsA; rw [decide_eq_false (by omega)]; rfl
theorem fits_elem {a : List TokD} {x : TokD} (hx : x ∈ a) (h : bigT x = true) : fitsA a = false := by
  unfold fitsA
  rw [List.any_eq_true.2 ⟨x, hx, h⟩]; simp
theorem fits_all {a : List TokD} (h1 : a.length ≤ 100) (h2 : a.any bigT = false) : fitsA a = true := by unfold fitsA; rw [decide_eq_true h1, h2]; rfl
theorem big_attr {x : TokD} {p : Str × Str} (hp : p ∈ x.attrs) (h : bigA p = true) : bigT x = true := by
  unfold bigT
  rw [List.any_eq_true.2 ⟨p, hp, h⟩]; simp
theorem acell_one (p : Str × Str) : ∀ u ∈ acells [p], u.oneCell' = true := by
  intro u hu
  simp [acells] at hu
  rcases hu with rfl | rfl <;> rfl
theorem tcell_one (x : TokD) {av : Value} (h : av.oneCell' = true) : ∀ u ∈ tcells [(x, av)], u.oneCell' = true := by
  intro u hu
  simp [tcells, tc] at hu
  rcases hu with rfl | rfl | rfl | rfl
  · rfl
  · rfl
  · exact h
  · rfl
theorem own_one {w : World} {B e size n : Nat} {v : Value} {xs : List Value} (h : w.ownsRow B e size v n xs) : v.oneCell' = true := by
  rcases h.2 with ⟨rfl, _⟩ | ⟨g, cap, cur, rfl, _⟩ <;> rfl
def AsPost (a : List TokD) (w : World) (e : Ending) (w' : World) : Prop :=
  ∃ u b, e = .returned (.tuple #[u, .bool b]) ∧ b = fitsA a ∧ (b = true → RToks w.heap.size w' u a) ∧ Fr (fun _ => False) w w'
theorem as_no {a : List TokD} {w w' : World} {u : Value} (h : fitsA a = false) (hf : Fr (fun _ => False) w w') : AsPost a w (.returned (.tuple #[u, .bool false])) w' :=
  ⟨u, false, rfl, h.symm, fun e => (by cases e), hf⟩
set_option maxRecDepth 100000 in
set_option maxHeartbeats 16000000 in
theorem as_h {w : World} {S : Nat → Prop} {v : Value} {a : List TokD} (ha : TokV w S v a) : Calls Tryz.prog 39 #[v] w (AsPost a w) := by
  obtain ⟨ad, cap, rfl, hc1, hc2, _⟩ := ha.elems
  have HA := Lib.hid ha
  clear ha
  by_cases hlen : 100 < a.length
  · have HQ := Lib.hid (fits_len hlen)
    have hli : (100 : Int) < (a.length : Int) := by omega
    clear hlen
    go_enter Tryz.func39, Tryz.ntmps39
    go_wp2_with fail
    go_ret2
    exact as_no HQ.out (Fr.refl _ _)
  · have hli : ¬ (100 : Int) < (a.length : Int) := by omega
    have hl100 : a.length ≤ 100 := by omega
    have HL := Lib.hid hl100
    obtain ⟨i95, hi95, hz95, hs95, hb95⟩ := info_parts info95
    obtain ⟨i97, hi97, hz97, hs97, hb97⟩ := info_parts info97
    clear hlen
    go_enter Tryz.func39, Tryz.ntmps39
    go_wp2_with fail
    go_loopg [4, 5] a.length (fun j v4 v5 w' => ∃ (i : Nat) (wr : World) (tv : Value), wr = w' ∧ tv = v4 ∧ i + j = a.length ∧ v5 = .int .i64 i ∧ Hid (RToks w.heap.size wr tv (a.take i) ∧ (a.take i).any bigT = false ∧ Fr (fun _ => False) w wr))
    case atStart => exact ⟨0, _, _, rfl, rfl, by omega, rfl, ⟨[], rfl, World.ownsRow_nil _ _ _ _, fun p hp => by cases hp⟩, rfl, Fr.refl _ _⟩
    case round =>
      obtain ⟨i, wr, tv, rfl, rfl, hi, rfl, HR⟩ := hrel
      by_cases hlt : i < a.length
      · obtain ⟨_, _, e0, _, _, hel⟩ := (HA.out.fr HR.out.2.2 (fun _ _ h => h)).elems
        cases e0
        obtain ⟨g, off, rfl, hel2⟩ := hel (by omega)
        obtain ⟨x, hx⟩ : ∃ x, a[i]? = some x := ⟨_, List.getElem?_eq_getElem hlt⟩
        obtain ⟨avx, a0, a1, a2, a3, ar⟩ := hel2 i x hx
        obtain ⟨_, aa, acap, rfl, _, _, _, _⟩ := id ar
        have HAr := Lib.hid ar
        have HX := Lib.hid (And.intro hx (List.mem_of_getElem? hx))
        have HI2 := Lib.hid hi
        have z1 : (bs x.name).size = x.name.length := rfl
        have z2 : (bs x.text).size = x.text.length := rfl
        clear hel hel2 ar hx hi
        by_cases q1 : 100 < x.name.length
        · have q1i : (100 : Int) < (x.name.length : Int) := by omega
          have HQ := Lib.hid (fits_elem HX.out.2 (by unfold bigT; rw [decide_eq_true q1]; simp))
          clear q1
          go_wp2_with fail
          go_ret2
          exact as_no HQ.out HR.out.2.2
        have q1i : ¬ (100 : Int) < (x.name.length : Int) := by omega
        by_cases q2 : 500 < x.text.length
        · have q2i : (500 : Int) < (x.text.length : Int) := by omega
          have HQ := Lib.hid (fits_elem HX.out.2 (by unfold bigT; rw [decide_eq_true q2]; simp))
          clear q1 q2
          go_wp2_with fail
          go_ret2
          exact as_no HQ.out HR.out.2.2
        have q2i : ¬ (500 : Int) < (x.text.length : Int) := by omega
        by_cases q3 : 20 < x.attrs.length
        · have q3i : (20 : Int) < (x.attrs.length : Int) := by omega
          have HQ := Lib.hid (fits_elem HX.out.2 (by unfold bigT; rw [decide_eq_true q3]; simp))
          clear q1 q2 q3
          go_wp2_with fail
          go_ret2
          exact as_no HQ.out HR.out.2.2
        have q3i : ¬ (20 : Int) < (x.attrs.length : Int) := by omega
        have HQ := Lib.hid (And.intro q1 (And.intro q2 q3))
        clear q1 q2 q3
        go_wp2_with fail
        go_region_held3 (fun w' => w'.cell? ⟨g, off + i * 4, none⟩ = some (.int .i64 x.kind) ∧ w'.cell? ⟨g, off + i * 4 + 1, none⟩ = some (.string (bs x.name)) ∧ w'.cell? ⟨g, off + i * 4 + 3, none⟩ = some (.string (bs x.text))) (go_keep) (fail)
        go_wp2_with fail
        go_loopg [7] x.attrs.length (fun j v7 w' => ∃ (k : Nat) (W : World) (av : Value), W = w' ∧ k + j = x.attrs.length ∧ v7 = .int .i64 k ∧ Hid (AttrIn wr x k av W))
        case atStart => exact ⟨0, _, .slice none 0 0, rfl, by omega, rfl, ⟨block_new wr _, World.ownsRow_nil _ _ _ _, rfl, ((Fr.refl _ _).alloc _).drew⟩⟩
        case round =>
          obtain ⟨k, W, av, rfl, hk, rfl, HI⟩ := hrel
          have HW := Lib.hid HI.out.fr
          have e2 := HW.out.cell a2 (fun h => h)
          have b6 := HI.out.blk
          have f6 := cell_of b6 (i := 2) (v := av) rfl
          have hsz6 := lt_of_block b6
          by_cases hlt2 : k < x.attrs.length
          · obtain ⟨ga, oa, rfl, hca⟩ := HAr.out.cell (by omega)
            obtain ⟨r, hr⟩ : ∃ r, x.attrs[k]? = some r := ⟨_, List.getElem?_eq_getElem hlt2⟩
            obtain ⟨m0, m1⟩ := acells_at hr
            have ca0 := HW.out.cell (hca _ _ m0) (fun h => h)
            have ca1 := HW.out.cell (hca _ _ m1) (fun h => h)
            rw [← Nat.add_assoc] at ca1
            have HK := Lib.hid (And.intro hk (And.intro hr (List.mem_of_getElem? hr)))
            have y1 : (bs r.1).size = r.1.length := rfl
            have y2 : (bs r.2).size = r.2.length := rfl
            clear m0 m1 hca hk hr b6
            by_cases p1 : 100 < r.1.length
            · have p1i : (100 : Int) < (r.1.length : Int) := by omega
              have HP := Lib.hid (fits_elem HX.out.2 (big_attr HK.out.2.2 (by unfold bigA; rw [decide_eq_true p1]; simp)))
              clear p1
              go_wp2_with fail
              go_ret2
              exact as_no HP.out (HR.out.2.2.next (HW.out.alloc _))
            have p1i : ¬ (100 : Int) < (r.1.length : Int) := by omega
            by_cases p2 : 300 < r.2.length
            · have p2i : (300 : Int) < (r.2.length : Int) := by omega
              have HP := Lib.hid (fits_elem HX.out.2 (big_attr HK.out.2.2 (by unfold bigA; rw [decide_eq_true p2]; simp)))
              clear p1 p2
              go_wp2_with fail
              go_ret2
              exact as_no HP.out (HR.out.2.2.next (HW.out.alloc _))
            have p2i : ¬ (300 : Int) < (r.2.length : Int) := by omega
            have HP := Lib.hid (show bigA r = false by unfold bigA; rw [decide_eq_false p1, decide_eq_false p2]; rfl)
            clear p1 p2
            have HF2 : Hid (Fr (fun _ => False) W ((W.alloc (.cells #[.string (bs r.1), .string (bs r.2)] 64)).alloc (.cells #[.string (bs r.1), .string (bs r.2)] 95))) := ((Fr.refl _ _).alloc _).alloc _
            have hk20 : k ≤ 20 := by omega
            go_wp2_with (at_builtin; refine wpList_append_row rfl (.tmp 88) (.tmp 94) 34 rfl (wr.heap.size + 1) 95 i95 (.agg #[.string ⟨#[]⟩, .string ⟨#[]⟩]) 2 32 Tryz.underlying34 hi95 hz95 hs95 hb95 rfl (by decide) av k (acells (x.attrs.take k)) rfl (ownsRow_fr HI.out.row HF2.out) (fun _ => True) _ 1 (acells [r]) rfl (SRow.of_block (e := 95) (f := (0, 0)) (block_new_at (by simp)) rfl (by decide) trivial) (acell_one r) (by unfold maxLen; omega) (by omega) (by simp; omega) ?_; intro b7 cap7 w7 hown7 hgrow7 _; obtain ⟨hb7, hR7⟩ := HI.out.push HK.out.2.1 HP.out HF2.out hgrow7 hown7; have HR7 := Lib.hid hR7; have g7 := cell_of hb7 (i := 2) (v := av) rfl; have j7 := free_of 2 hb7; clear hown7 hgrow7 hb7 hR7 f6)
            go_roundg (x.attrs.length - (k + 1))
            case measure => have := HK.out.1; omega
            case rel => exact ⟨k + 1, _, _, rfl, by have := HK.out.1; omega, by go_num, HR7.out⟩
          · obtain rfl : k = x.attrs.length := by omega
            have f60 := cell_of b6 (i := 0) (v := .int .i64 x.kind) rfl
            have f61 := cell_of b6 (i := 1) (v := .string (bs x.name)) rfl
            have f63 := cell_of b6 (i := 3) (v := .string (bs x.text)) rfl
            have hsz6 := lt_of_block b6
            obtain ⟨ps, hps1, hps2, hps3⟩ := HR.out.1
            have hpl : ps.length = i := by have h := congrArg List.length hps1; rw [List.length_map, List.length_take] at h; omega
            have hpl2 : ps.length ≤ 100 := by omega
            have HPS := Lib.hid (And.intro hps1 (And.intro hps2 hps3))
            have hrow := HI.out.row
            rw [List.take_length] at hrow
            have hok := HI.out.ok
            rw [List.take_length] at hok
            have HB : Hid (bigT x = false) := by
              unfold bigT
              rw [hok, decide_eq_false HQ.out.1, decide_eq_false HQ.out.2.1, decide_eq_false HQ.out.2.2]; rfl
            have hsz0 := HR.out.2.2.size
            have HROW := Lib.hid (ownsRow_base hrow (show w.heap.size ≤ wr.heap.size + 1 by omega))
            have HWF := Lib.hid (fun (c : Obj) => HW.out.alloc c)
            have HTK := Lib.hid (show a.take (i + 1) = a.take i ++ [x] by rw [List.take_add_one, HX.out.1]; rfl)
            have hszW := HW.out.size
            clear hps1 hps2 hps3 hpl hrow hok b6 hk
            go_wp2_with (at_builtin; refine wpList_append_row rfl (.tmp 97) (.tmp 99) 24 rfl w.heap.size 97 i97 (.agg #[.int .i64 0, .string ⟨#[]⟩, .slice none 0 0, .string ⟨#[]⟩]) 4 64 Tryz.underlying24 hi97 hz97 hs97 hb97 rfl (by decide) tv ps.length (tcells ps) rfl (ownsRow_fr HPS.out.2.1 (HWF.out _)) (fun _ => True) _ 1 (tcells [(x, av)]) rfl (SRow.of_block (e := 97) (f := (0, 0)) (block_new _ _) rfl (by decide) trivial) (tcell_one x (own_one HROW.out)) (by unfold maxLen; omega) (by omega) (by simp; omega) ?_; intro b7 cap7 w7 hown7 hgrow7 _; have HR7 := Lib.hid (RToks.push HPS.out.1 (ownsRow_fr HPS.out.2.1 (HWF.out _)) (fun p hp => ownsRow_fr (HPS.out.2.2 p hp) (HWF.out _)) (ownsRow_fr HROW.out ((Fr.refl _ _).alloc _)) hgrow7 hown7); have HF7 := Lib.hid ((HR.out.2.2.next (HWF.out _)).grown hgrow7 (fun k hk => .inr (HPS.out.2.1.lt k hk).1)); clear hown7 hgrow7)
            go_roundg (a.length - (i + 1))
            case measure => have := HI2.out; omega
            case rel => exact ⟨i + 1, _, _, rfl, rfl, by have := HI2.out; omega, by go_num, by rw [HTK.out]; exact HR7.out, by rw [HTK.out, List.any_append, HR.out.2.1]; simp [HB.out], HF7.out⟩
      · have hi5 : i = a.length := by omega
        subst hi5
        clear hlt hi
        go_wp2_with fail
        go_ret2
        have h := HR.out
        rw [List.take_length] at h
        exact ⟨_, true, rfl, (fits_all HL.out h.2.1).symm, fun _ => h.1, h.2.2⟩
end Go.Proofs.YtpinjgdnhbogoaaGreatDoor
