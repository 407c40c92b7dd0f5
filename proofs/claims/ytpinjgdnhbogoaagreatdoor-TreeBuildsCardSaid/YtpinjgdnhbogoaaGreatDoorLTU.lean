/- chapter 12's examples, shown; law 12's own tokens; the reference's with and Read; its Parse and the law TreeBuilds: walked. -/
import Derived.Test.YtpinjgdnhbogoaaGreatDoorNB
import Derived.Test.YtpinjgdnhbogoaaGreatDoorNS
import Derived.Test.YtpinjgdnhbogoaaGreatDoorNQ
import Derived.Test.YtpinjgdnhbogoaaGreatDoorM7
import Derived.Test.YtpinjgdnhbogoaaGreatDoorN3
import Derived.Deep.RegionLaw
import Derived.Deep.RegionHeld3
import Derived.Test.YtpinjgdnhbogoaaGreatDoorQB
import Derived.Test.YtpinjgdnhbogoaaGreatDoorQ5
import Derived.Test.YtpinjgdnhbogoaaGreatDoorY4
import Derived.Test.YtpinjgdnhbogoaaGreatDoorO8
namespace Go.Proofs.YtpinjgdnhbogoaaGreatDoor
open Go.RowKit Go.Lib

def tx1 : Str := [60, 97, 32, 120, 61, 34, 49, 34, 62, 112, 60, 98, 47, 62, 113, 60, 98, 62, 114, 60, 47, 98, 62, 60, 47, 97, 62]
def tw1 : NodeD := .mk [97] [([120], [49])] [112, 113] [.mk [98] [] [] [], .mk [98] [] [114] []]
theorem tp1 : outE (parseL tx1) = 0 ∧ sameN (outN (parseL tx1)) tw1 = true := by decide +kernel
theorem tp2 : outE (parseL [60, 97, 62, 60, 98, 62, 60, 47, 97, 62]) = 8 := by decide +kernel
theorem tp3 : outE (parseL [60, 97, 47, 62, 60, 98, 47, 62]) = 8 := by decide +kernel
theorem tp4 : outE (parseL [120, 60, 97, 47, 62]) = 8 := by decide +kernel
theorem tp5 : outE (parseL []) = 8 := by decide +kernel
theorem tp6 : squeezeL [32, 32, 97, 32, 10, 32, 98, 32] = [97, 32, 98] := by decide +kernel
theorem parse_err_at {w : World} (hE : Env w) {s : Str} {er : Int} (h : outE (parseL s) = er) (hs : s.length ≤ 1000000) : Calls Tryz.prog 26 #[.string (bs s)] w fun e w' => (∃ s0 a1 n1 p1 s2 a3 n3 p3, e = .returned (.tuple #[.agg #[.string s0, .slice a1 n1 p1, .string s2, .slice a3 n3 p3], .int .i64 er])) ∧ Fr (fun _ => False) w w' := by
  refine (parse_h hE s hs).mono ?_
  rintro e w' ⟨c0, c1, c2, c3, rfl, ⟨s0, a1, n1, p1, s2, a3, n3, p3, rfl, rfl, rfl, rfl⟩, h2, _⟩
  rw [h]
  exact ⟨⟨_, _, _, _, _, _, _, _, rfl⟩, h2⟩
set_option maxRecDepth 100000 in
set_option maxHeartbeats 8000000 in
theorem tshown_h {w : World} (hE : Env w) : Calls Tryz.prog 22 #[] w fun e w' => e = .returned (.bool true) ∧ Fr (fun _ => False) w w' := by
  have H1 := Lib.hid (parse_h hE tx1 (by decide))
  have HP2 := Lib.hid (fun (W : World) (hF : Fr (fun _ => False) w W) => parse_err_at (hE.grow hF) tp2 (by decide))
  have HP3 := Lib.hid (fun (W : World) (hF : Fr (fun _ => False) w W) => parse_err_at (hE.grow hF) tp3 (by decide))
  have HP4 := Lib.hid (fun (W : World) (hF : Fr (fun _ => False) w W) => parse_err_at (hE.grow hF) tp4 (by decide))
  have HP5 := Lib.hid (fun (W : World) (hF : Fr (fun _ => False) w W) => parse_err_at (hE.grow hF) tp5 (by decide))
  have HSq := Lib.hid (fun (W : World) => squeeze_h (w := W) [32, 32, 97, 32, 10, 32, 98, 32] (by decide))
  rw [tp6] at HSq
  clear hE
  go_enter Tryz.func22, Tryz.ntmps22
  go_wp2_with fail
  refine Calls.mono H1.out ?_
  rintro e w1 ⟨c0, c1, c2, c3, rfl, ⟨s0, a1, n1, p1, s2, a3, n3, p3, rfl, rfl, rfl, rfl⟩, hF1, hn1⟩
  rw [tp1.1]
  have HF1 := Lib.hid hF1
  have HN1 := Lib.hid hn1
  clear hF1 hn1
  go_wp2_with fail
  generalize hW3 : (((w1.alloc (.cells #[.string s0, .slice a1 n1 p1, .string s2, .slice a3 n3 p3] 30)).alloc (.cells #[.string ⟨#[120]⟩, .string ⟨#[49]⟩] 95)).alloc (.cells #[.string ⟨#[98]⟩, .slice none 0 0, .string ⟨#[]⟩, .slice none 0 0, .string ⟨#[98]⟩, .slice none 0 0, .string ⟨#[114]⟩, .slice none 0 0] 37)).alloc (.cells #[.string ⟨#[97]⟩, .slice (some ⟨w1.heap.size + 1, 0, none⟩) 1 1, .string ⟨#[112, 113]⟩, .slice (some ⟨w1.heap.size + 1 + 1, 0, none⟩) 2 2] 37) = W3
  have hF3 : Fr (fun _ => False) w1 W3 := by rw [← hW3]; exact ((((Fr.refl _ _).alloc _).alloc _).alloc _).alloc _
  have hb1 : W3.heap[w1.heap.size + 1]? = some (.cells #[.string ⟨#[120]⟩, .string ⟨#[49]⟩] 95 (0, 0)) := by rw [← hW3]; exact block_old (block_old (block_new_at (by simp)) _) _
  have hb2 : W3.heap[w1.heap.size + 1 + 1]? = some (.cells #[.string ⟨#[98]⟩, .slice none 0 0, .string ⟨#[]⟩, .slice none 0 0, .string ⟨#[98]⟩, .slice none 0 0, .string ⟨#[114]⟩, .slice none 0 0] 37 (0, 0)) := by rw [← hW3]; exact block_old (block_new_at (by simp)) _
  have hV : NodeV W3 (fun _ => True) tw1 [.string ⟨#[97]⟩, .slice (some ⟨w1.heap.size + 1, 0, none⟩) 1 1, .string ⟨#[112, 113]⟩, .slice (some ⟨w1.heap.size + 1 + 1, 0, none⟩) 2 2] :=
    NodeV.intro (nm := [97]) (tx := [112, 113]) (la := [([120], [49])]) (ks := [.mk [98] [] [] [], .mk [98] [] [114] []]) (xs := [.string ⟨#[98]⟩, .slice none 0 0, .string ⟨#[]⟩, .slice none 0 0, .string ⟨#[98]⟩, .slice none 0 0, .string ⟨#[114]⟩, .slice none 0 0])
      (SRow.of_block (e := 95) (f := (0, 0)) hb1 rfl (by decide) trivial) (SRow.of_block (e := 37) (f := (0, 0)) hb2 rfl (by decide) trivial)
      (KidsV.cons.2 ⟨[.string ⟨#[98]⟩, .slice none 0 0, .string ⟨#[]⟩, .slice none 0 0], [.string ⟨#[98]⟩, .slice none 0 0, .string ⟨#[114]⟩, .slice none 0 0], rfl, NodeV.intro (nm := [98]) (tx := []) (la := []) (ks := []) (xs := []) (SRow.nil _ _ _) (SRow.nil _ _ _) (KidsV.nil.2 rfl),
        KidsV.cons.2 ⟨[.string ⟨#[98]⟩, .slice none 0 0, .string ⟨#[114]⟩, .slice none 0 0], [], rfl, NodeV.intro (nm := [98]) (tx := [114]) (la := []) (ks := []) (xs := []) (SRow.nil _ _ _) (SRow.nil _ _ _) (KidsV.nil.2 rfl), KidsV.nil.2 rfl⟩⟩)
  have HF3 := Lib.hid (HF1.out.next hF3)
  have HSame := Lib.hid (same_h (weighN (outN (parseL tx1)) + 1) (outN (parseL tx1)) (Nat.lt_succ_self _) W3 _ _ tw1 _ _ _ _ _ _ _ _ (NodeV.fr hF3 (fun _ _ h => h) _ HN1.out) hV)
  clear hW3 hF3 hb1 hb2 hV
  refine Calls.mono HSame.out ?_
  rintro e w4 ⟨rfl, hF4⟩
  rw [tp1.2]
  have HF4 := Lib.hid (HF3.out.next hF4)
  clear hF4
  go_wp2_with fail
  refine Calls.mono (HP2.out _ HF4.out) ?_
  rintro e w5 ⟨⟨s0, a1, n1, p1, s2, a3, n3, p3, rfl⟩, hF5⟩
  have HF5 := Lib.hid (HF4.out.next hF5)
  clear hF5
  go_wp2_with fail
  refine Calls.mono (HP3.out _ (HF5.out.alloc _)) ?_
  rintro e w6 ⟨⟨s0, a1, n1, p1, s2, a3, n3, p3, rfl⟩, hF6⟩
  have HF6 := Lib.hid ((HF5.out.alloc _).next hF6)
  clear hF6
  go_wp2_with fail
  refine Calls.mono (HP4.out _ (HF6.out.alloc _)) ?_
  rintro e w7 ⟨⟨s0, a1, n1, p1, s2, a3, n3, p3, rfl⟩, hF7⟩
  have HF7 := Lib.hid ((HF6.out.alloc _).next hF7)
  clear hF7
  go_wp2_with fail
  refine Calls.mono (HP5.out _ (HF7.out.alloc _)) ?_
  rintro e w8 ⟨⟨s0, a1, n1, p1, s2, a3, n3, p3, rfl⟩, hF8⟩
  have HF8 := Lib.hid ((HF7.out.alloc _).next hF8)
  clear hF8
  go_wp2_with fail
  refine Calls.mono (HSq.out _) ?_
  rintro e w9 ⟨rfl, hF9⟩
  have HF9 := Lib.hid ((HF8.out.alloc _).next hF9)
  have eq9 : ((bs [97, 32, 98]).toList == [97, 32, 98]) = true := by rw [bs_toList]; rfl
  clear hF9
  go_wp2_with fail
  go_ret
  exact ⟨rfl, HF9.out⟩

def bigU (x : TokD) : Bool := decide (30 < x.attrs.length) || decide (1000 < x.text.length)
def fitsU (a : List TokD) : Bool := decide (a.length ≤ 400) && !a.any bigU
theorem fitsU_len {a : List TokD} (h : 400 < a.length) : fitsU a = false := by unfold fitsU; rw [decide_eq_false (by omega)]; rfl
theorem fitsU_elem {a : List TokD} {x : TokD} (hx : x ∈ a) (h : bigU x = true) : fitsU a = false := by
  unfold fitsU
  rw [List.any_eq_true.2 ⟨x, hx, h⟩]; simp
theorem fitsU_all {a : List TokD} (h1 : a.length ≤ 400) (h2 : a.any bigU = false) : fitsU a = true := by unfold fitsU; rw [decide_eq_true h1, h2]; rfl
structure AttrU (w9 : World) (x : TokD) (k : Nat) (av : Value) (W : World) : Prop where
  blk : W.heap[w9.heap.size]? = some (.cells #[.int .i64 x.kind, .string (bs x.name), av, .string (bs x.text)] 97 (0, 0))
  row : W.ownsRow (w9.heap.size + 1) 95 2 av k (acells (x.attrs.take k))
  fr : Fr (fun _ => False) w9 W
theorem AttrU.push {w9 W W2 w7 : World} {x : TokD} {k : Nat} {av av2 : Value} {p : Str × Str} (h : AttrU w9 x k av W) (hx : x.attrs[k]? = some p) (hF : Fr (fun _ => False) W W2)
    (hg : W2.grownBy w7 av.ownBlock) (hr : w7.ownsRow (w9.heap.size + 1) 95 2 av2 (k + 1) (acells (x.attrs.take k) ++ acells [p])) :
    w7.heap[w9.heap.size]? = some (.cells #[.int .i64 x.kind, .string (bs x.name), av, .string (bs x.text)] 97 (0, 0)) ∧ AttrU w9 x (k + 1) av2 (w7.setCell ⟨w9.heap.size, 2, none⟩ av2) := by
  obtain ⟨h1, h2, h4⟩ := h
  have htk : x.attrs.take (k + 1) = x.attrs.take k ++ [p] := by rw [List.take_add_one, hx]; rfl
  have hr2 := ownsRow_fr h2 hF
  have hb2 := hF.keep h1 (fun h => h)
  have hb7 := block_grown hb2 hg (fun e => by have := (hr2.lt _ e.symm).1; omega)
  have hne := own_ne hr hb7 (by decide)
  refine ⟨hb7, block_set hb7 2 av2, ?_, ?_⟩
  · rw [htk, ← acells_app]
    exact ownsRow_keep hr fun j hj => block_set_ne (fun e => hne (by rw [hj, e]))
  · exact Fr.setCell (p := ⟨w9.heap.size, 2, none⟩) ((h4.next hF).grown hg fun j hj => .inr (by have := (hr2.lt _ hj).1; omega)) (.inr (Nat.le_refl _)) _
def TmPost (a : List TokD) (w : World) (e : Ending) (w' : World) : Prop :=
  ∃ u b, e = .returned (.tuple #[u, .bool b]) ∧ b = fitsU a ∧ (b = true → RToks w.heap.size w' u a) ∧ Fr (fun _ => False) w w'
theorem tm_no {a : List TokD} {w w' : World} {u : Value} (h : fitsU a = false) (hf : Fr (fun _ => False) w w') : TmPost a w (.returned (.tuple #[u, .bool false])) w' :=
  ⟨u, false, rfl, h.symm, fun e => (by cases e), hf⟩
set_option maxRecDepth 100000 in
set_option maxHeartbeats 16000000 in
theorem toksm_h {w : World} {S : Nat → Prop} {v : Value} {a : List TokD} (ha : TokV w S v a) : Calls Tryz.prog 23 #[v] w (TmPost a w) := by
  obtain ⟨ad, cap, rfl, hc1, hc2, _⟩ := ha.elems
  have HA := Lib.hid ha
  clear ha
  by_cases hlen : 400 < a.length
  · have HQ := Lib.hid (fitsU_len hlen)
    have hli : (400 : Int) < (a.length : Int) := by omega
    clear hlen
    go_enter Tryz.func23, Tryz.ntmps23
    go_wp2_with fail
    go_ret2
    exact tm_no HQ.out (Fr.refl _ _)
  · have hli : ¬ (400 : Int) < (a.length : Int) := by omega
    have hl400 : a.length ≤ 400 := by omega
    have HL := Lib.hid hl400
    obtain ⟨i95, hi95, hz95, hs95, hb95⟩ := info_parts info95
    obtain ⟨i97, hi97, hz97, hs97, hb97⟩ := info_parts info97
    clear hlen
    go_enter Tryz.func23, Tryz.ntmps23
    go_wp2_with fail
    go_loopg [4, 5] a.length (fun j v4 v5 w' => ∃ (i : Nat) (wr : World) (tv : Value), wr = w' ∧ tv = v4 ∧ i + j = a.length ∧ v5 = .int .i64 i ∧ Hid (RToks w.heap.size wr tv (a.take i) ∧ (a.take i).any bigU = false ∧ Fr (fun _ => False) w wr))
    case atStart => exact ⟨0, _, _, rfl, rfl, by omega, rfl, ⟨[], rfl, World.ownsRow_nil _ _ _ _, fun p hp => by cases hp⟩, rfl, Fr.refl _ _⟩
    case round =>
      obtain ⟨i, wr, tv, rfl, rfl, hi, rfl, HR⟩ := hrel
      by_cases hlt : i < a.length
      · obtain ⟨_, _, e0, _, _, hel⟩ := (HA.out.fr HR.out.2.2 (fun _ _ h => h)).elems
        cases e0
        obtain ⟨g, off, rfl, hel2⟩ := hel (by omega)
        obtain ⟨x, hx⟩ : ∃ x, a[i]? = some x := ⟨_, List.getElem?_eq_getElem hlt⟩
        obtain ⟨avx, a0, a1, a2, a3, ar⟩ := hel2 i x hx
        obtain ⟨_, aa, acap, rfl, _, _, _, _⟩ := id ar
        have HAr := Lib.hid ar
        have HX := Lib.hid (And.intro hx (List.mem_of_getElem? hx))
        have HI2 := Lib.hid hi
        have HC := Lib.hid (And.intro a2 a3)
        have z2 : (bs x.text).size = x.text.length := rfl
        clear hel hel2 ar hx hi
        go_wp2_with fail
        go_region_held3 (fun w' => w'.cell? ⟨g, off + i * 4, none⟩ = some (.int .i64 x.kind) ∧ w'.cell? ⟨g, off + i * 4 + 1, none⟩ = some (.string (bs x.name)) ∧ w'.cell? ⟨g, off + i * 4 + 3, none⟩ = some (.string (bs x.text))) (go_keep) (fail)
        obtain ⟨W6, hW6⟩ : ∃ W6, W6 = (wr.alloc (.cells #[.int .i64 x.kind, .string (bs x.name), .slice none 0 0, .string (bs x.text)] 97)).drew := ⟨_, rfl⟩
        have HS6 : Hid (AttrU wr x 0 (.slice none 0 0) W6) := by rw [hW6]; exact ⟨block_new wr _, World.ownsRow_nil _ _ _ _, ((Fr.refl _ _).alloc _).drew⟩
        rw [← hW6]
        clear a0 a1 a2 a3 hW6
        have e2 := HS6.out.fr.cell HC.out.1 (fun h => h)
        have e3 := HS6.out.fr.cell HC.out.2 (fun h => h)
        by_cases q3 : 30 < x.attrs.length
        · have q3i : (30 : Int) < (x.attrs.length : Int) := by omega
          have HQ := Lib.hid (fitsU_elem HX.out.2 (by unfold bigU; rw [decide_eq_true q3]; simp))
          clear q3
          go_wp2_with fail
          go_ret2
          exact tm_no HQ.out (HR.out.2.2.next HS6.out.fr)
        have q3i : ¬ (30 : Int) < (x.attrs.length : Int) := by omega
        by_cases q2 : 1000 < x.text.length
        · have q2i : (1000 : Int) < (x.text.length : Int) := by omega
          have HQ := Lib.hid (fitsU_elem HX.out.2 (by unfold bigU; rw [decide_eq_true q2]; simp))
          clear q2 q3
          go_wp2_with fail
          go_ret2
          exact tm_no HQ.out (HR.out.2.2.next HS6.out.fr)
        have q2i : ¬ (1000 : Int) < (x.text.length : Int) := by omega
        have HQ := Lib.hid (And.intro q2 q3)
        have hxa : x.attrs.length ≤ 30 := by omega
        clear q2 q3
        go_wp2_with fail
        clear e2 e3
        go_loopg [7] x.attrs.length (fun j v7 w' => ∃ (k : Nat) (W : World) (av : Value), W = w' ∧ k + j = x.attrs.length ∧ v7 = .int .i64 k ∧ Hid (AttrU wr x k av W))
        case atStart => exact ⟨0, _, .slice none 0 0, rfl, by omega, rfl, HS6.out⟩
        case round =>
          obtain ⟨k, W, av, rfl, hk, rfl, HI⟩ := hrel
          have HW := Lib.hid HI.out.fr
          have e2 := HW.out.cell HC.out.1 (fun h => h)
          have b6 := HI.out.blk
          by_cases hlt2 : k < x.attrs.length
          · obtain ⟨ga, oa, rfl, hca⟩ := HAr.out.cell (by omega)
            obtain ⟨r, hr⟩ : ∃ r, x.attrs[k]? = some r := ⟨_, List.getElem?_eq_getElem hlt2⟩
            obtain ⟨m0, m1⟩ := acells_at hr
            have ca0 := HW.out.cell (hca _ _ m0) (fun h => h)
            have ca1 := HW.out.cell (hca _ _ m1) (fun h => h)
            rw [← Nat.add_assoc] at ca1
            have HK := Lib.hid (And.intro hk hr)
            obtain ⟨bv, cv, rfl⟩ := ownsRow_shape HI.out.row
            have f6 := cell_of b6 (i := 2) (v := .slice bv k cv) rfl
            have j6 := free_of 2 b6
            have hsz6 := lt_of_block b6
            have hk30 : k ≤ 30 := by omega
            clear m0 m1 hca hk hr b6
            go_wp2_with fail
            go_region_law (first
              | (refine step_append_row rfl (.tmp 60) (.tmp 80) 34 rfl (wr.heap.size + 1) 95 i95 (.agg #[.string ⟨#[]⟩, .string ⟨#[]⟩]) 2 32 Tryz.underlying34 hi95 hz95 hs95 hb95 rfl (by decide) (.slice bv k cv) k (acells (x.attrs.take k)) rfl (ownsRow_fr HI.out.row (show Fr (fun _ => False) W _ by repeat (first | exact Fr.refl _ _ | refine Fr.drew ?_ | refine Fr.alloc ?_ _))) (fun _ => True) _ 1 (acells [r]) rfl (SRow.of_block (e := 95) (f := (0, 0)) (by first | exact block_new _ _ | exact block_new_drew rfl) rfl (by decide) trivial) (acell_one r) (by unfold maxLen; omega) (by omega) (by simp; omega) ?_; intro b7 cap7 w7 hown7 hgrow7 _; obtain ⟨hb7, hR7⟩ := HI.out.push HK.out.2 (show Fr (fun _ => False) W _ by repeat (first | exact Fr.refl _ _ | refine Fr.drew ?_ | refine Fr.alloc ?_ _)) hgrow7 hown7; have HR7 := Lib.hid hR7; have g7 := cell_of hb7 (i := 2) (v := .slice bv k cv) rfl; have j7 := free_of 2 hb7; have l7 := lt_of_block hb7; clear hown7 hgrow7 hb7 hR7)
              | fail)
            all_goals
              go_wp2_with fail
              go_roundg (x.attrs.length - (k + 1))
              case measure => have := HK.out.1; omega
              case rel => exact ⟨k + 1, _, _, rfl, by have := HK.out.1; omega, by go_num, HR7.out⟩
          · obtain rfl : k = x.attrs.length := by omega
            have f60 := cell_of b6 (i := 0) (v := .int .i64 x.kind) rfl
            have f61 := cell_of b6 (i := 1) (v := .string (bs x.name)) rfl
            have f62 := cell_of b6 (i := 2) (v := av) rfl
            have f63 := cell_of b6 (i := 3) (v := .string (bs x.text)) rfl
            have hsz6 := lt_of_block b6
            obtain ⟨ps, hps1, hps2, hps3⟩ := HR.out.1
            have hpl : ps.length = i := by have h := congrArg List.length hps1; rw [List.length_map, List.length_take] at h; omega
            have hpl2 : ps.length ≤ 400 := by omega
            have HPS := Lib.hid (And.intro hps1 (And.intro hps2 hps3))
            have hrow := HI.out.row
            rw [List.take_length] at hrow
            have HB : Hid (bigU x = false) := by
              unfold bigU
              rw [decide_eq_false HQ.out.1, decide_eq_false HQ.out.2]; rfl
            have hsz0 := HR.out.2.2.size
            have HROW := Lib.hid (ownsRow_base hrow (show w.heap.size ≤ wr.heap.size + 1 by omega))
            have HWF := Lib.hid (fun (c : Obj) => HW.out.alloc c)
            have HTK := Lib.hid (show a.take (i + 1) = a.take i ++ [x] by rw [List.take_add_one, HX.out.1]; rfl)
            have hszW := HW.out.size
            clear hps1 hps2 hps3 hpl hrow b6 hk
            go_wp2_with (at_builtin; refine wpList_append_row rfl (.tmp 83) (.tmp 85) 24 rfl w.heap.size 97 i97 (.agg #[.int .i64 0, .string ⟨#[]⟩, .slice none 0 0, .string ⟨#[]⟩]) 4 64 Tryz.underlying24 hi97 hz97 hs97 hb97 rfl (by decide) tv ps.length (tcells ps) rfl (ownsRow_fr HPS.out.2.1 (HWF.out _)) (fun _ => True) _ 1 (tcells [(x, av)]) rfl (SRow.of_block (e := 97) (f := (0, 0)) (block_new _ _) rfl (by decide) trivial) (tcell_one x (own_one HROW.out)) (by unfold maxLen; omega) (by omega) (by simp; omega) ?_; intro b7 cap7 w7 hown7 hgrow7 _; have HR7 := Lib.hid (RToks.push HPS.out.1 (ownsRow_fr HPS.out.2.1 (HWF.out _)) (fun p hp => ownsRow_fr (HPS.out.2.2 p hp) (HWF.out _)) (ownsRow_fr HROW.out ((Fr.refl _ _).alloc _)) hgrow7 hown7); have HF7 := Lib.hid ((HR.out.2.2.next (HWF.out _)).grown hgrow7 (fun k hk => .inr (HPS.out.2.1.lt k hk).1)); clear hown7 hgrow7)
            go_roundg (a.length - (i + 1))
            case measure => have := HI2.out; omega
            case rel => exact ⟨i + 1, _, _, rfl, rfl, by have := HI2.out; omega, by go_num, by rw [HTK.out]; exact HR7.out, by rw [HTK.out, List.any_append, HR.out.2.1]; simp [HB.out], HF7.out⟩
      · have hi5 : i = a.length := by omega
        subst hi5
        clear hlt hi
        go_wp2_with fail
        go_ret2
        have h := HR.out
        rw [List.take_length] at h
        exact ⟨_, true, rfl, (fitsU_all HL.out h.2.1).symm, fun _ => h.1, h.2.2⟩

set_option maxRecDepth 100000 in
set_option maxHeartbeats 8000000 in
theorem rwith_h {w : World} {B cap : Nat} {a : Option Addr} {l : List TokD} (words : Str) (h : RToks B w (.slice a l.length cap) l) (hB : B ≤ w.heap.size) (hl : l.length ≤ 1000000) :
    Calls Tryz.prog 86 #[.slice a l.length cap, .string (bs words)] w fun e w' => ∃ b c, e = .returned (.slice b (flushL l words).length c) ∧ RToks B w' (.slice b (flushL l words).length c) (flushL l words) ∧ Fr (fun _ => False) w w' := by
  have H := Lib.hid h
  clear h
  by_cases h0 : words = []
  · subst h0
    have hnb : bs ([] : Str) = ⟨#[]⟩ := rfl
    rw [hnb]
    go_enter Tryz.func86, Tryz.ntmps86
    go_wp2_with fail
    go_ret
    exact ⟨a, cap, rfl, H.out, Fr.refl _ _⟩
  have tn : ((bs words).toList == []) = false := by rw [bs_toList]; exact beq_eq_false_iff_ne.2 h0
  have tn2 : decide (bs words = ⟨#[]⟩) = false := decide_eq_false fun e => h0 (bs_inj2 e)
  have tn4 : (bs words).toList.isEmpty = false := by rw [bs_toList]; simpa using h0
  have HFl : Hid (flushL l words = l ++ [⟨3, [], [], words⟩] ∧ (flushL l words).length = l.length + 1) := by
    have e : flushL l words = l ++ [⟨3, [], [], words⟩] := by unfold flushL; rw [if_neg (by simpa using h0)]
    exact ⟨e, by rw [e]; simp⟩
  obtain ⟨i97, hi97, hz97, hs97, hb97⟩ := info_parts info97
  have HF1 : Hid (Fr (fun _ => False) w (w.alloc (.cells #[] 97))) := (Fr.refl _ _).alloc _
  have HE : Hid ((w.alloc (.cells #[] 97)).ownsRow w.heap.size 97 4 (.slice (some ⟨w.heap.size, 0, none⟩) 0 0) 0 []) := ⟨rfl, .inr ⟨_, 0, _, rfl, Nat.le_refl _, block_new _ _, by simp, by decide, rfl, rfl⟩⟩
  obtain ⟨ps, e1, e2, e3⟩ := H.out
  have hpl : ps.length = l.length := by rw [← e1, List.length_map]
  rw [hpl] at e2
  have HP := Lib.hid (And.intro e1 (And.intro e2 e3))
  clear e1 e2 e3 hpl h0
  go_enter Tryz.func86, Tryz.ntmps86
  go_wp2_with (first
    | (at_builtin; refine wpList_append_row rfl (.tmp 8) (.tmp 9) 24 rfl w.heap.size 97 i97 (.agg #[.int .i64 0, .string ⟨#[]⟩, .slice none 0 0, .string ⟨#[]⟩]) 4 64 Tryz.underlying24 hi97 hz97 hs97 hb97 rfl (by decide) (.slice (some ⟨w.heap.size, 0, none⟩) 0 0) 0 [] rfl HE.out (fun k => B ≤ k ∧ k < (w.alloc (.cells #[] 97)).heap.size) _ l.length (tcells ps) rfl ((SRow.of_owns (ownsRow_fr HP.out.2.1 HF1.out)).mono fun k hk => (ownsRow_fr HP.out.2.1 HF1.out).lt k hk) (tcells_oneR HP.out.2.2) (by unfold maxLen; omega) (by omega) HF1.out.size ?_; intro b6 cap6 w6 hown6 hgrow6 _; have HO6 : Hid (w6.ownsRow w.heap.size 97 4 (.slice b6 l.length cap6) l.length (tcells ps)) := (by have h := hown6; rw [Nat.zero_add] at h; exact h); have HF6 : Hid (Fr (fun _ => False) w w6) := HF1.out.grown hgrow6 (fun k hk => .inr (HE.out.lt k hk).1); have HF6b : Hid (Fr (fun _ => False) w6 (w6.alloc (.cells #[.int .i64 3, .string ⟨#[]⟩, .slice none 0 0, .string (bs words)] 97))) := (Fr.refl _ _).alloc _; have HBL : Hid (SRow (w6.alloc (.cells #[.int .i64 3, .string ⟨#[]⟩, .slice none 0 0, .string (bs words)] 97)) (fun _ => True) 4 (.slice (some ⟨w6.heap.size, 0, none⟩) 1 1) 1 (tcells [((⟨3, [], [], words⟩ : TokD), Value.slice none 0 0)])) := SRow.of_block (e := 97) (f := (0, 0)) (block_new w6 _) rfl (by decide) trivial; clear hown6 hgrow6)
    | (at_builtin; refine wpList_append_row rfl (.tmp 10) (.tmp 13) 24 rfl w.heap.size 97 i97 (.agg #[.int .i64 0, .string ⟨#[]⟩, .slice none 0 0, .string ⟨#[]⟩]) 4 64 Tryz.underlying24 hi97 hz97 hs97 hb97 rfl (by decide) (.slice b6 l.length cap6) l.length (tcells ps) rfl (ownsRow_fr HO6.out HF6b.out) (fun _ => True) _ 1 (tcells [((⟨3, [], [], words⟩ : TokD), Value.slice none 0 0)]) rfl HBL.out (by intro u hu; simp [tcells, tc] at hu; rcases hu with rfl | rfl | rfl | rfl <;> rfl) (by unfold maxLen; omega) (by omega) (Nat.le_trans HF6.out.size HF6b.out.size) ?_; intro b7 cap7 w7 hown7 hgrow7 _; have HR7 := Lib.hid (And.intro hown7 hgrow7); clear hown7 hgrow7))
  go_ret
  have hl2 := HFl.out.2
  refine ⟨b7, cap7, by rw [hl2] <;> rfl, ?_, (HF6.out.next HF6b.out).grown HR7.out.2 fun k hk => .inr (HO6.out.lt k hk).1⟩
  have hpl : ps.length = l.length := by rw [← HP.out.1, List.length_map]
  have h7 := RToks.app (B := B) (w := w6.alloc (.cells #[.int .i64 3, .string ⟨#[]⟩, .slice none 0 0, .string (bs words)] 97)) (w7 := w7) (v := .slice b6 l.length cap6) (v2 := .slice b7 (l.length + 1) cap7) (ps := ps) (qs := [((⟨3, [], [], words⟩ : TokD), Value.slice none 0 0)])
    (by rw [hpl]; exact ownsRow_base (ownsRow_fr HO6.out HF6b.out) hB)
    (fun p hp => ownsRow_fr (HP.out.2.2 p hp) (HF6.out.next HF6b.out))
    (fun p hp => by rw [List.mem_singleton] at hp; subst hp; exact World.ownsRow_nil _ _ _ _) HR7.out.2
    (by rw [hpl]; exact ownsRow_base HR7.out.1 hB)
  rw [hl2, HFl.out.1]
  rw [HP.out.1] at h7
  exact h7

/-- the whole answer, in memory -/
def RReadPost (s : Str) (w : World) (e : Ending) (w' : World) : Prop :=
  (∃ v, e = .returned (.tuple #[v, .int .i64 (readD s).2.1, .int .i64 (readD s).2.2]) ∧ RToks w.heap.size w' v (readD s).1) ∧ Fr (fun _ => False) w w'
theorem rread_post {s : Str} {l : List TokD} {a b : Int} {v : Value} {w w' : World} (h : readD s = (l, a, b)) (ht : RToks w.heap.size w' v l) (hf : Fr (fun _ => False) w w') : RReadPost s w (.returned (.tuple #[v, .int .i64 a, .int .i64 b])) w' := by
  unfold RReadPost; rw [h]; exact ⟨⟨v, rfl, ht⟩, hf⟩
theorem readD_no {s : Str} {k : Nat} (hs : s.length ≤ 20000) (h : readL s = .error k) : readD s = ([], 8, (k : Int)) := by rw [readD_short hs, h]
theorem readD_yes {s : Str} {l : List TokD} (hs : s.length ≤ 20000) (h : readL s = .ok l) : readD s = (l, 0, 0) := by rw [readD_short hs, h]
theorem rsaid_shape (s : Str) : ∃ u k, rsaidV s = .tuple #[.string u, .int .i64 k] := by
  cases h : saidL s with
  | ok u => exact ⟨_, _, rsaid_ok h⟩
  | error k => exact ⟨_, _, rsaid_bad h⟩
set_option maxRecDepth 100000 in
set_option maxHeartbeats 16000000 in
theorem rread_h {w : World} (s : Str) (hs : s.length ≤ 100000) : Calls Tryz.prog 36 #[.string (bs s)] w (RReadPost s w) := by
  have hsz : (bs s).size = s.length := rfl
  by_cases hbig : 20000 < s.length
  · have HR := Lib.hid (readD_big hbig)
    have hbi : (20000 : Int) < (s.length : Int) := by omega
    clear hbig
    go_enter Tryz.func36, Tryz.ntmps36
    go_wp2_with fail
    go_ret3
    exact rread_post HR.out (RToks.nil _ _) (Fr.refl _ _)
  have hsl : s.length ≤ 20000 := by omega
  have hbi : ¬ (20000 : Int) < (s.length : Int) := by omega
  have HNo := Lib.hid (fun k => readD_no (k := k) hsl)
  have HYes := Lib.hid (fun l => readD_yes (l := l) hsl)
  clear hbig hs
  obtain ⟨i97, hi97, hz97, hs97, hb97⟩ := info_parts info97
  go_enter Tryz.func36, Tryz.ntmps36
  go_wp2_with fail
  go_loopg [5, 6, 7] s.length (fun j v5 v6 v7 w' => ∃ (i : Nat) (l : List TokD) (words : Str) (oa : Option Addr) (oc : Nat) (wr : World), wr = w' ∧ v5 = .slice oa l.length oc ∧ v6 = .string (bs words) ∧ i + j = s.length ∧ v7 = .int .i64 i ∧ Hid (RdTo s l words (s.drop i) ∧ RToks w.heap.size wr (.slice oa l.length oc) l ∧ Fr (fun _ => False) w wr))
  case atStart => exact ⟨0, [], [], none, 0, _, rfl, rfl, rfl, by omega, rfl, by rw [List.drop_zero]; exact RdTo.zero s, RToks.nil _ _, Fr.refl _ _⟩
  case round =>
    obtain ⟨i, l, words, oa, oc, wr, rfl, rfl, rfl, hi, rfl, HI⟩ := hrel
    have hLl := HI.out.1.lenL
    have hLw := HI.out.1.lenW
    rw [List.length_drop] at hLl hLw
    have hl1 : l.length ≤ 60000 := by omega
    have hw1 : words.length ≤ 80000 := by omega
    have hszr := HI.out.2.2.size
    clear hLl hLw
    by_cases hlt : i < s.length
    · have hz : i < (bs s).size := hlt
      have hg := bs_at s i hz
      obtain ⟨c, hc⟩ : ∃ c, s.getD i 0 = c := ⟨_, rfl⟩
      rw [hc] at hg
      have HIm := Lib.hid (And.intro hi (And.intro hlt hc))
      clear hc
      by_cases h60 : c = 60
      · have t60 : ((c.toNat : Int) != 60) = false := by subst h60; rfl
        have t60b : ((c.toNat : Int) == 60) = true := by subst h60; rfl
        have HC := Lib.hid h60
        have hx := bs_drop s i
        have HPt := Lib.hid (fun (W : World) => rpart_h (w := W) (s.drop i) (by rw [List.length_drop]; omega) (by rw [List.length_drop]; omega))
        have hdl : (s.drop i).length = s.length - i := List.length_drop
        obtain ⟨d, hd⟩ : ∃ d, s.drop i = d := ⟨_, rfl⟩
        rw [hd] at HPt hx hdl
        have HDd := Lib.hid hd
        clear hd h60 hi
        go_wp2_with fail
        refine Calls.mono (HPt.out _) ?_
        rintro e w1 ⟨u, toks, n, pa, pc, hRP, rfl, hT, hF⟩
        have HRP := Lib.hid hRP
        have HT := Lib.hid (hT.base hszr)
        have HF1 := Lib.hid (HI.out.2.2.next hF)
        have HO1 := Lib.hid (HI.out.2.1.fr hF)
        have hnl := hRP.le
        have hsz1 := hF.size
        clear hRP hT hF hsz1
        by_cases hn0 : n = 0
        · subst hn0
          have HE := Lib.hid (HNo.out i (HI.out.1.noPart HIm.out.2.1 (HIm.out.2.2.trans HC.out) (by rw [HDd.out]; exact HRP.out.bad)))
          go_wp2_with fail
          go_ret3
          exact rread_post HE.out (RToks.nil _ _) HF1.out
        · have tn0 : ((n : Int) == 0) = false := by rw [beq_eq_false_iff_ne]; omega
          have hn1 : 0 < n := by omega
          obtain ⟨hul, htl⟩ := HRP.out.out hn1
          have hin : i + n ≤ s.length := by omega
          have hsum := fun (w : World) => bs_sum words u w (by omega)
          have HN1 := Lib.hid hn1
          have hszw1 := HF1.out.size
          clear hn0
          by_cases ht0 : toks = []
          · subst ht0
            have HNx := Lib.hid (HI.out.1.quiet HIm.out.2.1 (HIm.out.2.2.trans HC.out) hn1 (by rw [HDd.out]; exact HRP.out))
            clear hn1 hdl hnl hul htl
            go_wp2_with fail
            go_roundg (s.length - (i + n))
            case measure => have := HIm.out.1; have := HN1.out; omega
            case rel => exact ⟨i + n, l, words ++ u, oa, oc, _, rfl, rfl, rfl, by omega, by go_num, HNx.out, HO1.out, HF1.out⟩
          · have htp : 0 < toks.length := List.length_pos_iff.2 ht0
            have tt : (0 : Int) < (toks.length : Int) := by omega
            have HNx := Lib.hid (HI.out.1.loud HIm.out.2.1 (HIm.out.2.2.trans HC.out) hn1 (by rw [HDd.out]; exact HRP.out) ht0)
            have HW := Lib.hid (rwith_h (words ++ u) HO1.out hszw1 (by omega))
            have hfl := flush_len l (words ++ u)
            obtain ⟨fl, hfle⟩ : ∃ fl, flushL l (words ++ u) = fl := ⟨_, rfl⟩
            rw [hfle] at HW HNx hfl
            have hfl2 : fl.length ≤ 60001 := by omega
            clear hn1 hdl hnl hul ht0 hfle hfl
            go_wp2_with fail
            refine Calls.mono HW.out ?_
            rintro e w2 ⟨fa, fc, rfl, hR2, hF2⟩
            have HF2 := Lib.hid (HF1.out.next hF2)
            have HT2 := Lib.hid (HT.out.fr hF2)
            have hszw2 := HF2.out.size
            obtain ⟨ps, e1, e2, e3⟩ := hR2
            have hpl : ps.length = fl.length := by rw [← e1, List.length_map]
            rw [hpl] at e2
            have HP := Lib.hid (And.intro e1 (And.intro e2 e3))
            obtain ⟨qs, q1, q2, q3⟩ := HT2.out
            have hql : qs.length = toks.length := by rw [← q1, List.length_map]
            rw [hql] at q2
            have HQ := Lib.hid (And.intro q1 (And.intro q2 q3))
            clear hF2 e1 e2 e3 hpl q1 q2 q3 hql
            go_wp2_with (at_builtin; refine wpList_append_row rfl (.tmp 68) (.tmp 69) 24 rfl w.heap.size 97 i97 (.agg #[.int .i64 0, .string ⟨#[]⟩, .slice none 0 0, .string ⟨#[]⟩]) 4 64 Tryz.underlying24 hi97 hz97 hs97 hb97 rfl (by decide) (.slice fa fl.length fc) fl.length (tcells ps) rfl HP.out.2.1 (fun k => w.heap.size ≤ k ∧ k < w2.heap.size) _ toks.length (tcells qs) rfl ((SRow.of_owns HQ.out.2.1).mono fun k hk => HQ.out.2.1.lt k hk) (tcells_oneR HQ.out.2.2) (by unfold maxLen; omega) (by omega) hszw2 ?_; intro b7 cap7 w7 hown7 hgrow7 _; have HR7 := Lib.hid (And.intro hown7 hgrow7); have HF7 : Hid (Fr (fun _ => False) w w7) := HF2.out.grown hgrow7 (fun k hk => .inr (HP.out.2.1.lt k hk).1); clear hown7 hgrow7)
            go_roundg (s.length - (i + n))
            case measure => have := HIm.out.1; have := HN1.out; omega
            case rel =>
              have hpl : ps.length = fl.length := by rw [← HP.out.1, List.length_map]
              have hql : qs.length = toks.length := by rw [← HQ.out.1, List.length_map]
              have h7 := RToks.app (B := w.heap.size) (w := w2) (w7 := w7) (v := .slice fa fl.length fc) (v2 := .slice b7 (fl.length + toks.length) cap7) (ps := ps) (qs := qs) (by rw [hpl]; exact HP.out.2.1) HP.out.2.2 HQ.out.2.2 HR7.out.2 (by rw [hpl, hql]; exact HR7.out.1)
              rw [HP.out.1, HQ.out.1] at h7
              exact ⟨i + n, fl ++ toks, [], b7, cap7, _, rfl, by rw [List.length_append], rfl, by omega, by go_num, HNx.out, by rw [List.length_append]; exact h7, HF7.out⟩
      · have t60 : ((c.toNat : Int) != 60) = true := by
          have h := u8_ne (n := 60) (by decide) h60
          rw [bne]; show (!((c.toNat : Int) == ((60 : Nat) : Int))) = true; rw [h]; rfl
        have t60b : ((c.toNat : Int) == 60) = false := u8_ne (n := 60) (by decide) h60
        have hcc : s.getD i 0 ≠ 60 := by rw [HIm.out.2.2]; exact h60
        have HFd := Lib.hid (fun (W : World) => rfind_h (w := W) s [60] i (by omega) (by decide) (by decide) (by omega))
        obtain ⟨p1, p2, -⟩ := seg_parts hlt hcc
        have HSg := Lib.hid (fun u => HI.out.1.seg (u := u) hlt hcc)
        have HSb := Lib.hid (fun k => HI.out.1.segBad (k := k) hlt hcc)
        have hno := seg_none (s := s) (i := i)
        have hso := seg_some (s := s) (i := i)
        obtain ⟨E, hE⟩ : ∃ E, segN s i = E := ⟨_, rfl⟩
        rw [hE] at p1 p2 HSg HSb hno hso
        have hx : (bs s).extract i E = bs ((s.take E).drop i) := by rw [bs_mid, List.drop_take]
        have hsgl : ((s.take E).drop i).length ≤ s.length := by rw [List.length_drop, List.length_take]; omega
        obtain ⟨d, hd⟩ : ∃ d, (s.take E).drop i = d := ⟨_, rfl⟩
        rw [hd] at hx HSg HSb hsgl
        have HSa := Lib.hid (fun (W : World) => rsaid_h (w := W) d (by omega))
        obtain ⟨z, hzz⟩ : ∃ z, findZ [60] s i = z := ⟨_, rfl⟩
        rw [hzz] at HFd hno hso
        have hul := fun u => said_len _ d (u := u) (Nat.lt_succ_self _)
        clear hE hd hzz hcc h60 hi
        cases hsd : saidL d with
        | error k =>
          have HE := Lib.hid (HNo.out _ (HSb.out k hsd))
          have hkl := said_place _ d (Nat.lt_succ_self _) hsd
          rw [rsaid_bad hsd] at HSa
          have tk : (0 : Int) ≤ (k : Int) := by omega
          clear hsd hul
          by_cases hz0 : z < 0
          · have hEs := hno hz0
            subst hEs
            clear hno hso
            go_wp2_with fail
            refine Calls.mono (HFd.out _) ?_
            rintro e w1 ⟨rfl, rfl⟩
            go_wp2_with fail
            refine Calls.mono (HSa.out _) ?_
            rintro e w1 ⟨rfl, hF1⟩
            have HF1 := Lib.hid (HI.out.2.2.next hF1)
            clear hF1
            go_wp2_with fail
            go_ret3
            exact rread_post (by rw [HE.out]; go_num) (RToks.nil _ _) HF1.out
          · have hEz := hso hz0
            subst hEz
            clear hno hso
            go_wp2_with fail
            refine Calls.mono (HFd.out _) ?_
            rintro e w1 ⟨rfl, rfl⟩
            go_wp2_with fail
            refine Calls.mono (HSa.out _) ?_
            rintro e w1 ⟨rfl, hF1⟩
            have HF1 := Lib.hid (HI.out.2.2.next hF1)
            clear hF1
            go_wp2_with fail
            go_ret3
            exact rread_post (by rw [HE.out]; go_num) (RToks.nil _ _) HF1.out
        | ok u =>
          have HNx := Lib.hid (HSg.out u hsd)
          have hul2 := hul u hsd
          have hsum := fun (w : World) => bs_sum words u w (by omega)
          rw [rsaid_ok hsd] at HSa
          clear hsd hul
          by_cases hz0 : z < 0
          · have hEs := hno hz0
            subst hEs
            clear hno hso
            go_wp2_with fail
            refine Calls.mono (HFd.out _) ?_
            rintro e w1 ⟨rfl, rfl⟩
            go_wp2_with fail
            refine Calls.mono (HSa.out _) ?_
            rintro e w1 ⟨rfl, hF1⟩
            have HF1 := Lib.hid (HI.out.2.2.next hF1)
            have HO1 := Lib.hid (HI.out.2.1.fr hF1)
            clear hF1
            go_wp2_with fail
            go_roundg 0
            case measure => have := HIm.out.1; omega
            case rel => exact ⟨s.length, l, words ++ u, oa, oc, _, rfl, rfl, rfl, by omega, by go_num, HNx.out, HO1.out, HF1.out⟩
          · have hEz := hso hz0
            subst hEz
            clear hno hso
            go_wp2_with fail
            refine Calls.mono (HFd.out _) ?_
            rintro e w1 ⟨rfl, rfl⟩
            go_wp2_with fail
            refine Calls.mono (HSa.out _) ?_
            rintro e w1 ⟨rfl, hF1⟩
            have HF1 := Lib.hid (HI.out.2.2.next hF1)
            have HO1 := Lib.hid (HI.out.2.1.fr hF1)
            clear hF1
            go_wp2_with fail
            go_roundg (s.length - E)
            case measure => have := HIm.out.1; omega
            case rel => exact ⟨E, l, words ++ u, oa, oc, _, rfl, rfl, rfl, by omega, by go_num, HNx.out, HO1.out, HF1.out⟩
    · obtain rfl : i = s.length := by have := HI.out.1.len; rw [List.length_drop] at this; omega
      have HE := Lib.hid (HYes.out _ HI.out.1.done)
      have HW := Lib.hid (rwith_h words HI.out.2.1 hszr (by omega))
      obtain ⟨fl, hfle⟩ : ∃ fl, flushL l words = fl := ⟨_, rfl⟩
      rw [hfle] at HW HE
      clear hi hlt hfle
      go_wp2_with fail
      refine Calls.mono HW.out ?_
      rintro e w2 ⟨fa, fc, rfl, hR2, hF2⟩
      have HR2 := Lib.hid (And.intro hR2 (HI.out.2.2.next hF2))
      clear hR2 hF2
      go_wp2_with fail
      go_ret3
      exact rread_post HE.out HR2.out.1 HR2.out.2

theorem parse_yes {s : Str} {l : List TokD} (h : readD s = (l, 0, 0)) : parseL s = buildL l := by rw [parse_of, h]; rfl
theorem parse_no {s : Str} (h : (readD s).2.1 ≠ 0) : parseL s = .error (readD s).2.1 := by rw [parse_of, if_neg h]
theorem read_cases (s : Str) : (readD s).2.1 ≠ 0 ∨ ∃ l, readD s = (l, 0, 0) ∧ TextOK l ∧ l.length ≤ 60010 := by
  by_cases h0 : (readD s).2.1 = 0
  · right
    by_cases hlong : 20000 < s.length
    · rw [readD_big hlong] at h0; cases h0
    · cases hr : readL s with
      | error k => rw [readD_bad hr (by omega)] at h0; cases h0
      | ok l =>
        have h3 := read_textOK hr (by omega)
        exact ⟨l, readD_ok hr (by omega), h3.1, h3.2⟩
  · exact .inl h0
set_option maxRecDepth 100000 in
set_option maxHeartbeats 8000000 in
theorem rparse_h {w : World} (s : Str) (hs : s.length ≤ 100000) : Calls Tryz.prog 27 #[.string (bs s)] w (RBuildPost (parseL s) (fun _ => False) w) := by
  have HB0 : Hid ((w.alloc (.cells zeroNode 37)).heap[w.heap.size]? = some (.cells zeroNode 37 (0, 0))) := block_new _ _
  have HF0 : Hid (Fr (fun _ => False) w (w.alloc (.cells zeroNode 37))) := (Fr.refl _ _).alloc _
  have HR := Lib.hid (rread_h (w := w.alloc (.cells zeroNode 37)) s hs)
  rcases read_cases s with h0 | ⟨l, hl, hT, hn⟩
  · have HE := Lib.hid (parse_no h0)
    obtain ⟨⟨tl, er, at_⟩, hrd⟩ : ∃ r, readD s = r := ⟨_, rfl⟩
    unfold RReadPost at HR
    rw [hrd] at HR h0 HE
    dsimp only at HR h0 HE
    have t1 : (er != 0) = true := by rw [bne_iff_ne]; exact h0
    clear h0 hrd
    go_enter Tryz.func27, Tryz.ntmps27
    go_wp2_with fail
    refine Calls.mono HR.out ?_
    rintro e w1 ⟨⟨tv, rfl, hv⟩, hF⟩
    have hb := hF.keep HB0.out (fun h => h)
    have HB1 := Lib.hid hb
    have HF1 := Lib.hid (HF0.out.next hF)
    have q0 := free_of 0 hb
    have q1 := free_of 1 hb
    have q2 := free_of 2 hb
    have q3 := free_of 3 hb
    have r0 := cell_of hb (i := 0) (v := .string ⟨#[]⟩) rfl
    have r1 := cell_of hb (i := 1) (v := .slice none 0 0) rfl
    have r2 := cell_of hb (i := 2) (v := .string ⟨#[]⟩) rfl
    have r3 := cell_of hb (i := 3) (v := .slice none 0 0) rfl
    have rl := lt_of_block hb
    clear hv hF hb
    go_wp2_with fail
    have hz := block_set4 (a := .string ⟨#[]⟩) (b := .slice none 0 0) (c := .string ⟨#[]⟩) (d := .slice none 0 0) HB1.out
    have e0 := cell_of hz (i := 0) (v := .string ⟨#[]⟩) rfl
    have e1 := cell_of hz (i := 1) (v := .slice none 0 0) rfl
    have e2 := cell_of hz (i := 2) (v := .string ⟨#[]⟩) rfl
    have e3 := cell_of hz (i := 3) (v := .slice none 0 0) rfl
    refine bodyPost_ret (v := .tuple #[.agg #[.string ⟨#[]⟩, .slice none 0 0, .string ⟨#[]⟩, .slice none 0 0], .int .i64 er]) (by simp [results, Tryz.results27, go_sem, e0, e1, e2, e3] <;> rfl) rfl ?_
    rw [HE.out]
    exact ⟨_, _, _, _, rfl, ⟨_, _, _, _, _, _, _, _, rfl, rfl, rfl, rfl⟩, HF1.out.trans (fr_set4 _ _ _ _ _ _) fun k e => .inr (by have e : k = w.heap.size := e; omega), NodeV.zero _ _⟩
  · have HE := Lib.hid (parse_yes hl)
    unfold RReadPost at HR
    rw [hl] at HR
    dsimp only at HR
    have HT := Lib.hid (And.intro hT hn)
    clear hl hT hn
    go_enter Tryz.func27, Tryz.ntmps27
    go_wp2_with fail
    refine Calls.mono HR.out ?_
    rintro e w1 ⟨⟨tv, rfl, hv⟩, hF⟩
    have HB1 := Lib.hid (hF.keep HB0.out (fun h => h))
    have HF1 := Lib.hid (HF0.out.next hF)
    have HBd := Lib.hid (rbuild_h (w := w1) hv.view (fun k hk => hk.2) HT.out.1 HT.out.2)
    rw [refB_eq] at HBd
    clear hv hF
    go_wp2_with fail
    refine Calls.mono HBd.out ?_
    rintro e w2 ⟨c0, c1, c2, c3, rfl, ⟨s0, b1, n1, p1, s2, b3, n3, p3, rfl, rfl, rfl, rfl⟩, hF, hnv⟩
    have hb := hF.keep HB1.out (fun h => h)
    have HB2 := Lib.hid hb
    have HF2 := Lib.hid (HF1.out.next hF)
    have HN2 := Lib.hid hnv
    have HS2 := Lib.hid (And.intro (show w.heap.size < w1.heap.size from lt_of_block HB1.out) hF.size)
    have q0 := free_of 0 hb
    have q1 := free_of 1 hb
    have q2 := free_of 2 hb
    have q3 := free_of 3 hb
    have r0 := cell_of hb (i := 0) (v := .string ⟨#[]⟩) rfl
    have r1 := cell_of hb (i := 1) (v := .slice none 0 0) rfl
    have r2 := cell_of hb (i := 2) (v := .string ⟨#[]⟩) rfl
    have r3 := cell_of hb (i := 3) (v := .slice none 0 0) rfl
    have rl := lt_of_block hb
    clear hnv hF hb
    go_wp2_with fail
    have hz := block_set4 (a := .string s0) (b := .slice b1 n1 p1) (c := .string s2) (d := .slice b3 n3 p3) HB2.out
    have e0 := cell_of hz (i := 0) (v := .string s0) rfl
    have e1 := cell_of hz (i := 1) (v := .slice b1 n1 p1) rfl
    have e2 := cell_of hz (i := 2) (v := .string s2) rfl
    have e3 := cell_of hz (i := 3) (v := .slice b3 n3 p3) rfl
    refine bodyPost_ret (v := .tuple #[.agg #[.string s0, .slice b1 n1 p1, .string s2, .slice b3 n3 p3], .int .i64 (outE (buildL l))]) (by simp [results, Tryz.results27, go_sem, e0, e1, e2, e3] <;> rfl) rfl ?_
    rw [HE.out]
    have h4 := fr_set4 w2 w.heap.size (.string s0) (.slice b1 n1 p1) (.string s2) (.slice b3 n3 p3)
    have hlow : w.heap.size + 1 ≤ w1.heap.size := HS2.out.1
    refine ⟨_, _, _, _, rfl, ⟨_, _, _, _, _, _, _, _, rfl, rfl, rfl, rfl⟩, HF2.out.trans h4 fun k e => .inr (by have e : k = w.heap.size := e; omega), NodeV.mono (fun k hk => ?_) _ (NodeV.fr h4 (fun k hk e => ?_) _ HN2.out)⟩
    · right
      have := h4.size
      have := HS2.out.2
      rcases hk with hk | hk
      · have h5 := hk.1
        simp only [World.size_alloc] at h5
        omega
      · omega
    · have e : k = w.heap.size := e
      rcases hk with hk | hk
      · have h5 := hk.1
        simp only [World.size_alloc] at h5
        omega
      · omega
theorem fitsU_text {l : List TokD} (h : fitsU l = true) : TextOK l ∧ l.length ≤ 60010 := by
  unfold fitsU at h
  simp only [Bool.and_eq_true, decide_eq_true_eq, Bool.not_eq_true', List.any_eq_false] at h
  refine ⟨fun x hx => ?_, by omega⟩
  have h2 := h.2 x hx
  unfold bigU at h2
  simp only [Bool.or_eq_true, decide_eq_true_eq, not_or] at h2
  unfold txM
  omega
set_option maxRecDepth 100000 in
set_option maxHeartbeats 16000000 in
theorem treebuilds_h {w : World} (hE : Env w) {v : Value} {l : List TokD} (hv : TokV w (fun k => k < w.heap.size) v l) (s : Str) : Calls Tryz.prog 3 #[v, .string (bs s)] w fun e w' => e = .returned (.bool true) ∧ Fr (fun _ => False) w w' := by
  have hsz : (bs s).size = s.length := rfl
  obtain ⟨ad, cap, rfl, -, -, -⟩ := hv.elems
  have HS := Lib.hid (tshown_h hE)
  have HEv := Lib.hid (fun (W : World) (hF : Fr (fun _ => False) w W) => hE.grow hF)
  have HV := Lib.hid (fun (W : World) (hF : Fr (fun _ => False) w W) => show TokV W (fun k => k < w.heap.size) (.slice ad l.length cap) l from hv.fr hF fun _ _ h => h)
  clear hE hv
  cases hfit : fitsU l with
  | false =>
    have HQ := Lib.hid hfit
    clear hfit
    go_enter Tryz.func3, Tryz.ntmps3
    go_wp2_with fail
    refine Calls.mono HS.out ?_
    rintro e w1 ⟨rfl, hF⟩
    have HF1 := Lib.hid hF
    clear hF
    go_wp2_with fail
    refine Calls.mono (toksm_h (HV.out _ HF1.out)) ?_
    rintro e w2 ⟨u, b, rfl, hb, -, hF⟩
    obtain rfl : b = false := hb.trans HQ.out
    have HF2 := Lib.hid (HF1.out.next hF)
    clear hF hb
    go_wp2_with fail
    go_ret
    exact ⟨rfl, HF2.out⟩
  | true =>
  have HQ := Lib.hid hfit
  have HTx := Lib.hid (fitsU_text hfit)
  clear hfit
  by_cases hs4 : 4000 < s.length
  · have hsi : (4000 : Int) < (s.length : Int) := by omega
    clear hs4
    go_enter Tryz.func3, Tryz.ntmps3
    go_wp2_with fail
    refine Calls.mono HS.out ?_
    rintro e w1 ⟨rfl, hF⟩
    have HF1 := Lib.hid hF
    clear hF
    go_wp2_with fail
    refine Calls.mono (toksm_h (HV.out _ HF1.out)) ?_
    rintro e w2 ⟨u, b, rfl, hb, -, hF⟩
    obtain rfl : b = true := hb.trans HQ.out
    have HF2 := Lib.hid (HF1.out.next hF)
    clear hF hb
    go_wp2_with fail
    go_ret
    exact ⟨rfl, HF2.out⟩
  have hsi : ¬ (4000 : Int) < (s.length : Int) := by omega
  have HP := Lib.hid (fun (W : World) (hF : Fr (fun _ => False) w W) => parse_h (HEv.out W hF) s (by omega))
  have HRP := Lib.hid (fun (W : World) => rparse_h (w := W) s (by omega))
  obtain ⟨r1, hr1⟩ : ∃ r, buildL l = r := ⟨_, rfl⟩
  obtain ⟨r2, hr2⟩ : ∃ r, parseL s = r := ⟨_, rfl⟩
  rw [hr2] at HP HRP
  have HB := Lib.hid hr1
  have t1 : (outE r1 == outE r1) = true := by simp
  have t2 : (outE r2 == outE r2) = true := by simp
  clear hs4 hr1 hr2
  go_enter Tryz.func3, Tryz.ntmps3
  go_wp2_with fail
  refine Calls.mono HS.out ?_
  rintro e w1 ⟨rfl, hF⟩
  have HF1 := Lib.hid hF
  clear hF
  go_wp2_with fail
  refine Calls.mono (toksm_h (HV.out _ HF1.out)) ?_
  rintro e w2 ⟨u, b, rfl, hb, hru, hF⟩
  obtain rfl : b = true := hb.trans HQ.out
  have HF2 := Lib.hid (HF1.out.next hF)
  have HU2 := Lib.hid (hru rfl).view
  clear hF hb hru
  have HG1 := Lib.hid (tbuild_at (HV.out _ HF2.out) (fun k hk => Nat.lt_of_lt_of_le hk HF2.out.size) HTx.out.1 HTx.out.2)
  rw [HB.out] at HG1
  go_wp2_with fail
  refine Calls.mono HG1.out ?_
  rintro e w3 ⟨_, _, _, _, rfl, ⟨a0, a1, an1, ap1, a2, a3, an3, ap3, rfl, rfl, rfl, rfl⟩, hF, hnv⟩
  have hFa : Fr (fun _ => False) w3 (w3.alloc (.cells #[.string a0, .slice a1 an1 ap1, .string a2, .slice a3 an3 ap3] 30)) := (Fr.refl _ _).alloc _
  have HF_w3 := Lib.hid ((HF2.out.next hF).next hFa)
  have HN_a := Lib.hid (NodeV.fr hFa (fun _ _ h => h) _ hnv)
  have HB_a : Hid ((w3.alloc (.cells #[.string a0, .slice a1 an1 ap1, .string a2, .slice a3 an3 ap3] 30)).heap[w3.heap.size]? = some (.cells #[.string a0, .slice a1 an1 ap1, .string a2, .slice a3 an3 ap3] 30 (0, 0))) := block_new _ _
  have HU3 := Lib.hid ((HU2.out.fr (hF.next hFa) fun _ _ h => h).mono (fun k hk => Nat.lt_of_lt_of_le hk.2 (hF.next hFa).size))
  clear hF hnv hFa
  have HG2 := Lib.hid (rbuild_h (l := l) HU3.out (fun k hk => hk) HTx.out.1 HTx.out.2)
  rw [refB_eq, HB.out] at HG2
  go_wp2_with fail
  refine Calls.mono HG2.out ?_
  rintro e w4 ⟨_, _, _, _, rfl, ⟨b0, b1, bn1, bp1, b2, b3, bn3, bp3, rfl, rfl, rfl, rfl⟩, hF, hnv⟩
  have hFa : Fr (fun _ => False) w4 (w4.alloc (.cells #[.string b0, .slice b1 bn1 bp1, .string b2, .slice b3 bn3 bp3] 37)) := (Fr.refl _ _).alloc _
  have HF_w4 := Lib.hid ((HF_w3.out.next hF).next hFa)
  have HN_b := Lib.hid (NodeV.fr hFa (fun _ _ h => h) _ hnv)
  have HB_b : Hid ((w4.alloc (.cells #[.string b0, .slice b1 bn1 bp1, .string b2, .slice b3 bn3 bp3] 37)).heap[w4.heap.size]? = some (.cells #[.string b0, .slice b1 bn1 bp1, .string b2, .slice b3 bn3 bp3] 37 (0, 0))) := block_new _ _
  have HN_a := Lib.hid (NodeV.fr (hF.next hFa) (fun _ _ h => h) _ HN_a.out)
  have HB_a := Lib.hid ((hF.next hFa).keep HB_a.out (fun h => h))
  clear hF hnv hFa
  go_wp2_with fail
  refine Calls.mono (HP.out _ HF_w4.out) ?_
  rintro e w5 ⟨_, _, _, _, rfl, ⟨c0, c1, cn1, cp1, c2, c3, cn3, cp3, rfl, rfl, rfl, rfl⟩, hF, hnv⟩
  have hFa : Fr (fun _ => False) w5 (w5.alloc (.cells #[.string c0, .slice c1 cn1 cp1, .string c2, .slice c3 cn3 cp3] 30)) := (Fr.refl _ _).alloc _
  have HF_w5 := Lib.hid ((HF_w4.out.next hF).next hFa)
  have HN_c := Lib.hid (NodeV.fr hFa (fun _ _ h => h) _ hnv)
  have HB_c : Hid ((w5.alloc (.cells #[.string c0, .slice c1 cn1 cp1, .string c2, .slice c3 cn3 cp3] 30)).heap[w5.heap.size]? = some (.cells #[.string c0, .slice c1 cn1 cp1, .string c2, .slice c3 cn3 cp3] 30 (0, 0))) := block_new _ _
  have HN_a := Lib.hid (NodeV.fr (hF.next hFa) (fun _ _ h => h) _ HN_a.out)
  have HB_a := Lib.hid ((hF.next hFa).keep HB_a.out (fun h => h))
  have HN_b := Lib.hid (NodeV.fr (hF.next hFa) (fun _ _ h => h) _ HN_b.out)
  have HB_b := Lib.hid ((hF.next hFa).keep HB_b.out (fun h => h))
  clear hF hnv hFa
  go_wp2_with fail
  refine Calls.mono (HRP.out _) ?_
  rintro e w6 ⟨_, _, _, _, rfl, ⟨d0, d1, dn1, dp1, d2, d3, dn3, dp3, rfl, rfl, rfl, rfl⟩, hF, hnv⟩
  have hFa : Fr (fun _ => False) w6 (w6.alloc (.cells #[.string d0, .slice d1 dn1 dp1, .string d2, .slice d3 dn3 dp3] 37)) := (Fr.refl _ _).alloc _
  have HF_w6 := Lib.hid ((HF_w5.out.next hF).next hFa)
  have HN_d := Lib.hid (NodeV.fr hFa (fun _ _ h => h) _ hnv)
  have HB_d : Hid ((w6.alloc (.cells #[.string d0, .slice d1 dn1 dp1, .string d2, .slice d3 dn3 dp3] 37)).heap[w6.heap.size]? = some (.cells #[.string d0, .slice d1 dn1 dp1, .string d2, .slice d3 dn3 dp3] 37 (0, 0))) := block_new _ _
  have HN_a := Lib.hid (NodeV.fr (hF.next hFa) (fun _ _ h => h) _ HN_a.out)
  have HB_a := Lib.hid ((hF.next hFa).keep HB_a.out (fun h => h))
  have HN_b := Lib.hid (NodeV.fr (hF.next hFa) (fun _ _ h => h) _ HN_b.out)
  have HB_b := Lib.hid ((hF.next hFa).keep HB_b.out (fun h => h))
  have HN_c := Lib.hid (NodeV.fr (hF.next hFa) (fun _ _ h => h) _ HN_c.out)
  have HB_c := Lib.hid ((hF.next hFa).keep HB_c.out (fun h => h))
  clear hF hnv hFa
  have ac0 := cell_of HB_a.out (i := 0) (v := .string a0) rfl
  have ac1 := cell_of HB_a.out (i := 1) (v := .slice a1 an1 ap1) rfl
  have ac2 := cell_of HB_a.out (i := 2) (v := .string a2) rfl
  have ac3 := cell_of HB_a.out (i := 3) (v := .slice a3 an3 ap3) rfl
  have al := lt_of_block HB_a.out
  have bc0 := cell_of HB_b.out (i := 0) (v := .string b0) rfl
  have bc1 := cell_of HB_b.out (i := 1) (v := .slice b1 bn1 bp1) rfl
  have bc2 := cell_of HB_b.out (i := 2) (v := .string b2) rfl
  have bc3 := cell_of HB_b.out (i := 3) (v := .slice b3 bn3 bp3) rfl
  have bl := lt_of_block HB_b.out
  have cc0 := cell_of HB_c.out (i := 0) (v := .string c0) rfl
  have cc1 := cell_of HB_c.out (i := 1) (v := .slice c1 cn1 cp1) rfl
  have cc2 := cell_of HB_c.out (i := 2) (v := .string c2) rfl
  have cc3 := cell_of HB_c.out (i := 3) (v := .slice c3 cn3 cp3) rfl
  have cl := lt_of_block HB_c.out
  have dc0 := cell_of HB_d.out (i := 0) (v := .string d0) rfl
  have dc1 := cell_of HB_d.out (i := 1) (v := .slice d1 dn1 dp1) rfl
  have dc2 := cell_of HB_d.out (i := 2) (v := .string d2) rfl
  have dc3 := cell_of HB_d.out (i := 3) (v := .slice d3 dn3 dp3) rfl
  have dl := lt_of_block HB_d.out
  go_wp2_with fail
  refine Calls.mono (same_h (weighN (outN r1) + 1) (outN r1) (Nat.lt_succ_self _) _ _ _ (outN r1) _ _ _ _ _ _ _ _ HN_a.out HN_b.out) ?_
  rintro e w7 ⟨rfl, hF⟩
  rw [same_yes rfl]
  have HF7 := Lib.hid (HF_w6.out.next hF)
  have HN_c := Lib.hid (NodeV.fr hF (fun _ _ h => h) _ HN_c.out)
  have HB_c := Lib.hid (hF.keep HB_c.out (fun h => h))
  have HN_d := Lib.hid (NodeV.fr hF (fun _ _ h => h) _ HN_d.out)
  have HB_d := Lib.hid (hF.keep HB_d.out (fun h => h))
  clear hF ac0 ac1 ac2 ac3 al bc0 bc1 bc2 bc3 bl cc0 cc1 cc2 cc3 cl dc0 dc1 dc2 dc3 dl
  have cc0 := cell_of HB_c.out (i := 0) (v := .string c0) rfl
  have cc1 := cell_of HB_c.out (i := 1) (v := .slice c1 cn1 cp1) rfl
  have cc2 := cell_of HB_c.out (i := 2) (v := .string c2) rfl
  have cc3 := cell_of HB_c.out (i := 3) (v := .slice c3 cn3 cp3) rfl
  have cl := lt_of_block HB_c.out
  have dc0 := cell_of HB_d.out (i := 0) (v := .string d0) rfl
  have dc1 := cell_of HB_d.out (i := 1) (v := .slice d1 dn1 dp1) rfl
  have dc2 := cell_of HB_d.out (i := 2) (v := .string d2) rfl
  have dc3 := cell_of HB_d.out (i := 3) (v := .slice d3 dn3 dp3) rfl
  have dl := lt_of_block HB_d.out
  go_wp2_with fail
  refine Calls.mono (same_h (weighN (outN r2) + 1) (outN r2) (Nat.lt_succ_self _) _ _ _ (outN r2) _ _ _ _ _ _ _ _ HN_c.out HN_d.out) ?_
  rintro e w8 ⟨rfl, hF⟩
  rw [same_yes rfl]
  have HF8 := Lib.hid (HF7.out.next hF)
  clear hF
  go_wp2_with fail
  go_ret
  exact ⟨rfl, HF8.out⟩
end Go.Proofs.YtpinjgdnhbogoaaGreatDoor
