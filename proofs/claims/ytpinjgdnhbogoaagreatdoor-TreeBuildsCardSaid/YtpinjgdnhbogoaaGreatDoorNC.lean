/- Size: how many elements, and how many in one another. -/
import Derived.Test.YtpinjgdnhbogoaaGreatDoorN3
import Derived.Test.YtpinjgdnhbogoaaGreatDoorM0
import Derived.Laws.EntriesVeiled
import Derived.BigQuiet
namespace Go.Proofs.YtpinjgdnhbogoaaGreatDoor
open Go.RowKit Go.Lib

/-- one element of a row of elements, cell by cell -/
theorem kid_cells {w : World} {S : Nat → Prop} {g off i : Nat} {ks : List NodeD} {xs : List Value} {x : NodeD} (hc : ∀ i u, xs[i]? = some u → w.cell? ⟨g, off + i, none⟩ = some u) (hk : KidsV w S ks xs) (hx : ks[i]? = some x) :
    ∃ a1 n1 p1 a3 n3 p3, NodeV w S x [.string (bs x.name), .slice a1 n1 p1, .string (bs x.text), .slice a3 n3 p3] ∧ w.cell? ⟨g, off + i * 4, none⟩ = some (.string (bs x.name)) ∧ w.cell? ⟨g, off + i * 4 + 1, none⟩ = some (.slice a1 n1 p1) ∧ w.cell? ⟨g, off + i * 4 + 2, none⟩ = some (.string (bs x.text)) ∧ w.cell? ⟨g, off + i * 4 + 3, none⟩ = some (.slice a3 n3 p3) := by
  obtain ⟨ys, h1, h2⟩ := hk.at hx
  obtain ⟨av, kv, zs, rfl, ha, hb, _⟩ := h1.parts
  obtain ⟨-, a1, p1, rfl, -⟩ := id ha
  obtain ⟨-, a3, p3, rfl, -⟩ := id hb
  have c0 := hc _ _ (h2 0 _ rfl)
  have c1 := hc _ _ (h2 1 _ rfl)
  have c2 := hc _ _ (h2 2 _ rfl)
  have c3 := hc _ _ (h2 3 _ rfl)
  rw [Nat.add_zero] at c0
  rw [← Nat.add_assoc] at c1 c2 c3
  exact ⟨a1, _, p1, a3, _, p3, h1, c0, c1, c2, c3⟩
theorem deep_take : ∀ (l : List NodeD) (i : Nat), deepK (l.take i) ≤ deepK l
  | [], i => by simp
  | x :: l, 0 => by rw [List.take_zero]; unfold deepK; omega
  | x :: l, i + 1 => by have := deep_take l i; rw [List.take_succ_cons]; unfold deepK; omega
def szF (mb db wb : Nat) : Value := .func (.func 71) #[] #[.pointer (some ⟨mb, 0, none⟩), .pointer (some ⟨db, 0, none⟩), .pointer (some ⟨wb, 0, none⟩)]
def SzPost (mb db many best d : Nat) (n : NodeD) (w : World) (e : Ending) (w' : World) : Prop :=
  e = .returned (.tuple #[]) ∧ w'.heap[mb]? = some (.cells #[.int .i64 ((many + manyN n : Nat) : Int)] 3 (0, 0)) ∧ w'.heap[db]? = some (.cells #[.int .i64 ((deepTo best d n : Nat) : Int)] 3 (0, 0)) ∧ Fr (fun k => k = mb ∨ k = db) w w'
structure SzIn (mb db many best d : Nat) (n : NodeD) (w : World) (i : Nat) (W : World) : Prop where
  cm : W.heap[mb]? = some (.cells #[.int .i64 ((many + 1 + manyK (n.kids.take i) : Nat) : Int)] 3 (0, 0))
  cd : W.heap[db]? = some (.cells #[.int .i64 ((max (max best d) (d + deepK (n.kids.take i)) : Nat) : Int)] 3 (0, 0))
  fr : Fr (fun k => k = mb ∨ k = db) w W
theorem SzIn.next {mb db many best d : Nat} {n x : NodeD} {w W W2 w3 : World} {i : Nat} (h : SzIn mb db many best d n w i W) (hx : n.kids[i]? = some x) (hf : Fr (fun _ => False) W W2) {e : Ending}
    (hp : SzPost mb db (many + 1 + manyK (n.kids.take i)) (max (max best d) (d + deepK (n.kids.take i))) (d + 1) x W2 e w3) : SzIn mb db many best d n w (i + 1) w3 := by
  obtain ⟨_, h1, h2, h3⟩ := hp
  refine ⟨?_, ?_, (h.fr.trans hf fun _ h => h.elim).next h3⟩
  · rw [manyK_take hx, ← Nat.add_assoc]; exact h1
  · rw [← deepTo_kids best d n.kids i hx]; exact h2
set_option maxRecDepth 100000 in
set_option maxHeartbeats 8000000 in
theorem sizewalk_h : ∀ (m : Nat) (n : NodeD), weighN n < m → ∀ (w : World) (S : Nat → Prop) (c0 c1 c2 c3 : Value) (d many best mb db wb : Nat),
    NodeV w S n [c0, c1, c2, c3] → (∀ k, S k → k ≠ mb ∧ k ≠ db) → w.heap[mb]? = some (.cells #[.int .i64 (many : Int)] 3 (0, 0)) → w.heap[db]? = some (.cells #[.int .i64 (best : Int)] 3 (0, 0)) →
    w.heap[wb]? = some (.cells #[szF mb db wb] 108 (0, 0)) → mb ≠ db → wb ≠ mb → wb ≠ db → d + deepN n ≤ 1000000 → best ≤ 1000000 → many + manyN n ≤ 1000000 →
    Calls Tryz.prog 71 #[.agg #[c0, c1, c2, c3], .int .i64 (d : Int), .pointer (some ⟨mb, 0, none⟩), .pointer (some ⟨db, 0, none⟩), .pointer (some ⟨wb, 0, none⟩)] w (SzPost mb db many best d n w)
  | 0, _, h => by omega
  | m + 1, n, hm => by
    intro w S c0 c1 c2 c3 d many best mb db wb hn hS hmb hdb hwb e1 e2 e3 hd hbst hmany
    obtain ⟨av, kv, xs, hcs, ha, hk, hks⟩ := hn.parts
    simp only [List.cons.injEq, and_true] at hcs
    obtain ⟨rfl, rfl, rfl, rfl⟩ := hcs
    obtain ⟨-, a1, p1, rfl, -⟩ := id ha
    obtain ⟨-, a3, p3, rfl, hl1, -, -, -⟩ := id hk
    obtain ⟨mx, hmx⟩ : ∃ mx, max best d = mx := ⟨_, rfl⟩
    have hmx2 : max (best : Int) (d : Int) = (mx : Int) := by omega
    have b1 := lt_of_block hmb
    have b2 := lt_of_block hdb
    have b3 := lt_of_block hwb
    have x1 := cell_of hmb (i := 0) (v := .int .i64 (many : Int)) rfl
    have x2 := cell_of hdb (i := 0) (v := .int .i64 (best : Int)) rfl
    have g1 := free_of 0 hmb
    have g2 := free_of 0 hdb
    have hmn := many_node n
    have hdn := deep_node n
    have hkl := manyK_len n.kids
    obtain ⟨kn, hkn⟩ : ∃ kn, n.kids.length = kn := ⟨_, rfl⟩
    rw [hkn] at hk hkl hl1 ⊢
    have hkn2 : kn ≤ 1000000 := by omega
    have HB0 : Hid (SzIn mb db many best d n w 0 (((w.setCell ⟨mb, 0, none⟩ (.int .i64 ((many : Int) + 1))).setCell ⟨db, 0, none⟩ (.int .i64 (mx : Int))).alloc (.cells #[.string (bs n.name), .slice a1 n.attrs.length p1, .string (bs n.text), .slice a3 kn p3] 30))) := by
      have k1 := block_set hmb 0 (.int .i64 ((many : Int) + 1))
      have k2 := block_set ((block_set_ne (w := w) (k := db) (b := mb) (i := 0) (v := .int .i64 ((many : Int) + 1)) (fun e => e1 e.symm)).trans hdb) 0 (.int .i64 (mx : Int))
      refine ⟨block_old ?_ _, block_old ?_ _, ?_⟩
      · rw [block_set_ne (fun e => e1 e)]
        rw [List.take_zero]
        show _ = some (Obj.cells #[.int .i64 ((many + 1 + 0 : Nat) : Int)] 3 (0, 0))
        exact k1
      · rw [List.take_zero]
        have e4 : max (max best d) (d + deepK []) = mx := by unfold deepK; omega
        rw [e4]
        exact k2
      · exact (((Fr.refl _ _).setCell (p := ⟨mb, 0, none⟩) (.inl (.inl rfl)) _).setCell (p := ⟨db, 0, none⟩) (.inl (.inr rfl)) _).alloc _
    have HK := Lib.hid (And.intro hk hks)
    have HW := Lib.hid hwb
    have HS := Lib.hid hS
    have HM := Lib.hid hm
    have HX := Lib.hid (And.intro hmn hdn)
    have HL := Lib.hid hkn
    have hIH := Lib.hid (sizewalk_h m)
    clear hn ha hk hks hmb hdb hwb hS hm hmn hdn hkn hmx
    go_enter Tryz.func71, Tryz.ntmps71
    go_wp2_with fail
    go_loopg [17] kn (fun j v17 w' => ∃ W, W = w' ∧ ∃ i : Nat, i + j = kn ∧ v17 = .int .i64 i ∧ Hid (SzIn mb db many best d n w i W))
    case atStart => exact ⟨_, rfl, 0, by omega, rfl, HB0.out⟩
    case round =>
      obtain ⟨W, rfl, i, hi, rfl, HI⟩ := hrel
      by_cases hlt : i < kn
      · obtain ⟨x, hx⟩ : ∃ x, n.kids[i]? = some x := ⟨_, List.getElem?_eq_getElem (by rw [HL.out]; exact hlt)⟩
        have hkr := HK.out.1.fr HI.out.fr fun k hk e => by have := HS.out k hk; omega
        have hkk := KidsV.fr HI.out.fr (fun k hk e => by have := HS.out k hk; omega) n.kids HK.out.2
        obtain ⟨g, off, rfl, hc⟩ := hkr.cell (by omega)
        obtain ⟨j1, j2, j3, j4, j5, j6, hxv, q0, q1, q2, q3⟩ := kid_cells hc hkk hx
        have hw5 := HI.out.fr.keep HW.out (by omega)
        have b5 := lt_of_block hw5
        have y1 := cell_of hw5 (i := 0) (v := szF mb db wb) rfl
        unfold szF at y1
        have HC := Lib.hid (fun (W' : World) (hF : Fr (fun _ => False) W W') => show Calls Tryz.prog 71 #[.agg #[.string (bs x.name), .slice j1 j2 j3, .string (bs x.text), .slice j4 j5 j6], .int .i64 ((d : Int) + 1), .pointer (some ⟨mb, 0, none⟩), .pointer (some ⟨db, 0, none⟩), .pointer (some ⟨wb, 0, none⟩)] W' (SzPost mb db (many + 1 + manyK (n.kids.take i)) (max (max best d) (d + deepK (n.kids.take i))) (d + 1) x W') from
          hIH.out x (by have := weigh_in hx; have := HM.out; omega) W' S _ _ _ _ (d + 1) (many + 1 + manyK (n.kids.take i)) (max (max best d) (d + deepK (n.kids.take i))) mb db wb (NodeV.fr hF (fun _ _ h => h) x hxv) HS.out (hF.keep HI.out.cm (fun h => h)) (hF.keep HI.out.cd (fun h => h)) (hF.keep hw5 (fun h => h)) e1 e2 e3
            (by have := deep_kid hx; have := HX.out.2; omega) (by have := deep_take n.kids i; have := HX.out.2; omega) (by have := many_kid hx; have := HX.out.1; omega))
        have HXx := Lib.hid (And.intro hx hi)
        clear hx hi hkr hkk hc hxv hw5 hmx2 x1 x2 g1 g2
        go_wp2_with fail
        refine Calls.mono (HC.out _ ((Fr.refl _ _).alloc _)) ?_
        intro e w3 hp
        have HN := Lib.hid (HI.out.next HXx.out.1 ((Fr.refl _ _).alloc _) hp)
        obtain ⟨rfl, -⟩ := hp
        go_wp2_with fail
        go_roundg (kn - (i + 1))
        case measure => have := HXx.out.2; omega
        case rel => exact ⟨_, rfl, i + 1, by have := HXx.out.2; omega, by go_num, HN.out⟩
      · have hik : i = kn := by omega
        have htk : n.kids.take i = n.kids := by rw [hik, ← HL.out, List.take_length]
        have h1 := HI.out.cm
        have h2 := HI.out.cd
        rw [htk] at h1 h2
        rw [deepTo_all] at h2
        have HE : Hid (SzPost mb db many best d n w (.returned (.tuple #[])) W) := ⟨rfl, by rw [HX.out.1, show many + (manyK n.kids + 1) = many + 1 + manyK n.kids by omega]; exact h1, h2, HI.out.fr⟩
        clear hi hik htk h1 h2
        go_wp2_with fail
        go_end0
        exact HE.out
theorem deepTo_one (n : NodeD) : deepTo 0 1 n = deepN n := by
  have h : 0 < deepN n := by rw [deep_node]; omega
  unfold deepTo; omega
set_option maxRecDepth 100000 in
set_option maxHeartbeats 8000000 in
theorem size_h {w : World} {S : Nat → Prop} {n : NodeD} {c0 c1 c2 c3 : Value} (hn : NodeV w S n [c0, c1, c2, c3]) (hS : ∀ k, S k → k < w.heap.size) (hm : manyN n ≤ 1000) :
    Calls Tryz.prog 32 #[.agg #[c0, c1, c2, c3]] w fun e w' => e = .returned (.tuple #[.int .i64 (manyN n : Int), .int .i64 (deepN n : Int)]) ∧ Fr (fun _ => False) w w' := by
  have hmf : ∀ (fn : Fn) (first cap : Array Value) (w : World), (Instr.makeFunc fn first cap).run Tryz.prog w = .ok (.func fn first cap) w := fun _ _ _ _ => rfl
  have hdm := deep_many n
  have hW := Lib.hid (fun (W : World) (hF : Fr (fun _ => False) w W) (h1 : W.heap[w.heap.size + 1]? = some (.cells #[.int .i64 0] 3 (0, 0))) (h2 : W.heap[w.heap.size + 1 + 1]? = some (.cells #[.int .i64 0] 3 (0, 0))) (h3 : W.heap[w.heap.size + 1 + 1 + 1]? = some (.cells #[szF (w.heap.size + 1) (w.heap.size + 1 + 1) (w.heap.size + 1 + 1 + 1)] 108 (0, 0))) =>
    sizewalk_h (weighN n + 1) n (Nat.lt_succ_self _) W S c0 c1 c2 c3 1 0 0 (w.heap.size + 1) (w.heap.size + 1 + 1) (w.heap.size + 1 + 1 + 1) (NodeV.fr hF (fun _ _ h => h) n hn) (fun k hk => by have := hS k hk; omega) h1 h2 h3 (by omega) (by omega) (by omega) (by omega) (by omega) (by omega))
  obtain ⟨av, kv, xs, hcs, ha, hk, hks⟩ := hn.parts
  simp only [List.cons.injEq, and_true] at hcs
  obtain ⟨rfl, rfl, rfl, rfl⟩ := hcs
  obtain ⟨-, a1, p1, rfl, -⟩ := id ha
  obtain ⟨-, a3, p3, rfl, -, -, -, -⟩ := id hk
  clear hn ha hk hks hS hm hdm
  go_enter Tryz.func32, Tryz.ntmps32
  go_wp2_with fail
  refine Calls.mono (hW.out _ ?_ ?_ ?_ ?_) ?_
  · exact (((((Fr.refl _ _).alloc _).alloc _).alloc _).alloc _)
  · exact block_old (block_old (block_new_at (by simp)) _) _
  · exact block_old (block_new_at (by simp)) _
  · exact block_new_at (by simp)
  rintro e w3 ⟨rfl, h1, h2, h3⟩
  rw [deepTo_one] at h2
  rw [Nat.zero_add] at h1
  have x1 := cell_of h1 (i := 0) (v := .int .i64 (manyN n : Int)) rfl
  have x2 := cell_of h2 (i := 0) (v := .int .i64 (deepN n : Int)) rfl
  have HF : Hid (Fr (fun _ => False) w w3) := ((((((Fr.refl (fun _ => False) w).alloc _).alloc _).alloc _).alloc _).trans h3 fun k e => .inr (by omega))
  clear h1 h2 h3
  go_wp2_with fail
  go_big_quiet (fail)
  go_wp2_with fail
  go_ret2
  exact ⟨rfl, HF.out.next ((Fr.refl _ _).drewN _)⟩
end Go.Proofs.YtpinjgdnhbogoaaGreatDoor
