/- as: a tree as the reference has it. -/
import Derived.Test.YtpinjgdnhbogoaaGreatDoorNF
import Derived.RegionTactic
import Derived.ChangeAlike
import Derived.BigRegion
namespace Go.Proofs.YtpinjgdnhbogoaaGreatDoor
open Go.RowKit Go.Lib

def TAsPost (n : NodeD) (w : World) (e : Ending) (w' : World) : Prop :=
  ∃ c0 c1 c2 c3, e = .returned (.tuple #[.agg #[c0, c1, c2, c3], .bool (sameN n (cpN n 40 300).1 && decide (0 < (cpN n 40 300).2))]) ∧ NShape c0 c1 c2 c3 ∧ NodeV w' (fun k => w.heap.size ≤ k ∧ k < w'.heap.size) (cpN n 40 300).1 [c0, c1, c2, c3] ∧ Fr (fun _ => False) w w'
set_option maxRecDepth 100000 in
set_option maxHeartbeats 4000000 in
theorem tas_h {w : World} {S : Nat → Prop} {n : NodeD} {c0 c1 c2 c3 : Value} (hn : NodeV w S n [c0, c1, c2, c3]) (hS : ∀ k, S k → k < w.heap.size) : Calls Tryz.prog 29 #[.agg #[c0, c1, c2, c3]] w (TAsPost n w) := by
  have HNode := Lib.hid (fun (W : World) (hF : Fr (fun _ => False) w W) (hb : W.heap[w.heap.size + 1 + 1]? = some (.cells #[.int .i64 300] 3 (0, 0))) => show Calls Tryz.prog 70 #[.agg #[c0, c1, c2, c3], .int .i64 40, .pointer (some ⟨w.heap.size + 1 + 1, 0, none⟩)] W (NodePost 3 (w.heap.size + 1 + 1) n 40 300 W) from
    node_h 101 40 (by omega) (by omega) n W S c0 c1 c2 c3 (w.heap.size + 1 + 1) 300 (NodeV.fr hF (fun _ _ h => h) n hn) (fun k hk => ⟨by have := hS k hk; have := hF.size; omega, by have := hS k hk; omega⟩) hb (by omega) (by omega))
  have HSame := Lib.hid (fun (W : World) (o : Nat → Prop) (hF : Fr o w W) (ho : ∀ k, k < w.heap.size → ¬ o k) (m : NodeD) (S2 : Nat → Prop) (d0 d1 d2 d3 : Value) (hm : NodeV W S2 m [d0, d1, d2, d3]) => same_h (weighN n + 1) n (Nat.lt_succ_self _) W S S2 m c0 c1 c2 c3 d0 d1 d2 d3 (NodeV.fr hF (fun k hk => ho k (hS k hk)) n hn) hm)
  obtain ⟨av, kv, xs, hcs, ha, hk, hks⟩ := hn.parts
  simp only [List.cons.injEq, and_true] at hcs
  obtain ⟨rfl, rfl, rfl, rfl⟩ := hcs
  obtain ⟨-, a1, p1, rfl, -⟩ := id ha
  obtain ⟨-, a3, p3, rfl, -, -, -, -⟩ := id hk
  have HF0 : Hid (Fr (fun _ => False) w (((w.alloc (.cells #[.string (bs n.name), .slice a1 n.attrs.length p1, .string (bs n.text), .slice a3 n.kids.length p3] 30)).alloc (.cells #[.string ⟨#[]⟩, .slice none 0 0, .string ⟨#[]⟩, .slice none 0 0] 37)).alloc (.cells #[.int .i64 300] 3))) := (((Fr.refl _ _).alloc _).alloc _).alloc _
  have HB0 : Hid ((((w.alloc (.cells #[.string (bs n.name), .slice a1 n.attrs.length p1, .string (bs n.text), .slice a3 n.kids.length p3] 30)).alloc (.cells #[.string ⟨#[]⟩, .slice none 0 0, .string ⟨#[]⟩, .slice none 0 0] 37)).alloc (.cells #[.int .i64 300] 3)).heap[w.heap.size]? = some (.cells #[.string (bs n.name), .slice a1 n.attrs.length p1, .string (bs n.text), .slice a3 n.kids.length p3] 30 (0, 0)) ∧
    (((w.alloc (.cells #[.string (bs n.name), .slice a1 n.attrs.length p1, .string (bs n.text), .slice a3 n.kids.length p3] 30)).alloc (.cells #[.string ⟨#[]⟩, .slice none 0 0, .string ⟨#[]⟩, .slice none 0 0] 37)).alloc (.cells #[.int .i64 300] 3)).heap[w.heap.size + 1]? = some (.cells #[.string ⟨#[]⟩, .slice none 0 0, .string ⟨#[]⟩, .slice none 0 0] 37 (0, 0)) ∧
    (((w.alloc (.cells #[.string (bs n.name), .slice a1 n.attrs.length p1, .string (bs n.text), .slice a3 n.kids.length p3] 30)).alloc (.cells #[.string ⟨#[]⟩, .slice none 0 0, .string ⟨#[]⟩, .slice none 0 0] 37)).alloc (.cells #[.int .i64 300] 3)).heap[w.heap.size + 1 + 1]? = some (.cells #[.int .i64 300] 3 (0, 0))) :=
    ⟨block_old (block_old (block_new _ _) _) _, block_old (block_new_at (by simp)) _, block_new_at (by simp)⟩
  obtain ⟨nc, hnc⟩ : ∃ nc, (cpN n 40 300).1 = nc := ⟨_, rfl⟩
  obtain ⟨lf, hlf⟩ : ∃ lf, (cpN n 40 300).2 = lf := ⟨_, rfl⟩
  have HC := Lib.hid (And.intro hnc hlf)
  clear hn ha hk hks hS hnc hlf
  go_enter Tryz.func29, Tryz.ntmps29
  go_wp2_with fail
  refine Calls.mono (HNode.out _ HF0.out HB0.out.2.2) ?_
  rintro e w3 ⟨d0, d1, d2, d3, rfl, hsh, hnv, hb3, hF3⟩
  rw [HC.out.1] at hnv
  rw [HC.out.2] at hb3
  obtain ⟨s0, b1, n1, q1, s2, b3, n3, q3, rfl, rfl, rfl, rfl⟩ := hsh
  have HF3 := Lib.hid (HF0.out.trans hF3 fun k e => .inr (by omega))
  have HB3 : Hid (w3.heap[w.heap.size]? = some (.cells #[.string (bs n.name), .slice a1 n.attrs.length p1, .string (bs n.text), .slice a3 n.kids.length p3] 30 (0, 0)) ∧ w3.heap[w.heap.size + 1]? = some (.cells #[.string ⟨#[]⟩, .slice none 0 0, .string ⟨#[]⟩, .slice none 0 0] 37 (0, 0)) ∧ w3.heap[w.heap.size + 1 + 1]? = some (.cells #[.int .i64 lf] 3 (0, 0))) := ⟨hF3.keep HB0.out.1 (by omega), hF3.keep HB0.out.2.1 (by omega), hb3⟩
  have HN3 := Lib.hid hnv
  have x0 := cell_of HB3.out.1 (i := 0) (v := .string (bs n.name)) rfl
  have x1 := cell_of HB3.out.1 (i := 1) (v := .slice a1 n.attrs.length p1) rfl
  have x2 := cell_of HB3.out.1 (i := 2) (v := .string (bs n.text)) rfl
  have x3 := cell_of HB3.out.1 (i := 3) (v := .slice a3 n.kids.length p3) rfl
  have l3 := lt_of_block HB3.out.1
  clear hnv hb3 hF3
  go_wp2_with fail
  refine Calls.mono (HSame.out _ (fun _ => False) (HF3.out.next ((Fr.refl _ _).alloc _)) (fun _ _ h => h) nc _ _ _ _ _ (NodeV.fr ((Fr.refl (fun _ => False) w3).alloc _) (fun _ _ h => h) nc HN3.out)) ?_
  rintro e w5 ⟨rfl, hF5⟩
  have hb5 := hF5.keep (block_new w3 (.cells #[.string s0, .slice b1 n1 q1, .string s2, .slice b3 n3 q3] 37)) (fun h => h)
  have hA5 : Fr (fun _ => False) w3 w5 := ((Fr.refl _ _).alloc _).next hF5
  have h2 := hA5.keep HB3.out.2.1 (fun h => h)
  have h3 := hA5.keep HB3.out.2.2 (fun h => h)
  have HN5 := Lib.hid (NodeV.mono (S' := fun k => w.heap.size + 1 + 1 < k ∧ k < w5.heap.size) (fun k hk => ⟨by have := hk.1; simp at this; omega, Nat.lt_of_lt_of_le hk.2 hA5.size⟩) nc (NodeV.fr hA5 (fun _ _ h => h) nc HN3.out))
  have HF5 := Lib.hid (HF3.out.next hA5)
  have HB5 := Lib.hid h2
  have y0 := cell_of hb5 (i := 0) (v := .string s0) rfl
  have y1 := cell_of hb5 (i := 1) (v := .slice b1 n1 q1) rfl
  have y2 := cell_of hb5 (i := 2) (v := .string s2) rfl
  have y3 := cell_of hb5 (i := 3) (v := .slice b3 n3 q3) rfl
  have l5 := lt_of_block hb5
  have r0 := cell_of h2 (i := 0) (v := .string ⟨#[]⟩) rfl
  have r1 := cell_of h2 (i := 1) (v := .slice none 0 0) rfl
  have r2 := cell_of h2 (i := 2) (v := .string ⟨#[]⟩) rfl
  have r3 := cell_of h2 (i := 3) (v := .slice none 0 0) rfl
  have t0 := free_of 0 h2
  have t1 := free_of 1 h2
  have t2 := free_of 2 h2
  have t3 := free_of 3 h2
  have l2 := lt_of_block h2
  have u0 := cell_of h3 (i := 0) (v := .int .i64 lf) rfl
  have l6 := lt_of_block h3
  have HSz := Lib.hid HF3.out.size
  obtain ⟨sm, hsm⟩ : ∃ sm, sameN n nc = sm := ⟨_, rfl⟩
  rw [hsm]
  have HSm := Lib.hid hsm
  obtain ⟨pb, hpb⟩ : ∃ pb, decide (0 < lf) = pb := ⟨_, rfl⟩
  have HPb := Lib.hid hpb
  clear hF5 hb5 hA5 h2 h3 hsm
  have hF5s := HF5.out.size
  have HPost : Hid (∀ (b : Bool), b = (sm && decide (0 < lf)) → ∀ W' : World, W'.heap = ((((w5.setCell ⟨w.heap.size + 1, 0, none⟩ (.string s0)).setCell ⟨w.heap.size + 1, 1, none⟩ (.slice b1 n1 q1)).setCell ⟨w.heap.size + 1, 2, none⟩ (.string s2)).setCell ⟨w.heap.size + 1, 3, none⟩ (.slice b3 n3 q3)).heap → W'.os = w5.os → W'.tape = w5.tape → W'.output = w5.output →
      TAsPost n w (.returned (.tuple #[.agg #[.string s0, .slice b1 n1 q1, .string s2, .slice b3 n3 q3], .bool b])) W') := by
    intro b hb W' h1 h2 h3 h4
    have hfs := fr_set4b w5 (w.heap.size + 1) (.string s0) (.slice b1 n1 q1) (.string s2) (.slice b3 n3 q3)
    have hfw : Fr (fun k => k = w.heap.size + 1) w5 W' := hfs.of_heap h1 h2 h3 h4
    have hz3 := HSz.out
    refine ⟨_, _, _, _, by rw [hb, HC.out.1, HC.out.2, HSm.out], .mk ⟨_, _, _, rfl⟩ ⟨_, _, _, rfl⟩, ?_, HF5.out.trans hfw fun k e => .inr (by omega)⟩
    rw [HC.out.1]
    exact NodeV.mono (fun k hk => ⟨by omega, Nat.lt_of_lt_of_le hk.2 hfw.size⟩) _ (NodeV.fr hfw (fun k hk e => by omega) _ HN5.out)
  cases sm with
  | true =>
    cases pb with
    | true =>
      have hlf : 0 < lf := of_decide_eq_true hpb
      clear hpb
      go_wp2_with fail
      go_region
      all_goals
        go_wp2_with fail
        have hz := block_set4b (a := .string s0) (b := .slice b1 n1 q1) (c := .string s2) (d := .slice b3 n3 q3) HB5.out
        have e0 := cell_of hz (i := 0) (v := .string s0) rfl
        have e1 := cell_of hz (i := 1) (v := .slice b1 n1 q1) rfl
        have e2 := cell_of hz (i := 2) (v := .string s2) rfl
        have e3 := cell_of hz (i := 3) (v := .slice b3 n3 q3) rfl
        refine bodyPost_ret (v := .tuple #[.agg #[.string s0, .slice b1 n1 q1, .string s2, .slice b3 n3 q3], .bool true]) (by simp [results, Tryz.results29, go_sem, e0, e1, e2, e3] <;> rfl) rfl ?_
        exact HPost.out true (by simp [hlf]) _ rfl rfl rfl rfl
    | false =>
      have hlf : ¬ 0 < lf := of_decide_eq_false hpb
      clear hpb
      go_wp2_with fail
      go_region
      all_goals
        go_wp2_with fail
        have hz := block_set4b (a := .string s0) (b := .slice b1 n1 q1) (c := .string s2) (d := .slice b3 n3 q3) HB5.out
        have e0 := cell_of hz (i := 0) (v := .string s0) rfl
        have e1 := cell_of hz (i := 1) (v := .slice b1 n1 q1) rfl
        have e2 := cell_of hz (i := 2) (v := .string s2) rfl
        have e3 := cell_of hz (i := 3) (v := .slice b3 n3 q3) rfl
        refine bodyPost_ret (v := .tuple #[.agg #[.string s0, .slice b1 n1 q1, .string s2, .slice b3 n3 q3], .bool (decide (0 < lf))]) (by simp [results, Tryz.results29, go_sem, e0, e1, e2, e3] <;> rfl) rfl ?_
        exact HPost.out (decide (0 < lf)) (by rfl) _ rfl rfl rfl rfl
  | false =>
    clear hpb
    go_wp2_with fail
    go_region
    all_goals
      go_wp2_with fail
      have hz := block_set4b (a := .string s0) (b := .slice b1 n1 q1) (c := .string s2) (d := .slice b3 n3 q3) HB5.out
      have e0 := cell_of hz (i := 0) (v := .string s0) rfl
      have e1 := cell_of hz (i := 1) (v := .slice b1 n1 q1) rfl
      have e2 := cell_of hz (i := 2) (v := .string s2) rfl
      have e3 := cell_of hz (i := 3) (v := .slice b3 n3 q3) rfl
      refine bodyPost_ret (v := .tuple #[.agg #[.string s0, .slice b1 n1 q1, .string s2, .slice b3 n3 q3], .bool false]) (by simp [results, Tryz.results29, go_sem, e0, e1, e2, e3] <;> rfl) rfl ?_
      exact HPost.out false (by rfl) _ rfl rfl rfl rfl
end Go.Proofs.YtpinjgdnhbogoaaGreatDoor
