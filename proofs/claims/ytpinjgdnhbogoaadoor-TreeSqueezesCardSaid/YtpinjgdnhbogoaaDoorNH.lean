/- shown: chapter 12's examples. -/
import Derived.Test.YtpinjgdnhbogoaaDoorNB
import Derived.Test.YtpinjgdnhbogoaaDoorNS
import Derived.Test.YtpinjgdnhbogoaaDoorNQ
namespace Go.Proofs.YtpinjgdnhbogoaaDoor
open Go.RowKit Go.Lib

def tx1 : Str := [60, 97, 32, 120, 61, 34, 49, 34, 62, 112, 60, 98, 47, 62, 113, 60, 98, 62, 114, 60, 47, 98, 62, 60, 47, 97, 62]
def tw1 : NodeD := .mk [97] [([120], [49])] [112, 113] [.mk [98] [] [] [], .mk [98] [] [114] []]
theorem tp1 : outE (parseL tx1) = 0 ∧ sameN (outN (parseL tx1)) tw1 = true := by decide +kernel
theorem tp2 : outE (parseL [60, 97, 62, 60, 98, 62, 60, 47, 97, 62]) = 8 := by decide +kernel
theorem tp3 : outE (parseL [60, 97, 47, 62, 60, 98, 47, 62]) = 8 := by decide +kernel
theorem tp4 : outE (parseL [120, 60, 97, 47, 62]) = 8 := by decide +kernel
theorem tp5 : outE (parseL []) = 8 := by decide +kernel
theorem tp6 : squeezeL [32, 32, 97, 32, 10, 32, 98, 32] = [97, 32, 98] := by decide +kernel
theorem parse_err_at {w : World} (hE : Env w) {s : Str} {er : Int} (h : outE (parseL s) = er) (hs : s.length ≤ 1000000) : Calls Tryd.prog 6 #[.string (bs s)] w fun e w' => (∃ s0 a1 n1 p1 s2 a3 n3 p3, e = .returned (.tuple #[.agg #[.string s0, .slice a1 n1 p1, .string s2, .slice a3 n3 p3], .int .i64 er])) ∧ Fr (fun _ => False) w w' := by
  refine (parse_h hE s hs).mono ?_
  rintro e w' ⟨c0, c1, c2, c3, rfl, ⟨s0, a1, n1, p1, s2, a3, n3, p3, rfl, rfl, rfl, rfl⟩, h2, _⟩
  rw [h]
  exact ⟨⟨_, _, _, _, _, _, _, _, rfl⟩, h2⟩
set_option maxRecDepth 100000 in
set_option maxHeartbeats 8000000 in
theorem tshown_h {w : World} (hE : Env w) : Calls Tryd.prog 4 #[] w fun e w' => e = .returned (.bool true) ∧ Fr (fun _ => False) w w' := by
  have H1 := Lib.hid (parse_h hE tx1 (by decide))
  have HP2 := Lib.hid (fun (W : World) (hF : Fr (fun _ => False) w W) => parse_err_at (hE.grow hF) tp2 (by decide))
  have HP3 := Lib.hid (fun (W : World) (hF : Fr (fun _ => False) w W) => parse_err_at (hE.grow hF) tp3 (by decide))
  have HP4 := Lib.hid (fun (W : World) (hF : Fr (fun _ => False) w W) => parse_err_at (hE.grow hF) tp4 (by decide))
  have HP5 := Lib.hid (fun (W : World) (hF : Fr (fun _ => False) w W) => parse_err_at (hE.grow hF) tp5 (by decide))
  have HSq := Lib.hid (fun (W : World) => squeeze_h (w := W) [32, 32, 97, 32, 10, 32, 98, 32] (by decide))
  rw [tp6] at HSq
  clear hE
  go_enter Tryd.func4, Tryd.ntmps4
  go_wp2_with fail
  refine Calls.mono H1.out ?_
  rintro e w1 ⟨c0, c1, c2, c3, rfl, ⟨s0, a1, n1, p1, s2, a3, n3, p3, rfl, rfl, rfl, rfl⟩, hF1, hn1⟩
  rw [tp1.1]
  have HF1 := Lib.hid hF1
  have HN1 := Lib.hid hn1
  clear hF1 hn1
  go_wp2_with fail
  generalize hW3 : (((w1.alloc (.cells #[.string s0, .slice a1 n1 p1, .string s2, .slice a3 n3 p3] 28)).alloc (.cells #[.string ⟨#[120]⟩, .string ⟨#[49]⟩] 33)).alloc (.cells #[.string ⟨#[98]⟩, .slice none 0 0, .string ⟨#[]⟩, .slice none 0 0, .string ⟨#[98]⟩, .slice none 0 0, .string ⟨#[114]⟩, .slice none 0 0] 37)).alloc (.cells #[.string ⟨#[97]⟩, .slice (some ⟨w1.heap.size + 1, 0, none⟩) 1 1, .string ⟨#[112, 113]⟩, .slice (some ⟨w1.heap.size + 1 + 1, 0, none⟩) 2 2] 37) = W3
  have hF3 : Fr (fun _ => False) w1 W3 := by rw [← hW3]; exact ((((Fr.refl _ _).alloc _).alloc _).alloc _).alloc _
  have hb1 : W3.heap[w1.heap.size + 1]? = some (.cells #[.string ⟨#[120]⟩, .string ⟨#[49]⟩] 33 (0, 0)) := by rw [← hW3]; exact block_old (block_old (block_new_at (by simp)) _) _
  have hb2 : W3.heap[w1.heap.size + 1 + 1]? = some (.cells #[.string ⟨#[98]⟩, .slice none 0 0, .string ⟨#[]⟩, .slice none 0 0, .string ⟨#[98]⟩, .slice none 0 0, .string ⟨#[114]⟩, .slice none 0 0] 37 (0, 0)) := by rw [← hW3]; exact block_old (block_new_at (by simp)) _
  have hV : NodeV W3 (fun _ => True) tw1 [.string ⟨#[97]⟩, .slice (some ⟨w1.heap.size + 1, 0, none⟩) 1 1, .string ⟨#[112, 113]⟩, .slice (some ⟨w1.heap.size + 1 + 1, 0, none⟩) 2 2] :=
    NodeV.intro (nm := [97]) (tx := [112, 113]) (la := [([120], [49])]) (ks := [.mk [98] [] [] [], .mk [98] [] [114] []]) (xs := [.string ⟨#[98]⟩, .slice none 0 0, .string ⟨#[]⟩, .slice none 0 0, .string ⟨#[98]⟩, .slice none 0 0, .string ⟨#[114]⟩, .slice none 0 0])
      (SRow.of_block (e := 33) (f := (0, 0)) hb1 rfl (by decide) trivial) (SRow.of_block (e := 37) (f := (0, 0)) hb2 rfl (by decide) trivial)
      (KidsV.cons.2 ⟨[.string ⟨#[98]⟩, .slice none 0 0, .string ⟨#[]⟩, .slice none 0 0], [.string ⟨#[98]⟩, .slice none 0 0, .string ⟨#[114]⟩, .slice none 0 0], rfl, NodeV.intro (nm := [98]) (tx := []) (la := []) (ks := []) (xs := []) (SRow.nil _ _ _) (SRow.nil _ _ _) (KidsV.nil.2 rfl),
        KidsV.cons.2 ⟨[.string ⟨#[98]⟩, .slice none 0 0, .string ⟨#[114]⟩, .slice none 0 0], [], rfl, NodeV.intro (nm := [98]) (tx := [114]) (la := []) (ks := []) (xs := []) (SRow.nil _ _ _) (SRow.nil _ _ _) (KidsV.nil.2 rfl), KidsV.nil.2 rfl⟩⟩)
  have HF3 := Lib.hid (HF1.out.next hF3)
  have HSame := Lib.hid (same_h (weighN (outN (parseL tx1)) + 1) (outN (parseL tx1)) (Nat.lt_succ_self _) W3 _ _ tw1 _ _ _ _ _ _ _ _ (NodeV.fr hF3 (fun _ _ h => h) _ HN1.out) hV)
  clear hW3 hF3 hb1 hb2 hV
  refine Calls.mono HSame.out ?_
  rintro e w4 ⟨rfl, hF4⟩
  rw [tp1.2]
  have HF4 := Lib.hid (HF3.out.next hF4)
  clear hF4
  go_wp2_with fail
  refine Calls.mono (HP2.out _ HF4.out) ?_
  rintro e w5 ⟨⟨s0, a1, n1, p1, s2, a3, n3, p3, rfl⟩, hF5⟩
  have HF5 := Lib.hid (HF4.out.next hF5)
  clear hF5
  go_wp2_with fail
  refine Calls.mono (HP3.out _ (HF5.out.alloc _)) ?_
  rintro e w6 ⟨⟨s0, a1, n1, p1, s2, a3, n3, p3, rfl⟩, hF6⟩
  have HF6 := Lib.hid ((HF5.out.alloc _).next hF6)
  clear hF6
  go_wp2_with fail
  refine Calls.mono (HP4.out _ (HF6.out.alloc _)) ?_
  rintro e w7 ⟨⟨s0, a1, n1, p1, s2, a3, n3, p3, rfl⟩, hF7⟩
  have HF7 := Lib.hid ((HF6.out.alloc _).next hF7)
  clear hF7
  go_wp2_with fail
  refine Calls.mono (HP5.out _ (HF7.out.alloc _)) ?_
  rintro e w8 ⟨⟨s0, a1, n1, p1, s2, a3, n3, p3, rfl⟩, hF8⟩
  have HF8 := Lib.hid ((HF7.out.alloc _).next hF8)
  clear hF8
  go_wp2_with fail
  refine Calls.mono (HSq.out _) ?_
  rintro e w9 ⟨rfl, hF9⟩
  have HF9 := Lib.hid ((HF8.out.alloc _).next hF9)
  have eq9 : ((bs [97, 32, 98]).toList == [97, 32, 98]) = true := by rw [bs_toList]; rfl
  clear hF9
  go_wp2_with fail
  go_ret
  exact ⟨rfl, HF9.out⟩
end Go.Proofs.YtpinjgdnhbogoaaDoor
