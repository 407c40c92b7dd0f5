/- The reference's tokens are the same: two rows of the same tokens. -/
import Derived.Test.YtpinjgdnhbogoaaGreatDoorN8
import Derived.BigQuiet
import Derived.Laws.StructEq
namespace Go.Proofs.YtpinjgdnhbogoaaGreatDoor
open Go.RowKit Go.Lib

theorem eq95 (s t : ByteArray) (w : World) : Sem.run Tryz.prog (Op.equalIn 10000 95 (.agg #[.string s, .string t]) (.agg #[.string s, .string t])) w = .ok true w := by
  have u9 := Tryz.underlying9
  have a9 := Tryz.isAgg9
  have z9 := Tryz.sizeOf9
  have hS : Tryz.prog.underlying 95 = some (.struct (Tryz.prog.fieldsOf 95)) := by kernel_rfl
  have hp : Tryz.prog.stoodInHeld 95 = false := by kernel_rfl
  rw [show (10000 : Nat) = 9999 + 1 from rfl, run_equalIn_agg w 9999 95 _ _ hS hp]
  simp only [Program.fieldsOf, Tryz.underlying95]
  go_simp
theorem neq95 (s t : ByteArray) (w : World) : Sem.run Tryz.prog (binOp .neq 95 (.agg #[.string s, .string t]) (.agg #[.string s, .string t])) w = .ok (.bool false) w := by
  rw [run_neq_struct, eq95]; rfl
set_option maxRecDepth 100000 in
set_option maxHeartbeats 16000000 in
theorem sametoks_h {w : World} {S S2 : Nat → Prop} {v u : Value} {a : List TokD} (ha : TokV w S v a) (hb : TokV w S2 u a) (hl : a.length ≤ 1000000) (hl2 : ∀ x ∈ a, x.attrs.length ≤ 1000000) :
    Calls Tryz.prog 44 #[v, u] w fun e w' => e = .returned (.bool true) ∧ ∃ p, w' = w.drewN p := by
  obtain ⟨ad, cap, rfl, hc1, hc2, hA⟩ := ha.elems
  obtain ⟨bd, cap2, rfl, hd1, hd2, hB⟩ := hb.elems
  have HA := Lib.hid hA
  have HB := Lib.hid hB
  have HL2 := Lib.hid hl2
  clear ha hb hA hB hc1 hc2 hd1 hd2 hl2
  have hne : ((a.length : Int) != (a.length : Int)) = false := by simp
  go_enter Tryz.func44, Tryz.ntmps44
  go_wp2_with fail
  go_loopg [5] a.length (fun j v5 wr => ∃ i p : Nat, i + j = a.length ∧ v5 = .int .i64 i ∧ wr = w.drewN p)
  case atStart => exact ⟨0, 0, by omega, rfl, rfl⟩
  case round =>
    obtain ⟨i, p, hi, rfl, rfl⟩ := hrel
    by_cases hlt : i < a.length
    · obtain ⟨g, off, rfl, hA⟩ := HA.out (by omega)
      obtain ⟨g2, off2, rfl, hB⟩ := HB.out (by omega)
      obtain ⟨x, hx⟩ : ∃ x, a[i]? = some x := ⟨_, List.getElem?_eq_getElem hlt⟩
      obtain ⟨av, a0, a1, a2, a3, ar⟩ := hA i x hx
      obtain ⟨bv, b0, b1, b2, b3, br⟩ := hB i x hx
      obtain ⟨_, aa, acap, rfl, _, _, _, _⟩ := id ar
      obtain ⟨_, ba, bcap, rfl, _, _, _, _⟩ := id br
      have hxl : x.attrs.length ≤ 1000000 := HL2.out x (List.mem_of_getElem? hx)
      have HAr := Lib.hid ar
      have HBr := Lib.hid br
      have HI := Lib.hid hi
      have t1 : (x.kind != x.kind) = false := by simp
      have t2 : (x.kind == x.kind) = true := by simp
      have t5 : ((x.attrs.length : Int) != (x.attrs.length : Int)) = false := by simp
      clear hA hB ar br hx hi
      go_wp2_with fail
      go_big_quiet (fail)
      go_wp2_with fail
      go_loopg [6] x.attrs.length (fun j v6 wr => ∃ k p2 : Nat, k + j = x.attrs.length ∧ v6 = .int .i64 k ∧ wr = w.drewN p2)
      case atStart => exact ⟨0, _, by omega, rfl, World.drewN_drewN _ _ _⟩
      case round =>
        obtain ⟨k, p2, hk, rfl, rfl⟩ := hrel
        by_cases hlt2 : k < x.attrs.length
        · obtain ⟨ga, oa, rfl, hca⟩ := HAr.out.cell (by omega)
          obtain ⟨gb, ob, rfl, hcb⟩ := HBr.out.cell (by omega)
          obtain ⟨r, hr⟩ : ∃ r, x.attrs[k]? = some r := ⟨_, List.getElem?_eq_getElem hlt2⟩
          obtain ⟨m0, m1⟩ := acells_at hr
          have ca0 := hca _ _ m0
          have ca1 := hca _ _ m1
          have cb0 := hcb _ _ m0
          have cb1 := hcb _ _ m1
          rw [← Nat.add_assoc] at ca1 cb1
          have HK := Lib.hid hk
          have hneq := neq95 (bs r.1) (bs r.2)
          have heq := eq95 (bs r.1) (bs r.2)
          clear m0 m1 hca hcb hk hr
          go_wp2_with fail
          go_big_quiet (fail)
          go_wp2_with fail
          go_roundg (x.attrs.length - (k + 1))
          case measure => have := HK.out; omega
          case rel => exact ⟨k + 1, _, by have := HK.out; omega, by go_num, by first | rfl | exact World.drewN_drewN _ _ _⟩
        · obtain rfl : k = x.attrs.length := by omega
          clear hlt2 hk
          go_wp2_with fail
          go_roundg (a.length - (i + 1))
          case measure => have := HI.out; omega
          case rel => exact ⟨i + 1, _, by have := HI.out; omega, by go_num, by first | rfl | exact World.drewN_drewN _ _ _⟩
    · obtain rfl : i = a.length := by omega
      clear hlt hi
      go_wp2_with fail
      go_ret
      exact ⟨rfl, p, rfl⟩
end Go.Proofs.YtpinjgdnhbogoaaGreatDoor
