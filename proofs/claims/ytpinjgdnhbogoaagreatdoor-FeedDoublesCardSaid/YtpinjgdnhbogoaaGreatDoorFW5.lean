/- Law 13's own small, same (of equal items), has: walked. -/
import Derived.Test.YtpinjgdnhbogoaaGreatDoorFM
import Derived.Test.YtpinjgdnhbogoaaGreatDoorFP
import Derived.Test.YtpinjgdnhbogoaaGreatDoorNE
import Derived.BigQuiet
import Derived.Laws.StructEq
namespace Go.Proofs.YtpinjgdnhbogoaaGreatDoor
open Go.RowKit Go.Lib

theorem eq82 (s t u : ByteArray) (w : World) : Sem.run Tryz.prog (Op.equalIn 10000 82 (.agg #[.string s, .string t, .string u]) (.agg #[.string s, .string t, .string u])) w = .ok true w := by
  have u9 := Tryz.underlying9
  have a9 := Tryz.isAgg9
  have z9 := Tryz.sizeOf9
  have hS : Tryz.prog.underlying 82 = some (.struct (Tryz.prog.fieldsOf 82)) := by kernel_rfl
  have hp : Tryz.prog.stoodInHeld 82 = false := by kernel_rfl
  rw [show (10000 : Nat) = 9999 + 1 from rfl, run_equalIn_agg w 9999 82 _ _ hS hp]
  simp only [Program.fieldsOf, Tryz.underlying82]
  go_simp
theorem neq82 (s t u : ByteArray) (w : World) : Sem.run Tryz.prog (binOp .neq 82 (.agg #[.string s, .string t, .string u]) (.agg #[.string s, .string t, .string u])) w = .ok (.bool false) w := by
  rw [run_neq_struct, eq82]; rfl
set_option maxRecDepth 100000 in
set_option maxHeartbeats 4000000 in
theorem isame_h {w : World} {S S2 : Nat → Prop} {v u : Value} {l : List ItemD} (ha : ItemsV w S v l) (hb : ItemsV w S2 u l) (hl : l.length ≤ 1000000) : Calls Tryz.prog 58 #[v, u] w fun e w' => e = .returned (.bool true) ∧ ∃ p, w' = w.drewN p := by
  obtain ⟨a, c, rfl, -, -⟩ := ha.shape
  obtain ⟨b, d, rfl, -, -⟩ := hb.shape
  have HA := Lib.hid ha
  have HB := Lib.hid hb
  have ht : ((l.length : Int) != (l.length : Int)) = false := by simp
  clear ha hb
  go_enter Tryz.func58, Tryz.ntmps58
  go_wp2_with fail
  go_loopg [5] l.length (fun j v5 wr => ∃ i p : Nat, i + j = l.length ∧ v5 = .int .i64 i ∧ wr = w.drewN p)
  case atStart => exact ⟨0, 0, by omega, rfl, by first | rfl | exact (World.drewN_zero _).symm⟩
  case round =>
    obtain ⟨i, p, hi, rfl, rfl⟩ := hrel
    by_cases hlt : i < l.length
    · obtain ⟨g, off, rfl, hc⟩ := HA.out.cells (by omega)
      obtain ⟨g2, off2, rfl, hc2⟩ := HB.out.cells (by omega)
      obtain ⟨x, hx⟩ : ∃ x, l[i]? = some x := ⟨_, List.getElem?_eq_getElem hlt⟩
      obtain ⟨a0, a1, a2⟩ := hc i x hx
      obtain ⟨b0, b1, b2⟩ := hc2 i x hx
      have HI := Lib.hid hi
      have hneq := neq82 (bs x.id) (bs x.title) (bs x.link)
      have heq := eq82 (bs x.id) (bs x.title) (bs x.link)
      clear hc hc2 hx hi
      go_wp2_with fail
      go_big_quiet (fail)
      go_wp2_with fail
      go_roundg (l.length - (i + 1))
      case measure => have := HI.out; omega
      case rel => exact ⟨i + 1, _, by have := HI.out; omega, by go_num, by first | rfl | exact World.drewN_drewN _ _ _⟩
    · obtain rfl : i = l.length := by omega
      clear hi hlt
      go_wp2_with fail
      go_ret
      exact ⟨rfl, p, rfl⟩
set_option maxRecDepth 100000 in
set_option maxHeartbeats 4000000 in
theorem ihas_h {w : World} {S : Nat → Prop} {v : Value} {l : List ItemD} (ha : ItemsV w S v l) (id : Str) (hl : l.length ≤ 1000000) : Calls Tryz.prog 61 #[v, .string (bs id)] w fun e w' => e = .returned (.bool (hasI l id)) ∧ w = w' := by
  obtain ⟨a, c, rfl, -, -⟩ := ha.shape
  have HA := Lib.hid ha
  clear ha
  go_enter Tryz.func61, Tryz.ntmps61
  go_wp2_with fail
  go_loopg [5] l.length (fun j v5 wr => (∃ i : Nat, i + j = l.length ∧ v5 = .int .i64 i ∧ Hid (hasI (l.take i) id = false)) ∧ w = wr)
  case atStart => exact ⟨⟨0, by omega, rfl, rfl⟩, rfl⟩
  case round =>
    obtain ⟨⟨i, hi, rfl, HH⟩, rfl⟩ := hrel
    by_cases hlt : i < l.length
    · obtain ⟨g, off, rfl, hc⟩ := HA.out.cells (by omega)
      obtain ⟨x, hx⟩ : ∃ x, l[i]? = some x := ⟨_, List.getElem?_eq_getElem hlt⟩
      obtain ⟨a0, a1, a2⟩ := hc i x hx
      have HX := Lib.hid (And.intro hi hx)
      clear hc hi hx
      by_cases he : x.id = id
      · have t1 : ((bs x.id).toList == (bs id).toList) = true := by rw [he]; simp
        have HE := Lib.hid (show hasI l id = true from List.any_eq_true.2 ⟨x, List.mem_of_getElem? HX.out.2, by simpa using he⟩)
        clear he
        go_wp2_with fail
        go_ret
        exact ⟨by rw [HE.out] <;> rfl, rfl⟩
      · obtain ⟨t1, t2⟩ := str_eq_f he
        have HN : Hid (hasI (l.take (i + 1)) id = false) := by
          show _ = _
          have h := HH.out
          rw [List.take_add_one, HX.out.2]
          show hasI (l.take i ++ [x]) id = false
          rw [has_snoc, h]; simpa using he
        clear he
        go_wp2_with fail
        go_roundg (l.length - (i + 1))
        case measure => have := HX.out.1; omega
        case rel => exact ⟨⟨i + 1, by have := HX.out.1; omega, by go_num, HN.out⟩, rfl⟩
    · obtain rfl : i = l.length := by omega
      have HE := Lib.hid (show hasI l id = false by have h := HH.out; rw [List.take_length] at h; exact h)
      clear hi hlt
      go_wp2_with fail
      go_ret
      exact ⟨by rw [HE.out] <;> rfl, rfl⟩
def bigI (x : ItemD) : Bool := decide (500 < x.id.length) || decide (500 < x.title.length) || decide (500 < x.link.length)
def smallB (l : List ItemD) : Bool := decide (l.length ≤ 120) && !l.any bigI
theorem small_long {l : List ItemD} (h : 120 < l.length) : smallB l = false := by unfold smallB; rw [decide_eq_false (by omega)]; rfl
theorem small_big {l : List ItemD} {x : ItemD} (hx : x ∈ l) (h : bigI x = true) : smallB l = false := by
  unfold smallB
  rw [List.any_eq_true.2 ⟨x, hx, h⟩]; simp
theorem small_yes {l : List ItemD} (h1 : l.length ≤ 120) (h2 : l.any bigI = false) : smallB l = true := by unfold smallB; rw [decide_eq_true h1, h2]; rfl
set_option maxRecDepth 100000 in
set_option maxHeartbeats 4000000 in
theorem small_h {w : World} {S : Nat → Prop} {v : Value} {l : List ItemD} (ha : ItemsV w S v l) : Calls Tryz.prog 55 #[v] w fun e w' => e = .returned (.bool (smallB l)) ∧ w = w' := by
  obtain ⟨a, c, rfl, -, -⟩ := ha.shape
  have HA := Lib.hid ha
  clear ha
  by_cases hl : 120 < l.length
  · have HE := Lib.hid (small_long hl)
    have hi : (120 : Int) < (l.length : Int) := by omega
    clear hl
    go_enter Tryz.func55, Tryz.ntmps55
    go_wp2_with fail
    go_ret
    exact ⟨by rw [HE.out] <;> rfl, rfl⟩
  have hli : ¬ (120 : Int) < (l.length : Int) := by omega
  have hl120 : l.length ≤ 120 := by omega
  have HL := Lib.hid hl120
  clear hl
  go_enter Tryz.func55, Tryz.ntmps55
  go_wp2_with fail
  go_loopg [3] l.length (fun j v3 wr => (∃ i : Nat, i + j = l.length ∧ v3 = .int .i64 i ∧ Hid ((l.take i).any bigI = false)) ∧ w = wr)
  case atStart => exact ⟨⟨0, by omega, rfl, rfl⟩, rfl⟩
  case round =>
    obtain ⟨⟨i, hi, rfl, HH⟩, rfl⟩ := hrel
    by_cases hlt : i < l.length
    · obtain ⟨g, off, rfl, hc⟩ := HA.out.cells (by omega)
      obtain ⟨x, hx⟩ : ∃ x, l[i]? = some x := ⟨_, List.getElem?_eq_getElem hlt⟩
      obtain ⟨a0, a1, a2⟩ := hc i x hx
      have HX := Lib.hid (And.intro hi (And.intro hx (List.mem_of_getElem? hx)))
      have z0 : (bs x.id).size = x.id.length := rfl
      have z1 : (bs x.title).size = x.title.length := rfl
      have z2 : (bs x.link).size = x.link.length := rfl
      clear hc hi hx
      by_cases q0 : 500 < x.id.length
      · have q0i : (500 : Int) < (x.id.length : Int) := by omega
        have HE := Lib.hid (small_big HX.out.2.2 (by unfold bigI; rw [decide_eq_true q0]; rfl))
        clear q0
        go_wp2_with fail
        go_ret
        exact ⟨by rw [HE.out] <;> rfl, rfl⟩
      have q0i : ¬ (500 : Int) < (x.id.length : Int) := by omega
      by_cases q1 : 500 < x.title.length
      · have q1i : (500 : Int) < (x.title.length : Int) := by omega
        have HE := Lib.hid (small_big HX.out.2.2 (by unfold bigI; rw [decide_eq_true q1]; simp))
        clear q0 q1
        go_wp2_with fail
        go_ret
        exact ⟨by rw [HE.out] <;> rfl, rfl⟩
      have q1i : ¬ (500 : Int) < (x.title.length : Int) := by omega
      by_cases q2 : 500 < x.link.length
      · have q2i : (500 : Int) < (x.link.length : Int) := by omega
        have HE := Lib.hid (small_big HX.out.2.2 (by unfold bigI; rw [decide_eq_true q2]; simp))
        clear q0 q1 q2
        go_wp2_with fail
        go_ret
        exact ⟨by rw [HE.out] <;> rfl, rfl⟩
      have q2i : ¬ (500 : Int) < (x.link.length : Int) := by omega
      have HN : Hid ((l.take (i + 1)).any bigI = false) := by
        show _ = _
        rw [List.take_add_one, HX.out.2.1, List.any_append, HH.out]
        unfold bigI
        simp; omega
      clear q0 q1 q2
      go_wp2_with fail
      go_roundg (l.length - (i + 1))
      case measure => have := HX.out.1; omega
      case rel => exact ⟨⟨i + 1, by have := HX.out.1; omega, by go_num, HN.out⟩, rfl⟩
    · obtain rfl : i = l.length := by omega
      have HE := Lib.hid (small_yes HL.out (show l.any bigI = false by have h := HH.out; rw [List.take_length] at h; exact h))
      clear hi hlt
      go_wp2_with fail
      go_ret
      exact ⟨by rw [HE.out] <;> rfl, rfl⟩
end Go.Proofs.YtpinjgdnhbogoaaGreatDoor
