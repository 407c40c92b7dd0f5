/- find and Read. -/
import Derived.Test.YtfcnjbkoneinpaaDoorK1
namespace Go.Proofs.YtfcnjbkoneinpaaDoor
open Go.RowKit Go.Lib

section
variable {w w' : World} {pb mb : Nat} {D : DiskD} {n x : List UInt8} {f : FileD}
theorem zero67 : ∀ w, (zeroValue 67).run Tryd.prog w = .ok (.agg #[.string ⟨#[]⟩, .int .i64 0]) w := Tryd.zeroValue67

theorem look_some (hD : DiskAt w pb mb D) (hg : getF D.files n = some f) (ok : Bool) : (Instr.lookup 61 (.map (some mb)) (.string (bs n)) ok).run Tryd.prog w = .ok (if ok then .tuple #[valF f, .bool true] else valF f) w := by
  obtain ⟨h1, h2⟩ := get_mem hg
  exact hD.map.run_look (k := .string (bs n)) Tryd.underlying61 Tryd.underlying9 trivial (List.mem_map.2 ⟨f, h1, by unfold entF; rw [h2]⟩) ok
theorem key_ne (hg : getF D.files n = none) : ∀ p ∈ D.files.map entF, p.1 ≠ .string (bs n) := by
  intro p hp e
  obtain ⟨g, hgm, rfl⟩ := List.mem_map.1 hp
  unfold entF at e
  simp only [Value.string.injEq] at e
  exact get_none.1 hg g hgm (bs_inj e)
theorem look_none (hD : DiskAt w pb mb D) (hg : getF D.files n = none) (ok : Bool) : (Instr.lookup 61 (.map (some mb)) (.string (bs n)) ok).run Tryd.prog w = .ok (if ok then .tuple #[.agg #[.string ⟨#[]⟩, .int .i64 0], .bool false] else .agg #[.string ⟨#[]⟩, .int .i64 0]) w :=
  hD.map.run_none (k := .string (bs n)) Tryd.underlying61 Tryd.underlying9 trivial (key_ne hg) zero67 ok

theorem find_dead (hD : DiskAt w pb mb D) (hd : D.dead = true) : Calls Tryd.prog 42 #[.pointer (some ⟨pb, 0, none⟩), .string (bs n)] w fun e w' => e = .returned (.tuple #[.agg #[.string ⟨#[]⟩, .int .i64 0], .int .i64 7]) ∧ Fr (fun _ => False) w w' := by
  obtain ⟨c0, c1, c2, c3⟩ := (hD.grow ((Fr.refl _ _).alloc (.cells #[.string ⟨#[]⟩, .int .i64 0] 67))).cells
  rw [hd] at c3
  go_enter Tryd.func42, Tryd.ntmps42
  go_wp2_with fail
  refine bodyPost_ret (v := .tuple #[.agg #[.string ⟨#[]⟩, .int .i64 0], .int .i64 7]) (by simp [results, Tryd.results42, go_sem]) rfl ⟨rfl, ?_⟩
  exact (Fr.refl _ _).alloc _
theorem find_none (hD : DiskAt w pb mb D) (hd : D.dead = false) (hg : getF D.files n = none) : Calls Tryd.prog 42 #[.pointer (some ⟨pb, 0, none⟩), .string (bs n)] w fun e w' => e = .returned (.tuple #[.agg #[.string ⟨#[]⟩, .int .i64 0], .int .i64 4]) ∧ Fr (fun _ => False) w w' := by
  obtain ⟨c0, c1, c2, c3⟩ := (hD.grow ((Fr.refl _ _).alloc (.cells #[.string ⟨#[]⟩, .int .i64 0] 67))).cells
  have hl := look_none (hD.grow ((Fr.refl _ _).alloc (.cells #[.string ⟨#[]⟩, .int .i64 0] 67))) hg true
  simp only [if_true] at hl
  rw [hd] at c3
  go_enter Tryd.func42, Tryd.ntmps42
  go_wp2_with fail
  refine bodyPost_ret (v := .tuple #[.agg #[.string ⟨#[]⟩, .int .i64 0], .int .i64 4]) (by simp [results, Tryd.results42, go_sem]) rfl ⟨rfl, ?_⟩
  exact ((Fr.refl _ _).alloc _).alloc _
theorem find_some (hD : DiskAt w pb mb D) (hd : D.dead = false) (hg : getF D.files n = some f) : Calls Tryd.prog 42 #[.pointer (some ⟨pb, 0, none⟩), .string (bs n)] w fun e w' => e = .returned (.tuple #[valF f, .int .i64 0]) ∧ Fr (fun _ => False) w w' := by
  obtain ⟨c0, c1, c2, c3⟩ := (hD.grow ((Fr.refl _ _).alloc (.cells #[.string ⟨#[]⟩, .int .i64 0] 67))).cells
  have hl := look_some (hD.grow ((Fr.refl _ _).alloc (.cells #[.string ⟨#[]⟩, .int .i64 0] 67))) hg true
  simp only [if_true, valF] at hl
  unfold valF
  rw [hd] at c3
  go_enter Tryd.func42, Tryd.ntmps42
  go_wp2_with fail
  refine bodyPost_ret (v := .tuple #[.agg #[.string (bs f.bytes), .int .i64 f.synced], .int .i64 0]) (by simp [results, Tryd.results42, go_sem]) rfl ⟨rfl, ?_⟩
  exact ((Fr.refl _ _).alloc _).alloc _
end
end Go.Proofs.YtfcnjbkoneinpaaDoor
