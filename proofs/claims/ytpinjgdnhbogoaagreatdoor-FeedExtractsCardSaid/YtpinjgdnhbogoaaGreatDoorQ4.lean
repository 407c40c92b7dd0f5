/- The reference's Escape and Write. -/
import Derived.Test.YtpinjgdnhbogoaaGreatDoorWR
import Derived.Test.YtpinjgdnhbogoaaGreatDoorQ3
import Derived.Lib.AppendStr
namespace Go.Proofs.YtpinjgdnhbogoaaGreatDoor
open Go.RowKit Go.Lib

/-- bytes in a row of one's own -/
def BRow (B : Nat) (w : World) (v : Value) (u : Str) : Prop := w.ownsRow B 5 1 v u.length (Lib.byteCells u)
theorem BRow.nil (B : Nat) (w : World) : BRow B w (.slice none 0 0) [] := World.ownsRow_nil _ _ _ _
theorem BRow.fr {B : Nat} {w w' : World} {v : Value} {u : Str} (h : BRow B w v u) (hf : Fr (fun _ => False) w w') : BRow B w' v u := ownsRow_fr h hf
theorem BRow.shape {B : Nat} {w : World} {v : Value} {u : Str} (h : BRow B w v u) : ∃ b cap, v = .slice b u.length cap := ownsRow_shape h
/-- string(b) -/
theorem BRow.text {B : Nat} {w : World} {v : Value} {u : Str} (h : BRow B w v u) : Sem.run Tryz.prog (convert 113 9 v) w = .ok (.string (bs u)) w := by
  have hc := fun g => h.cells (g := g)
  rcases h.2 with ⟨rfl, h2⟩ | ⟨g, cap, cur, rfl, _, hh, _⟩
  · obtain rfl := List.eq_nil_of_length_eq_zero h2
    exact run_convert_bytes_nil w 113 5 Tryz.underlying113 Tryz.underlying5 0 0 9 Tryz.underlying9
  · refine run_convert_bytes_back w 113 9 5 ⟨g, 0, none⟩ cap u Tryz.underlying113 Tryz.underlying5 Tryz.underlying9 fun j hj => ?_
    exact hc g rfl j _ (by unfold Lib.byteCells; simp [hj])
theorem BRow.more {B : Nat} {w w' : World} {v v' : Value} {u l : Str} (h : BRow B w v u) (hr : w'.ownsRow B 5 1 v' (u.length + l.length) (Lib.byteCells u ++ Lib.byteCells l)) : BRow B w' v' (u ++ l) := by
  unfold BRow
  rw [List.length_append, ← byteCells_app]; exact hr
theorem BRow.frg {B : Nat} {w w' w0 : World} {v : Value} {u : Str} (h : BRow B w v u) (hf : Fr (fun _ => False) w0 w) (hg : w.grownBy w' v.ownBlock) (hB : w0.heap.size ≤ B) : Fr (fun _ => False) w0 w' :=
  hf.grown hg fun k hk => .inr (Nat.le_trans hB (h.lt k hk).1)
theorem u8_ne {c : UInt8} {n : Nat} (hn : n < 256) (h : c ≠ UInt8.ofNat n) : ((c.toNat : Int) == (n : Int)) = false := by
  rw [beq_eq_false_iff_ne]; intro e
  refine h (UInt8.toNat.inj ?_)
  rw [UInt8.toNat_ofNat', Nat.mod_eq_of_lt hn]; omega
end Go.Proofs.YtpinjgdnhbogoaaGreatDoor
