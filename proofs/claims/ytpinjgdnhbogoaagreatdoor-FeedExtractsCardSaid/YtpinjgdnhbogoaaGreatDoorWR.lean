/- xml.Write. -/
import Derived.Test.YtpinjgdnhbogoaaGreatDoorM7
import Derived.Deep.RegionHeld3
namespace Go.Proofs.YtpinjgdnhbogoaaGreatDoor
open Go.RowKit Go.Lib

theorem esc_ge : ∀ s : Str, s.length ≤ (escL s).length
  | [] => Nat.zero_le _
  | c :: s => by
    have ih := esc_ge s
    have := esc_len c
    rw [escL_cons, List.length_append, List.length_cons]
    omega
structure WIn (w : World) (u : Str) (wr : World) : Prop where
  bld : Lib.IsBuilderF 115 5 w.heap.size w.heap.size (Lib.byteCells u) wr
  low : Below w.heap.size w wr
theorem WIn.fr {w wr w2 : World} {u : Str} (h : WIn w u wr) (hf : Fr (fun _ => False) wr w2) : WIn w u w2 := ⟨isB_fr h.bld hf, h.low.trans (hf.below h.low.size (fun _ h => h.elim))⟩
theorem WIn.put {w wr W w2 : World} {u a : Str} (h : WIn w u wr) (hf : Fr (fun _ => False) wr W) (h1 : Lib.IsBuilderF 115 5 w.heap.size w.heap.size (Lib.byteCells (u ++ a)) w2) (h2 : Below w.heap.size W w2) : WIn w (u ++ a) w2 := ⟨h1, (h.fr hf).low.trans h2⟩
theorem WIn.start (w : World) : WIn w [] (w.alloc (.cells #[.pointer none, .slice none 0 0] 115)) := ⟨isB_new w _ rfl, (Below.refl _ _).alloc (Nat.le_refl _) _⟩
/-- WriteString onto the builder -/
theorem WIn.write {w wr W : World} {u a : Str} (h : WIn w u wr) (hf : Fr (fun _ => False) wr W) (hl : u.length + a.length ≤ 140737488355328) :
    Calls Tryz.prog 81 #[.pointer (some ⟨w.heap.size, 0, none⟩), .string (bs a)] W fun e w' => e = .returned (.tuple #[.int .i64 (bs a).size, .nilIface]) ∧ WIn w (u ++ a) w' ∧ Lib.OthersKept 5 (some w.heap.size) W w' := by
  refine (bput (l := u) (a := a) (h.fr hf).bld hl (h.fr hf).low.size).mono ?_
  rintro e w' ⟨rfl, h1, h2, h3⟩
  exact ⟨rfl, h.put hf h1 h2, h3⟩
theorem tokW_open {x : TokD} (h : x.kind = 1) : tokW x = 60 :: (x.name ++ (x.attrs.flatMap attrW ++ [62])) := by unfold tokW; rw [if_pos h]
theorem tokW_close {x : TokD} (h : x.kind = 2) : tokW x = 60 :: 47 :: (x.name ++ [62]) := by unfold tokW; rw [if_neg (by omega), if_pos h]
theorem write_snoc {l : List TokD} {i : Nat} {x : TokD} (h : l[i]? = some x) : writeL (l.take (i + 1)) = writeL (l.take i) ++ tokW x := by
  unfold writeL
  rw [List.take_add_one, h, List.flatMap_append]; simp
theorem write_part {l : List TokD} {i : Nat} {x : TokD} (h : l[i]? = some x) : (writeL (l.take i)).length + (tokW x).length ≤ (writeL l).length := by
  have e : writeL l = writeL (l.take (i + 1)) ++ writeL (l.drop (i + 1)) := by unfold writeL; rw [← List.flatMap_append, List.take_append_drop]
  rw [e, write_snoc h]; simp
theorem str_add (w : World) {a b : ByteArray} (h : a.size + b.size ≤ 100000000) : (Op.stringOp .add a b).run Tryz.prog w = .ok (.string (a ++ b)) w := run_string_add_sum w a b (by omega)
end Go.Proofs.YtpinjgdnhbogoaaGreatDoor
