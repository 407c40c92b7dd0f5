/- Int: walked. -/
import Derived.Test.YtgmghopcppniaaaGreatDoorS10
namespace Go.Proofs.YtgmghopcppniaaaGreatDoor
open Go.RowKit Go.Lib

theorem Fr.next' {w w1 w2 : World} (h : Fr (fun _ => False) w w1) (k : Below w.heap.size w1 w2) : Fr (fun _ => False) w w2 :=
  ⟨k.os.trans h.os, k.tape.trans h.tape, k.output.trans h.output, Nat.le_trans h.size k.size, fun i hi hn => (k.block i hi).trans (h.block i hi hn)⟩
set_option maxRecDepth 100000 in
set_option maxHeartbeats 8000000 in
theorem int_h {w : World} {cap : Nat} {a : Option Addr} (l : List Int) (hI : ∀ n ∈ l, I64 n) (hr : IR w (fun k => k < w.heap.size) (.slice a l.length cap) l) (hl : 10 * l.length ≤ 10000000) :
    Calls Tryz.prog 120 #[.slice a l.length cap] w fun e w' => e = .returned (.string (bs (intsL l))) ∧ Fr (fun _ => False) w w' := by
  have HR := Lib.hid hr
  have HII := Lib.hid hI
  clear hr hI
  have hmf : ∀ (fn : Fn) (first cap : Array Value) (w : World), (Instr.makeFunc fn first cap).run Tryz.prog w = .ok (.func fn first cap) w := fun _ _ _ _ => rfl
  go_enter Tryz.func120, Tryz.ntmps120
  go_wp2_with fail
  obtain ⟨w1, hw1⟩ : ∃ w1, w.alloc (.cells #[.pointer none, .slice none 0 0] 197) = w1 := ⟨_, rfl⟩
  rw [hw1]
  have hf1 : Fr (fun _ => False) w w1 := by rw [← hw1]; exact (Fr.refl _ w).alloc _
  have hbk : w1.heap[w.heap.size]? = some (.cells #[.pointer none, .slice none 0 0] 197 (0, 0)) := by rw [← hw1]; exact Array.getElem?_push_size
  have hW : Wr w.heap.size w.heap.size [] w1 := Or.inl ⟨Nat.le_refl _, _, hbk, World.ownsRowF_nil _ _ _ _, by simp [Value.ownBlock]⟩
  have HE := Lib.hid (each_h l HII.out (HR.out.grow hf1) hW (by rw [List.length_nil]; omega) hf1.size)
  have HF1 := Lib.hid hf1
  clear hw1 hbk hf1 hW
  refine Calls.mono HE.out ?_
  rintro e w2 ⟨rfl, hW2⟩
  rw [List.nil_append] at hW2
  have HS := Lib.hid (bstring_any_k w.heap.size w.heap.size (intsL l) w2 hW2.1 (Nat.le_trans HF1.out.size hW2.2.1.size))
  have HF2 := Lib.hid (show Fr (fun _ => False) w w2 from HF1.out.next' hW2.2.1)
  clear hW2
  go_wp2_with fail
  refine Calls.mono HS.out ?_
  rintro e w3 ⟨rfl, _, hb, _⟩
  have HF3 := Lib.hid (show Fr (fun _ => False) w w3 from HF2.out.next' hb)
  clear hb
  go_wp2_with fail
  go_ret
  exact ⟨rfl, HF3.out⟩
end Go.Proofs.YtgmghopcppniaaaGreatDoor
