/- strings.Replacer.Replace; xml.Escape. -/
import Derived.Test.YtpinjgdnhbogoaaGreatDoorE6
namespace Go.Proofs.YtpinjgdnhbogoaaGreatDoor
open Go.RowKit Go.Lib

set_option maxRecDepth 100000 in
set_option maxHeartbeats 4000000 in
theorem replace_h {w : World} {S : Nat → Prop} {rp : Nat} {lv x2 : Value} (hb : w.heap[rp]? = some (.cells #[.int .u32 0, .int .i32 0, x2, .nilIface, lv] 174 (0, 0))) (hv : SRow w S 1 lv 10 (strs oldNew)) (hS : ¬ S rp) (s : Str) (hs : s.length ≤ 1000000) :
    Calls Tryz.prog 88 #[.pointer (some ⟨rp, 0, none⟩), .string (bs s)] w fun e w' => e = .returned (.string (bs (escL s))) ∧ Fr (fun k => k = rp) w w' := by
  have hmf : ∀ (fn : Fn) (first cap : Array Value) (w : World), (Instr.makeFunc fn first cap).run Tryz.prog w = .ok (.func fn first cap) w := fun _ _ _ _ => rfl
  have hm : ∀ (b : Nat) (w : World), (method 411 225 (.pointer (some ⟨b, 0, none⟩)) "Replace").run Tryz.prog w = .ok (251, .pointer (some ⟨b, 0, none⟩)) w := fun _ _ => by kernel_rfl
  have HB := Lib.hid hb
  have HV := Lib.hid hv
  clear hb hv
  go_enter Tryz.func88, Tryz.ntmps88
  go_wp2_with (first | (go_at_call 120; refine (do_h HB.out HV.out hS).mono ?_; rintro e w2 ⟨bb, rfl, hb2, hB2, hF2⟩; have c3 := cell_of hb2 (i := 3) (v := .iface 225 (.pointer (some ⟨bb, 0, none⟩))) rfl; have HB2 := Lib.hid hB2; have HF2 := Lib.hid hF2; clear hb2 hB2 hF2) | (go_at_call 251; refine (brep_h HB2.out s hs).mono ?_; rintro e w3 ⟨rfl, hF3⟩))
  go_ret
  exact ⟨rfl, HF2.out.trans hF3 fun _ h => h.elim⟩
theorem old_row : (strs oldNew) = [.string ⟨#[38]⟩, .string ⟨#[38, 97, 109, 112, 59]⟩, .string ⟨#[60]⟩, .string ⟨#[38, 108, 116, 59]⟩, .string ⟨#[62]⟩, .string ⟨#[38, 103, 116, 59]⟩, .string ⟨#[34]⟩, .string ⟨#[38, 113, 117, 111, 116, 59]⟩, .string ⟨#[39]⟩, .string ⟨#[38, 97, 112, 111, 115, 59]⟩] := rfl
set_option maxRecDepth 100000 in
set_option maxHeartbeats 4000000 in
theorem escape_h {w : World} (s : Str) (hs : s.length ≤ 1000000) : Calls Tryz.prog 38 #[.string (bs s)] w fun e w' => e = .returned (.string (bs (escL s))) ∧ Fr (fun _ => False) w w' := by
  obtain ⟨w1, hw1⟩ : ∃ w1, w.alloc (.cells #[.string ⟨#[38]⟩, .string ⟨#[38, 97, 109, 112, 59]⟩, .string ⟨#[60]⟩, .string ⟨#[38, 108, 116, 59]⟩, .string ⟨#[62]⟩, .string ⟨#[38, 103, 116, 59]⟩, .string ⟨#[34]⟩, .string ⟨#[38, 113, 117, 111, 116, 59]⟩, .string ⟨#[39]⟩, .string ⟨#[38, 97, 112, 111, 115, 59]⟩] 9) = w1 := ⟨_, rfl⟩
  have hF1 : Fr (fun _ => False) w w1 := by rw [← hw1]; exact (Fr.refl _ _).alloc _
  have hv : SRow w1 (fun k => k < w1.heap.size) 1 (.slice (some ⟨w.heap.size, 0, none⟩) 10 10) 10 (strs oldNew) := by
    rw [← hw1]
    exact SRow.of_block (e := 9) (f := (0, 0)) (by rw [old_row]; exact block_new _ _) rfl (by unfold maxLen; omega) (by simp)
  have HF1 := Lib.hid hF1
  have HV := Lib.hid hv
  clear hF1 hv
  go_enter Tryz.func38, Tryz.ntmps38
  go_wp2_with (first | (go_at_call 87; refine (newrep_h rfl HV.out).mono ?_; rintro e w2 ⟨⟨rp, lv, rfl, hb2, hr2, hlo⟩, hF2⟩; have HB2 := Lib.hid hb2; have HR2 := Lib.hid hr2; have HF2 := Lib.hid hF2; clear hb2 hr2 hF2) | (go_at_call 88; refine (replace_h HB2.out (SRow.of_owns HR2.out) (fun h => own_ne HR2.out HB2.out (by decide) h) s hs).mono ?_; rintro e w3 ⟨rfl, hF3⟩))
  go_ret
  exact ⟨rfl, (HF1.out.next HF2.out).trans hF3 fun k h => .inr (by have := HF1.out.size; omega)⟩
end Go.Proofs.YtpinjgdnhbogoaaGreatDoor
