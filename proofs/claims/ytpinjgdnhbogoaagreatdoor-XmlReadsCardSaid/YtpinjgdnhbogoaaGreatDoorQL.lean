/- The walk of the law XmlReads. -/
import Derived.Test.YtpinjgdnhbogoaaGreatDoorQD
import Derived.Test.YtpinjgdnhbogoaaGreatDoorM6
namespace Go.Proofs.YtpinjgdnhbogoaaGreatDoor
open Go.RowKit Go.Lib

theorem reads_small {s : Str} (hs : s.length ≤ 21000) : (readD s).1.length ≤ 1000000 ∧ ∀ x ∈ (readD s).1, x.attrs.length ≤ 1000000 := by
  by_cases hb : 20000 < s.length
  · rw [readD_big hb]; exact ⟨Nat.zero_le _, fun x hx => by cases hx⟩
  · cases hr : readL s with
    | error k => rw [readD_no (by omega) hr]; exact ⟨Nat.zero_le _, fun x hx => by cases hx⟩
    | ok l =>
      rw [readD_yes (by omega) hr]
      have hw := readL_w hr
      have hm := readL_many hr
      exact ⟨by dsimp only; omega, tok_attrs (readL_good hr) (n := 1000000) (by omega)⟩
set_option maxRecDepth 100000 in
set_option maxHeartbeats 8000000 in
theorem reads_h {w : World} (hE : Env w) (s : Str) : Calls Tryz.prog 7 #[.string (bs s)] w fun e w' => e = .returned (.bool true) ∧ Fr (fun _ => False) w w' := by
  have hsz : (bs s).size = s.length := rfl
  have HS := Lib.hid (shown_h hE)
  by_cases hb : 21000 < s.length
  · have hbi : (21000 : Int) < (s.length : Int) := by omega
    clear hb
    go_enter Tryz.func7, Tryz.ntmps7
    go_wp2_with fail
    refine Calls.mono HS.out ?_
    rintro e w1 ⟨rfl, hF⟩
    have HF := Lib.hid hF
    clear hF
    go_wp2_with fail
    go_ret
    exact ⟨rfl, HF.out⟩
  have hbi : ¬ (21000 : Int) < (s.length : Int) := by omega
  have HSm := Lib.hid (reads_small (s := s) (by omega))
  have HRd := Lib.hid (fun (W : World) (hF : Fr (fun _ => False) w W) => read_h (hE.grow hF) s (by omega))
  have HRr := Lib.hid (fun (W : World) => rread_h (w := W) s (by omega))
  obtain ⟨l, hl⟩ : ∃ l, (readD s).1 = l := ⟨_, rfl⟩
  obtain ⟨a, ha⟩ : ∃ a, (readD s).2.1 = a := ⟨_, rfl⟩
  obtain ⟨b, hb2⟩ : ∃ b, (readD s).2.2 = b := ⟨_, rfl⟩
  have HQ := Lib.hid (And.intro hl (And.intro ha hb2))
  rw [hl] at HSm
  have ta : (a == a) = true := by simp
  have tb : (b == b) = true := by simp
  clear hb hE hl ha hb2
  go_enter Tryz.func7, Tryz.ntmps7
  go_wp2_with fail
  refine Calls.mono HS.out ?_
  rintro e w1 ⟨rfl, hF⟩
  have HF1 := Lib.hid hF
  clear hF
  go_wp2_with fail
  refine Calls.mono (HRd.out _ HF1.out) ?_
  rintro e w2 ⟨⟨v, rfl, hT⟩, hF⟩
  rw [HQ.out.1] at hT
  rw [HQ.out.2.1, HQ.out.2.2]
  have HT := Lib.hid hT
  have HF2 := Lib.hid (HF1.out.next hF)
  clear hT hF
  go_wp2_with fail
  refine Calls.mono (HRr.out _) ?_
  rintro e w3 ⟨⟨u, rfl, hU⟩, hF⟩
  rw [HQ.out.1] at hU
  rw [HQ.out.2.1, HQ.out.2.2]
  have ha := alike_h (HT.out.fr hF).view hU.view HSm.out.1 HSm.out.2
  rw [show decide (l = l) = true by simp] at ha
  have HA := Lib.hid ha
  clear ha
  have HF3 := Lib.hid (HF2.out.next hF)
  clear hU hF
  go_wp2_with fail
  refine Calls.mono HA.out ?_
  rintro e w4 ⟨rfl, p, rfl⟩
  go_wp2_with fail
  go_ret
  exact ⟨rfl, HF3.out.drewN p⟩
end Go.Proofs.YtpinjgdnhbogoaaGreatDoor
