/- strings.NewReplacer, at a row of ten texts. -/
import Derived.Test.YtpinjgdnhbogoaaGreatDoorE1
namespace Go.Proofs.YtpinjgdnhbogoaaGreatDoor
open Go.RowKit Go.Lib

theorem info9 : (Tryz.prog.info? 9).map (fun i => (i.zero, i.size, i.bytes)) = some (some (.string ⟨#[]⟩), 1, 16) := by kernel_rfl
def strs (l : List Str) : List Value := l.map fun s => .string (bs s)
theorem strs_one (l : List Str) : ∀ u ∈ strs l, u.oneCell' = true := by
  intro u hu
  obtain ⟨a, _, rfl⟩ := List.mem_map.1 hu
  rfl
theorem strs_len (l : List Str) : (strs l).length = l.length * 1 := by unfold strs; simp
set_option maxHeartbeats 4000000 in
theorem newrep_h {w : World} {S : Nat → Prop} {v : Value} {l : List Str} (hl : l.length = 10) (hv : SRow w S 1 v 10 (strs l)) :
    Calls Tryz.prog 87 #[v] w fun e w' => (∃ rp lv, e = .returned (.pointer (some ⟨rp, 0, none⟩)) ∧ w'.heap[rp]? = some (.cells #[.int .u32 0, .int .i32 0, .int .u32 0, .nilIface, lv] 174 (0, 0)) ∧ w'.ownsRow w.heap.size 9 1 lv 10 (strs l) ∧ w.heap.size ≤ rp) ∧ Fr (fun _ => False) w w' := by
  obtain ⟨i0, hi0, hz0, hz1, hz2⟩ := info_parts info9
  obtain ⟨hlen, a, cap, rfl, hnc, hcm, h5, h6⟩ := id hv
  have HV := Lib.hid hv
  clear hv h5 h6 hlen hl
  go_enter Tryz.func87, Tryz.ntmps87
  go_wp2_with (at_builtin; refine wpList_append_row rfl (.const (.slice none 0 0)) (.tmp 8) 65 rfl w.heap.size 9 i0 (.string ⟨#[]⟩) 1 16 Tryz.underlying65 hi0 hz0 hz1 hz2 rfl (by decide) (.slice none 0 0) 0 [] rfl (World.ownsRow_nil _ _ _ _) S _ 10 (strs l) rfl HV.out (strs_one l) (by unfold maxLen; omega) (by omega) (Nat.le_refl _) ?_; intro b7 cap7 w7 hown7 hgrow7 hat7)
  simp only [Nat.zero_add, List.nil_append] at hown7
  have hF7 : Fr (fun _ => False) w w7 := (Fr.refl _ _).grown hgrow7 (fun k hk => by simp [Value.ownBlock] at hk)
  go_ret
  exact ⟨⟨w7.heap.size, _, rfl, block_new _ _, ownsRow_fr hown7 ((Fr.refl _ _).alloc _), hF7.size⟩, hF7.alloc _⟩
end Go.Proofs.YtpinjgdnhbogoaaGreatDoor
