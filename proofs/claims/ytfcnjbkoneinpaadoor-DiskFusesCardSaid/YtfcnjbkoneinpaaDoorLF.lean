/- The walk of the law DiskFuses. -/
import Derived.Test.YtfcnjbkoneinpaaDoorKE
namespace Go.Proofs.YtfcnjbkoneinpaaDoor
open Go.RowKit Go.Lib

section
variable {w w' : World} {pb mb : Nat} {D : DiskD} {v : Value} {l : List ActM}
theorem acts_nil (w : World) (S : Nat → Prop) : ActsAt w S (.slice none 0 0) [] := ⟨⟨none, 0, rfl, Nat.le_refl _, by decide, fun h => absurd h (by decide)⟩, fun m hm => by cases hm⟩
def FuseRel (w : World) (pb mb most : Nat) (l : List ActM) (j : Nat) (u v : Value) (wr : World) : Prop :=
  ∃ (k many : Nat) (D : DiskD), k + j = l.length ∧ v = .int .i64 k ∧ u = .int .i64 many ∧ many ≤ 1000000 ∧ DiskAt wr pb mb D ∧ Fused most many D ∧ Fr (fun _ => False) w wr
theorem fused_le {most many : Nat} (h : Fused most many D) : many ≤ most := by
  rcases h with ⟨_, _, h⟩ | ⟨_, h⟩ <;> omega

set_option maxRecDepth 100000 in
set_option maxHeartbeats 8000000 in
theorem fuses_h (hA : ActsAt w (fun k => k < w.heap.size) v l) {turns : Int} (hb1 : -9223372036854775808 ≤ turns) (hb2 : turns ≤ 9223372036854775807) : Calls Tryd.prog 8 #[v, .int .i64 turns] w fun e w' => e = .returned (.bool true) ∧ Fr (fun _ => False) w w' := by
  obtain ⟨most, hmost, hm30⟩ : ∃ most : Nat, pickZ turns 30 = most ∧ most < 30 := by
    have h1 : 0 ≤ pickZ turns 30 := by unfold pickZ; exact Int.emod_nonneg _ (by decide)
    have h2 : pickZ turns 30 < 30 := by unfold pickZ; exact Int.emod_lt_of_pos _ (by decide)
    exact ⟨(pickZ turns 30).toNat, by omega, by omega⟩
  have hpk := fun W => pick_h (w := W) hb1 hb2 (n := 30) (by decide) (by decide)
  rw [hmost] at hpk
  have HPK := Lib.hid hpk
  have HA := Lib.hid hA
  obtain ⟨⟨a, cap, rfl, hc1, hc2, _⟩, _⟩ := hA
  clear hpk hmost
  go_enter Tryd.func8, Tryd.ntmps8
  go_wp2_with fail
  refine Calls.mono (shown_h w) ?_
  rintro e w1 ⟨rfl, hF1⟩
  have HF1 := Lib.hid hF1
  clear hF1
  go_wp2_with fail
  refine Calls.mono (small_h (HA.out.grow HF1.out)) ?_
  rintro e w1 ⟨r, rfl, hr, rfl⟩
  have HR := Lib.hid hr
  clear hr
  cases r with
  | false =>
    go_wp2_with fail
    go_ret
    exact ⟨rfl, HF1.out⟩
  | true =>
    have HS := Lib.hid (HR.out.1 rfl)
    clear HR
    go_wp2_with fail
    refine Calls.mono (made_h (acts_nil _ _) (l := []) ⟨by decide, fun m hm => by cases hm⟩ (by decide) (by decide)) ?_
    rintro e w2 ⟨pb, mb, rfl, hD2, hf2, hp2, hm2⟩
    obtain ⟨hpw1, hpw2⟩ : w.heap.size ≤ pb ∧ w.heap.size ≤ mb := by have := HF1.out.size; omega
    have hE : ∃ E : DiskD, E = playM (newD (pickZ 2999 3000)) [] ∧ E.dead = false := ⟨_, rfl, rfl⟩
    obtain ⟨E, hE1, hE2⟩ := hE
    rw [← hE1] at hD2
    have HD := Lib.hid (And.intro hD2 (And.intro (HF1.out.next hf2) hE2))
    have hl80 := HS.out.1
    clear hD2 hf2 HF1 hp2 hm2 hE1 hE2
    go_wp2_with fail
    refine Calls.mono (HPK.out _) ?_
    rintro e w3 ⟨rfl, rfl⟩
    go_wp2_with fail
    refine Calls.mono (fuse_h HD.out.1 (by omega)) ?_
    rintro e w3 ⟨rfl, hD3, hf3⟩
    have hFu : Fused most 0 (fuseD E most) := .inl ⟨HD.out.2.2, by show max (most : Int) (-1) = _; omega, Nat.zero_le _⟩
    have HX := Lib.hid (And.intro hD3 (And.intro (HD.out.2.1.trans hf3 fun i hi => by rcases hi with h | h <;> exact .inr (by omega) : Fr (fun _ => False) w w3) hFu))
    clear hD3 hf3 hFu HD
    go_wp2_with fail
    go_loopg [10, 11] (l.length) (fun j u v wr => FuseRel w pb mb most l j u v wr)
    case atStart => exact ⟨0, 0, _, by omega, rfl, rfl, by omega, HX.out.1, HX.out.2.2, HX.out.2.1⟩
    case round =>
      obtain ⟨k, many, D, hk, rfl, rfl, hmb, hD, hfu, hf⟩ := hrel
      have hmm1 := fused_le hfu
      have HK := Lib.hid (And.intro hk (And.intro hD (And.intro hf hfu)))
      clear hk hD hf hfu
      by_cases hlt : k < l.length
      · obtain ⟨m, hm⟩ : ∃ m, l[k]? = some m := ⟨_, List.getElem?_eq_getElem hlt⟩
        obtain ⟨⟨a', cap', e1, _, _, hcell⟩, hacts⟩ := HA.out.grow HK.out.2.2.1
        obtain ⟨rfl, rfl⟩ : a = a' ∧ cap = cap' := by injection e1 with h1 h2 h3; exact ⟨h1, h3⟩
        obtain ⟨g, off, rfl, hS, hcs⟩ := hcell (by omega)
        have hmm := List.mem_of_getElem? hm
        have hin := (hacts m hmm).actV (HS.out.2 m hmm)
        obtain ⟨va, vac, hva, hv1, hv2⟩ := hin.keep.form
        obtain ⟨vb, vbc, hvb, hv3, hv4⟩ := hin.noise.form
        have hdo := does_h HK.out.2.1 hin (fun i hi h => by rcases h with h | h <;> omega)
        have q0 := hcs k m 0 _ hm rfl
        have q1 := hcs k m 1 _ hm rfl
        have q2 := hcs k m 2 _ hm rfl
        have q3 := hcs k m 3 _ hm rfl
        have q4 := hcs k m 4 _ hm rfl
        have q5 := hcs k m 5 _ hm rfl
        have q6 := hcs k m 6 _ hm rfl
        unfold actV at hdo
        rw [hva] at q5 hdo
        rw [hvb] at q6 hdo
        rw [Nat.add_zero] at q0
        have HDO := Lib.hid hdo
        have hpo := pick_h (w := wr) hin.op.1 hin.op.2 (n := 11) (by decide) (by decide)
        obtain ⟨p, hp⟩ : ∃ p, pickZ m.act.op 11 = p := ⟨_, rfl⟩
        rw [hp] at hpo
        have HPO := Lib.hid hpo
        have hfd := fun (h : pickZ m.act.op 11 ≤ 8) => fused_does (xb := xbG) HK.out.2.2.2 h
        rw [hp] at hfd
        have HFD := Lib.hid hfd
        clear hm hcs hin hva hvb hv1 hv2 hv3 hv4 hdo e1 hcell hacts hmm hpo hp hfd
        go_wp2_with fail
        refine Calls.mono HPO.out ?_
        rintro e w4 ⟨rfl, rfl⟩
        by_cases h8 : 8 < p
        · have d1 : decide (8 < p) = true := by simpa using h8
          go_wp2_with fail
          go_roundg (l.length - (k + 1))
          case measure => have := HK.out; omega
          case rel => exact ⟨k + 1, many, D, by omega, by go_num, rfl, hmb, HK.out.2.1, HK.out.2.2.2, HK.out.2.2.1⟩
        · have d1 : decide (8 < p) = false := by simpa using h8
          have HF := Lib.hid (HFD.out (by omega))
          obtain ⟨rr, hrr⟩ : ∃ rr, doesD xbG D m.act = rr := ⟨_, rfl⟩
          rw [hrr] at HF HDO
          obtain ⟨⟨rs, re⟩, rD⟩ := rr
          clear hrr HFD
          go_wp2_with fail
          refine Calls.mono HDO.out ?_
          rintro e w4 ⟨rfl, hD4, hf4⟩
          have HX4 := Lib.hid (And.intro hD4 (HK.out.2.2.1.trans hf4 fun i hi => by rcases hi with h | h <;> exact .inr (by omega) : Fr (fun _ => False) w w4))
          clear hD4 hf4 HDO q0 q1 q2 q3 q4 q5 q6
          by_cases h7 : p < 8
          · have d2 : decide (p < 8) = true := by simpa using h7
            by_cases he0 : re = 0
            · subst he0
              have hF2 := HF.out.2
              rw [if_pos ⟨h7, rfl⟩] at hF2
              have HF2 := Lib.hid hF2
              clear hF2 HF h8 h7
              go_wp2_with fail
              go_roundg (l.length - (k + 1))
              case measure => have := HK.out; omega
              case rel => exact ⟨k + 1, many + 1, rD, by omega, by go_num, by go_num, by omega, HX4.out.1, HF2.out, HX4.out.2⟩
            · have d3 : (re == 0) = false := by simpa using he0
              have hF2 := HF.out
              rw [if_neg (fun h => he0 h.2)] at hF2
              have HF2 := Lib.hid hF2
              clear hF2 HF h8 h7 he0
              by_cases he7 : re = 7
              · have d4 : (re == 7) = true := by simpa using he7
                have hmo : many = most := HF2.out.1 he7
                have d5 : ((many : Int) != (most : Int)) = false := by simp [hmo]
                have d6 : (many != most) = false := by simp [hmo]
                clear he7 hmo
                go_wp2_with fail
                go_roundg (l.length - (k + 1))
                case measure => have := HK.out; omega
                case rel => exact ⟨k + 1, many, rD, by omega, by go_num, rfl, hmb, HX4.out.1, HF2.out.2, HX4.out.2⟩
              · have d4 : (re == 7) = false := by simpa using he7
                clear he7
                go_wp2_with fail
                go_roundg (l.length - (k + 1))
                case measure => have := HK.out; omega
                case rel => exact ⟨k + 1, many, rD, by omega, by go_num, rfl, hmb, HX4.out.1, HF2.out.2, HX4.out.2⟩
          · have d2 : decide (p < 8) = false := by simpa using h7
            have hF2 := HF.out
            rw [if_neg (fun h => h7 h.1)] at hF2
            have HF2 := Lib.hid hF2
            clear hF2 HF h8 h7
            by_cases he7 : re = 7
            · have d4 : (re == 7) = true := by simpa using he7
              have hmo : many = most := HF2.out.1 he7
              have d5 : ((many : Int) != (most : Int)) = false := by simp [hmo]
              have d6 : (many != most) = false := by simp [hmo]
              clear he7 hmo
              go_wp2_with fail
              go_roundg (l.length - (k + 1))
              case measure => have := HK.out; omega
              case rel => exact ⟨k + 1, many, rD, by omega, by go_num, rfl, hmb, HX4.out.1, HF2.out.2, HX4.out.2⟩
            · have d4 : (re == 7) = false := by simpa using he7
              clear he7
              go_wp2_with fail
              go_roundg (l.length - (k + 1))
              case measure => have := HK.out; omega
              case rel => exact ⟨k + 1, many, rD, by omega, by go_num, rfl, hmb, HX4.out.1, HF2.out.2, HX4.out.2⟩
      · have d9 : decide ((many : Int) ≤ (most : Int)) = true := by rw [decide_eq_true_iff]; omega
        have d10 : decide (many ≤ most) = true := by simpa using hmm1
        have HE := Lib.hid HK.out.2.2.2
        cases hdd : D.dead with
        | false =>
          have hdh := dead_h HK.out.2.1
          rw [hdd] at hdh
          have HDH := Lib.hid hdh
          clear hdh hdd
          go_wp2_with fail
          refine Calls.mono HDH.out ?_
          rintro e w4 ⟨rfl, rfl⟩
          go_wp2_with fail
          go_ret
          exact ⟨rfl, HK.out.2.2.1⟩
        | true =>
          have hmo : many = most := by rcases HE.out with ⟨h, _⟩ | ⟨_, h⟩; rw [hdd] at h; cases h; exact h
          have d5 : ((many : Int) == (most : Int)) = true := by simp [hmo]
          have d6 : (many == most) = true := by simp [hmo]
          have hdh := dead_h HK.out.2.1
          rw [hdd] at hdh
          have HDH := Lib.hid hdh
          clear hdh hdd hmo
          go_wp2_with fail
          refine Calls.mono HDH.out ?_
          rintro e w4 ⟨rfl, rfl⟩
          go_wp2_with fail
          go_ret
          exact ⟨rfl, HK.out.2.2.1⟩
end
end Go.Proofs.YtfcnjbkoneinpaaDoor
