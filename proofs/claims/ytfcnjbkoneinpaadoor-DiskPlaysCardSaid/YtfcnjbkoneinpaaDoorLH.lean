/- The walk of the law DiskHolds. -/
import Derived.Test.YtfcnjbkoneinpaaDoorKE
namespace Go.Proofs.YtfcnjbkoneinpaaDoor
open Go.RowKit Go.Lib

theorem readD_live {D : DiskD} {n : List UInt8} {f : FileD} (h : D.dead = false) (hg : getF D.files n = some f) : readD D n = (f.bytes, 0) := by
  unfold readD; rw [if_neg (by rw [h]; simp), hg]
theorem play_most : ∀ (l : List ActD) (D : DiskD), (playD xbG D l).most = D.most
  | [], _ => rfl
  | a :: l, D => (play_most l _).trans (does_most a)
theorem total_next {l : List FileD} {k : Nat} {f : FileD} (h : l[k]? = some f) : total (l.take (k + 1)) = total (l.take k) + f.bytes.length := by
  unfold total
  rw [List.take_add_one, h, List.map_append, List.sum_append]
  simp
theorem names_lt {l : List FileD} (h : Sorted l) {i : Nat} {f g : FileD} (hf : l[i]? = some f) (hg : l[i + 1]? = some g) : f.name < g.name := by
  obtain ⟨h1, rfl⟩ := List.getElem?_eq_some_iff.1 hf
  obtain ⟨h2, rfl⟩ := List.getElem?_eq_some_iff.1 hg
  exact List.pairwise_iff_getElem.1 h i (i + 1) h1 h2 (by omega)
theorem less_no {a b : List UInt8} (h : a < b) : Op.bytesLess b a = false ∧ (b == a) = false := by
  rw [Go.Proofs.bytesLess_eq]
  exact ⟨decide_eq_false fun k => str_lt_irrefl (str_lt_trans h k), by rw [beq_eq_false_iff_ne]; exact (str_lt_ne h).symm⟩

section
variable {w w' : World} {pb mb : Nat} {D : DiskD} {v : Value} {l : List ActM}
/-- the cell of one name in a row of names -/
theorem row_name {base g n c : Nat} {ns : List (List UInt8)} (h : w.ownsRow base 9 1 (.slice (some ⟨g, 0, none⟩) n c) n (ns.map encS)) {i : Nat} {x : List UInt8} (hx : ns[i]? = some x) : w.cell? ⟨g, i, none⟩ = some (.string (bs x)) := ownsRow_cell h (by simp [hx, encS])

def HoldRel (w0 w1 : World) (Dc : DiskD) (pb mb : Nat) (j : Nat) (u v : Value) (wr : World) : Prop :=
  ∃ k : Nat, k + j = Dc.files.length ∧ v = .int .i64 k ∧ u = .int .i64 (total (Dc.files.take k)) ∧ Fr (fun _ => False) w1 wr

set_option maxRecDepth 100000 in
set_option maxHeartbeats 8000000 in
theorem holds_h (hA : ActsAt w (fun k => k < w.heap.size) v l) {most : Int} (hb1 : -9223372036854775808 ≤ most) (hb2 : most ≤ 9223372036854775807) : Calls Tryd.prog 5 #[.int .i64 most, v] w fun e w' => e = .returned (.bool true) ∧ Fr (fun _ => False) w w' := by
  have hpr : 0 ≤ pickZ most 3000 ∧ pickZ most 3000 < 3000 := by unfold pickZ; exact ⟨Int.emod_nonneg _ (by decide), Int.emod_lt_of_pos _ (by decide)⟩
  have HPK := Lib.hid (fun W => pick_h (w := W) hb1 hb2 (n := 3000) (by decide) (by decide))
  have HA := Lib.hid hA
  obtain ⟨⟨a, cap, rfl, hc1, hc2, _⟩, _⟩ := hA
  generalize pickZ most 3000 = p at *
  go_enter Tryd.func5, Tryd.ntmps5
  go_wp2_with fail
  refine Calls.mono (shown_h w) ?_
  rintro e w1 ⟨rfl, hF1⟩
  have HF1 := Lib.hid hF1
  clear hF1
  go_wp2_with fail
  refine Calls.mono (small_h (HA.out.grow HF1.out)) ?_
  rintro e w1 ⟨r, rfl, hr, rfl⟩
  have HR := Lib.hid hr
  clear hr
  cases r with
  | false =>
    go_wp2_with fail
    go_ret
    exact ⟨rfl, HF1.out⟩
  | true =>
    have HS := Lib.hid (HR.out.1 rfl)
    clear HR
    go_wp2_with fail
    refine Calls.mono (HPK.out _) ?_
    rintro e w2 ⟨rfl, rfl⟩
    go_wp2_with fail
    refine Calls.mono (new_yes hpr.1 (by omega)) ?_
    rintro e w2 ⟨pb, mb, rfl, hD2, hf2, hp2, hm2⟩
    have hpw : w.heap.size ≤ pb ∧ w.heap.size ≤ mb := by have := HF1.out.size; omega
    obtain ⟨hpw1, hpw2⟩ := hpw
    have HD := Lib.hid (And.intro hD2 (HF1.out.next hf2))
    have hl80 := HS.out.1
    clear hD2 hf2 HF1 hp2 hm2
    go_wp2_with fail
    go_loopg [9] (l.length) (fun j u wr => MadeRel w pb mb (newD p) l j u wr)
    case atStart => exact ⟨0, by omega, rfl, HD.out.1, HD.out.2⟩
    case round =>
      obtain ⟨k, hk, rfl, hD, hf⟩ := hrel
      have HK := Lib.hid (And.intro hk (And.intro hD hf))
      clear hk hD hf
      by_cases hlt : k < l.length
      · obtain ⟨m, hm⟩ : ∃ m, l[k]? = some m := ⟨_, List.getElem?_eq_getElem hlt⟩
        obtain ⟨⟨a', cap', e1, _, _, hcell⟩, hacts⟩ := HA.out.grow HK.out.2.2
        obtain ⟨rfl, rfl⟩ : a = a' ∧ cap = cap' := by injection e1 with h1 h2 h3; exact ⟨h1, h3⟩
        obtain ⟨g, off, rfl, hS, hcs⟩ := hcell (by omega)
        have hmm := List.mem_of_getElem? hm
        have hin := (hacts m hmm).actV (HS.out.2 m hmm)
        obtain ⟨va, vac, hva, hv1, hv2⟩ := hin.keep.form
        obtain ⟨vb, vbc, hvb, hv3, hv4⟩ := hin.noise.form
        have hdo := does_h HK.out.2.1 hin (fun i hi h => by rcases h with h | h <;> omega)
        have q0 := hcs k m 0 _ hm rfl
        have q1 := hcs k m 1 _ hm rfl
        have q2 := hcs k m 2 _ hm rfl
        have q3 := hcs k m 3 _ hm rfl
        have q4 := hcs k m 4 _ hm rfl
        have q5 := hcs k m 5 _ hm rfl
        have q6 := hcs k m 6 _ hm rfl
        unfold actV at hdo
        rw [hva] at q5 hdo
        rw [hvb] at q6 hdo
        rw [Nat.add_zero] at q0
        have HDO := Lib.hid hdo
        have HM := Lib.hid (play_next (D := newD p) hm)
        clear hm hcs hin hva hvb hv1 hv2 hv3 hv4 hdo e1 hcell hacts hmm
        go_wp2_with fail
        refine Calls.mono HDO.out ?_
        rintro e w3 ⟨rfl, hD3, hf3⟩
        rw [← HM.out] at hD3
        have HX := Lib.hid (And.intro hD3 (HK.out.2.2.trans hf3 fun i hi => by rcases hi with h | h <;> exact .inr (by omega) : Fr (fun _ => False) w w3))
        clear hD3 hf3 q0 q1 q2 q3 q4 q5 q6
        go_wp2_with fail
        refine Calls.mono (size_h HX.out.1) ?_
        rintro e w4 ⟨rfl, hf4⟩
        have HY := Lib.hid (And.intro (HX.out.1.grow hf4) (HX.out.2.next hf4))
        have hle : (total (playM (newD p) (l.take (k + 1))).files : Int) ≤ p := by
          have h1 := HX.out.1.inv.full
          have h2 : (playM (newD p) (l.take (k + 1))).most = p := play_most _ _
          omega
        clear hf4 HX
        have hd : decide (p < (total (playM (newD p) (l.take (k + 1))).files : Int)) = false := by rw [decide_eq_false_iff_not]; omega
        generalize total (playM (newD p) (l.take (k + 1))).files = t at *
        go_wp2_with fail
        refine Calls.mono (HPK.out _) ?_
        rintro e w5 ⟨rfl, rfl⟩
        go_wp2_with fail
        go_roundg (l.length - (k + 1))
        case measure => have := HK.out; omega
        case rel => exact ⟨k + 1, by omega, by go_num, HY.out.1, HY.out.2⟩
      · have hkl : l.take k = l := List.take_of_length_le (by omega)
        have hD := HK.out.2.1
        rw [hkl] at hD
        have HE := Lib.hid (And.intro hD HK.out.2.2)
        clear hkl hD HK
        generalize playM (newD p) l = D at *
        go_wp2_with fail
        refine Calls.mono (crash_h (keep := []) (noise := []) (S := fun k => ¬ Own pb mb k) (S' := fun k => ¬ Own pb mb k) HE.out.1 (IR.nil _ _) (IR.nil _ _) (fun _ h => h) (fun _ h => h) (by decide) (by decide)) ?_
        rintro e w3 ⟨rfl, hD3, hf3⟩
        have hfree : (crashD xbG D [] []).dead = false := rfl
        generalize crashD xbG D [] [] = C at *
        have hF3 : Fr (fun _ => False) w w3 := HE.out.2.trans hf3 fun i hi => by rcases hi with h | h <;> exact .inr (by omega)
        have HC := Lib.hid (And.intro hD3 (And.intro hF3 hfree))
        clear hD3 hF3 hf3 hfree HE
        go_wp2_with fail
        refine Calls.mono (list_h HC.out.1) ?_
        rintro e w4 ⟨v, rfl, hrow, hf4⟩
        have hmany := HC.out.1.inv.many
        have hnl : (names C.files).length = C.files.length := List.length_map _
        have htot : total C.files ≤ 10000000 := by have h2 := HC.out.1.inv.full; have h3 := HC.out.1.inv.most; omega
        obtain ⟨va, vc, rfl⟩ := ownsRow_shape hrow
        have HL := Lib.hid (And.intro hrow (And.intro (HC.out.1.grow hf4) (HC.out.2.1.next hf4)))
        clear hrow hf4
        go_wp2_with fail
        go_loopg [11, 12] (C.files.length) (fun j u v wr => HoldRel w w4 C pb mb j u v wr)
        case atStart => exact ⟨0, by omega, rfl, rfl, Fr.refl _ _⟩
        case round =>
          obtain ⟨i, hi, rfl, rfl, hfr⟩ := hrel
          have hti : total (C.files.take i) ≤ total C.files := by
            have h1 := congrArg total (List.take_append_drop i C.files)
            unfold total at h1 ⊢
            rw [List.map_append, List.sum_append] at h1
            omega
          have HI := Lib.hid (And.intro hi hfr)
          clear hi hfr
          by_cases hlt2 : i < C.files.length
          · obtain ⟨f, hf⟩ : ∃ f, C.files[i]? = some f := ⟨_, List.getElem?_eq_getElem hlt2⟩
            have hfm := List.mem_of_getElem? hf
            have hni : (names C.files)[i]? = some f.name := by simp [names, hf]
            obtain ⟨g, gc, hv, _⟩ := ownsRow_form HL.out.1 (by omega)
            obtain ⟨rfl, rfl⟩ : va = some ⟨g, 0, none⟩ ∧ vc = gc := by injection hv with h1 h2 h3; exact ⟨h1, h3⟩
            have c1 := HI.out.2.cell (row_name HL.out.1 hni) (fun h => h)
            have hrd := readD_live HC.out.2.2 (get_of_mem HC.out.1.inv.sorted hfm rfl)
            have hnm := HC.out.1.inv.names f hfm
            have hnl2 := name_len HC.out.1.inv hfm
            have hfl : total (C.files.take i) + f.bytes.length ≤ 10000000 := by
              have h1 := total_next hf
              have h2 : total (C.files.take (i + 1)) ≤ total C.files := by
                have h1 := congrArg total (List.take_append_drop (i + 1) C.files)
                unfold total at h1 ⊢
                rw [List.map_append, List.sum_append] at h1
                omega
              omega
            have hbz : (bs f.bytes).size = f.bytes.length := rfl
            have HF := Lib.hid (And.intro hf (And.intro (total_next hf) (And.intro hrd (And.intro hnm hni))))
            clear hf hfm hni hrd hnm hv
            go_wp2_with fail
            refine Calls.mono (read_h (HL.out.2.1.grow HI.out.2) f.name) ?_
            rintro e w5 ⟨he, hf5⟩
            rw [HF.out.2.2.1] at he
            subst he
            have HF5 := Lib.hid (HI.out.2.next hf5)
            have c15 := hf5.cell c1 (fun h => h)
            clear hf5 c1
            go_wp2_with fail
            refine Calls.mono (name_h (n := f.name) (by omega)) ?_
            rintro e w6 ⟨he, hf6⟩
            rw [HF.out.2.2.2.1] at he
            subst he
            have HF6 := Lib.hid (HF5.out.next hf6)
            have c16 := hf6.cell c15 (fun h => h)
            have t1 := bs_toList f.name
            clear hf6 c15
            rcases Nat.eq_zero_or_pos i with rfl | hi0
            · go_wp2_with fail
              go_quiet (fail)
              go_wp2_with fail
              go_roundg (C.files.length - (0 + 1))
              case measure => have := HI.out.1; omega
              case rel => exact ⟨1, by omega, by go_num, by rw [HF.out.2.1]; go_num, HF6.out.drewN _⟩
            · obtain ⟨i0, rfl⟩ : ∃ i0, i = i0 + 1 := ⟨i - 1, by omega⟩
              obtain ⟨f0, hf0⟩ : ∃ f, C.files[i0]? = some f := ⟨_, List.getElem?_eq_getElem (by omega)⟩
              have hn0 : (names C.files)[i0]? = some f0.name := by simp [names, hf0]
              have c2 := HF6.out.cell (row_name HL.out.1 hn0) (fun h => h)
              have hls := less_no (names_lt HC.out.1.inv.sorted hf0 HF.out.1)
              obtain ⟨l1, l2⟩ := hls
              have t2 := bs_toList f0.name
              have d4 : decide (0 < (i0 : Int) + 1) = true := by rw [decide_eq_true_iff]; omega
              clear hf0 hn0
              go_wp2_with fail
              go_quiet (fail)
              go_wp2_with fail
              go_roundg (C.files.length - (i0 + 1 + 1))
              case measure => have := HI.out.1; omega
              case rel => exact ⟨i0 + 1 + 1, by omega, by go_num, by rw [HF.out.2.1]; go_num, HF6.out.drewN _⟩
          · have hend : C.files.take i = C.files := List.take_of_length_le (by omega)
            rw [hend]
            have HF := Lib.hid HI.out.2
            clear hend hti
            go_wp2_with fail
            refine Calls.mono (size_h (HL.out.2.1.grow HF.out)) ?_
            rintro e w5 ⟨rfl, hf5⟩
            have HF5 := Lib.hid (HL.out.2.2.next (HF.out.next hf5))
            clear hf5
            have d1 : ((total C.files : Int) == (total C.files : Int)) = true := by simp
            have d2 : decide ((C.files.length : Int) ≤ 40) = true := by rw [decide_eq_true_iff]; omega
            go_wp2_with fail
            go_ret
            exact ⟨rfl, HF5.out⟩
end
end Go.Proofs.YtfcnjbkoneinpaaDoor
