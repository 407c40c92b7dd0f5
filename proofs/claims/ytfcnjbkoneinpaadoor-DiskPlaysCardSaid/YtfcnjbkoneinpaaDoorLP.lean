/- The walk of the law DiskPlays. -/
import Derived.Test.YtfcnjbkoneinpaaDoorE8
import Derived.Test.YtfcnjbkoneinpaaDoorLM
import Derived.Test.YtfcnjbkoneinpaaDoorLH
import Derived.Deep.RegionHeld3
namespace Go.Proofs.YtfcnjbkoneinpaaDoor
open Go.RowKit Go.Lib

/-- a disk and the reference's, apart from one another -/
structure BothAt (w0 w : World) (pb mb rb : Nat) (lv : Value) (D C : DiskD) : Prop where
  disk : DiskAt w pb mb D
  ref : RefAt w rb lv C
  apart : ∀ k, Own pb mb k → ¬ OwnR rb lv k
  fr : Fr (fun _ => False) w0 w
  new : w0.heap.size ≤ pb ∧ w0.heap.size ≤ mb ∧ ∀ k, OwnR rb lv k → w0.heap.size ≤ k
section
variable {w0 w w' : World} {pb mb rb : Nat} {lv lv' : Value} {D D' C C' : DiskD}
theorem own_lt (h : DiskAt w pb mb D) {k : Nat} (hk : Own pb mb k) : k < w.heap.size := by
  rcases hk with rfl | rfl
  · exact lt_of_block h.head
  · exact h.map.lt
theorem BothAt.turn1 (h : BothAt w0 w pb mb rb lv D C) (hD : DiskAt w' pb mb D') (hf : Fr (Own pb mb) w w') : BothAt w0 w' pb mb rb lv D' C :=
  ⟨hD, h.ref.fr hf fun k hk ho => h.apart k ho hk, h.apart, h.fr.trans hf fun k hk => .inr (by rcases hk with rfl | rfl; exact h.new.1; exact h.new.2.1), h.new⟩
theorem BothAt.turn2 (h : BothAt w0 w pb mb rb lv D C) (hC : RefAt w' rb lv' C') (hf : Fr (OwnR rb lv) w w') (ho : ∀ k, lv'.ownBlock = some k → lv.ownBlock = some k ∨ w.heap.size ≤ k) : BothAt w0 w' pb mb rb lv' D C' := by
  refine ⟨h.disk.fr hf (fun hk => h.apart _ (.inl rfl) hk) (fun hk => h.apart _ (.inr rfl) hk), hC, fun k hk hr => ?_, h.fr.trans hf fun k hk => .inr (h.new.2.2 k hk), h.new.1, h.new.2.1, fun k hr => ?_⟩
  · rcases hr with e | e
    · exact h.apart k hk (.inl e)
    · rcases ho k e with e2 | e2
      · exact h.apart k hk (.inr e2)
      · have := own_lt h.disk hk; omega
  · rcases hr with e | e
    · exact h.new.2.2 k (.inl e)
    · rcases ho k e with e2 | e2
      · exact h.new.2.2 k (.inr e2)
      · exact Nat.le_trans h.fr.size e2
theorem BothAt.grow (h : BothAt w0 w pb mb rb lv D C) (hf : Fr (fun _ => False) w w') : BothAt w0 w' pb mb rb lv D C := ⟨h.disk.grow hf, h.ref.grow hf, h.apart, h.fr.next hf, h.new⟩
def PlayRel (w : World) (pb mb rb : Nat) (D0 : DiskD) (l : List ActM) (j : Nat) (u : Value) (wr : World) : Prop :=
  ∃ (k : Nat) (lv : Value), k + j = l.length ∧ u = .int .i64 k ∧ BothAt w wr pb mb rb lv (playM D0 (l.take k)) (playM D0 (l.take k))
theorem pick3_range (c : Int) : 0 ≤ pickZ c 3000 ∧ pickZ c 3000 < 3000 := by unfold pickZ; exact ⟨Int.emod_nonneg _ (by decide), Int.emod_lt_of_pos _ (by decide)⟩

set_option maxRecDepth 100000 in
set_option maxHeartbeats 16000000 in
theorem plays_h {v : Value} {l : List ActM} (hA : ActsAt w (fun k => k < w.heap.size) v l) {most : Int} (hm1 : -9223372036854775808 ≤ most) (hm2 : most ≤ 9223372036854775807) (n : List UInt8) : Calls Tryd.prog 3 #[.int .i64 most, v, .string (bs n)] w fun e w' => e = .returned (.bool true) ∧ Fr (fun _ => False) w w' := by
  have HA := Lib.hid hA
  obtain ⟨⟨a, cap, rfl, hc1, hc2, _⟩, _⟩ := hA
  have zn : (bs n).size = n.length := rfl
  have HPK := Lib.hid (fun W : World => pick_h (w := W) hm1 hm2 (n := 3000) (by decide) (by decide))
  have hpr := pick3_range most
  have HPR := Lib.hid hpr
  clear hpr hm1 hm2
  go_enter Tryd.func3, Tryd.ntmps3
  go_wp2_with fail
  refine Calls.mono (shown_h w) ?_
  rintro e w1 ⟨rfl, hF1⟩
  have HF1 := Lib.hid hF1
  clear hF1
  go_wp2_with fail
  refine Calls.mono (small_h (HA.out.grow HF1.out)) ?_
  rintro e w1 ⟨r, rfl, hr, rfl⟩
  have HR := Lib.hid hr
  clear hr
  cases r with
  | false =>
    go_wp2_with fail
    go_ret
    exact ⟨rfl, HF1.out⟩
  | true =>
    have HS := Lib.hid (HR.out.1 rfl)
    clear HR
    by_cases b1 : 100 < n.length
    · have e1 : decide (100 < (n.length : Int)) = true := by rw [decide_eq_true_iff]; omega
      have e1' : decide (100 < n.length) = true := by simpa using b1
      clear b1
      go_wp2_with fail
      go_ret
      exact ⟨rfl, HF1.out⟩
    have e1 : decide (100 < (n.length : Int)) = false := by rw [decide_eq_false_iff_not]; omega
    have e1' : decide (100 < n.length) = false := by simpa using b1
    have HN := Lib.hid (show n.length ≤ 1000000 by omega)
    clear b1
    go_wp2_with fail
    by_cases hb : 0 ≤ most ∧ most ≤ 10000000
    case' pos =>
      refine Calls.mono (new_yes hb.1 hb.2) ?_
      rintro e w2 ⟨p0, m0, rfl, _, hf2, _, _⟩
      have HF2 := Lib.hid (HF1.out.next hf2)
      clear hf2 HF1
      have HB := Lib.hid (show decide (0 ≤ most ∧ most ≤ 10000000) = true from decide_eq_true hb)
    case' neg =>
      refine Calls.mono (new_no (by omega)) ?_
      rintro e w2 ⟨rfl, rfl⟩
      have HF2 := Lib.hid HF1.out
      clear HF1
      have HB := Lib.hid (show decide (0 ≤ most ∧ most ≤ 10000000) = false from decide_eq_false hb)
    all_goals
      clear hb
      go_wp2_with fail
      refine Calls.mono (rnew_h most) ?_
      rintro e w3 ⟨r0, he, _, hf3, _⟩
      rw [HB.out] at he
      subst he
      have HF3 := Lib.hid (HF2.out.next hf3)
      clear hf3 HF2
      go_wp2_with fail
      refine Calls.mono (name_h HN.out) ?_
      rintro e w4 ⟨rfl, hf4⟩
      have HF4 := Lib.hid (HF3.out.next hf4)
      clear hf4 HF3
      go_wp2_with fail
      refine Calls.mono (rname_h HN.out) ?_
      rintro e w5 ⟨rfl, hf5⟩
      have HF5 := Lib.hid (HF4.out.next hf5)
      clear hf5 HF4
      have hnn : (nameOK n != nameOK n) = false := by simp
      go_wp2_with fail
      refine Calls.mono (HPK.out _) ?_
      rintro e w6 ⟨rfl, rfl⟩
      go_wp2_with fail
      refine Calls.mono (new_yes HPR.out.1 (by have := HPR.out.2; omega)) ?_
      rintro e w6 ⟨pb, mb, rfl, hD6, hf6, hp6, hm6⟩
      have H6 := Lib.hid (And.intro hD6 (And.intro (HF5.out.next hf6) (And.intro (Nat.le_trans HF5.out.size hp6) (Nat.le_trans HF5.out.size hm6))))
      clear hD6 hf6 hp6 hm6 HF5
      go_wp2_with fail
      refine Calls.mono (HPK.out _) ?_
      rintro e w7 ⟨rfl, rfl⟩
      go_wp2_with fail
      refine Calls.mono (rnew_h _) ?_
      rintro e w7 ⟨rb, he, hb7, hf7, hr7⟩
      rw [decide_eq_true (show 0 ≤ pickZ most 3000 ∧ pickZ most 3000 ≤ 10000000 by have := HPR.out; omega)] at he
      subst he
      have HB7 : Hid (BothAt w w7 pb mb rb (.slice none 0 0) (newD (pickZ most 3000)) (newD (pickZ most 3000))) := by
        have hD := H6.out.1
        refine Lib.hid ⟨hD.grow hf7, ref_new hb7 HPR.out.1 (by have := HPR.out; omega), fun k hk hr => ?_, H6.out.2.1.next hf7, H6.out.2.2.1, H6.out.2.2.2, fun k hr => ?_⟩
        · have := own_lt hD hk
          rcases hr with e | e
          · omega
          · cases e
        · rcases hr with e | e
          · have := H6.out.2.1.size; omega
          · cases e
      clear hb7 hf7 hr7 H6 HPR HPK
      generalize newD (pickZ most 3000) = D0 at *
      go_wp2_with fail
      go_loopg [17] (l.length) (fun j u wr => PlayRel w pb mb rb D0 l j u wr)
      case atStart => exact ⟨0, _, by omega, rfl, HB7.out⟩
      case round =>
        obtain ⟨k, lv, hk, rfl, hB⟩ := hrel
        have HK := Lib.hid (And.intro hk hB)
        clear hk hB
        by_cases hlt : k < l.length
        · obtain ⟨m, hm⟩ : ∃ m, l[k]? = some m := ⟨_, List.getElem?_eq_getElem hlt⟩
          obtain ⟨⟨a', cap', e1x, _, _, hcell⟩, hacts⟩ := HA.out.grow HK.out.2.fr
          obtain ⟨rfl, rfl⟩ : a = a' ∧ cap = cap' := by injection e1x with h1 h2 h3; exact ⟨h1, h3⟩
          obtain ⟨g, off, rfl, hS, hcs⟩ := hcell (by omega)
          have hmm := List.mem_of_getElem? hm
          have hin := (hacts m hmm).actV (HS.out.2 m hmm)
          obtain ⟨va, vac, hva, hv1, hv2⟩ := hin.keep.form
          obtain ⟨vb, vbc, hvb, hv3, hv4⟩ := hin.noise.form
          have hdo := does_h HK.out.2.disk hin (fun i hi h => by have := HK.out.2.new; rcases h with h | h <;> omega)
          have q0 := hcs k m 0 _ hm rfl
          have q1 := hcs k m 1 _ hm rfl
          have q2 := hcs k m 2 _ hm rfl
          have q3 := hcs k m 3 _ hm rfl
          have q4 := hcs k m 4 _ hm rfl
          have q5 := hcs k m 5 _ hm rfl
          have q6 := hcs k m 6 _ hm rfl
          have HIN := Lib.hid (And.intro hin (And.intro hva hvb))
          unfold actV at hdo
          rw [hva] at q5 hdo
          rw [hvb] at q6 hdo
          rw [Nat.add_zero] at q0
          have hgl : g < w.heap.size := hS
          have HDO := Lib.hid hdo
          have HM := Lib.hid (play_next (D := D0) hm)
          clear hm hcs hin hva hvb hv1 hv2 hv3 hv4 hdo e1x hcell hacts hmm hS
          go_wp2_with fail
          refine Calls.mono HDO.out ?_
          rintro e w8 ⟨rfl, hD8, hf8⟩
          have hgo : ¬ Own pb mb g := fun h => by have := HK.out.2.new; rcases h with h | h <;> omega
          have HX8 := Lib.hid (HK.out.2.turn1 hD8 hf8)
          have u0 := hf8.cell q0 hgo
          have u1 := hf8.cell q1 hgo
          have u2 := hf8.cell q2 hgo
          have u3 := hf8.cell q3 hgo
          have u4 := hf8.cell q4 hgo
          have u5 := hf8.cell q5 hgo
          have u6 := hf8.cell q6 hgo
          have HFR8 := Lib.hid hf8
          clear hD8 hf8 hgo q0 q1 q2 q3 q4 q5 q6 HDO
          go_wp2_with fail
          have hmo := model_h HX8.out.ref (HIN.out.1.fr HFR8.out (fun i hi h => by have := HK.out.2.new; rcases h with h | h <;> omega)) (fun i hi h => by have := HX8.out.new.2.2 i h; omega)
          unfold actV at hmo
          rw [HIN.out.2.1, HIN.out.2.2] at hmo
          refine Calls.mono hmo ?_
          clear hmo
          rintro e w9 ⟨lv9, rfl, hD9, hf9, ho9⟩
          have HX9 := Lib.hid (HX8.out.turn2 hD9 hf9 ho9)
          clear hD9 hf9 ho9 HX8 HFR8 HIN u0 u1 u2 u3 u4 u5 u6
          rw [← HM.out] at HX9
          obtain ⟨⟨⟨s, z⟩, D9⟩, hdd⟩ : ∃ x, doesD xbG (playM D0 (l.take k)) m.act = x := ⟨_, rfl⟩
          have hD9 : playM D0 (l.take (k + 1)) = D9 := by rw [HM.out, hdd]
          rw [hdd]
          rw [hD9] at HX9
          have H99 := Lib.hid hD9
          have ts := bs_toList s
          have hss : (s != s) = false := by simp
          have hzz : (z != z) = false := by simp
          have c3 := HX9.out.ref.cells.2.2.2
          have hdr := HX9.out.grow (Fr.refl _ w9).drew
          have H18 := Lib.hid (dead_h hdr.disk)
          have H19 := Lib.hid (size_h hdr.disk)
          have H20 := Lib.hid (fun (W : World) (hF : Fr (fun _ => False) w9.drew W) => rsize_h (hdr.ref.grow hF))
          have hdd2 : (D9.dead != D9.dead) = false := by simp
          clear hdd hD9 hdr hgl
          go_wp2_with fail
          go_region_held3 (fun w' => w'.cell? ⟨rb, 3, none⟩ = some (.bool D9.dead))
            (first | exact c3 | (exact hf10.cell c3 (fun h => h)))
            (first
              | (go_at_call 18; with_reducible refine Calls.mono H18.out ?_; rintro e w' ⟨rfl, rfl⟩)
              | (go_at_call 19; with_reducible refine Calls.mono H19.out ?_; rintro e w10 ⟨rfl, hf10⟩)
              | (go_at_call 20; with_reducible refine Calls.mono (H20.out _ (Fr.refl _ _)) ?_; rintro e w' ⟨rfl, rfl⟩)
              | (go_at_call 20; with_reducible refine Calls.mono (H20.out _ hf10) ?_; rintro e w' ⟨rfl, rfl⟩))
          all_goals
            have hf11 : Fr (fun _ => False) w9 w10 := hf10.start rfl rfl rfl rfl
            have H11 := Lib.hid (HX9.out.grow hf11)
            clear hf10 hf11
            go_wp2_with fail
            go_roundg (l.length - (k + 1))
            case measure => have := HK.out.1; omega
            case rel => exact ⟨k + 1, lv9, by have := HK.out.1; omega, by go_num, by rw [H99.out]; exact H11.out⟩
        · have hkl : l.take k = l := List.take_of_length_le (by omega)
          have hB := HK.out.2
          rw [hkl] at hB
          have HE := Lib.hid hB
          clear hkl hB HK
          generalize playM D0 l = D at *
          go_wp2_with fail
          refine Calls.mono (list_h HE.out.disk) ?_
          rintro e w8 ⟨vl, rfl, hrow, hf8⟩
          have HE8 := Lib.hid (HE.out.grow hf8)
          have hmany := HE.out.disk.inv.many
          have hnl : (names D.files).length = D.files.length := List.length_map _
          obtain ⟨va, vc, rfl⟩ := ownsRow_shape hrow
          have HL := Lib.hid hrow
          have c0 := HE8.out.ref.cells.1
          obtain ⟨ra, rc, rfl, _, _, _⟩ := HE8.out.ref.slice
          clear hrow hf8 HE
          go_wp2_with fail
          go_loopg [23] (D.files.length) (fun j u wr => ∃ i : Nat, i + j = D.files.length ∧ u = .int .i64 i ∧ Fr (fun _ => False) w8 wr)
          case atStart => exact ⟨0, by omega, rfl, Fr.refl _ _⟩
          case round =>
            obtain ⟨i, hi, rfl, hfr⟩ := hrel
            have HI := Lib.hid (And.intro hi hfr)
            clear hi
            by_cases hlt2 : i < D.files.length
            · obtain ⟨f, hf⟩ : ∃ f, D.files[i]? = some f := ⟨_, List.getElem?_eq_getElem hlt2⟩
              have hfm := List.mem_of_getElem? hf
              have hni : (names D.files)[i]? = some f.name := by simp [names, hf]
              obtain ⟨g, gc, hv, _⟩ := ownsRow_form HL.out (by omega)
              obtain ⟨rfl, rfl⟩ : va = some ⟨g, 0, none⟩ ∧ vc = gc := by injection hv with h1 h2 h3; exact ⟨h1, h3⟩
              have x1 := hfr.cell (row_name HL.out hni) (fun h => h)
              have HEr := HE8.out.grow hfr
              have HGF := Lib.hid (get_of_mem HE8.out.disk.inv.sorted hfm rfl)
              have HF := Lib.hid hf
              have HR9 := Lib.hid (fun (W : World) (hF : Fr (fun _ => False) w8 W) => (HE8.out.grow hF).ref)
              have hrd := read_h HEr.disk f.name
              have HRD := Lib.hid hrd
              have tf := bs_toList f.name
              have tb := bs_toList f.bytes
              have hnn2 : (f.name != f.name) = false := by simp
              have hbb : (f.bytes != f.bytes) = false := by simp
              clear hfm hni hv hf HEr hrd c0
              cases hd : D.dead with
              | true =>
                rw [show readD D f.name = ([], 7) by unfold readD; rw [if_pos hd]] at HRD
                have HDD := Lib.hid hd
                clear hd
                go_wp2_with fail
                refine Calls.mono HRD.out ?_
                rintro e w9 ⟨rfl, hf9⟩
                have x2 := hf9.cell x1 (fun h => h)
                have HF9 := Lib.hid (HI.out.2.next hf9)
                have hR := HR9.out _ HF9.out
                obtain ⟨c0, _, _, c3⟩ := hR.cells
                rw [HDD.out] at c3
                obtain ⟨ra', rc', er, _, _, hrr⟩ := hR.slice
                injection er with er1 er2 er3
                obtain ⟨gg, eg, _, y0, y1, _, _, _⟩ := hrr i f HF.out
                subst er1
                subst eg
                clear er2 er3 hrr hR hf9 x1 HRD
                go_wp2_with fail
                go_big_quiet (fail)
                go_wp2_with fail
                go_roundg (D.files.length - (i + 1))
                case measure => have := HI.out.1; omega
                case rel => exact ⟨i + 1, by have := HI.out.1; omega, by go_num, HF9.out.drewN _⟩
              | false =>
                rw [show readD D f.name = (f.bytes, 0) by unfold readD; rw [if_neg (by rw [hd]; simp), HGF.out]] at HRD
                have HDD := Lib.hid hd
                clear hd
                go_wp2_with fail
                refine Calls.mono HRD.out ?_
                rintro e w9 ⟨rfl, hf9⟩
                have x2 := hf9.cell x1 (fun h => h)
                have HF9 := Lib.hid (HI.out.2.next hf9)
                have hR := HR9.out _ HF9.out
                obtain ⟨c0, _, _, c3⟩ := hR.cells
                rw [HDD.out] at c3
                obtain ⟨ra', rc', er, _, _, hrr⟩ := hR.slice
                injection er with er1 er2 er3
                obtain ⟨gg, eg, _, y0, y1, _, _, _⟩ := hrr i f HF.out
                subst er1
                subst eg
                clear er2 er3 hrr hR hf9 x1 HRD
                go_wp2_with fail
                go_big_quiet (fail)
                go_wp2_with fail
                go_roundg (D.files.length - (i + 1))
                case measure => have := HI.out.1; omega
                case rel => exact ⟨i + 1, by have := HI.out.1; omega, by go_num, HF9.out.drewN _⟩
            · go_wp2_with fail
              go_ret
              exact ⟨rfl, HE8.out.fr.next HI.out.2⟩
end
end Go.Proofs.YtfcnjbkoneinpaaDoor
