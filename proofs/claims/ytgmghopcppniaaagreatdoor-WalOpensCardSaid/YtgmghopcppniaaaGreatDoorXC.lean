/- wal's laws: WalOpens: walked. -/
import Derived.Test.YtgmghopcppniaaaGreatDoorXB
import Derived.Test.YtgmghopcppniaaaGreatDoorFN

import Derived.Deep.RegionHeld
namespace Go.Proofs.YtgmghopcppniaaaGreatDoor
open Go.RowKit Go.Lib

theorem readSeg_inv {D : DiskD} {st : StD} {n : Nat} {last : Bool} (h : InvD D) : InvD (readSeg D st n last).2 := by
  unfold readSeg
  split
  · exact h
  · dsimp only
    repeat' split
    all_goals first | exact h | exact h.trunc _ _ | exact (h.trunc _ _).sync _
theorem readAll_few : ∀ (l : List Nat) {st : StD} {segs : List SegD} {D : DiskD}, InvD D → D.most ≤ 100000 → OkS st → OkS (readAll l st segs D).1.2.1 ∧ (readAll l st segs D).1.2.1.ents.length ≤ st.ents.length + l.length * 12000
  | [], st, segs, D, _, _, h => ⟨h, Nat.le_add_right _ _⟩
  | n :: t, st, segs, D, hi, hm, h => by
    have hk := readseg_keep (n := n) (last := t.isEmpty) hi hm h
    unfold readAll
    dsimp only
    split
    · exact ⟨hk.1, by have := hk.2.1; dsimp only; rw [List.length_cons]; omega⟩
    · have h2 := readAll_few t (st := (readSeg D st n t.isEmpty).1.2.1) (segs := segs ++ [(readSeg D st n t.isEmpty).1.2.2]) (readSeg_inv (st := st) (n := n) (last := t.isEmpty) hi) (by rw [hk.2.2.1]; exact hm) hk.1
      exact ⟨h2.1, by have := hk.2.1; have := h2.2; rw [List.length_cons]; omega⟩
theorem open_few {D : DiskD} (hi : InvD D) (hm : D.most ≤ 100000) : (openD D).1.2.1.ents.length ≤ 1000000 := by
  unfold openD
  split
  · exact Nat.zero_le _
  · have h1 := (readAll_few (numsN D) (segs := []) hi hm OkS.zero).2
    have h2 : (numsN D).length ≤ 40 := by
      rw [nums_len]
      unfold numsD
      rw [List.length_mergeSort]
      have h1 := List.length_filter_le (fun n => decide (0 < n)) (D.files.map fun f => ((numW f.name : Nat) : Int))
      rw [List.length_map] at h1
      have := hi.many
      omega
    have h3 : zeroS.ents.length = 0 := rfl
    omega
theorem walents_h {w : World} {S : Nat → Prop} {lp : Nat} {dv ve vs : Value} {st : StD} {segs : List SegD} (h : LogAt w S lp dv ve vs st segs) (hl : st.ents.length ≤ 10000000) {l : List EntD} (he : st.ents = l) :
    Calls Tryz.prog 39 #[.pointer (some ⟨lp, 0, none⟩)] w fun e w' => ∃ (a : Option Addr) (cap : Nat), e = .returned (.slice a l.length cap) ∧ SRow w' (fun k => w.heap.size ≤ k ∧ k < w'.heap.size) 4 (.slice a l.length cap) l.length (entsC l) ∧ Fr (fun _ => False) w w' := by
  refine (entries_h h hl).mono ?_
  rintro e w' ⟨v', rfl, hr, hf⟩
  rw [he] at hr
  obtain ⟨a, c, rfl⟩ := ownsRow_shape hr
  exact ⟨a, c, rfl, (SRow.of_owns hr).mono fun k hk => hr.lt k hk, hf⟩
/-- two disks with the same files -/
structure Both (w0 w : World) (pb mb rb : Nat) (lv : Value) (D : DiskD) : Prop where
  disk : DiskAt w pb mb D
  ref : RefAt w rb lv D
  sep : ∀ k, OwnR rb lv k → ¬ Own pb mb k
  low : (∀ k, OwnR rb lv k → w0.heap.size ≤ k) ∧ ∀ k, Own pb mb k → w0.heap.size ≤ k
  most : D.most = 100000
  alive : D.dead = false ∧ D.fuse = -1
  fr : Fr (fun _ => False) w0 w
section
variable {w0 w w' : World} {pb mb rb : Nat} {lv lv' : Value} {D D2 : DiskD}
theorem append_alive {n x : Str} (h : D.dead = false ∧ D.fuse = -1) : ((appendD D n x).2.dead = false ∧ (appendD D n x).2.fuse = -1) ∧ (appendD D n x).2.most = D.most := by
  unfold appendD
  rw [if_neg (by rw [h.1]; simp)]
  repeat' split
  all_goals first | exact ⟨h, rfl⟩ | skip
  rw [then_does (by rw [h.2]; decide)]
  exact ⟨⟨h.1, by show max (D.fuse - 1) (-1) = -1; rw [h.2]; decide⟩, rfl⟩
theorem Both.own_lt (h : Both w0 w pb mb rb lv D) : ∀ k, Own pb mb k → k < w.heap.size := fun k hk => by
  rcases hk with rfl | rfl
  · exact lt_of_block h.disk.head
  · exact h.disk.map.lt
theorem Both.quiet (h : Both w0 w pb mb rb lv D) (hf : Fr (fun _ => False) w w') : Both w0 w' pb mb rb lv D :=
  ⟨h.disk.grow hf, h.ref.grow hf, h.sep, h.low, h.most, h.alive, h.fr.next hf⟩
/-- the program's disk did something -/
theorem Both.one (h : Both w0 w pb mb rb lv D) (hf : Fr (Own pb mb) w w') : RefAt w' rb lv D ∧ Fr (fun _ => False) w0 w' :=
  ⟨h.ref.fr hf h.sep, h.fr.trans hf fun k hk => .inr (h.low.2 k hk)⟩
set_option maxRecDepth 100000 in
set_option maxHeartbeats 16000000 in
theorem walopens_h (hE : Env w) (h8 : 8 ≤ w.heap.size) {vn vl : Value} {nl ll : List Str} (hn : SRow w (fun k => k < w.heap.size) 1 vn nl.length (nl.map encS)) (hl : SRow w (fun k => k < w.heap.size) 1 vl ll.length (ll.map encS)) :
    Calls Tryz.prog 8 #[vn, vl] w fun e w' => e = .returned (.bool true) ∧ Fr (fun _ => False) w w' := by
  have HSH := Lib.hid (wshown_h hE h8)
  have HE := Lib.hid hE
  have HN := Lib.hid hn
  have HLL := Lib.hid hl
  obtain ⟨-, na, nc, rfl, -, -, -⟩ := id hn
  obtain ⟨-, la, lc, rfl, -, -, -⟩ := id hl
  clear hE hn hl
  go_enter Tryz.func8, Tryz.ntmps8
  go_wp2_with fail
  refine Calls.mono HSH.out ?_
  rintro e w1 ⟨rfl, hf1⟩
  have HF1 := Lib.hid hf1
  clear hf1 HSH
  by_cases h12 : 12 < ll.length
  · have h12i : (12 : Int) < (ll.length : Int) := by omega
    clear h12
    go_wp2_with fail
    go_ret
    exact ⟨rfl, HF1.out⟩
  have h12i : ¬ (12 : Int) < (ll.length : Int) := by omega
  by_cases hsl : ¬ nl.length = ll.length
  · have q0 : ((nl.length : Int) != (ll.length : Int)) = true := by simp; omega
    clear hsl
    go_wp2_with fail
    go_ret
    exact ⟨rfl, HF1.out⟩
  have hsl := Decidable.not_not.1 hsl
  have HSL := Lib.hid hsl
  obtain ⟨n, hnn⟩ : ∃ n, ll.length = n := ⟨_, rfl⟩
  rw [hsl] at HN ⊢
  rw [hnn] at HN HLL HSL h12i h12 ⊢
  have HNN := Lib.hid hnn
  have q0 : ((n : Int) != (n : Int)) = false := by simp
  have HN1 := Lib.hid (new_yes (w := w1) (most := 100000) (by decide) (by decide))
  have HN2 := Lib.hid (fun W => rnew_h (w := W) 100000)
  unfold NewPost2 at HN1
  unfold RNewPost at HN2
  clear hsl hnn
  go_wp2_with fail
  refine Calls.mono HN1.out ?_
  rintro e w2 ⟨pb, mb, rfl, hD2, hf2, hpb, hmb⟩
  have HD2 := Lib.hid hD2
  have HF2 := Lib.hid hf2
  clear hD2 hf2 HN1
  go_wp2_with fail
  refine Calls.mono (HN2.out _) ?_
  rintro e w3 ⟨rb, rfl, hR3, hf3, hrb⟩
  have hs1 := HF1.out.size
  have hs2 := HF2.out.size
  have hs3 := hf3.size
  have hpl := lt_of_block HD2.out.head
  have hml := HD2.out.map.lt
  have HB3 : Hid (Both w w3 pb mb rb (.slice none 0 0) (newD 100000)) := by
    refine ⟨HD2.out.grow hf3, ref_new hR3 (by decide) (by decide), fun k hk => ?_, ⟨fun k hk => ?_, fun k hk => ?_⟩, rfl, ⟨rfl, rfl⟩, (HF1.out.next HF2.out).next hf3⟩
    · rcases hk with rfl | hk
      · rintro (e | e) <;> omega
      · simp [Value.ownBlock] at hk
    · rcases hk with rfl | hk
      · omega
      · simp [Value.ownBlock] at hk
    · rcases hk with rfl | rfl <;> omega
  clear hR3 hf3 HN2 hpb hmb hrb hpl hml
  go_wp2_with fail
  go_loopg [10] n (fun j v10 wr => ∃ i : Nat, i + j = n ∧ v10 = .int .i64 (i : Int) ∧ ∃ (lv : Value) (D : DiskD), Hid (Both w wr pb mb rb lv D))
  case atStart => exact ⟨0, by omega, rfl, _, _, HB3⟩
  case round =>
    obtain ⟨i, hi, rfl, lv, D, HK⟩ := hrel
    have HI := Lib.hid hi
    clear hi HB3
    by_cases hlt : i < n
    · have hlti : (i : Int) < (n : Int) := by omega
      obtain ⟨nm, hnm⟩ : ∃ x, nl[i]? = some x := ⟨_, List.getElem?_eq_getElem (by rw [HSL.out]; exact hlt)⟩
      obtain ⟨tx, htx⟩ : ∃ x, ll[i]? = some x := ⟨_, List.getElem?_eq_getElem (by rw [HNN.out]; exact hlt)⟩
      obtain ⟨gn, on, rfl, hcn⟩ := (HN.out.fr HK.out.fr (fun _ _ h => h)).cell (by omega)
      obtain ⟨gl, ol, rfl, hcl⟩ := (HLL.out.fr HK.out.fr (fun _ _ h => h)).cell (by omega)
      have c0 := hcn i (.string (bs nm)) (by rw [List.getElem?_map, hnm]; rfl)
      have d0 := hcl i (.string (bs tx)) (by rw [List.getElem?_map, htx]; rfl)
      have z0 : (bs nm).size = nm.length := rfl
      have z1 : (bs tx).size = tx.length := rfl
      have HNT := Lib.hid (And.intro hnm htx)
      clear hnm htx hcn hcl
      by_cases h3 : 3000 < tx.length
      · have h3i : (3000 : Int) < (tx.length : Int) := by omega
        clear h3
        go_wp2_with fail
        go_ret
        exact ⟨rfl, HK.out.fr⟩
      have h3i : ¬ (3000 : Int) < (tx.length : Int) := by omega
      by_cases h1 : 100 < nm.length
      · have h1i : (100 : Int) < (nm.length : Int) := by omega
        clear h1 h3
        go_wp2_with fail
        go_ret
        exact ⟨rfl, HK.out.fr⟩
      have h1i : ¬ (100 : Int) < (nm.length : Int) := by omega
      have HAP : Hid (∀ (W : World) (_ : Fr (fun _ => False) wr W), Calls Tryz.prog 32 #[.pointer (some ⟨pb, 0, none⟩), .string (bs nm), .string (bs tx)] W (Does pb mb (appendD D nm tx) W)) := Lib.hid (fun W hq => append_h (HK.out.quiet hq).disk nm tx (by omega) (by omega))
      unfold Does at HAP
      have HCC := Lib.hid (And.intro c0 d0)
      have HHH := Lib.hid (And.intro h3 h1)
      have HAL := Lib.hid (append_alive (n := nm) (x := tx) HK.out.alive)
      have HRA : Hid (∀ (W : World) (_ : RefAt W rb lv D), Calls Tryz.prog 33 #[.pointer (some ⟨rb, 0, none⟩), .string (bs nm), .string (bs tx)] W (RDoes rb lv (appendD D nm tx) W)) := Lib.hid (fun W hq => rappend_h hq nm tx (by omega) (by omega))
      unfold RDoes at HRA
      obtain ⟨⟨c2, D2⟩, hD2⟩ : ∃ q, appendD D nm tx = q := ⟨_, rfl⟩
      rw [hD2] at HAP HRA HAL
      have HCE : Hid (∀ (W : World) (_ : Fr (fun _ => False) w W), W.cell? ⟨gn, on + i, none⟩ = some (.string (bs nm)) ∧ W.cell? ⟨gl, ol + i, none⟩ = some (.string (bs tx))) := Lib.hid (fun W hW => by
        obtain ⟨g6, o6, he6, hc6⟩ := (HN.out.fr hW (fun _ _ h => h)).cell (by omega)
        obtain ⟨g7, o7, he7, hc7⟩ := (HLL.out.fr hW (fun _ _ h => h)).cell (by omega)
        simp only [Option.some.injEq, Addr.mk.injEq, and_true] at he6 he7
        obtain ⟨rfl, rfl⟩ := he6
        obtain ⟨rfl, rfl⟩ := he7
        exact ⟨hc6 i (.string (bs nm)) (by rw [List.getElem?_map, HNT.out.1]; rfl), hc7 i (.string (bs tx)) (by rw [List.getElem?_map, HNT.out.2]; rfl)⟩)
      clear h3 h1 hD2
      go_upto_region 13 with fail
      go_cut [] (fun wx => Hid (DiskAt wx pb mb D2 ∧ Fr (Own pb mb) wr wx))
      case first =>
        go_region_with (first
          | (go_at_call 32; (with_reducible refine Calls.mono (HAP.out _ (show Fr (fun _ => False) wr _ by repeat (first | exact Fr.refl _ _ | refine Fr.drew ?_))) ?_); clear HAP; rintro r wA ⟨rfl, hd, hq⟩; have fA := ((show Fr (fun _ => False) wr _ by repeat (first | exact Fr.refl _ _ | refine Fr.drew ?_)).mono (o2 := Own pb mb) fun _ _ h => h.elim).next hq; have HDA := Lib.hid hd; clear hd hq)
          | fail)
        all_goals
          go_wp2_with fail
          go_meet
          first | exact Lib.hid ⟨HDA.out, fA⟩ | exact Lib.hid ⟨HDA.out.grow ((Fr.refl _ _).drew), fA.drew⟩
      case rest =>
      obtain ⟨w5, hwn⟩ : ∃ x, x = wc := ⟨_, rfl⟩
      rw [← hwn] at hcut ⊢
      have HC := Lib.hid hcut.out
      have HO := Lib.hid (HK.out.one HC.out.2)
      have c5 := (HCE.out _ HO.out.2).1
      have d5 := (HCE.out _ HO.out.2).2
      clear c0 d0 hcut
      go_upto_region 14 with fail
      have hz5 := HC.out.2.size
      have hzr := HK.out.fr.size
      have HBX : Hid (∀ (W : World) (lv2 : Value) (_ : RefAt W rb lv2 D2) (_ : Fr (OwnR rb lv) w5 W) (_ : ∀ k, lv2.ownBlock = some k → lv.ownBlock = some k ∨ w5.heap.size ≤ k), Both w W pb mb rb lv2 D2) := Lib.hid (fun W lv2 hr hq hv => by
        have hop := HK.out.own_lt
        have hpm : ∀ k, Own pb mb k → ¬ OwnR rb lv k := fun k hk h => HK.out.sep k h hk
        refine ⟨HC.out.1.fr hq (hpm _ (.inl rfl)) (hpm _ (.inr rfl)), hr, fun k hk => ?_, ⟨fun k hk => ?_, HK.out.low.2⟩, HAL.out.2.trans HK.out.most, HAL.out.1, HO.out.2.trans hq fun k hk => .inr (HK.out.low.1 k hk)⟩
        · rcases hk with hk | hk
          · exact HK.out.sep k (.inl hk)
          · rcases hv k hk with h | h
            · exact HK.out.sep k (.inr h)
            · intro h2; have := hop k h2; omega
        · rcases hk with hk | hk
          · exact HK.out.low.1 k (.inl hk)
          · rcases hv k hk with h | h
            · exact HK.out.low.1 k (.inr h)
            · omega)
      clear hwn
      go_region_with (first
        | (go_at_call 33; (with_reducible refine Calls.mono (HRA.out _ (show RefAt _ rb lv D from HO.out.1.grow (by repeat (first | exact Fr.refl _ _ | refine Fr.drew ?_)))) ?_); clear HRA; rintro r wA ⟨lvA, rfl, hd, hq, hv⟩; have HB6 := Lib.hid (HBX.out wA lvA hd (show Fr (OwnR rb lv) w5 wA from hq.start rfl rfl rfl rfl) hv); clear hd hq hv)
        | fail)
      all_goals
        go_wp2_with fail
        go_roundg (n - (i + 1))
        case measure => have := HI.out; omega
        case rel => exact ⟨i + 1, by have := HI.out; omega, by go_num, lvA, D2, by first | exact HB6 | exact Lib.hid (HB6.out.quiet (Fr.refl _ _).drew)⟩
    · obtain rfl : i = n := by have := HI.out; omega
      have hlti : ¬ (i : Int) < (i : Int) := by omega
      have hE2 := HE.out.grow HK.out.fr
      have HOP := Lib.hid (open_h HK.out.disk hE2 ⟨by have := HK.out.low.2 _ (.inl rfl); omega, by have := HK.out.low.2 _ (.inr rfl); omega⟩ (by rw [HK.out.most]; decide))
      have HRO := Lib.hid (fun (W : World) (hq : RefAt W rb lv D) => ropen_h hq HK.out.alive.1 (by rw [HK.out.most]; decide))
      have HFE := Lib.hid (open_few HK.out.disk.inv (by rw [HK.out.most]; decide))
      unfold OpenPost at HOP
      unfold ROpenAll ROpenPost at HRO
      obtain ⟨⟨⟨c, st, segs⟩, DE⟩, hq⟩ : ∃ q, openD D = q := ⟨_, rfl⟩
      rw [hq] at HOP HRO HFE
      dsimp only at HOP HRO HFE
      clear hq hE2
      go_wp2_with fail
      refine Calls.mono HOP.out ?_
      rintro e w5 ⟨lp, rfl, h5, hd5, hf5⟩
      have HA5 := Lib.hid h5
      have HD5 := Lib.hid hd5
      have HF5 := Lib.hid hf5
      have HO5 := Lib.hid (HK.out.one hf5)
      clear h5 hd5 hf5 HOP
      by_cases hc0 : c = 0
      · subst hc0
        rw [if_pos rfl]
        obtain ⟨ve5, vs5, hw5⟩ := HA5.out rfl
        have HW5 := Lib.hid hw5
        have q2 : ((0 : Int) != 0) = false := rfl
        clear hw5
        go_wp2_with fail
        refine Calls.mono (HRO.out _ HO5.out.1) ?_
        rintro e w6 ⟨rl, lv6, rfl, hr6, hv6, hrw, hf6⟩
        first | rw [if_pos trivial] | rw [if_pos rfl]
        obtain ⟨le6, hrw⟩ := hrw (by first | trivial | rfl)
        have hpm : ∀ k, Own pb mb k → ¬ OwnR rb lv k := fun k hk h => HK.out.sep k h hk
        have HS := Lib.hid (sames_h (HD5.out.fr hf6 (hpm _ (.inl rfl)) (hpm _ (.inr rfl))) hr6)
        have HF6 : Hid (Fr (fun _ => False) w w6) := HO5.out.2.trans hf6 fun k hk => .inr (HK.out.low.1 k hk)
        have HLG := Lib.hid (HW5.out.log.fr hf6 (fun k hk h => by have := HK.out.ref.lt h; omega))
        have HRW := Lib.hid hrw
        clear hr6 hv6 hf6 hpm hrw HRO
        go_wp2_with fail
        refine Calls.mono HS.out ?_
        rintro e w7 ⟨rfl, hf7⟩
        have HF7 := Lib.hid (HF6.out.next hf7)
        have HRW7 := Lib.hid (HRW.out.quiet hf7)
        have HLG7 := Lib.hid (HLG.out.quiet hf7)
        obtain ⟨_, c1, c2, c3⟩ := HRW7.out.cells
        obtain ⟨-, ea, ec, hle, -, -, -⟩ := id HRW7.out.ents
        subst hle
        obtain ⟨ts, hts⟩ : ∃ x, st.t = x := ⟨_, rfl⟩
        obtain ⟨us, hus⟩ : ∃ x, st.v = x := ⟨_, rfl⟩
        obtain ⟨es, hes⟩ : ∃ x, st.ents = x := ⟨_, rfl⟩
        have hesl : es.length ≤ 1000000 := by rw [← hes]; exact HFE.out
        have HXH : Hid (∀ (W : World) (_ : Fr (fun _ => False) w7 W), Calls Tryz.prog 37 #[.pointer (some ⟨lp, 0, none⟩)] W fun r w' => r = .returned (.agg #[.int .i64 ts, .int .i64 us]) ∧ Fr (fun _ => False) W w') := Lib.hid (fun W hq => by rw [← hts, ← hus]; exact hard_h (HLG7.out.quiet hq))
        have HXE := Lib.hid (fun (W : World) (hq : Fr (fun _ => False) w7 W) => walents_h (HLG7.out.quiet hq) (by rw [hes]; omega) hes)
        have HRE : Hid (SRow w7 (fun k => (Plus (OwnR rb lv) w5 w7) k) 4 (.slice ea es.length ec) es.length (entsC es)) := by
          have h := HRW7.out.ents
          rw [hes] at h
          refine Lib.hid (h.mono fun k hk => ?_)
          rcases hk.1 with h1 | ⟨h1, h2⟩
          · exact .inl h1
          · exact .inr ⟨h1, Nat.lt_of_lt_of_le h2 hf7.size⟩
        rw [hts] at c1
        rw [hus] at c2
        rw [hes] at c3
        have HCW := Lib.hid (fun (W : World) (hq : Fr (fun _ => False) w7 W) => And.intro (hq.cell c1 (fun h => h)) (And.intro (hq.cell c2 (fun h => h)) (hq.cell c3 (fun h => h))))
        have HSE : Hid (∀ (W : World) (Q1 Q2 : Nat → Prop) (a b : Option Addr) (c d : Nat) (_ : SRow W Q1 4 (.slice a es.length c) es.length (entsC es)) (_ : SRow W Q2 4 (.slice b es.length d) es.length (entsC es)), Calls Tryz.prog 38 #[.slice a es.length c, .slice b es.length d] W fun e w' => e = .returned (.bool true) ∧ Fr (fun _ => False) W w') := Lib.hid (fun W Q1 Q2 a b c d g1 g2 => by have h := sameents_h g1 g2 hesl; rw [decide_eq_true rfl] at h; exact h)
        have hq61 := eqq61 ts us ts us
        have hbb : (ts == ts && us == us) = true := by simp
        rw [hbb] at hq61
        clear hbb hts hus hes hf7 HS
        go_upto_region 19 with fail
        go_region_held (fun W => W.cell? ⟨rl, 1, none⟩ = some (.int .i64 ts) ∧ W.cell? ⟨rl, 2, none⟩ = some (.int .i64 us) ∧ W.cell? ⟨rl, 3, none⟩ = some (.slice ea es.length ec))
          (first | go_keep | (with_reducible exact p2) | (with_reducible exact p1) | (with_reducible exact p0) | fail)
          (first
            | (go_at_call 37; (with_reducible refine Calls.mono (HXH.out _ (show Fr (fun _ => False) w7 _ by repeat (first | exact Fr.refl _ _ | refine Fr.drew ?_))) ?_); clear HXH; rintro r wA0 ⟨rfl, hq⟩; have f0 := (show Fr (fun _ => False) w7 _ by repeat (first | exact Fr.refl _ _ | refine Fr.drew ?_)).next hq; have p0 := HCW.out _ f0; clear hq)
            | (have tok := p0; clear tok; go_at_call 39; (with_reducible refine Calls.mono (HXE.out _ (show Fr (fun _ => False) w7 _ by repeat (first | exact f0 | refine Fr.drew ?_))) ?_); clear HXE; rintro r wA1 ⟨nx, ncx, rfl, hr2, hq⟩; have f1 := (show Fr (fun _ => False) w7 _ by repeat (first | exact f0 | refine Fr.drew ?_)).next hq; have p1 := HCW.out _ f1; have HR2 := Lib.hid hr2; clear hq hr2)
            | (have tok := p1; clear tok; go_at_call 38; (with_reducible refine Calls.mono (HSE.out _ _ _ _ _ _ _ (by first | exact HR2.out | exact HR2.out.fr ((Fr.refl (fun _ => False) _).drew) (fun _ _ h => h)) (HRE.out.fr (show Fr (fun _ => False) w7 _ by repeat (first | exact f1 | refine Fr.drew ?_)) (fun _ _ h => h))) ?_); clear HSE; rintro r wA2 ⟨rfl, hq⟩; have f2 := (show Fr (fun _ => False) w7 _ by repeat (first | exact f1 | refine Fr.drew ?_)).next hq; have p2 := HCW.out _ f2; clear hq)
            | fail)
        all_goals
          go_wp2_with fail
          go_ret
          exact ⟨rfl, by first | exact HF7.out.next f2 | exact HF7.out.next f2.drew⟩
      · rw [if_neg hc0]
        have q1 : (c == 0) = false := by simpa using hc0
        have q2 : (c != c) = false := by simp
        have HC0 := Lib.hid hc0
        clear hc0
        go_wp2_with fail
        refine Calls.mono (HRO.out _ HO5.out.1) ?_
        rintro e w6 ⟨rl, lv6, rfl, hr6, hv6, _, hf6⟩
        rw [if_neg HC0.out]
        have hpm : ∀ k, Own pb mb k → ¬ OwnR rb lv k := fun k hk h => HK.out.sep k h hk
        have HS := Lib.hid (sames_h (HD5.out.fr hf6 (hpm _ (.inl rfl)) (hpm _ (.inr rfl))) hr6)
        have HF6 : Hid (Fr (fun _ => False) w w6) := HO5.out.2.trans hf6 fun k hk => .inr (HK.out.low.1 k hk)
        clear hr6 hv6 hf6 hpm HRO
        go_wp2_with fail
        refine Calls.mono HS.out ?_
        rintro e w7 ⟨rfl, hf7⟩
        have HF7 := Lib.hid (HF6.out.next hf7)
        clear hf7 HS
        go_wp2_with fail
        go_big_quiet (fail)
        go_wp2_with fail
        go_ret
        exact ⟨rfl, by first | exact HF7.out | exact HF7.out.drewN _⟩
end
end Go.Proofs.YtgmghopcppniaaaGreatDoor
