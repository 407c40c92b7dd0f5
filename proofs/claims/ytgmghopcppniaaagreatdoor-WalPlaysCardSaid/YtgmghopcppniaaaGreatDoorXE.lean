/- The reference's Cut: walked. -/
import Derived.Test.YtgmghopcppniaaaGreatDoorXD
namespace Go.Proofs.YtgmghopcppniaaaGreatDoor
open Go.RowKit Go.Lib

/-- where Cut stands: i segments are deleted -/
structure RCut (w0 : World) (L : LogD) (D : DiskD) (z : Int) (R : Nat → List RecD) (b : Nat) (S : Nat → Prop) (rl rb : Nat) (lv le : Value) (i : Nat) (Di : DiskD) (lvi : Value) (wr : World) : Prop where
 cut : cutF z L.pre D = cutF z (L.pre.drop i) Di
 ok : LogOK ⟨L.st, L.pre.drop i, L.last⟩ Di R b
 wal : RWal wr (Plus S w0 wr) rl rb lvi le L.st Di
 fr : Fr (OwnR rb lv) w0 wr
 own : ∀ k, lvi.ownBlock = some k → lv.ownBlock = some k ∨ w0.heap.size ≤ k
 cap : Di.most ≤ 100000
theorem delete_cap (D : DiskD) (n : Str) : (deleteD D n).2.most = D.most := by
 unfold deleteD
 repeat' split
 all_goals first | rfl | exact then_cap _ _
theorem cut_stop {z : Int} {s : SegD} {t : List SegD} {D : DiskD} (h : ¬ s.top ≤ z) : cutF z (s :: t) D = (0, (s :: t, D)) := by unfold cutF; rw [if_neg h]
theorem cut_bad {z : Int} {s : SegD} {t : List SegD} {D D2 : DiskD} {c : Int} (h : s.top ≤ z) (hd : deleteD D (nameW s.num) = (c, D2)) (hc : c ≠ 0) : cutF z (s :: t) D = (c, (s :: t, D2)) := by unfold cutF; rw [if_pos h, hd, if_pos hc]
theorem cut_on {z : Int} {s : SegD} {t : List SegD} {D D2 : DiskD} (h : s.top ≤ z) (hd : deleteD D (nameW s.num) = (0, D2)) : cutF z (s :: t) D = cutF z t D2 := by
 conv => lhs; unfold cutF
 rw [if_pos h, hd, if_neg (by simp)]
theorem LogOK.pop {st : StD} {s last : SegD} {t : List SegD} {D D2 : DiskD} {R : Nat → List RecD} {b : Nat} (h : LogOK ⟨st, s :: t, last⟩ D R b) (hd : deleteD D (nameW s.num) = (0, D2)) : LogOK ⟨st, t, last⟩ D2 R b := by
 have hh := h.held
 rcases (show SegsAt D (s.num :: t.map (·.num)) last.num R [] 0 from hh.at').delete hh.alive with ⟨hz, hdel, hS⟩ | ⟨hz, hdel, hS⟩
 ·rw [hdel] at hd
  obtain rfl := congrArg Prod.snd hd
  have hsg := hh.segs
  simp only [List.map_cons, List.cons.injEq] at hsg
  exact ⟨⟨hS, hsg.2, hh.last, hh.fresh, hh.alive, hh.ok⟩, fun m hm => h.head m (List.mem_cons_of_mem _ hm), by have := h.many; simp at this ⊢; omega, fun m hm => h.full m (List.mem_cons_of_mem _ hm), h.thin⟩
 ·rw [hdel] at hd; cases hd

section
variable {w : World} {S : Nat → Prop} {rl rb : Nat} {lv le : Value} {L : LogD} {D : DiskD}
theorem cutL_is (hd : D.dead = false) {z c : Int} {l : List SegD} {D2 : DiskD} (h : cutF z L.pre D = (c, (l, D2))) : cutL L D z = (c, ({ L with pre := l }, D2)) := by
 unfold cutL; rw [if_neg (by rw [hd]; simp), h]
set_option maxRecDepth 100000 in
set_option maxHeartbeats 16000000 in
theorem rcut_h (h : RWal w S rl rb lv le L.st D) (hm : D.most ≤ 100000) {z : Int} (hs : D.dead = true ∨ ∃ R b, LogOK L D R b ∧ b < 2000) : Calls Tryz.prog 96 #[.pointer (some ⟨rl, 0, none⟩), .int .i64 z] w (RActPost (cutL L D z) S rl rb lv w) := by
 have HW := Lib.hid h
 obtain ⟨c0, _, _, _⟩ := h.cells
 obtain ⟨_, _, _, d3⟩ := h.disk.cells
 rcases hs with hd | ⟨R, b, hOK, hb⟩
 ·have HE : Hid (cutL L D z = (7, (L, D))) := by show _ = _; unfold cutL; rw [if_pos hd]
  rw [hd] at d3
  clear h hd
  go_enter Tryz.func96, Tryz.ntmps96
  go_wp2_with fail
  go_ret
  unfold RActPost
  rw [HE.out]
  exact ⟨rfl, ⟨lv, le, HW.out.plus HW.out.lt (Nat.le_refl _)⟩, Fr.refl _ _⟩
 ·have hd := hOK.held.alive
  have HD0 := Lib.hid hd
  have HNU := Lib.hid (rnumbers_h h)
  unfold NumbPost at HNU
  rw [hOK.numsLen] at HNU
  have hpl := hOK.many
  have HNI := Lib.hid hOK.numsI
  obtain ⟨pl, hpe⟩ : ∃ p, L.pre.length = p := ⟨_, rfl⟩
  rw [hpe] at HNU hpl
  have HPL := Lib.hid hpe
  have HOK := Lib.hid hOK
  have HB := Lib.hid hb
  rw [hd] at d3
  clear h hOK hb hpe hd
  go_enter Tryz.func96, Tryz.ntmps96
  go_wp2_with fail
  refine Calls.mono HNU.out ?_
  rintro e w2 ⟨v2, rfl, hrow2, hf2⟩
  obtain ⟨na, nc, rfl⟩ : ∃ a c, v2 = .slice a (pl + 1) c := ownsRow_shape hrow2
  have HF2 := Lib.hid hf2
  have HQ : Hid (SRow w2 (fun k => w.heap.size ≤ k ∧ k < w2.heap.size) 1 (.slice na (pl + 1) nc) (pl + 1) ((numsD D.files).map (Value.int .i64))) := Lib.hid ((SRow.of_owns hrow2).mono fun k hk => hrow2.lt k hk)
  have HR2 : Hid (RCut w2 L D z R b S rl rb lv le 0 D lv w2) := ⟨rfl, by rw [List.drop_zero]; exact HOK.out, (HW.out.quiet hf2).plus (fun k hk => Nat.lt_of_lt_of_le (HW.out.lt k hk) hf2.size) (Nat.le_refl _), Fr.refl _ _, fun k hk => .inl hk, hm⟩
  have HLO : Hid (∀ k, OwnR rb lv k → k < w.heap.size) := Lib.hid (fun k hk => HW.out.disk.lt hk)
  clear hrow2 hf2 HNU c0 d3
  go_wp2_with fail
  go_loopg [6] pl (fun j v6 wr => ∃ i : Nat, i + j = pl ∧ v6 = .int .i64 (i : Int) ∧ ∃ (Di : DiskD) (lvi : Value), Hid (RCut w2 L D z R b S rl rb lv le i Di lvi wr))
  case atStart => exact ⟨0, by omega, rfl, _, _, HR2⟩
  case round =>
   obtain ⟨i, hi, rfl, Di, lvi, HK⟩ := hrel
   have HI := Lib.hid hi
   clear hi HR2
   obtain ⟨c0, _, _, _⟩ := HK.out.wal.cells
   have i1 : IntKind.i64.wrap ((i : Int) + 1) = (i : Int) + 1 := IntWalk.i64_in _ (by have := HI.out; omega)
   have HBK : Hid (∀ (W : World) (lv2 : Value) (D2 : DiskD) (_ : RWal W (Plus S w2 W) rl rb lv2 le L.st D2) (_ : Fr (OwnR rb lv) w2 W), RWal W (Plus S w W) rl rb lv2 le L.st D2 ∧ Fr (RAll rl rb lv) w W) := Lib.hid (fun W lv2 D2 h1 h2 => ⟨h1.back HW.out.lt HF2.out h2.size, HF2.out.back h2⟩)
   by_cases hlt : i < pl
   ·have hltI : (i : Int) + 1 < ((pl + 1 : Nat) : Int) := by omega
    obtain ⟨s, hs⟩ : ∃ s, L.pre[i]? = some s := ⟨_, List.getElem?_eq_getElem (by rw [HPL.out]; exact hlt)⟩
    have HDR : Hid (L.pre.drop i = s :: L.pre.drop (i + 1)) := by
     obtain ⟨h1, h2⟩ := List.getElem?_eq_some_iff.1 hs
     show _ = _
     rw [List.drop_eq_getElem_cons h1, h2]
    have hOKi := HK.out.ok
    rw [HDR.out] at hOKi
    have HOKI := Lib.hid hOKi
    obtain ⟨m, hm2⟩ : ∃ m, s.num = m := ⟨_, rfl⟩
    have hah := hOKi.held.at'.ahead m (by rw [← hm2]; exact List.mem_cons_self ..)
    have hrg := hOKi.held.at'.range m (List.mem_append_left _ (by rw [← hm2]; exact List.mem_cons_self ..))
    have hgood := hOKi.held.at'.good m (List.mem_append_left _ (by rw [← hm2]; exact List.mem_cons_self ..))
    have HTOP : Hid (∀ y : Int, s.top ≤ y ↔ ∀ e, RecD.ent e ∈ R m → e.index ≤ y) := Lib.hid (fun y => by
     have h1 := hOKi.top HB.out (m := m) (i := y) (by rw [← hm2]; exact List.mem_cons_self ..)
     have h2 := hOKi.held.segs
     simp only [List.map_cons, List.cons.injEq] at h2
     have h3 : s.top = topL (R m) := by rw [h2.1]; show topL (R s.num) = _; rw [hm2]
     rw [h3]; exact h1)
    have hbl := mem_total (get_mem hah).1
    have hful := hOKi.held.at'.inv.full
    have hcap := HK.out.cap
    have hrd : readD Di (nameW m) = (recsL (R m), 0) := read_file' hOKi.held.alive hah
    have hrs : readS (recsL (R m)) = ((R m, (recsL (R m)).length), 0) := readS_recs hgood
    dsimp only at hbl
    have hcapB : (recsL (R m)).length ≤ 200000 := by omega
    have hrl9 := recs_nine (R m)
    obtain ⟨B, hB⟩ : ∃ B, recsL (R m) = B := ⟨_, rfl⟩
    obtain ⟨rs, hrs2⟩ : ∃ r, R m = r := ⟨_, rfl⟩
    rw [hB] at hrd hcapB hrs hrl9
    rw [hrs2] at hrs HTOP hrl9
    have hrsl : rs.length ≤ 200000 := by omega
    have HSN := Lib.hid hm2
    have HNM : Hid (∀ W : World, Calls Tryz.prog 89 #[.int .i64 (m : Int)] W fun e w' => e = .returned (.string (bs (nameW m))) ∧ Fr (fun _ => False) W w') := Lib.hid (fun W => by rw [← nameX_is hrg.1]; exact rwname_h (by omega))
    have HRD : Hid (∀ (W : World) (_ : Fr (fun _ => False) wr W), Calls Tryz.prog 88 #[.pointer (some ⟨rb, 0, none⟩), .string (bs (nameW m))] W fun e w' => e = .returned (.tuple #[.string (bs B), .int .i64 0]) ∧ Fr (fun _ => False) W w') := Lib.hid (fun W hq => by have h1 := rread_h ((HK.out.wal.quiet hq).disk) (nameW m); rw [hrd] at h1; exact h1)
    have HRC := Lib.hid (fun W : World => rrecords_h (w := W) B hcapB)
    unfold RecsPost at HRC
    rw [hrs] at HRC
    dsimp only at HRC
    have HCE : Hid (∀ (W : World) (_ : Fr (OwnR rb lv) w2 W), ∃ g off, na = some ⟨g, off, none⟩ ∧ W.cell? ⟨g, off + i, none⟩ = some (.int .i64 (m : Int))) := Lib.hid (fun W hW => by
     obtain ⟨g6, off6, he6, hc6⟩ := (HQ.out.fr hW (fun k hk e => by have := HLO.out k e; omega)).cell (by omega)
     refine ⟨g6, off6, he6, hc6 i (.int .i64 (m : Int)) ?_⟩
     rw [List.getElem?_map, HNI.out, List.getElem?_map, List.getElem?_append_left (by rw [List.length_map, HPL.out]; exact hlt), List.getElem?_map, hs]
     simp [hm2])
    obtain ⟨g, off, rfl, c5⟩ := HCE.out wr HK.out.fr
    have HCA : Hid (∀ (W : World) (_ : Fr (OwnR rb lv) w2 W), W.cell? ⟨g, off + i, none⟩ = some (.int .i64 (m : Int))) := Lib.hid (fun W hW => by
     obtain ⟨g6, off6, he6, hc6⟩ := HCE.out W hW
     simp only [Option.some.injEq, Addr.mk.injEq, and_true] at he6
     obtain ⟨rfl, rfl⟩ := he6
     exact hc6)
    clear hs hOKi hm2 hah hrg hgood hbl hful hcap hrd hrs hB hrs2 hrl9 hcapB HCE
    go_upto_region 7 with fail
    go_cut [7, 8] (fun s7 s8 wx => s7 = .string (bs B) ∧ s8 = .int .i64 0 ∧ Hid (Fr (fun _ => False) wr wx))
    case first =>
     go_region_with (first
      | (go_at_call 89; (with_reducible refine Calls.mono (HNM.out _) ?_); rintro r wA ⟨rfl, hq⟩; have fA := (show Fr (fun _ => False) wr _ by repeat (first | exact Fr.refl _ _ | refine Fr.drew ?_)).next hq; have cA := fA.cell c0 (fun h => h); have cB := fA.cell c5 (fun h => h); clear hq)
      | (go_at_call 88; (with_reducible refine Calls.mono (HRD.out _ (show Fr (fun _ => False) wr _ by repeat (first | exact fA | refine Fr.drew ?_))) ?_); clear HRD; rintro r wB ⟨rfl, hq⟩; have fB := (show Fr (fun _ => False) wr _ by repeat (first | exact fA | refine Fr.drew ?_)).next hq; clear hq)
      | fail)
     all_goals
      go_wp2_with fail
      go_meet
      first | exact ⟨rfl, rfl, Lib.hid fB⟩ | exact ⟨rfl, rfl, Lib.hid fB.drew⟩
    case rest =>
    obtain ⟨rfl, rfl, HF5⟩ := hcut
    obtain ⟨w5, hwn⟩ : ∃ x, x = wc := ⟨_, rfl⟩
    rw [← hwn] at HF5 ⊢
    clear hwn HRD c5 c0
    go_wp2_with fail
    refine Calls.mono (HRC.out _) ?_
    rintro e w6 ⟨rv, rfl, hrow6, hf6⟩
    obtain ⟨ra, rc, rfl⟩ : ∃ a c, rv = .slice a rs.length c := ownsRow_shape hrow6
    have HF6 := Lib.hid (HF5.out.next hf6)
    have HROW : Hid (SRow w6 (fun _ => True) 7 (.slice ra rs.length rc) rs.length (recsC rs)) := Lib.hid ((SRow.of_owns hrow6).mono fun _ _ => trivial)
    clear hrow6 hf6 HRC
    go_upto_block 2 with fail
    go_cut [] (fun wx => Hid (∀ e, RecD.ent e ∈ rs → e.index ≤ z) ∧ wx = w6)
    case first =>
     go_wp2_with fail
     go_loopg [12] rs.length (fun j v12 wx => ∃ k : Nat, k + j = rs.length ∧ v12 = .int .i64 (k : Int) ∧ Hid (∀ e, RecD.ent e ∈ rs.take k → e.index ≤ z) ∧ wx = w6)
     case atStart => exact ⟨0, by omega, rfl, Lib.hid (fun e he => by simp at he), rfl⟩
     case round =>
      obtain ⟨k, hk, rfl, HJ, hwx⟩ := hrel
      subst hwx
      have HKK := Lib.hid hk
      clear hk
      by_cases hkl : k < rs.length
      ·have hklI : (k : Int) < (rs.length : Int) := by omega
       obtain ⟨r, hr⟩ : ∃ r, rs[k]? = some r := ⟨_, List.getElem?_eq_getElem hkl⟩
       obtain ⟨g5, off5, rfl, hc5⟩ := HROW.out.cell (by omega)
       have y0 := hc5 (k * 7 + 0) _ (recsC_at hr (j := 0) (v := .int .i64 (RecQ.of r).k) rfl)
       have y3 := hc5 (k * 7 + 3) _ (recsC_at hr (j := 3) (v := .int .i64 (RecQ.of r).e.index) rfl)
       rw [← Nat.add_assoc] at y0 y3
       rw [Nat.add_zero] at y0
       have HTK : Hid (∀ x, x ∈ rs.take (k + 1) → x ∈ rs.take k ∨ x = r) := Lib.hid (fun x hx => by
        obtain ⟨h1, h2⟩ := List.getElem?_eq_some_iff.1 hr
        rw [List.take_succ_eq_append_getElem h1, h2] at hx
        rcases List.mem_append.1 hx with h | h
        ·exact .inl h
        ·exact .inr (List.mem_singleton.1 h))
       have HRM := Lib.hid (List.mem_of_getElem? hr)
       clear hr hc5
       by_cases hbig : ∃ e, r = .ent e ∧ z < e.index
       ·obtain ⟨e, rfl, hz⟩ := hbig
        have hz2 : z < (RecQ.of (.ent e)).e.index := hz
        have q0 : ((RecQ.of (.ent e)).k == 2) = true := rfl
        have HST : Hid (¬ s.top ≤ z) := Lib.hid (fun h => by have := (HTOP.out z).1 h e HRM.out; omega)
        have HC : Hid (cutF z L.pre D = (0, (L.pre.drop i, Di))) := by
         show _ = _
         rw [HK.out.cut, HDR.out]
         exact cut_stop HST.out
        clear hz
        go_wp2_with fail
        go_ret
        unfold RActPost
        rw [cutL_is HD0.out HC.out]
        obtain ⟨h1, h2⟩ := HBK.out _ _ _ ((HK.out.wal.quiet HF6.out).mono (S' := Plus S w2 wr) (fun k hk => by
         have := HF6.out.size
         rcases hk with hk | ⟨hk, hk2⟩
         ·exact .inl hk
         ·exact .inr ⟨hk, by omega⟩) (Plus.lt (fun k hk => by have := HW.out.lt k hk; have := HF2.out.size; have := HK.out.fr.size; have := HF6.out.size; omega) (by have := HK.out.fr.size; have := HF6.out.size; omega))) (HK.out.fr.next (HF6.out.mono fun _ _ h => h.elim))
        exact ⟨rfl, ⟨lvi, le, h1⟩, h2⟩
       ·have HN : Hid (∀ e, RecD.ent e ∈ rs.take (k + 1) → e.index ≤ z) := Lib.hid (fun e he => by
         rcases HTK.out _ he with h | h
         ·exact HJ.out e h
         ·exact Int.not_lt.1 fun h2 => hbig ⟨e, h.symm, h2⟩)
        have htest : ((RecQ.of r).k == 2) = false ∨ (((RecQ.of r).k == 2) = true ∧ ¬ z < (RecQ.of r).e.index) := by
         cases r with
         | hard t v => exact .inl rfl
         | reset => exact .inl rfl
         | ent e => exact .inr ⟨rfl, fun h => hbig ⟨e, rfl, h⟩⟩
        clear hbig
        rcases htest with q0 | ⟨q0, q1⟩
        all_goals
         go_wp2_with fail
         go_roundg (rs.length - (k + 1))
         case measure => have := HKK.out; omega
         case rel => exact ⟨k + 1, by have := HKK.out; omega, by go_num, HN, rfl⟩
      ·obtain rfl : k = rs.length := by have := HKK.out; omega
       have hklI : ¬ (rs.length : Int) < (rs.length : Int) := by omega
       have HN : Hid (∀ e, RecD.ent e ∈ rs → e.index ≤ z) := by
        have h := HJ.out
        rw [List.take_length] at h
        exact h
       go_wp2_with fail
       go_meet
       exact ⟨HN, rfl⟩
    case rest =>
    obtain ⟨HN, hwx⟩ := hcut
    obtain rfl := hwx
    have HTZ : Hid (s.top ≤ z) := (HTOP.out z).2 HN.out
    have hzr := HK.out.fr.size
    have hz6 := HF6.out.size
    have hz2 := HF2.out.size
    have HW6 : Hid (RWal wc (Plus S w2 wc) rl rb lvi le L.st Di) := (HK.out.wal.quiet HF6.out).mono (fun k hk => by
     rcases hk with hk | ⟨hk, hk2⟩
     ·exact .inl hk
     ·exact .inr ⟨hk, by omega⟩) (Plus.lt (fun k hk => by have := HW.out.lt k hk; omega) (by omega))
    have HFW6 : Hid (Fr (OwnR rb lv) w2 wc) := HK.out.fr.next (HF6.out.mono fun _ _ h => h.elim)
    obtain ⟨⟨c, D2⟩, hdel⟩ : ∃ q, deleteD Di (nameW m) = q := ⟨_, rfl⟩
    have HDE := Lib.hid hdel
    have HDX : Hid (∀ (W : World) (_ : Fr (fun _ => False) wc W), Calls Tryz.prog 141 #[.pointer (some ⟨rb, 0, none⟩), .string (bs (nameW m))] W fun e w' => e = .returned (.int .i64 c) ∧ ∃ lv2, RWal w' (Plus S w2 w') rl rb lv2 le L.st D2 ∧ Fr (OwnR rb lv) w2 w' ∧ ∀ k, lv2.ownBlock = some k → lv.ownBlock = some k ∨ w2.heap.size ≤ k) := Lib.hid (fun W hq => by
     have h1 := rdelete_h ((HW6.out.quiet hq).disk) (nameW m)
     rw [hdel] at h1
     refine h1.mono ?_
     rintro e w' ⟨lv2, rfl, hd, hf, hv⟩
     have hzq := hq.size
     have hzf := hf.size
     have h2 := (HW6.out.quiet hq).done hd hf hv
     refine ⟨rfl, lv2, h2.mono (fun k hk => ?_) (Plus.lt (fun k hk => by have := HW.out.lt k hk; omega) (by omega)), (HFW6.out.next (hq.mono fun _ _ h => h.elim)).trans hf fun k hk => ?_, fun k hk => ?_⟩
     ·rcases hk with (hk | ⟨hk, hk2⟩) | ⟨hk, hk2⟩
      ·exact .inl hk
      ·exact .inr ⟨hk, by omega⟩
      ·exact .inr ⟨by omega, hk2⟩
     ·rcases hk with hk | hk
      ·exact .inl (.inl hk)
      ·rcases HK.out.own k hk with h | h
       ·exact .inl (.inr h)
       ·exact .inr h
     ·rcases hv k hk with h | h
      ·exact HK.out.own k h
      ·exact .inr (by omega))
    obtain ⟨c0, _, _, _⟩ := HW6.out.cells
    have c5 := HCA.out wc HFW6.out
    clear hdel
    go_upto_region 14 with fail
    go_cut [13] (fun s13 wx => s13 = .int .i64 c ∧ ∃ lv2, Hid (RWal wx (Plus S w2 wx) rl rb lv2 le L.st D2 ∧ Fr (OwnR rb lv) w2 wx ∧ ∀ k, lv2.ownBlock = some k → lv.ownBlock = some k ∨ w2.heap.size ≤ k))
    case first =>
     go_region_with (first
      | (go_at_call 89; (with_reducible refine Calls.mono (HNM.out _) ?_); rintro r wA ⟨rfl, hq⟩; have fA := (show Fr (fun _ => False) wc _ by repeat (first | exact Fr.refl _ _ | refine Fr.drew ?_)).next hq; have cA := fA.cell c0 (fun h => h); have cB := fA.cell c5 (fun h => h); clear hq)
      | (go_at_call 141; (with_reducible refine Calls.mono (HDX.out _ (show Fr (fun _ => False) wc _ by repeat (first | exact fA | refine Fr.drew ?_))) ?_); clear HDX; rintro r wB ⟨rfl, lvB, hB⟩; have HBB := Lib.hid hB; clear hB)
      | fail)
     all_goals
      go_wp2_with fail
      go_meet
      first
       | exact ⟨rfl, lvB, HBB⟩
       | exact ⟨rfl, lvB, Lib.hid ⟨HBB.out.1.quiet (Fr.refl _ _).drew, HBB.out.2.1.drew, HBB.out.2.2⟩⟩
    case rest =>
    obtain ⟨rfl, lv2, HX⟩ := hcut
    obtain ⟨w8, hwn⟩ : ∃ x, x = wc := ⟨_, rfl⟩
    rw [← hwn] at HX ⊢
    clear hwn c0 c5
    by_cases hc : c = 0
    ·subst hc
     have HRN : Hid (RCut w2 L D z R b S rl rb lv le (i + 1) D2 lv2 w8) := by
      have h1 := HDE.out
      rw [← HSN.out] at h1
      refine ⟨?_, HOKI.out.pop h1, HX.out.1, HX.out.2.1, HX.out.2.2, ?_⟩
      ·rw [HK.out.cut, HDR.out]; exact cut_on HTZ.out h1
      ·have h2 := delete_cap Di (nameW m)
       rw [HDE.out] at h2
       rw [h2]; exact HK.out.cap
     go_wp2_with fail
     go_roundg (pl - (i + 1))
     case measure => have := HI.out; omega
     case rel => exact ⟨i + 1, by have := HI.out; omega, by go_num, D2, lv2, HRN⟩
    ·have r1 : (c != 0) = true := by simpa using hc
     have HC : Hid (cutF z L.pre D = (c, (L.pre.drop i, D2))) := by
      have h1 := HDE.out
      rw [← HSN.out] at h1
      show _ = _
      rw [HK.out.cut, HDR.out]; exact cut_bad HTZ.out h1 hc
     clear hc
     go_wp2_with fail
     go_ret
     unfold RActPost
     rw [cutL_is HD0.out HC.out]
     obtain ⟨h1, h2⟩ := HBK.out _ _ _ HX.out.1 HX.out.2.1
     exact ⟨rfl, ⟨lv2, le, h1⟩, h2⟩
   ·have hltI : ¬ (i : Int) + 1 < ((pl + 1 : Nat) : Int) := by omega
    have hipl : i = pl := by have := HI.out; omega
    have HC : Hid (cutF z L.pre D = (0, ([], Di))) := by
     have h1 := HK.out.cut
     rw [List.drop_eq_nil_of_le (by rw [HPL.out]; omega)] at h1
     exact h1
    clear hlt hipl
    go_wp2_with fail
    go_ret
    unfold RActPost
    rw [cutL_is HD0.out HC.out]
    obtain ⟨h1, h2⟩ := HBK.out _ _ _ HK.out.wal HK.out.fr
    exact ⟨rfl, ⟨lvi, le, h1⟩, h2⟩
end
end Go.Proofs.YtgmghopcppniaaaGreatDoor
