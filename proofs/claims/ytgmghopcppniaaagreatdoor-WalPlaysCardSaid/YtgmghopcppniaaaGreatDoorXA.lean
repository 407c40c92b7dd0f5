/- The reference's Open: walked. -/
import Derived.Test.YtgmghopcppniaaaGreatDoorX9
import Derived.Test.YtgmghopcppniaaaGreatDoorFQ
import Derived.Test.YtgmghopcppniaaaGreatDoorFI
import Derived.Test.YtgmghopcppniaaaGreatDoorFX
namespace Go.Proofs.YtgmghopcppniaaaGreatDoor
open Go.RowKit Go.Lib

theorem all_seg {D Dr : DiskD} {i n : Nat} {st : StD} {segs : List SegD} (ha : readAll (numsN D) zeroS [] D = readAll ((numsN D).drop i) st segs Dr) (hn : (numsN D)[i]? = some n) {last : Bool} (hl : last = decide (i + 1 = (numsN D).length)) :
  ((readSeg Dr st n last).1.1 ≠ 0 → readAll (numsN D) zeroS [] D = (((readSeg Dr st n last).1.1, ((readSeg Dr st n last).1.2.1, segs ++ [(readSeg Dr st n last).1.2.2])), (readSeg Dr st n last).2)) ∧
  ((readSeg Dr st n last).1.1 = 0 → readAll (numsN D) zeroS [] D = readAll ((numsN D).drop (i + 1)) (readSeg Dr st n last).1.2.1 (segs ++ [(readSeg Dr st n last).1.2.2]) (readSeg Dr st n last).2) := by
 obtain ⟨h1, h2⟩ := List.getElem?_eq_some_iff.1 hn
 have hd : (numsN D).drop i = n :: (numsN D).drop (i + 1) := by rw [List.drop_eq_getElem_cons h1, h2]
 have he : ((numsN D).drop (i + 1)).isEmpty = last := by
  rw [hl]
  by_cases h3 : i + 1 = (numsN D).length
  ·rw [h3, List.drop_length]; simp
  ·rw [decide_eq_false h3, List.isEmpty_eq_false_iff]
   intro h4
   have := List.drop_eq_nil_iff.1 h4
   omega
 rw [hd] at ha
 unfold readAll at ha
 rw [he] at ha
 dsimp only at ha
 constructor
 ·intro h0
  have ha2 := ha
  rw [if_pos h0] at ha2
  conv => lhs; unfold readAll
  exact ha2
 ·intro h0
  rw [if_neg (by simpa using h0)] at ha
  conv => lhs; unfold readAll
  exact ha
section
variable {D : DiskD} {st : StD} {n : Nat} {b : Str} {rs : List RecD} {k : Nat} {e : Int}
theorem seg_clean (hr : readD D (nameW n) = (b, 0)) (hs : readS b = ((rs, k), 0)) {last : Bool} : readSeg D st n last = ((0, (foldS st rs, ⟨n, k, topL rs⟩)), D) := by
 unfold readSeg; rw [hr, if_neg (by simp)]; dsimp only; rw [hs, if_pos rfl]
theorem seg_mid (hr : readD D (nameW n) = (b, 0)) (hs : readS b = ((rs, k), e)) (he : e ≠ 0) : readSeg D st n false = ((e, (foldS st rs, ⟨n, k, topL rs⟩)), D) := by
 unfold readSeg; rw [hr, if_neg (by simp)]; dsimp only; rw [hs, if_neg he, if_pos rfl]
theorem seg_cut (hr : readD D (nameW n) = (b, 0)) (hs : readS b = ((rs, k), e)) (he : e ≠ 0) {c : Int} {D2 : DiskD} (ht : truncD D (nameW n) k = (c, D2)) (hc : c ≠ 0) : readSeg D st n true = ((c, (foldS st rs, ⟨n, k, topL rs⟩)), D2) := by
 unfold readSeg; rw [hr, if_neg (by simp)]; dsimp only; rw [hs, if_neg he, if_neg (by simp)]; dsimp only; rw [ht, if_pos hc]
theorem seg_sync (hr : readD D (nameW n) = (b, 0)) (hs : readS b = ((rs, k), e)) (he : e ≠ 0) {D2 : DiskD} (ht : truncD D (nameW n) k = (0, D2)) {c : Int} {D3 : DiskD} (hy : syncD D2 (nameW n) = (c, D3)) : readSeg D st n true = ((c, (foldS st rs, ⟨n, k, topL rs⟩)), D3) := by
 unfold readSeg; rw [hr, if_neg (by simp)]; dsimp only; rw [hs, if_neg he, if_neg (by simp)]; dsimp only; rw [ht, if_neg (by simp)]; dsimp only; rw [hy]
end
/-- a number of the disk's: its file is there -/
theorem num_file {D : DiskD} {i n : Nat} (hi : InvD D) (hd : D.dead = false) (hm : D.most ≤ 100000) (hn : (numsN D)[i]? = some n) : (numsD D.files)[i]? = some ((n : Nat) : Int) ∧ 0 < n ∧ n < 1000000 ∧ ∃ b, readD D (nameW n) = (b, 0) ∧ b.length ≤ 100000 := by
 have h1 := hn
 unfold numsN at h1
 rw [List.getElem?_map] at h1
 cases h2 : (numsD D.files)[i]? with
 | none => rw [h2] at h1; cases h1
 | some y =>
  rw [h2] at h1
  simp only [Option.map_some, Option.some.injEq] at h1
  obtain ⟨h3, f, hf, h4⟩ := mem_numsD.1 (List.mem_of_getElem? h2)
  have h5 := numW_lt f.name
  have h6 := numW_back (s := f.name) (by omega)
  have hnn : numW f.name = n := by omega
  have hg : getF D.files (nameW n) = some f := get_of_mem hi.sorted hf (by rw [← hnn]; exact h6.2)
  have h7 := mem_total hf
  have h8 := hi.full
  exact ⟨by rw [← h1]; congr 1; omega, by omega, by omega, f.bytes, read_file' hd hg, by omega⟩
theorem nums_len (D : DiskD) : (numsN D).length = (numsD D.files).length := List.length_map _
/-- where Open stands -/
structure ROI (w2 : World) (D : DiskD) (rl rb : Nat) (lv : Value) (i : Nat) (st : StD) (segs : List SegD) (Dr : DiskD) (lvr le : Value) (wr : World) : Prop where
 all : readAll (numsN D) zeroS [] D = readAll ((numsN D).drop i) st segs Dr
 same : i < (numsN D).length → Dr = D ∧ lvr = lv
 wal : RWal wr (Plus (fun k => OwnR rb lv k ∨ k = rl) w2 wr) rl rb lvr le st Dr
 own : ∀ k, lvr.ownBlock = some k → lv.ownBlock = some k ∨ w2.heap.size ≤ k
 fr : Fr (fun k => OwnR rb lv k ∨ k = rl) w2 wr
 ok : OkS st
 few : st.ents.length ≤ i * 12000
/-- where its inner loop stands -/
structure RII (w2 w4 : World) (D : DiskD) (rl rb : Nat) (lv : Value) (st : StD) (rs : List RecD) (j : Nat) (le : Value) (wr : World) : Prop where
 wal : RWal wr (Plus (fun k => OwnR rb lv k ∨ k = rl) w2 wr) rl rb lv le (foldS st (rs.take j)) D
 fr : Fr (fun k => k = rl) w4 wr
theorem recsC_at {l : List RecD} {i : Nat} {r : RecD} (h : l[i]? = some r) {j : Nat} {v : Value} (hv : (recXs r)[j]? = some v) : (recsC l)[i * 7 + j]? = some v := by
 obtain ⟨h1, h2⟩ := List.getElem?_eq_some_iff.1 h
 have e : l = l.take i ++ r :: l.drop (i + 1) := by rw [← h2, List.getElem_cons_drop, List.take_append_drop]
 have hj : j < (recXs r).length := (List.getElem?_eq_some_iff.1 hv).1
 have hx : (recXs r).length = 7 := rfl
 rw [e]
 have e2 : recsC (l.take i ++ r :: l.drop (i + 1)) = recsC (l.take i) ++ (recXs r ++ recsC (l.drop (i + 1))) := by rw [recsC_app]; rfl
 have hl : (recsC (l.take i)).length = i * 7 := by rw [recsC_len, List.length_take, Nat.min_eq_left (by omega)]
 rw [e2, List.getElem?_append_right (by omega), hl, Nat.add_sub_cancel_left, List.getElem?_append_left (by omega)]
 exact hv

section
variable {w w' : World} {rb rl : Nat} {lv lv' le' : Value} {D : DiskD} {p : (Int × (StD × List SegD)) × DiskD}
def ROpenAll (D : DiskD) (rb : Nat) (lv : Value) (w : World) (e : Ending) (w' : World) : Prop := ROpenPost (openD D).1.1 (openD D).1.2.1 (openD D).2 rb lv w e w'
theorem ropen_bad (hp : openD D = p) (hc : p.1.1 ≠ 0) (hR : RefAt w' rb lv' p.2) (ho : ∀ k, lv'.ownBlock = some k → lv.ownBlock = some k ∨ w.heap.size ≤ k) (hf : Fr (OwnR rb lv) w w') : ROpenAll D rb lv w (.returned (.tuple #[.pointer none, .int .i64 p.1.1])) w' := by
 unfold ROpenAll
 rw [hp]
 exact ⟨0, lv', by rw [if_neg hc], hR, ho, fun h => absurd h hc, hf⟩
theorem ropen_good (hp : openD D = p) (hc : p.1.1 = 0) (hR : RWal w' (Plus (OwnR rb lv) w w') rl rb lv' le' p.1.2.1 p.2) (ho : ∀ k, lv'.ownBlock = some k → lv.ownBlock = some k ∨ w.heap.size ≤ k) (hf : Fr (OwnR rb lv) w w') : ROpenAll D rb lv w (.returned (.tuple #[.pointer (some ⟨rl, 0, none⟩), .int .i64 0])) w' := by
 unfold ROpenAll
 rw [hp]
 exact ⟨rl, lv', by rw [if_pos hc, hc], hR.disk, ho, fun _ => ⟨le', hR⟩, hf⟩
theorem lay_same {D : DiskD} {n : Nat} {rs : List RecD} {st : StD} {a b : Int} : layD D (nameW n) (recsL rs) = ((layL ⟨st, [], ⟨n, a.toNat, b⟩⟩ D rs).1, (layL ⟨st, [], ⟨n, a.toNat, b⟩⟩ D rs).2.2) := by
 unfold layD layL
 dsimp only
 split <;> rfl
theorem openD_some (hn : numsD D.files ≠ []) : openD D = readAll (numsN D) zeroS [] D := by
 unfold openD
 rw [if_neg]
 unfold numsN
 simpa using hn
set_option maxRecDepth 100000 in
set_option maxHeartbeats 16000000 in
theorem ropen_h (h : RefAt w rb lv D) (hd : D.dead = false) (hm : D.most ≤ 100000) : Calls Tryz.prog 35 #[.pointer (some ⟨rb, 0, none⟩)] w (ROpenAll D rb lv w) := by
 by_cases hn0 : numsD D.files = []
 ·have h1 := ropen_none_h h hd hn0
  unfold ROpenAll
  rw [open_first hn0]
  have h2 := lay_same (D := D) (n := 1) (rs := [.hard 0 0]) (st := zeroS) (a := 0) (b := 0)
  rw [h2] at h1
  exact h1
 obtain ⟨_, _, _, c3⟩ := h.cells
 rw [hd] at c3
 have hlt : ∀ k, OwnR rb lv k → k < w.heap.size := fun k hk => h.lt hk
 obtain ⟨w1, hw1⟩ : ∃ w1, w1 = w.alloc (.cells #[.pointer (some ⟨rb, 0, none⟩), .int .i64 0, .int .i64 0, .slice none 0 0] 65) := ⟨_, rfl⟩
 have hrw := rwal_first h
 rw [← hw1] at hrw
 have hf1 : Fr (fun _ => False) w w1 := by rw [hw1]; exact (Fr.refl _ _).alloc _
 have HF1 := Lib.hid hf1
 have hsz : w.heap.size < w1.heap.size := by rw [hw1]; simp
 have HLT := Lib.hid hlt
 have e3 := hf1.cell c3 (fun h => h)
 have HRW := Lib.hid hrw
 have HNU := Lib.hid (rnumbers_h hrw)
 have HIN := Lib.hid h.inv
 have HOPN := Lib.hid (openD_some hn0)
 have HNF := Lib.hid (fun (i n : Nat) (hn : (numsN D)[i]? = some n) => num_file h.inv hd hm hn)
 have HNL := Lib.hid (nums_len D)
 have hln0 := List.length_pos_iff.2 hn0
 unfold NumbPost at HNU
 obtain ⟨ln, hln⟩ : ∃ ln, (numsD D.files).length = ln := ⟨_, rfl⟩
 rw [hln] at HNL hln0 HNU
 have hl40 : ln ≤ 40 := by
  rw [← hln]
  unfold numsD
  rw [List.length_mergeSort]
  have h1 := List.length_filter_le (fun n => decide (0 < n)) (D.files.map fun f => ((numW f.name : Nat) : Int))
  rw [List.length_map] at h1
  have := h.inv.many
  omega
 clear h hd hn0 c3 hrw hlt hf1 hln
 go_enter Tryz.func35, Tryz.ntmps35
 go_upto_region 2 with fail
 rw [← hw1]
 clear hw1
 go_wp2_with fail
 refine Calls.mono HNU.out ?_
 rintro e w2 ⟨v2, rfl, hrow2, hf2⟩
 obtain ⟨na, nc, rfl⟩ : ∃ a c, v2 = .slice a ln c := ownsRow_shape hrow2
 have HF2 := Lib.hid (HF1.out.next hf2)
 have HF12 := Lib.hid hf2
 have hs2 := hf2.size
 have HQ : Hid (SRow w2 (fun k => w1.heap.size ≤ k ∧ k < w2.heap.size) 1 (.slice na ln nc) ln ((numsD D.files).map (Value.int .i64))) := Lib.hid ((SRow.of_owns hrow2).mono fun k hk => hrow2.lt k hk)
 have HR2 : Hid (ROI w2 D w.heap.size rb lv 0 zeroS [] D lv (.slice none 0 0) w2) := by
  refine ⟨rfl, fun _ => ⟨rfl, rfl⟩, (HRW.out.quiet hf2).mono (fun k hk => .inl hk) ?_, fun k hk => .inl hk, Fr.refl _ _, OkS.zero, Nat.zero_le _⟩
  exact Plus.lt (fun k hk => Nat.lt_of_lt_of_le (HRW.out.lt k hk) hs2) (Nat.le_refl _)
 have q0 : ((ln : Int) == 0) = false := by simp; omega
 have i9 : IntKind.i64.wrap ((ln : Int) - 1) = (ln : Int) - 1 := IntWalk.i64_in _ (by omega)
 clear hrow2 hf2 HNU e3
 go_wp2_with fail
 go_loopg [7] ln (fun j v7 wr => ∃ i : Nat, i + j = ln ∧ v7 = .int .i64 (i : Int) ∧ ∃ (st : StD) (segs : List SegD) (Dr : DiskD) (lvr le : Value), Hid (ROI w2 D w.heap.size rb lv i st segs Dr lvr le wr))
 case atStart => exact ⟨0, by omega, rfl, _, _, _, _, _, HR2⟩
 case round =>
  obtain ⟨i, hi, rfl, st, segs, Dr, lvr, le, HK⟩ := hrel
  have HI := Lib.hid hi
  clear hi HR2
  by_cases hlti : i < ln
  ·have hltI : (i : Int) < (ln : Int) := by omega
   obtain ⟨eD, eV⟩ := HK.out.same (by rw [HNL.out]; exact hlti)
   have eD := eD.symm
   have eV := eV.symm
   subst eD
   subst eV
   obtain ⟨n, hn⟩ : ∃ n, (numsN D)[i]? = some n := ⟨_, List.getElem?_eq_getElem (by rw [HNL.out]; exact hlti)⟩
   obtain ⟨hnd, hn0, hn1, b, hb, hbl⟩ := HNF.out i n hn
   have HB := Lib.hid hb
   have HN := Lib.hid hn
   obtain ⟨g, off, rfl, hc⟩ := (HQ.out.fr HK.out.fr (fun k hk e => by
    rcases e with e | e
    ·have := HLT.out k e; omega
    ·omega)).cell (by omega)
   have c0 := hc i (.int .i64 (n : Int)) (by rw [List.getElem?_map, hnd]; rfl)
   have HNM : Hid (∀ W : World, Calls Tryz.prog 89 #[.int .i64 (n : Int)] W fun e w' => e = .returned (.string (bs (nameW n))) ∧ Fr (fun _ => False) W w') := Lib.hid (fun W => by rw [← nameX_is hn0]; exact rwname_h (by omega))
   have HRD : Hid (∀ (W : World) (_ : Fr (fun _ => False) wr W), Calls Tryz.prog 88 #[.pointer (some ⟨rb, 0, none⟩), .string (bs (nameW n))] W fun e w' => e = .returned (.tuple #[.string (bs b), .int .i64 0]) ∧ Fr (fun _ => False) W w') := Lib.hid (fun W hq => by have h := rread_h ((HK.out.wal.quiet hq).disk) (nameW n); rw [hb] at h; exact h)
   have HRC := Lib.hid (fun W : World => rrecords_h (w := W) b (by omega))
   unfold RecsPost at HRC
   obtain ⟨q, hq⟩ : ∃ q, readS b = q := ⟨_, rfl⟩
   obtain ⟨⟨rs, k⟩, e⟩ := q
   rw [hq] at HRC
   dsimp only at HRC
   have HRS := Lib.hid hq
   have HGD := Lib.hid (show ∀ r ∈ rs, GoodR r by
    intro r hr
    have h1 := (readS_back b).2.2.2.2.2
    rw [hq] at h1
    exact (h1 r hr).1)
   have hkb : k ≤ b.length := by have h1 := (readS_back b).2.2.1; rw [hq] at h1; exact h1
   have hrsl : rs.length ≤ 12000 := by
    have h1 := (readS_back b).2.1
    rw [hq] at h1
    dsimp only at h1
    have h2 := recs_many rs
    omega
   have hfew := HK.out.few
   clear hnd hn hb hc hq
   go_wp2_with fail
   refine Calls.mono (HNM.out _) ?_
   rintro e1 w3 ⟨rfl, hf3⟩
   have HF3 := Lib.hid hf3
   clear hf3
   go_wp2_with fail
   refine Calls.mono (HRD.out _ HF3.out) ?_
   rintro e1 w4 ⟨rfl, hf4⟩
   have HF4 := Lib.hid (HF3.out.next hf4)
   clear hf4
   go_wp2_with fail
   refine Calls.mono (HRC.out _) ?_
   rintro e1 w5 ⟨rv, rfl, hrow5, hf5⟩
   obtain ⟨ra, rc, rfl⟩ : ∃ a c, rv = .slice a rs.length c := ownsRow_shape hrow5
   have HF5 := Lib.hid (HF4.out.next hf5)
   have hz5 := HF5.out.size
   have hz4 := HF4.out.size
   have hzr := HK.out.fr.size
   have HROW : Hid (SRow w5 (fun k => w4.heap.size ≤ k ∧ k < w5.heap.size) 7 (.slice ra rs.length rc) rs.length (recsC rs)) := Lib.hid ((SRow.of_owns hrow5).mono fun k hk => hrow5.lt k hk)
   have HW5 := Lib.hid ((HK.out.wal.quiet HF5.out).mono (S' := Plus (fun k => OwnR rb lv k ∨ k = w.heap.size) w2 w5) (fun k hk => by
    rcases hk with hk | ⟨hk, hk2⟩
    ·exact .inl hk
    ·exact .inr ⟨hk, by omega⟩) (Plus.lt (fun k hk => by rcases hk with hk | hk; exact (by have := HLT.out k hk; omega); exact (by omega)) (by omega)))
   have c5 := HF5.out.cell c0 (fun h => h)
   clear hrow5 hf5 c0
   go_upto_block 2 with fail
   go_cut [] (fun wx => ∃ le2, Hid (RII w2 w5 D w.heap.size rb lv st rs rs.length le2 wx))
   case first =>
    go_wp2_with fail
    go_loopg [13] rs.length (fun j v13 wx => ∃ k : Nat, k + j = rs.length ∧ v13 = .int .i64 (k : Int) ∧ ∃ le2, Hid (RII w2 w5 D w.heap.size rb lv st rs k le2 wx))
    case atStart => exact ⟨0, by omega, rfl, le, Lib.hid ⟨by rw [List.take_zero]; exact HW5.out, Fr.refl _ _⟩⟩
    case round =>
     obtain ⟨m, hm, rfl, le2, HJ⟩ := hrel
     have HM := Lib.hid hm
     clear hm
     by_cases hml : m < rs.length
     ·have hmlI : (m : Int) < (rs.length : Int) := by omega
      obtain ⟨r, hr⟩ : ∃ r, rs[m]? = some r := ⟨_, List.getElem?_eq_getElem hml⟩
      obtain ⟨g5, off5, rfl, hc5⟩ := (HROW.out.fr HJ.out.fr (fun k hk e => by omega)).cell (by omega)
      have hgr := HGD.out r (List.mem_of_getElem? hr)
      have hok : OkS (foldS st (rs.take m)) := OkS.fold _ HK.out.ok fun x hx => HGD.out x (List.mem_of_mem_take hx)
      have hfl := foldS_len (rs.take m) st
      rw [List.length_take] at hfl
      have HTK := Lib.hid (rtake_h HJ.out.wal hok hgr (by omega))
      have HST : Hid (foldS st (rs.take (m + 1)) = stepS (foldS st (rs.take m)) r) := by
       obtain ⟨h1, h2⟩ := List.getElem?_eq_some_iff.1 hr
       show _ = _
       rw [List.take_succ_eq_append_getElem h1, h2, foldS_app]; rfl
      have y0 := hc5 (m * 7 + 0) _ (recsC_at hr (j := 0) (v := .int .i64 (RecQ.of r).k) rfl)
      have y1 := hc5 (m * 7 + 1) _ (recsC_at hr (j := 1) (v := .int .i64 (RecQ.of r).t) rfl)
      have y2 := hc5 (m * 7 + 2) _ (recsC_at hr (j := 2) (v := .int .i64 (RecQ.of r).v) rfl)
      have y3 := hc5 (m * 7 + 3) _ (recsC_at hr (j := 3) (v := .int .i64 (RecQ.of r).e.index) rfl)
      have y4 := hc5 (m * 7 + 4) _ (recsC_at hr (j := 4) (v := .int .i64 (RecQ.of r).e.term) rfl)
      have y5 := hc5 (m * 7 + 5) _ (recsC_at hr (j := 5) (v := .int .i64 (RecQ.of r).e.kind) rfl)
      have y6 := hc5 (m * 7 + 6) _ (recsC_at hr (j := 6) (v := .string (bs (RecQ.of r).e.data)) rfl)
      obtain ⟨qr, hqr⟩ : ∃ q, RecQ.of r = q := ⟨_, rfl⟩
      rw [hqr] at HTK y0 y1 y2 y3 y4 y5 y6
      unfold RecQ.val recV RTakePost at HTK
      rw [← Nat.add_assoc] at y0 y1 y2 y3 y4 y5 y6
      rw [Nat.add_zero] at y0
      clear hr hc5 hgr hok hfl hqr
      go_wp2_with fail
      refine Calls.mono HTK.out ?_
      rintro e1 w6 ⟨rfl, ⟨le3, hw6⟩, hf6⟩
      have HJ2 : Hid (RII w2 w5 D w.heap.size rb lv st rs (m + 1) le3 w6) := by
       refine ⟨?_, HJ.out.fr.next hf6⟩
       rw [HST.out]
       have hz1 := HJ.out.fr.size
       have hz2 := hf6.size
       refine hw6.mono (fun k hk => Plus.two (by omega) hk hz2) (Plus.lt (fun k hk => ?_) (by omega))
       rcases hk with hk | hk
       ·have := HLT.out k hk; omega
       ·omega
      clear hw6 hf6 HTK
      go_wp2_with fail
      go_roundg (rs.length - (m + 1))
      case measure => have := HM.out; omega
      case rel => exact ⟨m + 1, by omega, by go_num, le3, HJ2⟩
     ·obtain rfl : m = rs.length := by have := HM.out; omega
      have hmlI : ¬ (rs.length : Int) < (rs.length : Int) := by omega
      go_wp2_with fail
      go_meet
      exact ⟨le2, HJ⟩
   case rest =>
   obtain ⟨le2, HJ⟩ := hcut
   obtain ⟨w6, hwn⟩ : ∃ x, x = wc := ⟨_, rfl⟩
   rw [← hwn] at HJ ⊢
   clear hwn c5
   have HJW : Hid (RWal w6 (Plus (fun k => OwnR rb lv k ∨ k = w.heap.size) w2 w6) w.heap.size rb lv le2 (foldS st rs) D) := by
    have h1 := HJ.out.wal
    rw [List.take_length] at h1
    exact h1
   have HF6 : Hid (Fr (fun k => OwnR rb lv k ∨ k = w.heap.size) w2 w6) := HK.out.fr.next ((HF5.out.mono (o2 := fun k => OwnR rb lv k ∨ k = w.heap.size) fun _ _ h => h.elim).next (HJ.out.fr.mono fun _ _ h => .inr h))
   have HFW : Hid (Fr (OwnR rb lv) w w6) := (HF2.out.mono (o2 := OwnR rb lv) fun _ _ h => h.elim).trans HF6.out fun k hk => by
    rcases hk with hk | hk
    ·exact .inl hk
    ·exact .inr (by omega)
   have hz6 := HF6.out.size
   have hz56 := HJ.out.fr.size
   have hmax : foldS st rs = foldS st rs := rfl
   have HOF := Lib.hid (OkS.fold rs HK.out.ok HGD.out)
   have HFL := Lib.hid (foldS_len rs st)
   have HLB : Hid (∀ lv' : Value, (∀ k, lv'.ownBlock = some k → lv.ownBlock = some k ∨ w2.heap.size ≤ k) → ∀ k, lv'.ownBlock = some k → lv.ownBlock = some k ∨ w.heap.size ≤ k) := Lib.hid (fun lv' h k hk => by
    rcases h k hk with h | h
    ·exact .inl h
    ·exact .inr (by have := HF2.out.size; omega))
   clear hmax
   by_cases he : e = 0
   ·have qe : (e == 0) = true := by simpa using he
    have HRN : Hid (ROI w2 D w.heap.size rb lv (i + 1) (foldS st rs) (segs ++ [⟨n, k, topL rs⟩]) D lv le2 w6) := by
     refine ⟨?_, fun _ => ⟨rfl, rfl⟩, HJW.out, fun k hk => .inl hk, HF6.out, HOF.out, by have := HFL.out; omega⟩
     have h1 := (all_seg HK.out.all HN.out rfl).2
     rw [seg_clean HB.out (by rw [HRS.out, he])] at h1
     exact h1 rfl
    clear he
    go_wp2_with fail
    go_roundg (ln - (i + 1))
    case measure => have := HI.out; omega
    case rel => exact ⟨i + 1, by omega, by go_num, _, _, _, _, _, HRN⟩
   ·have qe : (e == 0) = false := by simpa using he
    have HNE := Lib.hid he
    clear he
    by_cases hil : i + 1 < ln
    ·have hilI : (i : Int) < (ln : Int) - 1 := by omega
     have HP : Hid (openD D = ((e, (foldS st rs, segs ++ [⟨n, k, topL rs⟩])), D)) := by
      have h1 := (all_seg HK.out.all HN.out rfl).1
      rw [decide_eq_false (by rw [HNL.out]; omega), seg_mid HB.out HRS.out HNE.out] at h1
      exact HOPN.out.trans (h1 HNE.out)
     clear hil
     go_wp2_with fail
     go_ret2
     exact ropen_bad HP.out HNE.out HJW.out.disk (fun k hk => .inl hk) HFW.out
    ·have hilI : ¬ (i : Int) < (ln : Int) - 1 := by omega
     have hie : i + 1 = ln := by omega
     have HIE := Lib.hid hie
     have HLD : Hid (decide (i + 1 = (numsN D).length) = true) := by show _ = _; rw [HNL.out]; exact decide_eq_true hie
     have HTR := Lib.hid (fun (W : World) (hq : Fr (fun _ => False) w6 W) => rtrunc_h ((HJW.out.quiet hq).disk) (nameW n) ((k : Nat) : Int))
     obtain ⟨p1, hp1⟩ : ∃ p, truncD D (nameW n) ((k : Nat) : Int) = p := ⟨_, rfl⟩
     rw [hp1] at HTR
     have HP1 := Lib.hid hp1
     unfold RDoes at HTR
     have HCE : Hid (∀ (W : World) (_ : Fr (fun k => OwnR rb lv k ∨ k = w.heap.size) w2 W), W.cell? ⟨g, off + i, none⟩ = some (.int .i64 (n : Int))) := Lib.hid (fun W hW => by
      obtain ⟨g6, off6, he6, hc6⟩ := (HQ.out.fr hW (fun k hk e => by
       rcases e with e | e
       ·have := HLT.out k e; omega
       ·omega)).cell (by omega)
      simp only [Option.some.injEq, Addr.mk.injEq, and_true] at he6
      obtain ⟨rfl, rfl⟩ := he6
      exact hc6 i (.int .i64 (n : Int)) (by rw [List.getElem?_map, (HNF.out i n HN.out).1]; rfl))
     have c6 := HCE.out w6 HF6.out
     clear hil hie hp1
     go_wp2_with fail
     refine Calls.mono (HNM.out _) ?_
     rintro e1 w7 ⟨rfl, hf7⟩
     have HF7 := Lib.hid hf7
     clear hf7
     go_wp2_with fail
     refine Calls.mono (HTR.out _ HF7.out) ?_
     rintro e1 w8 ⟨lv8, rfl, hd8, hf8, hv8⟩
     have hz7 := HF7.out.size
     have hz8 := hf8.size
     have HW8 := Lib.hid ((HJW.out.quiet HF7.out).done hd8 hf8 hv8)
     have HF8 : Hid (Fr (fun k => OwnR rb lv k ∨ k = w.heap.size) w2 w8) := (HF6.out.next (HF7.out.mono fun _ _ h => h.elim)).next (hf8.mono fun _ _ h => .inl h)
     have HFW8 : Hid (Fr (OwnR rb lv) w w8) := (HFW.out.next (HF7.out.mono fun _ _ h => h.elim)).next hf8
     have HV8 : Hid (∀ k, lv8.ownBlock = some k → lv.ownBlock = some k ∨ w2.heap.size ≤ k) := fun k hk => by
      rcases hv8 k hk with h | h
      ·exact .inl h
      ·exact .inr (by omega)
     have c8 := HCE.out w8 HF8.out
     clear hd8 hf8 hv8 HTR c6
     obtain ⟨c1, D2⟩ := p1
     dsimp only at HW8
     by_cases hc1 : c1 = 0
     ·subst hc1
      have HSY := Lib.hid (fun (W : World) (hq : Fr (fun _ => False) w8 W) => rsync_h ((HW8.out.quiet hq).disk) (nameW n))
      obtain ⟨p2, hp2⟩ : ∃ p, syncD D2 (nameW n) = p := ⟨_, rfl⟩
      rw [hp2] at HSY
      have HP2 := Lib.hid hp2
      unfold RDoes at HSY
      clear hp2
      go_wp2_with fail
      refine Calls.mono (HNM.out _) ?_
      rintro e1 w9 ⟨rfl, hf9⟩
      have HF9 := Lib.hid hf9
      clear hf9
      go_wp2_with fail
      refine Calls.mono (HSY.out _ HF9.out) ?_
      rintro e1 wA ⟨lvA, rfl, hdA, hfA, hvA⟩
      have hz9 := HF9.out.size
      have hzA := hfA.size
      have HWA := Lib.hid ((HW8.out.quiet HF9.out).done hdA hfA hvA)
      have HOX : Hid (∀ k, OwnR rb lv8 k → OwnR rb lv k ∨ w2.heap.size ≤ k) := Lib.hid (fun k hk => by
       rcases hk with hk | hk
       ·exact .inl (.inl hk)
       ·rcases HV8.out k hk with h | h
        ·exact .inl (.inr h)
        ·exact .inr h)
      have HFA : Hid (Fr (fun k => OwnR rb lv k ∨ k = w.heap.size) w2 wA) := (HF8.out.next (HF9.out.mono fun _ _ h => h.elim)).trans hfA fun k hk => by
       rcases HOX.out k hk with h | h
       ·exact .inl (.inl h)
       ·exact .inr h
      have HFWA : Hid (Fr (OwnR rb lv) w wA) := (HFW8.out.next (HF9.out.mono fun _ _ h => h.elim)).trans hfA fun k hk => by
       rcases HOX.out k hk with h | h
       ·exact .inl h
       ·exact .inr (by have := HF2.out.size; omega)
      have HVA : Hid (∀ k, lvA.ownBlock = some k → lv.ownBlock = some k ∨ w2.heap.size ≤ k) := fun k hk => by
       rcases hvA k hk with h | h
       ·exact HV8.out k h
       ·exact .inr (by omega)
      clear hdA hfA hvA HSY c8
      obtain ⟨c2, D3⟩ := p2
      dsimp only at HWA
      by_cases hc2 : c2 = 0
      ·subst hc2
       have HRN : Hid (ROI w2 D w.heap.size rb lv (i + 1) (foldS st rs) (segs ++ [⟨n, k, topL rs⟩]) D3 lvA le2 wA) := by
        refine ⟨?_, fun h => (by rw [HNL.out] at h; have := HIE.out; omega), ?_, HVA.out, HFA.out, HOF.out, by have := HFL.out; omega⟩
        ·have h1 := (all_seg HK.out.all HN.out rfl).2
         rw [HLD.out, seg_sync HB.out HRS.out HNE.out HP1.out HP2.out] at h1
         exact h1 rfl
        ·refine HWA.out.mono (fun k hk => ?_) (Plus.lt (fun k hk => ?_) (by omega))
         ·rcases hk with ((hk | ⟨hk, hk2⟩) | ⟨hk, hk2⟩) | ⟨hk, hk2⟩
          ·exact .inl hk
          ·exact .inr ⟨hk, by omega⟩
          ·exact .inr ⟨by omega, by omega⟩
          ·exact .inr ⟨by omega, by omega⟩
         ·rcases hk with hk | hk
          ·have := HLT.out k hk; omega
          ·omega
       have hie := HIE.out
       go_wp2_with fail
       go_roundg (ln - (i + 1))
       case measure => have := HI.out; omega
       case rel => exact ⟨i + 1, by omega, by go_num, _, _, _, _, _, HRN⟩
      ·have r1 : (c2 == 0) = false := by simpa using hc2
       have r2 : (c2 != 0) = true := by simpa using hc2
       have HP : Hid (openD D = ((c2, (foldS st rs, segs ++ [⟨n, k, topL rs⟩])), D3)) := by
        have h1 := (all_seg HK.out.all HN.out rfl).1
        rw [HLD.out, seg_sync HB.out HRS.out HNE.out HP1.out HP2.out] at h1
        exact HOPN.out.trans (h1 hc2)
       have HC2 := Lib.hid hc2
       clear hc2
       go_wp2_with fail
       go_ret2
       exact ropen_bad HP.out HC2.out HWA.out.disk (HLB.out _ HVA.out) HFWA.out
     ·have r1 : (c1 == 0) = false := by simpa using hc1
      have r2 : (c1 != 0) = true := by simpa using hc1
      have HP : Hid (openD D = ((c1, (foldS st rs, segs ++ [⟨n, k, topL rs⟩])), D2)) := by
       have h1 := (all_seg HK.out.all HN.out rfl).1
       rw [HLD.out, seg_cut HB.out HRS.out HNE.out HP1.out hc1] at h1
       exact HOPN.out.trans (h1 hc1)
      have HC1 := Lib.hid hc1
      clear hc1
      go_wp2_with fail
      go_ret2
      exact ropen_bad HP.out HC1.out HW8.out.disk (HLB.out _ HV8.out) HFW8.out
  ·obtain rfl : i = ln := by have := HI.out; omega
   have hltI : ¬ (i : Int) < (i : Int) := by omega
   have HP : Hid (openD D = ((0, (st, segs)), Dr)) := by
    have h1 := HK.out.all
    rw [List.drop_eq_nil_of_le (by rw [HNL.out]; exact Nat.le_refl _)] at h1
    exact HOPN.out.trans h1
   have hzr := HK.out.fr.size
   have hz2 := HF2.out.size
   clear hlti
   go_wp2_with fail
   go_ret2
   refine ropen_good (lv' := lvr) (le' := le) HP.out rfl ?_ (fun k hk => ?_) ?_
   ·refine HK.out.wal.mono (fun k hk => ?_) (Plus.lt HLT.out (by omega))
    rcases hk with (hk | hk) | ⟨hk, hk2⟩
    ·exact .inl hk
    ·exact .inr ⟨by omega, by omega⟩
    ·exact .inr ⟨by omega, hk2⟩
   ·rcases HK.out.own k hk with h | h
    ·exact .inl h
    ·exact .inr (by omega)
   ·exact (HF2.out.mono (o2 := OwnR rb lv) fun _ _ h => h.elim).trans HK.out.fr fun k hk => by
     rcases hk with hk | hk
     ·exact .inl hk
     ·exact .inr (by omega)
end
end Go.Proofs.YtgmghopcppniaaaGreatDoor
