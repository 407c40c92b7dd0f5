/- snap.write: walked. -/
import Derived.Test.YtgmghopcppniaaaGreatDoorFE
import Derived.Test.YtgmghopcppniaaaGreatDoorKA
import Derived.Test.YtgmghopcppniaaaGreatDoorFG
import Derived.Test.YtgmghopcppniaaaGreatDoorFK
import Derived.WalkMore
import Derived.Laws.EntriesVeiled
namespace Go.Proofs.YtgmghopcppniaaaGreatDoor
open Go.RowKit Go.Lib Go.Shelf

attribute [local go_sem] Oper.semAt_some
/-- between two rounds: the three boxes -/
structure WBox (w : World) (pb : Nat) (b : BaseD) (v : Value) (x : Int) (W : World) : Prop where
 d : W.heap[w.heap.size]? = some (.cells #[.pointer (some ⟨pb, 0, none⟩)] 39 (0, 0))
 b : W.heap[w.heap.size + 1]? = some (.cells #[.int .i64 b.index, .int .i64 b.term, v, .string (bs b.data)] 24 (0, 0))
 r : W.heap[w.heap.size + 1 + 1]? = some (.cells #[.int .i64 x] 27 (0, 0))
structure WIs (w : World) (pb mb : Nat) (b : BaseD) (v : Value) (x : Int) (p : Int × DiskD) (W : World) : Prop where
 box : WBox w pb b v x W
 disk : DiskAt W pb mb p.2
 fr : Fr (Own pb mb) w W
end Go.Proofs.YtgmghopcppniaaaGreatDoor

/- A log with its disk in memory; wal's read: walked. -/
namespace Go.Proofs.YtgmghopcppniaaaGreatDoor
open Go.RowKit Go.Lib

structure WalAt (w : World) (S : Nat → Prop) (lp pb mb : Nat) (ve vs : Value) (st : StD) (segs : List SegD) (D : DiskD) : Prop where
 log : LogAt w S lp (.pointer (some ⟨pb, 0, none⟩)) ve vs st segs
 disk : DiskAt w pb mb D
 far : ∀ k, S k → ¬ Own pb mb k
 env : Env w
 low : ∀ k, S k → 8 ≤ k
 dlow : 8 ≤ pb ∧ 8 ≤ mb
def WAll (S : Nat → Prop) (pb mb : Nat) : Nat → Prop := fun k => S k ∨ Own pb mb k
section
variable {w w' : World} {S : Nat → Prop} {lp pb mb : Nat} {ve vs : Value} {st : StD} {segs : List SegD} {D : DiskD}
theorem WalAt.quiet (h : WalAt w S lp pb mb ve vs st segs D) (hf : Fr (fun _ => False) w w') : WalAt w' S lp pb mb ve vs st segs D :=
 ⟨h.log.quiet hf, h.disk.grow hf, h.far, h.env.grow hf, h.low, h.dlow⟩
theorem WalAt.own_lt (h : WalAt w S lp pb mb ve vs st segs D) : pb < w.heap.size ∧ mb < w.heap.size := ⟨lt_of_block h.disk.head, h.disk.map.lt⟩
/-- a call that did something with the disk alone -/
theorem WalAt.done (h : WalAt w S lp pb mb ve vs st segs D) {D2 : DiskD} (hD : DiskAt w' pb mb D2) (hf : Fr (Own pb mb) w w') : WalAt w' S lp pb mb ve vs st segs D2 :=
 ⟨h.log.fr hf h.far, hD, h.far, h.env.fr hf (fun k hk => by have := h.dlow; rintro (e | e) <;> omega), h.low, h.dlow⟩
/-- a call that did something with the log alone -/
theorem WalAt.logs (h : WalAt w S lp pb mb ve vs st segs D) {ve2 vs2 : Value} {st2 : StD} {segs2 : List SegD} (hl : LogAt w' (Plus S w w') lp (.pointer (some ⟨pb, 0, none⟩)) ve2 vs2 st2 segs2) (hf : Fr S w w') : WalAt w' (Plus S w w') lp pb mb ve2 vs2 st2 segs2 D := by
 have ho := h.own_lt
 refine ⟨hl, h.disk.fr hf (fun e => h.far pb e (.inl rfl)) (fun e => h.far mb e (.inr rfl)), fun k hk => ?_, h.env.fr hf (fun k hk e => by have := h.low k e; omega), fun k hk => ?_, h.dlow⟩
 ·rcases hk with hk | ⟨hk, _⟩
  ·exact h.far k hk
  ·rintro (e | e) <;> omega
 ·rcases hk with hk | ⟨hk, _⟩
  ·exact h.low k hk
  ·have := h.dlow; omega
theorem WalAt.mono {S' : Nat → Prop} (h : WalAt w S lp pb mb ve vs st segs D) (hS : ∀ k, S k → S' k) (h1 : ∀ k, S' k → k < w.heap.size) (h2 : ∀ k, S' k → ¬ Own pb mb k) (h3 : ∀ k, S' k → 8 ≤ k) : WalAt w S' lp pb mb ve vs st segs D :=
 ⟨h.log.mono hS h1, h.disk, h2, h.env, h3, h.dlow⟩
/-- two calls, one behind the other: the blocks that both have left -/
theorem WalAt.plus {w1 w2 : World} (h : WalAt w S lp pb mb ve vs st segs D) {ve2 vs2 : Value} {st2 : StD} {segs2 : List SegD} {D2 : DiskD} {o : Nat → Prop} (h2 : WalAt w2 (Plus S w w1) lp pb mb ve2 vs2 st2 segs2 D2) (hf : Fr o w w1) (hf2 : w1.heap.size ≤ w2.heap.size) : WalAt w2 (Plus S w w2) lp pb mb ve2 vs2 st2 segs2 D2 := by
 have ho := h.own_lt
 have := hf.size
 refine h2.mono (fun k hk => ?_) (Plus.lt h.log.lt (by omega)) (fun k hk => ?_) (fun k hk => ?_)
 ·rcases hk with hk | ⟨hk, hk2⟩
  ·exact .inl hk
  ·exact .inr ⟨hk, by omega⟩
 ·rcases hk with hk | ⟨hk, _⟩
  ·exact h.far k hk
  ·rintro (e | e) <;> omega
 ·rcases hk with hk | ⟨hk, _⟩
  ·exact h.low k hk
  ·have := h.dlow; omega
theorem WalAt.plus0 {w2 : World} (h : WalAt w S lp pb mb ve vs st segs D) {ve2 vs2 : Value} {st2 : StD} {segs2 : List SegD} {D2 : DiskD} (h2 : WalAt w2 S lp pb mb ve2 vs2 st2 segs2 D2) (hf : w.heap.size ≤ w2.heap.size) : WalAt w2 (Plus S w w2) lp pb mb ve2 vs2 st2 segs2 D2 := by
 have ho := h.own_lt
 refine h2.mono (fun k hk => .inl hk) (Plus.lt h.log.lt hf) (fun k hk => ?_) (fun k hk => ?_)
 ·rcases hk with hk | ⟨hk, _⟩
  ·exact h.far k hk
  ·rintro (e | e) <;> omega
 ·rcases hk with hk | ⟨hk, _⟩
  ·exact h.low k hk
  ·have := h.dlow; omega
/-- frames, one behind the other -/
theorem Fr.plus {w1 w2 : World} (h : Fr S w w1) (k : Fr (Plus S w w1) w1 w2) : Fr S w w2 := h.trans k fun i hi => by
 rcases hi with hi | ⟨hi, _⟩
 ·exact .inl hi
 ·exact .inr hi
end
/-! ### how many records bytes may hold -/
theorem putE_len (l : List EntD) (e : EntD) : (putE l e).length ≤ l.length + 1 := by
 unfold putE
 split
 ·simp
 ·rw [List.length_append, List.length_take, List.length_singleton]; omega
theorem stepS_len (s : StD) (r : RecD) : (stepS s r).ents.length ≤ s.ents.length + 1 := by
 cases r with
 | hard t v => exact Nat.le_succ _
 | ent e => exact putE_len _ _
 | reset => exact Nat.zero_le _
theorem recF_len (r : RecD) : 9 ≤ (recF r).length := by unfold recF; rw [frame_len]; have := pay_pos r; omega
theorem readD_len {w : World} {pb mb : Nat} {D : DiskD} (h : DiskAt w pb mb D) (n : Str) : ((readD D n).1.length : Int) ≤ D.most ∧ (readD D n).1.length ≤ total D.files := by
 unfold readD
 have := h.inv.full
 split
 ·simp; omega
 ·cases hg : getF D.files n with
  | none => simp; omega
  | some f =>
   have := mem_total (get_mem hg).1
   dsimp only; omega
def WReadPost (D : DiskD) (n : Nat) (last : Bool) (S : Nat → Prop) (lp pb mb : Nat) (vs : Value) (st : StD) (pre : List SegD) (w : World) (e : Ending) (w' : World) : Prop :=
 e = .returned (.int .i64 (readSeg D st n last).1.1) ∧ (∃ ve', WalAt w' (Plus S w w') lp pb mb ve' vs (readSeg D st n last).1.2.1 (pre ++ [(readSeg D st n last).1.2.2]) (readSeg D st n last).2) ∧ Fr (WAll S pb mb) w w'
theorem wread_post {D : DiskD} {n : Nat} {last : Bool} {S : Nat → Prop} {lp pb mb : Nat} {vs ve' : Value} {st st2 : StD} {pre : List SegD} {s2 : SegD} {D2 : DiskD} {er : Int} {w w' : World} (h : readSeg D st n last = ((er, (st2, s2)), D2)) (hw : WalAt w' (Plus S w w') lp pb mb ve' vs st2 (pre ++ [s2]) D2) (hf : Fr (WAll S pb mb) w w') : WReadPost D n last S lp pb mb vs st pre w (.returned (.int .i64 er)) w' := by
 unfold WReadPost; rw [h]; exact ⟨rfl, ⟨ve', hw⟩, hf⟩
/-- while the records are read -/
structure RdRel (w : World) (S : Nat → Prop) (lp pb mb : Nat) (vs : Value) (st : StD) (pre : List SegD) (n : Nat) (D : DiskD) (b : Str) (rs : List RecD) (rest : Str) (ve' : Value) (wr : World) : Prop where
 all : b = recsL rs ++ rest
 read : readS b = ((rs ++ (readS rest).1.1, (recsL rs).length + (readS rest).1.2), (readS rest).2)
 wal : WalAt wr (Plus S w wr) lp pb mb ve' vs (foldS st rs) (pre ++ [⟨n, (recsL rs).length, topL rs⟩]) D
 fr : Fr S w wr
 ok : OkS (foldS st rs)
 top : I64 (topL rs)
theorem RdRel.next {w wr w2 : World} {S : Nat → Prop} {lp pb mb : Nat} {vs ve' ve2 : Value} {st : StD} {pre : List SegD} {n : Nat} {D : DiskD} {b rest t : Str} {rs : List RecD} {m : Nat} {r : RecD} (h : RdRel w S lp pb mb vs st pre n D b rs rest ve' wr) (hu : unframeL rest = .ok (t, m)) (hr : recL t = some r)
  (hw : WalAt w2 (Plus S w w2) lp pb mb ve2 vs (stepS (foldS st rs) r) (pre ++ [⟨n, (recsL rs).length + m, topR (topL rs) r⟩]) D) (hf : Fr S w w2) : RdRel w S lp pb mb vs st pre n D b (rs ++ [r]) (rest.drop m) ve2 w2 := by
 obtain ⟨h1, h2, h3, h4⟩ := unframe_back hu
 obtain ⟨h5, h6⟩ := rec_back hr
 have hrl : (recF r).length = m := by unfold recF; rw [frame_len, ← h5]; omega
 have hrec : recsL (rs ++ [r]) = recsL rs ++ recF r := by rw [recsL_app]; simp [recsL]
 have hfo : foldS st (rs ++ [r]) = stepS (foldS st rs) r := by rw [foldS_app]; rfl
 have hto : topL (rs ++ [r]) = topR (topL rs) r := by rw [topL_app]; rfl
 refine ⟨?_, ?_, ?_, hf, ?_, ?_⟩
 ·rw [hrec, List.append_assoc, h.all]
  congr 1
  unfold recF; rw [← h5]; exact h1
 ·rw [h.read, readS_more hu hr, hrec, List.length_append, hrl]
  simp only [List.append_assoc, List.singleton_append, Nat.add_assoc]
 ·rw [hfo, hto, hrec, List.length_append, hrl]; exact hw
 ·rw [hfo]; exact h.ok.step h6
 ·rw [hto]
  have := h.top
  cases r with
  | hard t v => exact this
  | reset => exact this
  | ent e =>
   have h7 := GoodE.parts (e := e) h6
   show I64 (max _ _)
   unfold I64 at *
   omega
set_option maxRecDepth 100000 in
set_option maxHeartbeats 16000000 in
theorem wread_h {w : World} {S : Nat → Prop} {lp pb mb : Nat} {ve vs : Value} {st : StD} {pre : List SegD} {n : Nat} {D : DiskD} (h : WalAt w S lp pb mb ve vs st (pre ++ [⟨n, 0, 0⟩]) D) (hn0 : 0 < n) (hn1 : n < 1000000) (hok : OkS st) (hl : st.ents.length ≤ 900000) (hp : pre.length ≤ 1000) (hm : D.most ≤ 100000) (last : Bool) :
  Calls Tryz.prog 85 #[.pointer (some ⟨lp, 0, none⟩), .bool last] w (WReadPost D n last S lp pb mb vs st pre w) := by
 have hnl : (pre ++ [(⟨n, 0, 0⟩ : SegD)]).length = pre.length + 1 := by simp
 obtain ⟨gs, scap, hvs, hsc, hscm, hgl, hgS⟩ := h.log.segrow (by rw [hnl]; omega)
 have hpos : 0 < (pre ++ [(⟨n, 0, 0⟩ : SegD)]).length := by rw [hnl]; omega
 rw [hnl] at hsc hvs
 have hscI : (pre.length : Int) + 1 ≤ scap := by omega
 have HWA := Lib.hid h
 have HOK := Lib.hid hok
 have HVS := Lib.hid hvs
 have hh := h.log.head
 have l0 := cell_of hh (i := 0) (v := .pointer (some ⟨pb, 0, none⟩)) rfl
 have l4 := cell_of hh (i := 4) (v := vs) rfl
 rw [hvs] at l4
 have hseg := h.log
 rw [hvs, ← hnl] at hseg
 obtain ⟨z0, z1, z2⟩ := hseg.segcell (i := pre.length) (s := ⟨n, 0, 0⟩) (by simp)
 have HN := Lib.hid (fun (W : World) (hE : Env W) (x y : Value) => wname_h (w := W) hE hn0 hn1 (x := x) (y := y))
 obtain ⟨N, hN⟩ : ∃ N, nameW n = N := ⟨_, rfl⟩
 have hNl : N.length ≤ 1000000 := by rw [← hN]; unfold nameW; have := decHi_len 6 n (by omega); simp; omega
 obtain ⟨b, er, hb⟩ : ∃ b er, readD D (nameW n) = (b, er) := ⟨_, _, rfl⟩
 have hbl := readD_len h.disk (nameW n)
 rw [hb] at hbl
 have hbl2 : b.length ≤ 100000 := by have := hbl.1; dsimp only at this; omega
 have HRD := Lib.hid (fun (W : World) (hF : Fr (fun _ => False) w W) => (read_h (h.disk.grow hF) (nameW n)).mono (R' := fun e w' => e = .returned (.tuple #[.string (bs b), .int .i64 er]) ∧ Fr (fun _ => False) W w') (by rintro e w' ⟨rfl, hf⟩; exact ⟨by rw [hb], hf⟩))
 rw [hN] at HN HRD
 have HB := Lib.hid hb
 have HNN := Lib.hid hN
 have hbs : (bs b).size = b.length := rfl
 clear h hok hh hseg hbl hvs hb hN
 go_enter Tryz.func85, Tryz.ntmps85
 go_wp2_with fail
 go_step3
 go_upto_region 1 with fail
 go_cut [4, 5] (fun s4 s5 wx => s4 = .int .i64 0 ∧ s5 = .pointer (some ⟨gs, pre.length * 3, none⟩) ∧ Fr (fun _ => False) w wx)
 case first =>
  go_big_quiet (fail)
  go_wp2_with fail
  go_meet
  exact ⟨rfl, rfl, (Fr.refl _ _).drewN _⟩
 case rest =>
 obtain ⟨rfl, rfl, hf1⟩ := hcut
 have HF1 := Lib.hid hf1
 have m0 := hf1.cell l0 (fun h => h)
 have y0 := hf1.cell z0 (fun h => h)
 have y1 := hf1.cell z1 (fun h => h)
 have y2 := hf1.cell z2 (fun h => h)
 clear l0 l4 z0 z1 z2 hf1
 go_upto_region 2 with fail
 go_cut [4, 5, 6, 7] (fun s4 s5 s6 s7 wx => s4 = .int .i64 0 ∧ s5 = .pointer (some ⟨gs, pre.length * 3, none⟩) ∧ s6 = .string (bs b) ∧ s7 = .int .i64 er ∧ Hid (Fr (fun _ => False) w wx))
 case first =>
  go_region_held3 (fun w' => w'.cell? ⟨lp, 0, none⟩ = some (.pointer (some ⟨pb, 0, none⟩)) ∧ w'.cell? ⟨gs, pre.length * 3, none⟩ = some (.int .i64 (n : Int)) ∧ w'.cell? ⟨gs, pre.length * 3 + 1, none⟩ = some (.int .i64 0) ∧ w'.cell? ⟨gs, pre.length * 3 + 2, none⟩ = some (.int .i64 0))
   (first | go_keep | (with_reducible exact ⟨s0_fB, s1_fB, s2_fB, s3_fB⟩) | (with_reducible exact ⟨s0_fA, s1_fA, s2_fA, s3_fA⟩) | fail)
   (first
    | (go_at_call 101; (with_reducible refine Calls.mono (HN.out _ (HWA.out.env.grow (HF1.out.next (show Fr (fun _ => False) wc _ by repeat (first | exact Fr.refl _ _ | refine Fr.drew ?_ | refine Fr.alloc ?_ _)))) _ _) ?_); clear HN; rintro r wA ⟨rfl, hq⟩; have fA := (show Fr (fun _ => False) wc _ by repeat (first | exact Fr.refl _ _ | refine Fr.drew ?_ | refine Fr.alloc ?_ _)).next hq; have s0_fA := fA.cell m0 (fun h => h); have s1_fA := fA.cell y0 (fun h => h); have s2_fA := fA.cell y1 (fun h => h); have s3_fA := fA.cell y2 (fun h => h); clear hq)
    | (have tok := s0_fA; clear tok; go_at_call 72; (with_reducible refine Calls.mono (HRD.out _ (HF1.out.next (show Fr (fun _ => False) wc _ by repeat (first | exact fA | refine Fr.drew ?_)))) ?_); clear HRD; rintro r wB ⟨rfl, hq⟩; have fB := (show Fr (fun _ => False) wc _ by repeat (first | exact fA | refine Fr.drew ?_)).next hq; have s0_fB := fB.cell m0 (fun h => h); have s1_fB := fB.cell y0 (fun h => h); have s2_fB := fB.cell y1 (fun h => h); have s3_fB := fB.cell y2 (fun h => h); clear hq)
    | fail)
  all_goals
   go_wp2_with fail
   go_meet
   exact ⟨rfl, rfl, rfl, rfl, by first | exact HF1.out.next fB | exact HF1.out.next fB.drew⟩
 case rest =>
 obtain ⟨rfl, rfl, rfl, rfl, HF2⟩ := hcut
 clear m0 y0 y1 y2 HF1
 have HW2 := Lib.hid (HWA.out.plus0 (HWA.out.quiet HF2.out) HF2.out.size)
 have HFA := Lib.hid (HF2.out.mono (o2 := WAll S pb mb) fun _ _ h => h.elim)
 by_cases her : er = 0
 ·subst her
  have HSG := Lib.hid (show ∀ q, readS b = q → readSeg D st n last = (if q.2 = 0 then ((0, (foldS st q.1.1, (⟨n, q.1.2, topL q.1.1⟩ : SegD))), D) else if last = false then ((q.2, (foldS st q.1.1, ⟨n, q.1.2, topL q.1.1⟩)), D) else if (truncD D N q.1.2).1 ≠ 0 then (((truncD D N q.1.2).1, (foldS st q.1.1, ⟨n, q.1.2, topL q.1.1⟩)), (truncD D N q.1.2).2) else (((syncD (truncD D N q.1.2).2 N).1, (foldS st q.1.1, ⟨n, q.1.2, topL q.1.1⟩)), (syncD (truncD D N q.1.2).2 N).2)) from fun q hq => by
   unfold readSeg
   rw [HB.out, HNN.out]
   dsimp only
   rw [if_neg (by simp), hq])
  have HR0 : Hid (RdRel w S lp pb mb vs st pre n D b [] b ve wc) := ⟨rfl, by simp [recsL], HW2.out, HF2.out.mono fun _ _ h => h.elim, HOK.out, by show I64 0; exact ⟨by decide, by decide⟩⟩
  go_wp2_with fail
  go_step3
  go_wp2_with fail
  go_loopg [4] (b.length) (fun j v4 wr => ∃ (rs : List RecD) (rest : Str) (ve' : Value), v4 = .int .i64 0 ∧ rest.length ≤ j ∧ (recsL rs).length + rest.length = b.length ∧ (foldS st rs).ents.length * 9 + rest.length ≤ 8200000 ∧ Hid (RdRel w S lp pb mb vs st pre n D b rs rest ve' wr))
  case atStart => exact ⟨[], b, ve, rfl, Nat.le_refl _, by simp [recsL], by rw [foldS_nil]; omega, HR0.out⟩
  case round =>
   obtain ⟨rs, rest, ve', rfl, hlj, hsum, hcnt, HK⟩ := hrel
   clear HR0
   have hrs : (bs rest).size = rest.length := rfl
   obtain ⟨cc, hcc⟩ : ∃ cc, (recsL rs).length = cc := ⟨_, rfl⟩
   rw [hcc] at hsum
   have hlog := HK.out.wal.log
   rw [HVS.out, hcc] at hlog
   have hnl2 : (pre ++ [(⟨n, cc, topL rs⟩ : SegD)]).length = pre.length + 1 := by simp
   rw [← hnl2] at hlog
   obtain ⟨z0, z1, z2⟩ := hlog.segcell (i := pre.length) (s := ⟨n, cc, topL rs⟩) (by simp)
   have zf := ownsRow_free hlog.segr (pre.length * 3 + 1)
   have hdr : b.drop cc = rest := by
    have := HK.out.all
    rw [this, ← hcc, List.drop_left]
   have e6 := fun (W : World) => xslice_from (w := W) b (k := cc) (by omega) rfl
   rw [hdr] at e6
   have HCC := Lib.hid hcc
   have hccI : (cc : Int) ≤ (b.length : Int) := by omega
   have HLG := Lib.hid hlog
   clear hlog hdr hcc
   by_cases hre : rest = []
   ·-- all is read
    have hq : ¬ (cc : Int) < (b.length : Int) := by rw [hre, List.length_nil] at hsum; omega
    have hq2 : (cc : Int) = (b.length : Int) := by omega
    have hq3 : ((cc : Int) == (b.length : Int)) = true := by simpa using hq2
    have hE : readSeg D st n last = ((0, (foldS st rs, ⟨n, cc, topL rs⟩)), D) := by
     have h1 := HSG.out _ HK.out.read
     rw [hre, readS_nil] at h1
     dsimp only at h1
     rw [if_pos rfl, List.append_nil, Nat.add_zero, HCC.out] at h1
     exact h1
    have HE := Lib.hid hE
    clear hre hE hq3
    go_wp2_with fail
    try rw [Exit.noGoto_ret]
    go_ret
    have hw := HK.out.wal
    rw [HCC.out] at hw
    exact wread_post HE.out hw (HK.out.fr.mono fun _ _ h => .inl h)
   ·have hq : (cc : Int) < (b.length : Int) := by have := List.length_pos_iff.2 hre; omega
    have hqn : ¬ (cc : Int) = (b.length : Int) := by omega
    have hq3 : ((cc : Int) == (b.length : Int)) = false := by simpa using hqn
    cases hu : unframeL rest with
    | error e0 =>
     have HU := Lib.hid (unf_at (w := wr) (show rest.length ≤ 1000000 by omega) (unf_err hu))
     have hrd : readS rest = (([], 0), if e0 = 9 then 9 else 8) := readS_err hre hu
     have he0 : e0 = 8 ∨ e0 = 9 ∨ e0 = 10 := unframe_err hu
     have q0 : (e0 == 0) = false := by rcases he0 with rfl | rfl | rfl <;> rfl
     have q0n : ¬ e0 = 0 := by omega
     have hEq : readS b = ((rs, cc), if e0 = 9 then 9 else 8) := by rw [HK.out.read, hrd, List.append_nil, Nat.add_zero, HCC.out]
     have HEQ := Lib.hid hEq
     clear hu hrd hEq hre
     go_wp2_with fail
     refine Calls.mono HU.out ?_
     rintro e w5 ⟨rfl, hf5⟩
     have HK5 := Lib.hid (HK.out.wal.quiet hf5)
     have HF5 := Lib.hid (HK.out.fr.next (hf5.mono (o2 := S) fun _ _ h => h.elim))
     have HF5q := Lib.hid hf5
     have hsz5 := hf5.size
     cases last with
     | false =>
      have hE : readSeg D st n false = ((if e0 = 9 then 9 else 8, (foldS st rs, ⟨n, cc, topL rs⟩)), D) := by
       have h1 := HSG.out _ HEQ.out
       dsimp only at h1
       rw [if_neg (by split <;> omega), if_pos rfl] at h1
       exact h1
      have HE := Lib.hid hE
      clear hE hf5
      by_cases h9 : e0 = 9
      ·subst h9
       rw [if_pos rfl] at HE
       go_wp2_with fail
       go_ret
       have hw := HWA.out.plus HK5.out HK.out.fr hsz5
       rw [HCC.out] at hw
       exact wread_post HE.out hw (HF5.out.mono fun _ _ h => .inl h)
      ·have q9 : (e0 == 9) = false := by simpa using h9
       rw [if_neg h9] at HE
       go_wp2_with fail
       go_ret
       have hw := HWA.out.plus HK5.out HK.out.fr hsz5
       rw [HCC.out] at hw
       exact wread_post HE.out hw (HF5.out.mono fun _ _ h => .inl h)
     | true =>
      have hE : readSeg D st n true = if (truncD D N cc).1 ≠ 0 then (((truncD D N cc).1, (foldS st rs, ⟨n, cc, topL rs⟩)), (truncD D N cc).2) else (((syncD (truncD D N cc).2 N).1, (foldS st rs, ⟨n, cc, topL rs⟩)), (syncD (truncD D N cc).2 N).2) := by
       have h1 := HSG.out _ HEQ.out
       dsimp only at h1
       rw [if_neg (by split <;> omega), if_neg (by simp)] at h1
       exact h1
      have HE := Lib.hid hE
      have HTR := Lib.hid (fun (W : World) (hD : DiskAt W pb mb D) => trunc_h hD N (cc : Int))
      obtain ⟨p, hp⟩ : ∃ p, truncD D N cc = p := ⟨_, rfl⟩
      rw [hp] at HTR HE
      have m0 := hf5.cell (cell_of HK.out.wal.log.head (i := 0) (v := .pointer (some ⟨pb, 0, none⟩)) rfl) (fun h => h)
      have x0 := hf5.cell z0 (fun h => h)
      have x1 := hf5.cell z1 (fun h => h)
      have x2 := hf5.cell z2 (fun h => h)
      clear z0 z1 z2 zf hE hf5 hp
      have y0 := x0
      have y1 := x1
      have y2 := x2
      clear x0 x1 x2
      go_upto_region 15 with fail
      go_cut [11, 5] (fun s11 s5 wx => s11 = .int .i64 p.1 ∧ s5 = .pointer (some ⟨gs, pre.length * 3, none⟩) ∧ Hid (WalAt wx (Plus S w wr) lp pb mb ve' vs (foldS st rs) (pre ++ [⟨n, cc, topL rs⟩]) p.2 ∧ Fr (WAll S pb mb) w wx ∧ wr.heap.size ≤ wx.heap.size))
      case first =>
       go_region_held3 (fun w' => w'.cell? ⟨lp, 0, none⟩ = some (.pointer (some ⟨pb, 0, none⟩)) ∧ w'.cell? ⟨gs, pre.length * 3, none⟩ = some (.int .i64 (n : Int)) ∧ w'.cell? ⟨gs, pre.length * 3 + 1, none⟩ = some (.int .i64 (cc : Int)) ∧ w'.cell? ⟨gs, pre.length * 3 + 2, none⟩ = some (.int .i64 (topL rs)))
        (first | go_keep | (with_reducible exact ⟨s0_fB, s1_fB, s2_fB, s3_fB⟩) | (with_reducible exact ⟨s0_fA, s1_fA, s2_fA, s3_fA⟩) | fail)
        (first
         | (go_at_call 101; (with_reducible refine Calls.mono (HN.out _ (HK5.out.env.grow (show Fr (fun _ => False) w5 _ by repeat (first | exact Fr.refl _ _ | refine Fr.drew ?_ | refine Fr.alloc ?_ _))) _ _) ?_); rintro r wA ⟨rfl, hq⟩; have fA := (show Fr (fun _ => False) w5 _ by repeat (first | exact Fr.refl _ _ | refine Fr.drew ?_ | refine Fr.alloc ?_ _)).next hq; have s0_fA := fA.cell m0 (fun h => h); have s1_fA := fA.cell y0 (fun h => h); have s2_fA := fA.cell y1 (fun h => h); have s3_fA := fA.cell y2 (fun h => h); clear hq)
         | (have tok := s0_fA; clear tok; go_at_call 137; (with_reducible refine Calls.mono (HTR.out _ (HK5.out.disk.grow (show Fr (fun _ => False) w5 _ by repeat (first | exact fA | refine Fr.drew ?_)))) ?_); rintro r wB ⟨rfl, hD7, hq⟩; have fAA := (show Fr (fun _ => False) w5 _ by repeat (first | exact fA | refine Fr.drew ?_)); have fB := ((show Fr (fun _ => False) w5 _ by repeat (first | exact fA | refine Fr.drew ?_)).mono (o2 := Own pb mb) fun _ _ h => h.elim).next hq; have hfo := fun k (hk : Plus S w wr k) => HK5.out.far k hk; have s0_fB := fB.cell m0 (hfo _ HK5.out.log.slp); have s1_fB := fB.cell y0 (hfo _ (.inl hgS)); have s2_fB := fB.cell y1 (hfo _ (.inl hgS)); have s3_fB := fB.cell y2 (hfo _ (.inl hgS)); have HDB := Lib.hid hD7; have HFB := Lib.hid fB; clear hq hfo fAA hD7 fB)
         | fail)
       all_goals
        go_wp2_with fail
        go_meet
        have hwB := HK5.out.done HDB.out HFB.out
        rw [HCC.out] at hwB
        have hfw : Fr (WAll S pb mb) w wB := (HF5.out.mono (o2 := WAll S pb mb) fun _ _ h => .inl h).next (HFB.out.mono fun _ _ h => .inr h)
        have hzB := HFB.out.size
        exact ⟨rfl, rfl, by first | exact hwB | exact hwB.quiet (Fr.refl _ _).drew, by first | exact hfw | exact hfw.drew, by first | omega | (simp; omega)⟩
      case rest =>
      obtain ⟨rfl, rfl, hcc⟩ := hcut
      obtain ⟨hw6, hf6, hz6⟩ := hcc.out
      have HW6 := Lib.hid hw6
      have HF6 := Lib.hid hf6
      clear m0 y0 y1 y2 hcc hf6
      by_cases hp0 : p.1 = 0
      ·have r1 : (p.1 == 0) = true := by simpa using hp0
       have HE2 := Lib.hid (HE.out.trans (if_neg (by rw [hp0]; simp)))
       have HSY := Lib.hid (fun (W : World) (hD : DiskAt W pb mb p.2) => sync_h hD N)
       obtain ⟨p2, hp2⟩ : ∃ p2, syncD p.2 N = p2 := ⟨_, rfl⟩
       rw [hp2] at HSY HE2
       have hlog := hw6.log
       rw [HVS.out] at hlog
       have hnl3 : (pre ++ [(⟨n, cc, topL rs⟩ : SegD)]).length = pre.length + 1 := by simp
       rw [← hnl3] at hlog
       obtain ⟨y0, y1, y2⟩ := hlog.segcell (i := pre.length) (s := ⟨n, cc, topL rs⟩) (by simp)
       have m0 := cell_of hlog.head (i := 0) (v := .pointer (some ⟨pb, 0, none⟩)) rfl
       clear hw6 hlog hp2 hp0
       go_upto_region 18 with fail
       go_cut [4] (fun s4 wx => s4 = .int .i64 p2.1 ∧ Hid (WalAt wx (Plus S w wr) lp pb mb ve' vs (foldS st rs) (pre ++ [⟨n, cc, topL rs⟩]) p2.2 ∧ Fr (WAll S pb mb) w wx ∧ wr.heap.size ≤ wx.heap.size))
       case first =>
        go_region_held3 (fun w' => w'.cell? ⟨lp, 0, none⟩ = some (.pointer (some ⟨pb, 0, none⟩)) ∧ w'.cell? ⟨gs, pre.length * 3, none⟩ = some (.int .i64 (n : Int)) ∧ w'.cell? ⟨gs, pre.length * 3 + 1, none⟩ = some (.int .i64 (cc : Int)) ∧ w'.cell? ⟨gs, pre.length * 3 + 2, none⟩ = some (.int .i64 (topL rs)))
         (first | go_keep | (with_reducible exact ⟨s0_fB, s1_fB, s2_fB, s3_fB⟩) | (with_reducible exact ⟨s0_fA, s1_fA, s2_fA, s3_fA⟩) | fail)
         (first
          | (go_at_call 101; (with_reducible refine Calls.mono (HN.out _ (HW6.out.env.grow (show Fr (fun _ => False) wc _ by repeat (first | exact Fr.refl _ _ | refine Fr.drew ?_ | refine Fr.alloc ?_ _))) _ _) ?_); rintro r wA ⟨rfl, hq⟩; have fA := (show Fr (fun _ => False) wc _ by repeat (first | exact Fr.refl _ _ | refine Fr.drew ?_ | refine Fr.alloc ?_ _)).next hq; have s0_fA := fA.cell m0 (fun h => h); have s1_fA := fA.cell y0 (fun h => h); have s2_fA := fA.cell y1 (fun h => h); have s3_fA := fA.cell y2 (fun h => h); clear hq)
          | (have tok := s0_fA; clear tok; go_at_call 126; (with_reducible refine Calls.mono (HSY.out _ (HW6.out.disk.grow (show Fr (fun _ => False) wc _ by repeat (first | exact fA | refine Fr.drew ?_)))) ?_); rintro r wB ⟨rfl, hD7, hq⟩; have fB := ((show Fr (fun _ => False) wc _ by repeat (first | exact fA | refine Fr.drew ?_)).mono (o2 := Own pb mb) fun _ _ h => h.elim).next hq; have hfo := fun k (hk : Plus S w wr k) => HW6.out.far k hk; have s0_fB := fB.cell m0 (hfo _ HW6.out.log.slp); have s1_fB := fB.cell y0 (hfo _ (.inl hgS)); have s2_fB := fB.cell y1 (hfo _ (.inl hgS)); have s3_fB := fB.cell y2 (hfo _ (.inl hgS)); have HDB := Lib.hid hD7; have HFB := Lib.hid fB; clear hq hfo hD7 fB)
          | fail)
        all_goals
         go_wp2_with fail
         go_meet
         have hwB := HW6.out.done HDB.out HFB.out
         have hfw : Fr (WAll S pb mb) w wB := HF6.out.next (HFB.out.mono fun _ _ h => .inr h)
         have hzB := HFB.out.size
         exact ⟨rfl, by first | exact hwB | exact hwB.quiet (Fr.refl _ _).drew, by first | exact hfw | exact hfw.drew, by first | omega | (simp; omega)⟩
       case rest =>
       obtain ⟨rfl, hcc⟩ := hcut
       obtain ⟨hw7, hf7, hz7⟩ := hcc.out
       have HW7 := Lib.hid (HWA.out.plus hw7 HK.out.fr hz7)
       have HF7 := Lib.hid hf7
       clear hw7 hf7 hcc m0 y0 y1 y2
       go_wp2_with fail
       try rw [Exit.noGoto_ret]
       go_ret
       exact wread_post HE2.out HW7.out HF7.out
      ·have r1 : (p.1 == 0) = false := by simpa using hp0
       have HE2 := Lib.hid (HE.out.trans (if_pos hp0))
       have HW7 := Lib.hid (HWA.out.plus hw6 HK.out.fr hz6)
       clear hw6 hp0
       go_wp2_with fail
       try rw [Exit.noGoto_ret]
       go_ret
       exact wread_post HE2.out HW7.out HF6.out
    | ok q =>
     obtain ⟨t, m⟩ := q
     obtain ⟨h1, h2, h3, h4⟩ := unframe_back hu
     have htl : t.length ≤ 1000000 := by omega
     have HU := Lib.hid (unf_at (w := wr) (show rest.length ≤ 1000000 by omega) (unf_ok hu))
     have HTK := Lib.hid (fun (W : World) (hF : Fr (fun _ => False) wr W) => take_h (w := W) t htl (HK.out.wal.log.quiet hF) HK.out.ok.run (by omega) (by omega) HK.out.top)
     have HUF := Lib.hid hu
     have hm9 : 9 ≤ m ∨ recL t = none := by
      cases hr : recL t with
      | none => exact .inr rfl
      | some r => left; have := (rec_back hr).1; have := pay_pos r; have h7 : (payL r).length = t.length := (congrArg List.length (rec_back hr).1).symm; omega
     clear hu h1 h3
     cases hr : recL t with
     | none =>
      have hEq : readS b = ((rs, cc), 8) := by rw [HK.out.read, readS_bad HUF.out hr, List.append_nil, Nat.add_zero, HCC.out]
      have HEQ := Lib.hid hEq
      have HTN := Lib.hid (fun (W : World) (hF : Fr (fun _ => False) wr W) => (HTK.out W hF).mono (R' := fun e w' => e = .returned (.bool false) ∧ Fr (fun _ => False) W w') (by intro e w' hp; unfold TakePost at hp; rw [hr] at hp; exact hp))
      clear hEq hr HTK hm9 hre
      go_wp2_with fail
      refine Calls.mono HU.out ?_
      rintro e w4 ⟨rfl, hf4⟩
      go_wp2_with fail
      refine Calls.mono (HTN.out _ hf4) ?_
      rintro e w5 ⟨rfl, hf5b⟩
      have hf5 := hf4.next hf5b
      have HK5 := Lib.hid (HK.out.wal.quiet hf5)
      have HF5 := Lib.hid (HK.out.fr.next (hf5.mono (o2 := S) fun _ _ h => h.elim))
      have HF5q := Lib.hid hf5
      have hsz5 := hf5.size
      clear hf4 hf5b
      cases last with
      | false =>
       have hE : readSeg D st n false = ((8, (foldS st rs, ⟨n, cc, topL rs⟩)), D) := by
        have h1 := HSG.out _ HEQ.out
        dsimp only at h1
        rw [if_neg (by omega), if_pos rfl] at h1
        exact h1
       have HE := Lib.hid hE
       clear hE hf5
       go_wp2_with fail
       go_ret
       have hw := HWA.out.plus HK5.out HK.out.fr hsz5
       rw [HCC.out] at hw
       exact wread_post HE.out hw (HF5.out.mono fun _ _ h => .inl h)
      | true =>
       have hE : readSeg D st n true = if (truncD D N cc).1 ≠ 0 then (((truncD D N cc).1, (foldS st rs, ⟨n, cc, topL rs⟩)), (truncD D N cc).2) else (((syncD (truncD D N cc).2 N).1, (foldS st rs, ⟨n, cc, topL rs⟩)), (syncD (truncD D N cc).2 N).2) := by
        have h1 := HSG.out _ HEQ.out
        dsimp only at h1
        rw [if_neg (by omega), if_neg (by simp)] at h1
        exact h1
       have HE := Lib.hid hE
       have HTR := Lib.hid (fun (W : World) (hD : DiskAt W pb mb D) => trunc_h hD N (cc : Int))
       obtain ⟨p, hp⟩ : ∃ p, truncD D N cc = p := ⟨_, rfl⟩
       rw [hp] at HTR HE
       have m0 := hf5.cell (cell_of HK.out.wal.log.head (i := 0) (v := .pointer (some ⟨pb, 0, none⟩)) rfl) (fun h => h)
       have x0 := hf5.cell z0 (fun h => h)
       have x1 := hf5.cell z1 (fun h => h)
       have x2 := hf5.cell z2 (fun h => h)
       clear z0 z1 z2 zf hE hf5 hp
       have y0 := x0
       have y1 := x1
       have y2 := x2
       clear x0 x1 x2
       go_upto_region 15 with fail
       go_cut [11, 5] (fun s11 s5 wx => s11 = .int .i64 p.1 ∧ s5 = .pointer (some ⟨gs, pre.length * 3, none⟩) ∧ Hid (WalAt wx (Plus S w wr) lp pb mb ve' vs (foldS st rs) (pre ++ [⟨n, cc, topL rs⟩]) p.2 ∧ Fr (WAll S pb mb) w wx ∧ wr.heap.size ≤ wx.heap.size))
       case first =>
        go_region_held3 (fun w' => w'.cell? ⟨lp, 0, none⟩ = some (.pointer (some ⟨pb, 0, none⟩)) ∧ w'.cell? ⟨gs, pre.length * 3, none⟩ = some (.int .i64 (n : Int)) ∧ w'.cell? ⟨gs, pre.length * 3 + 1, none⟩ = some (.int .i64 (cc : Int)) ∧ w'.cell? ⟨gs, pre.length * 3 + 2, none⟩ = some (.int .i64 (topL rs)))
         (first | go_keep | (with_reducible exact ⟨s0_fB, s1_fB, s2_fB, s3_fB⟩) | (with_reducible exact ⟨s0_fA, s1_fA, s2_fA, s3_fA⟩) | fail)
         (first
          | (go_at_call 101; (with_reducible refine Calls.mono (HN.out _ (HK5.out.env.grow (show Fr (fun _ => False) w5 _ by repeat (first | exact Fr.refl _ _ | refine Fr.drew ?_ | refine Fr.alloc ?_ _))) _ _) ?_); rintro r wA ⟨rfl, hq⟩; have fA := (show Fr (fun _ => False) w5 _ by repeat (first | exact Fr.refl _ _ | refine Fr.drew ?_ | refine Fr.alloc ?_ _)).next hq; have s0_fA := fA.cell m0 (fun h => h); have s1_fA := fA.cell y0 (fun h => h); have s2_fA := fA.cell y1 (fun h => h); have s3_fA := fA.cell y2 (fun h => h); clear hq)
          | (have tok := s0_fA; clear tok; go_at_call 137; (with_reducible refine Calls.mono (HTR.out _ (HK5.out.disk.grow (show Fr (fun _ => False) w5 _ by repeat (first | exact fA | refine Fr.drew ?_)))) ?_); rintro r wB ⟨rfl, hD7, hq⟩; have fAA := (show Fr (fun _ => False) w5 _ by repeat (first | exact fA | refine Fr.drew ?_)); have fB := ((show Fr (fun _ => False) w5 _ by repeat (first | exact fA | refine Fr.drew ?_)).mono (o2 := Own pb mb) fun _ _ h => h.elim).next hq; have hfo := fun k (hk : Plus S w wr k) => HK5.out.far k hk; have s0_fB := fB.cell m0 (hfo _ HK5.out.log.slp); have s1_fB := fB.cell y0 (hfo _ (.inl hgS)); have s2_fB := fB.cell y1 (hfo _ (.inl hgS)); have s3_fB := fB.cell y2 (hfo _ (.inl hgS)); have HDB := Lib.hid hD7; have HFB := Lib.hid fB; clear hq hfo fAA hD7 fB)
          | fail)
        all_goals
         go_wp2_with fail
         go_meet
         have hwB := HK5.out.done HDB.out HFB.out
         rw [HCC.out] at hwB
         have hfw : Fr (WAll S pb mb) w wB := (HF5.out.mono (o2 := WAll S pb mb) fun _ _ h => .inl h).next (HFB.out.mono fun _ _ h => .inr h)
         have hzB := HFB.out.size
         exact ⟨rfl, rfl, by first | exact hwB | exact hwB.quiet (Fr.refl _ _).drew, by first | exact hfw | exact hfw.drew, by first | omega | (simp; omega)⟩
       case rest =>
       obtain ⟨rfl, rfl, hcc⟩ := hcut
       obtain ⟨hw6, hf6, hz6⟩ := hcc.out
       have HW6 := Lib.hid hw6
       have HF6 := Lib.hid hf6
       clear m0 y0 y1 y2 hcc hf6
       by_cases hp0 : p.1 = 0
       ·have r1 : (p.1 == 0) = true := by simpa using hp0
        have HE2 := Lib.hid (HE.out.trans (if_neg (by rw [hp0]; simp)))
        have HSY := Lib.hid (fun (W : World) (hD : DiskAt W pb mb p.2) => sync_h hD N)
        obtain ⟨p2, hp2⟩ : ∃ p2, syncD p.2 N = p2 := ⟨_, rfl⟩
        rw [hp2] at HSY HE2
        have hlog := hw6.log
        rw [HVS.out] at hlog
        have hnl3 : (pre ++ [(⟨n, cc, topL rs⟩ : SegD)]).length = pre.length + 1 := by simp
        rw [← hnl3] at hlog
        obtain ⟨y0, y1, y2⟩ := hlog.segcell (i := pre.length) (s := ⟨n, cc, topL rs⟩) (by simp)
        have m0 := cell_of hlog.head (i := 0) (v := .pointer (some ⟨pb, 0, none⟩)) rfl
        clear hw6 hlog hp2 hp0
        go_upto_region 18 with fail
        go_cut [4] (fun s4 wx => s4 = .int .i64 p2.1 ∧ Hid (WalAt wx (Plus S w wr) lp pb mb ve' vs (foldS st rs) (pre ++ [⟨n, cc, topL rs⟩]) p2.2 ∧ Fr (WAll S pb mb) w wx ∧ wr.heap.size ≤ wx.heap.size))
        case first =>
         go_region_held3 (fun w' => w'.cell? ⟨lp, 0, none⟩ = some (.pointer (some ⟨pb, 0, none⟩)) ∧ w'.cell? ⟨gs, pre.length * 3, none⟩ = some (.int .i64 (n : Int)) ∧ w'.cell? ⟨gs, pre.length * 3 + 1, none⟩ = some (.int .i64 (cc : Int)) ∧ w'.cell? ⟨gs, pre.length * 3 + 2, none⟩ = some (.int .i64 (topL rs)))
          (first | go_keep | (with_reducible exact ⟨s0_fB, s1_fB, s2_fB, s3_fB⟩) | (with_reducible exact ⟨s0_fA, s1_fA, s2_fA, s3_fA⟩) | fail)
          (first
           | (go_at_call 101; (with_reducible refine Calls.mono (HN.out _ (HW6.out.env.grow (show Fr (fun _ => False) wc _ by repeat (first | exact Fr.refl _ _ | refine Fr.drew ?_ | refine Fr.alloc ?_ _))) _ _) ?_); rintro r wA ⟨rfl, hq⟩; have fA := (show Fr (fun _ => False) wc _ by repeat (first | exact Fr.refl _ _ | refine Fr.drew ?_ | refine Fr.alloc ?_ _)).next hq; have s0_fA := fA.cell m0 (fun h => h); have s1_fA := fA.cell y0 (fun h => h); have s2_fA := fA.cell y1 (fun h => h); have s3_fA := fA.cell y2 (fun h => h); clear hq)
           | (have tok := s0_fA; clear tok; go_at_call 126; (with_reducible refine Calls.mono (HSY.out _ (HW6.out.disk.grow (show Fr (fun _ => False) wc _ by repeat (first | exact fA | refine Fr.drew ?_)))) ?_); rintro r wB ⟨rfl, hD7, hq⟩; have fB := ((show Fr (fun _ => False) wc _ by repeat (first | exact fA | refine Fr.drew ?_)).mono (o2 := Own pb mb) fun _ _ h => h.elim).next hq; have hfo := fun k (hk : Plus S w wr k) => HW6.out.far k hk; have s0_fB := fB.cell m0 (hfo _ HW6.out.log.slp); have s1_fB := fB.cell y0 (hfo _ (.inl hgS)); have s2_fB := fB.cell y1 (hfo _ (.inl hgS)); have s3_fB := fB.cell y2 (hfo _ (.inl hgS)); have HDB := Lib.hid hD7; have HFB := Lib.hid fB; clear hq hfo hD7 fB)
           | fail)
         all_goals
          go_wp2_with fail
          go_meet
          have hwB := HW6.out.done HDB.out HFB.out
          have hfw : Fr (WAll S pb mb) w wB := HF6.out.next (HFB.out.mono fun _ _ h => .inr h)
          have hzB := HFB.out.size
          exact ⟨rfl, by first | exact hwB | exact hwB.quiet (Fr.refl _ _).drew, by first | exact hfw | exact hfw.drew, by first | omega | (simp; omega)⟩
        case rest =>
        obtain ⟨rfl, hcc⟩ := hcut
        obtain ⟨hw7, hf7, hz7⟩ := hcc.out
        have HW7 := Lib.hid (HWA.out.plus hw7 HK.out.fr hz7)
        have HF7 := Lib.hid hf7
        clear hw7 hf7 hcc m0 y0 y1 y2
        go_wp2_with fail
        try rw [Exit.noGoto_ret]
        go_ret
        exact wread_post HE2.out HW7.out HF7.out
       ·have r1 : (p.1 == 0) = false := by simpa using hp0
        have HE2 := Lib.hid (HE.out.trans (if_pos hp0))
        have HW7 := Lib.hid (HWA.out.plus hw6 HK.out.fr hz6)
        clear hw6 hp0
        go_wp2_with fail
        try rw [Exit.noGoto_ret]
        go_ret
        exact wread_post HE2.out HW7.out HF6.out
     | some r =>
      have hm9' : 9 ≤ m := by rcases hm9 with h | h; exact h; rw [hr] at h; cases h
      have HTS := Lib.hid (fun (W : World) (hF : Fr (fun _ => False) wr W) => (HTK.out W hF).mono (R' := fun e w' => e = .returned (.bool true) ∧ (∃ ve2, LogAt w' (Plus (Plus S w wr) W w') lp (.pointer (some ⟨pb, 0, none⟩)) ve2 vs (stepS (foldS st rs) r) (pre ++ [{ (⟨n, (recsL rs).length, topL rs⟩ : SegD) with top := topR (topL rs) r }])) ∧ Fr (Plus S w wr) W w') (by intro e w' hp; unfold TakePost at hp; rw [hr] at hp; exact hp))
      have HRR := Lib.hid hr
      have H2 := Lib.hid h2
      clear hr HTK hm9 hre h2
      go_wp2_with fail
      refine Calls.mono HU.out ?_
      rintro e w4 ⟨rfl, hf4⟩
      have HF4 := Lib.hid hf4
      clear hf4
      go_wp2_with fail
      refine Calls.mono (HTS.out _ HF4.out) ?_
      rintro e w5 ⟨rfl, ⟨ve2, hl5⟩, hf5⟩
      have HW4 := HK.out.wal.quiet HF4.out
      have hw5 := HW4.logs hl5 hf5
      have hsz4 := HF4.out.size
      have hsz5 := hf5.size
      have hwrs := HK.out.fr.size
      have HWN := Lib.hid hw5
      have hfr5 : Fr S w w5 := (HK.out.fr.plus (HF4.out.mono fun _ _ h => h.elim)).trans hf5 (fun i hi => by rcases hi with hi | ⟨hi, _⟩; exact .inl hi; exact .inr hi)
      have HFR5 := Lib.hid hfr5
      have hlog5 := hw5.log
      rw [HVS.out, HCC.out] at hlog5
      have hnl5 : (pre ++ [(⟨n, cc, topR (topL rs) r⟩ : SegD)]).length = pre.length + 1 := by simp
      rw [← hnl5] at hlog5
      clear z0 z1 z2 zf hf5 hl5 hw5 hfr5 HW4
      obtain ⟨z0, z1, z2⟩ := hlog5.segcell (i := pre.length) (s := ⟨n, cc, topR (topL rs) r⟩) (by simp)
      have zf := ownsRow_free hlog5.segr (pre.length * 3 + 1)
      have HLG5 := Lib.hid hlog5
      have hgs5 : gs < w5.heap.size := by have := hlog5.segr.lt gs rfl; omega
      have hwc : IntKind.i64.wrap ((cc : Int) + (m : Int)) = ((cc + m : Nat) : Int) := by rw [IntWalk.i64_in _ (by omega)]; omega
      clear hlog5
      go_wp2_with fail
      go_roundg (rest.length - m)
      case measure => omega
      case rel =>
       refine ⟨rs ++ [r], rest.drop m, ve2, rfl, by rw [List.length_drop]; omega, ?_, ?_, ?_⟩
       ·have hrl : (recF r).length = m := by unfold recF; rw [frame_len, ← (rec_back HRR.out).1]; have := H2.out; omega
        have : recsL (rs ++ [r]) = recsL rs ++ recF r := by rw [recsL_app]; simp [recsL]
        rw [this, List.length_append, HCC.out, hrl, List.length_drop]; omega
       ·have : foldS st (rs ++ [r]) = stepS (foldS st rs) r := by rw [foldS_app]; rfl
        have h9 := stepS_len (foldS st rs) r
        rw [this, List.length_drop]; omega
       ·have hset := HLG5.out.setlast (j := 1) (v := .int .i64 ((cc : Int) + (m : Int))) (s2 := ⟨n, cc + m, topR (topL rs) r⟩) (by decide) (by simp [segC])
        have hnl6 : (pre ++ [(⟨n, cc + m, topR (topL rs) r⟩ : SegD)]).length = pre.length + 1 := by simp
        rw [hnl6, ← HVS.out] at hset
        have hfs : Fr (Plus (Plus S w wr) w4 w5) w5 (w5.setCell ⟨gs, pre.length * 3 + 1, none⟩ (.int .i64 ((cc : Int) + (m : Int)))) := (Fr.refl _ _).setCell (p := ⟨gs, pre.length * 3 + 1, none⟩) (.inl (.inl (.inl hgS))) _
        have hws := HWN.out.logs (hset.mono (fun k hk => .inl hk) (Plus.lt HWN.out.log.lt (by simp))) hfs
        refine HK.out.next HUF.out HRR.out ?_ (HFR5.out.setCell (p := ⟨gs, pre.length * 3 + 1, none⟩) (.inl hgS) _)
        rw [HCC.out]
        refine hws.mono (fun k hk => ?_) (Plus.lt HWA.out.log.lt (by simp; omega)) (fun k hk => ?_) (fun k hk => ?_)
        ·have hz : (w5.setCell ⟨gs, pre.length * 3 + 1, none⟩ (.int .i64 ((cc : Int) + (m : Int)))).heap.size = w5.heap.size := by simp
         rcases hk with ((hk | hk) | hk) | hk
         ·exact .inl hk
         ·exact .inr ⟨hk.1, by rw [hz]; omega⟩
         ·exact .inr ⟨by omega, by rw [hz]; omega⟩
         ·exact .inr ⟨by omega, hk.2⟩
        ·have ho := HWA.out.own_lt
         rcases hk with hk | ⟨hk, _⟩
         ·exact HWA.out.far k hk
         ·rintro (e | e) <;> omega
        ·have ho := HWA.out.own_lt
         rcases hk with hk | ⟨hk, _⟩
         ·exact HWA.out.low k hk
         ·have := HWA.out.dlow; omega
 ·have q1 : (er == 0) = false := by simpa using her
  have hE : readSeg D st n last = ((er, (st, ⟨n, 0, 0⟩)), D) := by unfold readSeg; rw [HB.out]; dsimp only; rw [if_pos her]
  have HE := Lib.hid hE
  clear her hE
  go_wp2_with fail
  try rw [Exit.noGoto_ret]
  go_ret
  exact wread_post HE.out HW2.out HFA.out
end Go.Proofs.YtgmghopcppniaaaGreatDoor

/- Clone, ContainsFunc, Contains as wal uses them; Hard, Entries: walked. -/
namespace Go.Proofs.YtgmghopcppniaaaGreatDoor
open Go.RowKit Go.Lib

def CloneE (l : List EntD) (w : World) (e : Ending) (w' : World) : Prop := ∃ v', e = .returned v' ∧ w'.ownsRow w.heap.size 95 4 v' l.length (entsC l) ∧ Fr (fun _ => False) w w'
def CloneS (l : List SegD) (w : World) (e : Ending) (w' : World) : Prop := ∃ v', e = .returned v' ∧ w'.ownsRow w.heap.size 143 3 v' l.length (segsC l) ∧ Fr (fun _ => False) w w'
set_option maxRecDepth 100000 in
set_option maxHeartbeats 4000000 in
theorem cloneE_h {w : World} {S : Nat → Prop} {v : Value} {l : List EntD} (hv : SRow w S 4 v l.length (entsC l)) (hl : l.length ≤ 10000000) : Calls Tryz.prog 94 #[v] w (CloneE l w) := by
 obtain ⟨_, a, cap, rfl, hnc, hcm, hnone, _⟩ := id hv
 obtain ⟨i0, hi0, hz0, hz1, hz2⟩ := info_parts info95
 cases a with
 | none =>
  have hc0 := hnone rfl
  have hl0 : l = [] := List.eq_nil_of_length_eq_zero (by omega)
  subst hl0 hc0
  have hq : ∀ w : World, (binOp .eql 63 (.slice none 0 0) (.slice none 0 0)).run Tryz.prog w = .ok (.bool true) w := fun w => run_eql_nil_slice w 63 95 none 0 0 0 0 (by kernel_rfl)
  show Calls Tryz.prog 94 #[.slice none 0 0] w _
  clear hv hnone hnc hcm
  go_enter Tryz.func94, Tryz.ntmps94
  go_wp2_with fail
  go_ret
  exact ⟨_, rfl, World.ownsRow_nil _ _ _ _, Fr.refl _ _⟩
 | some p =>
  have hq : ∀ w : World, (binOp .eql 63 (.slice (some p) l.length cap) (.slice none 0 0)).run Tryz.prog w = .ok (.bool false) w := fun w => Lib.run_eql_slice_nil w 63 95 (some p) l.length cap 0 0 (by kernel_rfl)
  have HV := Lib.hid hv
  have HA : Hid (Fr (fun _ => False) w (w.alloc (.cells #[] 95))) := (Fr.refl _ _).alloc _
  have H0 : Hid ((w.alloc (.cells #[] 95)).ownsRow w.heap.size 95 4 (.slice (some ⟨w.heap.size, 0, none⟩) 0 0) 0 []) := ownsRow_empty (block_new _ _) (Nat.le_refl _)
  clear hv hnone
  go_enter Tryz.func94, Tryz.ntmps94
  go_wp2_with (at_builtin; refine wpList_append_row rfl (.tmp 5) (.tmp 6) 63 rfl w.heap.size 95 i0 (.agg #[.int .i64 0, .int .i64 0, .int .i64 0, .string ⟨#[]⟩]) 4 40 Tryz.underlying63 hi0 hz0 hz1 hz2 rfl (by decide) (.slice (some ⟨w.heap.size, 0, none⟩) 0 0) 0 [] rfl H0.out S _ l.length (entsC l) rfl (HV.out.fr HA.out fun _ _ h => h) ents_one (by unfold maxLen; omega) (by omega) (by simp) ?_; intro b7 cap7 w7 hown7 hgrow7 hf7; simp only [Nat.zero_add, List.nil_append] at hown7; have HR := Lib.hid hown7; have HF := Lib.hid (show Fr (fun _ => False) w w7 from HA.out.trans hf7 (fun k hk => .inr hk)); clear hown7 hgrow7 hf7)
  go_wp2_with fail
  go_ret
  exact ⟨_, rfl, by simpa using HR.out, HF.out⟩
set_option maxRecDepth 100000 in
set_option maxHeartbeats 4000000 in
theorem cloneS_h {w : World} {S : Nat → Prop} {v : Value} {l : List SegD} (hv : SRow w S 3 v l.length (segsC l)) (hl : l.length ≤ 10000000) : Calls Tryz.prog 103 #[v] w (CloneS l w) := by
 obtain ⟨_, a, cap, rfl, hnc, hcm, hnone, _⟩ := id hv
 obtain ⟨i0, hi0, hz0, hz1, hz2⟩ := info_parts info143
 cases a with
 | none =>
  have hc0 := hnone rfl
  have hl0 : l = [] := List.eq_nil_of_length_eq_zero (by omega)
  subst hl0 hc0
  have hq : ∀ w : World, (binOp .eql 138 (.slice none 0 0) (.slice none 0 0)).run Tryz.prog w = .ok (.bool true) w := fun w => run_eql_nil_slice w 138 143 none 0 0 0 0 (by kernel_rfl)
  show Calls Tryz.prog 103 #[.slice none 0 0] w _
  clear hv hnone hnc hcm
  go_enter Tryz.func103, Tryz.ntmps103
  go_wp2_with fail
  go_ret
  exact ⟨_, rfl, World.ownsRow_nil _ _ _ _, Fr.refl _ _⟩
 | some p =>
  have hq : ∀ w : World, (binOp .eql 138 (.slice (some p) l.length cap) (.slice none 0 0)).run Tryz.prog w = .ok (.bool false) w := fun w => Lib.run_eql_slice_nil w 138 143 (some p) l.length cap 0 0 (by kernel_rfl)
  have HV := Lib.hid hv
  have HA : Hid (Fr (fun _ => False) w (w.alloc (.cells #[] 143))) := (Fr.refl _ _).alloc _
  have H0 : Hid ((w.alloc (.cells #[] 143)).ownsRow w.heap.size 143 3 (.slice (some ⟨w.heap.size, 0, none⟩) 0 0) 0 []) := ownsRow_empty (block_new _ _) (Nat.le_refl _)
  clear hv hnone
  go_enter Tryz.func103, Tryz.ntmps103
  go_wp2_with (at_builtin; refine wpList_append_row rfl (.tmp 5) (.tmp 6) 138 rfl w.heap.size 143 i0 (.agg #[.int .i64 0, .int .i64 0, .int .i64 0]) 3 24 Tryz.underlying138 hi0 hz0 hz1 hz2 rfl (by decide) (.slice (some ⟨w.heap.size, 0, none⟩) 0 0) 0 [] rfl H0.out S _ l.length (segsC l) rfl (HV.out.fr HA.out fun _ _ h => h) segs_one (by unfold maxLen; omega) (by omega) (by simp) ?_; intro b7 cap7 w7 hown7 hgrow7 hf7; simp only [Nat.zero_add, List.nil_append] at hown7; have HR := Lib.hid hown7; have HF := Lib.hid (show Fr (fun _ => False) w w7 from HA.out.trans hf7 (fun k hk => .inr hk)); clear hown7 hgrow7 hf7)
  go_wp2_with fail
  go_ret
  exact ⟨_, rfl, by simpa using HR.out, HF.out⟩
/-- entries that are read -/
theorem ent_at {w : World} {S : Nat → Prop} {l : List EntD} {a : Option Addr} {cap : Nat} (h : SRow w S 4 (.slice a l.length cap) l.length (entsC l)) (hn : 0 < l.length) : ∃ g off, a = some ⟨g, off, none⟩ ∧ ∀ i e, l[i]? = some e →
  w.cell? ⟨g, off + i * 4, none⟩ = some (.int .i64 e.index) ∧ w.cell? ⟨g, off + i * 4 + 1, none⟩ = some (.int .i64 e.term) ∧ w.cell? ⟨g, off + i * 4 + 2, none⟩ = some (.int .i64 e.kind) ∧ w.cell? ⟨g, off + i * 4 + 3, none⟩ = some (.string (bs e.data)) := by
 obtain ⟨g, off, ha, hc⟩ := SRow.cell h hn
 refine ⟨g, off, ha, fun i e hi => ?_⟩
 have key : ∀ j v, j < 4 → (entC e)[j]? = some v → w.cell? ⟨g, off + (i * 4 + j), none⟩ = some v := fun j v hj hv => hc (i * 4 + j) v ((flat_get (f := entC) (c := 4) (fun _ => rfl) _ i j e hi hj).trans hv)
 exact ⟨key 0 _ (by decide) rfl, key 1 _ (by decide) rfl, key 2 _ (by decide) rfl, key 3 _ (by decide) rfl⟩
theorem wrong_h {w : World} {e : EntD} {b : Bool} (hb : (!rightE e) = b) : Calls Tryz.prog 105 #[.agg #[.int .i64 e.index, .int .i64 e.term, .int .i64 e.kind, .string (bs e.data)]] w fun r w' => r = .returned (.bool b) ∧ Fr (fun _ => False) w w' := by
 obtain ⟨w1, hw1⟩ : ∃ w1, w1 = w.alloc (.cells #[.int .i64 e.index, .int .i64 e.term, .int .i64 e.kind, .string (bs e.data)] 95) := ⟨_, rfl⟩
 have HF1 : Hid (Fr (fun _ => False) w w1) := by show Fr _ _ _; rw [hw1]; exact (Fr.refl _ _).alloc _
 have hbk : w1.heap[w.heap.size]? = some (.cells #[.int .i64 e.index, .int .i64 e.term, .int .i64 e.kind, .string (bs e.data)] 95 (0, 0)) := by rw [hw1]; exact block_new _ _
 have x0 := cell_of hbk (i := 0) (v := .int .i64 e.index) rfl
 have x1 := cell_of hbk (i := 1) (v := .int .i64 e.term) rfl
 have x2 := cell_of hbk (i := 2) (v := .int .i64 e.kind) rfl
 have x3 := cell_of hbk (i := 3) (v := .string (bs e.data)) rfl
 have HW := Lib.hid (wright_h (w := w1) e)
 unfold entV at HW
 have HB := Lib.hid hb
 obtain ⟨c, hc⟩ : ∃ c, rightE e = c := ⟨_, rfl⟩
 rw [hc] at HW HB
 clear hbk hb hc
 go_enter Tryz.func105, Tryz.ntmps105
 go_upto_region 1 with fail
 rw [← hw1]
 clear hw1
 go_wp2_with fail
 refine Calls.mono HW.out ?_
 rintro r w2 ⟨rfl, hf⟩
 have HF2 := Lib.hid (HF1.out.next hf)
 clear hf
 go_wp2_with fail
 go_ret
 exact ⟨by rw [← HB.out] <;> rfl, HF2.out⟩
set_option maxRecDepth 100000 in
set_option maxHeartbeats 4000000 in
theorem indexf_h {w : World} {S : Nat → Prop} {a : Option Addr} {cap : Nat} {l : List EntD} (hv : SRow w S 4 (.slice a l.length cap) l.length (entsC l)) (hl : l.length ≤ 10000000) (_hS : ∀ k, S k → k < w.heap.size) :
  Calls Tryz.prog 144 #[.slice a l.length cap, .func (.func 105) #[] #[]] w fun r w' => (∃ z : Int, r = .returned (.int .i64 z) ∧ (0 ≤ z ↔ l.all rightE = false)) ∧ Fr (fun _ => False) w w' := by
 have HV := Lib.hid hv
 clear hv _hS
 go_enter Tryz.func144, Tryz.ntmps144
 go_wp2_with fail
 go_loopg [8] (l.length) (fun j v8 wr => ∃ i : Nat, i + j = l.length ∧ v8 = .int .i64 (i : Int) ∧ Hid ((l.take i).all rightE = true) ∧ Hid (Fr (fun _ => False) w wr))
 case atStart => exact ⟨0, by omega, rfl, by show _ = _; simp, Fr.refl _ _⟩
 case round =>
  obtain ⟨i, hi, rfl, HA, HF⟩ := hrel
  have HX := Lib.hid hi
  clear hi
  by_cases hlt : i < l.length
  ·have hli : (i : Int) < (l.length : Int) := by omega
   obtain ⟨e, he⟩ : ∃ e, l[i]? = some e := ⟨_, List.getElem?_eq_getElem hlt⟩
   obtain ⟨g, off, rfl, hc⟩ := ent_at (HV.out.fr HF.out fun _ _ h => h) (by omega)
   obtain ⟨c0, c1, c2, c3⟩ := hc i e he
   obtain ⟨b, hb⟩ : ∃ b, (!rightE e) = b := ⟨_, rfl⟩
   have HW := Lib.hid (fun (W : World) => wrong_h (w := W) hb)
   have HE := Lib.hid he
   have HB := Lib.hid hb
   clear hc he hb
   go_wp2_with fail
   refine Calls.mono (HW.out _) ?_
   rintro r w2 ⟨rfl, hf⟩
   have HF2 := Lib.hid (HF.out.next hf)
   clear hf
   cases b with
   | true =>
    go_wp2_with fail
    go_ret
    refine ⟨⟨_, rfl, ⟨fun _ => ?_, fun _ => by omega⟩⟩, HF2.out⟩
    refine Bool.eq_false_iff.2 fun h => ?_
    have := List.all_eq_true.1 h e (List.mem_of_getElem? HE.out)
    have h2 := HB.out
    rw [this] at h2; cases h2
   | false =>
    have HN : Hid ((l.take (i + 1)).all rightE = true) := by
     show _ = _
     rw [List.take_add_one, HE.out, List.all_append, HA.out]
     have h2 := HB.out
     cases hr : rightE e with
     | true => simp [hr]
     | false => rw [hr] at h2; cases h2
    go_wp2_with fail
    go_roundg (l.length - (i + 1))
    case measure => have := HX.out; omega
    case rel => exact ⟨i + 1, by omega, by go_num, HN.out, HF2.out⟩
  ·obtain rfl : i = l.length := by have := HX.out; omega
   have HN := Lib.hid (show l.all rightE = true by have := HA.out; rwa [List.take_length] at this)
   go_wp2_with fail
   go_ret
   exact ⟨⟨-1, rfl, ⟨fun h => absurd h (by decide), fun h => by rw [HN.out] at h; cases h⟩⟩, HF.out⟩
theorem containsf_h {w : World} {S : Nat → Prop} {a : Option Addr} {cap : Nat} {l : List EntD} {b : Bool} (hv : SRow w S 4 (.slice a l.length cap) l.length (entsC l)) (hl : l.length ≤ 10000000) (hS : ∀ k, S k → k < w.heap.size) (hb : (!l.all rightE) = b) :
  Calls Tryz.prog 104 #[.slice a l.length cap, .func (.func 105) #[] #[]] w fun r w' => r = .returned (.bool b) ∧ Fr (fun _ => False) w w' := by
 have HI := Lib.hid (indexf_h hv hl hS)
 have HB := Lib.hid hb
 clear hv hb hS
 go_enter Tryz.func104, Tryz.ntmps104
 go_wp2_with fail
 refine Calls.mono HI.out ?_
 rintro r w2 ⟨⟨z, rfl, hz⟩, hf⟩
 have HF := Lib.hid hf
 have HZ := Lib.hid hz
 clear hf hz
 by_cases h0 : 0 ≤ z
 ·have d0 : decide (0 ≤ z) = true := decide_eq_true h0
  have HE := Lib.hid (HZ.out.1 h0)
  clear h0
  go_wp2_with fail
  go_ret
  exact ⟨by rw [← HB.out, HE.out] <;> rfl, HF.out⟩
 ·have d0 : decide (0 ≤ z) = false := decide_eq_false h0
  have HE : Hid (l.all rightE = true) := by
   show _ = _
   cases h : l.all rightE with
   | true => rfl
   | false => exact absurd (HZ.out.2 h) h0
  go_wp2_with fail
  go_ret
  exact ⟨by rw [← HB.out, HE.out] <;> rfl, HF.out⟩
set_option maxRecDepth 100000 in
set_option maxHeartbeats 4000000 in
theorem indexs_h {w : World} {S : Nat → Prop} {a : Option Addr} {cap : Nat} {l : List Str} {s : Str} (hv : SRow w S 1 (.slice a l.length cap) l.length (l.map encS)) (hl : l.length ≤ 10000000) :
  Calls Tryz.prog 190 #[.slice a l.length cap, .string (bs s)] w fun r w' => (∃ z : Int, r = .returned (.int .i64 z) ∧ (0 ≤ z ↔ s ∈ l)) ∧ w = w' := by
 have HV := Lib.hid hv
 clear hv
 go_enter Tryz.func190, Tryz.ntmps190
 go_wp2_with fail
 go_loopg [8] (l.length) (fun j v8 wr => ∃ i : Nat, i + j = l.length ∧ v8 = .int .i64 (i : Int) ∧ Hid (s ∉ l.take i) ∧ w = wr)
 case atStart => exact ⟨0, by omega, rfl, by show _ ∉ _; simp, rfl⟩
 case round =>
  obtain ⟨i, hi, rfl, HA, hw⟩ := hrel
  subst hw
  have HX := Lib.hid hi
  clear hi
  by_cases hlt : i < l.length
  ·have hli : (i : Int) < (l.length : Int) := by omega
   obtain ⟨e, he⟩ : ∃ e, l[i]? = some e := ⟨_, List.getElem?_eq_getElem hlt⟩
   obtain ⟨g, off, rfl, hc⟩ := HV.out.cell (by omega)
   have c0 := hc i (encS e) (by rw [List.getElem?_map, he]; rfl)
   unfold encS at c0
   have HE := Lib.hid he
   clear hc he
   by_cases hse : s = e
   ·have q1 : ((bs s).toList == (bs e).toList) = true := by rw [bs_toList, bs_toList, hse]; simp
    have q2 : decide (bs s = bs e) = true := by rw [hse]; simp
    have HS := Lib.hid hse
    clear hse
    go_wp2_with fail
    go_ret
    exact ⟨⟨_, rfl, ⟨fun _ => by rw [HS.out]; exact List.mem_of_getElem? HE.out, fun _ => by omega⟩⟩, rfl⟩
   ·have q1 : ((bs s).toList == (bs e).toList) = false := by rw [bs_toList, bs_toList]; exact beq_eq_false_iff_ne.2 hse
    have q2 : decide (bs s = bs e) = false := decide_eq_false fun h => hse (bs_inj h)
    have HN : Hid (s ∉ l.take (i + 1)) := by
     show _ ∉ _
     rw [List.take_add_one, HE.out]
     intro h
     rcases List.mem_append.1 h with h | h
     ·exact HA.out h
     ·simp at h; exact hse h
    clear hse
    go_wp2_with fail
    go_roundg (l.length - (i + 1))
    case measure => have := HX.out; omega
    case rel => exact ⟨i + 1, by omega, by go_num, HN.out, rfl⟩
  ·obtain rfl : i = l.length := by have := HX.out; omega
   have HN := Lib.hid (show s ∉ l by have := HA.out; rwa [List.take_length] at this)
   go_wp2_with fail
   go_ret
   exact ⟨⟨-1, rfl, ⟨fun h => absurd h (by decide), fun h => absurd h HN.out⟩⟩, rfl⟩
theorem containss_h {w : World} {S : Nat → Prop} {a : Option Addr} {cap : Nat} {l : List Str} {s : Str} {b : Bool} (hv : SRow w S 1 (.slice a l.length cap) l.length (l.map encS)) (hl : l.length ≤ 10000000) (hb : decide (s ∈ l) = b) :
  Calls Tryz.prog 146 #[.slice a l.length cap, .string (bs s)] w fun r w' => r = .returned (.bool b) ∧ w = w' := by
 have HI := Lib.hid (indexs_h (s := s) hv hl)
 have HB := Lib.hid hb
 clear hv hb
 go_enter Tryz.func146, Tryz.ntmps146
 go_wp2_with fail
 refine Calls.mono HI.out ?_
 rintro r w2 ⟨⟨z, rfl, hz⟩, hf⟩
 subst hf
 have HZ := Lib.hid hz
 clear hz
 by_cases h0 : 0 ≤ z
 ·have d0 : decide (0 ≤ z) = true := decide_eq_true h0
  have HE := Lib.hid (HZ.out.1 h0)
  clear h0
  go_wp2_with fail
  go_ret
  exact ⟨by rw [← HB.out, decide_eq_true HE.out] <;> rfl, rfl⟩
 ·have d0 : decide (0 ≤ z) = false := decide_eq_false h0
  have HE : Hid (s ∉ l) := fun h => h0 (HZ.out.2 h)
  go_wp2_with fail
  go_ret
  exact ⟨by rw [← HB.out, decide_eq_false HE.out] <;> rfl, rfl⟩
theorem entries_h {w : World} {S : Nat → Prop} {lp : Nat} {dv ve vs : Value} {st : StD} {segs : List SegD} (h : LogAt w S lp dv ve vs st segs) (hl : st.ents.length ≤ 10000000) : Calls Tryz.prog 39 #[.pointer (some ⟨lp, 0, none⟩)] w (CloneE st.ents w) := by
 have l3 := cell_of h.head (i := 3) (v := ve) rfl
 have HC := Lib.hid (cloneE_h (SRow.of_owns h.ents) hl)
 obtain ⟨a, c, hve⟩ : ∃ a c, ve = .slice a st.ents.length c := ownsRow_shape h.ents
 rw [hve] at l3 HC
 clear h hve
 go_enter Tryz.func39, Tryz.ntmps39
 go_wp2_with fail
 refine Calls.mono HC.out ?_
 rintro r w2 ⟨v', rfl, hr, hf⟩
 have HR := Lib.hid hr
 have HF := Lib.hid hf
 clear hr hf
 go_wp2_with fail
 go_ret
 exact ⟨v', rfl, HR.out, HF.out⟩
set_option maxRecDepth 100000 in
theorem hard_h {w : World} {S : Nat → Prop} {lp : Nat} {dv ve vs : Value} {st : StD} {segs : List SegD} (h : LogAt w S lp dv ve vs st segs) : Calls Tryz.prog 37 #[.pointer (some ⟨lp, 0, none⟩)] w fun r w' => r = .returned (.agg #[.int .i64 st.t, .int .i64 st.v]) ∧ Fr (fun _ => False) w w' := by
 obtain ⟨w1, hw1⟩ : ∃ w1, w1 = w.alloc (.cells #[.int .i64 0, .int .i64 0] 61) := ⟨_, rfl⟩
 have HF1 : Hid (Fr (fun _ => False) w w1) := by show Fr _ _ _; rw [hw1]; exact (Fr.refl _ _).alloc _
 have hbk : w1.heap[w.heap.size]? = some (.cells #[.int .i64 0, .int .i64 0] 61 (0, 0)) := by rw [hw1]; exact block_new _ _
 have hh := (h.quiet HF1.out).head
 have l1 := cell_of hh (i := 1) (v := .int .i64 st.t) rfl
 have l2 := cell_of hh (i := 2) (v := .int .i64 st.v) rfl
 have x0 := cell_of hbk (i := 0) (v := .int .i64 0) rfl
 have x1 := cell_of hbk (i := 1) (v := .int .i64 0) rfl
 have f0 := free_of 0 hbk
 have f1 := free_of 1 hbk
 have hwl := lt_of_block hbk
 have HB := Lib.hid hbk
 have hh1 := block_set hbk 0 (.int .i64 st.t)
 have f11 := free_of 1 hh1
 clear h hbk hh hh1
 go_enter Tryz.func37, Tryz.ntmps37
 go_upto_region 1 with fail
 rw [← hw1]
 clear hw1
 go_wp2_with fail
 have hz := block_set (block_set HB.out 0 (.int .i64 st.t)) 1 (.int .i64 st.v)
 have e0 := cell_of hz (i := 0) (v := .int .i64 st.t) rfl
 have e1 := cell_of hz (i := 1) (v := .int .i64 st.v) rfl
 refine bodyPost_ret (v := .agg #[.int .i64 st.t, .int .i64 st.v]) (by simp [results, Tryz.results37, go_sem, e0, e1] <;> rfl) rfl ?_
 exact ⟨rfl, (HF1.out.setCell (p := ⟨w.heap.size, 0, none⟩) (.inr (Nat.le_refl _)) _).setCell (p := ⟨w.heap.size, 1, none⟩) (.inr (Nat.le_refl _)) _⟩
end Go.Proofs.YtgmghopcppniaaaGreatDoor

/- wal's lay: walked. -/
namespace Go.Proofs.YtgmghopcppniaaaGreatDoor
open Go.RowKit Go.Lib

theorem frameOK_h {w : World} (s : Str) (hs : s.length ≤ 65536) : Calls Tryz.prog 67 #[.string (bs s)] w fun e w' => e = .returned (.tuple #[.string (bs (frameL s)), .int .i64 0]) ∧ Fr (fun _ => False) w w' := by
 refine (frame_h s (by omega)).mono ?_
 rintro e w' ⟨rfl, h⟩
 have : frameD s = (frameL s, 0) := by unfold frameD; rw [if_pos hs]
 exact ⟨by rw [this], h⟩
theorem winfo9 : (Tryz.prog.info? 9).map (fun i => (i.zero, i.size, i.bytes)) = some (some (.string ⟨#[]⟩), 1, 16) := by kernel_rfl
def paysC (rs : List RecD) : List Value := rs.map fun r => .string (bs (payL r))
/-- what lay leaves -/
def LayPost (st : StD) (pre : List SegD) (last : SegD) (D : DiskD) (rs : List RecD) (S : Nat → Prop) (lp pb mb : Nat) (ve vs : Value) (w : World) (e : Ending) (w' : World) : Prop :=
 e = .returned (.int .i64 (layL ⟨st, pre, last⟩ D rs).1) ∧ WalAt w' (Plus S w w') lp pb mb ve vs st (pre ++ [(layL ⟨st, pre, last⟩ D rs).2.1.last]) (layL ⟨st, pre, last⟩ D rs).2.2 ∧ Fr (WAll S pb mb) w w'
theorem lay_post {st : StD} {pre : List SegD} {last l2 : SegD} {D D2 : DiskD} {rs : List RecD} {S : Nat → Prop} {lp pb mb : Nat} {ve vs : Value} {er : Int} {w w' : World} (h : layL ⟨st, pre, last⟩ D rs = (er, (⟨st, pre, l2⟩, D2))) (hw : WalAt w' (Plus S w w') lp pb mb ve vs st (pre ++ [l2]) D2) (hf : Fr (WAll S pb mb) w w') :
  LayPost st pre last D rs S lp pb mb ve vs w (.returned (.int .i64 er)) w' := by
 unfold LayPost; rw [h]; exact ⟨rfl, hw, hf⟩
/-- while lay's text is built: what stood there stands, and the builder is the first new block -/
structure LayW (w0 : World) (l : Str) (W : World) : Prop where
 fr : Fr (fun _ => False) w0 W
 isB : Lib.IsBuilderF 108 5 w0.heap.size w0.heap.size (Lib.byteCells l) W
theorem LayW.quiet {w0 W W2 : World} {l : Str} (h : LayW w0 l W) (hf : Fr (fun _ => False) W W2) : LayW w0 l W2 := ⟨h.fr.next hf, isB_fr h.isB hf⟩
theorem LayW.drew {w0 W : World} {l : Str} (h : LayW w0 l W) : LayW w0 l W.drew := h.quiet (Fr.refl _ _).drew
theorem isB_fr2 {B b : Nat} {l : List Value} {w w' : World} {o : Nat → Prop} (h : Lib.IsBuilderF 108 5 B b l w) (hf : Fr o w w') (ho : ∀ k, B ≤ k → ¬ o k) : Lib.IsBuilderF 108 5 B b l w' := by
 have key : ∀ p, Lib.BuilderAtF 108 5 B b p l w → Lib.BuilderAtF 108 5 B b p l w' := by
  rintro p ⟨hB, v, hb, hown, hne⟩
  refine ⟨hB, v, hf.keep hb (ho b hB), ⟨hown.1, ?_⟩, hne⟩
  rcases hown.2 with h2 | ⟨g, cap, cur, fz, hv, hg, hh, r⟩
  ·exact .inl h2
  ·exact .inr ⟨g, cap, cur, fz, hv, hg, hf.keep hh (ho g hg), r⟩
 exact h.imp (key _) (key _)
theorem recsL_snoc {l : List RecD} {i : Nat} {r : RecD} (h : l[i]? = some r) : recsL (l.take (i + 1)) = recsL (l.take i) ++ frameL (payL r) := by
 obtain ⟨hi, he⟩ := List.getElem?_eq_some_iff.1 h
 rw [List.take_succ_eq_append_getElem hi, recsL_app, he]; simp [recsL, recF]
theorem recsL_take (l : List RecD) (i : Nat) : (recsL (l.take i)).length ≤ (recsL l).length := by
 have h2 : recsL l = recsL (l.take i) ++ recsL (l.drop i) := by rw [← recsL_app, List.take_append_drop]
 rw [h2, List.length_append]; omega
set_option linter.unusedSimpArgs false in
set_option maxRecDepth 100000 in
set_option maxHeartbeats 16000000 in
theorem lay_h {w : World} {S Q : Nat → Prop} {lp pb mb : Nat} {ve vs : Value} {st : StD} {pre : List SegD} {last : SegD} {D : DiskD} (h : WalAt w S lp pb mb ve vs st (pre ++ [last]) D) (hn0 : 0 < last.num) (hn1 : last.num < 1000000) (hz : last.size ≤ 1000000000) (hp : pre.length ≤ 1000)
  {t v : Int} (ht : I64 t) (hv : I64 v) (tell : Bool) {a : Option Addr} {cap : Nat} (ps : List RecD) (hr : SRow w Q 1 (.slice a ps.length cap) ps.length (paysC ps)) (hQ : ∀ k, Q k → k < w.heap.size ∧ ¬ Own pb mb k) (hl : ps.length ≤ 100000)
  {rs : List RecD} (hrs : layRs ⟨st, pre, last⟩ t v tell ps = rs) (hps : ∀ r ∈ rs, (payL r).length ≤ 65536) (hX : (recsL rs).length ≤ 1000000) :
  Calls Tryz.prog 84 #[.pointer (some ⟨lp, 0, none⟩), .agg #[.int .i64 t, .int .i64 v], .bool tell, .slice a ps.length cap] w (LayPost st pre last D rs S lp pb mb ve vs w) := by
 obtain ⟨i0, hi, hi0, hi1, hi2⟩ := info_parts winfo9
 have hnl : (pre ++ [last]).length = pre.length + 1 := by simp
 obtain ⟨gs, scap, hvs, hsc, hscm, hgl, hgS⟩ := h.log.segrow (by rw [hnl]; omega)
 rw [hnl] at hsc hvs
 have hscI : (pre.length : Int) + 1 ≤ scap := by omega
 have HWA := Lib.hid h
 have HVS := Lib.hid hvs
 have HQ := Lib.hid hQ
 have HR := Lib.hid hr
 have HT := Lib.hid (fun W : World => hardtext_h (w := W) ht hv)
 have hh := h.log.head
 have l0 := cell_of hh (i := 0) (v := .pointer (some ⟨pb, 0, none⟩)) rfl
 have l4 := cell_of hh (i := 4) (v := vs) rfl
 rw [hvs] at l4
 have hseg := h.log
 rw [hvs, ← hnl] at hseg
 obtain ⟨z0, z1, z2⟩ := hseg.segcell (i := pre.length) (s := last) (by simp)
 have HN := Lib.hid (fun (W : World) (hE : Env W) (x y : Value) => wname_h (w := W) hE hn0 hn1 (x := x) (y := y))
 obtain ⟨N, hN⟩ : ∃ N, nameW last.num = N := ⟨_, rfl⟩
 have hNl : N.length ≤ 1000000 := by rw [← hN]; unfold nameW; have := decHi_len 6 last.num (by omega); simp; omega
 rw [hN] at HN
 have HNN := Lib.hid hN
 have HRS := Lib.hid hrs
 have hrl : rs.length ≤ ps.length + 1 := by rw [← hrs]; unfold layRs; split <;> simp
 have HPS := Lib.hid hps
 clear h hh hseg hr hvs hQ hN hrs hps
 go_enter Tryz.func84, Tryz.ntmps84
 go_upto_region 1 with fail
 go_cut [5, 8, 9] (fun s5 s8 s9 wx => s5 = .pointer (some ⟨w.heap.size, 0, none⟩) ∧ s8 = .int .i64 0 ∧ s9 = .pointer (some ⟨gs, pre.length * 3, none⟩) ∧ Hid (Fr (fun _ => False) w wx ∧ wx.heap[w.heap.size]? = some (.cells #[.int .i64 t, .int .i64 v] 61 (0, 0))))
 case first =>
  have m0 := (Fr.alloc (Fr.refl (fun _ => False) w) (.cells #[.int .i64 t, .int .i64 v] 61)).cell l0 (fun h => h)
  have m4 := (Fr.alloc (Fr.refl (fun _ => False) w) (.cells #[.int .i64 t, .int .i64 v] 61)).cell l4 (fun h => h)
  go_big_quiet (fail)
  go_wp2_with fail
  go_meet
  exact ⟨rfl, rfl, rfl, ((Fr.refl _ _).alloc _).drewN _, by first | exact block_new _ _ | (simp <;> done)⟩
 case rest =>
 obtain ⟨rfl, rfl, rfl, hcc⟩ := hcut
 obtain ⟨hf1, hb1⟩ := hcc.out
 have HF1 := Lib.hid hf1
 have b0 := cell_of hb1 (i := 0) (v := .int .i64 t) rfl
 have b1 := cell_of hb1 (i := 1) (v := .int .i64 v) rfl
 have y1 := hf1.cell z1 (fun h => h)
 clear hcc hf1 hb1 l0 l4 z0 z1 z2
 go_upto_region 2 with fail
 go_cut [5, 8, 9, 34] (fun s5 s8 s9 s34 wx => s5 = .pointer (some ⟨w.heap.size, 0, none⟩) ∧ s8 = .int .i64 0 ∧ s9 = .pointer (some ⟨gs, pre.length * 3, none⟩) ∧ s34 = .bool (tell || ((last.size : Int) == 0)) ∧ wx = wc)
 case first =>
  cases tell with
  | true =>
   go_wp2_with fail
   go_meet
   exact ⟨rfl, rfl, rfl, rfl, rfl⟩
  | false =>
   cases hq0 : ((last.size : Int) == 0) with
   | true =>
    go_wp2_with fail
    go_meet
    exact ⟨rfl, rfl, rfl, by rw [hq0]; rfl, rfl⟩
   | false =>
    go_wp2_with fail
    go_meet
    exact ⟨rfl, rfl, rfl, by rw [hq0]; rfl, rfl⟩
 case rest =>
 obtain ⟨rfl, rfl, rfl, rfl, rfl⟩ := hcut
 go_upto_if 34 with fail
 go_cut [3, 8, 9] (fun s3 s8 s9 wx => (∃ a3 c3, s3 = .slice a3 rs.length c3 ∧ SRow wx (fun k => k < wx.heap.size ∧ ¬ Own pb mb k) 1 (.slice a3 rs.length c3) rs.length (paysC rs)) ∧ s8 = .int .i64 0 ∧ s9 = .pointer (some ⟨gs, pre.length * 3, none⟩) ∧ Hid (Fr (fun _ => False) w wx))
 case first =>
  by_cases hcond : tell = true ∨ last.size = 0
  ·have hrs : rs = .hard t v :: ps := by
    rw [← HRS.out]; exact if_pos hcond
   have hq0 : (tell || ((last.size : Int) == 0)) = true := by simpa using hcond
   rw [hq0]
   clear hcond
   have hlen : rs.length = 1 + ps.length := by rw [hrs, List.length_cons, Nat.add_comm]
   go_wp2_with fail
   refine Calls.mono (HT.out _) ?_
   rintro e w2 ⟨rfl, hf2⟩
   have HF2 := Lib.hid (HF1.out.next hf2)
   clear hf2
   go_wp2_with (at_builtin; refine wpList_append_row rfl _ _ 48 rfl w.heap.size 9 i0 (.string ⟨#[]⟩) 1 16 Tryz.underlying48 hi hi0 hi1 hi2 rfl (by decide) _ 1 [.string (bs (hardTx t v))] rfl ?own Q _ ps.length (paysC ps) rfl (HR.out.fr (HF2.out.alloc _) (fun _ _ h => h)) ?one ?c3 ?c4 ?c5 ?_)
   case own => exact ⟨rfl, .inr ⟨w2.heap.size, 1, #[.string (bs (hardTx t v))], rfl, HF2.out.size, block_new _ _, Nat.le_refl _, by decide, rfl, rfl⟩⟩
   case one => intro u hu; obtain ⟨r, _, rfl⟩ := List.mem_map.1 hu; rfl
   case c3 => unfold maxLen; omega
   case c4 => omega
   case c5 => have := HF2.out.size; simp; omega
   intro b3 c3 w3 hown3 hg3 _
   have hfr3 : Fr (fun _ => False) w w3 := (HF2.out.alloc (.cells #[.string (bs (hardTx t v))] 9)).grown hg3 fun k hk => .inr (by injection hk with hk; rw [← hk]; exact HF2.out.size)
   have HFR3 := Lib.hid hfr3
   have HOWN3 := Lib.hid hown3
   clear hown3 hg3 hfr3
   go_wp2_with fail
   go_meet
   have hpc : paysC rs = [.string (bs (hardTx t v))] ++ paysC ps := by rw [hrs]; rfl
   refine ⟨⟨b3, c3, by rw [hlen], ?_⟩, rfl, rfl, HFR3.out⟩
   rw [hlen, hpc]
   exact (SRow.of_owns HOWN3.out).mono fun k hk => by
    have h1 := HOWN3.out.lt k hk
    have h2 := HWA.out.own_lt
    exact ⟨h1.2, by rintro (e | e) <;> omega⟩
  ·have hrs : rs = ps := by
    rw [← HRS.out]; exact if_neg hcond
   have hq0 : (tell || ((last.size : Int) == 0)) = false := by simpa using hcond
   rw [hq0]
   clear hcond
   go_wp2_with fail
   go_meet
   refine ⟨⟨a, cap, by rw [hrs], ?_⟩, rfl, rfl, HF1.out⟩
   rw [hrs]
   exact (HR.out.fr HF1.out (fun _ _ h => h)).mono fun k hk => ⟨Nat.lt_of_lt_of_le (HQ.out k hk).1 HF1.out.size, (HQ.out k hk).2⟩
 case rest =>
 obtain ⟨⟨a3, c3, rfl, hrow⟩, rfl, rfl, HF3⟩ := hcut
 have HROW := Lib.hid hrow
 clear hrow y1 b0 b1 HF1 HR HQ HT HRS
 obtain ⟨w4, hw4⟩ : ∃ w4, w4 = wc.alloc (.cells #[.pointer none, .slice none 0 0] 108) := ⟨_, rfl⟩
 have HL4 : Hid (LayW wc [] w4) := by
  refine ⟨?_, ?_⟩
  ·rw [hw4]; exact (Fr.refl _ _).alloc _
  ·rw [hw4]; exact isB_new _ _ rfl
 go_wp2_with fail
 rw [← hw4]
 clear hw4
 go_loopg [42] (rs.length) (fun j v42 wr => ∃ i : Nat, i + j = rs.length ∧ v42 = .int .i64 (i : Int) ∧ Hid (LayW wc (recsL (rs.take i)) wr))
 case atStart => exact ⟨0, by omega, rfl, HL4.out⟩
 case round =>
  obtain ⟨i, hi2, rfl, HK⟩ := hrel
  have HI2 := Lib.hid hi2
  clear hi2 HL4
  by_cases hlt : i < rs.length
  ·obtain ⟨r, hr⟩ : ∃ r, rs[i]? = some r := ⟨_, List.getElem?_eq_getElem hlt⟩
   obtain ⟨g, off, rfl, hc⟩ := (HROW.out.fr HK.out.fr (fun _ _ h => h)).cell (by omega)
   have c0 := hc i _ (by unfold paysC; rw [List.getElem?_map, hr]; rfl)
   have hlti : (i : Int) < (rs.length : Int) := by omega
   have HSN := Lib.hid (recsL_snoc hr)
   have htk := recsL_take rs (i + 1)
   rw [HSN.out, List.length_append] at htk
   have HFM := Lib.hid (frameOK_h (w := wr) (payL r) (HPS.out r (List.mem_of_getElem? hr)))
   clear hc hr
   go_wp2_with fail
   refine Calls.mono HFM.out ?_
   rintro e w5 ⟨rfl, hf5⟩
   have HK5 := Lib.hid (HK.out.quiet hf5)
   have HPT := Lib.hid (bput HK5.out.isB (a := frameL (payL r)) (by omega) HK5.out.fr.size)
   clear hf5
   go_wp2_with fail
   refine Calls.mono HPT.out ?_
   rintro e w6 ⟨rfl, hi6, hb6, _⟩
   have HK6 : Hid (LayW wc (recsL (rs.take (i + 1))) w6) := ⟨HK5.out.fr.next' hb6, by rw [HSN.out]; exact hi6⟩
   clear hi6 hb6
   go_wp2_with fail
   go_roundg (rs.length - (i + 1))
   case measure => have := HI2.out; omega
   case rel => exact ⟨i + 1, by omega, by go_num, HK6.out⟩
  ·obtain rfl : i = rs.length := by have := HI2.out; omega
   rw [List.take_length] at HK
   have hlti : ¬ (rs.length : Int) < (rs.length : Int) := by omega
   have HW0 := Lib.hid (HWA.out.quiet HF3.out)
   have HF0 := Lib.hid HF3.out
   have hlog := HW0.out.log
   rw [HVS.out] at hlog
   have hnl2 : (pre ++ [last]).length = pre.length + 1 := by simp
   rw [← hnl2] at hlog
   obtain ⟨x0, x1, x2⟩ := hlog.segcell (i := pre.length) (s := last) (by simp)
   have n0 := cell_of hlog.head (i := 0) (v := .pointer (some ⟨pb, 0, none⟩)) rfl
   have m0 := HK.out.fr.cell n0 (fun h => h)
   have y0 := HK.out.fr.cell x0 (fun h => h)
   have y1 := HK.out.fr.cell x1 (fun h => h)
   have y2 := HK.out.fr.cell x2 (fun h => h)
   have HST := Lib.hid (fun (W : World) (hL : LayW wc (recsL rs) W) => (cstring_any_k wc.heap.size wc.heap.size (recsL rs) W hL.isB hL.fr.size).mono (R' := fun e w' => e = .returned (.string (bs (recsL rs))) ∧ LayW wc (recsL rs) w') (by rintro e w' ⟨rfl, h1, h2, _⟩; exact ⟨rfl, hL.fr.next' h2, h1⟩))
   have HAP := Lib.hid (fun (W : World) (hD : DiskAt W pb mb D) => append_h hD N (recsL rs) hNl hX)
   have HNN2 := Lib.hid HNN.out
   obtain ⟨pa, hpa⟩ : ∃ pa, appendD D N (recsL rs) = pa := ⟨_, rfl⟩
   rw [hpa] at HAP
   have HPA := Lib.hid hpa
   have HGS : Hid (∀ k, S k → ¬ Own pb mb k) := HWA.out.far
   have HIO := HWA.out.own_lt
   have hszF := HF3.out.size
   clear hlog hnl2 hpa
   go_upto_region 13 with fail
   go_cut [9, 10, 15] (fun s9 s10 s15 wx => s9 = .pointer (some ⟨gs, pre.length * 3, none⟩) ∧ s10 = .pointer (some ⟨wc.heap.size, 0, none⟩) ∧ s15 = .int .i64 pa.1 ∧ Hid (WalAt wx S lp pb mb ve vs st (pre ++ [last]) pa.2 ∧ Lib.IsBuilderF 108 5 wc.heap.size wc.heap.size (Lib.byteCells (recsL rs)) wx ∧ Fr (WAll S pb mb) w wx))
   case first =>
    go_region_held3 (fun w' => w'.cell? ⟨lp, 0, none⟩ = some (.pointer (some ⟨pb, 0, none⟩)) ∧ w'.cell? ⟨gs, pre.length * 3, none⟩ = some (.int .i64 (last.num : Int)) ∧ w'.cell? ⟨gs, pre.length * 3 + 1, none⟩ = some (.int .i64 (last.size : Int)) ∧ w'.cell? ⟨gs, pre.length * 3 + 2, none⟩ = some (.int .i64 last.top))
     (first | go_keep | (with_reducible exact ⟨s0_pB, s1_pB, s2_pB, s3_pB⟩) | (with_reducible exact ⟨s0_pA, s1_pA, s2_pA, s3_pA⟩) | (with_reducible exact ⟨s0_pS, s1_pS, s2_pS, s3_pS⟩) | fail)
     (first
      | (go_at_call 101; (with_reducible refine Calls.mono (HN.out _ (HW0.out.env.grow (show LayW wc (recsL rs) _ by repeat (first | exact HK.out | exact pA | exact pS | refine LayW.drew ?_)).fr) _ _) ?_); clear HN; rintro r wA ⟨rfl, hq⟩; have pA := (show LayW wc (recsL rs) _ by repeat (first | exact HK.out | exact pA | exact pS | refine LayW.drew ?_)).quiet hq; have s0_pA := pA.fr.cell n0 (fun h => h); have s1_pA := pA.fr.cell x0 (fun h => h); have s2_pA := pA.fr.cell x1 (fun h => h); have s3_pA := pA.fr.cell x2 (fun h => h); clear hq)
      | (go_at_call 62; (with_reducible refine Calls.mono (HST.out _ (show LayW wc (recsL rs) _ by repeat (first | exact HK.out | exact pA | exact pS | refine LayW.drew ?_))) ?_); clear HST; rintro r wS ⟨rfl, pS⟩; have s0_pS := pS.fr.cell n0 (fun h => h); have s1_pS := pS.fr.cell x0 (fun h => h); have s2_pS := pS.fr.cell x1 (fun h => h); have s3_pS := pS.fr.cell x2 (fun h => h))
      | (go_at_call 32; (with_reducible refine Calls.mono (HAP.out _ (HW0.out.disk.grow (show LayW wc (recsL rs) _ by repeat (first | exact HK.out | exact pA | exact pS | refine LayW.drew ?_)).fr)) ?_); clear HAP; rintro r wB ⟨rfl, hD7, hq⟩; have pX := (fun (W : World) (hL : LayW wc (recsL rs) W) (_ : Fr (Own pb mb) W wB) => hL) _ (show LayW wc (recsL rs) _ by repeat (first | exact HK.out | exact pA | exact pS | refine LayW.drew ?_)) hq; have fB := (pX.fr.mono (o2 := Own pb mb) fun _ _ h => h.elim).next hq; have s0_pB := fB.cell n0 (HGS.out _ HW0.out.log.slp); have s1_pB := fB.cell x0 (HGS.out _ hgS); have s2_pB := fB.cell x1 (HGS.out _ hgS); have s3_pB := fB.cell x2 (HGS.out _ hgS); have HIB := Lib.hid (isB_fr2 pX.isB hq (fun k hk => by have := hszF; rintro (e | e) <;> omega)); have HDB := Lib.hid hD7; have HFB := Lib.hid fB; clear hq hD7 fB pX)
      | fail)
    all_goals
     go_wp2_with fail
     go_meet
     have hwB := HW0.out.done HDB.out HFB.out
     have hfw : Fr (WAll S pb mb) w wB := (HF0.out.mono (o2 := WAll S pb mb) fun _ _ h => h.elim).next (HFB.out.mono fun _ _ h => .inr h)
     exact ⟨rfl, rfl, rfl, by first | exact hwB | exact hwB.quiet (Fr.refl _ _).drew, by first | exact HIB.out | exact isB_fr HIB.out (Fr.refl _ _).drew, by first | exact hfw | exact hfw.drew⟩
   case rest =>
   obtain ⟨rfl, rfl, rfl, hcc⟩ := hcut
   obtain ⟨hw5, hib5, hf5⟩ := hcc.out
   have HW5 := Lib.hid hw5
   have HIB5 := Lib.hid hib5
   have HF5 := Lib.hid hf5
   clear hcc hw5 hib5 hf5 m0 y0 y1 y2 n0 x0 x1 x2 HST HAP HK HW0 HF0
   by_cases hp0 : pa.1 = 0
   ·have r1 : (pa.1 == 0) = true := by simpa using hp0
    have HSY := Lib.hid (fun (W : World) (hD : DiskAt W pb mb pa.2) => sync_h hD N)
    obtain ⟨p2, hp2⟩ : ∃ p2, syncD pa.2 N = p2 := ⟨_, rfl⟩
    have HE : Hid (layL ⟨st, pre, last⟩ D rs = (p2.1, (⟨st, pre, ⟨last.num, last.size + (recsL rs).length, last.top⟩⟩, p2.2))) := by
     show layL _ _ _ = _
     unfold layL
     rw [HNN2.out, HPA.out, if_neg (by rw [hp0]; simp), hp2]; rfl
    rw [hp2] at HSY
    clear hp2 hp0
    have hlog := HW5.out.log
    rw [HVS.out] at hlog
    have hnl2 : (pre ++ [last]).length = pre.length + 1 := by simp
    rw [← hnl2] at hlog
    obtain ⟨x0, x1, x2⟩ := hlog.segcell (i := pre.length) (s := last) (by simp)
    have xf := ownsRow_free hlog.segr (pre.length * 3 + 1)
    have hgs := hlog.segr.lt gs rfl
    have HLOG := Lib.hid hlog
    have HCL := Lib.hid (fun (W : World) (hL : Fr (fun _ => False) wc W) => clen_h _ _ (recsL rs) W (isB_fr HIB5.out hL))
    clear hlog hnl2
    have hwz : IntKind.i64.wrap ((last.size : Int) + ((recsL rs).length : Int)) = ((last.size + (recsL rs).length : Nat) : Int) := by rw [IntWalk.i64_in _ (by omega)]; omega
    go_upto_region 16 with fail
    go_cut [9] (fun s9 wx => s9 = .pointer (some ⟨gs, pre.length * 3, none⟩) ∧ Hid (WalAt wx S lp pb mb ve vs st (pre ++ [⟨last.num, last.size + (recsL rs).length, last.top⟩]) pa.2 ∧ Fr (WAll S pb mb) w wx))
    case first =>
     refine wp_region_noPanic ?_
     refine region_Z (S := fun w' => w'.cell? ⟨gs, pre.length * 3 + 1, none⟩ = some (.int .i64 (last.size : Int))) (z := 8) (by kernel_rfl) ?_
     have hHeld : (fun w' : World => w'.cell? ⟨gs, pre.length * 3 + 1, none⟩ = some (.int .i64 (last.size : Int))) wc.drew := x1
     refine anyZ_take (i := 0) (v := ?v0) rfl (by kernel_rfl) (by kernel_rfl) (by kernel_rfl) (by kernel_rfl) (fun _ _ _ h => h) (Or.inl ⟨by rfl, ?hy0⟩) hHeld ?rest0
     case hy0 => intro w' hSw; (try dsimp only at hSw); go_simp; (try with_reducible rfl)
     simp only [Act.put, List.setIfInBounds_toArray, List.set_cons_zero, List.set_cons_succ]
     refine anyZ_take (i := 1) (v := ?v1) rfl (by kernel_rfl) (by kernel_rfl) (by kernel_rfl) (by kernel_rfl) (fun _ _ _ h => h) (Or.inl ⟨by rfl, ?hy1⟩) hHeld ?rest1
     case hy1 => intro w' hSw; (try dsimp only at hSw); go_simp; (try with_reducible rfl)
     simp only [Act.put, List.setIfInBounds_toArray, List.set_cons_zero, List.set_cons_succ]
     refine anyZ_take (i := 2) (v := ?v2) rfl (by kernel_rfl) (by kernel_rfl) (by kernel_rfl) (by kernel_rfl) (fun _ _ _ h => h) (Or.inl ⟨by rfl, ?hy2⟩) hHeld ?rest2
     case hy2 => intro w' hSw; (try dsimp only at hSw); go_simp; (try with_reducible rfl)
     simp only [Act.put, List.setIfInBounds_toArray, List.set_cons_zero, List.set_cons_succ]
     refine anyZ_take (i := 3) (v := ?v3) rfl (by kernel_rfl) (by kernel_rfl) (by kernel_rfl) (by kernel_rfl) (fun _ _ _ h => h) (Or.inl ⟨by rfl, ?hy3⟩) hHeld ?rest3
     case hy3 => intro w' hSw; (try dsimp only at hSw); go_simp; (try with_reducible rfl)
     simp only [Act.put, List.setIfInBounds_toArray, List.set_cons_zero, List.set_cons_succ]
     refine anyZ_one (i := 4) rfl (by kernel_rfl) (fun K1 hK1 => ?_)
     have HK4 := Lib.hid hK1
     clear hK1
     go_simp
     refine Calls.mono (HCL.out _ (Fr.refl _ _).drew) ?_
     rintro e w6 ⟨rfl, rfl⟩
     refine HK4.out.out _ _ (fun _ => hHeld) ?_
     clear HK4
     (try simp only [Act.put, List.setIfInBounds_toArray, List.set_cons_zero, List.set_cons_succ])
     refine anyZ_one (i := 5) rfl (by kernel_rfl) (fun K1 hK1 => ?_)
     have HK5 := Lib.hid hK1
     clear hK1
     go_simp
     refine HK5.out.out _ _ (fun _ => hHeld) ?_
     clear HK5
     (try simp only [Act.put, List.setIfInBounds_toArray, List.set_cons_zero, List.set_cons_succ])
     refine anyZ_one (i := 6) rfl (by kernel_rfl) (fun K1 hK1 => ?_)
     have HK6 := Lib.hid hK1
     clear hK1
     go_simp
     refine HK6.out.out _ _ (fun _ => hHeld) ?_
     clear HK6
     (try simp only [Act.put, List.setIfInBounds_toArray, List.set_cons_zero, List.set_cons_succ])
     refine anyZ_one (i := 7) rfl (by kernel_rfl) (fun K1 hK1 => ?_)
     have HK7 := Lib.hid hK1
     clear hK1
     go_simp
     refine HK7.out.out _ _ (fun _ => hHeld) ?_
     clear HK7
     (try simp only [Act.put, List.setIfInBounds_toArray, List.set_cons_zero, List.set_cons_succ])
     refine anyZ_one (i := 8) rfl (by kernel_rfl) (fun K1 hK1 => ?_)
     have HK8 := Lib.hid hK1
     clear hK1
     go_simp
     refine HK8.out.out _ _ (fun h => absurd rfl h) ?_
     clear HK8
     refine anyZ_done (by kernel_rfl) ?_ _
     refine NoPanic.normal ?_
     go_wp2_with fail
     go_meet
     refine ⟨rfl, ?_, ?_⟩
     ·have hset := (HLOG.out.quiet (Fr.refl _ _).drew).setlast (j := 1) (v := .int .i64 ((last.size + (recsL rs).length : Nat) : Int)) (s2 := ⟨last.num, last.size + (recsL rs).length, last.top⟩) (by decide) (by simp [segC])
      have hnl6 : (pre ++ [(⟨last.num, last.size + (recsL rs).length, last.top⟩ : SegD)]).length = pre.length + 1 := by simp
      rw [hnl6, ← HVS.out] at hset
      have hfs : Fr S wc.drew (wc.drew.setCell ⟨gs, pre.length * 3 + 1, none⟩ (.int .i64 ((last.size + (recsL rs).length : Nat) : Int))) := (Fr.refl _ _).setCell (p := ⟨gs, pre.length * 3 + 1, none⟩) (.inl hgS) _
      have h0 := HW5.out.quiet (Fr.refl _ _).drew
      exact ⟨hset, h0.disk.fr hfs (fun e => h0.far pb e (.inl rfl)) (fun e => h0.far mb e (.inr rfl)), h0.far, h0.env.fr hfs (fun k hk e => by have := h0.low k e; omega), h0.low, h0.dlow⟩
     ·exact HF5.out.drew.setCell (p := ⟨gs, pre.length * 3 + 1, none⟩) (.inl (.inl hgS)) _
    case rest =>
    obtain ⟨rfl, hcc⟩ := hcut
    obtain ⟨hw6, hf6⟩ := hcc.out
    have HW6 := Lib.hid hw6
    have HF6 := Lib.hid hf6
    clear hcc hw6 hf6 x0 x1 x2 xf hgs HLOG HCL
    have hlog := HW6.out.log
    rw [HVS.out] at hlog
    have hnl3 : (pre ++ [(⟨last.num, last.size + (recsL rs).length, last.top⟩ : SegD)]).length = pre.length + 1 := by simp
    rw [← hnl3] at hlog
    obtain ⟨y0, y1, y2⟩ := hlog.segcell (i := pre.length) (s := ⟨last.num, last.size + (recsL rs).length, last.top⟩) (by simp)
    have m0 := cell_of hlog.head (i := 0) (v := .pointer (some ⟨pb, 0, none⟩)) rfl
    clear hlog hnl3
    go_upto_region 17 with fail
    go_cut [8] (fun s8 wx => s8 = .int .i64 p2.1 ∧ Hid (WalAt wx S lp pb mb ve vs st (pre ++ [⟨last.num, last.size + (recsL rs).length, last.top⟩]) p2.2 ∧ Fr (WAll S pb mb) w wx))
    case first =>
     go_region_held3 (fun w' => w'.cell? ⟨lp, 0, none⟩ = some (.pointer (some ⟨pb, 0, none⟩)) ∧ w'.cell? ⟨gs, pre.length * 3, none⟩ = some (.int .i64 (last.num : Int)) ∧ w'.cell? ⟨gs, pre.length * 3 + 1, none⟩ = some (.int .i64 ((last.size + (recsL rs).length : Nat) : Int)) ∧ w'.cell? ⟨gs, pre.length * 3 + 2, none⟩ = some (.int .i64 last.top))
      (first | go_keep | (with_reducible exact ⟨s0_fB, s1_fB, s2_fB, s3_fB⟩) | (with_reducible exact ⟨s0_fA, s1_fA, s2_fA, s3_fA⟩) | fail)
      (first
       | (go_at_call 101; (with_reducible refine Calls.mono (HN.out _ (HW6.out.env.grow (show Fr (fun _ => False) wc _ by repeat (first | exact Fr.refl _ _ | refine Fr.drew ?_ | refine Fr.alloc ?_ _))) _ _) ?_); rintro r wA ⟨rfl, hq⟩; have fA := (show Fr (fun _ => False) wc _ by repeat (first | exact Fr.refl _ _ | refine Fr.drew ?_ | refine Fr.alloc ?_ _)).next hq; have s0_fA := fA.cell m0 (fun h => h); have s1_fA := fA.cell y0 (fun h => h); have s2_fA := fA.cell y1 (fun h => h); have s3_fA := fA.cell y2 (fun h => h); clear hq)
       | (have tok := s0_fA; clear tok; go_at_call 126; (with_reducible refine Calls.mono (HSY.out _ (HW6.out.disk.grow (show Fr (fun _ => False) wc _ by repeat (first | exact fA | refine Fr.drew ?_)))) ?_); rintro r wB ⟨rfl, hD7, hq⟩; have fB := ((show Fr (fun _ => False) wc _ by repeat (first | exact fA | refine Fr.drew ?_)).mono (o2 := Own pb mb) fun _ _ h => h.elim).next hq; have s0_fB := fB.cell m0 (HGS.out _ HW6.out.log.slp); have s1_fB := fB.cell y0 (HGS.out _ hgS); have s2_fB := fB.cell y1 (HGS.out _ hgS); have s3_fB := fB.cell y2 (HGS.out _ hgS); have HDB := Lib.hid hD7; have HFB := Lib.hid fB; clear hq hD7 fB)
       | fail)
     all_goals
      go_wp2_with fail
      go_meet
      have hwB := HW6.out.done HDB.out HFB.out
      have hfw : Fr (WAll S pb mb) w wB := HF6.out.next (HFB.out.mono fun _ _ h => .inr h)
      exact ⟨rfl, by first | exact hwB | exact hwB.quiet (Fr.refl _ _).drew, by first | exact hfw | exact hfw.drew⟩
    case rest =>
    obtain ⟨rfl, hcc⟩ := hcut
    obtain ⟨hw7, hf7⟩ := hcc.out
    have HW7 := Lib.hid (HWA.out.plus0 hw7 hf7.size)
    have HF7 := Lib.hid hf7
    clear hw7 hf7 hcc m0 y0 y1 y2
    go_wp2_with fail
    go_ret
    exact lay_post HE.out HW7.out HF7.out
   ·have r1 : (pa.1 == 0) = false := by simpa using hp0
    have HE : Hid (layL ⟨st, pre, last⟩ D rs = (pa.1, (⟨st, pre, last⟩, pa.2))) := by
     show layL _ _ _ = _
     unfold layL
     rw [HNN2.out, HPA.out, if_pos hp0]
    have HW7 := Lib.hid (HWA.out.plus0 HW5.out HF5.out.size)
    clear hp0
    go_wp2_with fail
    go_ret
    exact lay_post HE.out HW7.out HF5.out
end Go.Proofs.YtgmghopcppniaaaGreatDoor

/- wal's Segments, still, Cut: walked. -/
namespace Go.Proofs.YtgmghopcppniaaaGreatDoor
open Go.RowKit Go.Lib

def segNames (l : List SegD) : List Str := l.map fun s => nameW s.num
structure SNRel (w : World) (l : List SegD) (i : Nat) (v : Value) (wr : World) : Prop where
 row : wr.ownsRow w.heap.size 9 1 v i ((segNames (l.take i)).map encS)
 fr : Fr (fun _ => False) w wr
set_option maxRecDepth 100000 in
set_option maxHeartbeats 16000000 in
theorem segments_h {w : World} {S : Nat → Prop} {lp : Nat} {dv ve vs : Value} {st : StD} {segs : List SegD} (h : LogAt w S lp dv ve vs st segs) (hE : Env w) (hn : ∀ s ∈ segs, 0 < s.num ∧ s.num < 1000000) (hl : segs.length ≤ 100000) (h0 : 0 < segs.length) :
  Calls Tryz.prog 46 #[.pointer (some ⟨lp, 0, none⟩)] w (ListPost (segNames segs) w) := by
 obtain ⟨i0, hi, hi0, hi1, hi2⟩ := info_parts winfo9
 obtain ⟨gs, scap, rfl, hsc, hscm, hgl, hgS⟩ := h.segrow h0
 have l4 := cell_of h.head (i := 4) (v := .slice (some ⟨gs, 0, none⟩) segs.length scap) rfl
 have HH := Lib.hid h
 have HEE := Lib.hid hE
 have HN := Lib.hid hn
 have HR0 : Hid (SNRel w segs 0 (.slice none 0 0) w) := ⟨by simpa [segNames] using World.ownsRow_nil w _ _ _, Fr.refl _ _⟩
 clear h hE hn
 go_enter Tryz.func46, Tryz.ntmps46
 go_wp2_with fail
 go_loopg [3, 11] (segs.length) (fun j v3 v11 wr => ∃ i : Nat, i + j = segs.length ∧ v11 = .int .i64 (i : Int) ∧ Hid (SNRel w segs i v3 wr))
 case atStart => exact ⟨0, by omega, rfl, HR0.out⟩
 case round =>
  obtain ⟨i, hi3, rfl, HK⟩ := hrel
  have HI3 := Lib.hid hi3
  clear hi3 HR0
  obtain ⟨sa, sc, rfl⟩ : ∃ a c, u3 = .slice a i c := ownsRow_shape HK.out.row
  by_cases hlt : i < segs.length
  ·obtain ⟨s, hs⟩ : ∃ s, segs[i]? = some s := ⟨_, List.getElem?_eq_getElem hlt⟩
   have hlti : (i : Int) < (segs.length : Int) := by omega
   have hlog := HH.out.quiet HK.out.fr
   obtain ⟨z0, z1, z2⟩ := hlog.segcell hs
   have hsn := HN.out s (List.mem_of_getElem? hs)
   have HSN := Lib.hid hsn
   have HS := Lib.hid hs
   clear hlog hs hsn
   go_wp2_with fail
   refine Calls.mono (wname_h (HEE.out.grow (HK.out.fr.alloc _)) HSN.out.1 HSN.out.2) ?_
   rintro e w2 ⟨rfl, hf2⟩
   have HF2 : Hid (Fr (fun _ => False) wr w2) := ((Fr.refl _ _).alloc _).next hf2
   clear hf2
   have hown : w2.ownsRow w.heap.size 9 1 (.slice sa i sc) i ((segNames (segs.take i)).map encS) := ownsRow_keep HK.out.row fun k hk => HF2.out.block k (HK.out.row.lt k hk).2 (fun h => h)
   have HOWN := Lib.hid hown
   have hsz : w.heap.size ≤ w2.heap.size := Nat.le_trans HK.out.fr.size HF2.out.size
   clear hown
   go_wp2_with (at_builtin; refine wpList_append_shape rfl _ _ 48 rfl w.heap.size 9 i0 (.string ⟨#[]⟩) 1 16 Tryz.underlying48 hi hi0 hi1 hi2 rfl (by decide) _ _ _ rfl (HOWN.out.alloc _) ⟨w2.heap.size, 0, none⟩ 1 1 [.string (bs (nameW s.num))] rfl rfl ?c1 ?c2 ?c3 ?c4 ?c5 (by omega) ?_)
   case c1 =>
    intro j u hj
    match j, hj with
    | 0, hj => simp at hj; subst hj; simp [Addr.add] <;> exact cell_of (block_new w2 (.cells #[.string (bs (nameW s.num))] 9)) rfl
   case c2 => intro u hu; simp at hu; subst hu; rfl
   case c3 => unfold maxLen; omega
   case c4 => omega
   case c5 => simp; omega
   intro g cap w3 hown3 hg3 _
   have HR3 : Hid (SNRel w segs (i + 1) (.slice (some ⟨g, 0, none⟩) (i + 1) cap) w3) := by
    refine ⟨?_, ((HK.out.fr.next HF2.out).alloc (.cells #[.string (bs (nameW s.num))] 9)).grown hg3 fun k hk => .inr (HK.out.row.lt k hk).1⟩
    obtain ⟨hi4, he4⟩ := List.getElem?_eq_some_iff.1 HS.out
    have : (segNames (segs.take (i + 1))).map encS = (segNames (segs.take i)).map encS ++ [.string (bs (nameW s.num))] := by
     rw [List.take_succ_eq_append_getElem hi4, he4]; simp [segNames, encS]
    rw [this]; exact hown3
   clear hown3 hg3
   go_wp2_with fail
   go_roundg (segs.length - (i + 1))
   case measure => have := HI3.out; omega
   case rel => exact ⟨i + 1, by omega, by go_num, HR3⟩
  ·obtain rfl : i = segs.length := by have := HI3.out; omega
   have hlti : ¬ (segs.length : Int) < (segs.length : Int) := by omega
   go_wp2_with fail
   go_ret
   have hr := HK.out.row
   rw [List.take_length] at hr
   exact ⟨_, rfl, by unfold segNames at *; rw [List.length_map]; exact hr, HK.out.fr⟩
theorem mem_names {l : List FileD} {n : Str} : n ∈ names l ↔ (getF l n).isSome = true := by
 unfold names
 rw [List.mem_map]
 constructor
 ·rintro ⟨f, hf, hn⟩
  cases h : getF l n with
  | none => exact absurd hn (get_none.1 h f hf)
  | some g => rfl
 ·intro h
  obtain ⟨f, hf⟩ := Option.isSome_iff_exists.1 h
  exact ⟨f, (get_mem hf).1, (get_mem hf).2⟩
/-- still: the segments that are there -/
def StillPost (D : DiskD) (last : SegD) (vs wv : Value) (w : World) (e : Ending) (w' : World) : Prop := e = .returned (if (getF D.files (nameW last.num)).isSome = true then vs else wv) ∧ Fr (fun _ => False) w w'
set_option maxRecDepth 100000 in
set_option maxHeartbeats 16000000 in
theorem still_h {w : World} {S : Nat → Prop} {lp pb mb : Nat} {ve vs wv : Value} {st : StD} {pre : List SegD} {last : SegD} {D : DiskD} (h : WalAt w S lp pb mb ve vs st (pre ++ [last]) D) (hn0 : 0 < last.num) (hn1 : last.num < 1000000) (hp : pre.length ≤ 1000) :
  Calls Tryz.prog 108 #[.pointer (some ⟨lp, 0, none⟩), wv] w (StillPost D last vs wv w) := by
 have hnl : (pre ++ [last]).length = pre.length + 1 := by simp
 obtain ⟨gs, scap, rfl, hsc, hscm, hgl, hgS⟩ := h.log.segrow (by rw [hnl]; omega)
 rw [hnl] at hsc
 have hscI : (pre.length : Int) + 1 ≤ scap := by omega
 have HWA := Lib.hid h
 have hh := h.log.head
 have l0 := cell_of hh (i := 0) (v := .pointer (some ⟨pb, 0, none⟩)) rfl
 have l4 := cell_of hh (i := 4) (v := .slice (some ⟨gs, 0, none⟩) (pre.length + 1) scap) (by rw [hnl]; rfl)
 obtain ⟨z0, z1, z2⟩ := h.log.segcell (i := pre.length) (s := last) (by simp)
 have HN := Lib.hid (fun (W : World) (hE : Env W) (x y : Value) => wname_h (w := W) hE hn0 hn1 (x := x) (y := y))
 obtain ⟨N, hN⟩ : ∃ N, nameW last.num = N := ⟨_, rfl⟩
 obtain ⟨b, hb⟩ : ∃ b, decide (N ∈ names D.files) = b := ⟨_, rfl⟩
 have hnlen : (names D.files).length ≤ 10000000 := by have := h.disk.inv.many; unfold names; simp; omega
 have HCN := Lib.hid (fun (W : World) (Q : Nat → Prop) (a : Option Addr) (cap : Nat) (hv : SRow W Q 1 (.slice a (names D.files).length cap) (names D.files).length ((names D.files).map encS)) => containss_h hv hnlen hb)
 rw [hN] at HN
 have HB : Hid (∀ x y : Value, (if (getF D.files (nameW last.num)).isSome = true then x else y) = if b = true then x else y) := by
  intro x y
  rw [hN, ← hb]
  have hm := mem_names (l := D.files) (n := N)
  by_cases h1 : N ∈ names D.files
  ·rw [if_pos (hm.1 h1), decide_eq_true h1]; rfl
  ·rw [if_neg (fun h2 => h1 (hm.2 h2)), decide_eq_false h1]; rfl
 rw [hnl]
 have i0 : (0 : Int) ≤ (pre.length : Int) := by omega
 have i1 : (pre.length : Int) < ((pre.length + 1 : Nat) : Int) := by omega
 have i2 : (pre.length : Int) < (pre.length : Int) + 1 := by omega
 have i3 : IntKind.i64.wrap (pre.length : Int) = (pre.length : Int) := IntWalk.i64_in _ (by omega)
 have i4 : IntKind.i64.wrap (((pre.length + 1 : Nat) : Int) - 1) = (pre.length : Int) := by rw [IntWalk.i64_in _ (by omega)]; omega
 clear h hh hN hb
 go_enter Tryz.func108, Tryz.ntmps108
 go_upto_region 1 with fail
 go_cut [4, 23] (fun s4 s23 wx => s4 = .slice none 0 0 ∧ s23 = .bool b ∧ Hid (Fr (fun _ => False) w wx))
 case first =>
  go_region_held3 (fun w' => w'.cell? ⟨lp, 0, none⟩ = some (.pointer (some ⟨pb, 0, none⟩)) ∧ w'.cell? ⟨lp, 4, none⟩ = some (.slice (some ⟨gs, 0, none⟩) (pre.length + 1) scap) ∧ w'.cell? ⟨gs, pre.length * 3, none⟩ = some (.int .i64 (last.num : Int)) ∧ w'.cell? ⟨gs, pre.length * 3 + 1, none⟩ = some (.int .i64 (last.size : Int)) ∧ w'.cell? ⟨gs, pre.length * 3 + 2, none⟩ = some (.int .i64 last.top))
   (first | go_keep | (with_reducible exact ⟨s0_fL, s4_fL, s1_fL, s2_fL, s3_fL⟩) | (with_reducible exact ⟨s0_fA, s4_fA, s1_fA, s2_fA, s3_fA⟩) | fail)
   (first
    | (go_at_call 101; (with_reducible refine Calls.mono (HN.out _ (HWA.out.env.grow (show Fr (fun _ => False) w _ by repeat (first | exact Fr.refl _ _ | exact fA | exact fL | refine Fr.drew ?_))) _ _) ?_); clear HN; rintro r wA ⟨rfl, hq⟩; have fA := (show Fr (fun _ => False) w _ by repeat (first | exact Fr.refl _ _ | exact fA | exact fL | refine Fr.drew ?_)).next hq; have s0_fA := fA.cell l0 (fun h => h); have s4_fA := fA.cell l4 (fun h => h); have s1_fA := fA.cell z0 (fun h => h); have s2_fA := fA.cell z1 (fun h => h); have s3_fA := fA.cell z2 (fun h => h); (try have gA := (show Fr (fun _ => False) wL _ by repeat (first | exact Fr.refl _ _ | refine Fr.drew ?_)).next hq); clear hq)
    | (go_at_call 56; (with_reducible refine Calls.mono (list_h (HWA.out.disk.grow (show Fr (fun _ => False) w _ by repeat (first | exact Fr.refl _ _ | exact fA | exact fL | refine Fr.drew ?_)))) ?_); rintro r wL ⟨v', rfl, hrow, hq⟩; obtain ⟨la, lc, rfl⟩ : ∃ a c, v' = .slice a (names D.files).length c := ownsRow_shape hrow; have HRW := Lib.hid (SRow.of_owns hrow); have fL := (show Fr (fun _ => False) w _ by repeat (first | exact Fr.refl _ _ | exact fA | exact fL | refine Fr.drew ?_)).next hq; have s0_fL := fL.cell l0 (fun h => h); have s4_fL := fL.cell l4 (fun h => h); have s1_fL := fL.cell z0 (fun h => h); have s2_fL := fL.cell z1 (fun h => h); have s3_fL := fL.cell z2 (fun h => h); clear hq hrow)
    | (go_at_call 146; (with_reducible refine Calls.mono (HCN.out _ _ _ _ (HRW.out.fr (show Fr (fun _ => False) wL _ by repeat (first | exact Fr.refl _ _ | exact gA | refine Fr.drew ?_)) (fun _ _ h => h))) ?_); clear HCN; rintro r wC ⟨rfl, rfl⟩)
    | fail)
  all_goals
   go_wp2_with fail
   go_meet
   exact ⟨rfl, rfl, by first | exact fL | exact fA | exact fL.drew | exact fA.drew⟩
 case rest =>
 obtain ⟨rfl, rfl, HF1⟩ := hcut
 have m4 := HF1.out.cell l4 (fun h => h)
 clear l0 l4 z0 z1 z2
 cases b with
 | true =>
  go_wp2_with fail
  go_ret
  exact ⟨by rw [HB.out]; rfl, HF1.out⟩
 | false =>
  go_wp2_with fail
  go_ret
  exact ⟨by rw [HB.out]; rfl, HF1.out⟩
theorem LogAt.setsegs {w w2 : World} {S : Nat → Prop} {lp : Nat} {dv ve vs v2 : Value} {st : StD} {segs segs2 : List SegD} (h : LogAt w S lp dv ve vs st segs) (hf : Fr (fun _ => False) w w2) (hr : w2.ownsRow w.heap.size 143 3 v2 segs2.length (segsC segs2)) :
  LogAt (w2.setCell ⟨lp, 4, none⟩ v2) (Plus S w (w2.setCell ⟨lp, 4, none⟩ v2)) lp dv ve v2 st segs2 := by
 have hz : (w2.setCell ⟨lp, 4, none⟩ v2).heap.size = w2.heap.size := by simp
 have h2 := h.quiet hf
 have hs := hf.size
 refine ⟨block_set h2.head 4 v2, ownsRow_keep h2.ents (fun k hk => block_set_ne ?_), ownsRow_keep (ownsRow_base hr (Nat.zero_le _)) (fun k hk => block_set_ne ?_), .inl h.slp, fun k hk => .inl (h.sve k hk), fun k hk => .inr ?_, Plus.lt h.lt (by omega)⟩
 ·rintro rfl; exact own_ne h2.ents h2.head (by decide) hk
 ·rintro rfl; have := (hr.lt _ hk).1; have := h.lt _ h.slp; omega
 ·have := hr.lt k hk; rw [hz]; exact this
/-- what Cut leaves -/
def CutPost (st : StD) (pre : List SegD) (last : SegD) (D : DiskD) (i : Int) (S : Nat → Prop) (lp pb mb : Nat) (ve : Value) (w : World) (e : Ending) (w' : World) : Prop :=
 e = .returned (.int .i64 (cutL ⟨st, pre, last⟩ D i).1) ∧ (∃ vs', WalAt w' (Plus S w w') lp pb mb ve vs' st ((cutL ⟨st, pre, last⟩ D i).2.1.pre ++ [last]) (cutL ⟨st, pre, last⟩ D i).2.2) ∧ Fr (WAll S pb mb) w w'
theorem cut_post {st : StD} {pre p2 : List SegD} {last : SegD} {D D2 : DiskD} {i er : Int} {S : Nat → Prop} {lp pb mb : Nat} {ve vs : Value} {w w' : World} (h : cutL ⟨st, pre, last⟩ D i = (er, (⟨st, p2, last⟩, D2))) (hw : WalAt w' (Plus S w w') lp pb mb ve vs st (p2 ++ [last]) D2) (hf : Fr (WAll S pb mb) w w') :
  CutPost st pre last D i S lp pb mb ve w (.returned (.int .i64 er)) w' := by
 unfold CutPost; rw [h]; exact ⟨rfl, ⟨vs, hw⟩, hf⟩
structure CutRel (w : World) (S : Nat → Prop) (lp pb mb : Nat) (ve : Value) (st : StD) (pre : List SegD) (last : SegD) (D : DiskD) (i : Int) (l : List SegD) (D2 : DiskD) (vs : Value) (wr : World) : Prop where
 go : cutF i pre D = cutF i l D2
 sub : ∀ s ∈ l, s ∈ pre
 wal : WalAt wr (Plus S w wr) lp pb mb ve vs st (l ++ [last]) D2
 fr : Fr (WAll S pb mb) w wr
set_option maxRecDepth 100000 in
set_option maxHeartbeats 16000000 in
theorem wcut_h {w : World} {S : Nat → Prop} {lp pb mb : Nat} {ve vs : Value} {st : StD} {pre : List SegD} {last : SegD} {D : DiskD} (h : WalAt w S lp pb mb ve vs st (pre ++ [last]) D) (hn : ∀ s ∈ pre, 0 < s.num ∧ s.num < 1000000) (hp : pre.length ≤ 1000) (i : Int) :
  Calls Tryz.prog 51 #[.pointer (some ⟨lp, 0, none⟩), .int .i64 i] w (CutPost st pre last D i S lp pb mb ve w) := by
 have l0 := cell_of h.log.head (i := 0) (v := .pointer (some ⟨pb, 0, none⟩)) rfl
 have HWA := Lib.hid h
 have HNR := Lib.hid hn
 have HDD := Lib.hid (dead_h h.disk)
 obtain ⟨dd, hdd⟩ : ∃ dd, D.dead = dd := ⟨_, rfl⟩
 rw [hdd] at HDD
 have HDE := Lib.hid hdd
 clear h hn hdd
 go_enter Tryz.func51, Tryz.ntmps51
 go_wp2_with fail
 refine Calls.mono HDD.out ?_
 rintro e w2 ⟨rfl, rfl⟩
 cases dd with
 | true =>
  have HE : Hid (cutL ⟨st, pre, last⟩ D i = (7, (⟨st, pre, last⟩, D))) := by show cutL _ _ _ = _; unfold cutL; rw [if_pos HDE.out]
  go_wp2_with fail
  go_ret
  exact cut_post HE.out (HWA.out.plus0 HWA.out (Nat.le_refl _)) (Fr.refl _ _)
 | false =>
  have HR0 : Hid (CutRel w S lp pb mb ve st pre last D i pre D vs w) := ⟨rfl, fun _ h => h, HWA.out.plus0 HWA.out (Nat.le_refl _), Fr.refl _ _⟩
  have HE : Hid (cutL ⟨st, pre, last⟩ D i = ((cutF i pre D).1, (⟨st, (cutF i pre D).2.1, last⟩, (cutF i pre D).2.2))) := by show cutL _ _ _ = _; unfold cutL; rw [if_neg (by rw [HDE.out]; simp)]
  go_wp2_with fail
  go_loopg [] (pre.length + 1) (fun j wr => ∃ (l : List SegD) (D2 : DiskD) (vs2 : Value), l.length + 1 = j ∧ l.length ≤ 1000 ∧ Hid (CutRel w S lp pb mb ve st pre last D i l D2 vs2 wr))
  case atStart => exact ⟨pre, D, vs, rfl, hp, HR0.out⟩
  case round =>
   obtain ⟨l, D2, vs2, hj, hl2, HK⟩ := hrel
   clear HR0 l0
   have HJ := Lib.hid hj
   clear hj
   have hnl : (l ++ [last]).length = l.length + 1 := by simp
   obtain ⟨gs, scap, hvs, hsc, hscm, hgl, hgS⟩ := HK.out.wal.log.segrow (by rw [hnl]; omega)
   rw [hnl] at hsc hvs
   have hlog := HK.out.wal.log
   have l0 := cell_of hlog.head (i := 0) (v := .pointer (some ⟨pb, 0, none⟩)) rfl
   have l4 := cell_of hlog.head (i := 4) (v := vs2) rfl
   rw [hvs] at l4
   have HVS := Lib.hid hvs
   cases l with
   | nil =>
    have HC : Hid (cutL ⟨st, pre, last⟩ D i = (0, (⟨st, [], last⟩, D2))) := by show cutL _ _ _ = _; rw [HE.out, HK.out.go]; rfl
    clear hlog hvs
    go_wp2_with fail
    go_ret
    exact cut_post HC.out HK.out.wal HK.out.fr
   | cons s l =>
    rw [hvs] at hlog
    have hnl3 : ((s :: l) ++ [last]).length = (l.length + 1) + 1 := by simp
    have hls : (s :: l).length = l.length + 1 := rfl
    rw [hls] at hl2 hsc l4 HVS
    have hlog2 := hlog
    rw [← hnl] at hlog2
    obtain ⟨z0, z1, z2⟩ := hlog2.segcell (i := 0) (s := s) rfl
    rw [Nat.zero_mul] at z0 z1 z2
    rw [Nat.zero_add] at z1 z2
    have hsn := HNR.out s (HK.out.sub s (List.mem_cons_self ..))
    have HN := Lib.hid (fun (W : World) (hE : Env W) (x y : Value) => wname_h (w := W) hE hsn.1 hsn.2 (x := x) (y := y))
    obtain ⟨N, hN⟩ : ∃ N, nameW s.num = N := ⟨_, rfl⟩
    rw [hN] at HN
    have hgt : (1 : Int) < ((l.length + 1 : Nat) : Int) + 1 := by omega
    have hgt2 : (0 : Int) < (l.length : Int) + 1 := by omega
    have hgt3 : (0 : Int) < (l.length : Int) + 1 + 1 := by omega
    have hgt4 : (1 : Int) ≤ (l.length : Int) + 1 + 1 := by omega
    have hsci : (l.length : Int) + 1 + 1 ≤ (scap : Int) := by omega
    by_cases htop : s.top ≤ i
    ·obtain ⟨q, hq⟩ : ∃ q, deleteD D2 N = q := ⟨_, rfl⟩
     have HDL := Lib.hid (fun (W : World) (hD : DiskAt W pb mb D2) => delete_h hD N)
     rw [hq] at HDL
     have HCF : Hid (cutF i (s :: l) D2 = if q.1 ≠ 0 then (q.1, (s :: l, q.2)) else cutF i l q.2) := by
      show cutF _ _ _ = _
      conv => lhs; unfold cutF
      rw [if_pos htop, hN, hq]
     have htb : decide (s.top ≤ i) = true := decide_eq_true htop
     clear hlog hlog2 hvs hN hq hsn
     go_upto_region 4 with fail
     go_cut [5] (fun s5 wx => s5 = .int .i64 q.1 ∧ Hid (WalAt wx (Plus S w wr) lp pb mb ve vs2 st ((s :: l) ++ [last]) q.2 ∧ Fr (WAll S pb mb) w wx ∧ wr.heap.size ≤ wx.heap.size))
     case first =>
      go_region_held3 (fun w' => w'.cell? ⟨lp, 0, none⟩ = some (.pointer (some ⟨pb, 0, none⟩)) ∧ w'.cell? ⟨lp, 4, none⟩ = some (.slice (some ⟨gs, 0, none⟩) (l.length + 1 + 1) scap) ∧ w'.cell? ⟨gs, 0, none⟩ = some (.int .i64 (s.num : Int)) ∧ w'.cell? ⟨gs, 1, none⟩ = some (.int .i64 (s.size : Int)) ∧ w'.cell? ⟨gs, 2, none⟩ = some (.int .i64 s.top))
       (first | go_keep | (with_reducible exact ⟨s0_fB, s4_fB, s1_fB, s2_fB, s3_fB⟩) | (with_reducible exact ⟨s0_fA, s4_fA, s1_fA, s2_fA, s3_fA⟩) | fail)
       (first
        | (go_at_call 101; (with_reducible refine Calls.mono (HN.out _ (HK.out.wal.env.grow (show Fr (fun _ => False) wr _ by repeat (first | exact Fr.refl _ _ | refine Fr.drew ?_ | refine Fr.alloc ?_ _))) _ _) ?_); rintro r wA ⟨rfl, hq⟩; have fA := (show Fr (fun _ => False) wr _ by repeat (first | exact Fr.refl _ _ | refine Fr.drew ?_ | refine Fr.alloc ?_ _)).next hq; have s0_fA := fA.cell l0 (fun h => h); have s4_fA := fA.cell l4 (fun h => h); have s1_fA := fA.cell z0 (fun h => h); have s2_fA := fA.cell z1 (fun h => h); have s3_fA := fA.cell z2 (fun h => h); clear hq)
        | (have tok := s0_fA; clear tok; go_at_call 68; (with_reducible refine Calls.mono (HDL.out _ (HK.out.wal.disk.grow (show Fr (fun _ => False) wr _ by repeat (first | exact fA | refine Fr.drew ?_)))) ?_); rintro r wB ⟨rfl, hD7, hq⟩; have fB := ((show Fr (fun _ => False) wr _ by repeat (first | exact fA | refine Fr.drew ?_)).mono (o2 := Own pb mb) fun _ _ h => h.elim).next hq; have hfo := fun k (hk : Plus S w wr k) => HK.out.wal.far k hk; have s0_fB := fB.cell l0 (hfo _ HK.out.wal.log.slp); have s4_fB := fB.cell l4 (hfo _ HK.out.wal.log.slp); have s1_fB := fB.cell z0 (hfo _ hgS); have s2_fB := fB.cell z1 (hfo _ hgS); have s3_fB := fB.cell z2 (hfo _ hgS); have HDB := Lib.hid hD7; have HFB := Lib.hid fB; clear hq hD7 fB hfo)
        | fail)
      all_goals
       go_wp2_with fail
       go_meet
       have hwB := HK.out.wal.done HDB.out HFB.out
       have hfw : Fr (WAll S pb mb) w wB := HK.out.fr.next (HFB.out.mono fun _ _ h => .inr h)
       have hzB := HFB.out.size
       exact ⟨rfl, by first | exact hwB | exact hwB.quiet (Fr.refl _ _).drew, by first | exact hfw | exact hfw.drew, by first | omega | (simp; omega)⟩
     case rest =>
     obtain ⟨rfl, hcc⟩ := hcut
     obtain ⟨hw6, hf6, hz6⟩ := hcc.out
     have HW6 := Lib.hid hw6
     have HF6 := Lib.hid hf6
     clear hcc hw6 hf6 l0 l4 z0 z1 z2
     by_cases hq0 : q.1 = 0
     ·have r1 : (q.1 == 0) = true := by simpa using hq0
      have HCL : Hid (cutF i pre D = cutF i l q.2) := by
       show _ = _
       rw [HK.out.go, HCF.out, if_neg (by rw [hq0]; simp)]
      clear hq0
      have hlog := HW6.out.log
      rw [HVS.out] at hlog
      have l4 := cell_of hlog.head (i := 4) (v := .slice (some ⟨gs, 0, none⟩) (l.length + 1 + 1) scap) rfl
      have lf := free_of 4 hlog.head
      have hll := lt_of_block hlog.head
      have hrow := SRow.of_owns hlog.segr
      rw [hnl3] at hrow
      have htl := SRow.tail (k := 1) hrow (by omega)
      have e2 : (segsC ((s :: l) ++ [last])).drop (1 * 3) = segsC (l ++ [last]) := by simp [segsC, segC]
      rw [if_neg (by omega), e2] at htl
      have HTL : Hid (∀ n, n = l.length + 1 → SRow wc (fun _ => True) 3 (.slice (some ⟨gs, 3, none⟩) (l.length + 1) (scap - 1)) n (segsC (l ++ [last]))) := by rintro _ rfl; exact htl.mono fun _ _ => trivial
      have HLG := Lib.hid hlog
      clear hlog hrow htl e2
      go_wp2_with fail
      refine Calls.mono (cloneS_h (HTL.out _ (by simp)) (by simp; omega)) ?_
      rintro e w7 ⟨v7, rfl, hrow7, hf7⟩
      rw [show (l ++ [last]).length = l.length + 1 by simp] at hrow7
      obtain ⟨a7, c7, rfl⟩ : ∃ a c, v7 = .slice a (l.length + 1) c := ownsRow_shape hrow7
      have HF7 := Lib.hid hf7
      have HR7 := Lib.hid hrow7
      have m4 := hf7.cell l4 (fun h => h)
      have mf := free_of 4 (hf7.keep HLG.out.head (fun h => h))
      have hll7 := lt_of_block (hf7.keep HLG.out.head (fun h => h))
      clear hf7 hrow7 HTL l4 lf hll
      go_wp2_with fail
      go_roundg (l.length + 1)
      case measure => have := HJ.out; simp at this; omega
      case rel =>
       have hlog7 := HLG.out.setsegs (segs2 := l ++ [last]) HF7.out (by rw [show (l ++ [last]).length = l.length + 1 by simp]; exact HR7.out)
       have hfs : Fr (Plus S w wr) wc (w7.setCell ⟨lp, 4, none⟩ (.slice a7 (l.length + 1) c7)) := (HF7.out.mono (o2 := Plus S w wr) fun _ _ h => h.elim).setCell (p := ⟨lp, 4, none⟩) (.inl HLG.out.slp) _
       have hw7 := HW6.out.logs hlog7 hfs
       have hz7 := HF7.out.size
       have hzr := HK.out.fr.size
       refine ⟨l, q.2, .slice a7 (l.length + 1) c7, rfl, by omega, HCL.out, fun x hx => HK.out.sub x (List.mem_cons_of_mem _ hx), ?_, ?_⟩
       ·refine hw7.mono (fun k hk => ?_) (Plus.lt HWA.out.log.lt (by simp; omega)) (fun k hk => ?_) (fun k hk => ?_)
        ·have hz : (w7.setCell ⟨lp, 4, none⟩ (.slice a7 (l.length + 1) c7)).heap.size = w7.heap.size := by simp
         rcases hk with (hk | hk) | hk
         ·exact .inl hk
         ·exact .inr ⟨hk.1, by rw [hz]; omega⟩
         ·exact .inr ⟨by omega, hk.2⟩
        ·have ho := HWA.out.own_lt
         rcases hk with hk | ⟨hk, _⟩
         ·exact HWA.out.far k hk
         ·rintro (e | e) <;> omega
        ·have ho := HWA.out.own_lt
         rcases hk with hk | ⟨hk, _⟩
         ·exact HWA.out.low k hk
         ·have := HWA.out.dlow; omega
       ·have : Fr (WAll S pb mb) w w7 := HF6.out.next (HF7.out.mono fun _ _ h => h.elim)
        rcases HLG.out.slp with hs | ⟨hs, _⟩
        ·exact this.setCell (p := ⟨lp, 4, none⟩) (.inl (.inl hs)) _
        ·exact this.setCell (p := ⟨lp, 4, none⟩) (.inr hs) _
     ·have r1 : (q.1 == 0) = false := by simpa using hq0
      have HC : Hid (cutL ⟨st, pre, last⟩ D i = (q.1, (⟨st, s :: l, last⟩, q.2))) := by
       show cutL _ _ _ = _; rw [HE.out, HK.out.go, HCF.out, if_pos hq0]
      have HW7 := Lib.hid (HWA.out.plus HW6.out HK.out.fr hz6)
      clear hq0
      go_wp2_with fail
      go_ret
      exact cut_post HC.out HW7.out HF6.out
    ·have HC : Hid (cutL ⟨st, pre, last⟩ D i = (0, (⟨st, s :: l, last⟩, D2))) := by
      show cutL _ _ _ = _; rw [HE.out, HK.out.go]; unfold cutF; rw [if_neg htop]
     have htb : decide (s.top ≤ i) = false := decide_eq_false htop
     clear hlog hlog2 hvs hN hsn
     go_wp2_with fail
     go_ret
     exact cut_post HC.out HK.out.wal HK.out.fr
end Go.Proofs.YtgmghopcppniaaaGreatDoor

/- wal's Reset: walked. -/
namespace Go.Proofs.YtgmghopcppniaaaGreatDoor
open Go.RowKit Go.Lib

/-- what a call leaves that turns a log: p is what the plain law makes of it -/
def LPost (p : Int × (LogD × DiskD)) (S : Nat → Prop) (lp pb mb : Nat) (w : World) (e : Ending) (w' : World) : Prop :=
 e = .returned (.int .i64 p.1) ∧ (∃ ve vs, WalAt w' (Plus S w w') lp pb mb ve vs p.2.1.st (p.2.1.pre ++ [p.2.1.last]) p.2.2) ∧ Fr (WAll S pb mb) w w'
theorem lpost {p : Int × (LogD × DiskD)} {L2 : LogD} {D2 : DiskD} {er : Int} {S : Nat → Prop} {lp pb mb : Nat} {ve vs : Value} {w w' : World} (h : p = (er, (L2, D2))) (hw : WalAt w' (Plus S w w') lp pb mb ve vs L2.st (L2.pre ++ [L2.last]) D2) (hf : Fr (WAll S pb mb) w w') : LPost p S lp pb mb w (.returned (.int .i64 er)) w' := by
 unfold LPost; rw [h]; exact ⟨rfl, ⟨ve, vs, hw⟩, hf⟩
/-- a call begun in a later world that was reached quietly -/
theorem WalAt.widen {w W w' : World} {S : Nat → Prop} {lp pb mb : Nat} {ve vs ve2 vs2 : Value} {st st2 : StD} {segs segs2 : List SegD} {D D2 : DiskD} (h : WalAt w S lp pb mb ve vs st segs D) (h2 : WalAt w' (Plus S W w') lp pb mb ve2 vs2 st2 segs2 D2) {o : Nat → Prop} (hF : Fr o w W) (hs : W.heap.size ≤ w'.heap.size) : WalAt w' (Plus S w w') lp pb mb ve2 vs2 st2 segs2 D2 := by
 have ho := h.own_lt
 have := hF.size
 refine h2.mono (fun k hk => ?_) (Plus.lt h.log.lt (by omega)) (fun k hk => ?_) (fun k hk => ?_)
 ·rcases hk with hk | ⟨hk, hk2⟩
  ·exact .inl hk
  ·exact .inr ⟨by omega, hk2⟩
 ·rcases hk with hk | ⟨hk, _⟩
  ·exact h.far k hk
  ·rintro (e | e) <;> omega
 ·rcases hk with hk | ⟨hk, _⟩
  ·exact h.low k hk
  ·have := h.dlow; omega
/-- the entries forgotten -/
theorem LogAt.forget {w : World} {S : Nat → Prop} {lp : Nat} {dv ve vs : Value} {st : StD} {segs : List SegD} (h : LogAt w S lp dv ve vs st segs) :
  LogAt (w.setCell ⟨lp, 3, none⟩ (.slice none 0 0)) S lp dv (.slice none 0 0) vs { st with ents := [] } segs :=
 ⟨block_set h.head 3 _, World.ownsRow_nil _ _ _ _, ownsRow_keep h.segr (fun k hk => block_set_ne (fun e => own_ne h.segr h.head (by decide) (by rw [← e]; exact hk))), h.slp, fun k hk => (by simp [Value.ownBlock] at hk), h.svs, fun k hk => by have := h.lt k hk; simpa using this⟩
theorem WalAt.local {w w' : World} {S : Nat → Prop} {lp pb mb : Nat} {ve vs ve2 vs2 : Value} {st st2 : StD} {segs segs2 : List SegD} {D : DiskD} (h : WalAt w S lp pb mb ve vs st segs D) (hl : LogAt w' S lp (.pointer (some ⟨pb, 0, none⟩)) ve2 vs2 st2 segs2) (hf : Fr S w w') : WalAt w' S lp pb mb ve2 vs2 st2 segs2 D :=
 ⟨hl, h.disk.fr hf (fun e => h.far pb e (.inl rfl)) (fun e => h.far mb e (.inr rfl)), h.far, h.env.fr hf (fun k hk e => by have := h.low k e; omega), h.low, h.dlow⟩
theorem layRs_len {L : LogD} {t v : Int} {tell : Bool} {ps : List RecD} : (layRs L t v tell ps).length ≤ ps.length + 1 := by unfold layRs; split <;> simp
theorem hard_len {t v : Int} (ht : I64 t) (hv : I64 v) : (hardTx t v).length ≤ 30 := by
 have := ints_len [1, t, v] (by intro n hn; simp at hn; rcases hn with rfl | rfl | rfl <;> first | assumption | exact i64_small (by decide) (by decide))
 exact this
theorem recs_len_le {k : Nat} : ∀ {l : List RecD}, (∀ r ∈ l, (payL r).length ≤ k) → (recsL l).length ≤ l.length * (k + 8)
 | [], _ => by simp [recsL]
 | r :: l, h => by
  have h1 := recs_len_le (l := l) fun r hr => h r (List.mem_cons_of_mem _ hr)
  have h2 := h r (List.mem_cons_self ..)
  have h3 : (recsL (r :: l)).length = (recF r).length + (recsL l).length := by unfold recsL; rw [List.flatMap_cons, List.length_append]
  rw [h3, List.length_cons, Nat.add_mul]
  unfold recF
  rw [frame_len]
  omega
theorem resetRs_fold (L : LogD) : foldS L.st (resetRs L) = { L.st with ents := [] } ∧ ∀ m, (resetRs L).foldl topR m = m := by
 unfold resetRs layRs
 split <;> exact ⟨rfl, fun _ => rfl⟩
set_option maxRecDepth 100000 in
set_option maxHeartbeats 16000000 in
theorem reset_h {w : World} {S : Nat → Prop} {lp pb mb : Nat} {ve vs : Value} {st : StD} {pre : List SegD} {last : SegD} {D : DiskD} (h : WalAt w S lp pb mb ve vs st (pre ++ [last]) D) (hn0 : 0 < last.num) (hn1 : last.num < 1000000) (hz : last.size ≤ 1000000000) (hp : pre.length ≤ 1000) (ht : I64 st.t) (hv : I64 st.v) :
  Calls Tryz.prog 73 #[.pointer (some ⟨lp, 0, none⟩)] w (LPost (resetL ⟨st, pre, last⟩ D) S lp pb mb w) := by
 obtain ⟨p, hp2⟩ : ∃ p, layL ⟨st, pre, last⟩ D (resetRs ⟨st, pre, last⟩) = p := ⟨_, rfl⟩
 have hT : intsL [3] = intL 3 := by simp [intsL]
 obtain ⟨T, hT2⟩ : ∃ T, intL 3 = T := ⟨_, rfl⟩
 have hTl : T.length ≤ 10 := by rw [← hT2, ← hT]; exact ints_len [3] (by intro n hn; rw [List.mem_singleton.1 hn]; exact i64_small (by decide) (by decide))
 have hhl : (hardTx st.t st.v).length ≤ 40 := Nat.le_trans (hard_len ht hv) (by decide)
 have hpl : ∀ r ∈ resetRs ⟨st, pre, last⟩, (payL r).length ≤ 40 := by
  intro r hr
  unfold resetRs layRs at hr
  have h3 : (payL .reset).length ≤ 40 := by show (intL 3).length ≤ 40; rw [hT2]; omega
  split at hr
  ·rcases List.mem_cons.1 hr with rfl | hr
   ·exact hhl
   ·rw [List.mem_singleton.1 hr]; exact h3
  ·rw [List.mem_singleton.1 hr]; exact h3
 have hXl : (recsL (resetRs ⟨st, pre, last⟩)).length ≤ 1000 := by
  have h1 : (resetRs ⟨st, pre, last⟩).length ≤ 2 := layRs_len
  have h2 := recs_len_le (l := resetRs ⟨st, pre, last⟩) hpl
  have : (resetRs ⟨st, pre, last⟩).length * 48 ≤ 2 * 48 := Nat.mul_le_mul_right _ h1
  omega
 have HL := Lib.hid (fun (W : World) (k : Nat) (hF : Fr (fun _ => False) w W) (hb : W.heap[k]? = some (.cells #[.string (bs T)] 9 (0, 0))) (hk : w.heap.size ≤ k) =>
  (lay_h (Q := fun j => w.heap.size ≤ j ∧ j < W.heap.size) (h.quiet hF) hn0 hn1 hz hp ht hv false [.reset] (a := some ⟨k, 0, none⟩) (cap := 1) (SRow.of_block (xs := paysC [.reset]) (by rw [hb, ← hT2]; rfl) rfl (by simp [maxLen]) ⟨hk, lt_of_block hb⟩) (fun j hj => ⟨hj.2, by have := h.own_lt; rintro (e | e) <;> omega⟩) (by simp) (rs := resetRs ⟨st, pre, last⟩) rfl (fun r hr => by have := hpl r hr; omega) (by omega)).mono
   (R' := fun e w' => e = .returned (.int .i64 p.1) ∧ WalAt w' (Plus S w w') lp pb mb ve vs st (pre ++ [p.2.1.last]) p.2.2 ∧ Fr (WAll S pb mb) w w') (by rintro e w' ⟨h1, h2, h3⟩; rw [hp2] at h1 h2; exact ⟨h1, h.widen h2 hF h3.size, (hF.mono (o2 := WAll S pb mb) fun _ _ h => h.elim).next h3⟩))
 have HI := Lib.hid (fun (W : World) (k : Nat) (hb : W.heap[k]? = some (.cells #[.int .i64 3] 3 (0, 0))) => int1_h (x := 3) (i64_small (by decide) (by decide)) hb)
 rw [hT, hT2] at HI
 have hpe : p.2.1.st = st ∧ p.2.1.pre = pre := by
  rw [← hp2]; unfold layL; split <;> exact ⟨rfl, rfl⟩
 have HP := Lib.hid hp2
 have HPE := Lib.hid hpe
 have HWA := Lib.hid h
 have l1 := cell_of h.log.head (i := 1) (v := .int .i64 st.t) rfl
 have l2 := cell_of h.log.head (i := 2) (v := .int .i64 st.v) rfl
 clear hT hT2 hhl hpl hXl hp2 hpe h
 go_enter Tryz.func73, Tryz.ntmps73
 go_upto_region 1 with fail
 go_cut [3] (fun s3 wx => s3 = .int .i64 p.1 ∧ Hid (WalAt wx (Plus S w wx) lp pb mb ve vs st (pre ++ [p.2.1.last]) p.2.2 ∧ Fr (WAll S pb mb) w wx))
 case first =>
  go_region_held3 (fun w' => w'.cell? ⟨lp, 1, none⟩ = some (.int .i64 st.t) ∧ w'.cell? ⟨lp, 2, none⟩ = some (.int .i64 st.v))
   (first | go_keep | (with_reducible exact ⟨s1_fB, s2_fB⟩) | (with_reducible exact ⟨s1_fA, s2_fA⟩) | fail)
   (first
    | (go_at_call 120; (with_reducible refine Calls.mono (HI.out _ _ (by first | with_reducible exact block_new _ _ | with_reducible exact block_new_drew rfl)) ?_); clear HI; rintro r wA ⟨rfl, hq⟩; have fA := (show Fr (fun _ => False) w _ by repeat (first | exact Fr.refl _ _ | refine Fr.drew ?_ | refine Fr.alloc ?_ _)).next hq; have s1_fA := fA.cell l1 (fun h => h); have s2_fA := fA.cell l2 (fun h => h); have hs_fA := fA.size; clear hq)
    | (have tok := s1_fA; clear tok; go_at_call 84; (with_reducible refine Calls.mono (HL.out _ _ (show Fr (fun _ => False) w _ by repeat (first | exact fA | refine Fr.drew ?_ | refine Fr.alloc ?_ _)) (by first | with_reducible exact block_new _ _ | with_reducible exact block_new_drew rfl) hs_fA) ?_); clear HL; rintro r wB ⟨rfl, hw, hfB⟩; have HWB := Lib.hid hw; have HFB := Lib.hid hfB; have s1_fB := cell_of hw.log.head (i := 1) (v := .int .i64 st.t) rfl; have s2_fB := cell_of hw.log.head (i := 2) (v := .int .i64 st.v) rfl; clear hw hfB)
    | fail)
  all_goals
   go_wp2_with fail
   go_meet
   exact ⟨rfl, by first | exact HWB.out | exact HWA.out.widen (HWB.out.quiet (Fr.refl _ _).drew) (Fr.refl _ _) HFB.out.size, by first | exact HFB.out | exact HFB.out.drew⟩
 case rest =>
 obtain ⟨rfl, hcc⟩ := hcut
 obtain ⟨hw5, hf5⟩ := hcc.out
 have HW5 := Lib.hid hw5
 have HF5 := Lib.hid hf5
 clear hcc hf5 l1 l2
 obtain ⟨p1, ⟨Lm, Dm⟩⟩ := p
 obtain ⟨sm, pm, lm⟩ := Lm
 obtain ⟨rfl, rfl⟩ := HPE.out
 by_cases hp0 : p1 = 0
 ·subst hp0
  have l3 := cell_of hw5.log.head (i := 3) (v := ve) rfl
  have lf := free_of 3 hw5.log.head
  have hll := lt_of_block hw5.log.head
  have hfo := resetRs_fold ⟨sm, pm, last⟩
  have HE : Hid (resetL ⟨sm, pm, last⟩ D = (0, (⟨{ sm with ents := [] }, pm, lm⟩, Dm))) := by
   show resetL _ _ = _
   unfold resetL
   rw [HP.out, if_neg (by simp)]
   dsimp only
   rw [foldR_is]
   dsimp only
   rw [hfo.2]
   dsimp only at hfo
   rw [hfo.1]
  clear hw5 hfo
  go_wp2_with fail
  go_ret
  refine lpost HE.out (ve := .slice none 0 0) (vs := vs) ?_ ?_
  ·have hfs : Fr (Plus S w wc) wc (wc.setCell ⟨lp, 3, none⟩ (.slice none 0 0)) := (Fr.refl _ _).setCell (p := ⟨lp, 3, none⟩) (.inl HW5.out.log.slp) _
   have := HW5.out.local HW5.out.log.forget hfs
   exact this.mono (fun k hk => by rcases hk with hk | ⟨h1, h2⟩; exact .inl hk; exact .inr ⟨h1, by simpa using h2⟩) (fun k hk => this.log.lt k (by rcases hk with hk | ⟨h1, h2⟩; exact .inl hk; exact .inr ⟨h1, by simpa using h2⟩)) (fun k hk => this.far k (by rcases hk with hk | ⟨h1, h2⟩; exact .inl hk; exact .inr ⟨h1, by simpa using h2⟩)) (fun k hk => this.low k (by rcases hk with hk | ⟨h1, h2⟩; exact .inl hk; exact .inr ⟨h1, by simpa using h2⟩))
  ·exact HF5.out.setCell (p := ⟨lp, 3, none⟩) (.inl (.inl HWA.out.log.slp)) _
 ·have r1 : (p1 == 0) = false := by simpa using hp0
  have HE : Hid (resetL ⟨sm, pm, last⟩ D = (p1, (⟨sm, pm, lm⟩, Dm))) := by
   show resetL _ _ = _
   unfold resetL
   rw [HP.out, if_pos hp0]
  clear hp0 hw5
  go_wp2_with fail
  go_ret
  exact lpost HE.out HW5.out HF5.out
end Go.Proofs.YtgmghopcppniaaaGreatDoor
