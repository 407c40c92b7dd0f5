/- The reference's Save: walked (begun: up to the idle test). -/
import Derived.Test.YtgmghopcppniaaaGreatDoorXD
import Derived.Test.YtgmghopcppniaaaGreatDoorFI
import Derived.Test.YtgmghopcppniaaaGreatDoorFN
namespace Go.Proofs.YtgmghopcppniaaaGreatDoor
open Go.RowKit Go.Lib

theorem ents_cell {l : List EntD} {i : Nat} {e : EntD} (h : l[i]? = some e) {j : Nat} {v : Value} (hv : (entC e)[j]? = some v) : (entsC l)[i * 4 + j]? = some v := by
 obtain ⟨h1, h2⟩ := List.getElem?_eq_some_iff.1 h
 have e1 : l = l.take i ++ e :: l.drop (i + 1) := by rw [← h2, List.getElem_cons_drop, List.take_append_drop]
 have hj : j < (entC e).length := (List.getElem?_eq_some_iff.1 hv).1
 rw [e1, ents_app]
 have hl : (entsC (l.take i)).length = i * 4 := by rw [ents_len, List.length_take, Nat.min_eq_left (by omega)]
 have e2 : entsC (e :: l.drop (i + 1)) = entC e ++ entsC (l.drop (i + 1)) := rfl
 rw [e2, List.getElem?_append_right (by omega), hl, Nat.add_sub_cancel_left, List.getElem?_append_left hj]
 exact hv
/-- the records of the first entries -/
def firstR (l : List EntD) (i : Nat) : Str := recsL ((l.take i).map .ent)
theorem firstR_next {l : List EntD} {i : Nat} {e : EntD} (h : l[i]? = some e) : firstR l (i + 1) = firstR l i ++ frameL (entTx e) := by
 obtain ⟨h1, h2⟩ := List.getElem?_eq_some_iff.1 h
 unfold firstR
 rw [List.take_succ_eq_append_getElem h1, h2, List.map_append, recsL_app]
 show _ ++ (frameL (entTx e) ++ []) = _
 rw [List.append_nil]
theorem ent_small {e : EntD} (hi : I64 e.index) (ht : I64 e.term) (hk : I64 e.kind) (hd : e.data.length ≤ 700) : (entTx e).length ≤ 760 := by
 have a1 := intL_len (n := 2) (i64_small (by decide) (by decide))
 have a2 := intL_len hi
 have a3 := intL_len ht
 have a4 := intL_len hk
 have a5 := intL_len (n := (e.data.length : Int)) (by unfold I64; omega)
 unfold entTx textL
 simp [intsL]
 omega
theorem firstR_len {l : List EntD} (h : ∀ e ∈ l, (I64 e.index ∧ I64 e.term ∧ I64 e.kind) ∧ e.data.length ≤ 700) : ∀ i, i ≤ l.length → (firstR l i).length ≤ i * 800
 | 0, _ => by unfold firstR; simp [recsL]
 | i + 1, hi => by
  have h1 := firstR_len h i (by omega)
  have h2 : l[i]? = some l[i] := List.getElem?_eq_getElem (by omega)
  have h3 := h l[i] (List.getElem_mem _)
  have h4 := ent_small h3.1.1 h3.1.2.1 h3.1.2.2 h3.2
  rw [firstR_next h2, List.length_append, frame_len]
  omega
theorem rsave_wrong {L : LogD} {D : DiskD} {t v : Int} {l : List EntD} (h : t < 0 ∨ v < 0 ∨ ∃ e ∈ l, rightE e = false) : saveL L D t v l = (1, (L, D)) := by
 unfold saveL
 rw [if_pos]
 unfold wrongA
 rcases h with h | h | ⟨e, he, h⟩
 ·rw [decide_eq_true h]; rfl
 ·rw [decide_eq_true h]; simp
 ·have : l.all rightE = false := by
   rw [List.all_eq_false]
   exact ⟨e, he, by rw [h]; simp⟩
  rw [this]; simp
theorem save_right {t v : Int} {l : List EntD} (h : ∀ e ∈ l, (I64 e.index ∧ I64 e.term ∧ I64 e.kind) ∧ e.data.length ≤ 700) (ht : ¬ t < 0) (hv : ¬ v < 0) (hr : ∀ e ∈ l, rightE e = true) : wrongA t v l = false := by
 unfold wrongA
 have h1 : l.all rightE = true := by rw [List.all_eq_true]; exact hr
 have h2 : (l.any fun e => decide (65536 < (entTx e).length)) = false := by
  rw [List.any_eq_false]
  intro e he
  have h3 := h e he
  have h4 := ent_small h3.1.1 h3.1.2.1 h3.1.2.2 h3.2
  simp; omega
 rw [decide_eq_false ht, decide_eq_false hv, h1, h2]; rfl
theorem first_all (l : List EntD) : firstR l l.length = recsL (l.map .ent) := by unfold firstR; rw [List.take_length]
theorem first_nil {l : List EntD} : recsL (l.map .ent) = [] ↔ l = [] := by
 constructor
 ·intro h
  cases l with
  | nil => rfl
  | cons e t =>
   rw [List.map_cons, recs_cons] at h
   have h2 := congrArg List.length h
   rw [List.length_append, frame_len] at h2
   simp at h2
 ·intro h; subst h; rfl
theorem save_st (L : LogD) (t v : Int) (l : List EntD) : foldS L.st (saveRs L t v l) = ⟨t, v, l.foldl putE L.st.ents⟩ := by
 have h0 : ∀ st : StD, foldS st (l.map .ent) = { st with ents := l.foldl putE st.ents } := fun st => fold_ents l st
 unfold saveRs layRs
 split
 ·show foldS ⟨t, v, L.st.ents⟩ (l.map .ent) = _
  rw [h0]
 ·rename_i h
  have h1 : t = L.st.t ∧ v = L.st.v := by
   simp only [not_or] at h
   have := h.1
   simpa using this
  rw [h0, h1.1, h1.2]
theorem save_recs {L : LogD} {t v : Int} {l : List EntD} {b : Bool} (h : (!(decide (t = L.st.t) && decide (v = L.st.v))) = b) :
  recsL (saveRs L t v l) = if b = true ∨ (grownL L).last.size = 0 then frameL (hardTx t v) ++ recsL (l.map .ent) else recsL (l.map .ent) := by
 unfold saveRs layRs
 rw [h]
 split
 ·rfl
 ·rfl
theorem rstill_st {L M : LogD} {D : DiskD} (h : M.st = L.st) : (stillL L M D).st = L.st := by unfold stillL; split <;> first | exact h | rfl
theorem grown_st (L : LogD) : (grownL L).st = L.st := by unfold grownL; split <;> rfl
/-- what the last segment is when a save begins -/
theorem grown_is {L : LogD} {B : Str} {n pl : Nat} (hn : L.last.num = n) (hp : L.pre.length = pl) (hs : B.length = L.last.size) :
  (2000 ≤ B.length ∧ pl + 1 < 20 ∧ (grownL L).last.num = n + 1 ∧ (grownL L).last.size = 0) ∨ (¬ (2000 ≤ B.length ∧ pl + 1 < 20) ∧ (grownL L).last.num = n ∧ (grownL L).last.size = B.length) := by
 unfold grownL
 by_cases h : 2000 ≤ L.last.size ∧ L.pre.length + 1 < 20
 ·rw [if_pos h]
  exact .inl ⟨by omega, by omega, by show L.last.num + 1 = n + 1; rw [hn], rfl⟩
 ·rw [if_neg h]
  exact .inr ⟨by omega, hn, hs.symm⟩
/-- entries put, one by one -/
structure SvRel (w : World) (S : Nat → Prop) (rl rb : Nat) (lv lv7 : Value) (t v : Int) (es : List EntD) (D : DiskD) (l : List EntD) (i : Nat) (le : Value) (wr : World) : Prop where
 wal : RWal wr (Plus S w wr) rl rb lv7 le ⟨t, v, (l.take i).foldl putE es⟩ D
 fr : Fr (RAll rl rb lv) w wr
 run : RunE ((l.take i).foldl putE es)
 few : ((l.take i).foldl putE es).length ≤ 800000 + i
theorem take_fold {l : List EntD} {i : Nat} {e : EntD} (h : l[i]? = some e) (es : List EntD) : (l.take (i + 1)).foldl putE es = putE ((l.take i).foldl putE es) e := by
 obtain ⟨h1, h2⟩ := List.getElem?_eq_some_iff.1 h
 rw [List.take_succ_eq_append_getElem h1, h2, List.foldl_append]; rfl
theorem SvRel.next {w wr w2 : World} {S : Nat → Prop} {rl rb : Nat} {lv lv7 le le2 : Value} {t v : Int} {es : List EntD} {D : DiskD} {l : List EntD} {i : Nat} {e : EntD} (h : SvRel w S rl rb lv lv7 t v es D l i le wr) (hS : ∀ k, S k → k < w.heap.size) (hf : Fr (fun _ => False) wr w2) (he : l[i]? = some e) (hg : GoodE e)
  (hr : w2.ownsRow wr.heap.size 95 4 le2 (putE ((l.take i).foldl putE es) e).length (entsC (putE ((l.take i).foldl putE es) e))) : SvRel w S rl rb lv lv7 t v es D l (i + 1) le2 (w2.setCell ⟨rl, 3, none⟩ le2) := by
 have hz1 := h.fr.size
 have hz2 := hf.size
 have hz3 : (w2.setCell ⟨rl, 3, none⟩ le2).heap.size = w2.heap.size := by simp
 have hp := h.wal.put hf hr
 refine ⟨?_, ?_, ?_, ?_⟩
 ·rw [take_fold he]
  refine hp.mono (fun k hk => ?_) (Plus.lt hS (by omega))
  rcases hk with (hk | ⟨h1, h2⟩) | ⟨h1, h2⟩
  ·exact .inl hk
  ·exact .inr ⟨h1, by omega⟩
  ·exact .inr ⟨by omega, h2⟩
 ·exact (h.fr.next (hf.mono fun _ _ h => h.elim)).setCell (p := ⟨rl, 3, none⟩) (.inl (.inl rfl)) _
 ·rw [take_fold he]; exact h.run.put hg
 ·rw [take_fold he]
  have h1 := putE_len ((l.take i).foldl putE es) e
  have h2 := h.few
  omega
section
variable {w : World} {S Q : Nat → Prop} {rl rb : Nat} {lv le : Value} {L : LogD} {D : DiskD}
set_option maxRecDepth 100000 in
set_option maxHeartbeats 16000000 in
theorem rsave_h (h : RWal w S rl rb lv le L.st D) (hok : OkS L.st) (hs : D.dead = true ∨ ∃ R b, LogOK L D R b) (hnum : L.last.num + 1 < 1000000) {t v : Int} (ht : I64 t) (hv : I64 v) {a : Option Addr} {cap : Nat} {l : List EntD}
  (hr : SRow w Q 4 (.slice a l.length cap) l.length (entsC l)) (hQ : ∀ k, Q k → ¬ S k) (hl : l.length ≤ 10) (hI : ∀ e ∈ l, (I64 e.index ∧ I64 e.term ∧ I64 e.kind) ∧ e.data.length ≤ 700) (hfew : L.st.ents.length ≤ 800000) :
  Calls Tryz.prog 99 #[.pointer (some ⟨rl, 0, none⟩), .agg #[.int .i64 t, .int .i64 v], .slice a l.length cap] w (RActPost (saveL L D t v l) S rl rb lv w) := by
 have HW := Lib.hid h
 obtain ⟨w1, hw1⟩ : ∃ w1, w1 = w.alloc (.cells #[.int .i64 t, .int .i64 v] 61) := ⟨_, rfl⟩
 have hf1 : Fr (fun _ => False) w w1 := by rw [hw1]; exact (Fr.refl _ _).alloc _
 have hb1 : w1.heap[w.heap.size]? = some (.cells #[.int .i64 t, .int .i64 v] 61 (0, 0)) := by rw [hw1]; exact block_new _ _
 have HF1 := Lib.hid hf1
 have HB1 := Lib.hid hb1
 have HR1 := Lib.hid (hr.fr hf1 fun _ _ h => h)
 have HR0 := Lib.hid hr
 have HST := Lib.hid (And.intro hok (And.intro hs (And.intro hnum (And.intro ht (And.intro hv (And.intro hQ (And.intro hI hfew)))))))
 have x0 := cell_of hb1 (i := 0) (v := .int .i64 t) rfl
 have x1 := cell_of hb1 (i := 1) (v := .int .i64 v) rfl
 have HNO : Hid (∀ (W : World) (_ : Fr (fun _ => False) w W) (_ : t < 0 ∨ v < 0 ∨ ∃ e ∈ l, rightE e = false), RActPost (saveL L D t v l) S rl rb lv w (.returned (.int .i64 1)) W) := Lib.hid (fun W hW hc => by
  unfold RActPost
  rw [rsave_wrong hc]
  exact ⟨rfl, ⟨lv, le, (HW.out.quiet hW).plus HW.out.lt hW.size⟩, hW.mono fun _ _ h => h.elim⟩)
 clear h hok hs hnum ht hv hr hQ hfew hf1 hb1
 go_enter Tryz.func99, Tryz.ntmps99
 go_upto_region 1 with fail
 rw [← hw1]
 clear hw1
 by_cases ht0 : t < 0
 ·have HT := Lib.hid ht0
  go_wp2_with fail
  go_ret
  exact HNO.out _ HF1.out (.inl HT.out)
 by_cases hv0 : v < 0
 ·have HV := Lib.hid hv0
  go_wp2_with fail
  go_ret
  exact HNO.out _ HF1.out (.inr (.inl HV.out))
 have dt : decide (t < 0) = false := decide_eq_false ht0
 have dv : decide (v < 0) = false := decide_eq_false hv0
 have HTV := Lib.hid (And.intro ht0 hv0)
 go_upto_block 0 with fail
 go_cut [7] (fun s7 wx => s7 = .string (bs (firstR l l.length)) ∧ Hid ((∀ e ∈ l, rightE e = true) ∧ Fr (fun _ => False) w1 wx))
 case first =>
  go_wp2_with fail
  go_loopg [7, 8] l.length (fun j v7 v8 wr => ∃ i : Nat, i + j = l.length ∧ v8 = .int .i64 (i : Int) ∧ v7 = .string (bs (firstR l i)) ∧ Hid ((∀ e ∈ l.take i, rightE e = true) ∧ Fr (fun _ => False) w1 wr))
  case atStart => exact ⟨0, by omega, rfl, rfl, Lib.hid ⟨fun e he => by simp at he, Fr.refl _ _⟩⟩
  case round =>
   obtain ⟨i, hi, rfl, rfl, HK⟩ := hrel
   have HI := Lib.hid hi
   clear hi
   by_cases hlt : i < l.length
   ·have hlti : (i : Int) < (l.length : Int) := by omega
    obtain ⟨e, he⟩ : ∃ e, l[i]? = some e := ⟨_, List.getElem?_eq_getElem hlt⟩
    obtain ⟨g, off, rfl, hc⟩ := (HR1.out.fr HK.out.2 fun _ _ h => h).cell (by omega)
    have hem : e ∈ l := List.mem_of_getElem? he
    have hin := hI e hem
    have HEM := Lib.hid hem
    have y0 := hc (i * 4 + 0) _ (ents_cell he (j := 0) (v := .int .i64 e.index) rfl)
    have y1 := hc (i * 4 + 1) _ (ents_cell he (j := 1) (v := .int .i64 e.term) rfl)
    have y2 := hc (i * 4 + 2) _ (ents_cell he (j := 2) (v := .int .i64 e.kind) rfl)
    have y3 := hc (i * 4 + 3) _ (ents_cell he (j := 3) (v := .string (bs e.data)) rfl)
    rw [← Nat.add_assoc] at y0 y1 y2 y3
    rw [Nat.add_zero] at y0
    have hsm := ent_small hin.1.1 hin.1.2.1 hin.1.2.2 hin.2
    have z0 := i64_small (n := 0) (by decide) (by decide)
    have HRT := Lib.hid (fun W : World => rrightE_h (w := W) e)
    have HPA : Hid (∀ W : World, Calls Tryz.prog 138 #[recV 2 0 0 e] W fun r w' => r = .returned (.string (bs (entTx e))) ∧ Fr (fun _ => False) W w') := Lib.hid (fun W => rpayload_h z0 z0 hin.1.1 hin.1.2.1 hin.1.2.2 (by omega))
    have HFA : Hid (∀ W : World, Calls Tryz.prog 118 #[.string (bs (entTx e))] W fun r w' => r = .returned (.tuple #[.string (bs (frameL (entTx e))), .int .i64 0]) ∧ Fr (fun _ => False) W w') := Lib.hid (fun W => rframe_at (by omega) rfl)
    have HNX := Lib.hid (firstR_next he)
    have hfl := firstR_len hI i (by omega)
    have hfe : (frameL (entTx e)).length ≤ 768 := by rw [frame_len]; omega
    have HTK : Hid (∀ x, x ∈ l.take (i + 1) → x ∈ l.take i ∨ x = e) := Lib.hid (fun x hx => by
     obtain ⟨h1, h2⟩ := List.getElem?_eq_some_iff.1 he
     rw [List.take_succ_eq_append_getElem h1, h2] at hx
     rcases List.mem_append.1 hx with h | h
     ·exact .inl h
     ·exact .inr (List.mem_singleton.1 h))
    obtain ⟨rt, hrt⟩ : ∃ b, rightE e = b := ⟨_, rfl⟩
    obtain ⟨PT, hpt⟩ : ∃ p, entTx e = p := ⟨_, rfl⟩
    rw [hrt] at HRT
    rw [hpt] at HPA HFA HNX hfe
    obtain ⟨FT, hft⟩ : ∃ p, frameL PT = p := ⟨_, rfl⟩
    rw [hft] at HFA HNX hfe
    obtain ⟨F0, hF0⟩ : ∃ p, firstR l i = p := ⟨_, rfl⟩
    rw [hF0] at HNX hfl ⊢
    unfold entV at HRT
    unfold recV at HPA
    have HRE := Lib.hid hrt
    have zF : (bs F0).size = F0.length := rfl
    have zT : (bs FT).size = FT.length := rfl
    have happ : bs F0 ++ bs FT = bs (F0 ++ FT) := bs_append F0 FT
    clear he hc hem hin hsm z0 hrt hpt hft hF0
    go_wp2_with fail
    refine Calls.mono (HRT.out _) ?_
    rintro r wA ⟨rfl, hfA⟩
    have GA := Lib.hid (HK.out.2.next hfA)
    have u0 := hfA.cell y0 (fun h => h)
    have u1 := hfA.cell y1 (fun h => h)
    have u2 := hfA.cell y2 (fun h => h)
    have u3 := hfA.cell y3 (fun h => h)
    clear hfA y0 y1 y2 y3 HRT
    go_wp2_with fail
    refine Calls.mono (HPA.out _) ?_
    rintro r wB ⟨rfl, hfB⟩
    have GB := Lib.hid (GA.out.next hfB)
    clear hfB u0 u1 u2 u3 HPA
    go_wp2_with fail
    refine Calls.mono (HFA.out _) ?_
    rintro r wC ⟨rfl, hfC⟩
    have GC := Lib.hid (GB.out.next hfC)
    clear hfC HFA
    cases rt with
    | false =>
     go_wp2_with fail
     go_ret
     exact HNO.out _ (HF1.out.next GC.out) (.inr (.inr ⟨e, HEM.out, HRE.out⟩))
    | true =>
     go_wp2_with fail
     go_roundg (l.length - (i + 1))
     case measure => have := HI.out; omega
     case rel => exact ⟨i + 1, by have := HI.out; omega, by go_num, by rw [HNX.out], Lib.hid ⟨fun x hx => by rcases HTK.out x hx with h | h; exact HK.out.1 x h; rw [h]; exact HRE.out, GC.out⟩⟩
   ·have hil : i = l.length := by have := HI.out; omega
    have hlti : ¬ (i : Int) < (l.length : Int) := by omega
    have HRE : Hid (∀ e ∈ l, rightE e = true) := Lib.hid (fun e he => HK.out.1 e (by rw [hil, List.take_length]; exact he))
    clear hlt
    go_wp2_with fail
    go_meet
    exact ⟨rfl, Lib.hid ⟨HRE.out, HK.out.2⟩⟩
 case rest =>
 obtain ⟨rfl, HC⟩ := hcut
 rw [first_all]
 have HWR : Hid (wrongA t v l = false) := save_right hI HTV.out.1 HTV.out.2 HC.out.1
 have HGD : Hid (∀ e ∈ l, GoodE e) := Lib.hid (fun e he => ⟨HC.out.1 e he, (hI e he).1.1, (hI e he).1.2.1, (hI e he).1.2.2, by have := (hI e he).2; omega⟩)
 have hfl := firstR_len hI l.length (Nat.le_refl _)
 rw [first_all] at hfl
 have hFN := first_nil (l := l)
 have HSR := Lib.hid (fun b => save_recs (L := L) (t := t) (v := v) (l := l) (b := b))
 obtain ⟨FE, hFE⟩ : ∃ x, recsL (l.map .ent) = x := ⟨_, rfl⟩
 rw [hFE] at hfl hFN HSR ⊢
 have HFL := Lib.hid hfl
 have HCE := Lib.hid (fun (W : World) (hF : Fr (fun _ => False) w1 W) => And.intro (hF.cell x0 (fun h => h)) (hF.cell x1 (fun h => h)))
 have HFC := Lib.hid HC.out.2
 have HWW := Lib.hid (fun (W : World) (hF : Fr (fun _ => False) w1 W) => HW.out.quiet (HF1.out.next hF))
 obtain ⟨ts, hts⟩ : ∃ x, L.st.t = x := ⟨_, rfl⟩
 obtain ⟨vs, hvs⟩ : ∃ x, L.st.v = x := ⟨_, rfl⟩
 have HTS := Lib.hid (And.intro hts hvs)
 obtain ⟨eqb, heq⟩ : ∃ b, (t == ts && v == vs) = b := ⟨_, rfl⟩
 have HEQ : Hid ((decide (t = L.st.t) && decide (v = L.st.v)) = eqb) := by show _ = _; rw [hts, hvs, ← heq]; rfl
 have hq1 := eqq61 t v ts vs
 rw [heq] at hq1
 have hq2 := neq61 t v ts vs
 rw [heq] at hq2
 have HCF := Lib.hid (fun (W : World) (hF : Fr (fun _ => False) w1 W) => show W.cell? ⟨rl, 0, none⟩ = some (.pointer (some ⟨rb, 0, none⟩)) ∧ W.cell? ⟨rl, 1, none⟩ = some (.int .i64 ts) ∧ W.cell? ⟨rl, 2, none⟩ = some (.int .i64 vs) by
  obtain ⟨a, b, c, _⟩ := (HWW.out W hF).cells
  rw [hts] at b
  rw [hvs] at c
  exact ⟨a, b, c⟩)
 have zE : (bs FE).size = FE.length := rfl
 clear hI hfl hFE x0 x1 hts hvs heq dt dv ht0 hv0
 obtain ⟨k0, k1⟩ := HCE.out _ HFC.out
 obtain ⟨c0, c1, c2⟩ := HCF.out _ HFC.out
 go_upto_region 12 with fail
 go_cut [65] (fun s65 wx => s65 = .bool (idleA L t v l) ∧ Hid (Fr (fun _ => False) w1 wx))
 case first =>
  by_cases hl0 : l = []
  ·have hfe := hFN.2 hl0
   have q0 : ((bs FE).toList == []) = true := by rw [bs_toList, hfe]; rfl
   have q1 : (bs FE).toList.isEmpty = true := by rw [bs_toList, hfe]; rfl
   have HID : Hid (idleA L t v l = eqb) := by show idleA _ _ _ _ = _; unfold idleA; rw [HEQ.out, hl0]; rfl
   clear hl0 hfe hFN
   go_big_quiet (fail)
   go_wp2_with fail
   go_meet
   exact ⟨by rw [HID.out], HFC.out.drewN _⟩
  ·have hfe : FE ≠ [] := fun e => hl0 (hFN.1 e)
   have q0 : ((bs FE).toList == []) = false := by rw [bs_toList]; simpa using hfe
   have q1 : (bs FE).toList.isEmpty = false := by rw [bs_toList]; simpa using hfe
   have q2 : ¬ (bs FE).toList = [] := by rw [bs_toList]; exact hfe
   have q3 : decide (bs FE = ⟨#[]⟩) = false := decide_eq_false fun e => hfe (bs_inj e)
   have HID : Hid (idleA L t v l = false) := by show idleA _ _ _ _ = _; unfold idleA; rw [List.isEmpty_eq_false_iff.2 hl0]; rfl
   clear hl0 hfe hFN
   go_big_quiet (fail)
   go_wp2_with fail
   go_meet
   exact ⟨by rw [HID.out], HFC.out.drewN _⟩
 case rest =>
 obtain ⟨rfl, HFX⟩ := hcut
 obtain ⟨wx, hwn⟩ : ∃ x, x = wc := ⟨_, rfl⟩
 rw [← hwn] at HFX ⊢
 clear hwn k0 k1 c0 c1 c2
 cases hid : idleA L t v l with
 | true =>
  have HE : Hid (saveL L D t v l = (0, (L, D))) := by
   show saveL _ _ _ _ _ = _
   unfold saveL
   rw [if_neg (by rw [HWR.out]; simp), if_pos hid]
  clear hid
  go_wp2_with fail
  go_ret
  unfold RActPost
  rw [HE.out]
  have hF := HF1.out.next HFX.out
  exact ⟨rfl, ⟨lv, le, (HW.out.quiet hF).plus HW.out.lt hF.size⟩, hF.mono fun _ _ h => h.elim⟩
 | false =>
 have HSV := Lib.hid (save_lay (D := D) HWR.out hid)
 clear hid
 obtain ⟨c0, c1, c2⟩ := HCF.out _ HFX.out
 obtain ⟨_, _, _, d3⟩ := (HWW.out _ HFX.out).disk.cells
 rcases HST.out.2.1 with hd | ⟨R, b, hOK⟩
 ·have HE : Hid ((saveL L D t v l).1 = 7 ∧ (saveL L D t v l).2.1.st = L.st ∧ (saveL L D t v l).2.2 = D) := by
   have hap : ∀ n x, appendD D n x = (7, D) := fun n x => by unfold appendD; rw [if_pos hd]
   have hly : layL (grownL L) D (saveRs L t v l) = (7, (grownL L, D)) := by unfold layL; rw [hap, if_pos (by simp)]
   have h := HSV.out
   rw [hly, if_pos (by simp)] at h
   show _ ∧ _ ∧ _
   rw [h]
   exact ⟨rfl, rstill_st (grown_st L), rfl⟩
  rw [hd] at d3
  clear hd
  go_wp2_with fail
  go_ret
  have hF := HF1.out.next HFX.out
  unfold RActPost
  rw [HE.out.1, HE.out.2.1, HE.out.2.2]
  exact ⟨rfl, ⟨lv, le, (HW.out.quiet hF).plus HW.out.lt hF.size⟩, hF.mono fun _ _ h => h.elim⟩
 have hd := hOK.held.alive
 have HOK := Lib.hid hOK
 have HNU := Lib.hid (rnumbers_h (HWW.out _ HFX.out))
 unfold NumbPost at HNU
 rw [hOK.numsLen] at HNU
 have hpl := hOK.many
 have hlast := hOK.lastI
 have hrd := hOK.readLast
 have hsz := hOK.lastSize
 have hle := hOK.lastLe
 have hrg := hOK.held.at'.rangeN
 have hn1 := HST.out.2.2.1
 obtain ⟨n, hn⟩ : ∃ n, L.last.num = n := ⟨_, rfl⟩
 rw [hn] at hlast hrd hsz hrg hn1
 obtain ⟨B, hB⟩ : ∃ B, recsL (R n) = B := ⟨_, rfl⟩
 rw [hB] at hrd hsz
 obtain ⟨pl, hpe⟩ : ∃ p, L.pre.length = p := ⟨_, rfl⟩
 rw [hpe] at hlast HNU hpl
 have HGI := Lib.hid (grown_is hn hpe hsz)
 have HNM : Hid (∀ (k : Nat) (_ : 0 < k) (_ : k < 1000000) (W : World), Calls Tryz.prog 89 #[.int .i64 (k : Int)] W fun e w' => e = .returned (.string (bs (nameW k))) ∧ Fr (fun _ => False) W w') := Lib.hid (fun k h1 h2 W => by rw [← nameX_is h1]; exact rwname_h (by omega))
 have HN1 := Lib.hid (HNM.out n hrg.1 (by omega))
 have HRD : Hid (∀ (W : World) (_ : Fr (fun _ => False) w W), Calls Tryz.prog 88 #[.pointer (some ⟨rb, 0, none⟩), .string (bs (nameW n))] W fun e w' => e = .returned (.tuple #[.string (bs B), .int .i64 0]) ∧ Fr (fun _ => False) W w') := Lib.hid (fun W hq => by have h1 := rread_h ((HW.out.quiet hq).disk) (nameW n); rw [hrd] at h1; exact h1)
 have HLA := Lib.hid hlast
 have HRG := Lib.hid (And.intro hrg.1 hn1)
 have i9 : IntKind.i64.wrap (((pl + 1 : Nat) : Int) - 1) = (pl : Int) := by rw [IntWalk.i64_in _ (by omega)]; omega
 have i8 : IntKind.i64.wrap ((n : Int) + 1) = (n : Int) + 1 := by rw [IntWalk.i64_in _ (by omega)]
 rw [hd] at d3
 have zB : (bs B).size = B.length := rfl
 clear hd hOK hlast hrd hsz hle hrg hB hpe hn hn1
 go_wp2_with fail
 refine Calls.mono HNU.out ?_
 rintro e w2 ⟨v2, rfl, hrow2, hf2⟩
 obtain ⟨na, nc, rfl⟩ : ∃ a c, v2 = .slice a (pl + 1) c := ownsRow_shape hrow2
 obtain ⟨g, off, rfl, hc⟩ := (SRow.of_owns hrow2).cell (by omega)
 have c5 := hc pl (.int .i64 (n : Int)) (by rw [List.getElem?_map, HLA.out]; rfl)
 have HF2 := Lib.hid (HFX.out.next hf2)
 clear hrow2 hf2 hc HNU c0 c1 c2 d3 HFX
 obtain ⟨c0, c1, c2⟩ := HCF.out _ HF2.out
 go_upto_region 18 with fail
 go_cut [14, 15] (fun s14 s15 wx => s14 = .string (bs B) ∧ s15 = .int .i64 0 ∧ Hid (Fr (fun _ => False) w1 wx))
 case first =>
  go_region_with (first
   | (go_at_call 89; (with_reducible refine Calls.mono (HN1.out _) ?_); rintro r wA ⟨rfl, hq⟩; have fA := (show Fr (fun _ => False) w2 _ by repeat (first | exact Fr.refl _ _ | refine Fr.drew ?_)).next hq; have cA := fA.cell c0 (fun h => h); clear hq)
   | (go_at_call 88; (with_reducible refine Calls.mono (HRD.out _ (HF1.out.next (HF2.out.next (show Fr (fun _ => False) w2 _ by repeat (first | exact fA | refine Fr.drew ?_))))) ?_); clear HRD; rintro r wB ⟨rfl, hq⟩; have fB := (show Fr (fun _ => False) w2 _ by repeat (first | exact fA | refine Fr.drew ?_)).next hq; clear hq)
   | fail)
  all_goals
   go_wp2_with fail
   go_meet
   first | exact ⟨rfl, rfl, Lib.hid (HF2.out.next fB)⟩ | exact ⟨rfl, rfl, Lib.hid (HF2.out.next fB.drew)⟩
 case rest =>
 obtain ⟨rfl, rfl, HF5⟩ := hcut
 obtain ⟨w5, hwn⟩ : ∃ x, x = wc := ⟨_, rfl⟩
 rw [← hwn] at HF5 ⊢
 clear hwn HRD HN1 c5 c0 c1 c2
 obtain ⟨M, hM⟩ : ∃ M, grownL L = M := ⟨_, rfl⟩
 have HMS : Hid (M.st = L.st) := by show _ = _; rw [← hM]; exact grown_st L
 rw [hM] at HGI HSR HSV
 go_upto_region 19 with fail
 go_cut [98] (fun s98 wx => s98 = .bool (decide (2000 ≤ B.length) && decide (pl + 1 < 20)) ∧ wx = w5)
 case first =>
  by_cases h1 : 2000 ≤ B.length
  ·have d1 : (2000 : Int) ≤ (B.length : Int) := by omega
   have H1 := Lib.hid h1
   by_cases h2 : pl + 1 < 20
   ·have d2 : (pl : Int) + 1 < 20 := by omega
    have H2 := Lib.hid h2
    clear h1 h2
    go_wp2_with fail
    go_meet
    exact ⟨by rw [decide_eq_true H1.out, decide_eq_true H2.out]; rfl, rfl⟩
   ·have d2 : ¬ (pl : Int) + 1 < 20 := by omega
    have H2 := Lib.hid h2
    clear h1 h2
    go_wp2_with fail
    go_meet
    exact ⟨by rw [decide_eq_true H1.out, decide_eq_false H2.out]; rfl, rfl⟩
  ·have d1 : ¬ (2000 : Int) ≤ (B.length : Int) := by omega
   have H1 := Lib.hid h1
   clear h1
   go_wp2_with fail
   go_meet
   exact ⟨by rw [decide_eq_false H1.out]; rfl, rfl⟩
 case rest =>
 obtain ⟨rfl, hwc⟩ := hcut
 rw [hwc]
 clear hwc
 go_upto_if 98 with fail
 go_cut [13, 14] (fun s13 s14 wx => s13 = .int .i64 (M.last.num : Int) ∧ (∃ C, s14 = .string (bs C) ∧ Hid (C = [] ↔ M.last.size = 0)) ∧ wx = w5)
 case first =>
  rcases HGI.out with ⟨h1, h2, h3, h4⟩ | ⟨h1, h3, h4⟩
  ·have hg : (decide (2000 ≤ B.length) && decide (pl + 1 < 20)) = true := by rw [decide_eq_true h1, decide_eq_true h2]; rfl
   rw [hg]
   have H3 := Lib.hid h3
   have H4 := Lib.hid h4
   clear h1 h2 h3 h4 hg
   go_wp2_with fail
   go_meet
   exact ⟨by rw [H3.out]; go_num, ⟨[], rfl, Lib.hid ⟨fun _ => H4.out, fun _ => rfl⟩⟩, rfl⟩
  ·have hg : (decide (2000 ≤ B.length) && decide (pl + 1 < 20)) = false := by
    by_cases h5 : 2000 ≤ B.length
    ·rw [decide_eq_false (fun h6 => h1 ⟨h5, h6⟩), Bool.and_false]
    ·rw [decide_eq_false h5]; rfl
   rw [hg]
   have H3 := Lib.hid h3
   have H4 := Lib.hid h4
   clear h1 h3 h4 hg
   go_wp2_with fail
   go_meet
   exact ⟨by rw [H3.out], ⟨B, rfl, Lib.hid (by rw [H4.out]; exact List.length_eq_zero_iff.symm)⟩, rfl⟩
 case rest =>
 obtain ⟨rfl, ⟨C, rfl, HCB⟩, hwc⟩ := hcut
 rw [hwc]
 clear hwc
 obtain ⟨m, hm⟩ : ∃ m, M.last.num = m := ⟨_, rfl⟩
 have HMR : Hid (0 < m ∧ m < 1000000) := by
  show _ ∧ _
  have h1 := HRG.out
  rcases HGI.out with ⟨_, _, h3, _⟩ | ⟨_, h3, _⟩
  ·omega
  ·omega
 have HLL := Lib.hid (layD_L (M := M) (D := D) (rs := saveRs L t v l))
 have HLS := Lib.hid (layL_st (M := M) (D := D) (rs := saveRs L t v l))
 rw [hm] at HLL ⊢
 clear hM hm
 obtain ⟨k0, k1⟩ := HCE.out _ HF5.out
 obtain ⟨c0, c1, c2⟩ := HCF.out _ HF5.out
 go_upto_region 22 with fail
 go_cut [110] (fun s110 wx => s110 = .bool (!eqb || decide (M.last.size = 0)) ∧ Hid (Fr (fun _ => False) w1 wx))
 case first =>
  by_cases hC : C = []
  ·have q0 : ((bs C).toList == []) = true := by rw [bs_toList, hC]; rfl
   have q1 : (bs C).toList.isEmpty = true := by rw [bs_toList, hC]; rfl
   have HID : Hid ((!eqb || decide (M.last.size = 0)) = true) := by show _ = _; rw [decide_eq_true (HCB.out.1 hC), Bool.or_true]
   clear hC
   go_big_quiet (fail)
   go_wp2_with fail
   go_meet
   exact ⟨by rw [HID.out], HF5.out.drewN _⟩
  ·have q0 : ((bs C).toList == []) = false := by rw [bs_toList]; simpa using hC
   have q1 : (bs C).toList.isEmpty = false := by rw [bs_toList]; simpa using hC
   have q2 : ¬ (bs C).toList = [] := by rw [bs_toList]; exact hC
   have q3 : decide (bs C = ⟨#[]⟩) = false := decide_eq_false fun e => hC (bs_inj e)
   have HID : Hid ((!eqb || decide (M.last.size = 0)) = !eqb) := by show _ = _; rw [decide_eq_false (fun h => hC (HCB.out.2 h)), Bool.or_false]
   clear hC
   go_big_quiet (fail)
   go_wp2_with fail
   go_meet
   exact ⟨by rw [HID.out], HF5.out.drewN _⟩
 case rest =>
 obtain ⟨rfl, HF6⟩ := hcut
 obtain ⟨w6, hwn⟩ : ∃ x, x = wc := ⟨_, rfl⟩
 rw [← hwn] at HF6 ⊢
 clear hwn k0 k1 c0 c1 c2
 obtain ⟨k0, k1⟩ := HCE.out _ HF6.out
 have HSX := HSR.out (!eqb) (by rw [HEQ.out])
 have z3 := i64_small (n := 0) (by decide) (by decide)
 have hlh := hard_len HST.out.2.2.2.1 HST.out.2.2.2.2.1
 obtain ⟨FH, hFH⟩ : ∃ F, frameL (hardTx t v) = F := ⟨_, rfl⟩
 have hhl : FH.length ≤ 38 := by rw [← hFH, frame_len]; omega
 have HRH := Lib.hid (fun W : World => rfr_h (w := W) (k := 1) (t := t) (v := v) (e := zeroE) (f := FH) HST.out.2.2.2.1 HST.out.2.2.2.2.1 z3 z3 z3 (by decide) (by show (hardTx t v).length ≤ 65536; omega) (by rw [← hFH]; rfl))
 unfold recV zeroE at HRH
 rw [hFH] at HSX
 have HHL := Lib.hid hhl
 have zH : (bs FH).size = FH.length := rfl
 have happ : bs FH ++ bs FE = bs (FH ++ FE) := bs_append FH FE
 have HFE : FE.length ≤ 8000 := by have := HFL.out; omega
 clear hFH hlh z3
 go_upto_if 110 with fail
 go_cut [7] (fun s7 wx => s7 = .string (bs (recsL (saveRs L t v l))) ∧ Hid ((recsL (saveRs L t v l)).length ≤ 9000 ∧ Fr (fun _ => False) w1 wx))
 case first =>
  cases hb : (!eqb || decide (M.last.size = 0)) with
  | true =>
   have HE : Hid (recsL (saveRs L t v l) = FH ++ FE) := by
    show _ = _
    rw [HSX, if_pos]
    rcases Bool.or_eq_true_iff.1 hb with h | h
    ·exact .inl h
    ·exact .inr (of_decide_eq_true h)
   clear hb HSX
   go_wp2_with fail
   refine Calls.mono (HRH.out _) ?_
   rintro r wA ⟨rfl, hq⟩
   have GA := Lib.hid (HF6.out.next hq)
   clear hq k0 k1
   go_wp2_with fail
   go_meet
   exact ⟨by rw [HE.out], Lib.hid ⟨by rw [HE.out, List.length_append]; have := HHL.out; omega, GA.out⟩⟩
  | false =>
   have HE : Hid (recsL (saveRs L t v l) = FE) := by
    show _ = _
    rw [HSX, if_neg]
    rintro (h | h)
    ·rw [h] at hb; cases hb
    ·rw [decide_eq_true h, Bool.or_true] at hb; cases hb
   clear hb HSX
   go_wp2_with fail
   go_meet
   exact ⟨by rw [HE.out], Lib.hid ⟨by rw [HE.out]; omega, HF6.out⟩⟩
 case rest =>
 obtain ⟨rfl, HF7⟩ := hcut
 obtain ⟨w7, hwn⟩ : ∃ x, x = wc := ⟨_, rfl⟩
 rw [← hwn] at HF7 ⊢
 clear hwn k0 k1 HSX HRH happ
 obtain ⟨rs, hrs⟩ : ∃ rs, saveRs L t v l = rs := ⟨_, rfl⟩
 have HFO := Lib.hid (save_st L t v l)
 rw [hrs] at HF7 HLL HLS HSV HFO ⊢
 clear hrs
 have HN2 := Lib.hid (HNM.out m HMR.out.1 HMR.out.2)
 have HLY := Lib.hid (fun (W : World) (hq : Fr (fun _ => False) w1 W) => rlay_h (HWW.out W hq) (nameW m) (recsL rs) (by
  have := nameW_ok (n := m) HMR.out.2
  unfold nameOK at this
  simp only [Bool.and_eq_true, decide_eq_true_eq] at this
  omega) (by have := HF7.out.1; omega))
 rw [HLL.out] at HLY
 obtain ⟨⟨c, L2, D2⟩, hp⟩ : ∃ q, layL M D rs = q := ⟨_, rfl⟩
 rw [hp] at HLY HLS HSV
 dsimp only at HLY HLS HSV
 obtain ⟨X, hX⟩ : ∃ X, recsL rs = X := ⟨_, rfl⟩
 rw [hX] at HLY HF7 ⊢
 have zX : (bs X).size = X.length := rfl
 clear hp hX HLL
 go_wp2_with fail
 refine Calls.mono (HN2.out _) ?_
 rintro e w8 ⟨rfl, hf8⟩
 have HF8 := Lib.hid (HF7.out.2.next hf8)
 clear hf8
 have HLX := Lib.hid (HLY.out _ HF8.out)
 unfold RLayPost at HLX
 go_wp2_with fail
 refine Calls.mono HLX.out ?_
 rintro e w9 ⟨rfl, ⟨lv9, hw9⟩, hf9⟩
 have HF9 : Hid (Fr (RAll rl rb lv) w w9) := (HF1.out.next HF8.out).back hf9
 have HW9 := Lib.hid (hw9.back HW.out.lt (HF1.out.next HF8.out) hf9.size)
 have hb9 := hf9.keep (HF8.out.keep HB1.out (fun h => h)) (fun h => by have := HW.out.lt _ (HW.out.srb _ h); omega)
 clear hw9 hf9 HLX HLY
 by_cases hc : c = 0
 ·have r1 : (c != 0) = false := by simpa using hc
  have HE : Hid (saveL L D t v l = (0, (foldR L2 rs, D2))) := by
   have h := HSV.out
   rw [if_neg (by rw [hc]; simp)] at h
   exact h
  have HST2 : Hid ((foldR L2 rs).st = ⟨t, v, l.foldl putE L.st.ents⟩) := by
   show _ = _
   rw [(foldR_num L2 rs).2.2.2, HLS.out, HMS.out, HFO.out]
  have k0 := cell_of hb9 (i := 0) (v := .int .i64 t) rfl
  have k1 := cell_of hb9 (i := 1) (v := .int .i64 v) rfl
  obtain ⟨_, c1, c2, _⟩ := HW9.out.cells
  have g1 := free_of 1 HW9.out.head
  have g2 := free_of 2 HW9.out.head
  have hl9 := lt_of_block HW9.out.head
  clear hc hb9
  go_wp2_with fail
  go_loopg [17] l.length (fun j v17 wr => ∃ (i : Nat) (le2 : Value), i + j = l.length ∧ v17 = .int .i64 (i : Int) ∧ Hid (SvRel w S rl rb lv lv9 t v L.st.ents D2 l i le2 wr))
  case atStart =>
   refine ⟨0, le, by omega, rfl, Lib.hid ⟨?_, ?_, HST.out.1.run, HST.out.2.2.2.2.2.2.2⟩⟩
   ·exact (HW9.out.setH t v).mono (fun k hk => by unfold Plus at hk ⊢; simpa using hk) (fun k hk => by unfold Plus at hk; simp at hk ⊢; exact HW9.out.lt k (by unfold Plus; exact hk))
   ·exact (HF9.out.setCell (p := ⟨rl, 1, none⟩) (.inl (.inl rfl)) _).setCell (p := ⟨rl, 2, none⟩) (.inl (.inl rfl)) _
  case round =>
   obtain ⟨i, le2, hi, rfl, HK⟩ := hrel
   have HI := Lib.hid hi
   clear hi
   by_cases hlt : i < l.length
   ·have hlti : (i : Int) < (l.length : Int) := by omega
    obtain ⟨e, he⟩ : ∃ e, l[i]? = some e := ⟨_, List.getElem?_eq_getElem hlt⟩
    have HEI := Lib.hid he
    obtain ⟨g, off, rfl, hc⟩ := (HR0.out.fr HK.out.fr (fun k hk h => HST.out.2.2.2.2.2.1 k hk (by rcases h with h | h; rw [h]; exact HW.out.srl; exact HW.out.srb k h))).cell (by omega)
    have y0 := hc (i * 4 + 0) _ (ents_cell he (j := 0) (v := .int .i64 e.index) rfl)
    have y1 := hc (i * 4 + 1) _ (ents_cell he (j := 1) (v := .int .i64 e.term) rfl)
    have y2 := hc (i * 4 + 2) _ (ents_cell he (j := 2) (v := .int .i64 e.kind) rfl)
    have y3 := hc (i * 4 + 3) _ (ents_cell he (j := 3) (v := .string (bs e.data)) rfl)
    rw [← Nat.add_assoc] at y0 y1 y2 y3
    rw [Nat.add_zero] at y0
    have HGE := Lib.hid (HGD.out e (List.mem_of_getElem? he))
    have HPU := Lib.hid (fun (W : World) (hq : Fr (fun _ => False) wr W) => rput_h (w := W) ((HK.out.wal.quiet hq).ents) (fun k hk => (HK.out.wal.quiet hq).lt k hk.1) e HK.out.run HGE.out (by have := HK.out.few; have := HST.out; dsimp only; omega))
    unfold EntsMade entV at HPU
    obtain ⟨_, _, _, c3⟩ := HK.out.wal.cells
    have HHD := Lib.hid HK.out.wal.head
    clear he hc
    go_upto_region 31 with fail
    go_region_with (first
     | (go_at_call 102; (with_reducible refine Calls.mono (HPU.out _ (show Fr (fun _ => False) wr _ by repeat (first | exact Fr.refl _ _ | refine Fr.drew ?_))) ?_); clear HPU; rintro r w2 ⟨v2, rfl, hr2, hq⟩; obtain ⟨sa2, sc2, rfl⟩ := ownsRow_shape hr2; have f2 := (show Fr (fun _ => False) wr _ by repeat (first | exact Fr.refl _ _ | refine Fr.drew ?_)).next hq; have g3 := free_of 3 (f2.keep HHD.out (fun h => h)); have c3b := f2.cell c3 (fun h => h); have hl2 := lt_of_block (f2.keep HHD.out (fun h => h)); have HN := Lib.hid (HK.out.next HW.out.lt f2 HEI.out HGE.out hr2))
     | fail)
    all_goals
     go_wp2_with fail
     go_roundg (l.length - (i + 1))
     case measure => have := HI.out; omega
     case rel =>
      first
       | exact ⟨i + 1, _, by have := HI.out; omega, by go_num, HN⟩
       | exact ⟨i + 1, _, by have := HI.out; omega, by go_num, Lib.hid (HN.out.quiet HW.out.lt (Fr.refl _ _).drew)⟩
   ·have hlti : ¬ (i : Int) < (l.length : Int) := by omega
    have hil : i = l.length := by have := HI.out; omega
    clear hlt
    go_wp2_with fail
    go_ret
    unfold RActPost
    rw [HE.out]
    refine ⟨rfl, ⟨lv9, le2, ?_⟩, HK.out.fr⟩
    show RWal _ _ rl rb lv9 le2 (foldR L2 rs).st D2
    rw [HST2.out]
    have h := HK.out.wal
    rw [hil, List.take_length] at h
    exact h
 ·have r1 : (c != 0) = true := by simpa using hc
  have HE : Hid (saveL L D t v l = (c, (stillL L L2 D2, D2))) := by
   have h := HSV.out
   rw [if_pos hc] at h
   exact h
  clear hc hb9
  go_wp2_with fail
  go_ret
  unfold RActPost
  rw [HE.out]
  exact ⟨rfl, ⟨lv9, le, by show RWal _ _ rl rb lv9 le (stillL L L2 D2).st D2; rw [rstill_st (HLS.out.trans HMS.out)]; exact HW9.out⟩, HF9.out⟩
end
end Go.Proofs.YtgmghopcppniaaaGreatDoor
