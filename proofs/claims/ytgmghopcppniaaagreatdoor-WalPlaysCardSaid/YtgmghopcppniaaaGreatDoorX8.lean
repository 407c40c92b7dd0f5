/- The reference's log: the records of a segment's bytes: walked. -/
import Derived.Test.YtgmghopcppniaaaGreatDoorX7
import Derived.Test.YtgmghopcppniaaaGreatDoorFR
namespace Go.Proofs.YtgmghopcppniaaaGreatDoor
open Go.RowKit Go.Lib

def recXs (r : RecD) : List Value := recX (RecQ.of r).k (RecQ.of r).t (RecQ.of r).v (RecQ.of r).e
def recsC (l : List RecD) : List Value := l.flatMap recXs
theorem recsC_app (a b : List RecD) : recsC (a ++ b) = recsC a ++ recsC b := List.flatMap_append
theorem recsC_len : ∀ l : List RecD, (recsC l).length = l.length * 7
 | [] => rfl
 | r :: l => by
  have h := recsC_len l
  show (recXs r ++ recsC l).length = _
  rw [List.length_append, h, List.length_cons]
  show 7 + _ = _
  omega
theorem recsC_one (l : List RecD) : ∀ u ∈ recsC l, u.oneCell' = true := by
 intro u hu
 obtain ⟨r, _, hu⟩ := List.mem_flatMap.1 hu
 unfold recXs recX at hu
 simp only [List.mem_cons, List.not_mem_nil, or_false] at hu
 rcases hu with rfl | rfl | rfl | rfl | rfl | rfl | rfl <;> rfl
theorem rrec_some {w : World} {s : Str} {r : RecD} (hs : s.length ≤ 1000000) (h : recL s = some r) : Calls Tryz.prog 140 #[.string (bs s)] w fun e w' => e = .returned (.tuple #[(RecQ.of r).val, .bool true]) ∧ Fr (fun _ => False) w w' := by
 refine (rrecord_h s hs).mono ?_
 rintro e w' ⟨ok, rfl, h1, hf⟩
 obtain ⟨h2, h3⟩ := recQ_some h
 obtain rfl : ok = true := h1.2 h3
 exact ⟨by rw [h2], hf⟩
def RecNo (w : World) (e : Ending) (w' : World) : Prop := ∃ q : RecQ, e = .returned (.tuple #[q.val, .bool false]) ∧ Fr (fun _ => False) w w'
theorem rrec_none {w : World} {s : Str} (hs : s.length ≤ 1000000) (h : recL s = none) : Calls Tryz.prog 140 #[.string (bs s)] w (RecNo w) := by
 refine (rrecord_h s hs).mono ?_
 rintro e w' ⟨ok, rfl, h1, hf⟩
 obtain rfl : ok = false := by cases ok with | false => rfl | true => exact absurd (h1.1 rfl) (recQ_none hs h)
 exact ⟨_, rfl, hf⟩
/-- what a frame says, as this function hands it out -/
theorem runf_ok {w : World} {s t : Str} {n : Nat} (hs : s.length ≤ 1000000) (h : unframeL s = .ok (t, n)) : Calls Tryz.prog 115 #[.string (bs s)] w fun e w' => e = .returned (.tuple #[.string (bs t), .int .i64 (n : Int), .int .i64 0]) ∧ Fr (fun _ => False) w w' := by
 refine (runframe_h s hs).mono ?_
 unfold UnfPost
 intro e w' hh
 rw [show unfD s = ((t, (n : Int)), 0) by unfold unfD; rw [h]] at hh
 exact hh
theorem runf_err {w : World} {s : Str} {er : Int} (hs : s.length ≤ 1000000) (h : unframeL s = .error er) : Calls Tryz.prog 115 #[.string (bs s)] w fun e w' => e = .returned (.tuple #[.string (bs []), .int .i64 0, .int .i64 er]) ∧ Fr (fun _ => False) w w' := by
 refine (runframe_h s hs).mono ?_
 unfold UnfPost
 intro e w' hh
 rw [show unfD s = (([], 0), er) by unfold unfD; rw [h]] at hh
 exact hh
def RecsPost (s : Str) (w : World) (e : Ending) (w' : World) : Prop :=
 ∃ v, e = .returned (.tuple #[v, .int .i64 ((readS s).1.2 : Nat), .int .i64 (readS s).2]) ∧ w'.ownsRow w.heap.size 148 7 v (readS s).1.1.length (recsC (readS s).1.1) ∧ Fr (fun _ => False) w w'
theorem winfo148 : (Tryz.prog.info? 148).map (fun i => (i.zero, i.size, i.bytes)) = some (some (.agg #[.int .i64 0, .int .i64 0, .int .i64 0, .int .i64 0, .int .i64 0, .int .i64 0, .string ⟨#[]⟩]), 7, 64) := by kernel_rfl
structure RsRel (w : World) (s : Str) (k : Nat) (l : List RecD) (v : Value) (wr : World) : Prop where
 eq : readS s = ((l ++ (readS (s.drop k)).1.1, k + (readS (s.drop k)).1.2), (readS (s.drop k)).2)
 row : wr.ownsRow w.heap.size 148 7 v l.length (recsC l)
 fr : Fr (fun _ => False) w wr
 few : l.length ≤ k
theorem recs_post {w wr w' : World} {s : Str} {k : Nat} {l : List RecD} {v : Value} {e : Int} (h : RsRel w s k l v wr) (he : readS (s.drop k) = (([], 0), e)) (hf : Fr (fun _ => False) wr w') : RecsPost s w (.returned (.tuple #[v, .int .i64 (k : Int), .int .i64 e])) w' := by
 have h1 := h.eq
 rw [he] at h1
 simp only [List.append_nil, Nat.add_zero] at h1
 unfold RecsPost
 rw [h1]
 exact ⟨v, rfl, ownsRow_keep h.row fun k hk => hf.block k (h.row.lt k hk).2 (fun h => h), h.fr.next hf⟩
set_option maxRecDepth 100000 in
set_option maxHeartbeats 16000000 in
theorem rrecords_h {w : World} (s : Str) (hs : s.length ≤ 200000) : Calls Tryz.prog 90 #[.string (bs s)] w (RecsPost s w) := by
 obtain ⟨i0, hi, hi0, hi1, hi2⟩ := info_parts winfo148
 have hsz : (bs s).size = s.length := rfl
 have HR0 : Hid (RsRel w s 0 [] (.slice none 0 0) w) := ⟨by simp, by simpa [recsC] using World.ownsRow_nil w _ _ _, Fr.refl _ _, Nat.le_refl _⟩
 go_enter Tryz.func90, Tryz.ntmps90
 go_wp2_with fail
 go_loopg [5, 6] s.length (fun j v5 v6 wr => ∃ (k : Nat) (l : List RecD), k + j = s.length ∧ v6 = .int .i64 (k : Int) ∧ Hid (RsRel w s k l v5 wr))
 case atStart => exact ⟨0, [], by omega, rfl, HR0⟩
 case round =>
  obtain ⟨k, l, hk, rfl, HK⟩ := hrel
  have HKK := Lib.hid hk
  clear hk HR0
  obtain ⟨sa, sc, rfl⟩ : ∃ a c, u5 = .slice a l.length c := ownsRow_shape HK.out.row
  by_cases hlt : k < s.length
  ·have hlti : (k : Int) < (s.length : Int) := by omega
   have e1 := fun (W : World) => xslice_from (w := W) s (Nat.le_of_lt hlt) rfl
   have hdl : (s.drop k).length ≤ 1000000 := by rw [List.length_drop]; omega
   have hdn : s.drop k ≠ [] := List.ne_nil_of_length_pos (by rw [List.length_drop]; omega)
   obtain ⟨rest, hrest⟩ : ∃ r, s.drop k = r := ⟨_, rfl⟩
   rw [hrest] at hdl hdn e1
   have HREST := Lib.hid hrest
   have HDN := Lib.hid hdn
   clear hrest hdn
   cases hu : unframeL rest with
   | error er =>
    have HU := Lib.hid (fun W : World => runf_err (w := W) hdl hu)
    have HRE := Lib.hid (readS_err HDN.out hu)
    have he0 := unframe_err hu
    clear hu
    go_wp2_with fail
    refine Calls.mono (HU.out _) ?_
    rintro e w2 ⟨rfl, hf2⟩
    have HF2 := Lib.hid hf2
    clear hf2
    by_cases h9 : er = 9
    ·have q9 : (er == 9) = true := by rw [h9]; rfl
     have HE9 : Hid (readS (s.drop k) = (([], 0), er)) := by show _ = _; rw [HREST.out, HRE.out, h9, if_pos rfl]
     clear h9 he0
     go_wp2_with fail
     go_ret3
     exact recs_post HK.out HE9.out HF2.out
    ·have q9 : (er == 9) = false := by simpa using h9
     have q0 : (er == 0) = false := by rcases he0 with rfl | rfl | rfl <;> rfl
     have q1 : (er != 0) = true := by rcases he0 with rfl | rfl | rfl <;> rfl
     have q2 : ¬ er = 0 := by rcases he0 with rfl | rfl | rfl <;> decide
     have HE9 : Hid (readS (s.drop k) = (([], 0), 8)) := by show _ = _; rw [HREST.out, HRE.out, if_neg h9]
     have HRN := Lib.hid (fun W : World => rrec_none (w := W) (s := []) (by decide) rfl)
     unfold RecNo RecQ.val recV at HRN
     clear h9 he0
     go_wp2_with fail
     refine Calls.mono (HRN.out _) ?_
     rintro e w3 ⟨q, rfl, hf3⟩
     have HF3 := Lib.hid (HF2.out.next hf3)
     clear hf3
     go_wp2_with fail
     go_ret3
     exact recs_post HK.out HE9.out (by repeat (first | exact HF3.out | exact HF3.out.alloc _ | refine Fr.setCell ?_ (.inr HF3.out.size) _ | fail))
   | ok p =>
    obtain ⟨t, n⟩ := p
    have HU := Lib.hid (fun W : World => runf_ok (w := W) hdl hu)
    obtain ⟨hnx, hn1, hn2, hn3⟩ := unframe_back hu
    clear hnx
    have htl : t.length ≤ 1000000 := by omega
    have hn0 : 0 < n ∧ n ≤ rest.length := by omega
    have hrl : rest.length = s.length - k := by rw [← HREST.out, List.length_drop]
    have HN := Lib.hid (And.intro hn0 hrl)
    clear hn1 hn2 hn3 hn0 hrl
    go_wp2_with fail
    refine Calls.mono (HU.out _) ?_
    rintro e w2 ⟨rfl, hf2⟩
    have HF2 := Lib.hid hf2
    clear hf2
    cases hr : recL t with
    | none =>
     have HE9 : Hid (readS (s.drop k) = (([], 0), 8)) := by show _ = _; rw [HREST.out]; exact readS_bad hu hr
     have HRN := Lib.hid (fun W : World => rrec_none (w := W) htl hr)
     unfold RecNo RecQ.val recV at HRN
     clear hr hu
     go_wp2_with fail
     refine Calls.mono (HRN.out _) ?_
     rintro e w3 ⟨q, rfl, hf3⟩
     have HF3 := Lib.hid (HF2.out.next hf3)
     clear hf3
     go_wp2_with fail
     go_ret3
     exact recs_post HK.out HE9.out (by repeat (first | exact HF3.out | exact HF3.out.alloc _ | refine Fr.setCell ?_ (.inr HF3.out.size) _ | fail))
    | some r =>
     have HE9 := Lib.hid (readS_more hu hr)
     have HRS := Lib.hid (fun W : World => rrec_some (w := W) htl hr)
     obtain ⟨q, hq⟩ : ∃ q, RecQ.of r = q := ⟨_, rfl⟩
     rw [hq] at HRS
     unfold RecQ.val recV at HRS
     have HQ : Hid (recsC [r] = recX q.k q.t q.v q.e) := by show _ = _; rw [← hq]; simp [recsC, recXs]
     clear hr hu hq
     go_wp2_with fail
     refine Calls.mono (HRS.out _) ?_
     rintro e w3 ⟨rfl, hf3⟩
     have HF3 := Lib.hid (HF2.out.next hf3)
     clear hf3
     go_upto_region 10 with fail
     obtain ⟨w4, hw4⟩ : ∃ w4, w4 = w3.alloc (.cells #[.int .i64 q.k, .int .i64 q.t, .int .i64 q.v, .int .i64 q.e.index, .int .i64 q.e.term, .int .i64 q.e.kind, .string (bs q.e.data)] 148) := ⟨_, rfl⟩
     rw [← hw4]
     have hb4 : w4.heap[w3.heap.size]? = some (.cells #[.int .i64 q.k, .int .i64 q.t, .int .i64 q.v, .int .i64 q.e.index, .int .i64 q.e.term, .int .i64 q.e.kind, .string (bs q.e.data)] 148 (0, 0)) := by rw [hw4]; exact block_new _ _
     have HF4 : Hid (Fr (fun _ => False) wr w4) := by show Fr _ _ _; rw [hw4]; exact HF3.out.alloc _
     have z0 := cell_of hb4 (i := 0) (v := .int .i64 q.k) rfl
     have z1 := cell_of hb4 (i := 1) (v := .int .i64 q.t) rfl
     have z2 := cell_of hb4 (i := 2) (v := .int .i64 q.v) rfl
     have z3 := cell_of hb4 (i := 3) (v := .int .i64 q.e.index) rfl
     have z4 := cell_of hb4 (i := 4) (v := .int .i64 q.e.term) rfl
     have z5 := cell_of hb4 (i := 5) (v := .int .i64 q.e.kind) rfl
     have z6 := cell_of hb4 (i := 6) (v := .string (bs q.e.data)) rfl
     have hl4 := lt_of_block hb4
     have hwsz : w.heap.size ≤ w4.heap.size := (HK.out.fr.next HF4.out).size
     have hfew := HK.out.few
     have HOWN : Hid (w4.ownsRow w.heap.size 148 7 (.slice sa l.length sc) l.length (recsC l)) := ownsRow_keep HK.out.row fun k hk => HF4.out.block k (HK.out.row.lt k hk).2 (fun h => h)
     have HFX : Hid (Fr (fun _ => False) w4 (w4.alloc (.cells #[.int .i64 q.k, .int .i64 q.t, .int .i64 q.v, .int .i64 q.e.index, .int .i64 q.e.term, .int .i64 q.e.kind, .string (bs q.e.data)] 148))) := (Fr.refl _ _).alloc _
     have HROW : Hid ((w4.alloc (.cells #[.int .i64 q.k, .int .i64 q.t, .int .i64 q.v, .int .i64 q.e.index, .int .i64 q.e.term, .int .i64 q.e.kind, .string (bs q.e.data)] 148)).ownsRow w.heap.size 148 7 (.slice sa l.length sc) l.length (recsC l)) := HOWN.out.alloc _
     have HNEW : Hid (SRow (w4.alloc (.cells #[.int .i64 q.k, .int .i64 q.t, .int .i64 q.v, .int .i64 q.e.index, .int .i64 q.e.term, .int .i64 q.e.kind, .string (bs q.e.data)] 148)) (fun _ => True) 7 (.slice (some ⟨w4.heap.size, 0, none⟩) 1 1) 1 (recX q.k q.t q.v q.e)) := SRow.of_block (e := 148) (f := (0, 0)) (block_new _ _) rfl (by simp [maxLen]) trivial
     have HLN : Hid (wrap64 ((k : Int) + (n : Int)) = ((k + n : Nat) : Int)) := by show _ = _; rw [IntWalk.wrap64_in _ (by have := HN.out; omega)]; omega
     clear hw4 hb4
     go_wp2_with (at_builtin; refine wpList_append_row rfl (.tmp 42) (.tmp 44) 149 rfl w.heap.size 148 i0 (.agg #[.int .i64 0, .int .i64 0, .int .i64 0, .int .i64 0, .int .i64 0, .int .i64 0, .string ⟨#[]⟩]) 7 64 Tryz.underlying149 hi hi0 hi1 hi2 rfl (by decide) (.slice sa l.length sc) l.length _ rfl HROW.out (fun _ => True) _ 1 (recX q.k q.t q.v q.e) rfl HNEW.out ?c1 ?c2 (by omega) (Nat.le_trans hwsz HFX.out.size) ?_)
     case c1 => intro u hu; have h := recsC_one [r] u; rw [HQ.out] at h; exact h hu
     case c2 => unfold maxLen; omega
     intro b8 c8 w8 hown8 hgrow8 _
     have HR8 : Hid (RsRel w s (k + n) (l ++ [r]) (.slice b8 (l.length + 1) c8) w8) := by
      refine ⟨?_, ?_, ((HK.out.fr.next HF4.out).alloc _).grown hgrow8 fun k hk => .inr (HOWN.out.lt k hk).1, ?_⟩
      ·rw [HK.out.eq, HREST.out, HE9.out, ← List.drop_drop, HREST.out]
       simp [Nat.add_assoc]
      ·rw [List.length_append, List.length_singleton, recsC_app, HQ.out]
       exact hown8
      ·rw [List.length_append, List.length_singleton]; have := HN.out; omega
     have HL8 : Hid ((l ++ [r]).length = l.length + 1) := by show _ = _; rw [List.length_append]; rfl
     clear hown8 hgrow8
     go_wp2_with fail
     go_roundg (s.length - (k + n))
     case measure => have := HKK.out; have := HN.out; omega
     case rel => exact ⟨k + n, l ++ [r], by have := HN.out; omega, congrArg (Value.int .i64) HLN.out, HR8⟩
  ·obtain rfl : k = s.length := by have := HKK.out; omega
   have hlti : ¬ (s.length : Int) < (s.length : Int) := by omega
   have HE9 : Hid (readS (s.drop s.length) = (([], 0), 0)) := by show _ = _; rw [List.drop_length]; exact readS_nil
   go_wp2_with fail
   go_ret3
   exact recs_post HK.out HE9.out (Fr.refl _ _)
end Go.Proofs.YtgmghopcppniaaaGreatDoor
