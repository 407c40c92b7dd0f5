/- The reference's frames of a base: walked. -/
import Derived.Test.YtgmghopcppniaaaGreatDoorR3
namespace Go.Proofs.YtgmghopcppniaaaGreatDoor
open Go.RowKit Go.Lib

theorem rint_at {w : World} {n : Int} (hn : I64 n) {t : Str} (ht : intL n = t) : Calls Tryz.prog 117 #[.int .i64 n] w fun e w' => e = .returned (.string (bs t)) ∧ Fr (fun _ => False) w w' := by
  rw [← ht]; exact rint_h hn
theorem rframe_at {w : World} {s t : Str} (hs : s.length ≤ 65536) (ht : frameL s = t) : Calls Tryz.prog 118 #[.string (bs s)] w fun e w' => e = .returned (.tuple #[.string (bs t), .int .i64 0]) ∧ Fr (fun _ => False) w w' := by
  have h := rframe_h (w := w) s (by omega)
  rw [show frameD s = (frameL s, 0) from if_pos hs, ht] at h
  exact h
def FrPost (b : BaseD) (w : World) (e : Ending) (w' : World) : Prop := ∃ v, e = .returned v ∧ w'.ownsRow w.heap.size 9 1 v (payloadsL b).length (((payloadsL b).map frameL).map fun s => .string (bs s)) ∧ Fr (fun _ => False) w w'
theorem info9 : (Tryz.prog.info? 9).map (fun i => (i.zero, i.size, i.bytes)) = some (some (.string ⟨#[]⟩), 1, 16) := by kernel_rfl
/-- while the chunks are framed -/
structure FRel (w1 : World) (b : BaseD) (at' : Nat) (pre : List Str) (m : Nat) (v : Value) (wr : World) : Prop where
  all : pre ++ (chunksL (b.data.drop at')).map frameL = (payloadsL b).map frameL
  len : m = pre.length
  pos : 0 < m
  row : wr.ownsRow w1.heap.size 9 1 v m (pre.map fun s => .string (bs s))
  fr : Fr (fun _ => False) w1 wr
set_option maxRecDepth 100000 in
set_option maxHeartbeats 16000000 in
theorem rframes_h {w : World} {S : Nat → Prop} {b : BaseD} {v : Value} (h : BaseIn w S b v) (hr : rightB b = true) : Calls Tryz.prog 65 #[baseV b v] w (FrPost b w) := by
  obtain ⟨hrow, hnums, hidx, htrm, hdat⟩ := h
  obtain ⟨a, cap, rfl, hcap, hcap2⟩ := hrow.form
  unfold baseV
  have hvl := (right_voters hr).1
  obtain ⟨w1, hw1⟩ : ∃ w1, w1 = w.alloc (.cells #[.int .i64 b.index, .int .i64 b.term, .slice a b.voters.length cap, .string (bs b.data)] 24) := ⟨_, rfl⟩
  have HF : Hid (Fr (fun _ => False) w w1) := by show Fr _ _ _; rw [hw1]; exact (Fr.refl _ _).alloc _
  have hB : w1.heap[w.heap.size]? = some (.cells #[.int .i64 b.index, .int .i64 b.term, .slice a b.voters.length cap, .string (bs b.data)] 24 (0, 0)) := by rw [hw1]; exact block_new _ _
  have x0 := cell_of hB (i := 0) (v := .int .i64 b.index) rfl
  have x1 := cell_of hB (i := 1) (v := .int .i64 b.term) rfl
  have x2 := cell_of hB (i := 2) (v := .slice a b.voters.length cap) rfl
  have HB := Lib.hid hB
  have HR := Lib.hid (hrow.grow HF.out)
  have HN := Lib.hid hnums
  have hln : (bs b.data).size = b.data.length := rfl
  obtain ⟨A, hA⟩ : ∃ A, intL b.index = A := ⟨_, rfl⟩
  obtain ⟨B, hB2⟩ : ∃ A, intL b.term = A := ⟨_, rfl⟩
  obtain ⟨C, hC⟩ : ∃ A, intL (b.voters.length : Int) = A := ⟨_, rfl⟩
  have HI1 := Lib.hid (fun (W : World) => rint_at (w := W) hidx hA)
  have HI2 := Lib.hid (fun (W : World) => rint_at (w := W) htrm hB2)
  have HI3 := Lib.hid (fun (W : World) => rint_at (w := W) (show I64 (b.voters.length : Int) by unfold I64; omega) hC)
  have hAl : A.length ≤ 10 := by rw [← hA]; exact intL_len hidx
  have hBl : B.length ≤ 10 := by rw [← hB2]; exact intL_len htrm
  have hCl : C.length ≤ 10 := by rw [← hC]; exact intL_len (show I64 (b.voters.length : Int) by unfold I64; omega)
  have s1 := fun (W : World) => sum_at W (a := A) (b := B) rfl (by simp; omega)
  have s2 := fun (W : World) => sum_at W (a := A ++ B) (b := C) rfl (by simp; omega)
  have HL3 : Hid ((A ++ B ++ C).length ≤ 30) := by show _ ≤ _; rw [List.length_append, List.length_append]; omega
  have HABC : Hid (intsL [b.index, b.term, (b.voters.length : Int)] = A ++ B ++ C) := by
    show _ = _
    rw [intsL_cons, intsL_cons, intsL_cons, hA, hB2, hC]; simp [intsL]
  clear hrow hnums hB hA hB2 hC hAl hBl hCl
  go_enter Tryz.func65, Tryz.ntmps65
  go_upto_region 1 with fail
  rw [← hw1]
  clear hw1
  go_cut [3] (fun s3 wx => Hid (s3 = .string (bs (A ++ B ++ C)) ∧ Fr (fun _ => False) w1 wx))
  case first =>
    go_region_held (fun w' => w'.cell? ⟨w.heap.size, 0, none⟩ = some (.int .i64 b.index) ∧ w'.cell? ⟨w.heap.size, 1, none⟩ = some (.int .i64 b.term) ∧ w'.cell? ⟨w.heap.size, 2, none⟩ = some (.slice a b.voters.length cap))
      (first | go_keep | (with_reducible exact ⟨s0_fC, s1_fC, s2_fC⟩) | (with_reducible exact ⟨s0_fB, s1_fB, s2_fB⟩) | (with_reducible exact ⟨s0_fA, s1_fA, s2_fA⟩) | fail)
      (first
        | (go_at_call 117; (with_reducible refine Calls.mono (HI1.out _) ?_); clear HI1; rintro e wA ⟨rfl, hq⟩; have fA := (show Fr (fun _ => False) w1 _ by repeat (first | exact Fr.refl _ _ | refine Fr.drew ?_)).next hq; have s0_fA := fA.cell x0 (fun h => h); have s1_fA := fA.cell x1 (fun h => h); have s2_fA := fA.cell x2 (fun h => h); clear hq)
        | (have tok := s0_fA; clear tok; go_at_call 117; (with_reducible refine Calls.mono (HI2.out _) ?_); clear HI2; rintro e wB ⟨rfl, hq⟩; have fB := (show Fr (fun _ => False) w1 _ by repeat (first | exact fA | refine Fr.drew ?_)).next hq; have s0_fB := fB.cell x0 (fun h => h); have s1_fB := fB.cell x1 (fun h => h); have s2_fB := fB.cell x2 (fun h => h); clear hq)
        | (have tok := s0_fB; clear tok; go_at_call 117; (with_reducible refine Calls.mono (HI3.out _) ?_); clear HI3; rintro e wC ⟨rfl, hq⟩; have fC := (show Fr (fun _ => False) w1 _ by repeat (first | exact fB | refine Fr.drew ?_)).next hq; have s0_fC := fC.cell x0 (fun h => h); have s1_fC := fC.cell x1 (fun h => h); have s2_fC := fC.cell x2 (fun h => h); clear hq)
        | fail)
    all_goals
      go_wp2_with fail
      go_meet
      exact ⟨by first | rfl | rw [List.append_assoc], fC⟩
  case rest =>
    obtain ⟨rfl, hf⟩ := hcut.out
    obtain ⟨t0, ht0⟩ : ∃ t0, A ++ B ++ C = t0 := ⟨_, rfl⟩
    rw [ht0] at HABC ⊢
    have h30 : t0.length ≤ 30 := by rw [← ht0]; exact HL3.out
    have HF2 := Lib.hid hf
    clear hf hcut ht0 HI1 HI2 HI3 s1 s2 x0 x1 x2 HL3
    go_wp2_with fail
    go_loopg [3, 4] (b.voters.length) (fun j v3 v4 wr => ∃ (i : Nat) (t : Str), i + j = b.voters.length ∧ v4 = .int .i64 (i : Int) ∧ v3 = .string (bs t) ∧ Hid (t = t0 ++ intsL (b.voters.take i)) ∧ t.length ≤ 30 + 10 * i ∧ Hid (Fr (fun _ => False) w1 wr))
    case atStart => exact ⟨0, t0, by omega, rfl, rfl, by show _ = _; simp [intsL], by omega, HF2.out⟩
    case round =>
      obtain ⟨i, t, hi, rfl, rfl, HT, htl, HFr⟩ := hrel
      have hb := HFr.out.keep HB.out (fun h => h)
      have x2 := cell_of hb (i := 2) (v := .slice a b.voters.length cap) rfl
      have x3 := cell_of hb (i := 3) (v := .string (bs b.data)) rfl
      have HX := Lib.hid hi
      clear hi hb
      by_cases hlt : i < b.voters.length
      · obtain ⟨n, hn⟩ : ∃ n, b.voters[i]? = some n := ⟨_, List.getElem?_eq_getElem hlt⟩
        obtain ⟨g, off, rfl, hc⟩ := HR.out.cells (by omega)
        have c0 := HFr.out.cell (hc i n hn) (fun h => h)
        have hnI := HN.out n (List.mem_of_getElem? hn)
        obtain ⟨u, hu⟩ : ∃ u, intL n = u := ⟨_, rfl⟩
        have HI := Lib.hid (fun (W : World) => rint_at (w := W) hnI hu)
        have hul : u.length ≤ 10 := by rw [← hu]; exact intL_len hnI
        obtain ⟨t2, ht2⟩ : ∃ t2, t ++ u = t2 := ⟨_, rfl⟩
        have s1 := fun (W : World) => sum_at W (a := t) (b := u) ht2 (by rw [← ht2, List.length_append]; omega)
        have HT2 : Hid (t2 = t0 ++ intsL (b.voters.take (i + 1))) := by show _ = _; rw [intsL_snoc hn, hu, ← List.append_assoc, ← HT.out, ht2]
        have ht2l : t2.length ≤ 30 + 10 * (i + 1) := by rw [← ht2, List.length_append]; omega
        clear hc hn hu hul ht2 hnI
        go_wp2_with fail
        refine Calls.mono (HI.out _) ?_
        rintro e w3 ⟨rfl, hf3⟩
        have HF3 := Lib.hid (HFr.out.next hf3)
        clear hf3
        go_wp2_with fail
        go_roundg (b.voters.length - (i + 1))
        case measure => have := HX.out; omega
        case rel => exact ⟨i + 1, t2, by omega, by go_num, rfl, HT2, ht2l, HF3⟩
      · obtain rfl : i = b.voters.length := by have := HX.out; omega
        rw [List.take_length] at HT
        obtain ⟨u, hu⟩ : ∃ u, intL (b.data.length : Int) = u := ⟨_, rfl⟩
        have hdI : I64 (b.data.length : Int) := by unfold I64; omega
        have HI := Lib.hid (fun (W : World) => rint_at (w := W) hdI hu)
        have HHD : t ++ u = headL b := by
          rw [HT.out, ← HABC.out, ← hu]
          unfold headL headI
          rw [intsL_cons, intsL_cons, intsL_cons, intsL_cons, intsL_cons, intsL_cons, intsL_app, intsL_cons]
          simp [intsL]
        have hhl := head_len hr
        obtain ⟨hd, hhd⟩ : ∃ x, headL b = x := ⟨_, rfl⟩
        rw [hhd] at HHD hhl
        have s1 := fun (W : World) => sum_at W (a := t) (b := u) HHD (by omega)
        obtain ⟨F0, hF0⟩ : ∃ x, frameL hd = x := ⟨_, rfl⟩
        have HFR := Lib.hid (fun (W : World) => rframe_at (w := W) (show hd.length ≤ 65536 by omega) hF0)
        have HPA : Hid ([F0] ++ (chunksL (b.data.drop 0)).map frameL = (payloadsL b).map frameL) := by
          show _ = _
          unfold payloadsL
          rw [List.map_cons, hhd, hF0]; rfl
        have hpl := chunk_pays (b := b)
        have HIV : ¬ (b.voters.length : Int) < b.voters.length := by omega
        clear hlt htl hu hhd hF0 hhl HHD hdI
        go_wp2_with fail
        refine Calls.mono (HI.out _) ?_
        rintro e w3 ⟨rfl, hf3⟩
        have HF3 := Lib.hid (HFr.out.next hf3)
        clear hf3 x2 x3
        go_wp2_with fail
        refine Calls.mono (HFR.out _) ?_
        rintro e w4 ⟨rfl, hf4⟩
        have HF4 := Lib.hid (HF3.out.next hf4)
        clear hf4 s1
        have HRL : Hid (FRel w1 b 0 [F0] 1 (.slice (some ⟨w4.heap.size, 0, none⟩) 1 1) (w4.alloc (.cells #[.string (bs F0)] 9))) :=
          ⟨HPA.out, rfl, by decide, row_one (block_new _ _) HF4.out.size, HF4.out.alloc _⟩
        obtain ⟨i9, hi9, hz0, hz1, hz2⟩ := info_parts info9
        go_wp2_with fail
        go_loopg [7, 8] (b.data.length) (fun j v7 v8 wr => ∃ (at' : Nat) (pre : List Str) (m : Nat), j = b.data.length - at' ∧ v8 = .int .i64 (at' : Int) ∧ at' ≤ 2000000 ∧ Hid (FRel w1 b at' pre m v7 wr))
        case atStart => exact ⟨0, [F0], 1, by omega, rfl, by omega, HRL.out⟩
        case round =>
          obtain ⟨at', pre, m, hj, rfl, hat, HQ⟩ := hrel
          have HJ := Lib.hid hj
          clear hj HRL
          have hb := HQ.out.fr.keep HB.out (fun h => h)
          have x3 := cell_of hb (i := 3) (v := .string (bs b.data)) rfl
          have hmp := HQ.out.pos
          obtain ⟨g, gc, rfl, hgb, hnc, hcm⟩ := ownsRow_form HQ.out.row hmp
          clear hb
          by_cases hlt : at' < b.data.length
          · have hml : m ≤ 2000000 := by
              have h1 := congrArg List.length HQ.out.all
              rw [List.length_append, List.length_map, List.length_map] at h1
              have h2 := HQ.out.len
              omega
            obtain ⟨e, hm, he1, he2, he3⟩ : ∃ e : Nat, min (b.data.length : Int) ((at' : Int) + 1000) = (e : Int) ∧ at' ≤ e ∧ e ≤ b.data.length ∧ (b.data.take e).drop at' = (b.data.drop at').take 1000 := by
              rcases Nat.lt_or_ge b.data.length (at' + 1000) with h | h
              · exact ⟨b.data.length, by omega, by omega, Nat.le_refl _, by rw [List.take_length, List.take_of_length_le (by rw [List.length_drop]; omega)]⟩
              · exact ⟨at' + 1000, by omega, by omega, h, by rw [List.drop_take, Nat.add_sub_cancel_left]⟩
            have hd0 : b.data.drop at' ≠ [] := fun h => by have := List.drop_eq_nil_iff.1 h; omega
            have hcc := chunks_cons hd0
            rw [List.drop_drop] at hcc
            obtain ⟨c, hc⟩ : ∃ c, (b.data.drop at').take 1000 = c := ⟨_, rfl⟩
            have hcl : c.length ≤ 1000 := by rw [← hc, List.length_take]; omega
            rw [hc] at he3 hcc
            obtain ⟨F, hF⟩ : ∃ F, frameL c = F := ⟨_, rfl⟩
            have HFR := Lib.hid (fun (W : World) => rframe_at (w := W) (show c.length ≤ 65536 by omega) hF)
            have hall : (pre ++ [F]) ++ (chunksL (b.data.drop (at' + 1000))).map frameL = (payloadsL b).map frameL := by
              rw [← HQ.out.all, hcc, List.map_cons, hF, List.append_assoc]; rfl
            have hsl : ∀ W : World, (Instr.slice 9 (.string (bs b.data)) (some (.int .i64 (at' : Int))) (some (.int .i64 (e : Int))) none).run Tryz.prog W = .ok (.string (bs c)) W := fun W => by rw [slice_run (w := W) b.data rfl rfl he1 he2, he3]
            have hw : IntKind.i64.wrap ((at' : Int) + 1000) = (at' : Int) + 1000 := IntWalk.i64_in _ (by omega)
            have HALL := Lib.hid hall
            clear hd0 hcc hc hcl hF hall he3
            go_wp2_with fail
            refine Calls.mono (HFR.out _) ?_
            rintro e w6 ⟨rfl, hf6⟩
            have HF6 := Lib.hid (HQ.out.fr.next hf6)
            have hown : w6.ownsRow w1.heap.size 9 1 (.slice (some ⟨g, 0, none⟩) m gc) m (pre.map fun s => .string (bs s)) := ownsRow_keep HQ.out.row (fun k hk => hf6.block k (HQ.out.row.lt k hk).2 (fun h => h))
            clear hf6 x3 hsl
            go_wp2_with (at_builtin; refine wpList_append_shape rfl _ _ 48 rfl w1.heap.size 9 i9 (.string ⟨#[]⟩) 1 16 Tryz.underlying48 hi9 hz0 hz1 hz2 rfl (by decide) _ _ _ rfl (hown.alloc _) ⟨w6.heap.size, 0, none⟩ 1 1 [.string (bs F)] rfl rfl ?c1 ?c2 ?c3 ?c4 ?c5 (by omega) ?_)
            case c1 =>
              intro j u hj
              match j, hj with
              | 0, hj => simp at hj; subst hj; simp [Addr.add]
            case c2 => intro u hu; simp at hu; subst hu; rfl
            case c3 => unfold maxLen; omega
            case c4 => omega
            case c5 => have := HF6.out.size; simp; omega
            intro g2 cap2 w7 hown7 hg7 hx7
            have hfr7 : Fr (fun _ => False) w1 w7 := (HF6.out.alloc (.cells #[.string (bs F)] 9)).grown hg7 fun k hk => .inr (HQ.out.row.lt k hk).1
            have HQ7 : Hid (FRel w1 b (at' + 1000) (pre ++ [F]) (m + 1) (.slice (some ⟨g2, 0, none⟩) (m + 1) cap2) w7) := ⟨HALL.out, by rw [List.length_append, ← HQ.out.len]; rfl, by omega, by rw [List.map_append]; exact hown7, hfr7⟩
            clear hown7 hg7 hfr7 hx7 hown
            go_wp2_with fail
            go_roundg (b.data.length - (at' + 1000))
            case measure => have := HJ.out; omega
            case rel => exact ⟨at' + 1000, pre ++ [F], m + 1, rfl, by go_num, by omega, HQ7⟩
          · have hle : b.data.length ≤ at' := by omega
            have hpre : pre = (payloadsL b).map frameL := by
              have h := HQ.out.all
              rwa [List.drop_eq_nil_of_le hle, chunks_nil, List.map_nil, List.append_nil] at h
            have HOUT : Hid (FrPost b w (.returned (.slice (some ⟨g, 0, none⟩) m gc)) wr) := by
              refine ⟨_, rfl, ?_, HF.out.next HQ.out.fr⟩
              have h1 := HQ.out.row
              rw [hpre] at h1
              have h2 : m = (payloadsL b).length := by rw [HQ.out.len, hpre, List.length_map]
              rw [h2] at h1 ⊢
              exact ownsRow_base h1 HF.out.size
            have hnlt : ¬ (at' : Int) < b.data.length := by omega
            go_wp2_with fail
            go_ret
            exact HOUT.out
end Go.Proofs.YtgmghopcppniaaaGreatDoor
