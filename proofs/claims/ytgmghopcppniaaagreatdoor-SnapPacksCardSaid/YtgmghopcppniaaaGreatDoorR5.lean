/- The reference's Pack: walked. -/
import Derived.Test.YtgmghopcppniaaaGreatDoorR4
import Derived.Lib.AppendStr
namespace Go.Proofs.YtgmghopcppniaaaGreatDoor
open Go.RowKit Go.Lib

theorem strCells_bs (l : Str) : strCells (bs l) = l.map encB := by first | rfl | (unfold strCells encB; rw [bs_data]; rfl) | (unfold strCells encB; simp [bs])
/-- while the frames are put together -/
structure PkRel (w4 : World) (b : BaseD) (i : Nat) (l : Str) (v : Value) (wr : World) : Prop where
  all : l = ((payloadsL b).take i).flatMap frameL
  row : wr.ownsRow w4.heap.size 5 1 v l.length (l.map encB)
  fr : Fr (fun _ => False) w4 wr
theorem pk_len {b : BaseD} {i : Nat} {l : Str} (h : l = ((payloadsL b).take i).flatMap frameL) (hr : rightB b = true) (hd : b.data.length ≤ 1000000) : l.length ≤ 2000000 := by
  have h1 := congrArg List.length (List.take_append_drop i (payloadsL b)) 
  have h2 : packL b = l ++ ((payloadsL b).drop i).flatMap frameL := by
    rw [h, ← List.flatMap_append, List.take_append_drop]; rfl
  have h3 := pack_bytes b
  have h4 := head_len hr
  rw [h2, List.length_append] at h3
  omega
theorem pk_next {b : BaseD} {i : Nat} {l s : Str} (h : l = ((payloadsL b).take i).flatMap frameL) (hs : (payloadsL b)[i]? = some s) : l ++ frameL s = ((payloadsL b).take (i + 1)).flatMap frameL := by
  rw [List.take_add_one, hs, List.flatMap_append, h]; simp
def RPackPost (b : BaseD) (w : World) (e : Ending) (w' : World) : Prop := e = .returned (.tuple #[.string (bs (packD b).1), .int .i64 (packD b).2]) ∧ Fr (fun _ => False) w w'
theorem rpack_post {b : BaseD} {w w' : World} {t : Str} {er : Int} (h : packD b = (t, er)) (hf : Fr (fun _ => False) w w') : RPackPost b w (.returned (.tuple #[.string (bs t), .int .i64 er])) w' := by
  unfold RPackPost; rw [h]; exact ⟨rfl, hf⟩
set_option maxRecDepth 100000 in
set_option maxHeartbeats 16000000 in
theorem rpack_h {w : World} {b : BaseD} {v : Value} (h : BaseIn w (fun k => k < w.heap.size) b v) : Calls Tryz.prog 19 #[baseV b v] w (RPackPost b w) := by
  have hdat := h.data
  obtain ⟨a, cap, rfl, hcap, hcap2⟩ := h.row.form
  have HA : baseV b (.slice a b.voters.length cap) = .agg #[.int .i64 b.index, .int .i64 b.term, .slice a b.voters.length cap, .string (bs b.data)] := rfl
  rw [HA]
  obtain ⟨w1, hw1⟩ : ∃ w1, w1 = w.alloc (.cells #[.int .i64 b.index, .int .i64 b.term, .slice a b.voters.length cap, .string (bs b.data)] 24) := ⟨_, rfl⟩
  have HF : Hid (Fr (fun _ => False) w w1) := by show Fr _ _ _; rw [hw1]; exact (Fr.refl _ _).alloc _
  have hB : w1.heap[w.heap.size]? = some (.cells #[.int .i64 b.index, .int .i64 b.term, .slice a b.voters.length cap, .string (bs b.data)] 24 (0, 0)) := by rw [hw1]; exact block_new _ _
  have x0 := cell_of hB (i := 0) (v := .int .i64 b.index) rfl
  have x1 := cell_of hB (i := 1) (v := .int .i64 b.term) rfl
  have x2 := cell_of hB (i := 2) (v := .slice a b.voters.length cap) rfl
  have x3 := cell_of hB (i := 3) (v := .string (bs b.data)) rfl
  have HB := Lib.hid hB
  have HH := Lib.hid h
  have HRI := Lib.hid (rright_h (h.grow HF.out))
  rw [HA] at HRI
  clear h hB
  go_enter Tryz.func19, Tryz.ntmps19
  go_upto_region 1 with fail
  rw [← hw1]
  clear hw1
  go_wp2_with fail
  refine Calls.mono HRI.out ?_
  rintro e w2 ⟨rfl, hf2⟩
  have HF2 := Lib.hid (HF.out.next hf2)
  have hb2 := hf2.keep HB.out (fun h => h)
  clear x0 x1 x2 x3 hf2 HRI
  cases hr : rightB b with
  | false =>
    have HP := Lib.hid (show packD b = ([], 1) by unfold packD; rw [hr]; rfl)
    clear hr HA
    go_wp2_with fail
    go_ret2
    exact rpack_post HP.out HF2.out
  | true =>
    have HP := Lib.hid (show packD b = (packL b, 0) by unfold packD; rw [if_pos hr])
    have HFM := Lib.hid (rframes_h (HH.out.grow HF2.out) hr)
    rw [HA] at HFM
    have HRR := Lib.hid hr
    have x0 := cell_of hb2 (i := 0) (v := .int .i64 b.index) rfl
    have x1 := cell_of hb2 (i := 1) (v := .int .i64 b.term) rfl
    have x2 := cell_of hb2 (i := 2) (v := .slice a b.voters.length cap) rfl
    have x3 := cell_of hb2 (i := 3) (v := .string (bs b.data)) rfl
    clear hr HA hb2
    go_wp2_with fail
    refine Calls.mono HFM.out ?_
    rintro e w4 ⟨fv, rfl, hrow, hf4⟩
    obtain ⟨fa, fc, rfl⟩ := ownsRow_shape hrow
    have HF4 := Lib.hid (HF2.out.next hf4)
    have HRW := Lib.hid hrow
    have hpl := chunk_pays (b := b)
    have hpp : 0 < (payloadsL b).length := by unfold payloadsL; simp
    obtain ⟨i0, hi, hz0, hz1, hz2⟩ := info_parts info5
    have HR0 : Hid (PkRel w4 b 0 [] (.slice none 0 0) w4) := ⟨rfl, ⟨rfl, .inl ⟨rfl, rfl⟩⟩, Fr.refl _ _⟩
    clear hrow hf4 x0 x1 x2 x3 HFM
    go_wp2_with fail
    go_loopg [6, 7] ((payloadsL b).length) (fun j v6 v7 wr => ∃ (i : Nat) (l : Str), i + j = (payloadsL b).length ∧ v7 = .int .i64 (i : Int) ∧ Hid (PkRel w4 b i l v6 wr))
    case atStart => exact ⟨0, [], by omega, rfl, HR0.out⟩
    case round =>
      obtain ⟨i, l, hij, rfl, HQ⟩ := hrel
      have HX := Lib.hid hij
      have hll := pk_len HQ.out.all HRR.out hdat
      obtain ⟨la, lc, rfl⟩ := ownsRow_shape HQ.out.row
      clear hij HR0
      by_cases hlt : i < (payloadsL b).length
      · obtain ⟨s, hs⟩ : ∃ s, (payloadsL b)[i]? = some s := ⟨_, List.getElem?_eq_getElem hlt⟩
        obtain ⟨g, gc, hv, hgB, hnc, hcm⟩ := ownsRow_form HRW.out hpp
        injection hv with hv1 _ hv2
        subst hv1; subst hv2
        have c0 := HQ.out.fr.cell (ownsRow_cell HRW.out (i := i) (v := .string (bs (frameL s))) (by rw [List.getElem?_map, List.getElem?_map, hs]; rfl)) (fun h => h)
        have HN := Lib.hid (pk_next HQ.out.all hs)
        have hn2 := pk_len HN.out HRR.out hdat
        obtain ⟨F, hF⟩ : ∃ F, frameL s = F := ⟨_, rfl⟩
        rw [hF] at c0 HN hn2
        rw [List.length_append] at hn2
        have hFs : (bs F).size = F.length := rfl
        clear hs hF
        go_wp2_with (at_builtin; refine Lib.wpList_append_own_string _ rfl _ _ 33 9 rfl w4.heap.size 5 i0 Tryz.underlying33 Tryz.underlying9 hi hz0 hz1 hz2 _ _ _ rfl HQ.out.row (bs F) rfl ?c3 ?c4 ?c5 ?_)
        case c3 => unfold maxLen; omega
        case c4 => omega
        case c5 => exact HQ.out.fr.size
        intro v' w5 hown5 hg5 _
        have HQ5 : Hid (PkRel w4 b (i + 1) (l ++ F) v' w5) := ⟨HN.out, by rw [List.length_append, List.map_append, ← strCells_bs F]; exact hown5, HQ.out.fr.grown hg5 fun k hk => .inr (HQ.out.row.lt k hk).1⟩
        clear hown5 hg5
        go_wp2_with fail
        go_roundg ((payloadsL b).length - (i + 1))
        case measure => have := HX.out; omega
        case rel => exact ⟨i + 1, l ++ F, by omega, by go_num, HQ5⟩
      · obtain rfl : i = (payloadsL b).length := by have := HX.out; omega
        have hl : l = packL b := by rw [HQ.out.all, List.take_length]; rfl
        have hl8 : 0 < l.length := by rw [hl, pack_bytes]; omega
        obtain ⟨g, gc, hv, hgB, hnc, hcm⟩ := ownsRow_form HQ.out.row hl8
        injection hv with hv1 _ hv2
        subst hv1; subst hv2
        have hcv := bytes_string HQ.out.row rfl
        have HL := Lib.hid hl
        have HFQ := Lib.hid (HF4.out.next HQ.out.fr)
        clear hl hl8 hlt
        go_wp2_with fail
        go_ret2
        rw [HL.out]
        exact rpack_post HP.out HFQ.out
end Go.Proofs.YtgmghopcppniaaaGreatDoor
