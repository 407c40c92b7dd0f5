/- xml.Write. -/
import Derived.Test.YtpinjgdnhbogoaaGreatDoorM7
import Derived.Deep.RegionHeld3
namespace Go.Proofs.YtpinjgdnhbogoaaGreatDoor
open Go.RowKit Go.Lib

theorem esc_ge : ∀ s : Str, s.length ≤ (escL s).length
  | [] => Nat.zero_le _
  | c :: s => by
    have ih := esc_ge s
    have := esc_len c
    rw [escL_cons, List.length_append, List.length_cons]
    omega
structure WIn (w : World) (u : Str) (wr : World) : Prop where
  bld : Lib.IsBuilderF 115 5 w.heap.size w.heap.size (Lib.byteCells u) wr
  low : Below w.heap.size w wr
theorem WIn.fr {w wr w2 : World} {u : Str} (h : WIn w u wr) (hf : Fr (fun _ => False) wr w2) : WIn w u w2 := ⟨isB_fr h.bld hf, h.low.trans (hf.below h.low.size (fun _ h => h.elim))⟩
theorem WIn.put {w wr W w2 : World} {u a : Str} (h : WIn w u wr) (hf : Fr (fun _ => False) wr W) (h1 : Lib.IsBuilderF 115 5 w.heap.size w.heap.size (Lib.byteCells (u ++ a)) w2) (h2 : Below w.heap.size W w2) : WIn w (u ++ a) w2 := ⟨h1, (h.fr hf).low.trans h2⟩
theorem WIn.start (w : World) : WIn w [] (w.alloc (.cells #[.pointer none, .slice none 0 0] 115)) := ⟨isB_new w _ rfl, (Below.refl _ _).alloc (Nat.le_refl _) _⟩
/-- WriteString onto the builder -/
theorem WIn.write {w wr W : World} {u a : Str} (h : WIn w u wr) (hf : Fr (fun _ => False) wr W) (hl : u.length + a.length ≤ 140737488355328) :
    Calls Tryz.prog 81 #[.pointer (some ⟨w.heap.size, 0, none⟩), .string (bs a)] W fun e w' => e = .returned (.tuple #[.int .i64 (bs a).size, .nilIface]) ∧ WIn w (u ++ a) w' ∧ Lib.OthersKept 5 (some w.heap.size) W w' := by
  refine (bput (l := u) (a := a) (h.fr hf).bld hl (h.fr hf).low.size).mono ?_
  rintro e w' ⟨rfl, h1, h2, h3⟩
  exact ⟨rfl, h.put hf h1 h2, h3⟩
theorem tokW_open {x : TokD} (h : x.kind = 1) : tokW x = 60 :: (x.name ++ (x.attrs.flatMap attrW ++ [62])) := by unfold tokW; rw [if_pos h]
theorem tokW_close {x : TokD} (h : x.kind = 2) : tokW x = 60 :: 47 :: (x.name ++ [62]) := by unfold tokW; rw [if_neg (by omega), if_pos h]
theorem tokW_words {x : TokD} (h : x.kind = 3) : tokW x = escL x.text := by unfold tokW; rw [if_neg (by omega), if_neg (by omega), if_pos h]
theorem tokW_else {x : TokD} (h1 : x.kind ≠ 1) (h2 : x.kind ≠ 2) (h3 : x.kind ≠ 3) : tokW x = [] := by unfold tokW; rw [if_neg h1, if_neg h2, if_neg h3]
theorem write_snoc {l : List TokD} {i : Nat} {x : TokD} (h : l[i]? = some x) : writeL (l.take (i + 1)) = writeL (l.take i) ++ tokW x := by
  unfold writeL
  rw [List.take_add_one, h, List.flatMap_append]; simp
theorem write_part {l : List TokD} {i : Nat} {x : TokD} (h : l[i]? = some x) : (writeL (l.take i)).length + (tokW x).length ≤ (writeL l).length := by
  have e : writeL l = writeL (l.take (i + 1)) ++ writeL (l.drop (i + 1)) := by unfold writeL; rw [← List.flatMap_append, List.take_append_drop]
  rw [e, write_snoc h]; simp
theorem attrs_snoc {l : List (Str × Str)} {k : Nat} {p : Str × Str} (h : l[k]? = some p) : (l.take (k + 1)).flatMap attrW = (l.take k).flatMap attrW ++ attrW p := by
  rw [List.take_add_one, h, List.flatMap_append]; simp
theorem attrs_part {l : List (Str × Str)} {k : Nat} {p : Str × Str} (h : l[k]? = some p) : ((l.take k).flatMap attrW).length + (attrW p).length ≤ (l.flatMap attrW).length := by
  have e : l.flatMap attrW = (l.take (k + 1)).flatMap attrW ++ (l.drop (k + 1)).flatMap attrW := by rw [← List.flatMap_append, List.take_append_drop]
  rw [e, attrs_snoc h]; simp
theorem attr_cat (p : Str × Str) : (⟨#[32]⟩ : ByteArray) ++ bs p.1 ++ ⟨#[61, 34]⟩ ++ bs (escL p.2) ++ ⟨#[34]⟩ = bs (attrW p) := by
  rw [show (⟨#[32]⟩ : ByteArray) = bs [32] from rfl, show (⟨#[61, 34]⟩ : ByteArray) = bs [61, 34] from rfl, show (⟨#[34]⟩ : ByteArray) = bs [34] from rfl]
  simp only [bs_append, attrW, List.cons_append, List.nil_append, List.append_assoc]
theorem open_cat (n : Str) : (⟨#[60]⟩ : ByteArray) ++ bs n = bs (60 :: n) := by
  rw [show (⟨#[60]⟩ : ByteArray) = bs [60] from rfl, bs_append]; rfl
theorem close_cat (n : Str) : (⟨#[60, 47]⟩ : ByteArray) ++ bs n ++ ⟨#[62]⟩ = bs (60 :: 47 :: (n ++ [62])) := by
  rw [show (⟨#[60, 47]⟩ : ByteArray) = bs [60, 47] from rfl, show (⟨#[62]⟩ : ByteArray) = bs [62] from rfl, bs_append, bs_append]; rfl
theorem str_add (w : World) {a b : ByteArray} (h : a.size + b.size ≤ 100000000) : (Op.stringOp .add a b).run Tryz.prog w = .ok (.string (a ++ b)) w := run_string_add_sum w a b (by omega)
theorem attr_kept {b B : Nat} {w0 w10 w11 : World} {vs : Array Value} (hk : Lib.OthersKept 5 (some B) w10 w11) (hf : Fr (fun _ => False) w0 w10) (hb : w0.heap[b]? = some (.cells vs 64 (0, 0))) (hB : B ≠ b) (i : Nat) {v : Value} (hv : vs[i]? = some v) : w11.cell? ⟨b, i, none⟩ = some v :=
  cell_of (hk _ _ (hf.keep hb (fun h => h)) (by simpa using hB.symm) (fun c fz e => by injection e with _ e; exact absurd e (by decide))) hv
set_option maxRecDepth 100000 in
set_option maxHeartbeats 16000000 in
theorem write_h {w : World} {v : Value} {l : List TokD} (hv : TokV w (fun k => k < w.heap.size) v l) (hw : (writeL l).length ≤ 10000000) (hsm : ∀ x ∈ l, (x.kind = 3 → x.text.length ≤ 1000000) ∧ (x.kind = 1 → ∀ p ∈ x.attrs, p.2.length ≤ 1000000)) (hl : l.length ≤ 1000000) (hla : ∀ x ∈ l, x.attrs.length ≤ 1000000) :
    Calls Tryz.prog 51 #[v] w fun e w' => e = .returned (.string (bs (writeL l))) ∧ Fr (fun _ => False) w w' := by
  obtain ⟨ad, cap, rfl, hc1, hc2, _⟩ := hv.elems
  have HV := Lib.hid hv
  have HW := Lib.hid hw
  have HLA := Lib.hid hla
  have HSM := Lib.hid hsm
  have HS := Lib.hid (WIn.start w)
  clear hv hw hla hsm
  go_enter Tryz.func51, Tryz.ntmps51
  go_wp2_with fail
  go_loopg [10] l.length (fun j v10 w' => ∃ (i : Nat) (wr : World), wr = w' ∧ i + j = l.length ∧ v10 = .int .i64 i ∧ Hid (WIn w (writeL (l.take i)) wr))
  case atStart => exact ⟨0, _, rfl, by omega, rfl, HS.out⟩
  case round =>
    obtain ⟨i, wr, rfl, hi, rfl, HR⟩ := hrel
    have hszr := HR.out.low.size
    by_cases hlt : i < l.length
    · obtain ⟨_, _, e0, _, _, hel⟩ := HV.out.elems
      cases e0
      obtain ⟨g, off, rfl, hel2⟩ := hel (by omega)
      obtain ⟨x, hx⟩ : ∃ x, l[i]? = some x := ⟨_, List.getElem?_eq_getElem hlt⟩
      obtain ⟨avx, a0, a1, a2, a3, ar⟩ := hel2 i x hx
      obtain ⟨_, aa, acap, rfl, _, _, _, _⟩ := id ar
      have HFw := Lib.hid (show Fr (fun k => w.heap.size ≤ k) w wr from Fr.of_below HR.out.low)
      have hg : g < w.heap.size := by have := World.block_lt_of_cell? w ⟨g, _, none⟩ a0; exact this
      have b0 := HFw.out.cell a0 (by simpa using hg)
      have b1 := HFw.out.cell a1 (by simpa using hg)
      have b2 := HFw.out.cell a2 (by simpa using hg)
      have b3 := HFw.out.cell a3 (by simpa using hg)
      have HX := Lib.hid (And.intro hx (And.intro (write_snoc hx) (write_part hx)))
      have HAr := Lib.hid ar
      have hxa := HLA.out x (List.mem_of_getElem? hx)
      have HI := Lib.hid hi
      have z1 : (bs x.name).size = x.name.length := rfl
      clear hel hel2 a0 a1 a2 a3 ar hx hi
      obtain ⟨u, hu⟩ : ∃ u, writeL (l.take i) = u := ⟨_, rfl⟩
      rw [hu] at HR HX
      have HSN : Hid (WIn w u wr) := HR
      have HBN := Lib.hid (fun (n : Nat) (h : (tokW x).length = n) => show u.length + n ≤ 10000000 by have := HX.out.2.2; have := HW.out; omega)
      clear hu
      have HSX := Lib.hid (HSM.out x (List.mem_of_getElem? HX.out.1))
      by_cases k1 : x.kind = 1
      · have t1 : (x.kind == 1) = true := by rw [beq_iff_eq]; exact k1
        have HSA := Lib.hid (HSX.out.2 k1)
        have HK := Lib.hid (tokW_open k1)
        obtain ⟨A, hA⟩ : ∃ A, x.attrs.flatMap attrW = A := ⟨_, rfl⟩
        have hbn := HBN.out _ rfl
        rw [HK.out, hA] at hbn
        simp only [List.length_cons, List.length_append, List.length_nil] at hbn
        have HA := Lib.hid hA
        clear k1 hA
        have HT := Lib.hid (block_new wr (.cells #[.int .i64 x.kind, .string (bs x.name), .slice aa x.attrs.length acap, .string (bs x.text)] 54))
        have hF1 : Hid (Fr (fun _ => False) wr (wr.alloc (.cells #[.int .i64 x.kind, .string (bs x.name), .slice aa x.attrs.length acap, .string (bs x.text)] 54))) := (Fr.refl _ _).alloc _
        have hoc := open_cat x.name
        have HOC := Lib.hid hoc
        have hpos : w.heap.size < wr.heap.size := by
          obtain ⟨c, f, h⟩ := isB_block HSN.out.bld
          exact lt_of_block h
        clear hoc
        go_wp2_with fail
        rw [HOC.out]
        refine Calls.mono (HSN.out.write (a := 60 :: x.name) hF1.out (by simp; omega)) ?_
        rintro e w2 ⟨rfl, hI2, hk2⟩
        have hb2 := hk2 _ _ HT.out (by simp; omega) (fun c fz e => by injection e with _ e; exact absurd e (by decide))
        have f2 := cell_of hb2 (i := 2) (v := .slice aa x.attrs.length acap) rfl
        have HI2 := Lib.hid hI2
        clear hb2 hI2 hk2
        go_wp2_with fail
        go_loopg [25] x.attrs.length (fun j v25 w' => ∃ (k : Nat) (W : World), W = w' ∧ k + j = x.attrs.length ∧ v25 = .int .i64 k ∧ Hid (WIn w (u ++ (60 :: x.name) ++ (x.attrs.take k).flatMap attrW) W))
        case atStart => exact ⟨0, _, rfl, by omega, rfl, by simpa [Hid] using HI2.out⟩
        case round =>
          obtain ⟨k, W, rfl, hk, rfl, HJ⟩ := hrel
          by_cases hlt2 : k < x.attrs.length
          · obtain ⟨ga, oa, rfl, hca⟩ := HAr.out.cell (by omega)
            obtain ⟨p, hp⟩ : ∃ p, x.attrs[k]? = some p := ⟨_, List.getElem?_eq_getElem hlt2⟩
            obtain ⟨m0, m1⟩ := acells_at hp
            have c0 := hca _ _ m0
            have c1 := hca _ _ m1
            have hga : ga < w.heap.size := World.block_lt_of_cell? w ⟨ga, _, none⟩ c0
            have HFW := Lib.hid (show Fr (fun k => w.heap.size ≤ k) w W from Fr.of_below HJ.out.low)
            have ca0 := HFW.out.cell c0 (by simpa using hga)
            have ca1 := HFW.out.cell c1 (by simpa using hga)
            rw [← Nat.add_assoc] at ca1
            have hap := attrs_part hp
            rw [HA.out] at hap
            have hal : (attrW p).length = 1 + p.1.length + 2 + (escL p.2).length + 1 := by unfold attrW; simp; omega
            have hge := esc_ge p.2
            have y1 : (bs p.1).size = p.1.length := rfl
            have y2 : (bs p.2).size = p.2.length := rfl
            have y3 : (bs (escL p.2)).size = (escL p.2).length := rfl
            have hb1 : p.1.length ≤ 10000000 := by omega
            have hb2 : p.2.length ≤ 1000000 := HSA.out p (List.mem_of_getElem? hp)
            have hb3 : (escL p.2).length ≤ 10000000 := by omega
            have hb4 : (u ++ (60 :: x.name) ++ (x.attrs.take k).flatMap attrW).length + (attrW p).length ≤ 140737488355328 := by simp only [List.length_append, List.length_cons]; omega
            have HB4 := Lib.hid hb4
            have HK2 := Lib.hid (And.intro hk (attrs_snoc hp))
            have HE38 := Lib.hid (fun (W' : World) => escape_h (w := W') p.2 (by omega))
            have HAC := Lib.hid (attr_cat p)
            have hF3 : Hid (Fr (fun _ => False) W (W.alloc (.cells #[.string (bs p.1), .string (bs p.2)] 64))) := (Fr.refl _ _).alloc _
            have sA : ∀ w : World, (Op.stringOp .add ⟨#[32]⟩ (bs p.1)).run Tryz.prog w = .ok (.string (⟨#[32]⟩ ++ bs p.1)) w := fun w => str_add w (by show 1 + p.1.length ≤ _; omega)
            have sB : ∀ w : World, (Op.stringOp .add (⟨#[32]⟩ ++ bs p.1) ⟨#[61, 34]⟩).run Tryz.prog w = .ok (.string (⟨#[32]⟩ ++ bs p.1 ++ ⟨#[61, 34]⟩)) w := fun w => str_add w (by rw [ByteArray.size_append]; show 1 + p.1.length + 2 ≤ _; omega)
            have sC : ∀ w : World, (Op.stringOp .add (⟨#[32]⟩ ++ bs p.1 ++ ⟨#[61, 34]⟩) (bs (escL p.2))).run Tryz.prog w = .ok (.string (⟨#[32]⟩ ++ bs p.1 ++ ⟨#[61, 34]⟩ ++ bs (escL p.2))) w := fun w => str_add w (by rw [ByteArray.size_append, ByteArray.size_append]; show 1 + p.1.length + 2 + (escL p.2).length ≤ _; omega)
            have sD : ∀ w : World, (Op.stringOp .add (⟨#[32]⟩ ++ bs p.1 ++ ⟨#[61, 34]⟩ ++ bs (escL p.2)) ⟨#[34]⟩).run Tryz.prog w = .ok (.string (⟨#[32]⟩ ++ bs p.1 ++ ⟨#[61, 34]⟩ ++ bs (escL p.2) ++ ⟨#[34]⟩)) w := fun w => str_add w (by rw [ByteArray.size_append, ByteArray.size_append, ByteArray.size_append]; show 1 + p.1.length + 2 + (escL p.2).length + 1 ≤ _; omega)
            have hNB : (W.alloc (.cells #[.string (bs p.1), .string (bs p.2)] 64)).heap[W.heap.size]? = some (.cells #[.string (bs p.1), .string (bs p.2)] 64 (0, 0)) := block_new _ _
            have HNB := Lib.hid hNB
            have hpW : w.heap.size < W.heap.size := by
              obtain ⟨c, f, h⟩ := isB_block HJ.out.bld
              exact lt_of_block h
            have hpW2 : w.heap.size ≠ W.heap.size := by omega
            clear m0 m1 hca hp c0 c1 hap hal hb4 hk hNB
            go_wp2_with fail
            go_region_held3 (fun w' => w'.cell? ⟨W.heap.size, 0, none⟩ = some (.string (bs p.1)) ∧ w'.cell? ⟨W.heap.size, 1, none⟩ = some (.string (bs p.2)))
              (first | go_keep | (exact ⟨hf10.cell (by go_simp) (fun h => h), hf10.cell (by go_simp) (fun h => h)⟩) | (exact ⟨hc10, hc11⟩))
              (first
                | (go_at_call 38; with_reducible refine Calls.mono (HE38.out _) ?_; rintro e w10 ⟨rfl, hf10⟩)
                | (go_at_call 81; rw [HAC.out]; with_reducible refine Calls.mono (HJ.out.write (a := attrW p) (hF3.out.next (hf10.start rfl rfl rfl rfl)) HB4.out) ?_; rintro e w11 ⟨rfl, hI11, hk11⟩; have hc10 := attr_kept hk11 hf10 HNB.out hpW2 0 rfl; have hc11 := attr_kept hk11 hf10 HNB.out hpW2 1 rfl)
                | fail)
            have HN := Lib.hid (show WIn w (u ++ (60 :: x.name) ++ (x.attrs.take (k + 1)).flatMap attrW) w11 by rw [HK2.out.2, ← List.append_assoc]; exact hI11)
            clear hI11 hk11 hf10 hc10 hc11 sA sB sC sD
            go_wp2_with fail
            go_roundg (x.attrs.length - (k + 1))
            case measure => have := HK2.out.1; omega
            case rel => exact ⟨k + 1, _, rfl, by have := HK2.out.1; omega, by go_num, HN.out⟩
          · obtain rfl : k = x.attrs.length := by omega
            have HN := Lib.hid (show WIn w (u ++ (60 :: x.name) ++ A) W by have h := HJ.out; rw [List.take_length, HA.out] at h; exact h)
            have hgt : (⟨#[62]⟩ : ByteArray) = bs [62] := rfl
            have HGT := Lib.hid hgt
            have HL := Lib.hid (show (u ++ (60 :: x.name) ++ A).length + ([62] : Str).length ≤ 140737488355328 by simp; omega)
            clear hgt hk
            go_wp2_with fail
            rw [HGT.out]
            refine Calls.mono (HN.out.write (a := [62]) (Fr.refl _ _) HL.out) ?_
            rintro e w3 ⟨rfl, hI3, _⟩
            have HI3 := Lib.hid (show WIn w (writeL (l.take (i + 1))) w3 by
              rw [HX.out.2.1, HK.out, HA.out]
              have e : u ++ 60 :: (x.name ++ (A ++ [62])) = u ++ (60 :: x.name) ++ A ++ [62] := by simp
              rw [e]; exact hI3)
            clear hI3
            go_wp2_with fail
            go_roundg (l.length - (i + 1))
            case measure => have := HI.out; omega
            case rel => exact ⟨i + 1, _, rfl, by have := HI.out; omega, by go_num, HI3.out⟩
      have t1 : (x.kind == 1) = false := by rw [beq_eq_false_iff_ne]; exact k1
      have hF1 : Hid (Fr (fun _ => False) wr (wr.alloc (.cells #[.int .i64 x.kind, .string (bs x.name), .slice aa x.attrs.length acap, .string (bs x.text)] 54))) := (Fr.refl _ _).alloc _
      by_cases k2 : x.kind = 2
      · have t2 : (x.kind == 2) = true := by rw [beq_iff_eq]; exact k2
        have HK := Lib.hid (tokW_close k2)
        have hbn := HBN.out _ rfl
        rw [HK.out] at hbn
        simp only [List.length_cons, List.length_append, List.length_nil] at hbn
        have HCC := Lib.hid (close_cat x.name)
        have HL := Lib.hid (show u.length + (60 :: 47 :: (x.name ++ [62]) : Str).length ≤ 140737488355328 by simp; omega)
        clear k1 k2
        go_wp2_with fail
        rw [HCC.out]
        refine Calls.mono (HSN.out.write (a := 60 :: 47 :: (x.name ++ [62])) hF1.out HL.out) ?_
        rintro e w3 ⟨rfl, hI3, _⟩
        have HI3 := Lib.hid (show WIn w (writeL (l.take (i + 1))) w3 by rw [HX.out.2.1, HK.out]; exact hI3)
        clear hI3
        go_wp2_with fail
        go_roundg (l.length - (i + 1))
        case measure => have := HI.out; omega
        case rel => exact ⟨i + 1, _, rfl, by have := HI.out; omega, by go_num, HI3.out⟩
      have t2 : (x.kind == 2) = false := by rw [beq_eq_false_iff_ne]; exact k2
      by_cases k3 : x.kind = 3
      · have t3 : (x.kind == 3) = true := by rw [beq_iff_eq]; exact k3
        have HK := Lib.hid (tokW_words k3)
        have hbn := HBN.out _ rfl
        rw [HK.out] at hbn
        have hge := esc_ge x.text
        have HE38 := Lib.hid (fun (W' : World) => escape_h (w := W') x.text (HSX.out.1 k3))
        have HL := Lib.hid (show u.length + (escL x.text).length ≤ 140737488355328 by omega)
        clear k1 k2 k3
        go_wp2_with fail
        refine Calls.mono (HE38.out _) ?_
        rintro e w3 ⟨rfl, hF3⟩
        have HF3 := Lib.hid (hF1.out.next hF3)
        clear hF3
        go_wp2_with fail
        refine Calls.mono (HSN.out.write (a := escL x.text) HF3.out HL.out) ?_
        rintro e w4 ⟨rfl, hI3, _⟩
        have HI3 := Lib.hid (show WIn w (writeL (l.take (i + 1))) w4 by rw [HX.out.2.1, HK.out]; exact hI3)
        clear hI3
        go_wp2_with fail
        go_roundg (l.length - (i + 1))
        case measure => have := HI.out; omega
        case rel => exact ⟨i + 1, _, rfl, by have := HI.out; omega, by go_num, HI3.out⟩
      have t3 : (x.kind == 3) = false := by rw [beq_eq_false_iff_ne]; exact k3
      have HI3 := Lib.hid (show WIn w (writeL (l.take (i + 1))) (wr.alloc (.cells #[.int .i64 x.kind, .string (bs x.name), .slice aa x.attrs.length acap, .string (bs x.text)] 54)) by
        rw [HX.out.2.1, tokW_else k1 k2 k3, List.append_nil]; exact HSN.out.fr hF1.out)
      clear k1 k2 k3
      go_wp2_with fail
      go_roundg (l.length - (i + 1))
      case measure => have := HI.out; omega
      case rel => exact ⟨i + 1, _, rfl, by have := HI.out; omega, by go_num, HI3.out⟩
    · obtain rfl : i = l.length := by omega
      have HN := Lib.hid (show WIn w (writeL l) wr by have h := HR.out; rw [List.take_length] at h; exact h)
      clear hi
      go_wp2_with fail
      refine (Tryz.Builder_String_any_k w.heap.size w.heap.size _ _ HN.out.bld HN.out.low.size).mono ?_
      rintro e w3 ⟨rfl, _, hb3, _⟩
      go_wp2_with fail
      go_ret
      exact ⟨rfl, fr_new (HN.out.low.trans hb3)⟩
end Go.Proofs.YtpinjgdnhbogoaaGreatDoor
