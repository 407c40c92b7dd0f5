/- The reference's Write. -/
import Derived.Test.YtpinjgdnhbogoaaGreatDoorQ4
import Derived.Test.YtpinjgdnhbogoaaGreatDoorM6
namespace Go.Proofs.YtpinjgdnhbogoaaGreatDoor
open Go.RowKit Go.Lib

theorem bs_sum (a b : Str) (w : World) (h : a.length + b.length ≤ 100000000) : (Op.stringOp .add (bs a) (bs b)).run Tryz.prog w = .ok (.string (bs (a ++ b))) w := by
  rw [← bs_append]; exact str_add w (by rw [bs_size, bs_size]; exact h)
theorem attr_sum (u : Str) (p : Str × Str) : u ++ [32] ++ p.1 ++ [61, 34] ++ escL p.2 ++ [34] = u ++ attrW p := by unfold attrW; simp
set_option maxRecDepth 100000 in
set_option maxHeartbeats 16000000 in
theorem rwrite_h {w : World} {v : Value} {l : List TokD} (hv : TokV w (fun k => k < w.heap.size) v l) (hw : (writeL l).length ≤ 10000000) (hsm : ∀ x ∈ l, (x.kind = 3 → x.text.length ≤ 1000000) ∧ (x.kind = 1 → ∀ p ∈ x.attrs, p.2.length ≤ 1000000)) (hl : l.length ≤ 1000000) (hla : ∀ x ∈ l, x.attrs.length ≤ 1000000) :
    Calls Tryz.prog 52 #[v] w fun e w' => e = .returned (.string (bs (writeL l))) ∧ Fr (fun _ => False) w w' := by
  obtain ⟨ad, cap, rfl, hc1, hc2, _⟩ := hv.elems
  have HV := Lib.hid hv
  have HW := Lib.hid hw
  have HLA := Lib.hid hla
  have HSM := Lib.hid hsm
  clear hv hw hla hsm
  go_enter Tryz.func52, Tryz.ntmps52
  go_wp2_with fail
  go_loopg [3, 4] l.length (fun j v3 v4 w' => ∃ (i : Nat) (wr : World), wr = w' ∧ v3 = .string (bs (writeL (l.take i))) ∧ i + j = l.length ∧ v4 = .int .i64 i ∧ Hid (Fr (fun _ => False) w wr))
  case atStart => exact ⟨0, _, rfl, rfl, by omega, rfl, Fr.refl _ _⟩
  case round =>
    obtain ⟨i, wr, rfl, rfl, hi, rfl, HR⟩ := hrel
    by_cases hlt : i < l.length
    · obtain ⟨_, _, e0, _, _, hel⟩ := HV.out.elems
      cases e0
      obtain ⟨g, off, rfl, hel2⟩ := hel (by omega)
      obtain ⟨x, hx⟩ : ∃ x, l[i]? = some x := ⟨_, List.getElem?_eq_getElem hlt⟩
      obtain ⟨avx, a0, a1, a2, a3, ar⟩ := hel2 i x hx
      obtain ⟨_, aa, acap, rfl, _, _, _, _⟩ := id ar
      have b0 := HR.out.cell a0 (fun h => h)
      have b1 := HR.out.cell a1 (fun h => h)
      have b2 := HR.out.cell a2 (fun h => h)
      have b3 := HR.out.cell a3 (fun h => h)
      have HX := Lib.hid (And.intro hx (And.intro (write_snoc hx) (write_part hx)))
      have HAr := Lib.hid (ar.fr HR.out fun _ _ h => h)
      have hxa := HLA.out x (List.mem_of_getElem? hx)
      have HI := Lib.hid hi
      have z1 : (bs x.name).size = x.name.length := rfl
      obtain ⟨u, hu⟩ : ∃ u, writeL (l.take i) = u := ⟨_, rfl⟩
      rw [hu] at HX ⊢
      have HBN := Lib.hid (fun (n : Nat) (h : (tokW x).length = n) => show u.length + n ≤ 10000000 by have := HX.out.2.2; have := HW.out; omega)
      have HF1 : Hid (Fr (fun _ => False) wr (wr.alloc (.cells #[.int .i64 x.kind, .string (bs x.name), .slice aa x.attrs.length acap, .string (bs x.text)] 97))) := (Fr.refl _ _).alloc _
      have HT := Lib.hid (block_new wr (.cells #[.int .i64 x.kind, .string (bs x.name), .slice aa x.attrs.length acap, .string (bs x.text)] 97))
      clear hel hel2 a0 a1 a2 a3 ar hx hi hu
      have HSX := Lib.hid (HSM.out x (List.mem_of_getElem? HX.out.1))
      by_cases k1 : x.kind = 1
      · have t1 : (x.kind == 1) = true := by rw [beq_iff_eq]; exact k1
        have HSA := Lib.hid (HSX.out.2 k1)
        have HK := Lib.hid (tokW_open k1)
        obtain ⟨A, hA⟩ : ∃ A, x.attrs.flatMap attrW = A := ⟨_, rfl⟩
        have hbn := HBN.out _ rfl
        rw [HK.out, hA] at hbn
        simp only [List.length_cons, List.length_append, List.length_nil] at hbn
        have HA := Lib.hid hA
        have sA := fun (w : World) => bs_sum u [60] w (by simp; omega)
        have sB := fun (w : World) => bs_sum (u ++ [60]) x.name w (by simp; omega)
        have h60 : (⟨#[60]⟩ : ByteArray) = bs [60] := rfl
        rw [← h60] at sA
        have HE0 := Lib.hid (show u ++ [60] ++ x.name = u ++ (60 :: x.name) by simp)
        rw [HE0.out] at sB
        clear k1 hA h60
        go_wp2_with fail
        go_loopg [3, 6] x.attrs.length (fun j v3 v6 w' => ∃ (k : Nat) (W : World), W = w' ∧ v3 = .string (bs (u ++ (60 :: x.name) ++ (x.attrs.take k).flatMap attrW)) ∧ k + j = x.attrs.length ∧ v6 = .int .i64 k ∧ Hid (Fr (fun _ => False) (wr.alloc (.cells #[.int .i64 x.kind, .string (bs x.name), .slice aa x.attrs.length acap, .string (bs x.text)] 97)) W))
        case atStart => exact ⟨0, _, rfl, by simp, by omega, rfl, Fr.refl _ _⟩
        case round =>
          obtain ⟨k, W, rfl, rfl, hk, rfl, HJ⟩ := hrel
          have f2 := cell_of (HJ.out.keep HT.out (fun h => h)) (i := 2) (v := .slice aa x.attrs.length acap) rfl
          by_cases hlt2 : k < x.attrs.length
          · obtain ⟨ga, oa, rfl, hca⟩ := HAr.out.cell (by omega)
            obtain ⟨p, hp⟩ : ∃ p, x.attrs[k]? = some p := ⟨_, List.getElem?_eq_getElem hlt2⟩
            obtain ⟨m0, m1⟩ := acells_at hp
            have ca0 := (HF1.out.next HJ.out).cell (hca _ _ m0) (fun h => h)
            have ca1 := (HF1.out.next HJ.out).cell (hca _ _ m1) (fun h => h)
            rw [← Nat.add_assoc] at ca1
            have hap := attrs_part hp
            rw [HA.out] at hap
            have hal : (attrW p).length = 1 + p.1.length + 2 + (escL p.2).length + 1 := by unfold attrW; simp; omega
            have hge := esc_ge p.2
            have HK2 := Lib.hid (And.intro hk (attrs_snoc hp))
            have HE53 := Lib.hid (fun (W' : World) => rescape_h (w := W') p.2 (HSA.out p (List.mem_of_getElem? hp)))
            obtain ⟨y, hy⟩ : ∃ y, u ++ (60 :: x.name) ++ (x.attrs.take k).flatMap attrW = y := ⟨_, rfl⟩
            have hyl : y.length ≤ 10000000 := by rw [← hy]; simp only [List.length_append, List.length_cons]; omega
            have h32 : (⟨#[32]⟩ : ByteArray) = bs [32] := rfl
            have h61 : (⟨#[61, 34]⟩ : ByteArray) = bs [61, 34] := rfl
            have h34 : (⟨#[34]⟩ : ByteArray) = bs [34] := rfl
            have s1 := fun (w : World) => bs_sum y [32] w (by simp; omega)
            have s2 := fun (w : World) => bs_sum (y ++ [32]) p.1 w (by simp; omega)
            have s3 := fun (w : World) => bs_sum (y ++ [32] ++ p.1) [61, 34] w (by simp; omega)
            have s4 := fun (w : World) => bs_sum (y ++ [32] ++ p.1 ++ [61, 34]) (escL p.2) w (by simp; omega)
            have s5 := fun (w : World) => bs_sum (y ++ [32] ++ p.1 ++ [61, 34] ++ escL p.2) [34] w (by simp; omega)
            rw [attr_sum] at s5
            rw [← h32] at s1
            rw [← h61] at s3
            rw [← h34] at s5
            obtain ⟨y1, hy1⟩ : ∃ y1, y ++ [32] = y1 := ⟨_, rfl⟩
            rw [hy1] at s1 s2 s3 s4 s5
            obtain ⟨y2, hy2⟩ : ∃ y2, y1 ++ p.1 = y2 := ⟨_, rfl⟩
            rw [hy2] at s2 s3 s4 s5
            obtain ⟨y3, hy3⟩ : ∃ y3, y2 ++ [61, 34] = y3 := ⟨_, rfl⟩
            rw [hy3] at s3 s4 s5
            obtain ⟨y4, hy4⟩ : ∃ y4, y3 ++ escL p.2 = y4 := ⟨_, rfl⟩
            rw [hy4] at s4 s5
            have HY := Lib.hid hy
            rw [hy]
            clear m0 m1 hca hp hap hal hge hk hy hy1 hy2 hy3 hy4 h32 h61 h34 sA sB
            go_wp2_with fail
            go_region_held3 (fun w' => w'.cell? ⟨wr.heap.size, 2, none⟩ = some (.slice (some ⟨ga, oa, none⟩) x.attrs.length acap) ∧ w'.cell? ⟨ga, oa + k * 2, none⟩ = some (.string (bs p.1)) ∧ w'.cell? ⟨ga, oa + k * 2 + 1, none⟩ = some (.string (bs p.2)))
              (first | go_keep | (exact ⟨hf10.cell f2 (fun h => h), hf10.cell ca0 (fun h => h), hf10.cell ca1 (fun h => h)⟩))
              (first
                | (go_at_call 53; with_reducible refine Calls.mono (HE53.out _) ?_; rintro e w10 ⟨rfl, hf10⟩)
                | fail)
            have HJ2 := Lib.hid (HJ.out.next (hf10.start rfl rfl rfl rfl))
            clear hf10 s1 s2 s3 s4 s5
            go_wp2_with fail
            go_roundg (x.attrs.length - (k + 1))
            case measure => have := HK2.out.1; omega
            case rel => exact ⟨k + 1, _, rfl, by rw [HK2.out.2, ← List.append_assoc, HY.out], by have := HK2.out.1; omega, by go_num, HJ2.out⟩
          · obtain rfl : k = x.attrs.length := by omega
            rw [List.take_length, HA.out]
            have h62 : (⟨#[62]⟩ : ByteArray) = bs [62] := rfl
            have s1 := fun (w : World) => bs_sum (u ++ (60 :: x.name) ++ A) [62] w (by simp; omega)
            rw [← h62] at s1
            have HN := Lib.hid (show writeL (l.take (i + 1)) = u ++ (60 :: x.name) ++ A ++ [62] by rw [HX.out.2.1, HK.out, HA.out]; simp)
            rw [← HN.out] at s1
            obtain ⟨y, hy⟩ : ∃ y, u ++ (60 :: x.name) ++ A = y := ⟨_, rfl⟩
            rw [hy] at s1 ⊢
            clear h62 sA sB hk hy
            go_wp2_with fail
            go_roundg (l.length - (i + 1))
            case measure => have := HI.out; omega
            case rel => exact ⟨i + 1, _, rfl, rfl, by have := HI.out; omega, by go_num, HR.out.next (HF1.out.next HJ.out)⟩
      have t1 : (x.kind == 1) = false := by rw [beq_eq_false_iff_ne]; exact k1
      by_cases k2 : x.kind = 2
      · have t2 : (x.kind == 2) = true := by rw [beq_iff_eq]; exact k2
        have HK := Lib.hid (tokW_close k2)
        have hbn := HBN.out _ rfl
        rw [HK.out] at hbn
        simp only [List.length_cons, List.length_append, List.length_nil] at hbn
        have h60 : (⟨#[60, 47]⟩ : ByteArray) = bs [60, 47] := rfl
        have h62 : (⟨#[62]⟩ : ByteArray) = bs [62] := rfl
        have s1 := fun (w : World) => bs_sum u [60, 47] w (by simp; omega)
        have s2 := fun (w : World) => bs_sum (u ++ [60, 47]) x.name w (by simp; omega)
        have s3 := fun (w : World) => bs_sum (u ++ [60, 47] ++ x.name) [62] w (by simp; omega)
        rw [← h60] at s1
        rw [← h62] at s3
        have HN := Lib.hid (show writeL (l.take (i + 1)) = u ++ [60, 47] ++ x.name ++ [62] by rw [HX.out.2.1, HK.out]; simp)
        rw [← HN.out] at s3
        obtain ⟨y1, hy1⟩ : ∃ y1, u ++ [60, 47] = y1 := ⟨_, rfl⟩
        rw [hy1] at s1 s2 s3
        obtain ⟨y2, hy2⟩ : ∃ y2, y1 ++ x.name = y2 := ⟨_, rfl⟩
        rw [hy2] at s2 s3
        clear k1 k2 h60 h62 hy1 hy2
        go_wp2_with fail
        go_roundg (l.length - (i + 1))
        case measure => have := HI.out; omega
        case rel => exact ⟨i + 1, _, rfl, rfl, by have := HI.out; omega, by go_num, HR.out.next HF1.out⟩
      have t2 : (x.kind == 2) = false := by rw [beq_eq_false_iff_ne]; exact k2
      by_cases k3 : x.kind = 3
      · have t3 : (x.kind == 3) = true := by rw [beq_iff_eq]; exact k3
        have HK := Lib.hid (tokW_words k3)
        have hbn := HBN.out _ rfl
        rw [HK.out] at hbn
        have hge := esc_ge x.text
        have HE53 := Lib.hid (fun (W' : World) => rescape_h (w := W') x.text (HSX.out.1 k3))
        have s1 := fun (w : World) => bs_sum u (escL x.text) w (by omega)
        have HN := Lib.hid (show writeL (l.take (i + 1)) = u ++ escL x.text by rw [HX.out.2.1, HK.out])
        rw [← HN.out] at s1
        clear k1 k2 k3
        go_wp2_with fail
        refine Calls.mono (HE53.out _) ?_
        rintro e w3 ⟨rfl, hF3⟩
        have HF3 := Lib.hid (HF1.out.next hF3)
        clear hF3
        go_wp2_with fail
        go_roundg (l.length - (i + 1))
        case measure => have := HI.out; omega
        case rel => exact ⟨i + 1, _, rfl, rfl, by have := HI.out; omega, by go_num, HR.out.next HF3.out⟩
      have t3 : (x.kind == 3) = false := by rw [beq_eq_false_iff_ne]; exact k3
      have HN := Lib.hid (show writeL (l.take (i + 1)) = u by rw [HX.out.2.1, tokW_else k1 k2 k3, List.append_nil])
      clear k1 k2 k3
      go_wp2_with fail
      go_roundg (l.length - (i + 1))
      case measure => have := HI.out; omega
      case rel => exact ⟨i + 1, _, rfl, by rw [HN.out], by have := HI.out; omega, by go_num, HR.out.next HF1.out⟩
    · obtain rfl : i = l.length := by omega
      rw [List.take_length]
      go_wp2_with fail
      go_ret
      exact ⟨rfl, HR.out⟩
end Go.Proofs.YtpinjgdnhbogoaaGreatDoor
