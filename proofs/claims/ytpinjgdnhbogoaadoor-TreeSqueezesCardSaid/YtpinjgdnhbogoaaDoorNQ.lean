/- Squeeze. -/
import Derived.Test.YtpinjgdnhbogoaaDoorT9
import Derived.Test.YtpinjgdnhbogoaaDoorM5
namespace Go.Proofs.YtpinjgdnhbogoaaDoor
open Go.RowKit Go.Lib

theorem join_lib : ∀ xs : List Str, Lib.join xs [32] = joinL xs
  | [] => rfl
  | [x] => by unfold Lib.join joinL; simp [List.intercalate]
  | x :: y :: l => by
    have ih := join_lib (y :: l)
    unfold Lib.join at ih ⊢
    rw [joinL, ← ih]
    simp [List.intercalate, List.intersperse]
theorem sq_len : ∀ (s : Str) (st gap : Bool), (sqF st gap s).length ≤ s.length + gap.toNat
  | [], _, _ => Nat.zero_le _
  | c :: s, st, gap => by
    cases hc : blankC c with
    | true =>
      rw [sq_blank hc]
      have := sq_len s st st
      have h1 : st.toNat ≤ 1 := by cases st <;> simp
      rw [List.length_cons]; omega
    | false =>
      rw [sq_plain hc]
      have := sq_len s true false
      cases gap <;> simp at this ⊢ <;> omega
theorem squeeze_len (s : Str) : (squeezeL s).length ≤ s.length := sq_len s false false
theorem fields_len : ∀ (n : Nat) (s : Str), (fieldsF n s).length ≤ s.length
  | 0, _ => Nat.zero_le _
  | n + 1, s => by
    have h0 := trim_le s
    unfold fieldsF
    cases ht : trimL s with
    | nil => simp
    | cons c t =>
      have hc := trim_first ht
      have ih := fields_len n ((c :: t).dropWhile fun x => !blankC x)
      have h1 : ((c :: t).dropWhile fun x => !blankC x).length ≤ t.length := by
        rw [List.dropWhile_cons, hc]; simp only [Bool.not_false, if_true]; exact (List.dropWhile_suffix _).length_le
      rw [ht, List.length_cons] at h0
      simp only [List.length_cons]; omega
theorem index_blank : ∀ x : Nat, x < 128 → decide (0 ≤ Lib.indexByte [32, 9, 10, 13] (x : Int).toNat.toUInt8) = blankR x := by decide +kernel
theorem ent91 : ∀ args w, (callFunc 10 args).run Tryd.prog w = .ok (.enter 10 args) w := enters_of Tryd.func10 (by kernel_rfl) rfl
set_option maxHeartbeats 4000000 in
theorem blank91_h {w : World} (x : Nat) (hx : x ≤ 1114111) : Calls Tryd.prog 10 #[.int .i32 (x : Int)] w fun e w' => e = .returned (.bool (blankR x)) ∧ w = w' := by
  by_cases h : x < 128
  · have hb := index_blank x h
    have HI := Lib.hid (show Calls Tryd.prog 11 #[.string ⟨#[32, 9, 10, 13]⟩, .int .u8 (x : Int)] w fun e w' => e = .returned (.int .i64 (Lib.indexByte [32, 9, 10, 13] (x : Int).toNat.toUInt8)) ∧ w' = w from Tryd.strings_IndexByte ⟨#[32, 9, 10, 13]⟩ (x : Int) w)
    obtain ⟨z, hz⟩ : ∃ z, Lib.indexByte [32, 9, 10, 13] (x : Int).toNat.toUInt8 = z := ⟨_, rfl⟩
    rw [hz] at HI hb
    have h1 : (x : Int) < 128 := by omega
    have h2 : IntKind.u8.wrap (x : Int) = (x : Int) := by
      show (x : Int) % 256 = (x : Int)
      omega
    clear hz
    have HB := Lib.hid hb
    clear hb
    go_enter Tryd.func10, Tryd.ntmps10
    go_wp2_with fail
    refine Calls.mono HI.out ?_
    rintro e w1 ⟨rfl, hw⟩
    subst hw
    go_wp2_with fail
    go_ret
    exact ⟨by rw [← HB.out] <;> rfl, rfl⟩
  · have hb := blankR_hi (n := x) (by omega)
    have h1 : ¬ (x : Int) < 128 := by omega
    rw [hb]
    clear hb
    go_enter Tryd.func10, Tryd.ntmps10
    go_wp2_with fail
    go_ret
    exact ⟨rfl, rfl⟩
theorem pred91 (w : World) : PredGrows Tryd.prog 10 #[] blankR w := by
  intro W x hx _
  refine (blank91_h (w := W) x hx).mono ?_
  rintro e w' ⟨rfl, rfl⟩
  exact ⟨rfl, Below.refl _ _⟩
set_option maxRecDepth 100000 in
set_option maxHeartbeats 4000000 in
theorem squeeze_h {w : World} (s : Str) (hs : s.length ≤ 100000000) : Calls Tryd.prog 5 #[.string (bs s)] w fun e w' => e = .returned (.string (bs (squeezeL s))) ∧ Fr (fun _ => False) w w' := by
  have hs2 : (bs s).size ≤ 4294967296 := Nat.le_trans (show (bs s).size ≤ 100000000 from hs) (by decide)
  have HF := Lib.hid (fun (W : World) => Tryd.strings_FieldsFunc_grows 10 #[] ent91 blankR (bs s) W hs2 (pred91 W))
  rw [fields_lib] at HF
  have hfl : (fieldsL s).length ≤ s.length := fields_len _ s
  have hsl := squeeze_len s
  have hj : Lib.join (((fieldsL s).map bs).map (·.data.toList)) (bs [32]).data.toList = squeezeL s := by
    rw [squeeze_join, ← join_lib, List.map_map]
    congr 1
    conv => rhs; rw [← List.map_id (fieldsL s)]
    rfl
  have hl1 : ((fieldsL s).map bs).length ≤ 140737488355328 := by rw [List.length_map]; exact Nat.le_trans (Nat.le_trans hfl hs) (by decide)
  have hl2 : (Lib.join (((fieldsL s).map bs).map (·.data.toList)) (bs [32]).data.toList).length ≤ 140737488355328 := by rw [hj]; exact Nat.le_trans (Nat.le_trans hsl hs) (by decide)
  have HJ := Lib.hid (fun (W : World) (bk : Nat) (hc : ∀ (j : Nat) x, ((fieldsL s).map bs)[j]? = some x → W.cell? ⟨bk, 0 + j, none⟩ = some (.string x)) (hb : bk < W.heap.size) => Tryd.strings_Join bk 0 ((fieldsL s).map bs).length ((fieldsL s).map bs) (bs [32]) W hc hb hl1 (Nat.le_refl _) hl2)
  rw [hj] at HJ
  obtain ⟨L, hL⟩ : ∃ L, fieldsL s = L := ⟨_, rfl⟩
  obtain ⟨q, hq⟩ : ∃ q, squeezeL s = q := ⟨_, rfl⟩
  rw [hL] at HF HJ
  rw [hq] at HJ ⊢
  rw [List.length_map] at HF HJ
  clear hj hfl hsl hl1 hl2 hs2 hL hq
  go_enter Tryd.func5, Tryd.ntmps5
  go_wp2_with fail
  refine Calls.mono (HF.out _) ?_
  rintro e w1 ⟨A, rfl, hA, hown, hb⟩
  have hF1 : Fr (fun _ => False) w w1 := fr_new hb
  have HF1 := Lib.hid hF1
  have hblk := ownsRow_block hown
  obtain ⟨cur, hcur⟩ := hblk
  have HJ2 := Lib.hid (HJ.out w1 A (fun j x hx => by
    have := hown.cells (g := A) rfl j (.string x) (by rw [List.getElem?_map, hx]; rfl)
    rwa [Addr.add_lit] at this) (lt_of_block hcur))
  clear hown hb hF1 hcur hA
  go_wp2_with fail
  refine Calls.mono HJ2.out ?_
  rintro e w2 ⟨rfl, hb2⟩
  have HF2 := Lib.hid (HF1.out.next (fr_new hb2))
  clear hb2
  go_wp2_with fail
  go_ret
  exact ⟨rfl, HF2.out⟩
end Go.Proofs.YtpinjgdnhbogoaaDoor
