/- The library's pieces between blanks are those of the plain words (no program is walked). -/
import Derived.Test.YtpinjgdnhbogoaaGreatDoorM5
import Derived.Test.YtpinjgdnhbogoaaGreatDoorM0
import Derived.Test.YtpinjgdnhbogoaaGreatDoorQ1
import Derived.Lib.FieldsP
namespace Go.Proofs.YtpinjgdnhbogoaaGreatDoor
open Go.Lib

/-- a predicate on runes: a blank -/
def blankR (n : Nat) : Bool := n == 32 || n == 9 || n == 10 || n == 13
theorem blankR_hi {n : Nat} (h : 128 ≤ n) : blankR n = false := by
  unfold blankR
  simp only [Bool.or_eq_false_iff, beq_eq_false_iff_ne]; omega
theorem blankR_c (c : UInt8) : blankR c.toNat = blankC c := by
  have h : ∀ k : UInt8, (c.toNat == k.toNat) = (c == k) := fun k => by
    rw [Bool.eq_iff_iff, beq_iff_eq, beq_iff_eq]; exact ⟨fun h => UInt8.toNat.inj h, fun h => by rw [h]⟩
  unfold blankR blankC
  rw [← h 32, ← h 9, ← h 10, ← h 13]; rfl
/-- pieces between blanks; st: the one that is open -/
def fldW : Option Str → Str → List Str
  | none, [] => []
  | some w, [] => [w]
  | st, c :: s => if blankC c then (match st with | none => fldW none s | some w => w :: fldW none s) else fldW (some (st.getD [] ++ [c])) s
theorem fld_none_blank {c : UInt8} {s : Str} (h : blankC c = true) : fldW none (c :: s) = fldW none s := by
  conv => lhs; unfold fldW
  exact if_pos h
theorem fld_some_blank {c : UInt8} {w s : Str} (h : blankC c = true) : fldW (some w) (c :: s) = w :: fldW none s := by
  conv => lhs; unfold fldW
  exact if_pos h
theorem fld_plain {c : UInt8} {st : Option Str} {s : Str} (h : blankC c = false) : fldW st (c :: s) = fldW (some (st.getD [] ++ [c])) s := by
  cases st <;> (conv => lhs; unfold fldW) <;> rw [if_neg (by rw [h]; simp)]
theorem fld_run : ∀ (u : Str) (st : Option Str) (r : Str), u ≠ [] → (∀ c ∈ u, blankC c = false) → fldW st (u ++ r) = fldW (some (st.getD [] ++ u)) r
  | [], _, _, h, _ => absurd rfl h
  | [c], st, r, _, h => fld_plain (h c List.mem_cons_self)
  | c :: d :: u, st, r, _, h => by
    rw [List.cons_append, fld_plain (h c List.mem_cons_self), fld_run (d :: u) _ r (by simp) fun x hx => h x (List.mem_cons_of_mem _ hx)]
    simp
theorem fld_trim : ∀ s : Str, fldW none s = fldW none (trimL s)
  | [] => rfl
  | c :: s => by
    unfold trimL
    cases hc : blankC c with
    | true => rw [fld_none_blank hc, List.dropWhile_cons, if_pos hc]; exact fld_trim s
    | false => rw [List.dropWhile_cons, if_neg (by rw [hc]; simp)]
theorem fld_word : ∀ (s w : Str), fldW (some w) s = (w ++ s.takeWhile fun x => !blankC x) :: fldW none (s.dropWhile fun x => !blankC x)
  | [], w => by simp [fldW]
  | c :: s, w => by
    cases hc : blankC c with
    | true =>
      rw [fld_some_blank hc, List.takeWhile_cons, List.dropWhile_cons, hc]
      simp [fld_none_blank hc]
    | false =>
      rw [fld_plain hc, List.takeWhile_cons, List.dropWhile_cons, hc]
      simp only [Option.getD_some, Bool.not_false, if_true]
      rw [fld_word s (w ++ [c])]; simp
theorem fld_fields : ∀ (n : Nat) (s : Str), s.length < n → fieldsF n s = fldW none s
  | 0, _, h => by omega
  | n + 1, s, hn => by
    rw [fld_trim]
    unfold fieldsF
    have h0 := trim_le s
    cases ht : trimL s with
    | nil => rfl
    | cons c t =>
      have hc := trim_first ht
      rw [fld_plain hc]
      simp only [Option.getD_none, List.nil_append]
      rw [fld_word, List.takeWhile_cons, List.dropWhile_cons, hc]
      simp only [Bool.not_false, if_true]
      have h1 : (t.dropWhile fun x => !blankC x).length ≤ t.length := (List.dropWhile_suffix _).length_le
      rw [ht, List.length_cons] at h0
      rw [fld_fields n _ (by omega)]; simp
def stW (s : Str) (pos : Nat) (st : Option Nat) : Option Str := st.map fun a => (s.drop a).take (pos - a)
theorem ext_bs (s : Str) (a b : Nat) : (bs s).extract a b = bs ((s.drop a).take (b - a)) := bs_mid s a b
theorem take_moreT (s : Str) {a pos k : Nat} (h : a ≤ pos) : (s.drop a).take (pos + k - a) = (s.drop a).take (pos - a) ++ (s.drop pos).take k := by
  rw [show pos + k - a = (pos - a) + k by omega, List.take_add, List.drop_drop, show a + (pos - a) = pos by omega]
theorem spans_fld (s : Str) : ∀ (f pos : Nat) (st : Option Nat) (acc : List (Nat × Nat)), s.length ≤ pos + f → pos ≤ s.length → (∀ a, st = some a → a ≤ pos) →
    (closeSpans (bs s) (spansFromP blankR (bs s) f pos st acc)).map (fun x => (bs s).extract x.1 x.2) = acc.map (fun x => (bs s).extract x.1 x.2) ++ (fldW (stW s pos st) (s.drop pos)).map bs := by
  have stop : ∀ (pos : Nat) (st : Option Nat) (acc : List (Nat × Nat)), pos = s.length → (closeSpans (bs s) (acc, st)).map (fun x => (bs s).extract x.1 x.2) = acc.map (fun x => (bs s).extract x.1 x.2) ++ (fldW (stW s pos st) (s.drop pos)).map bs := by
    rintro pos st acc rfl
    rw [List.drop_length]
    cases st with
    | none => simp [closeSpans, stW, fldW]
    | some a =>
      simp only [closeSpans, stW, Option.map_some, fldW, List.map_append, List.map_cons, List.map_nil]
      rw [ext_bs]; rfl
  intro f
  induction f with
  | zero =>
    intro pos st acc h1 h2 _
    exact stop pos st acc (by omega)
  | succ f ih =>
    intro pos st acc h1 h2 h3
    by_cases hlt : pos < s.length
    · have hz : pos < (bs s).size := hlt
      have hat : (bs s)[pos] = s.getD pos 0 := bs_at s pos hz
      have hd := drop_getD hlt
      unfold spansFromP
      rw [if_pos hz]
      by_cases hb : 128 ≤ (s.getD pos 0).toNat
      · obtain ⟨k1, _, k3, k4, k5⟩ := decode_hi (bs s) pos hz (by rw [hat]; exact hb)
        obtain ⟨p, hp⟩ : ∃ p, Utf8.decode (bs s) pos = p := ⟨_, rfl⟩
        rw [hp] at k1 k3 k4 k5 ⊢
        have k4' : pos + p.2 ≤ s.length := k4
        rw [blankR_hi k1]
        have hu : ∀ c ∈ (s.drop pos).take p.2, blankC c = false := by
          intro c hc
          obtain ⟨j, hj, e⟩ := List.getElem_of_mem hc
          rw [List.length_take, List.length_drop] at hj
          have h7 : pos + j < (bs s).size := by show pos + j < s.length; omega
          have h6 := k5 (pos + j) (by omega) (by omega) h7
          rw [bs_at s (pos + j) h7] at h6
          rw [List.getElem_take, List.getElem_drop] at e
          have h8 : s.getD (pos + j) 0 = c := by rw [List.getD_eq_getElem?_getD, List.getElem?_eq_getElem (by omega)]; exact e
          rw [h8] at h6
          rw [← blankR_c, blankR_hi h6]
        have hne : (s.drop pos).take p.2 ≠ [] := by
          intro e
          have := congrArg List.length e
          rw [List.length_take, List.length_drop] at this
          simp at this; omega
        have hsp : s.drop pos = (s.drop pos).take p.2 ++ s.drop (pos + p.2) := by
          conv => lhs; rw [← List.take_append_drop p.2 (s.drop pos), List.drop_drop]
        have hrun := fld_run ((s.drop pos).take p.2) (stW s pos st) (s.drop (pos + p.2)) hne hu
        rw [← hsp] at hrun
        rw [hrun]
        simp only [Bool.false_eq_true, if_false]
        have e0 : stW s (pos + p.2) (some pos) = some ((stW s pos none).getD [] ++ (s.drop pos).take p.2) := by
          unfold stW
          rw [Option.map_some, Option.map_none, Option.getD_none, List.nil_append, show pos + p.2 - pos = p.2 by omega]
        have e1 : ∀ a, a ≤ pos → stW s (pos + p.2) (some a) = some ((stW s pos (some a)).getD [] ++ (s.drop pos).take p.2) := by
          intro a ha
          unfold stW
          rw [Option.map_some, Option.map_some, Option.getD_some, take_moreT s ha]
        cases st with
        | none =>
          dsimp only
          rw [ih (pos + p.2) (some pos) acc (by omega) k4' (fun a e => by cases e; omega), e0]
        | some a =>
          dsimp only
          rw [ih (pos + p.2) (some a) acc (by omega) k4' (fun b e => by cases e; have := h3 a rfl; omega), e1 a (h3 a rfl)]
      · have hdec : Utf8.decode (bs s) pos = ((s.getD pos 0).toNat, 1) := by
          have h0 : ((bs s).get! (pos + 0)).toNat = (s.getD pos 0).toNat := by
            rw [Nat.add_zero]
            show ((bs s).data[pos]!).toNat = _
            rw [getElem!_pos (bs s).data pos hz]
            rw [← hat]; rfl
          unfold Utf8.decode
          simp only [h0]
          rw [if_pos (by omega)]
        rw [hdec]
        dsimp only
        rw [blankR_c]
        cases hc : blankC (s.getD pos 0) with
        | true =>
          simp only [if_true]
          cases st with
          | none =>
            dsimp only
            rw [ih (pos + 1) none acc (by omega) (by omega) (fun a e => by cases e), hd]
            unfold stW
            simp only [Option.map_none]
            rw [fld_none_blank hc]
          | some a =>
            dsimp only
            rw [ih (pos + 1) none (acc ++ [(a, pos)]) (by omega) (by omega) (fun a e => by cases e), hd]
            unfold stW
            simp only [Option.map_none, Option.map_some]
            rw [fld_some_blank hc]
            simp only [List.map_append, List.map_cons, List.map_nil, List.append_assoc, List.cons_append, List.nil_append]
            rw [ext_bs]
        | false =>
          simp only [Bool.false_eq_true, if_false]
          have hone : (s.drop pos).take 1 = [s.getD pos 0] := by rw [hd]; rfl
          have e0 : stW s (pos + 1) (some pos) = some ((stW s pos none).getD [] ++ [s.getD pos 0]) := by
            unfold stW
            rw [Option.map_some, Option.map_none, Option.getD_none, List.nil_append, show pos + 1 - pos = 1 by omega, hone]
          have e1 : ∀ a, a ≤ pos → stW s (pos + 1) (some a) = some ((stW s pos (some a)).getD [] ++ [s.getD pos 0]) := by
            intro a ha
            unfold stW
            rw [Option.map_some, Option.map_some, Option.getD_some, take_moreT s ha, hone]
          cases st with
          | none =>
            dsimp only
            rw [ih (pos + 1) (some pos) acc (by omega) (by omega) (fun a e => by cases e; omega), e0, hd, fld_plain hc]
          | some a =>
            dsimp only
            rw [ih (pos + 1) (some a) acc (by omega) (by omega) (fun b e => by cases e; have := h3 a rfl; omega), e1 a (h3 a rfl), hd, fld_plain hc]
    · unfold spansFromP
      rw [if_neg (by show ¬ pos < s.length; exact hlt)]
      exact stop pos st acc (by omega)
theorem fields_lib (s : Str) : goFieldsP blankR (bs s) = (fieldsL s).map bs := by
  unfold goFieldsP spansOfP fieldsL
  have h := spans_fld s (bs s).size 0 none [] (by show s.length ≤ 0 + s.length; omega) (Nat.zero_le _) (fun a e => by cases e)
  rw [h, fld_fields _ _ (Nat.lt_succ_self _)]
  simp [stW]
end Go.Proofs.YtpinjgdnhbogoaaGreatDoor

/- Squeeze. -/
namespace Go.Proofs.YtpinjgdnhbogoaaGreatDoor
open Go.RowKit Go.Lib

theorem join_lib : ∀ xs : List Str, Lib.join xs [32] = joinL xs
  | [] => rfl
  | [x] => by unfold Lib.join joinL; simp [List.intercalate]
  | x :: y :: l => by
    have ih := join_lib (y :: l)
    unfold Lib.join at ih ⊢
    rw [joinL, ← ih]
    simp [List.intercalate, List.intersperse]
theorem sq_len : ∀ (s : Str) (st gap : Bool), (sqF st gap s).length ≤ s.length + gap.toNat
  | [], _, _ => Nat.zero_le _
  | c :: s, st, gap => by
    cases hc : blankC c with
    | true =>
      rw [sq_blank hc]
      have := sq_len s st st
      have h1 : st.toNat ≤ 1 := by cases st <;> simp
      rw [List.length_cons]; omega
    | false =>
      rw [sq_plain hc]
      have := sq_len s true false
      cases gap <;> simp at this ⊢ <;> omega
theorem squeeze_len (s : Str) : (squeezeL s).length ≤ s.length := sq_len s false false
theorem fields_len : ∀ (n : Nat) (s : Str), (fieldsF n s).length ≤ s.length
  | 0, _ => Nat.zero_le _
  | n + 1, s => by
    have h0 := trim_le s
    unfold fieldsF
    cases ht : trimL s with
    | nil => simp
    | cons c t =>
      have hc := trim_first ht
      have ih := fields_len n ((c :: t).dropWhile fun x => !blankC x)
      have h1 : ((c :: t).dropWhile fun x => !blankC x).length ≤ t.length := by
        rw [List.dropWhile_cons, hc]; simp only [Bool.not_false, if_true]; exact (List.dropWhile_suffix _).length_le
      rw [ht, List.length_cons] at h0
      simp only [List.length_cons]; omega
theorem index_blank : ∀ x : Nat, x < 128 → decide (0 ≤ Lib.indexByte [32, 9, 10, 13] (x : Int).toNat.toUInt8) = blankR x := by decide +kernel
theorem ent91 : ∀ args w, (callFunc 91 args).run Tryz.prog w = .ok (.enter 91 args) w := enters_of Tryz.func91 (by kernel_rfl) rfl
set_option maxHeartbeats 4000000 in
theorem blank91_h {w : World} (x : Nat) (hx : x ≤ 1114111) : Calls Tryz.prog 91 #[.int .i32 (x : Int)] w fun e w' => e = .returned (.bool (blankR x)) ∧ w = w' := by
  by_cases h : x < 128
  · have hb := index_blank x h
    have HI := Lib.hid (show Calls Tryz.prog 79 #[.string ⟨#[32, 9, 10, 13]⟩, .int .u8 (x : Int)] w fun e w' => e = .returned (.int .i64 (Lib.indexByte [32, 9, 10, 13] (x : Int).toNat.toUInt8)) ∧ w' = w from Tryz.strings_IndexByte ⟨#[32, 9, 10, 13]⟩ (x : Int) w)
    obtain ⟨z, hz⟩ : ∃ z, Lib.indexByte [32, 9, 10, 13] (x : Int).toNat.toUInt8 = z := ⟨_, rfl⟩
    rw [hz] at HI hb
    have h1 : (x : Int) < 128 := by omega
    have h2 : IntKind.u8.wrap (x : Int) = (x : Int) := by
      show (x : Int) % 256 = (x : Int)
      omega
    clear hz
    have HB := Lib.hid hb
    clear hb
    go_enter Tryz.func91, Tryz.ntmps91
    go_wp2_with fail
    refine Calls.mono HI.out ?_
    rintro e w1 ⟨rfl, hw⟩
    subst hw
    go_wp2_with fail
    go_ret
    exact ⟨by rw [← HB.out] <;> rfl, rfl⟩
  · have hb := blankR_hi (n := x) (by omega)
    have h1 : ¬ (x : Int) < 128 := by omega
    rw [hb]
    clear hb
    go_enter Tryz.func91, Tryz.ntmps91
    go_wp2_with fail
    go_ret
    exact ⟨rfl, rfl⟩
theorem pred91 (w : World) : PredGrows Tryz.prog 91 #[] blankR w := by
  intro W x hx _
  refine (blank91_h (w := W) x hx).mono ?_
  rintro e w' ⟨rfl, rfl⟩
  exact ⟨rfl, Below.refl _ _⟩
set_option maxRecDepth 100000 in
set_option maxHeartbeats 4000000 in
theorem squeeze_h {w : World} (s : Str) (hs : s.length ≤ 100000000) : Calls Tryz.prog 49 #[.string (bs s)] w fun e w' => e = .returned (.string (bs (squeezeL s))) ∧ Fr (fun _ => False) w w' := by
  have hs2 : (bs s).size ≤ 4294967296 := Nat.le_trans (show (bs s).size ≤ 100000000 from hs) (by decide)
  have HF := Lib.hid (fun (W : World) => Tryz.strings_FieldsFunc_grows 91 #[] ent91 blankR (bs s) W hs2 (pred91 W))
  rw [fields_lib] at HF
  have hfl : (fieldsL s).length ≤ s.length := fields_len _ s
  have hsl := squeeze_len s
  have hj : Lib.join (((fieldsL s).map bs).map (·.data.toList)) (bs [32]).data.toList = squeezeL s := by
    rw [squeeze_join, ← join_lib, List.map_map]
    congr 1
    conv => rhs; rw [← List.map_id (fieldsL s)]
    rfl
  have hl1 : ((fieldsL s).map bs).length ≤ 140737488355328 := by rw [List.length_map]; exact Nat.le_trans (Nat.le_trans hfl hs) (by decide)
  have hl2 : (Lib.join (((fieldsL s).map bs).map (·.data.toList)) (bs [32]).data.toList).length ≤ 140737488355328 := by rw [hj]; exact Nat.le_trans (Nat.le_trans hsl hs) (by decide)
  have HJ := Lib.hid (fun (W : World) (bk : Nat) (hc : ∀ (j : Nat) x, ((fieldsL s).map bs)[j]? = some x → W.cell? ⟨bk, 0 + j, none⟩ = some (.string x)) (hb : bk < W.heap.size) => Tryz.strings_Join bk 0 ((fieldsL s).map bs).length ((fieldsL s).map bs) (bs [32]) W hc hb hl1 (Nat.le_refl _) hl2)
  rw [hj] at HJ
  obtain ⟨L, hL⟩ : ∃ L, fieldsL s = L := ⟨_, rfl⟩
  obtain ⟨q, hq⟩ : ∃ q, squeezeL s = q := ⟨_, rfl⟩
  rw [hL] at HF HJ
  rw [hq] at HJ ⊢
  rw [List.length_map] at HF HJ
  clear hj hfl hsl hl1 hl2 hs2 hL hq
  go_enter Tryz.func49, Tryz.ntmps49
  go_wp2_with fail
  refine Calls.mono (HF.out _) ?_
  rintro e w1 ⟨A, rfl, hA, hown, hb⟩
  have hF1 : Fr (fun _ => False) w w1 := fr_new hb
  have HF1 := Lib.hid hF1
  have hblk := ownsRow_block hown
  obtain ⟨cur, hcur⟩ := hblk
  have HJ2 := Lib.hid (HJ.out w1 A (fun j x hx => by
    have := hown.cells (g := A) rfl j (.string x) (by rw [List.getElem?_map, hx]; rfl)
    rwa [Addr.add_lit] at this) (lt_of_block hcur))
  clear hown hb hF1 hcur hA
  go_wp2_with fail
  refine Calls.mono HJ2.out ?_
  rintro e w2 ⟨rfl, hb2⟩
  have HF2 := Lib.hid (HF1.out.next (fr_new hb2))
  clear hb2
  go_wp2_with fail
  go_ret
  exact ⟨rfl, HF2.out⟩
end Go.Proofs.YtpinjgdnhbogoaaGreatDoor
