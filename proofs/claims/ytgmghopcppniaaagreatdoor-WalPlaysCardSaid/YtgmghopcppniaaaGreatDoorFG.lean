/- codec's Text, and ToText: walked. -/
import Derived.Test.YtgmghopcppniaaaGreatDoorFD
import Derived.Test.YtgmghopcppniaaaGreatDoorFC
import Derived.Test.YtgmghopcppniaaaGreatDoorFE
import Derived.Test.YtgmghopcppniaaaGreatDoorFK
import Derived.Deep.RegionHeld3
import Derived.StillTail
namespace Go.Proofs.YtgmghopcppniaaaGreatDoor
open Go.RowKit Go.Lib

set_option maxHeartbeats 2000000 in
set_option maxRecDepth 100000 in
theorem xwrite_h (B b : Nat) (bs : List Value) (s : ByteArray) (w : World) (h : Lib.IsBuilderF 197 5 B b bs w) (hlen : bs.length + s.size ≤ 140737488355328) (hBw : B ≤ w.heap.size) :
  Calls Tryz.prog 61 #[.pointer (some ⟨b, 0, none⟩), .string s] w fun e w' => e = .returned (.tuple #[.int .i64 s.size, .nilIface]) ∧ Lib.BuilderAtF 197 5 B b (.pointer (some ⟨b, 0, none⟩)) (bs ++ Lib.strCells s) w' ∧ Below B w w' ∧ Lib.OthersKept 5 (some b) w w' := by
 obtain ⟨i0, hi, hz0, hz1, hz2⟩ := info_parts info5
 go_enter Tryz.func61, Tryz.ntmps61
 go_wp2_with (go_at_call 114; refine (bcheck_h B b bs _ h).mono ?_)
 rintro e w1 ⟨rfl, h1, hb1, hk1⟩
 obtain ⟨hB, v, hbk, hown, hne⟩ := h1
 have c0 : w1.cell? ⟨b, 0, none⟩ = some (.pointer (some ⟨b, 0, none⟩)) := by rw [Lib.cell_of_heap hbk]; rfl
 have c1 : w1.cell? ⟨b, 1, none⟩ = some v := by rw [Lib.cell_of_heap hbk]; rfl
 go_wp2_with (at_builtin; refine Lib.wpList_append_own_stringF _ rfl _ _ 33 9 rfl B 5 i0 Tryz.underlying33 Tryz.underlying9 hi hz0 hz1 hz2 _ _ _ rfl hown s rfl ?c3 ?c4 ?c5 ?_)
 case c3 => unfold maxLen; omega
 case c4 => omega
 case c5 => have := hb1.size; omega
 intro v' w2 hown' hgrow _
 have hlt : b < w1.heap.size := by
  rcases Nat.lt_or_ge b w1.heap.size with h' | h'
  ·exact h'
  ·simp [Array.getElem?_eq_none h'] at hbk
 have hb2 : w2.heap[b]? = some (.cells #[.pointer (some ⟨b, 0, none⟩), v] 197 (0, 0)) := by
  rw [hgrow.block b hlt (fun e => hne e.symm)]
  exact hbk
 have d0 : w2.cell? ⟨b, 0, none⟩ = some (.pointer (some ⟨b, 0, none⟩)) := by rw [Lib.cell_of_heap hb2]; rfl
 have d1 : w2.cell? ⟨b, 1, none⟩ = some v := by rw [Lib.cell_of_heap hb2]; rfl
 have f1 : w2.frozen? ⟨b, 1, none⟩ = false := Lib.frozen_of_heap hb2 1
 obtain ⟨ao, n', cap, rfl⟩ : ∃ ao n' cap, v' = .slice ao n' cap := by
  rcases hown'.2 with ⟨hv, _⟩ | ⟨g, cap, cur, fz, hv, _⟩
  ·exact ⟨_, _, _, hv⟩
  ·exact ⟨_, _, _, hv⟩
 go_wp2
 go_ret2
 refine ⟨rfl, ?_, ?_, (hk1.grown hgrow (Lib.ownsRowF_kind hown)).setCell ⟨b, 1, none⟩ rfl _⟩
 ·exact Lib.BuilderAtF.put (T := 197) (e := 5) hB hb2 (bs' := bs ++ Lib.strCells s) (by simpa [Lib.strCells_length] using hown') (by decide)
 ·exact (hb1.grown hgrow (by have := hb1.size; omega) (fun k hk => (hown.lt k hk).1)).setCell (p := ⟨b, 1, none⟩) hB _

theorem xbyteCells_app (a b : Str) : Lib.byteCells a ++ Lib.byteCells b = Lib.byteCells (a ++ b) := by unfold Lib.byteCells; rw [List.map_append]
theorem xput {B b : Nat} {w : World} {l a : Str} (h : Wr B b l w) (hl : l.length + a.length ≤ 140737488355328) (hBw : B ≤ w.heap.size) :
  Calls Tryz.prog 61 #[.pointer (some ⟨b, 0, none⟩), .string (bs a)] w fun e w' => (∃ n, e = .returned (.tuple #[.int .i64 n, .nilIface])) ∧ WrPost B b (l ++ a) w w' := by
 refine (xwrite_h B b (Lib.byteCells l) (bs a) w h (by rw [Lib.byteCells_length]; exact hl) hBw).mono ?_
 rintro e w' ⟨rfl, h1, h2, h3⟩
 rw [show Lib.strCells (bs a) = Lib.byteCells a from rfl, xbyteCells_app] at h1
 exact ⟨⟨_, rfl⟩, .inr h1, h2, h3⟩
set_option maxRecDepth 100000 in
set_option maxHeartbeats 8000000 in
theorem wtext_h {w : World} {B b : Nat} {o : Str} (s : Str) (h : Wr B b o w) (hl : o.length + s.length ≤ 9000000) (hB : B ≤ w.heap.size) :
  Calls Tryz.prog 189 #[.pointer (some ⟨b, 0, none⟩), .string (bs s)] w fun e w' => e = .returned (.tuple #[]) ∧ WrPost B b (o ++ textL s) w w' := by
 have hsz : (bs s).size = s.length := rfl
 have hI : I64 (s.length : Int) := by unfold I64; omega
 have H1 := Lib.hid (wint_h (s.length : Int) hI h (by omega) hB)
 have hil := intL_len hI
 obtain ⟨t, ht⟩ : ∃ t, intL (s.length : Int) = t := ⟨_, rfl⟩
 rw [ht] at H1 hil
 have HT := Lib.hid ht
 clear h ht hI
 go_enter Tryz.func189, Tryz.ntmps189
 go_wp2_with fail
 refine Calls.mono H1.out ?_
 rintro e w2 ⟨rfl, hW2⟩
 have HW2 := Lib.hid hW2
 have hs2 := hW2.2.1.size
 have H2 := Lib.hid (xput (a := s) hW2.1 (by rw [List.length_append]; omega) (by omega))
 clear hW2
 go_wp2_with fail
 refine Calls.mono H2.out ?_
 rintro e w3 ⟨⟨n, rfl⟩, hW3⟩
 have HW3 := Lib.hid (HW2.out.next hW3)
 clear hW3
 go_wp2_with fail
 go_end0
 refine ⟨rfl, ?_⟩
 have := HW3.out
 rw [List.append_assoc] at this
 unfold textL
 rw [HT.out]; exact this
def textsL (l : List Str) : Str := l.flatMap textL
theorem textsL_snoc {l : List Str} {i : Nat} {n : Str} (h : l[i]? = some n) : textsL (l.take (i + 1)) = textsL (l.take i) ++ textL n := by
 unfold textsL
 rw [List.take_add_one, h, List.flatMap_append]; simp
theorem textL_len {s : Str} (h : s.length ≤ 9000000) : (textL s).length ≤ s.length + 10 := by
 unfold textL
 rw [List.length_append]
 have := intL_len (n := (s.length : Int)) (by unfold I64; omega)
 omega
/-- texts in a row -/
def TR (w : World) (S : Nat → Prop) (v : Value) (l : List Str) : Prop := SRow w S 1 v l.length (l.map fun s => .string (bs s))
theorem TR.fr {w w' : World} {S o : Nat → Prop} {v : Value} {l : List Str} (h : TR w S v l) (hf : Fr o w w') (ho : ∀ k, S k → ¬ o k) : TR w' S v l := SRow.fr h hf ho
theorem TR.cells {w : World} {S : Nat → Prop} {l : List Str} {a : Option Addr} {cap : Nat} (h : TR w S (.slice a l.length cap) l) (hn : 0 < l.length) : ∃ g off, a = some ⟨g, off, none⟩ ∧ ∀ i s, l[i]? = some s → w.cell? ⟨g, off + i, none⟩ = some (.string (bs s)) := by
 obtain ⟨g, off, ha, hc⟩ := SRow.cell h hn
 exact ⟨g, off, ha, fun i s hi => hc i _ (by rw [List.getElem?_map, hi]; rfl)⟩
set_option maxRecDepth 100000 in
set_option maxHeartbeats 8000000 in
theorem eachs_h {w : World} {B b cap : Nat} {a : Option Addr} {o : Str} (l : List Str) (hr : TR w (fun k => k < B) (.slice a l.length cap) l) (h : Wr B b o w) (hl : o.length + (textsL l).length ≤ 9000000) (hB : B ≤ w.heap.size) :
  Calls Tryz.prog 188 #[.slice a l.length cap, .func (.func 189) #[.pointer (some ⟨b, 0, none⟩)] #[]] w fun e w' => e = .returned (.tuple #[]) ∧ WrPost B b (o ++ textsL l) w w' := by
 have H := Lib.hid h
 have HR := Lib.hid hr
 have hla : l.length ≤ 9000000 := by
  have : l.length ≤ (textsL l).length := by
   unfold textsL
   clear hr hl HR
   induction l with
   | nil => exact Nat.zero_le _
   | cons s l ih => rw [List.flatMap_cons, List.length_append, List.length_cons]; have := intL_pos (s.length : Int); unfold textL; rw [List.length_append]; unfold textL at ih; omega
  omega
 clear h hr
 go_enter Tryz.func188, Tryz.ntmps188
 go_wp2_with fail
 go_loopg [8] (l.length) (fun j v8 wr => ∃ i : Nat, i + j = l.length ∧ v8 = .int .i64 (i : Int) ∧ Hid (WrPost B b (o ++ textsL (l.take i)) w wr))
 case atStart => exact ⟨0, by omega, rfl, ⟨by rw [List.take_zero, show textsL [] = [] from rfl, List.append_nil]; exact H.out, Below.refl _ _, Lib.OthersKept.refl _ _ _⟩⟩
 case round =>
  obtain ⟨i, hi, rfl, HP⟩ := hrel
  have HX := Lib.hid hi
  clear hi
  by_cases hlt : i < l.length
  ·obtain ⟨n, hn⟩ : ∃ n, l[i]? = some n := ⟨_, List.getElem?_eq_getElem hlt⟩
   have HR2 : TR wr (fun k => k < B) (.slice a l.length cap) l := HR.out.fr (Fr.of_below HP.out.2.1) (fun k h1 h2 => by omega)
   obtain ⟨g, off, rfl, hc⟩ := HR2.cells (by omega)
   have c0 := hc i n hn
   clear HR2 hc
   have hB2 := HP.out.2.1.size
   have HE := Lib.hid (textsL_snoc hn)
   have hle : (textsL (l.take i)).length + n.length ≤ (textsL l).length := by
    have h2 : textsL l = textsL (l.take (i + 1)) ++ textsL (l.drop (i + 1)) := by unfold textsL; rw [← List.flatMap_append, List.take_append_drop]
    rw [h2, HE.out, List.length_append, List.length_append]
    unfold textL
    rw [List.length_append]
    omega
   have HC := Lib.hid (wtext_h n HP.out.1 (by rw [List.length_append]; omega) (by omega))
   clear hle hn
   go_wp2_with fail
   refine Calls.mono HC.out ?_
   rintro e w2 ⟨rfl, hW2⟩
   have HW2 := Lib.hid (HP.out.next hW2)
   clear hW2
   go_wp2_with fail
   go_roundg (l.length - (i + 1))
   case measure => have := HX.out; omega
   case rel => exact ⟨i + 1, by omega, by go_num, by rw [HE.out, ← List.append_assoc]; exact HW2.out⟩
  ·obtain rfl : i = l.length := by have := HX.out; omega
   rw [List.take_length] at HP
   go_wp2_with fail
   go_end0
   exact ⟨rfl, HP.out⟩
set_option maxRecDepth 100000 in
set_option maxHeartbeats 8000000 in
theorem text_h {w : World} {cap : Nat} {a : Option Addr} (l : List Str) (hr : TR w (fun k => k < w.heap.size) (.slice a l.length cap) l) (hl : (textsL l).length ≤ 9000000) :
  Calls Tryz.prog 145 #[.slice a l.length cap] w fun e w' => e = .returned (.string (bs (textsL l))) ∧ Fr (fun _ => False) w w' := by
 have HR := Lib.hid hr
 clear hr
 have hmf : ∀ (fn : Fn) (first cap : Array Value) (w : World), (Instr.makeFunc fn first cap).run Tryz.prog w = .ok (.func fn first cap) w := fun _ _ _ _ => rfl
 go_enter Tryz.func145, Tryz.ntmps145
 go_wp2_with fail
 obtain ⟨w1, hw1⟩ : ∃ w1, w.alloc (.cells #[.pointer none, .slice none 0 0] 197) = w1 := ⟨_, rfl⟩
 rw [hw1]
 have hf1 : Fr (fun _ => False) w w1 := by rw [← hw1]; exact (Fr.refl _ w).alloc _
 have hbk : w1.heap[w.heap.size]? = some (.cells #[.pointer none, .slice none 0 0] 197 (0, 0)) := by rw [← hw1]; exact Array.getElem?_push_size
 have hW : Wr w.heap.size w.heap.size [] w1 := Or.inl ⟨Nat.le_refl _, _, hbk, World.ownsRowF_nil _ _ _ _, by simp [Value.ownBlock]⟩
 have HE := Lib.hid (eachs_h l (HR.out.fr hf1 (fun _ _ h => h)) hW (by rw [List.length_nil]; omega) hf1.size)
 have HF1 := Lib.hid hf1
 clear hw1 hbk hf1 hW
 refine Calls.mono HE.out ?_
 rintro e w2 ⟨rfl, hW2⟩
 rw [List.nil_append] at hW2
 have HS := Lib.hid (bstring_any_k w.heap.size w.heap.size (textsL l) w2 hW2.1 (Nat.le_trans HF1.out.size hW2.2.1.size))
 have HF2 := Lib.hid (show Fr (fun _ => False) w w2 from HF1.out.next' hW2.2.1)
 clear hW2
 go_wp2_with fail
 refine Calls.mono HS.out ?_
 rintro e w3 ⟨rfl, _, hb, _⟩
 have HF3 := Lib.hid (show Fr (fun _ => False) w w3 from HF2.out.next' hb)
 clear hb
 go_wp2_with fail
 go_ret
 exact ⟨rfl, HF3.out⟩
theorem xslice_from {w : World} (s : Str) {k : Nat} (hk : k ≤ s.length) {i : Int} (hi : i = (k : Int)) :
  (Instr.slice 9 (.string (bs s)) (some (.int .i64 i)) none none).run Tryz.prog w = .ok (.string (bs (s.drop k))) w := by
 subst hi
 rw [run_slice_string_from_if w 9 (bs s) .i64 (k : Int) Tryz.underlying9, if_pos ⟨by omega, by rw [bs_size]; omega⟩]
 have := bs_mid s k s.length
 rw [List.take_length] at this
 rw [← this]; rfl
theorem xslice_to {w : World} (s : Str) {k : Nat} (hk : k ≤ s.length) {i : Int} (hi : i = (k : Int)) :
  (Instr.slice 9 (.string (bs s)) none (some (.int .i64 i)) none).run Tryz.prog w = .ok (.string (bs (s.take k))) w := by
 subst hi
 rw [run_slice_string_to_if w 9 (bs s) .i64 (k : Int) Tryz.underlying9, if_pos ⟨by omega, by rw [bs_size]; omega⟩]
 have := bs_mid s 0 k
 simp only [List.drop_zero] at this
 rw [← this]; rfl
def toTextD (s : Str) : (Str × Str) × Bool := match toTextL s with | none => (([], []), false) | some (d, r) => ((d, r), true)
theorem toInt_some {w : World} {s t : Str} {n : Int} (hs : s.length ≤ 10000000) (h : toIntL s = some (n, t)) : Calls Tryz.prog 113 #[.string (bs s)] w fun e w' => e = .returned (.tuple #[.int .i64 n, .string (bs t), .bool true]) ∧ ∃ p, w' = w.drewN p := by
 refine (toInt_h s hs).mono ?_
 rintro e w' ⟨rfl, hf⟩
 exact ⟨by unfold toIntD; rw [h], hf⟩
theorem toInt_none {w : World} {s : Str} (hs : s.length ≤ 10000000) (h : toIntL s = none) : Calls Tryz.prog 113 #[.string (bs s)] w fun e w' => e = .returned (.tuple #[.int .i64 0, .string (bs []), .bool false]) ∧ ∃ p, w' = w.drewN p := by
 refine (toInt_h s hs).mono ?_
 rintro e w' ⟨rfl, hf⟩
 exact ⟨by unfold toIntD; rw [h], hf⟩
set_option maxRecDepth 100000 in
set_option maxHeartbeats 8000000 in
theorem toText_h {w : World} (s : Str) (hs : s.length ≤ 10000000) : Calls Tryz.prog 182 #[.string (bs s)] w fun e w' => e = .returned (.tuple #[.string (bs (toTextD s).1.1), .string (bs (toTextD s).1.2), .bool (toTextD s).2]) ∧ Fr (fun _ => False) w w' := by
 cases ht : toIntL s with
 | none =>
  have HT := Lib.hid (toInt_none (w := w) hs ht)
  have HE : Hid (toTextD s = (([], []), false)) := by show _ = _; unfold toTextD toTextL; rw [ht]
  clear ht
  go_enter Tryz.func182, Tryz.ntmps182
  go_wp2_with fail
  refine Calls.mono HT.out ?_
  rintro e w2 ⟨rfl, p, rfl⟩
  go_wp2_with fail
  go_ret3
  exact ⟨by rw [HE.out]; rfl, (Fr.refl _ _).drewN p⟩
 | some q =>
  obtain ⟨n, r⟩ := q
  have hrl : r.length ≤ s.length := by have := (toInt_back ht).1; rw [this, List.length_append]; omega
  have hrs : (bs r).size = r.length := rfl
  have HT := Lib.hid (toInt_some (w := w) hs ht)
  by_cases hn : n < 0
  ·have HE : Hid (toTextD s = (([], []), false)) := by show _ = _; unfold toTextD toTextL; rw [ht]; dsimp only; rw [if_pos (.inl hn)]
   clear ht
   go_enter Tryz.func182, Tryz.ntmps182
   go_wp2_with fail
   refine Calls.mono HT.out ?_
   rintro e w2 ⟨rfl, p, rfl⟩
   go_wp2_with fail
   go_ret3
   exact ⟨by rw [HE.out]; rfl, (Fr.refl _ _).drewN p⟩
  ·by_cases hl : (r.length : Int) < n
   ·have HE : Hid (toTextD s = (([], []), false)) := by show _ = _; unfold toTextD toTextL; rw [ht]; dsimp only; rw [if_pos (.inr hl)]
    clear ht
    go_enter Tryz.func182, Tryz.ntmps182
    go_wp2_with fail
    refine Calls.mono HT.out ?_
    rintro e w2 ⟨rfl, p, rfl⟩
    go_wp2_with fail
    go_ret3
    exact ⟨by rw [HE.out]; rfl, (Fr.refl _ _).drewN p⟩
   ·obtain ⟨k, rfl⟩ : ∃ k : Nat, n = (k : Int) := ⟨n.toNat, by omega⟩
    have hk : k ≤ r.length := by omega
    have HE : Hid (toTextD s = ((r.take k, r.drop k), true)) := by show _ = _; unfold toTextD toTextL; rw [ht]; dsimp only; rw [if_neg (by omega), Int.toNat_natCast]
    have e1 := fun (W : World) => xslice_to (w := W) r hk rfl
    have e2 := fun (W : World) => xslice_from (w := W) r hk rfl
    clear ht
    go_enter Tryz.func182, Tryz.ntmps182
    go_wp2_with fail
    refine Calls.mono HT.out ?_
    rintro e w2 ⟨rfl, p, rfl⟩
    go_wp2_with fail
    go_big_quiet (fail)
    go_wp2_with fail
    go_ret3
    exact ⟨by rw [HE.out] <;> rfl, by first | exact (Fr.refl _ _).drewN p | exact ((Fr.refl _ _).drewN p).drewN _⟩
end Go.Proofs.YtgmghopcppniaaaGreatDoor

/- wal's names, its right, and its texts: walked. -/
namespace Go.Proofs.YtgmghopcppniaaaGreatDoor
open Go.RowKit Go.Lib Go.Shelf

/-! ### names -/
set_option maxRecDepth 100000 in
theorem wname_h {w : World} (hE : Env w) {n : Nat} (h0 : 0 < n) (h1 : n < 1000000) {x y : Value} : Calls Tryz.prog 101 #[.agg #[.int .i64 (n : Int), x, y]] w fun e w' => e = .returned (.string (bs (nameW n))) ∧ Fr (fun _ => False) w w' := by
 obtain ⟨w1, hw1⟩ : ∃ w1, w1 = w.alloc (.cells #[.int .i64 (n : Int), x, y] 143) := ⟨_, rfl⟩
 have HF1 : Hid (Fr (fun _ => False) w w1) := by show Fr _ _ _; rw [hw1]; exact (Fr.refl _ _).alloc _
 have hb : w1.heap[w.heap.size]? = some (.cells #[.int .i64 (n : Int), x, y] 143 (0, 0)) := by rw [hw1]; exact block_new _ _
 have x0 := cell_of hb (i := 0) (v := .int .i64 (n : Int)) rfl
 have HI := Lib.hid (itoa_h (w := w1) (hE.grow HF1.out) (n := (n : Int)) ⟨by omega, by omega⟩)
 have hlen : (Lib.itoa (n : Int)).length ≤ 21 := by rw [itoa_nat h0]; have := decHi_len 6 n (by omega); omega
 have HN := Lib.hid (show (119 :: Lib.itoa (n : Int) : Str) = nameW n by unfold nameW; rw [itoa_nat h0])
 have h112 : (⟨#[119]⟩ : ByteArray) = bs [119] := rfl
 have s1 := fun (W : World) => sum_at W (a := [119]) (b := Lib.itoa (n : Int)) rfl (by simp; omega)
 rw [← h112] at s1
 obtain ⟨t, ht⟩ : ∃ t, Lib.itoa (n : Int) = t := ⟨_, rfl⟩
 rw [ht] at HI s1 HN
 have HN2 : Hid ([119] ++ t = nameW n) := HN.out
 rw [HN2.out] at s1
 clear h112 ht HN hb
 go_enter Tryz.func101, Tryz.ntmps101
 go_upto_region 1 with fail
 rw [← hw1]
 clear hw1
 go_wp2_with fail
 refine Calls.mono HI.out ?_
 rintro e w2 ⟨rfl, hf⟩
 have HF := Lib.hid (HF1.out.next hf)
 clear hf
 go_wp2_with fail
 go_ret
 exact ⟨rfl, HF.out⟩
theorem wcutp_h {w : World} (t : Str) : Calls Tryz.prog 129 #[.string (bs (119 :: t)), .string ⟨#[119]⟩] w fun e w' => e = .returned (.tuple #[.string (bs t), .bool true]) ∧ w = w' := by
 refine (Tryz.strings_CutPrefix (bs (119 :: t)) ⟨#[119]⟩ w).mono ?_
 rintro e w' ⟨rfl, rfl⟩
 refine ⟨?_, rfl⟩
 have h1 : Lib.hasPrefix (119 :: t) [119] = true := by simp [Lib.hasPrefix]
 have h2 : Lib.trimPrefix (119 :: t) [119] = t := by unfold Lib.trimPrefix; rw [h1]; simp
 show Ending.returned (.tuple #[.string ⟨(Lib.trimPrefix (119 :: t) [119]).toArray⟩, .bool (Lib.hasPrefix (119 :: t) [119])]) = _
 rw [h1, h2]; rfl
theorem wcutn_h {w : World} {s : Str} (hs : ∀ t, s ≠ 119 :: t) : Calls Tryz.prog 129 #[.string (bs s), .string ⟨#[119]⟩] w fun e w' => e = .returned (.tuple #[.string (bs s), .bool false]) ∧ w = w' := by
 refine (Tryz.strings_CutPrefix (bs s) ⟨#[119]⟩ w).mono ?_
 rintro e w' ⟨rfl, rfl⟩
 refine ⟨?_, rfl⟩
 have h1 : Lib.hasPrefix s [119] = false := by
  cases s with
  | nil => rfl
  | cons c t =>
   have : c ≠ 119 := by rintro rfl; exact hs t rfl
   show List.isPrefixOf [119] (c :: t) = false
   unfold List.isPrefixOf
   rw [show ((119 : UInt8) == c) = false from beq_eq_false_iff_ne.2 (Ne.symm this)]; rfl
 have h2 : Lib.trimPrefix s [119] = s := by unfold Lib.trimPrefix; rw [h1]; simp
 show Ending.returned (.tuple #[.string ⟨(Lib.trimPrefix s [119]).toArray⟩, .bool (Lib.hasPrefix s [119])]) = _
 rw [h1, h2]; rfl
def digitSet : List UInt8 := [48, 49, 50, 51, 52, 53, 54, 55, 56, 57]
theorem digit_ok (b : UInt8) : digitSet.contains b = digitB b := by
 have : ∀ k : Fin 256, digitSet.contains (UInt8.ofNat k.val) = digitB (UInt8.ofNat k.val) := by decide +kernel
 have h := this ⟨b.toNat, b.toNat_lt⟩
 simpa using h
theorem dtrim_nil (n : List UInt8) : Lib.trimS n digitSet = [] ↔ n.all digitB = true := by
 have e : (fun b => digitSet.contains b) = digitB := funext digit_ok
 unfold Lib.trimS Lib.trimRightS Lib.trimLeftS
 simp only [e]
 constructor
 ·intro h
  have h1 : (n.reverse.dropWhile digitB).reverse.dropWhile digitB = [] := h
  rw [dropWhile_nil, List.all_reverse] at h1
  cases hd : n.reverse.dropWhile digitB with
  | nil => have := dropWhile_nil.1 hd; rwa [List.all_reverse] at this
  | cons y t =>
   have h2 := List.head?_dropWhile_not digitB n.reverse
   rw [hd] at h1 h2
   simp at h1 h2
   rw [h1.1] at h2; cases h2
 ·intro h
  have h' : n.reverse.all digitB = true := by rw [List.all_reverse]; exact h
  rw [dropWhile_nil.2 h']
  rfl
theorem dtrim_h {w : World} {t : Str} (ht : t.length ≤ 1000000) : Calls Tryz.prog 132 #[.string (bs t), .string ⟨#[48, 49, 50, 51, 52, 53, 54, 55, 56, 57]⟩] w fun e w' => e = .returned (.string (bs (Lib.trimS t digitSet))) ∧ Fr (fun _ => False) w w' := by
 have h := Any.strings_Trim_laid Tryz.lays160 (by kernel_rfl) (bs t) (bs digitSet) w (by rw [bs_size]; omega) (by decide) (ascii_of_all (by decide))
 change Calls Tryz.prog 132 #[.string (bs t), .string ⟨#[48, 49, 50, 51, 52, 53, 54, 55, 56, 57]⟩] w (fun e w' => e = .returned (.string (bs (Lib.trimS t digitSet))) ∧ Below w.heap.size w w') at h
 exact h.mono fun e w' h => ⟨h.1, fr_new h.2⟩
def NumPost (s : Str) (w : World) (e : Ending) (w' : World) : Prop := e = .returned (.int .i64 ((numW s : Nat) : Int)) ∧ Fr (fun _ => False) w w'
theorem num_zero {s : Str} {w w' : World} (h : numW s = 0) (hf : Fr (fun _ => False) w w') : NumPost s w (.returned (.int .i64 0)) w' := ⟨by rw [h]; rfl, hf⟩
set_option maxRecDepth 100000 in
set_option maxHeartbeats 4000000 in
theorem number_h {w : World} (s : Str) (hs : s.length ≤ 1000000) : Calls Tryz.prog 82 #[.string (bs s)] w (NumPost s w) := by
 by_cases hp : ∃ t, s = 119 :: t
 ·obtain ⟨t, rfl⟩ := hp
  have htl : t.length ≤ 1000000 := by simp at hs; omega
  have hsz : (bs t).size = t.length := rfl
  have HC := Lib.hid (wcutp_h (w := w) t)
  have hN := numW_is t
  cases t with
  | nil =>
   have HE := Lib.hid (show numW [119] = 0 by rw [hN, if_neg (by simp)])
   have t1 : ((bs []).toList == []) = true := by rw [bs_toList]; rfl
   clear hN
   go_enter Tryz.func82, Tryz.ntmps82
   go_wp2_with (go_at_call 129; refine Calls.mono HC.out ?_; rintro e w' ⟨rfl, rfl⟩)
   go_wp2_with fail
   go_ret
   exact num_zero HE.out (Fr.refl _ _)
  | cons c r =>
   have t1 : ((bs (c :: r)).toList == []) = false := by rw [bs_toList]; rfl
   have t2 : (bs (c :: r)).toList.isEmpty = false := by rw [bs_toList]; rfl
   have hz : 0 < (bs (c :: r)).size := by rw [hsz]; simp
   have hg := bs_at (c :: r) 0 hz
   have hgD : (c :: r).getD 0 0 = c := rfl
   rw [hgD] at hg
   obtain ⟨t, ht⟩ : ∃ t, c :: r = t := ⟨_, rfl⟩
   have hh : t.head? = some c := by rw [← ht]; rfl
   have htn : t ≠ [] := by rw [← ht]; simp
   rw [ht] at HC hN t1 t2 hsz htl
   have hz2 : 0 < (bs t).size := by rw [← ht]; exact hz
   have hg2 : (bs t)[0] = c := by have := hg; subst ht; exact this
   have hl0 : (0 : Int) < (t.length : Int) := by have := List.length_pos_iff.2 htn; omega
   have HTT := Lib.hid ht
   clear hz hg hgD hs
   rw [ht]
   by_cases h48 : c = 48
   ·have HE := Lib.hid (show numW (119 :: t) = 0 by rw [hN, if_neg (by rw [hh, h48]; simp)])
    have q1 : ((c.toNat : Int) == 48) = true := by rw [h48]; rfl
    have q2 : (c.toNat : Int) = 48 := by rw [h48]; rfl
    clear hN hh h48
    go_enter Tryz.func82, Tryz.ntmps82
    go_wp2_with (go_at_call 129; refine Calls.mono HC.out ?_; rintro e w' ⟨rfl, rfl⟩)
    go_wp2_with fail
    go_ret
    exact num_zero HE.out (Fr.refl _ _)
   ·have q0 : ¬ (c.toNat : Int) = 48 := fun h => h48 (byte_eq (by rw [show (48 : UInt8).toNat = 48 from rfl]; omega))
    have q1 : ((c.toNat : Int) == 48) = false := by simpa using q0
    by_cases h6 : t.length ≤ 6
    ·have h6i : ¬ (6 : Int) < (t.length : Int) := by omega
     have HT := Lib.hid (dtrim_h (w := w) htl)
     have hdn := dtrim_nil t
     cases hall : t.all digitB with
     | false =>
      have HE := Lib.hid (show numW (119 :: t) = 0 by rw [hN, if_neg (by rw [hall]; simp)])
      obtain ⟨u, hu⟩ : ∃ u, Lib.trimS t digitSet = u := ⟨_, rfl⟩
      rw [hu] at HT hdn
      have hun : u ≠ [] := fun h => by rw [hdn.1 h] at hall; cases hall
      have r1 : ((bs u).toList == []) = false := by rw [bs_toList]; exact beq_eq_false_iff_ne.2 hun
      have r2 : (bs u).toList.isEmpty = false := by rw [bs_toList]; simpa using hun
      have r3 : ((bs u).toList != []) = true := by rw [bs_toList]; simpa using hun
      have r4 : ¬ (bs u).toList = [] := by rw [bs_toList]; exact hun
      clear hN hh h48 hall hdn hu hun h6
      go_enter Tryz.func82, Tryz.ntmps82
      go_wp2_with (go_at_call 129; refine Calls.mono HC.out ?_; rintro e w' ⟨rfl, rfl⟩)
      go_wp2_with (go_at_call 132; refine Calls.mono HT.out ?_)
      rintro e w2 ⟨rfl, hf⟩
      have HF := Lib.hid hf
      clear hf
      go_wp2_with fail
      go_ret
      exact num_zero HE.out HF.out
     | true =>
      have HE := Lib.hid (show numW (119 :: t) = decV t by rw [hN, if_pos ⟨htn, by rw [hh]; intro e; injection e with e; exact h48 e, h6, hall⟩])
      obtain ⟨u, hu⟩ : ∃ u, Lib.trimS t digitSet = u := ⟨_, rfl⟩
      rw [hu] at HT hdn
      have hun : u = [] := hdn.2 hall
      have r1 : ((bs u).toList == []) = true := by rw [bs_toList, hun]; rfl
      have r2 : (bs u).toList.isEmpty = true := by rw [bs_toList, hun]; rfl
      have r3 : ((bs u).toList != []) = false := by rw [bs_toList, hun]; rfl
      have r4 : (bs u).toList = [] := by rw [bs_toList, hun]
      clear hun hu
      have hd : ∀ x ∈ t, 48 ≤ x.toNat ∧ x.toNat ≤ 57 := fun x hx => by
       have := List.all_eq_true.1 hall x hx
       unfold digitB at this; simpa using this
      have HA := Lib.hid (fun (W : World) => atoi_ok_h (w := W) htl (atoi_digits htn hd (by omega)))
      obtain ⟨v, hv⟩ : ∃ v, decV t = v := ⟨_, rfl⟩
      rw [hv] at HA HE
      clear hN hh h48 hall hdn h6 hd hv
      go_enter Tryz.func82, Tryz.ntmps82
      go_wp2_with (go_at_call 129; refine Calls.mono HC.out ?_; rintro e w' ⟨rfl, rfl⟩)
      go_wp2_with (go_at_call 132; refine Calls.mono HT.out ?_)
      rintro e w2 ⟨rfl, hf⟩
      have HF := Lib.hid hf
      clear hf
      go_wp2_with (go_at_call 130; refine Calls.mono (HA.out _) ?_)
      rintro e w3 ⟨rfl, hf⟩
      have HF3 := Lib.hid (HF.out.next hf)
      clear hf
      go_wp2_with fail
      go_ret
      exact ⟨by rw [HE.out] <;> rfl, HF3.out⟩
    ·have h6i : (6 : Int) < (t.length : Int) := by omega
     have HE := Lib.hid (show numW (119 :: t) = 0 by rw [hN, if_neg (fun h => h6 h.2.2.1)])
     clear hN hh h48 h6
     go_enter Tryz.func82, Tryz.ntmps82
     go_wp2_with (go_at_call 129; refine Calls.mono HC.out ?_; rintro e w' ⟨rfl, rfl⟩)
     go_wp2_with fail
     go_ret
     exact num_zero HE.out (Fr.refl _ _)
 ·have hp2 : ∀ t, s ≠ 119 :: t := fun t h => hp ⟨t, h⟩
  have HC := Lib.hid (wcutn_h (w := w) hp2)
  have HE := Lib.hid (numW_other hp2)
  clear hp hp2
  go_enter Tryz.func82, Tryz.ntmps82
  go_wp2_with (go_at_call 129; refine Calls.mono HC.out ?_; rintro e w' ⟨rfl, rfl⟩)
  go_wp2_with fail
  go_ret
  exact num_zero HE.out (Fr.refl _ _)

/-! ### entries -/
def entV (e : EntD) : Value := .agg #[.int .i64 e.index, .int .i64 e.term, .int .i64 e.kind, .string (bs e.data)]
set_option maxRecDepth 100000 in
set_option maxHeartbeats 4000000 in
theorem wright_h {w : World} (e : EntD) : Calls Tryz.prog 106 #[entV e] w fun r w' => r = .returned (.bool (rightE e)) ∧ Fr (fun _ => False) w w' := by
 unfold entV
 obtain ⟨w1, hw1⟩ : ∃ w1, w1 = w.alloc (.cells #[.int .i64 e.index, .int .i64 e.term, .int .i64 e.kind, .string (bs e.data)] 95) := ⟨_, rfl⟩
 have HF1 : Hid (Fr (fun _ => False) w w1) := by show Fr _ _ _; rw [hw1]; exact (Fr.refl _ _).alloc _
 have hb : w1.heap[w.heap.size]? = some (.cells #[.int .i64 e.index, .int .i64 e.term, .int .i64 e.kind, .string (bs e.data)] 95 (0, 0)) := by rw [hw1]; exact block_new _ _
 have x0 := cell_of hb (i := 0) (v := .int .i64 e.index) rfl
 have x1 := cell_of hb (i := 1) (v := .int .i64 e.term) rfl
 have x2 := cell_of hb (i := 2) (v := .int .i64 e.kind) rfl
 clear hb
 have key : ∀ b, rightE e = b → (b = true ↔ 0 < e.index ∧ 0 ≤ e.term ∧ 1 ≤ e.kind ∧ e.kind ≤ 3) := fun b hb => by rw [← hb]; exact rightE_parts
 obtain ⟨b, hb⟩ : ∃ b, rightE e = b := ⟨_, rfl⟩
 have hk := key b hb
 rw [hb]
 clear key hb
 go_enter Tryz.func106, Tryz.ntmps106
 go_upto_region 1 with fail
 rw [← hw1]
 clear hw1
 by_cases h1 : 0 < e.index
 ·by_cases h2 : 0 ≤ e.term
  ·by_cases h3 : 1 ≤ e.kind
   ·by_cases h4 : e.kind ≤ 3
    ·obtain rfl : b = true := hk.2 ⟨h1, h2, h3, h4⟩
     clear hk
     go_wp2_with fail
     go_ret
     exact ⟨rfl, HF1.out⟩
    ·obtain rfl : b = false := by cases b with | false => rfl | true => exact absurd (hk.1 rfl).2.2.2 h4
     have d4 : decide (e.kind ≤ 3) = false := decide_eq_false h4
     clear hk
     go_wp2_with fail
     go_ret
     exact ⟨rfl, HF1.out⟩
   ·obtain rfl : b = false := by cases b with | false => rfl | true => exact absurd (hk.1 rfl).2.2.1 h3
    have d4 : decide (1 ≤ e.kind) = false := decide_eq_false h3
    clear hk
    go_wp2_with fail
    go_ret
    exact ⟨rfl, HF1.out⟩
  ·obtain rfl : b = false := by cases b with | false => rfl | true => exact absurd (hk.1 rfl).2.1 h2
   have d4 : decide (0 ≤ e.term) = false := decide_eq_false h2
   clear hk
   go_wp2_with fail
   go_ret
   exact ⟨rfl, HF1.out⟩
 ·obtain rfl : b = false := by cases b with | false => rfl | true => exact absurd (hk.1 rfl).1 h1
  have d4 : decide (0 < e.index) = false := decide_eq_false h1
  clear hk
  go_wp2_with fail
  go_ret
  exact ⟨rfl, HF1.out⟩
set_option maxRecDepth 100000 in
set_option maxHeartbeats 4000000 in
theorem hardtext_h {w : World} {t v : Int} (ht : I64 t) (hv : I64 v) : Calls Tryz.prog 135 #[.agg #[.int .i64 t, .int .i64 v]] w fun r w' => r = .returned (.string (bs (hardTx t v))) ∧ Fr (fun _ => False) w w' := by
 obtain ⟨w1, hw1⟩ : ∃ w1, w1 = w.alloc (.cells #[.int .i64 t, .int .i64 v] 61) := ⟨_, rfl⟩
 have HF1 : Hid (Fr (fun _ => False) w w1) := by show Fr _ _ _; rw [hw1]; exact (Fr.refl _ _).alloc _
 have hb : w1.heap[w.heap.size]? = some (.cells #[.int .i64 t, .int .i64 v] 61 (0, 0)) := by rw [hw1]; exact block_new _ _
 have x0 := cell_of hb (i := 0) (v := .int .i64 t) rfl
 have x1 := cell_of hb (i := 1) (v := .int .i64 v) rfl
 have HI := Lib.hid (int3_h (w := w1.alloc (.cells #[.int .i64 1, .int .i64 t, .int .i64 v] 3)) (i64_small (by decide) (by decide)) ht hv (block_new _ _))
 unfold hardTx
 obtain ⟨T, hT⟩ : ∃ T, intsL [1, t, v] = T := ⟨_, rfl⟩
 rw [hT] at HI ⊢
 clear hb hT
 go_enter Tryz.func135, Tryz.ntmps135
 go_upto_region 1 with fail
 rw [← hw1]
 clear hw1
 go_wp2_with fail
 refine Calls.mono HI.out ?_
 rintro e w2 ⟨rfl, hf⟩
 have HF := Lib.hid ((HF1.out.alloc _).next hf)
 clear hf
 go_wp2_with fail
 go_ret
 exact ⟨rfl, HF.out⟩
theorem int4_h {w : World} {k : Nat} {x y z u : Int} (hx : I64 x) (hy : I64 y) (hz : I64 z) (hu : I64 u) (hb : w.heap[k]? = some (.cells #[.int .i64 x, .int .i64 y, .int .i64 z, .int .i64 u] 3 (0, 0))) :
  Calls Tryz.prog 120 #[.slice (some ⟨k, 0, none⟩) 4 4] w fun e w' => e = .returned (.string (bs (intsL [x, y, z, u]))) ∧ Fr (fun _ => False) w w' := by
 have hr : IR w (fun k => k < w.heap.size) (.slice (some ⟨k, 0, none⟩) [x, y, z, u].length [x, y, z, u].length) [x, y, z, u] := IR.lit (e := 3) (f := (0, 0)) hb (by simp [maxLen]) (lt_of_block hb)
 exact int_h [x, y, z, u] (by intro n hn; simp at hn; rcases hn with rfl | rfl | rfl | rfl <;> assumption) hr (by simp)
theorem text1_h {w : World} {k : Nat} {s : Str} (hs : s.length ≤ 1000000) (hb : w.heap[k]? = some (.cells #[.string (bs s)] 9 (0, 0))) :
  Calls Tryz.prog 145 #[.slice (some ⟨k, 0, none⟩) 1 1] w fun e w' => e = .returned (.string (bs (textL s))) ∧ Fr (fun _ => False) w w' := by
 have hr : TR w (fun k => k < w.heap.size) (.slice (some ⟨k, 0, none⟩) [s].length 1) [s] := SRow.of_block (xs := [.string (bs s)]) hb rfl (by simp [maxLen]) (lt_of_block hb)
 have hl := textL_len (s := s) (by omega)
 have h := text_h [s] hr (by unfold textsL; simp; omega)
 have e : textsL [s] = textL s := by unfold textsL; simp
 rw [e] at h
 exact h
set_option maxRecDepth 100000 in
set_option maxHeartbeats 16000000 in
theorem enttext_h {w : World} {e : EntD} (hi : I64 e.index) (ht : I64 e.term) (hk : I64 e.kind) (hd : e.data.length ≤ 1000000) : Calls Tryz.prog 107 #[entV e] w fun r w' => r = .returned (.string (bs (entTx e))) ∧ Fr (fun _ => False) w w' := by
 unfold entV
 obtain ⟨w1, hw1⟩ : ∃ w1, w1 = w.alloc (.cells #[.int .i64 e.index, .int .i64 e.term, .int .i64 e.kind, .string (bs e.data)] 95) := ⟨_, rfl⟩
 have HF1 : Hid (Fr (fun _ => False) w w1) := by show Fr _ _ _; rw [hw1]; exact (Fr.refl _ _).alloc _
 have hb : w1.heap[w.heap.size]? = some (.cells #[.int .i64 e.index, .int .i64 e.term, .int .i64 e.kind, .string (bs e.data)] 95 (0, 0)) := by rw [hw1]; exact block_new _ _
 have x0 := cell_of hb (i := 0) (v := .int .i64 e.index) rfl
 have x1 := cell_of hb (i := 1) (v := .int .i64 e.term) rfl
 have x2 := cell_of hb (i := 2) (v := .int .i64 e.kind) rfl
 have x3 := cell_of hb (i := 3) (v := .string (bs e.data)) rfl
 have HI1 := Lib.hid (fun (W : World) (j : Nat) (hj : W.heap[j]? = some (.cells #[.int .i64 2, .int .i64 e.index, .int .i64 e.term, .int .i64 e.kind] 3 (0, 0))) => int4_h (i64_small (by decide) (by decide)) hi ht hk hj)
 have HI2 := Lib.hid (fun (W : World) (j : Nat) (hj : W.heap[j]? = some (.cells #[.string (bs e.data)] 9 (0, 0))) => text1_h hd hj)
 have hE : Hid (entTx e = intsL [2, e.index, e.term, e.kind] ++ textL e.data) := rfl
 have hl1 : (intsL [2, e.index, e.term, e.kind]).length ≤ 40 := ints_len _ (by intro n hn; simp at hn; rcases hn with rfl | rfl | rfl | rfl <;> first | assumption | exact i64_small (by decide) (by decide))
 have hl2 := textL_len (s := e.data) (by omega)
 obtain ⟨A, hA⟩ : ∃ A, intsL [2, e.index, e.term, e.kind] = A := ⟨_, rfl⟩
 obtain ⟨T, hT⟩ : ∃ T, textL e.data = T := ⟨_, rfl⟩
 rw [hA] at HI1 hE hl1
 rw [hT] at HI2 hE hl2
 have s1 := fun (W : World) => sum_at W (a := A) (b := T) rfl (by rw [List.length_append]; omega)
 have hkl := lt_of_block hb
 clear hA hT hb hi ht hk
 go_enter Tryz.func107, Tryz.ntmps107
 go_upto_region 1 with fail
 rw [← hw1]
 clear hw1
 go_cut [2] (fun s2 wx => Hid (s2 = .string (bs (entTx e)) ∧ Fr (fun _ => False) w1 wx))
 case first =>
  go_region_held3 (fun w' => w'.cell? ⟨w.heap.size, 0, none⟩ = some (.int .i64 e.index) ∧ w'.cell? ⟨w.heap.size, 1, none⟩ = some (.int .i64 e.term) ∧ w'.cell? ⟨w.heap.size, 2, none⟩ = some (.int .i64 e.kind) ∧ w'.cell? ⟨w.heap.size, 3, none⟩ = some (.string (bs e.data)))
   (first | go_keep | (with_reducible exact ⟨s0_fB, s1_fB, s2_fB, s3_fB⟩) | (with_reducible exact ⟨s0_fA, s1_fA, s2_fA, s3_fA⟩) | fail)
   (first
    | (go_at_call 120; (with_reducible refine Calls.mono (HI1.out _ _ (by first | with_reducible exact block_new_drew rfl | with_reducible exact block_old_drew (block_new _ _) _ | with_reducible exact block_new _ _ | with_reducible exact block_old (block_new _ _) _ | with_reducible exact block_new_drew (by simp) | with_reducible exact block_new_at (by simp))) ?_); clear HI1; rintro r wA ⟨rfl, hq⟩; have fA := (show Fr (fun _ => False) w1 _ by repeat (first | exact Fr.refl _ _ | refine Fr.drew ?_ | refine Fr.alloc ?_ _)).next hq; (first | (have hz : wA.heap[w1.heap.size]? = some (.cells #[.string (bs e.data)] 9 (0, 0)) := by with_reducible exact hq.keep (block_old_drew (block_new _ _) _) (fun h => h)) | (have hz : wA.heap[w1.heap.size + 1]? = some (.cells #[.string (bs e.data)] 9 (0, 0)) := by with_reducible exact hq.keep (block_new_drew (by simp)) (fun h => h)) | (have hz : wA.heap[w1.heap.size]? = some (.cells #[.string (bs e.data)] 9 (0, 0)) := by with_reducible exact hq.keep (block_old (block_new _ _) _) (fun h => h)) | (have hz : wA.heap[w1.heap.size + 1]? = some (.cells #[.string (bs e.data)] 9 (0, 0)) := by with_reducible exact hq.keep (block_new_at (by simp)) (fun h => h)) | skip); (try (have zl := lt_of_block hz)); have s0_fA := fA.cell x0 (fun h => h); have s1_fA := fA.cell x1 (fun h => h); have s2_fA := fA.cell x2 (fun h => h); have s3_fA := fA.cell x3 (fun h => h); have hs_fA := fA.size; clear hq)
    | (have tok := s0_fA; clear tok; go_at_call 145; (with_reducible refine Calls.mono (HI2.out _ _ (by first | exact hz | with_reducible exact block_new _ _ | with_reducible exact block_new_drew rfl)) ?_); clear HI2; rintro r wB ⟨rfl, hq⟩; have fB := (show Fr (fun _ => False) w1 _ by repeat (first | exact Fr.refl _ _ | exact fA | refine Fr.drew ?_ | refine Fr.alloc ?_ _)).next hq; have s0_fB := fB.cell x0 (fun h => h); have s1_fB := fB.cell x1 (fun h => h); have s2_fB := fB.cell x2 (fun h => h); have s3_fB := fB.cell x3 (fun h => h); clear hq)
    | fail)
  all_goals
   go_wp2_with fail
   go_meet
   exact ⟨by rw [hE.out] <;> rfl, by first | exact fB | exact fB.drew⟩
 case rest =>
  obtain ⟨rfl, hf⟩ := hcut.out
  have HF := Lib.hid (HF1.out.next hf)
  clear hf hcut
  go_wp2_with fail
  go_ret
  exact ⟨rfl, HF.out⟩
end Go.Proofs.YtgmghopcppniaaaGreatDoor

/- wal's log in memory; numbers, put: walked. -/
namespace Go.Proofs.YtgmghopcppniaaaGreatDoor
open Go.RowKit Go.Lib

def segC (s : SegD) : List Value := [.int .i64 (s.num : Int), .int .i64 (s.size : Int), .int .i64 s.top]
def entC (e : EntD) : List Value := [.int .i64 e.index, .int .i64 e.term, .int .i64 e.kind, .string (bs e.data)]
def segsC (l : List SegD) : List Value := l.flatMap segC
def entsC (l : List EntD) : List Value := l.flatMap entC
theorem flat_len {α : Type} {f : α → List Value} {c : Nat} (hc : ∀ a, (f a).length = c) : ∀ (l : List α), (l.flatMap f).length = l.length * c
 | [] => by simp
 | a :: l => by rw [List.flatMap_cons, List.length_append, flat_len hc l, hc, List.length_cons, Nat.add_mul]; omega
theorem flat_get {α : Type} {f : α → List Value} {c : Nat} (hc : ∀ a, (f a).length = c) : ∀ (l : List α) (i j : Nat) (a : α), l[i]? = some a → j < c → (l.flatMap f)[i * c + j]? = (f a)[j]?
 | [], i, j, a, h, _ => by simp at h
 | b :: l, 0, j, a, h, hj => by
  simp at h; subst h
  rw [List.flatMap_cons, Nat.zero_mul, Nat.zero_add, List.getElem?_append_left (by rw [hc]; exact hj)]
 | b :: l, i + 1, j, a, h, hj => by
  have e : (i + 1) * c + j = (f b).length + (i * c + j) := by rw [hc, Nat.add_mul]; omega
  rw [List.flatMap_cons, e, List.getElem?_append_right (by omega), Nat.add_sub_cancel_left]
  exact flat_get hc l i j a (by simpa using h) hj
theorem segs_len (l : List SegD) : (segsC l).length = l.length * 3 := flat_len (f := segC) (fun _ => rfl) l
theorem ents_len (l : List EntD) : (entsC l).length = l.length * 4 := flat_len (f := entC) (fun _ => rfl) l
theorem segs_app (a b : List SegD) : segsC (a ++ b) = segsC a ++ segsC b := List.flatMap_append
theorem ents_app (a b : List EntD) : entsC (a ++ b) = entsC a ++ entsC b := List.flatMap_append
theorem ents_take (l : List EntD) : ∀ k, entsC (l.take k) = (entsC l).take (k * 4) := by
 induction l with
 | nil => intro k; simp [entsC]
 | cons e l ih =>
  intro k
  cases k with
  | zero => simp [entsC]
  | succ k =>
   show entC e ++ entsC (l.take k) = (entC e ++ entsC l).take ((k + 1) * 4)
   have h4 : (entC e).length = 4 := rfl
   rw [ih, List.take_append, List.take_of_length_le (l := entC e) (by omega), h4, show (k + 1) * 4 - 4 = k * 4 by omega]
theorem ents_one {l : List EntD} : ∀ u ∈ entsC l, u.oneCell' = true := by
 intro u hu
 obtain ⟨e, _, h⟩ := List.mem_flatMap.1 hu
 simp [entC] at h
 rcases h with rfl | rfl | rfl | rfl <;> rfl
theorem segs_one {l : List SegD} : ∀ u ∈ segsC l, u.oneCell' = true := by
 intro u hu
 obtain ⟨e, _, h⟩ := List.mem_flatMap.1 hu
 simp [segC] at h
 rcases h with rfl | rfl | rfl <;> rfl
theorem info95 : (Tryz.prog.info? 95).map (fun i => (i.zero, i.size, i.bytes)) = some (some (.agg #[.int .i64 0, .int .i64 0, .int .i64 0, .string ⟨#[]⟩]), 4, 40) := by kernel_rfl
theorem info143 : (Tryz.prog.info? 143).map (fun i => (i.zero, i.size, i.bytes)) = some (some (.agg #[.int .i64 0, .int .i64 0, .int .i64 0]), 3, 24) := by kernel_rfl
/-- a log in memory: its struct, its two rows; S: the blocks that it has -/
structure LogAt (w : World) (S : Nat → Prop) (lp : Nat) (dv ve vs : Value) (st : StD) (segs : List SegD) : Prop where
 head : w.heap[lp]? = some (.cells #[dv, .int .i64 st.t, .int .i64 st.v, ve, vs] 140 (0, 0))
 ents : w.ownsRow 0 95 4 ve st.ents.length (entsC st.ents)
 segr : w.ownsRow 0 143 3 vs segs.length (segsC segs)
 slp : S lp
 sve : ∀ k, ve.ownBlock = some k → S k
 svs : ∀ k, vs.ownBlock = some k → S k
 lt : ∀ k, S k → k < w.heap.size
section
variable {w w' : World} {S : Nat → Prop} {lp : Nat} {dv ve vs : Value} {st : StD} {segs : List SegD}
theorem LogAt.fr {o : Nat → Prop} (h : LogAt w S lp dv ve vs st segs) (hf : Fr o w w') (ho : ∀ k, S k → ¬ o k) : LogAt w' S lp dv ve vs st segs :=
 ⟨hf.keep h.head (ho _ h.slp), ownsRow_keep h.ents (fun k hk => hf.block k (h.ents.lt k hk).2 (ho k (h.sve k hk))), ownsRow_keep h.segr (fun k hk => hf.block k (h.segr.lt k hk).2 (ho k (h.svs k hk))), h.slp, h.sve, h.svs, fun k hk => Nat.lt_of_lt_of_le (h.lt k hk) hf.size⟩
theorem LogAt.quiet (h : LogAt w S lp dv ve vs st segs) (hf : Fr (fun _ => False) w w') : LogAt w' S lp dv ve vs st segs := h.fr hf fun _ _ h => h
/-- the blocks that a call leaves to it -/
def Plus (S : Nat → Prop) (a b : World) : Nat → Prop := fun k => S k ∨ (a.heap.size ≤ k ∧ k < b.heap.size)
theorem Plus.lt (hS : ∀ k, S k → k < w.heap.size) (hf : w.heap.size ≤ w'.heap.size) : ∀ k, Plus S w w' k → k < w'.heap.size := fun k hk => by
 rcases hk with hk | ⟨_, hk⟩
 ·exact Nat.lt_of_lt_of_le (hS k hk) hf
 ·exact hk
theorem LogAt.mono {S' : Nat → Prop} (h : LogAt w S lp dv ve vs st segs) (hS : ∀ k, S k → S' k) (hl : ∀ k, S' k → k < w.heap.size) : LogAt w S' lp dv ve vs st segs :=
 ⟨h.head, h.ents, h.segr, hS _ h.slp, fun k hk => hS k (h.sve k hk), fun k hk => hS k (h.svs k hk), hl⟩
theorem LogAt.segrow (h : LogAt w S lp dv ve vs st segs) (hn : 0 < segs.length) : ∃ g cap, vs = .slice (some ⟨g, 0, none⟩) segs.length cap ∧ segs.length ≤ cap ∧ cap ≤ maxLen ∧ g ≠ lp ∧ S g := by
 obtain ⟨g, cap, hv, _, hc, hm⟩ := ownsRow_form h.segr hn
 have hb : vs.ownBlock = some g := by rw [hv]; rfl
 exact ⟨g, cap, hv, hc, hm, fun e => own_ne h.segr h.head (by decide) (by rw [← e]; exact hb), h.svs g hb⟩
theorem LogAt.entrow (h : LogAt w S lp dv ve vs st segs) (hn : 0 < st.ents.length) : ∃ g cap, ve = .slice (some ⟨g, 0, none⟩) st.ents.length cap ∧ st.ents.length ≤ cap ∧ cap ≤ maxLen ∧ g ≠ lp ∧ S g := by
 obtain ⟨g, cap, hv, _, hc, hm⟩ := ownsRow_form h.ents hn
 have hb : ve.ownBlock = some g := by rw [hv]; rfl
 exact ⟨g, cap, hv, hc, hm, fun e => own_ne h.ents h.head (by decide) (by rw [← e]; exact hb), h.sve g hb⟩
end
theorem rowfar2 {w : World} {S : Nat → Prop} {lp : Nat} {dv ve vs : Value} {st : StD} {segs : List SegD} {ge n c i : Nat} (h : LogAt w S lp dv ve vs st segs) (hv : ve = .slice (some ⟨ge, 0, none⟩) n c) (hi : i = ge) (hs : vs.ownBlock = some i) : False := by
 subst hi
 rcases h.ents.2 with ⟨h2, _⟩ | ⟨g, cap, cur, h2, _, hh, _⟩
 ·rw [hv] at h2; cases h2
 ·rw [hv] at h2
  injection h2 with h3 _ _
  injection h3 with h3
  injection h3 with h3 _ _
  subst h3
  exact own_ne h.segr hh (by decide) hs
theorem own_set {w : World} {base e size g n cap : Nat} {xs : List Value} (h : w.ownsRow base e size (.slice (some ⟨g, 0, none⟩) n cap) n xs) (i : Nat) (v : Value) :
  (w.setCell ⟨g, i, none⟩ v).ownsRow base e size (.slice (some ⟨g, 0, none⟩) n cap) n (xs.set i v) := by
 obtain ⟨h1, h2⟩ := h
 refine ⟨by simpa using h1, ?_⟩
 rcases h2 with ⟨h2, _⟩ | ⟨g', cap', cur, hv, hg, hh, hnc, hcm, hcs, ht⟩
 ·simp at h2
 ·simp only [Value.slice.injEq, Option.some.injEq, Addr.mk.injEq, and_true] at hv
  obtain ⟨rfl, -, rfl⟩ := hv
  refine .inr ⟨g, cap, cur.setIfInBounds i v, rfl, hg, block_set hh i v, hnc, hcm, by simpa using hcs, ?_⟩
  rw [Array.toList_setIfInBounds, ← ht, List.take_set]
theorem own_head {w : World} {base e size n : Nat} {v : Value} {xs : List Value} (h : w.ownsRow base e size v n xs) {k : Nat} (hk : k ≤ n) {a : Option Addr} {cap : Nat} (hv : v = .slice a n cap) : w.ownsRow base e size (.slice a k cap) k (xs.take (k * size)) := by
 obtain ⟨h1, h2⟩ := h
 refine ⟨by rw [List.length_take, h1]; exact Nat.min_eq_left (Nat.mul_le_mul_right _ hk), ?_⟩
 rcases h2 with ⟨h2, h3⟩ | ⟨g', cap', cur, h2, hg, hh, hnc, hcm, hcs, ht⟩
 ·rw [hv] at h2
  injection h2 with h4 h5 h6
  subst h4; subst h6
  obtain rfl : k = 0 := by omega
  exact .inl ⟨rfl, rfl⟩
 ·rw [hv] at h2
  injection h2 with h4 h5 h6
  subst h4; subst h6
  exact .inr ⟨g', cap, cur, rfl, hg, hh, by omega, hcm, hcs, by rw [← ht, List.take_take, Nat.min_eq_left (Nat.mul_le_mul_right _ hk)]⟩
theorem segs_set {pre : List SegD} {s s2 : SegD} {j : Nat} {v : Value} (h : (segC s).set j v = segC s2) (hj : j < 3) : (segsC (pre ++ [s])).set (pre.length * 3 + j) v = segsC (pre ++ [s2]) := by
 rw [segs_app, segs_app, List.set_append_right _ _ (by rw [segs_len]; omega), segs_len, Nat.add_sub_cancel_left]
 have e : ∀ x : SegD, segsC [x] = segC x := fun x => by simp [segsC]
 rw [e, e, h]
section
variable {w : World} {S : Nat → Prop} {lp : Nat} {dv ve vs : Value} {st : StD} {segs pre : List SegD} {last : SegD} {g cap n : Nat} {ea : Option Addr}
theorem LogAt.segcell (h : LogAt w S lp dv ve (.slice (some ⟨g, 0, none⟩) n cap) st segs) {i : Nat} {s : SegD} (hi : segs[i]? = some s) :
  w.cell? ⟨g, i * 3, none⟩ = some (.int .i64 (s.num : Int)) ∧ w.cell? ⟨g, i * 3 + 1, none⟩ = some (.int .i64 (s.size : Int)) ∧ w.cell? ⟨g, i * 3 + 2, none⟩ = some (.int .i64 s.top) := by
 have key : ∀ j v, j < 3 → (segC s)[j]? = some v → w.cell? ⟨g, i * 3 + j, none⟩ = some v := fun j v hj hv => by
  have := h.segr.cells (g := g) rfl (i * 3 + j) v ((flat_get (f := segC) (c := 3) (fun _ => rfl) _ i j s hi hj).trans hv)
  rwa [Addr.add_lit, Nat.zero_add] at this
 exact ⟨key 0 _ (by decide) rfl, key 1 _ (by decide) rfl, key 2 _ (by decide) rfl⟩
theorem LogAt.entcell (h : LogAt w S lp dv (.slice (some ⟨g, 0, none⟩) n cap) vs st segs) {i : Nat} {s : EntD} (hi : st.ents[i]? = some s) :
  w.cell? ⟨g, i * 4, none⟩ = some (.int .i64 s.index) ∧ w.cell? ⟨g, i * 4 + 1, none⟩ = some (.int .i64 s.term) ∧ w.cell? ⟨g, i * 4 + 2, none⟩ = some (.int .i64 s.kind) ∧ w.cell? ⟨g, i * 4 + 3, none⟩ = some (.string (bs s.data)) := by
 have key : ∀ j v, j < 4 → (entC s)[j]? = some v → w.cell? ⟨g, i * 4 + j, none⟩ = some v := fun j v hj hv => by
  have := h.ents.cells (g := g) rfl (i * 4 + j) v ((flat_get (f := entC) (c := 4) (fun _ => rfl) _ i j s hi hj).trans hv)
  rwa [Addr.add_lit, Nat.zero_add] at this
 exact ⟨key 0 _ (by decide) rfl, key 1 _ (by decide) rfl, key 2 _ (by decide) rfl, key 3 _ (by decide) rfl⟩
/-- the last segment's field is turned -/
theorem LogAt.setlast (h : LogAt w S lp dv ve (.slice (some ⟨g, 0, none⟩) (pre ++ [last]).length cap) st (pre ++ [last])) {j : Nat} {v : Value} {s2 : SegD} (hj : j < 3) (hs : (segC last).set j v = segC s2) :
  LogAt (w.setCell ⟨g, pre.length * 3 + j, none⟩ v) S lp dv ve (.slice (some ⟨g, 0, none⟩) (pre ++ [s2]).length cap) st (pre ++ [s2]) := by
 have hl : (pre ++ [s2]).length = (pre ++ [last]).length := by simp
 have hne : g ≠ lp := fun e => own_ne h.segr h.head (by decide) (by rw [← e]; rfl)
 have hr := own_set h.segr (pre.length * 3 + j) v
 rw [segs_set hs hj] at hr
 refine ⟨(block_set_ne (Ne.symm hne)).trans (by rw [hl]; exact h.head), ownsRow_keep h.ents (fun k hk => block_set_ne ?_), by rw [hl]; exact hr, h.slp, h.sve, by rw [hl]; exact h.svs, fun k hk => Nat.lt_of_lt_of_le (h.lt k hk) (by rw [World.size_setCell]; omega)⟩
 rintro rfl
 rcases h.segr.2 with ⟨h2, _⟩ | ⟨g', cap', cur, hv, _, hh, _⟩
 ·simp at h2
 ·simp only [Value.slice.injEq, Option.some.injEq, Addr.mk.injEq, and_true] at hv
  obtain ⟨rfl, -, rfl⟩ := hv
  exact own_ne h.ents hh (by decide) hk
/-- its entries are other ones -/
theorem LogAt.setents (h : LogAt w S lp dv ve vs st segs) {w3 : World} {S2 : Nat → Prop} {v2 : Value} {l : List EntD} (hh : w3.heap[lp]? = some (.cells #[dv, .int .i64 st.t, .int .i64 st.v, v2, vs] 140 (0, 0))) (hf : w3.ownsRow 0 95 4 v2 l.length (entsC l)) (hk : ∀ k, k ≠ lp → vs.ownBlock = some k → w3.heap[k]? = w.heap[k]?) (h1 : ∀ k, S k → S2 k) (h2 : ∀ k, v2.ownBlock = some k → S2 k) (h3 : ∀ k, S2 k → k < w3.heap.size) :
  LogAt w3 S2 lp dv v2 vs { st with ents := l } segs :=
 ⟨hh, hf, ownsRow_keep h.segr (fun k hk2 => hk k (fun e => own_ne h.segr h.head (by decide) (by rw [← e]; exact hk2)) hk2), h1 _ h.slp, h2, fun k hk => h1 k (h.svs k hk), h3⟩
end
set_option maxRecDepth 100000 in
/-- append to a row of one's own: what its first cell holds, if the new one begins as the old one did -/
theorem run_put {w : World} {i0 : TypeInfo} (hi : Tryz.prog.info? 95 = some i0) (hz0 : i0.zero = some (.agg #[.int .i64 0, .int .i64 0, .int .i64 0, .string ⟨#[]⟩])) (hz1 : i0.size = 4) (hz2 : i0.bytes = 40) {ty : TypeId} {g cap k q : Nat} {l : List EntD} {e : EntD} {x : Value}
  (hown : w.ownsRow 0 95 4 (.slice (some ⟨g, 0, none⟩) k cap) k (entsC l)) (hq : w.heap[q]? = some (.cells (entC e).toArray 95 (0, 0))) (hk : k ≤ 1000000) (h0 : w.cell? ⟨g, 0, none⟩ = some x) (hx0 : k = 0 → Value.int .i64 e.index = x) :
  ∃ b c w', (Builtin.append_ #[63, 63] ty #[.slice (some ⟨g, 0, none⟩) k cap, .slice (some ⟨q, 0, none⟩) 1 1]).run Tryz.prog w = .ok (.slice (some ⟨b, 0, none⟩) (k + 1) c) w' ∧ w'.ownsRow 0 95 4 (.slice (some ⟨b, 0, none⟩) (k + 1) c) (k + 1) (entsC (l ++ [e])) ∧ w.grownBy w' (some g) ∧ (b = g ∨ b = w.heap.size) ∧ w'.cell? ⟨g, 0, none⟩ = some x := by
 have hnews : ∀ j u, (entC e)[j]? = some u → w.cell? ((⟨q, 0, none⟩ : Addr).add j) = some u := fun j u hu => by rw [Addr.add_lit, Nat.zero_add]; exact cell_of hq (by simpa using hu)
 have h1 : ∀ u ∈ entC e, u.oneCell' = true := by intro u hu; simp [entC] at hu; rcases hu with rfl | rfl | rfl | rfl <;> rfl
 obtain ⟨v', w', hr, h2, h3, _, h5⟩ := run_append_own_at (P := Tryz.prog) (w := w) 0 63 ty 95 i0 _ 4 40 Tryz.underlying63 hi hz0 hz1 hz2 rfl (by decide) _ k _ hown ⟨q, 0, none⟩ 1 1 (entC e) rfl hnews h1 (by unfold maxLen; omega) (by omega) (Nat.zero_le _)
 obtain ⟨b, c, rfl, _, _, _⟩ := ownsRow_form h2 (by omega)
 have hent : entsC l ++ entC e = entsC (l ++ [e]) := by rw [ents_app]; simp [entsC]
 rw [hent] at h2
 have hb : b = g ∨ b = w.heap.size := by
  rcases h5 with h5 | h5
  ·simp [Value.ownBlock] at h5; exact .inl h5
  ·simp [Value.ownBlock] at h5; exact .inr h5
 refine ⟨b, c, w', hr, h2, h3, hb, ?_⟩
 have hin : b = g → w'.cell? ⟨g, 0, none⟩ = some x := by
  rintro rfl
  have hc := h2.cells (g := b) rfl 0
  rw [Addr.add_lit, Nat.zero_add] at hc
  refine hc x ?_
  rw [← hent]
  by_cases k0 : k = 0
  ·have hl0 : entsC l = [] := List.eq_nil_of_length_eq_zero (by rw [hown.1, k0])
   rw [hl0, List.nil_append]
   exact congrArg some (hx0 k0)
  ·have hlen : 0 < (entsC l).length := by rw [hown.1]; omega
   rw [List.getElem?_append_left hlen]
   obtain ⟨y, hy⟩ : ∃ y, (entsC l)[0]? = some y := ⟨_, List.getElem?_eq_getElem hlen⟩
   have := hown.cells (g := b) rfl 0 y hy
   rw [Addr.add_lit, Nat.zero_add, h0] at this
   rw [hy]; exact this.symm
 rcases hown.2 with ⟨h6, _⟩ | ⟨g', cap', cur, hv, _, hg, hnc, hcm, hcs, htake⟩
 ·cases h6
 ·simp only [Value.slice.injEq, Option.some.injEq, Addr.mk.injEq, and_true] at hv
  obtain ⟨rfl, -, rfl⟩ := hv
  by_cases hroom : k + 1 ≤ cap
  ·have hfit : k * i0.size + (entC e).length ≤ cur.size := by rw [hcs, hz1]; show k * 4 + 4 ≤ cap * 4; omega
   have hr2 := run_append_room (P := Tryz.prog) w 63 ty 95 i0 Tryz.underlying63 hi g k cap cur hg ⟨q, 0, none⟩ 1 1 (entC e) (by rw [hz1]; rfl) hnews h1 hroom hfit
   rw [hr] at hr2
   injection hr2 with hr3 _
   injection hr3 with hr4 _ _
   injection hr4 with hr5
   injection hr5 with hr6 _ _
   exact hin hr6
  ·have holds : ∀ j u, (entsC l)[j]? = some u → w.cell? ((⟨g, 0, none⟩ : Addr).add j) = some u := hown.cells (g := g) rfl
   have hr2 := run_append_grow (P := Tryz.prog) w 63 ty 95 i0 _ Tryz.underlying63 hi hz0 ⟨g, 0, none⟩ k cap (entsC l) (by rw [hz1]; exact hown.1) holds ⟨q, 0, none⟩ 1 1 (entC e) (by rw [hz1]; rfl) hnews (by omega) (by unfold maxLen at *; omega) (growslice_fits (by omega) (by rw [hz2]; omega))
   rw [hr] at hr2
   injection hr2 with _ hr3
   rw [hr3]
   have hgl := lt_of_block hg
   have hh : (w.drew.alloc (.cells ((entsC l).toArray ++ (entC e).toArray ++ Builtin.zeroCells (Value.agg #[.int .i64 0, .int .i64 0, .int .i64 0, .string ⟨#[]⟩]).cells (grownCap w (k + 1) cap 95 - (k + 1))) 95)).heap[g]? = w.heap[g]? := Below.heap_alloc w.drew _ g hgl
   unfold World.cell? at h0 ⊢
   rw [hh]; exact h0
theorem step_put {w : World} {ops : Array Oper} {o : Oper} {a : Act} {K : Act → World → Prop} {Q : Exit → Act → World → Prop} {E : Prop} (hgd : o.guard = none) (s y : Operand)
  (ho : o.op = .call { callee := .builtin .append, args := #[s, y], argTypes := #[63, 63] }) {i0 : TypeInfo} (hi : Tryz.prog.info? 95 = some i0) (hz0 : i0.zero = some (.agg #[.int .i64 0, .int .i64 0, .int .i64 0, .string ⟨#[]⟩])) (hz1 : i0.size = 4) (hz2 : i0.bytes = 40) {g cap k q : Nat} {l : List EntD} {e : EntD} {x : Value}
  (hs : a.eval s = .slice (some ⟨g, 0, none⟩) k cap) (hy : a.eval y = .slice (some ⟨q, 0, none⟩) 1 1)
  (hown : w.ownsRow 0 95 4 (.slice (some ⟨g, 0, none⟩) k cap) k (entsC l)) (hq : w.heap[q]? = some (.cells (entC e).toArray 95 (0, 0))) (hk : k ≤ 1000000) (h0 : w.cell? ⟨g, 0, none⟩ = some x) (hx0 : k = 0 → Value.int .i64 e.index = x)
  (h : ∀ b c w', w'.ownsRow 0 95 4 (.slice (some ⟨b, 0, none⟩) (k + 1) c) (k + 1) (entsC (l ++ [e])) → w.grownBy w' (some g) → (b = g ∨ b = w.heap.size) → w'.cell? ⟨g, 0, none⟩ = some x → K (a.put o.dst (.slice (some ⟨b, 0, none⟩) (k + 1) c)) w') :
  if Region.wanted o (yielded ops a.tmps) = true then Oper.wp Tryz.prog o a w K Q else E := by
 rw [if_pos (by simp [Region.wanted, hgd])]
 obtain ⟨b, c, w', hr, h2, h3, h4, h5⟩ := run_put hi hz0 hz1 hz2 (ty := o.type) hown hq hk h0 hx0
 unfold Oper.wp execOp
 simp only [ho, resolve, invoke, builtin, Sem.run_bind, Sem.run_pure, Result.andThen_ok, List.map_toArray, List.map_cons, List.map_nil, hs, hy, hr]
 exact h b c w' h2 h3 h4 h5
end Go.Proofs.YtgmghopcppniaaaGreatDoor

/- A region whose last operation stores into a cell that the region loads: the loads may still be taken first, where the store waits for them (of no program). -/
namespace Go.Proofs.YtgmghopcppniaaaGreatDoor

section
variable {P : Program} {ops : Array Oper} {Q : Exit → Act → World → Prop} {md : Region.Mode} {S : World → Prop} {z : Nat}
/-- whatever order is picked: S holds behind each operation, but behind number z -/
def anyZ (P : Program) (md : Region.Mode) (ops : Array Oper) (Q : Exit → Act → World → Prop) (S : World → Prop) (z : Nat) : Nat → Array Bool → Act → World → Prop
 | 0, listed, a, w => Region.ready md ops listed = [] ∧ Q .normal a w
 | k + 1, listed, a, w => (Region.ready md ops listed = [] → Q .normal a w) ∧
  ∀ i ∈ Region.ready md ops listed, wpOp P ops Q i (fun a2 w2 => (i ≠ z → S w2) ∧ anyZ P md ops Q S z k (listed.setIfInBounds i true) a2 w2) a w
theorem any_of_Z : ∀ (k : Nat) (listed : Array Bool) (a : Act) (w : World), anyZ P md ops Q S z k listed a w → wpAny P md ops Q k listed a w
 | 0, _, _, _, h => h
 | k + 1, _, _, _, h => ⟨h.1, fun i hi => wpOp_mono (fun a2 w2 h2 => any_of_Z k _ a2 w2 h2.2) (h.2 i hi)⟩
theorem anyZ_first {i : Nat} {oi : Oper} {v : Value} (hi : ops[i]? = some oi) (hsel : ∀ (j : Nat) (o : Oper) cs b, ops[j]? = some o → o.op ≠ .select cs b)
  (hQ : ∀ c a w, Q (.panic c) (a.put oi.dst v) w → Q (.panic c) a w) (hz : Region.waitsFor md ops z i = true) :
  ∀ (k : Nat) (listed : Array Bool) (a : Act) (w : World),
   (∀ j oj, ops[j]? = some oj → j ≠ i → listed.getD j true = false → (∀ e ∈ oj.after, Region.binds md e = true → e.on ≠ i) → oi.apart ops oj = true) →
   i ∈ Region.ready md ops listed → YieldsIf P ops S oi v a → S w →
   anyZ P md ops Q S z k (listed.setIfInBounds i true) (a.put oi.dst v) w → anyZ P md ops Q S z (k + 1) listed a w := by
 intro k
 induction k with
 | zero =>
  intro listed a w _ hr hy hS H
  refine ⟨fun h => (by rw [h] at hr; cases hr), fun j hj => ?_⟩
  by_cases hji : j = i
  ·subst hji
   exact hy.wpOp hi hS ⟨fun _ => hS, H⟩
  ·have h1 := ready_mono hj hji
   rw [H.1] at h1
   cases h1
 | succ k ih =>
  intro listed a w hfree hr hy hS H
  refine ⟨fun h => (by rw [h] at hr; cases hr), fun j hj => ?_⟩
  by_cases hji : j = i
  ·subst hji
   exact hy.wpOp hi hS ⟨fun _ => hS, H⟩
  ·obtain ⟨hun, oj, hoj, hall⟩ := mem_ready.1 hj
   have hno : ∀ e ∈ oj.after, Region.binds md e = true → e.on ≠ i := by
    intro e he hb heq
    have h1 := hall e he hb
    rw [heq] at h1
    have h0 := (mem_ready.1 hr).1
    rcases Nat.lt_or_ge i listed.size with hlt | hge
    ·simp [hlt] at h0 h1
     rw [h0] at h1; cases h1
    ·simp [Array.getElem?_eq_none hge] at h1
   have hjz : j ≠ z := by
    intro hjz
    obtain ⟨oz, hoz, e, he, hb, hon⟩ := Region.waitsFor_spec hz
    rw [← hjz, hoj] at hoz
    obtain rfl := Option.some.inj hoz
    exact hno e he hb hon
   have h1 := H.2 j (ready_mono hj hji)
   have h2 := wpOp_putIf hoj (hfree j oj hoj hji hun hno) (fun cs b => hsel i oi cs b hi) (fun cs b => hsel j oj cs b hoj) hQ hy h1
   have hfree2 : ∀ m om, ops[m]? = some om → m ≠ i → (listed.setIfInBounds j true).getD m true = false → (∀ e ∈ om.after, Region.binds md e = true → e.on ≠ i) → oi.apart ops om = true := by
    intro m om hm hmi hunm hnom
    refine hfree m om hm hmi ?_ hnom
    by_cases hjm : j = m
    ·subst hjm; exact hun
    ·rw [getD_set_ne true hjm] at hunm; exact hunm
   refine wpOp_mono (fun a2 w2 h3 => ⟨h3.2.1, ih (listed.setIfInBounds j true) a2 w2 hfree2 (ready_mono hr (Ne.symm hji)) h3.1 (h3.2.1 hjz) ?_⟩) h2
   rw [Array.setIfInBounds_comm _ _ hji]
   exact h3.2.2
theorem anyZ_take {i : Nat} {oi : Oper} {v : Value} {k : Nat} {listed : Array Bool} {a : Act} {w : World} (hi : ops[i]? = some oi)
  (hs : Region.noSelect ops = true) (hf : Region.free md ops listed i = true) (hr : (Region.ready md ops listed).contains i = true) (hz : Region.waitsFor md ops z i = true)
  (hQ : ∀ c a w, Q (.panic c) (a.put oi.dst v) w → Q (.panic c) a w) (hy : YieldsIf P ops S oi v a) (hS : S w)
  (h : anyZ P md ops Q S z k (listed.setIfInBounds i true) (a.put oi.dst v) w) : anyZ P md ops Q S z (k + 1) listed a w :=
 anyZ_first hi (Region.noSelect_spec hs) hQ hz k listed a w (Region.free_spec hi hf) (by simpa using hr) hy hS h
/-- one operation alone may come up -/
theorem anyZ_one {i : Nat} {oi : Oper} {k : Nat} {listed : Array Bool} {a : Act} {w : World} (hi : ops[i]? = some oi) (hr : Region.ready md ops listed = [i])
  (h : ∀ K : Act → World → Prop, Shut (∀ a2 w2, (i ≠ z → S w2) → anyZ P md ops Q S z k (listed.setIfInBounds i true) a2 w2 → K a2 w2) → if Region.wanted oi (yielded ops a.tmps) = true then Oper.wp P oi a w K Q else K (a.put oi.dst undef) w) : anyZ P md ops Q S z (k + 1) listed a w := by
 refine ⟨fun h0 => (by rw [hr] at h0; cases h0), fun j hj => ?_⟩
 rw [hr] at hj
 obtain rfl := List.mem_singleton.1 hj
 exact wpOp_step hi fun K hK => h K fun a2 w2 h1 h2 => hK a2 w2 ⟨h1, h2⟩
theorem anyZ_done {listed : Array Bool} {a : Act} {w : World} (hr : Region.ready md ops listed = []) (h : Q .normal a w) : ∀ k, anyZ P md ops Q S z k listed a w
 | 0 => ⟨hr, h⟩
 | _ + 1 => ⟨fun _ => h, by rw [hr]; simp⟩
theorem region_Z {id : Nat} {a : Act} {w : World} (hm : P.follows .mixedOrders = true) (h : anyZ P .any ops Q S z ops.size (Array.replicate ops.size false) a w.drew) : (Code.region id ops true).wp P Q a w :=
 wp_region_any hm (any_of_Z _ _ _ _ h)
end
end Go.Proofs.YtgmghopcppniaaaGreatDoor

/- wal's put: walked. -/
namespace Go.Proofs.YtgmghopcppniaaaGreatDoor
open Go.RowKit Go.Lib

set_option linter.unusedSimpArgs false in
set_option maxRecDepth 100000 in
set_option maxHeartbeats 16000000 in
theorem put_h {w : World} {S : Nat → Prop} {lp : Nat} {dv ve vs : Value} {st : StD} {pre : List SegD} {last : SegD} {e : EntD} (h : LogAt w S lp dv ve vs st (pre ++ [last])) (hr : RunE st.ents) (he : GoodE e) (hl : st.ents.length ≤ 1000000) (hp : pre.length ≤ 1000000) (_ht : I64 last.top) :
  Calls Tryz.prog 109 #[.pointer (some ⟨lp, 0, none⟩), entV e] w fun r w' => r = .returned (.tuple #[]) ∧ (∃ ve', LogAt w' (Plus S w w') lp dv ve' vs { st with ents := putE st.ents e } (pre ++ [{ last with top := max last.top e.index }])) ∧ Fr S w w' := by
 obtain ⟨i0, hi, hz0, hz1, hz2⟩ := info_parts info95
 have hnl : (pre ++ [last]).length = pre.length + 1 := by simp
 obtain ⟨gs, scap, rfl, hsc, hscm, hgl, hgS⟩ := h.segrow (by rw [hnl]; omega)
 rw [hnl] at hsc
 have HL := Lib.hid h
 have HR := Lib.hid hr
 have HG := Lib.hid he
 obtain ⟨tp, htp⟩ : ∃ tp, max last.top e.index = tp := ⟨_, rfl⟩
 unfold entV
 obtain ⟨w1, hw1⟩ : ∃ w1, w1 = w.alloc (.cells #[.int .i64 e.index, .int .i64 e.term, .int .i64 e.kind, .string (bs e.data)] 95) := ⟨_, rfl⟩
 have HF1 : Hid (Fr (fun _ => False) w w1) := by show Fr _ _ _; rw [hw1]; exact (Fr.refl _ _).alloc _
 have hb : w1.heap[w.heap.size]? = some (.cells #[.int .i64 e.index, .int .i64 e.term, .int .i64 e.kind, .string (bs e.data)] 95 (0, 0)) := by rw [hw1]; exact block_new _ _
 have HB1 := Lib.hid hb
 have HL1 := Lib.hid (h.quiet HF1.out)
 have hh := HL1.out.head
 have m3 := cell_of hh (i := 3) (v := ve) rfl
 have m4 := cell_of hh (i := 4) (v := .slice (some ⟨gs, 0, none⟩) (pre ++ [last]).length scap) rfl
 rw [hnl] at m4
 obtain ⟨z0, z1, z2⟩ := HL1.out.segcell (i := pre.length) (s := last) (by simp)
 have zf := ownsRow_free HL1.out.segr (pre.length * 3 + 2)
 have e0 := cell_of hb (i := 0) (v := .int .i64 e.index) rfl
 have hgs1 : gs < w1.heap.size := HL1.out.lt gs hgS
 have HT := Lib.hid htp
 clear h hb hh hr he
 go_enter Tryz.func109, Tryz.ntmps109
 go_upto_region 1 with fail
 rw [← hw1]
 clear hw1
 go_cut [4] (fun s4 wx => s4 = .pointer (some ⟨gs, pre.length * 3, none⟩) ∧ Fr (fun _ => False) w1 wx)
 case first =>
  go_big_quiet (fail)
  go_wp2_with fail
  go_meet
  exact ⟨rfl, (Fr.refl _ _).drewN _⟩
 case rest =>
 obtain ⟨rfl, hf2⟩ := hcut
 have HF2 := Lib.hid (HF1.out.next hf2)
 have HL2 := Lib.hid (HL1.out.quiet hf2)
 have HB2 := Lib.hid (hf2.keep HB1.out (fun h => h))
 clear m3 m4 z0 z1 z2 zf e0 hf2 hgs1
 obtain ⟨z0, z1, z2⟩ := HL2.out.segcell (i := pre.length) (s := last) (by simp)
 have zf := ownsRow_free HL2.out.segr (pre.length * 3 + 2)
 have e0 := cell_of HB2.out (i := 0) (v := .int .i64 e.index) rfl
 go_upto_region 2 with fail
 go_cut [4] (fun s4 wx => s4 = .pointer (some ⟨gs, pre.length * 3, none⟩) ∧ LogAt wx S lp dv ve (.slice (some ⟨gs, 0, none⟩) (pre ++ [{ last with top := tp }]).length scap) st (pre ++ [{ last with top := tp }]) ∧ Fr S w wx ∧ wx.heap[w.heap.size]? = some (.cells #[.int .i64 e.index, .int .i64 e.term, .int .i64 e.kind, .string (bs e.data)] 95 (0, 0)))
 case first =>
  go_still_tail 10, (by kernel_rfl)
  go_wp2_with fail
  go_meet
  have hne : ¬ w.heap.size = gs := fun h => by have := HL.out.lt gs hgS; omega
  exact ⟨rfl, (HL2.out.setlast (s2 := { last with top := tp }) (by decide) rfl).quiet (Fr.refl _ _).drew, (((HF2.out.mono (o2 := S) fun _ _ h => h.elim).setCell (p := ⟨gs, pre.length * 3 + 2, none⟩) (.inl hgS) _)).drew, (block_set_ne hne).trans HB2.out⟩
 case rest =>
 obtain ⟨rfl, hl3, hf3, hb3⟩ := hcut
 have HL3 := Lib.hid hl3
 have HF3 := Lib.hid hf3
 have HB3 := Lib.hid hb3
 obtain ⟨vs3, hvs3⟩ : ∃ v, Value.slice (some ⟨gs, 0, none⟩) (pre ++ [{ last with top := tp }]).length scap = v := ⟨_, rfl⟩
 rw [hvs3] at HL3
 have HEN : Hid (∀ (w' : World) (ve' : Value), LogAt w' (Plus S w w') lp dv ve' vs3 { st with ents := putE st.ents e } (pre ++ [{ last with top := tp }]) → LogAt w' (Plus S w w') lp dv ve' (Value.slice (some ⟨gs, 0, none⟩) (pre ++ [last]).length scap) { st with ents := putE st.ents e } (pre ++ [{ last with top := tp }])) := by
  intro w' ve' h
  rw [← hvs3] at h
  simpa using h
 clear z0 z1 z2 zf e0 hl3 hf3 hb3 HL2 HF2 HB2 HL1 HF1 HB1 htp hvs3
 have hh := HL3.out.head
 obtain ⟨ea, ec, hve⟩ : ∃ a c, ve = .slice a st.ents.length c := ownsRow_shape HL3.out.ents
 have m3 := cell_of hh (i := 3) (v := ve) rfl
 have mf := free_of 3 hh
 have ml := lt_of_block hh
 rw [hve] at m3
 have b0 := cell_of HB3.out (i := 0) (v := .int .i64 e.index) rfl
 have b1 := cell_of HB3.out (i := 1) (v := .int .i64 e.term) rfl
 have b2 := cell_of HB3.out (i := 2) (v := .int .i64 e.kind) rfl
 have b3 := cell_of HB3.out (i := 3) (v := .string (bs e.data)) rfl
 have bl := lt_of_block HB3.out
 have hbne : ¬ w.heap.size = lp := fun h => by have := HL.out.lt lp HL.out.slp; omega
 clear hh
 have HVE := Lib.hid hve
 clear hve
 go_upto_region 4 with fail
 obtain ⟨b, hbb⟩ : ∃ b, decide (st.ents = [] ∨ IntKind.i64.wrap ((lastE st.ents).index + 1) < e.index ∨ e.index < (st.ents.getD 0 zeroE).index) = b := ⟨_, rfl⟩
 go_cut [5, 60] (fun s5 s60 wx => s60 = .bool b ∧ Fr (fun _ => False) wc wx)
 case first =>
  by_cases hn : st.ents = []
  ·have hn0 : st.ents.length = 0 := by rw [hn]; rfl
   have hn1 : (st.ents.length : Int) = 0 := by omega
   have hn2 : ((st.ents.length : Int) == 0) = true := by simpa using hn1
   obtain rfl : b = true := by rw [← hbb]; exact decide_eq_true (.inl hn)
   go_big_quiet (fail)
   go_wp2_with fail
   go_meet
   exact ⟨rfl, (Fr.refl _ _).drewN _⟩
  ·have hnp : 0 < st.ents.length := List.length_pos_iff.2 hn
   obtain ⟨ge, cap, hv, hec, hecm, _, _⟩ := HL3.out.entrow hnp
   rw [HVE.out] at hv
   injection hv with hv1 _ hv2
   subst hv1; subst hv2
   obtain ⟨k, hk⟩ : ∃ k, st.ents.length = k + 1 := ⟨st.ents.length - 1, by omega⟩
   have HL4 := HL3.out
   rw [HVE.out] at HL4
   obtain ⟨y0, _⟩ := HL4.entcell (i := 0) (s := st.ents.getD 0 zeroE) (getD_some hnp)
   obtain ⟨y1, _⟩ := HL4.entcell (i := st.ents.length - 1) (s := lastE st.ents) (getD_some (by omega))
   rw [hk, Nat.add_sub_cancel] at y1
   rw [Nat.zero_mul] at y0
   obtain ⟨fi, hfi⟩ : ∃ x, (st.ents.getD 0 zeroE).index = x := ⟨_, rfl⟩
   obtain ⟨li, hli⟩ : ∃ x, (lastE st.ents).index = x := ⟨_, rfl⟩
   obtain ⟨nx, hnx⟩ : ∃ x, IntKind.i64.wrap (li + 1) = x := ⟨_, rfl⟩
   rw [hfi] at y0 hbb
   rw [hli] at y1 hbb
   rw [hnx] at hbb
   have hki : (st.ents.length : Int) = (k : Int) + 1 := by omega
   have q0 : ((st.ents.length : Int) == 0) = false := by simpa using (show ¬ (st.ents.length : Int) = 0 by omega)
   have q1 : ¬ (st.ents.length : Int) = 0 := by omega
   have hw1 : IntKind.i64.wrap ((st.ents.length : Int) - 1) = (k : Int) := by rw [IntWalk.i64_in _ (by omega)]; omega
   have hlt0 : (0 : Int) < (st.ents.length : Int) := by omega
   have hltk : (k : Int) < (st.ents.length : Int) := by omega
   have hltn : k < st.ents.length := by omega
   clear HL4 hki hk hfi hli
   by_cases h1 : nx < e.index
   ·obtain rfl : b = true := by rw [← hbb]; exact decide_eq_true (.inr (.inl h1))
    clear hbb
    go_big_quiet (fail)
    go_wp2_with fail
    go_meet
    exact ⟨rfl, (Fr.refl _ _).drewN _⟩
   ·have d1 : decide (nx < e.index) = false := decide_eq_false h1
    by_cases h2 : e.index < fi
    ·obtain rfl : b = true := by rw [← hbb]; exact decide_eq_true (.inr (.inr h2))
     clear hbb
     go_big_quiet (fail)
     go_wp2_with fail
     go_meet
     exact ⟨rfl, (Fr.refl _ _).drewN _⟩
    ·have d2 : decide (e.index < fi) = false := decide_eq_false h2
     obtain rfl : b = false := by rw [← hbb]; exact decide_eq_false (fun h => by rcases h with h | h | h <;> contradiction)
     clear hbb
     go_big_quiet (fail)
     go_wp2_with fail
     go_meet
     exact ⟨rfl, (Fr.refl _ _).drewN _⟩
 case rest =>
  obtain ⟨rfl, hf4⟩ := hcut
  have HL4 := Lib.hid (HL3.out.quiet hf4)
  have HF4 := Lib.hid (HF3.out.next (hf4.mono (o2 := S) fun _ _ h => h.elim))
  have HB4 := Lib.hid (hf4.keep HB3.out (fun h => h))
  clear m3 mf ml b0 b1 b2 b3 bl hf4
  have hh := HL4.out.head
  have m3 := cell_of hh (i := 3) (v := ve) rfl
  have mf := free_of 3 hh
  have ml := lt_of_block hh
  rw [HVE.out] at m3
  have b0 := cell_of HB4.out (i := 0) (v := .int .i64 e.index) rfl
  have b1 := cell_of HB4.out (i := 1) (v := .int .i64 e.term) rfl
  have b2 := cell_of HB4.out (i := 2) (v := .int .i64 e.kind) rfl
  have b3 := cell_of HB4.out (i := 3) (v := .string (bs e.data)) rfl
  have bl := lt_of_block HB4.out
  have HS := Lib.hid (show w.heap.size ≤ wc.heap.size from by omega)
  cases b with
  | true =>
   have HP := Lib.hid (put_one (of_decide_eq_true hbb))
   clear hbb hh
   go_wp2_with fail
   refine bodyPost_ret (v := .tuple #[]) (results_none rfl _ _ _) rfl ?_
   rw [HT.out]
   refine ⟨rfl, ⟨.slice (some ⟨wc.heap.size, 0, none⟩) 1 1, HEN.out _ _ ?_⟩, ((HF4.out.setCell (p := ⟨lp, 3, none⟩) (.inl HL.out.slp) _).alloc _)⟩
   rw [HP.out]
   refine HL4.out.setents (l := [e]) (v2 := .slice (some ⟨wc.heap.size, 0, none⟩) 1 1) (block_old (block_set HL4.out.head 3 _) _) ?_ (fun k hkl hk => ?_) (fun k hk => .inl hk) (fun k hk => ?_) (fun k hk => ?_)
   ·exact ⟨rfl, .inr ⟨_, 1, _, rfl, Nat.zero_le _, block_new_at (by simp), Nat.le_refl _, by decide, rfl, rfl⟩⟩
   ·have hkl2 := HL4.out.lt k (HL4.out.svs k hk)
    rw [Below.heap_alloc _ _ k (by simpa using hkl2), block_set_ne hkl]
   ·simp [Value.ownBlock] at hk
    subst hk
    exact .inr ⟨HS.out, by simp⟩
   ·rcases hk with hk | ⟨_, hk⟩
    ·have := HL4.out.lt k (by rcases Classical.em (S k) with h | h; exact h; exact absurd hk h); simp; omega
    ·simpa using hk
  | false =>
   have hc : ¬ (st.ents = [] ∨ IntKind.i64.wrap ((lastE st.ents).index + 1) < e.index ∨ e.index < (st.ents.getD 0 zeroE).index) := of_decide_eq_false hbb
   obtain ⟨_, k, hk, hkl⟩ := HR.out.cut HG.out hc
   have hn : st.ents ≠ [] := fun h => hc (.inl h)
   have hP := put_at hc
   rw [hk, Int.toNat_natCast] at hP
   have HP := Lib.hid hP
   have hnp : 0 < st.ents.length := List.length_pos_iff.2 hn
   obtain ⟨ge, cap, hv, hec, hecm, hgel, hgeS⟩ := HL4.out.entrow hnp
   rw [HVE.out] at hv
   injection hv with hv1 _ hv2
   subst hv1; subst hv2
   have HL5 := HL4.out
   rw [HVE.out] at HL5
   obtain ⟨y0, _⟩ := HL5.entcell (i := 0) (s := st.ents.getD 0 zeroE) (getD_some hnp)
   rw [Nat.zero_mul] at y0
   have hown := own_head HL5.ents hkl rfl
   rw [← ents_take] at hown
   have HO := Lib.hid hown
   have h5 := (HR.out.at hnp).parts
   have h6 := HG.out.parts
   obtain ⟨fi, hfi⟩ : ∃ x, (st.ents.getD 0 zeroE).index = x := ⟨_, rfl⟩
   rw [hfi] at y0 hk h5
   have hwk : IntKind.i64.wrap (e.index - fi) = (k : Int) := by rw [hk]; exact IntWalk.i64_in _ (by omega)
   have HK0 := Lib.hid (show k = 0 → Value.int .i64 e.index = .int .i64 fi from fun h => by rw [show e.index = fi by omega])
   have hk0 : (0 : Int) ≤ (k : Int) := by omega
   have hkc : (k : Int) ≤ (ec : Int) := by omega
   have hkcn : k ≤ ec := by omega
   have hlt0 : (0 : Int) < (st.ents.length : Int) := by omega
   have hbge : ¬ w.heap.size = ge := fun h => by have := HL.out.lt ge hgeS; omega
   have hgewc : ge < wc.heap.size := HL4.out.lt ge hgeS
   clear hbb hh hc hk hn hP HL5 hown hfi h5 h6
   go_upto_region 6 with fail
   refine wp_region_noPanic ?_
   refine region_Z (S := fun w' => w'.cell? ⟨lp, 3, none⟩ = some (.slice (some ⟨ge, 0, none⟩) st.ents.length ec) ∧ w'.cell? ⟨w.heap.size, 0, none⟩ = some (.int .i64 e.index) ∧ w'.cell? ⟨ge, 0, none⟩ = some (.int .i64 fi) ∧ w'.cell? ⟨w.heap.size, 1, none⟩ = some (.int .i64 e.term) ∧ w'.cell? ⟨w.heap.size, 2, none⟩ = some (.int .i64 e.kind) ∧ w'.cell? ⟨w.heap.size, 3, none⟩ = some (.string (bs e.data))) (z := 21) (by kernel_rfl) ?_
   have hHeld : (fun w' : World => w'.cell? ⟨lp, 3, none⟩ = some (.slice (some ⟨ge, 0, none⟩) st.ents.length ec) ∧ w'.cell? ⟨w.heap.size, 0, none⟩ = some (.int .i64 e.index) ∧ w'.cell? ⟨ge, 0, none⟩ = some (.int .i64 fi) ∧ w'.cell? ⟨w.heap.size, 1, none⟩ = some (.int .i64 e.term) ∧ w'.cell? ⟨w.heap.size, 2, none⟩ = some (.int .i64 e.kind) ∧ w'.cell? ⟨w.heap.size, 3, none⟩ = some (.string (bs e.data))) wc.drew := ⟨m3, b0, y0, b1, b2, b3⟩
   refine anyZ_take (i := 0) (v := ?v0) rfl (by kernel_rfl) (by kernel_rfl) (by kernel_rfl) (by kernel_rfl) (fun _ _ _ h => h) (Or.inl ⟨by rfl, ?hy0⟩) hHeld ?rest0
   case hy0 => intro w' hSw; (try dsimp only at hSw); go_simp; (try with_reducible rfl)
   simp only [Act.put, List.setIfInBounds_toArray, List.set_cons_zero, List.set_cons_succ]
   refine anyZ_take (i := 1) (v := ?v1) rfl (by kernel_rfl) (by kernel_rfl) (by kernel_rfl) (by kernel_rfl) (fun _ _ _ h => h) (Or.inl ⟨by rfl, ?hy1⟩) hHeld ?rest1
   case hy1 => intro w' hSw; (try dsimp only at hSw); go_simp; (try with_reducible rfl)
   simp only [Act.put, List.setIfInBounds_toArray, List.set_cons_zero, List.set_cons_succ]
   refine anyZ_take (i := 2) (v := ?v2) rfl (by kernel_rfl) (by kernel_rfl) (by kernel_rfl) (by kernel_rfl) (fun _ _ _ h => h) (Or.inl ⟨by rfl, ?hy2⟩) hHeld ?rest2
   case hy2 => intro w' hSw; (try dsimp only at hSw); go_simp; (try with_reducible rfl)
   simp only [Act.put, List.setIfInBounds_toArray, List.set_cons_zero, List.set_cons_succ]
   refine anyZ_take (i := 3) (v := ?v3) rfl (by kernel_rfl) (by kernel_rfl) (by kernel_rfl) (by kernel_rfl) (fun _ _ _ h => h) (Or.inl ⟨by rfl, ?hy3⟩) hHeld ?rest3
   case hy3 => intro w' hSw; (try dsimp only at hSw); go_simp; (try with_reducible rfl)
   simp only [Act.put, List.setIfInBounds_toArray, List.set_cons_zero, List.set_cons_succ]
   refine anyZ_take (i := 4) (v := ?v4) rfl (by kernel_rfl) (by kernel_rfl) (by kernel_rfl) (by kernel_rfl) (fun _ _ _ h => h) (Or.inl ⟨by rfl, ?hy4⟩) hHeld ?rest4
   case hy4 => intro w' hSw; (try dsimp only at hSw); go_simp; (try with_reducible rfl)
   simp only [Act.put, List.setIfInBounds_toArray, List.set_cons_zero, List.set_cons_succ]
   refine anyZ_take (i := 5) (v := ?v5) rfl (by kernel_rfl) (by kernel_rfl) (by kernel_rfl) (by kernel_rfl) (fun _ _ _ h => h) (Or.inl ⟨by rfl, ?hy5⟩) hHeld ?rest5
   case hy5 => intro w' hSw; (try dsimp only at hSw); go_simp; (try with_reducible rfl)
   simp only [Act.put, List.setIfInBounds_toArray, List.set_cons_zero, List.set_cons_succ]
   refine anyZ_take (i := 6) (v := ?v6) rfl (by kernel_rfl) (by kernel_rfl) (by kernel_rfl) (by kernel_rfl) (fun _ _ _ h => h) (Or.inl ⟨by rfl, ?hy6⟩) hHeld ?rest6
   case hy6 => intro w' hSw; (try dsimp only at hSw); go_simp; (try with_reducible rfl)
   simp only [Act.put, List.setIfInBounds_toArray, List.set_cons_zero, List.set_cons_succ]
   refine anyZ_take (i := 7) (v := ?v7) rfl (by kernel_rfl) (by kernel_rfl) (by kernel_rfl) (by kernel_rfl) (fun _ _ _ h => h) (Or.inl ⟨by rfl, ?hy7⟩) hHeld ?rest7
   case hy7 => intro w' hSw; (try dsimp only at hSw); go_simp; (try with_reducible rfl)
   simp only [Act.put, List.setIfInBounds_toArray, List.set_cons_zero, List.set_cons_succ]
   refine anyZ_take (i := 8) (v := ?v8) rfl (by kernel_rfl) (by kernel_rfl) (by kernel_rfl) (by kernel_rfl) (fun _ _ _ h => h) (Or.inl ⟨by rfl, ?hy8⟩) hHeld ?rest8
   case hy8 => intro w' hSw; (try dsimp only at hSw); go_simp; (try with_reducible rfl)
   simp only [Act.put, List.setIfInBounds_toArray, List.set_cons_zero, List.set_cons_succ]
   refine anyZ_take (i := 9) (v := ?v9) rfl (by kernel_rfl) (by kernel_rfl) (by kernel_rfl) (by kernel_rfl) (fun _ _ _ h => h) (Or.inl ⟨by rfl, ?hy9⟩) hHeld ?rest9
   case hy9 => intro w' hSw; (try dsimp only at hSw); go_simp; (try with_reducible rfl)
   simp only [Act.put, List.setIfInBounds_toArray, List.set_cons_zero, List.set_cons_succ]
   refine anyZ_take (i := 10) (v := ?v10) rfl (by kernel_rfl) (by kernel_rfl) (by kernel_rfl) (by kernel_rfl) (fun _ _ _ h => h) (Or.inl ⟨by rfl, ?hy10⟩) hHeld ?rest10
   case hy10 => intro w' hSw; (try dsimp only at hSw); go_simp; (try with_reducible rfl)
   simp only [Act.put, List.setIfInBounds_toArray, List.set_cons_zero, List.set_cons_succ]
   refine anyZ_take (i := 11) (v := ?v11) rfl (by kernel_rfl) (by kernel_rfl) (by kernel_rfl) (by kernel_rfl) (fun _ _ _ h => h) (Or.inl ⟨by rfl, ?hy11⟩) hHeld ?rest11
   case hy11 => intro w' hSw; (try dsimp only at hSw); go_simp; (try with_reducible rfl)
   simp only [Act.put, List.setIfInBounds_toArray, List.set_cons_zero, List.set_cons_succ]
   refine anyZ_take (i := 12) (v := ?v12) rfl (by kernel_rfl) (by kernel_rfl) (by kernel_rfl) (by kernel_rfl) (fun _ _ _ h => h) (Or.inl ⟨by rfl, ?hy12⟩) hHeld ?rest12
   case hy12 => intro w' hSw; (try dsimp only at hSw); go_simp; (try with_reducible rfl)
   simp only [Act.put, List.setIfInBounds_toArray, List.set_cons_zero, List.set_cons_succ]
   refine anyZ_take (i := 13) (v := ?v13) rfl (by kernel_rfl) (by kernel_rfl) (by kernel_rfl) (by kernel_rfl) (fun _ _ _ h => h) (Or.inl ⟨by rfl, ?hy13⟩) hHeld ?rest13
   case hy13 => intro w' hSw; (try dsimp only at hSw); go_simp; (try with_reducible rfl)
   simp only [Act.put, List.setIfInBounds_toArray, List.set_cons_zero, List.set_cons_succ]
   refine anyZ_take (i := 14) (v := ?v14) rfl (by kernel_rfl) (by kernel_rfl) (by kernel_rfl) (by kernel_rfl) (fun _ _ _ h => h) (Or.inl ⟨by rfl, ?hy14⟩) hHeld ?rest14
   case hy14 => intro w' hSw; (try dsimp only at hSw); go_simp; (try with_reducible rfl)
   simp only [Act.put, List.setIfInBounds_toArray, List.set_cons_zero, List.set_cons_succ]
   refine anyZ_take (i := 15) (v := ?v15) rfl (by kernel_rfl) (by kernel_rfl) (by kernel_rfl) (by kernel_rfl) (fun _ _ _ h => h) (Or.inl ⟨by rfl, ?hy15⟩) hHeld ?rest15
   case hy15 => intro w' hSw; (try dsimp only at hSw); go_simp; (try with_reducible rfl)
   simp only [Act.put, List.setIfInBounds_toArray, List.set_cons_zero, List.set_cons_succ]
   refine anyZ_take (i := 16) (v := ?v16) rfl (by kernel_rfl) (by kernel_rfl) (by kernel_rfl) (by kernel_rfl) (fun _ _ _ h => h) (Or.inl ⟨by rfl, ?hy16⟩) hHeld ?rest16
   case hy16 => intro w' hSw; (try dsimp only at hSw); go_simp; (try with_reducible rfl)
   simp only [Act.put, List.setIfInBounds_toArray, List.set_cons_zero, List.set_cons_succ]
   refine anyZ_one (i := 17) rfl (by kernel_rfl) (fun K0 hK0 => ?_)
   have HK17 := Lib.hid hK0
   clear hK0
   go_simp
   refine HK17.out.out _ _ (fun _ => by first | go_keep | (refine ⟨?_, ?_, ?_, ?_, ?_, ?_⟩ <;> (simp <;> done))) ?_
   clear HK17
   (try simp only [Act.put, List.setIfInBounds_toArray, List.set_cons_zero, List.set_cons_succ])
   refine anyZ_one (i := 18) rfl (by kernel_rfl) (fun K0 hK0 => ?_)
   have HK18 := Lib.hid hK0
   clear hK0
   refine step_put rfl (.tmp 81) (.tmp 83) rfl hi hz0 hz1 hz2 (g := ge) (cap := ec) (k := k) (l := st.ents.take k) (e := e) (x := .int .i64 fi) (q := _) rfl rfl (ownsRow_keep HO.out (fun i hi => (show Fr (fun _ => False) wc _ by repeat (first | exact Fr.refl _ _ | refine Fr.drew ?_ | refine Fr.alloc ?_ _)).block i (HO.out.lt i hi).2 (fun h => h))) (by first | exact block_new _ _ | exact block_new_drew rfl) (by omega) ((show Fr (fun _ => False) wc _ by repeat (first | exact Fr.refl _ _ | refine Fr.drew ?_ | refine Fr.alloc ?_ _)).cell y0 (fun h => h)) HK0.out ?_
   intro b7 c7 w7 hown7 hgrow7 hb7 s2
   have hh7 := block_grown ((show Fr (fun _ => False) wc _ by repeat (first | exact Fr.refl _ _ | refine Fr.drew ?_ | refine Fr.alloc ?_ _)).keep HL4.out.head (fun h => h)) hgrow7 (by intro h; injection h with h; exact hgel h.symm)
   have he7 := block_grown ((show Fr (fun _ => False) wc _ by repeat (first | exact Fr.refl _ _ | refine Fr.drew ?_ | refine Fr.alloc ?_ _)).keep HB4.out (fun h => h)) hgrow7 (by intro h; injection h with h; exact hbge h)
   have s0 := cell_of hh7 (i := 3) (v := .slice (some ⟨ge, 0, none⟩) st.ents.length ec) (by rw [HVE.out]; rfl)
   have s1 := cell_of he7 (i := 0) (v := .int .i64 e.index) rfl
   have s3 := cell_of he7 (i := 1) (v := .int .i64 e.term) rfl
   have s4 := cell_of he7 (i := 2) (v := .int .i64 e.kind) rfl
   have s5 := cell_of he7 (i := 3) (v := .string (bs e.data)) rfl
   have j7 := free_of 3 hh7
   have l7 := lt_of_block hh7
   have hF7 := (Fr.refl (fun k => k = ge) _).grown hgrow7 (fun k hk => by injection hk with hk; exact .inl hk.symm)
   have HG7 := Lib.hid (((show Fr (fun _ => False) wc _ by repeat (first | exact Fr.refl _ _ | refine Fr.drew ?_ | refine Fr.alloc ?_ _)).mono (o2 := fun k => k = ge) fun _ _ h => h.elim).next hF7)
   have HO7 := Lib.hid hown7
   have HB7 := Lib.hid hb7
   have HH7 := Lib.hid hh7
   clear hown7 hgrow7 hb7 hF7 hh7 he7
   have hHeld : (fun w' : World => w'.cell? ⟨lp, 3, none⟩ = some (.slice (some ⟨ge, 0, none⟩) st.ents.length ec) ∧ w'.cell? ⟨w.heap.size, 0, none⟩ = some (.int .i64 e.index) ∧ w'.cell? ⟨ge, 0, none⟩ = some (.int .i64 fi) ∧ w'.cell? ⟨w.heap.size, 1, none⟩ = some (.int .i64 e.term) ∧ w'.cell? ⟨w.heap.size, 2, none⟩ = some (.int .i64 e.kind) ∧ w'.cell? ⟨w.heap.size, 3, none⟩ = some (.string (bs e.data))) w7 := ⟨s0, s1, s2, s3, s4, s5⟩
   refine HK18.out.out _ _ (fun _ => hHeld) ?_
   clear HK18
   (try simp only [Act.put, List.setIfInBounds_toArray, List.set_cons_zero, List.set_cons_succ])
   refine anyZ_one (i := 19) rfl (by kernel_rfl) (fun K1 hK1 => ?_)
   have HK19 := Lib.hid hK1
   clear hK1
   go_simp
   refine HK19.out.out _ _ (fun _ => hHeld) ?_
   clear HK19
   (try simp only [Act.put, List.setIfInBounds_toArray, List.set_cons_zero, List.set_cons_succ])
   refine anyZ_one (i := 20) rfl (by kernel_rfl) (fun K1 hK1 => ?_)
   have HK20 := Lib.hid hK1
   clear hK1
   go_simp
   refine HK20.out.out _ _ (fun _ => hHeld) ?_
   clear HK20
   (try simp only [Act.put, List.setIfInBounds_toArray, List.set_cons_zero, List.set_cons_succ])
   refine anyZ_one (i := 21) rfl (by kernel_rfl) (fun K1 hK1 => ?_)
   have HK21 := Lib.hid hK1
   clear hK1
   go_simp
   refine HK21.out.out _ _ (fun h => absurd rfl h) ?_
   clear HK21
   refine anyZ_done (by kernel_rfl) ?_ _
   refine NoPanic.normal ?_
   go_wp2_with fail
   go_end0
   refine ⟨rfl, ⟨.slice (some ⟨b7, 0, none⟩) (k + 1) c7, ?_⟩, ?_⟩
   ·rw [HT.out]
    rw [← hnl]
    refine HEN.out _ _ ?_
    rw [HP.out]
    have hlen : (st.ents.take k ++ [e]).length = k + 1 := by rw [List.length_append, List.length_take, List.length_singleton]; omega
    have hset := HL4.out.setents (w3 := w7.setCell ⟨lp, 3, none⟩ (.slice (some ⟨b7, 0, none⟩) (k + 1) c7)) (S2 := Plus S w (w7.setCell ⟨lp, 3, none⟩ (.slice (some ⟨b7, 0, none⟩) (k + 1) c7))) (v2 := .slice (some ⟨b7, 0, none⟩) (k + 1) c7) (l := st.ents.take k ++ [e]) (block_set HH7.out 3 _) ?_ ?_ (fun k hk => .inl hk) ?_ ?_
    ·exact hset
    ·rw [hlen]
     refine ownsRow_keep HO7.out (fun i hi => block_set_ne ?_)
     rintro rfl
     exact own_ne HO7.out HH7.out (by decide) hi
    ·intro i hil hi
     rw [block_set_ne hil]
     exact HG7.out.block i (HL4.out.lt i (HL4.out.svs i hi)) (fun hie => rowfar2 HL4.out HVE.out hie hi)
    ·intro i hi
     simp [Value.ownBlock] at hi
     subst hi
     rcases HB7.out with hb | hb
     ·rw [hb]; exact .inl hgeS
     ·refine .inr ⟨?_, ?_⟩
      ·rw [hb]; have := HS.out; simp; omega
      ·have := (HO7.out.lt b7 rfl).2; simpa using this
    ·refine Plus.lt HL.out.lt ?_
     have h1 := HS.out
     have h2 := HG7.out.size
     simp
     omega
   ·have hge : Fr (fun k => k = ge) wc w7 := HG7.out
    exact (HF4.out.next (hge.mono (o2 := S) fun i _ h => by rw [h]; exact hgeS)).setCell (p := ⟨lp, 3, none⟩) (.inl HL.out.slp) _
end Go.Proofs.YtgmghopcppniaaaGreatDoor

/- wal's numbers: walked. -/
namespace Go.Proofs.YtgmghopcppniaaaGreatDoor
open Go.RowKit Go.Lib

def NumsPost (k : Nat) (s : Str) (w : World) (e : Ending) (w' : World) : Prop := match numsK k s with
 | none => e = .returned (.tuple #[.slice none 0 0, .string ⟨#[]⟩, .bool false]) ∧ Fr (fun _ => False) w w'
 | some (l, r) => ∃ v, e = .returned (.tuple #[v, .string (bs r), .bool true]) ∧ w'.ownsRow w.heap.size 3 1 v l.length (l.map (Value.int .i64)) ∧ Fr (fun _ => False) w w'
theorem nums_no {k : Nat} {s : Str} {w w' : World} (h : numsK k s = none) (hf : Fr (fun _ => False) w w') : NumsPost k s w (.returned (.tuple #[.slice none 0 0, .string ⟨#[]⟩, .bool false])) w' := by
 unfold NumsPost; rw [h]; exact ⟨rfl, hf⟩
theorem nums_yes {k : Nat} {s r : Str} {l : List Int} {v : Value} {w w' : World} (h : numsK k s = some (l, r)) (hr : w'.ownsRow w.heap.size 3 1 v l.length (l.map (Value.int .i64))) (hf : Fr (fun _ => False) w w') : NumsPost k s w (.returned (.tuple #[v, .string (bs r), .bool true])) w' := by
 unfold NumsPost; rw [h]; exact ⟨v, rfl, hr, hf⟩
/-- while the numbers are read -/
structure NKRel (w : World) (s : Str) (k j : Nat) (ns : List Int) (rest : Str) (v : Value) (wr : World) : Prop where
 go : numsK k s = (numsK j rest).map fun p => (ns ++ p.1, p.2)
 row : wr.ownsRow w.heap.size 3 1 v ns.length (ns.map (Value.int .i64))
 fr : Fr (fun _ => False) w wr
theorem numsK_none {j : Nat} {s : Str} (h : toIntL s = none) : numsK (j + 1) s = none := by unfold numsK; rw [h]
theorem numsK_neg {j : Nat} {s t : Str} {n : Int} (h : toIntL s = some (n, t)) (hn : n < 0) : numsK (j + 1) s = none := by unfold numsK; rw [h]; dsimp only; rw [if_pos hn]
theorem numsK_more {j : Nat} {s t : Str} {n : Int} (h : toIntL s = some (n, t)) (hn : ¬ n < 0) : numsK (j + 1) s = (numsK j t).map fun p => (n :: p.1, p.2) := by
 conv => lhs; unfold numsK
 rw [h]; dsimp only; rw [if_neg hn]
 cases numsK j t <;> rfl
set_option maxRecDepth 100000 in
set_option maxHeartbeats 8000000 in
theorem numbers_h {w : World} (s : Str) (hs : s.length ≤ 1000000) (k : Nat) (hk : k ≤ 100) : Calls Tryz.prog 181 #[.string (bs s), .int .i64 (k : Int)] w (NumsPost k s w) := by
 obtain ⟨i0, hi, hz0, hz1, hz2⟩ := info_parts info3
 have HR0 : Hid (NKRel w s k k [] s (.slice none 0 0) w) := ⟨by simp, World.ownsRow_nil _ _ _ _, Fr.refl _ _⟩
 go_enter Tryz.func181, Tryz.ntmps181
 go_wp2_with fail
 go_loopg [0, 7, 12] k (fun j v0 v7 v12 wr => ∃ (ns : List Int) (rest : Str), v0 = .string (bs rest) ∧ v12 = .int .i64 (ns.length : Int) ∧ j + ns.length = k ∧ rest.length ≤ 1000000 ∧ Hid (NKRel w s k j ns rest v7 wr))
 case atStart => exact ⟨[], s, rfl, rfl, by simp, hs, HR0.out⟩
 case round =>
  obtain ⟨ns, rest, rfl, rfl, hj, hrl, HL⟩ := hrel
  have HJ := Lib.hid hj
  clear hj HR0
  obtain ⟨sa, sc, rfl⟩ : ∃ a c, u7 = .slice a ns.length c := ownsRow_shape HL.out.row
  by_cases hgo : ns.length < k
  ·have hlti : (ns.length : Int) < (k : Int) := by omega
   obtain ⟨m, rfl⟩ : ∃ m, gk = m + 1 := ⟨gk - 1, by have := HJ.out; omega⟩
   cases ht : toIntL rest with
   | none =>
    have HT := Lib.hid (toInt_none (w := wr) (show rest.length ≤ 10000000 by omega) ht)
    have HE : Hid (numsK k s = none) := by show numsK k s = _; rw [HL.out.go, numsK_none ht]; rfl
    clear ht
    go_wp2_with (go_at_call 113; refine Calls.mono HT.out ?_)
    rintro e w2 ⟨rfl, p, rfl⟩
    go_wp2_with fail
    go_ret3
    exact nums_no HE.out (HL.out.fr.drewN p)
   | some q =>
    obtain ⟨n, t⟩ := q
    have HT := Lib.hid (toInt_some (w := wr) (show rest.length ≤ 10000000 by omega) ht)
    have htl := toInt_less ht
    by_cases hn : n < 0
    ·have HE : Hid (numsK k s = none) := by show numsK k s = _; rw [HL.out.go, numsK_neg ht hn]; rfl
     clear ht
     go_wp2_with (go_at_call 113; refine Calls.mono HT.out ?_)
     rintro e w2 ⟨rfl, p, rfl⟩
     go_wp2_with fail
     go_ret3
     exact nums_no HE.out (HL.out.fr.drewN p)
    ·have HG : Hid (numsK k s = (numsK m t).map fun p => ((ns ++ [n]) ++ p.1, p.2)) := by
      show numsK k s = _
      rw [HL.out.go, numsK_more ht hn]
      cases numsK m t <;> simp
     have hdn : decide (n < 0) = false := decide_eq_false hn
     clear ht
     go_wp2_with (go_at_call 113; refine Calls.mono HT.out ?_)
     rintro e w2 rfl p rfl
     have hown : (wr.drewN p).ownsRow w.heap.size 3 1 (.slice sa ns.length sc) ns.length (ns.map (Value.int .i64)) := HL.out.row
     go_wp2_with (at_builtin; refine wpList_append_shape rfl _ _ 22 rfl w.heap.size 3 i0 (.int .i64 0) 1 8 Tryz.underlying22 hi hz0 hz1 hz2 rfl (by decide) _ _ _ rfl (hown.alloc _) ⟨wr.heap.size, 0, none⟩ 1 1 [.int .i64 n] rfl rfl ?c1 ?c2 ?c3 ?c4 ?c5 (by omega) ?_)
     case c1 =>
      intro j u hj
      match j, hj with
      | 0, hj => simp at hj; subst hj; simp [Addr.add]; exact cell_of (block_new (wr.drewN p) (.cells #[.int .i64 n] 3)) rfl
     case c2 => intro u hu; simp at hu; subst hu; rfl
     case c3 => unfold maxLen; omega
     case c4 => omega
     case c5 => have := HL.out.fr.size; simp; omega
     intro g cap w3 hown3 hg3 _
     have hfr3 : Fr (fun _ => False) w w3 := ((HL.out.fr.drewN p).alloc (.cells #[.int .i64 n] 3)).grown hg3 fun k hk => .inr (HL.out.row.lt k hk).1
     have HR3 : Hid (NKRel w s k m (ns ++ [n]) t (.slice (some ⟨g, 0, none⟩) (ns ++ [n]).length cap) w3) := ⟨HG.out, by rw [List.length_append, List.map_append]; exact hown3, hfr3⟩
     rw [List.length_append, List.length_singleton] at HR3
     clear hown3 hg3 hfr3 hown
     go_wp2_with fail
     go_roundg m
     case measure => omega
     case rel => exact ⟨ns ++ [n], t, rfl, by rw [List.length_append, List.length_singleton]; go_num, by rw [List.length_append, List.length_singleton]; have := HJ.out; omega, by omega, HR3⟩
  ·obtain rfl : gk = 0 := by have := HJ.out; omega
   have hgoi : ¬ (ns.length : Int) < (k : Int) := by omega
   have HE : Hid (numsK k s = some (ns, rest)) := by show numsK k s = _; rw [HL.out.go]; show some _ = _; simp
   go_wp2_with fail
   go_ret3
   exact nums_yes HE.out HL.out.row HL.out.fr
end Go.Proofs.YtgmghopcppniaaaGreatDoor

/- wal's take: walked. -/
namespace Go.Proofs.YtgmghopcppniaaaGreatDoor
open Go.RowKit Go.Lib

theorem numbers_no_h {w : World} {s : Str} (hs : s.length ≤ 1000000) {k : Nat} (hk : k ≤ 100) (h : numsK k s = none) : Calls Tryz.prog 181 #[.string (bs s), .int .i64 (k : Int)] w fun e w' => e = .returned (.tuple #[.slice none 0 0, .string ⟨#[]⟩, .bool false]) ∧ Fr (fun _ => False) w w' := by
 refine (numbers_h s hs k hk).mono ?_
 intro e w' hp
 unfold NumsPost at hp
 rw [h] at hp
 exact hp
theorem numbers_yes_h {w : World} {s r : Str} {l : List Int} (hs : s.length ≤ 1000000) {k : Nat} (hk : k ≤ 100) (hk0 : 0 < k) (h : numsK k s = some (l, r)) : Calls Tryz.prog 181 #[.string (bs s), .int .i64 (k : Int)] w fun e w' => ∃ g c, e = .returned (.tuple #[.slice (some ⟨g, 0, none⟩) k c, .string (bs r), .bool true]) ∧ (∀ i n, l[i]? = some n → w'.cell? ⟨g, i, none⟩ = some (.int .i64 n)) ∧ g < w'.heap.size ∧ w.heap.size ≤ g ∧ Fr (fun _ => False) w w' := by
 refine (numbers_h s hs k hk).mono ?_
 intro e w' hp
 unfold NumsPost at hp
 rw [h] at hp
 obtain ⟨v, rfl, hr, hf⟩ := hp
 have hl := (numsK_back k s h).2.1
 obtain ⟨g, c, rfl, hg, _, _⟩ := ownsRow_form hr (by omega)
 refine ⟨g, c, by rw [hl], fun i n hi => ownsRow_cell hr (by rw [List.getElem?_map, hi]; rfl), (hr.lt g rfl).2, hg, hf⟩
theorem totext_h {w : World} {s d r : Str} {b : Bool} (hs : s.length ≤ 1000000) (h : toTextD s = ((d, r), b)) : Calls Tryz.prog 182 #[.string (bs s)] w fun e w' => e = .returned (.tuple #[.string (bs d), .string (bs r), .bool b]) ∧ Fr (fun _ => False) w w' := by
 refine (toText_h s (by omega)).mono ?_
 rintro e w' ⟨rfl, hf⟩
 exact ⟨by rw [h], hf⟩
theorem wright_to {w : World} {e : EntD} {b : Bool} (h : rightE e = b) : Calls Tryz.prog 106 #[.agg #[.int .i64 e.index, .int .i64 e.term, .int .i64 e.kind, .string (bs e.data)]] w fun r w' => r = .returned (.bool b) ∧ Fr (fun _ => False) w w' := by
 rw [← h]; exact wright_h e
theorem LogAt.sethard {w : World} {S : Nat → Prop} {lp : Nat} {dv ve vs : Value} {st : StD} {segs : List SegD} (h : LogAt w S lp dv ve vs st segs) (t v : Int) :
  LogAt ((w.setCell ⟨lp, 1, none⟩ (.int .i64 t)).setCell ⟨lp, 2, none⟩ (.int .i64 v)) S lp dv ve vs { st with t := t, v := v } segs := by
 refine ⟨block_set (block_set h.head 1 _) 2 _, ownsRow_keep h.ents (fun k hk => ?_), ownsRow_keep h.segr (fun k hk => ?_), h.slp, h.sve, h.svs, fun k hk => by simp; exact h.lt k hk⟩
 ·have : k ≠ lp := fun e => own_ne h.ents h.head (by decide) (by rw [← e]; exact hk)
  rw [block_set_ne this, block_set_ne this]
 ·have : k ≠ lp := fun e => own_ne h.segr h.head (by decide) (by rw [← e]; exact hk)
  rw [block_set_ne this, block_set_ne this]
def TakePost (s : Str) (S : Nat → Prop) (lp : Nat) (dv vs : Value) (st : StD) (pre : List SegD) (last : SegD) (w : World) (e : Ending) (w' : World) : Prop := match recL s with
 | none => e = .returned (.bool false) ∧ Fr (fun _ => False) w w'
 | some r => e = .returned (.bool true) ∧ (∃ ve', LogAt w' (Plus S w w') lp dv ve' vs (stepS st r) (pre ++ [{ last with top := topR last.top r }])) ∧ Fr S w w'
section
variable {s : Str} {S : Nat → Prop} {lp : Nat} {dv vs : Value} {st : StD} {pre : List SegD} {last : SegD} {w w' : World}
theorem take_none (h : recL s = none) (hf : Fr (fun _ => False) w w') : TakePost s S lp dv vs st pre last w (.returned (.bool false)) w' := by unfold TakePost; rw [h]; exact ⟨rfl, hf⟩
theorem take_some {r : RecD} (h : recL s = some r) (hl : ∃ ve', LogAt w' (Plus S w w') lp dv ve' vs (stepS st r) (pre ++ [{ last with top := topR last.top r }])) (hf : Fr S w w') : TakePost s S lp dv vs st pre last w (.returned (.bool true)) w' := by unfold TakePost; rw [h]; exact ⟨rfl, hl, hf⟩
end
set_option maxRecDepth 100000 in
set_option maxHeartbeats 16000000 in
theorem take_h {w : World} {S : Nat → Prop} {lp : Nat} {dv ve vs : Value} {st : StD} {pre : List SegD} {last : SegD} (s : Str) (hs : s.length ≤ 1000000) (h : LogAt w S lp dv ve vs st (pre ++ [last])) (hr : RunE st.ents) (hl : st.ents.length ≤ 1000000) (hp : pre.length ≤ 1000000) (htop : I64 last.top) :
  Calls Tryz.prog 136 #[.pointer (some ⟨lp, 0, none⟩), .string (bs s)] w (TakePost s S lp dv vs st pre last w) := by
 have HL := Lib.hid h
 have HRU := Lib.hid hr
 have HTP := Lib.hid htop
 clear h hr htop
 cases ht : toIntL s with
 | none =>
  have HT := Lib.hid (toInt_none (w := w) (show s.length ≤ 10000000 by omega) ht)
  have HE := Lib.hid (show recL s = none by unfold recL; rw [ht])
  clear ht
  go_enter Tryz.func136, Tryz.ntmps136
  go_wp2_with fail
  refine Calls.mono HT.out ?_
  rintro e w2 ⟨rfl, p, rfl⟩
  go_wp2_with fail
  go_ret
  exact take_none HE.out ((Fr.refl _ _).drewN p)
 | some q =>
  obtain ⟨k, r⟩ := q
  have hrl : r.length ≤ 1000000 := by have := toInt_less ht; omega
  have HT := Lib.hid (toInt_some (w := w) (show s.length ≤ 10000000 by omega) ht)
  have HRE := Lib.hid (show recL s = if k = 1 then hardOf r else if k = 2 then entOf r else if k = 3 ∧ r = [] then some .reset else none by unfold recL; rw [ht])
  clear ht
  have HF2 := Lib.hid (fun (p : Nat) => (Fr.refl (fun _ => False) w).drewN p)
  by_cases h1 : k = 1
  ·subst h1
   have HRE1 := Lib.hid (HRE.out.trans (if_pos rfl))
   clear HRE
   cases hn : numsK 2 r with
   | none =>
    have HN := Lib.hid (fun (W : World) => numbers_no_h (w := W) hrl (by decide) hn)
    have HE : Hid (recL s = none) := by show recL s = _; rw [HRE1.out]; unfold hardOf; rw [hn]
    clear hn
    go_enter Tryz.func136, Tryz.ntmps136
    go_wp2_with fail
    refine Calls.mono HT.out ?_
    rintro e w2 ⟨rfl, p, rfl⟩
    go_wp2_with fail
    refine Calls.mono (HN.out _) ?_
    rintro e w3 ⟨rfl, hf⟩
    have HF3 := Lib.hid ((HF2.out p).next hf)
    clear hf
    go_wp2_with fail
    go_ret
    exact take_none HE.out HF3.out
   | some q2 =>
    obtain ⟨l, q⟩ := q2
    obtain ⟨hq1, hq2, hq3⟩ := numsK_back 2 r hn
    have HN := Lib.hid (fun (W : World) => numbers_yes_h (w := W) hrl (by decide) (by decide) hn)
    obtain ⟨t, v, rfl⟩ : ∃ t v, l = [t, v] := by match l, hq2 with | [t, v], _ => exact ⟨t, v, rfl⟩
    by_cases hq : q = []
    ·have t1 : ((bs q).toList != []) = false := by rw [bs_toList, hq]; rfl
     have t2 : (bs q).toList = [] := by rw [bs_toList, hq]
     have t3 : (bs q).toList.isEmpty = true := by rw [bs_toList, hq]; rfl
     have HE : Hid (recL s = some (.hard t v)) := by show recL s = _; rw [HRE1.out]; unfold hardOf; rw [hn, hq]
     clear hn hq hq1 hq2 hq3
     go_enter Tryz.func136, Tryz.ntmps136
     go_wp2_with fail
     refine Calls.mono HT.out ?_
     rintro e w2 ⟨rfl, p, rfl⟩
     go_wp2_with fail
     refine Calls.mono (HN.out _) ?_
     rintro e w3 ⟨g, c, rfl, hc, hg1, hg2, hf⟩
     have HF3 := Lib.hid ((HF2.out p).next hf)
     have HL3 := Lib.hid (HL.out.quiet HF3.out)
     have c0 := hc 0 t rfl
     have c1 := hc 1 v rfl
     have hh := HL3.out.head
     have f1 := free_of 1 hh
     have f2 := free_of 2 hh
     have ml := lt_of_block hh
     have hh1 := block_set hh 1 (.int .i64 t)
     have f21 := free_of 2 hh1
     have f22 : (w3.setCell ⟨lp, 1, none⟩ (.int .i64 t)).drew.frozen? ⟨lp, 2, none⟩ = false := f21
     have m21 := cell_of hh1 (i := 2) (v := .int .i64 st.v) rfl
     have m22 : (w3.setCell ⟨lp, 1, none⟩ (.int .i64 t)).drew.cell? ⟨lp, 2, none⟩ = some (.int .i64 st.v) := m21
     have m1 := cell_of hh (i := 1) (v := .int .i64 st.t) rfl
     have m2 := cell_of hh (i := 2) (v := .int .i64 st.v) rfl
     clear hc hf hg1 hg2 hh hh1
     go_upto_region 8 with fail
     go_still_tail 10, (by kernel_rfl)
     go_wp2_with fail
     go_ret
     refine take_some HE.out ⟨ve, ?_⟩ ?_
     ·have hk := (HL3.out.sethard t v).mono (S' := Plus S w (((w3.setCell ⟨lp, 1, none⟩ (.int .i64 t)).setCell ⟨lp, 2, none⟩ (.int .i64 v)))) (fun k hk => .inl hk) (Plus.lt HL.out.lt (by simp; exact HF3.out.size))
      exact hk.quiet (Fr.refl _ _).drew
     ·exact ((((HF3.out.mono (o2 := S) fun _ _ h => h.elim).setCell (p := ⟨lp, 1, none⟩) (.inl HL.out.slp) _).setCell (p := ⟨lp, 2, none⟩) (.inl HL.out.slp) _)).drew
    ·have t1 : ((bs q).toList != []) = true := by rw [bs_toList]; simpa using hq
     have t2 : ¬ (bs q).toList = [] := by rw [bs_toList]; exact hq
     have t3 : (bs q).toList.isEmpty = false := by rw [bs_toList]; simpa using hq
     have HE : Hid (recL s = none) := by
      show recL s = _; rw [HRE1.out]; unfold hardOf; rw [hn]
      cases q with
      | nil => exact absurd rfl hq
      | cons a q => rfl
     clear hn hq hq1 hq2 hq3
     go_enter Tryz.func136, Tryz.ntmps136
     go_wp2_with fail
     refine Calls.mono HT.out ?_
     rintro e w2 ⟨rfl, p, rfl⟩
     go_wp2_with fail
     refine Calls.mono (HN.out _) ?_
     rintro e w3 ⟨g, c, rfl, hc, hg1, hg2, hf⟩
     have HF3 := Lib.hid ((HF2.out p).next hf)
     clear hc hf hg1 hg2
     go_wp2_with fail
     go_ret
     exact take_none HE.out HF3.out
  ·have n1 : (k == 1) = false := by simpa using h1
   have n1d : decide (k = 1) = false := by simpa using h1
   have HRE1 := Lib.hid (HRE.out.trans (if_neg h1))
   clear HRE h1
   by_cases h2 : k = 2
   ·subst h2
    clear n1 n1d
    have HRE2 := Lib.hid (HRE1.out.trans (if_pos rfl))
    clear HRE1
    cases hn : numsK 3 r with
    | none =>
     have HN := Lib.hid (fun (W : World) => numbers_no_h (w := W) hrl (by decide) hn)
     have HE : Hid (recL s = none) := by show recL s = _; rw [HRE2.out]; unfold entOf; rw [hn]
     clear hn
     go_enter Tryz.func136, Tryz.ntmps136
     go_wp2_with fail
     refine Calls.mono HT.out ?_
     rintro e w2 ⟨rfl, p, rfl⟩
     go_wp2_with fail
     refine Calls.mono (HN.out _) ?_
     rintro e w3 ⟨rfl, hf⟩
     have HF3 := Lib.hid ((HF2.out p).next hf)
     clear hf
     go_wp2_with fail
     go_ret
     exact take_none HE.out HF3.out
    | some q2 =>
     obtain ⟨l, q⟩ := q2
     obtain ⟨hq1, hq2, hq3⟩ := numsK_back 3 r hn
     have hql : q.length ≤ 1000000 := by rw [hq1, List.length_append] at hrl; omega
     have HN := Lib.hid (fun (W : World) => numbers_yes_h (w := W) hrl (by decide) (by decide) hn)
     obtain ⟨i, t, kd, rfl⟩ : ∃ i t k, l = [i, t, k] := by match l, hq2 with | [i, t, k], _ => exact ⟨i, t, k, rfl⟩
     cases htx : toTextL q with
     | none =>
      have HX := Lib.hid (fun (W : World) => totext_h (w := W) (b := false) (d := []) (r := []) hql (by unfold toTextD; rw [htx]))
      have HE : Hid (recL s = none) := by show recL s = _; rw [HRE2.out]; unfold entOf; rw [hn]; dsimp only; rw [htx]
      clear hn htx hq1 hq2 hq3
      go_enter Tryz.func136, Tryz.ntmps136
      go_wp2_with fail
      refine Calls.mono HT.out ?_
      rintro e w2 ⟨rfl, p, rfl⟩
      go_wp2_with fail
      refine Calls.mono (HN.out _) ?_
      rintro e w3 ⟨g, c, rfl, hc, hg1, hg2, hf⟩
      have HF3 := Lib.hid ((HF2.out p).next hf)
      clear hc hf hg1 hg2
      go_wp2_with fail
      refine Calls.mono (HX.out _) ?_
      rintro e w4 ⟨rfl, hf⟩
      have HF4 := Lib.hid (HF3.out.next hf)
      clear hf
      go_wp2_with fail
      go_ret
      exact take_none HE.out HF4.out
     | some q3 =>
      obtain ⟨d, u⟩ := q3
      have HX := Lib.hid (fun (W : World) => totext_h (w := W) (b := true) (d := d) (r := u) hql (by unfold toTextD; rw [htx]))
      by_cases hu : u = []
      ·have t1 : ((bs u).toList != []) = false := by rw [bs_toList, hu]; rfl
       have t2 : (bs u).toList = [] := by rw [bs_toList, hu]
       have t3 : (bs u).toList.isEmpty = true := by rw [bs_toList, hu]; rfl
       obtain ⟨en, hen⟩ : ∃ en : EntD, en = ⟨i, t, kd, d⟩ := ⟨_, rfl⟩
       have HE0 : Hid (recL s = if rightE en = true then some (.ent en) else none) := by show recL s = _; rw [HRE2.out, hen]; unfold entOf; rw [hn]; dsimp only; rw [htx, hu]
       have hei : i = en.index := by rw [hen]
       have het : t = en.term := by rw [hen]
       have hek : kd = en.kind := by rw [hen]
       have hed : d = en.data := by rw [hen]
       obtain ⟨b, hb⟩ : ∃ b, rightE en = b := ⟨_, rfl⟩
       have HW := Lib.hid (fun (W : World) => wright_to (w := W) hb)
       have HGE : Hid (b = true → GoodE en) := fun hbt => by
        have h3 := toText_back htx
        exact ⟨by rw [hb]; exact hbt, by rw [hen]; exact (hq3 i (by simp)).1, by rw [hen]; exact (hq3 t (by simp)).1, by rw [hen]; exact (hq3 kd (by simp)).1, by rw [hen]; exact h3.2⟩
       rw [hb] at HE0
       clear hn htx hu hq1 hq2 hq3 hen hb
       subst hei; subst het; subst hek; subst hed
       go_enter Tryz.func136, Tryz.ntmps136
       go_wp2_with fail
       refine Calls.mono HT.out ?_
       rintro e w2 ⟨rfl, p, rfl⟩
       go_wp2_with fail
       refine Calls.mono (HN.out _) ?_
       rintro e w3 ⟨g, c, rfl, hc, hg1, hg2, hf⟩
       have HF3 := Lib.hid ((HF2.out p).next hf)
       have HC3 := Lib.hid hc
       clear hc hf hg2
       go_wp2_with fail
       refine Calls.mono (HX.out _) ?_
       rintro e w4 ⟨rfl, hf⟩
       have HF4 := Lib.hid (HF3.out.next hf)
       have c0 := hf.cell (HC3.out 0 en.index rfl) (fun h => h)
       have c1 := hf.cell (HC3.out 1 en.term rfl) (fun h => h)
       have c2 := hf.cell (HC3.out 2 en.kind rfl) (fun h => h)
       have hg4 : g < w4.heap.size := Nat.lt_of_lt_of_le hg1 hf.size
       clear hf
       go_upto_region 17 with fail
       go_cut [15] (fun s15 wx => s15 = .pointer (some ⟨w4.heap.size, 0, none⟩) ∧ wx.heap[w4.heap.size]? = some (.cells #[.int .i64 en.index, .int .i64 en.term, .int .i64 en.kind, .string (bs en.data)] 95 (0, 0)) ∧ Fr (fun _ => False) w4 wx)
       case first =>
        go_region_held3 (fun w' => w'.cell? ⟨g, 0, none⟩ = some (.int .i64 en.index) ∧ w'.cell? ⟨g, 1, none⟩ = some (.int .i64 en.term) ∧ w'.cell? ⟨g, 2, none⟩ = some (.int .i64 en.kind))
         (first | go_keep | fail)
         (fail)
        all_goals
         go_wp2_with fail
         go_meet
         exact ⟨rfl, block_new _ _, ((Fr.refl _ _).alloc _).drew⟩
       case rest =>
       obtain ⟨rfl, hk, hf5⟩ := hcut
       have HF5 := Lib.hid (HF4.out.next hf5)
       have k0 := cell_of hk (i := 0) (v := .int .i64 en.index) rfl
       have k1 := cell_of hk (i := 1) (v := .int .i64 en.term) rfl
       have k2 := cell_of hk (i := 2) (v := .int .i64 en.kind) rfl
       have k3 := cell_of hk (i := 3) (v := .string (bs en.data)) rfl
       have HK := Lib.hid hk
       clear c0 c1 c2 hf5 hk
       go_wp2_with fail
       refine Calls.mono (HW.out _) ?_
       rintro e w6 ⟨rfl, hf6⟩
       have HF6 := Lib.hid (HF5.out.next hf6)
       have hk6 := hf6.keep HK.out (fun h => h)
       clear k0 k1 k2 k3 hf6
       cases b with
       | false =>
        have HE := Lib.hid (HE0.out.trans (if_neg (by simp)))
        clear hk6
        go_wp2_with fail
        go_ret
        exact take_none HE.out HF6.out
       | true =>
        have HE := Lib.hid (HE0.out.trans (if_pos rfl))
        have k0 := cell_of hk6 (i := 0) (v := .int .i64 en.index) rfl
        have k1 := cell_of hk6 (i := 1) (v := .int .i64 en.term) rfl
        have k2 := cell_of hk6 (i := 2) (v := .int .i64 en.kind) rfl
        have k3 := cell_of hk6 (i := 3) (v := .string (bs en.data)) rfl
        have HPT := Lib.hid (put_h (HL.out.quiet HF6.out) HRU.out (HGE.out rfl) hl hp HTP.out)
        unfold entV at HPT
        clear hk6
        go_wp2_with fail
        refine Calls.mono HPT.out ?_
        rintro e w7 ⟨rfl, ⟨ve', hl7⟩, hf7⟩
        have HF7 := Lib.hid ((HF6.out.mono (o2 := S) fun _ _ h => h.elim).next hf7)
        have HL7 := Lib.hid (hl7.mono (S' := Plus S w w7) (fun k hk => by rcases hk with hk | hk; exact .inl hk; exact .inr ⟨Nat.le_trans HF6.out.size hk.1, hk.2⟩) (Plus.lt HL.out.lt (Nat.le_trans HF6.out.size hf7.size)))
        clear hl7 hf7
        go_wp2_with fail
        go_ret
        exact take_some HE.out ⟨ve', HL7.out⟩ HF7.out
      ·have t1 : ((bs u).toList != []) = true := by rw [bs_toList]; simpa using hu
       have t2 : ¬ (bs u).toList = [] := by rw [bs_toList]; exact hu
       have t3 : (bs u).toList.isEmpty = false := by rw [bs_toList]; simpa using hu
       have HE : Hid (recL s = none) := by
        show recL s = _; rw [HRE2.out]; unfold entOf; rw [hn]; dsimp only; rw [htx]
        cases u with
        | nil => exact absurd rfl hu
        | cons a u => rfl
       clear hn htx hu hq1 hq2 hq3
       go_enter Tryz.func136, Tryz.ntmps136
       go_wp2_with fail
       refine Calls.mono HT.out ?_
       rintro e w2 ⟨rfl, p, rfl⟩
       go_wp2_with fail
       refine Calls.mono (HN.out _) ?_
       rintro e w3 ⟨g, c, rfl, hc, hg1, hg2, hf⟩
       have HF3 := Lib.hid ((HF2.out p).next hf)
       clear hc hf hg1 hg2
       go_wp2_with fail
       refine Calls.mono (HX.out _) ?_
       rintro e w4 ⟨rfl, hf⟩
       have HF4 := Lib.hid (HF3.out.next hf)
       clear hf
       go_wp2_with fail
       go_ret
       exact take_none HE.out HF4.out
   ·have n2 : (k == 2) = false := by simpa using h2
    have n2d : decide (k = 2) = false := by simpa using h2
    have HRE2 := Lib.hid (HRE1.out.trans (if_neg h2))
    clear HRE1 h2
    by_cases h3 : k = 3
    ·subst h3
     clear n1 n1d n2 n2d
     by_cases hq : r = []
     ·have t1 : ((bs r).toList != []) = false := by rw [bs_toList, hq]; rfl
      have t2 : (bs r).toList = [] := by rw [bs_toList, hq]
      have t3 : (bs r).toList.isEmpty = true := by rw [bs_toList, hq]; rfl
      have HE := Lib.hid (HRE2.out.trans (if_pos ⟨rfl, hq⟩))
      clear hq
      go_enter Tryz.func136, Tryz.ntmps136
      go_wp2_with fail
      refine Calls.mono HT.out ?_
      rintro e w2 ⟨rfl, p, rfl⟩
      have HL2 := Lib.hid (HL.out.quiet (HF2.out p))
      have hh : w.heap[lp]? = _ := HL2.out.head
      have f3 := free_of 3 hh
      have m3 := cell_of hh (i := 3) (v := ve) rfl
      have ml := lt_of_block hh
      clear hh
      go_wp2_with fail
      go_ret
      have hset := HL2.out.setents (w3 := (w.drewN p).setCell ⟨lp, 3, none⟩ (.slice none 0 0)) (S2 := Plus S w ((w.drewN p).setCell ⟨lp, 3, none⟩ (.slice none 0 0))) (v2 := .slice none 0 0) (l := []) (block_set HL2.out.head 3 _) (World.ownsRow_nil _ _ _ _) (fun k hk _ => block_set_ne hk) (fun k hk => .inl hk) (fun k hk => by simp [Value.ownBlock] at hk) (Plus.lt HL.out.lt (by simp))
      refine take_some HE.out ⟨.slice none 0 0, ?_⟩ ?_
      ·exact hset
      ·exact (((HF2.out p).mono (o2 := S) fun _ _ h => h.elim).setCell (p := ⟨lp, 3, none⟩) (.inl HL.out.slp) _)
     ·have t1 : ((bs r).toList != []) = true := by rw [bs_toList]; simpa using hq
      have t2 : ¬ (bs r).toList = [] := by rw [bs_toList]; exact hq
      have t3 : (bs r).toList.isEmpty = false := by rw [bs_toList]; simpa using hq
      have HE := Lib.hid (HRE2.out.trans (if_neg (fun h => hq h.2)))
      clear hq
      go_enter Tryz.func136, Tryz.ntmps136
      go_wp2_with fail
      refine Calls.mono HT.out ?_
      rintro e w2 ⟨rfl, p, rfl⟩
      go_wp2_with fail
      go_ret
      exact take_none HE.out (HF2.out p)
    ·have n3 : (k == 3) = false := by simpa using h3
     have n3d : decide (k = 3) = false := by simpa using h3
     have HE := Lib.hid (HRE2.out.trans (if_neg (fun h => h3 h.1)))
     have n3p : ¬ k = 3 := h3
     clear h3
     go_enter Tryz.func136, Tryz.ntmps136
     go_wp2_with fail
     refine Calls.mono HT.out ?_
     rintro e w2 ⟨rfl, p, rfl⟩
     go_wp2_with fail
     go_ret
     exact take_none HE.out (HF2.out p)
end Go.Proofs.YtgmghopcppniaaaGreatDoor
