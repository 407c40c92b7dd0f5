/- byteStringReplacer.Replace. -/
import Derived.Test.YtpinjgdnhbogoaaGreatDoorE5
import Derived.Test.YtpinjgdnhbogoaaGreatDoorShelf
import Derived.BigQuiet
import Derived.IntWalk
import Derived.Deep.DeepCutAuto
import Derived.Deep.CutBlock
import Derived.StillTailTactics
import Derived.Shelf.Spec.SlicesInsert
namespace Go.Proofs.YtpinjgdnhbogoaaGreatDoor
open Go.RowKit Go.Lib

theorem take_more (s : Str) (i : Nat) (h : i < s.length) : s.take (i + 1) = s.take i ++ [s.getD i 0] := by
  rw [List.take_add_one, List.getD_eq_getElem?_getD, List.getElem?_eq_getElem h]; rfl
theorem esc_le (s : Str) : (escL s).length ≤ 6 * s.length := by have := esc_longer s; have := longer_le s; omega

theorem slot_cell {w : World} {B bb : Nat} {C : Array Value} {c : UInt8} (hb : w.heap[bb]? = some (.cells C 224 (0, 0))) (hs : slotOK w B C[c.toNat]? (repF 0 c)) :
    (repF 0 c = none ∧ w.cell? ⟨bb, c.toNat, none⟩ = some (.slice none 0 0)) ∨ ∃ l g cap, repF 0 c = some l ∧ w.cell? ⟨bb, c.toNat, none⟩ = some (.slice (some ⟨g, 0, none⟩) l.length cap) ∧ BytesBlk w g l ∧ B ≤ g := by
  unfold slotOK at hs
  cases h : repF 0 c with
  | none => rw [h] at hs; exact .inl ⟨rfl, cell_of hb hs⟩
  | some l =>
    rw [h] at hs
    obtain ⟨g, cap, h1, h2, h3⟩ := hs
    exact .inr ⟨l, g, cap, rfl, cell_of hb h1, h3, h2⟩
theorem add0 (g j : Nat) : (⟨g, 0, none⟩ : Addr).add j = ⟨g, j, none⟩ := by unfold Addr.add; split <;> simp_all
theorem Fr.setRow {o : Nat → Prop} {a b : World} (h : Fr o a b) {g : Nat} (hg : o g ∨ a.heap.size ≤ g) (cs : Array Value) : Fr o a (b.setRow g cs) := by
  refine ⟨h.os, h.tape, h.output, ?_, fun k hk hno => ?_⟩
  · show a.heap.size ≤ (b.heap.modify g _).size
    rw [Array.size_modify]; exact h.size
  · have hne : g ≠ k := fun e => by subst e; rcases hg with h1 | h1; exact hno h1; omega
    show (b.heap.modify g _)[k]? = _
    rw [Array.getElem?_modify, if_neg hne]; exact h.block k hk hno
structure BufTo (w1 : World) (s : Str) (N i q : Nat) (wr : World) : Prop where
  here : q = (escL (s.take i)).length
  blk : ∃ cur, wr.heap[w1.heap.size]? = some (.cells cur 5 (0, 0)) ∧ cur.size = N ∧ ∀ t, t < q → cur[t]? = some (.int .u8 (((escL s).getD t 0).toNat : Int))
  fr : Fr (fun _ => False) w1 wr
theorem esc_split (s : Str) (i : Nat) (h : i < s.length) : escL s = escL (s.take i) ++ (escC (s.getD i 0) ++ escL (s.drop (i + 1))) := by
  have e : s = s.take i ++ (s.getD i 0 :: s.drop (i + 1)) := by
    rw [List.getD_eq_getElem?_getD, List.getElem?_eq_getElem h]
    simp
  conv => lhs; rw [e]
  rw [escL_append, escL_cons]
theorem esc_next (s : Str) (i : Nat) (h : i < s.length) : (escL (s.take (i + 1))).length = (escL (s.take i)).length + (escC (s.getD i 0)).length := by
  rw [take_more s i h, escL_append, List.length_append]; simp [escL]
theorem esc_get (s : Str) (i : Nat) (h : i < s.length) (t : Nat) (ht : t < (escC (s.getD i 0)).length) : (escL s).getD ((escL (s.take i)).length + t) 0 = (escC (s.getD i 0)).getD t 0 := by
  generalize hx : escC (s.getD i 0) = x at ht ⊢
  rw [esc_split s i h, hx, List.getD_eq_getElem?_getD, List.getElem?_append_right (by omega), Nat.add_sub_cancel_left, List.getElem?_append_left ht, List.getD_eq_getElem?_getD]
theorem esc_room (s : Str) (i : Nat) (h : i < s.length) : (escL (s.take i)).length + (escC (s.getD i 0)).length ≤ (escL s).length := by
  conv => rhs; rw [esc_split s i h]
  simp only [List.length_append]; omega
theorem BufTo.byte {w1 wr : World} {s : Str} {N i q : Nat} {c : UInt8} (h : BufTo w1 s N i q wr) (hN : N = (escL s).length) (hi : i < s.length) (hc : s.getD i 0 = c) (hr : repF 0 c = none) :
    q < N ∧ BufTo w1 s N (i + 1) (q + 1) (wr.setCell ⟨w1.heap.size, q, none⟩ (.int .u8 (c.toNat : Int))) := by
  obtain ⟨h1, ⟨cur, h2, h3, h4⟩, h5⟩ := h
  have e1 : escC c = [c] := by rw [esc_rep, hr]
  have hroom := esc_room s i hi
  have hnext := esc_next s i hi
  have hget := esc_get s i hi 0
  rw [hc, e1] at hroom hnext hget
  simp only [List.length_singleton, Nat.add_zero] at hroom hnext hget
  have hq : q < N := by omega
  refine ⟨hq, by omega, ⟨_, block_set h2 q _, by rw [Array.size_setIfInBounds]; exact h3, fun t ht => ?_⟩, h5.setCell (p := ⟨w1.heap.size, q, none⟩) (.inr (Nat.le_refl _)) _⟩
  by_cases e : t = q
  · subst e
    rw [Array.getElem?_setIfInBounds_self_of_lt (by omega), h1, hget (by omega)]; rfl
  · rw [Array.getElem?_setIfInBounds_ne (fun e2 => e e2.symm)]; exact h4 t (by omega)
def u8s (l : Str) : List Value := l.map fun c => .int .u8 (c.toNat : Int)
theorem BufTo.text {w1 wr : World} {s : Str} {N i q : Nat} {c : UInt8} {l : Str} (h : BufTo w1 s N i q wr) (hN : N = (escL s).length) (hi : i < s.length) (hc : s.getD i 0 = c) (hr : repF 0 c = some l) :
    q + l.length ≤ N ∧ ∃ cur, wr.heap[w1.heap.size]? = some (.cells cur 5 (0, 0)) ∧ cur.size = N ∧ ∀ W : World, W.heap = wr.heap → Fr (fun _ => False) wr W → BufTo w1 s N (i + 1) (q + l.length) (W.setRow w1.heap.size (cur.toList.take q ++ u8s l ++ cur.toList.drop (q + (u8s l).length)).toArray) := by
  obtain ⟨h1, ⟨cur, h2, h3, h4⟩, h5⟩ := h
  have e1 : escC c = l := by rw [esc_rep, hr]
  have hroom := esc_room s i hi
  have hnext := esc_next s i hi
  have hget := esc_get s i hi
  rw [hc, e1] at hroom hnext hget
  have hu : (u8s l).length = l.length := by unfold u8s; rw [List.length_map]
  have hq : q + l.length ≤ N := by omega
  have hl0 : (cur.toList.take q).length = q := by rw [List.length_take]; simp; omega
  refine ⟨hq, cur, h2, h3, fun W hW hFW => ⟨by omega, ⟨_, setRow_heap W _ cur _ 5 (0, 0) (by rw [hW]; exact h2), ?_, fun t ht => ?_⟩, (h5.next hFW).setRow (.inr (Nat.le_refl _)) _⟩⟩
  · simp only [List.size_toArray, List.length_append, hl0, hu, List.length_drop, Array.length_toList]; omega
  · simp only [List.getElem?_toArray]
    by_cases e : t < q
    · rw [List.append_assoc, List.getElem?_append_left (by omega), List.getElem?_take, if_pos e, Array.getElem?_toList]; exact h4 t e
    · rw [List.append_assoc, List.getElem?_append_right (by omega), hl0, List.getElem?_append_left (by omega)]
      have hg := hget (t - q) (by omega)
      rw [← h1, show q + (t - q) = t by omega] at hg
      rw [hg]
      unfold u8s
      rw [List.getElem?_map, List.getD_eq_getElem?_getD, List.getElem?_eq_getElem (by omega)]; rfl
set_option maxRecDepth 100000 in
set_option maxHeartbeats 8000000 in
theorem brep_h {w : World} {B bb : Nat} (hB : Built B bb w) (s : Str) (hs : s.length ≤ 1000000) :
    Calls Tryz.prog 251 #[.pointer (some ⟨bb, 0, none⟩), .string (bs s)] w fun e w' => e = .returned (.string (bs (escL s))) ∧ Fr (fun _ => False) w w' := by
  obtain ⟨⟨C, tv, hb, hC, hsl, htv, hrow⟩, _⟩ := hB
  have hSR := SRow.of_owns hrow
  rcases hrow.2 with ⟨_, h0⟩ | ⟨gt, tcap, cur, rfl, _⟩
  · simp at h0
  have c256 := cell_of hb htv
  obtain ⟨g', off', e', hcells⟩ := hSR.cell (by omega)
  cases e'
  have HB := Lib.hid hb
  have HSl := Lib.hid hsl
  have HT := Lib.hid hcells
  have hsz : (bs s).size = s.length := rfl
  clear hb hsl hcells hC htv hrow hSR
  have HLen := Lib.hid (longer_le5 s)
  obtain ⟨b40, hb40⟩ : ∃ b, decide ((40 : Int) ≤ (s.length : Int)) = b := ⟨_, rfl⟩
  go_enter Tryz.func251, Tryz.ntmps251
  go_upto_if 26 with fail
  go_cut [5, 6] (fun v5 v6 wc => v5 = .int .i64 ((escL s).length : Nat) ∧ v6 = .bool (s.any isRep) ∧ ∃ p, wc = w.drewN p)
  case first =>
    cases b40 with
    | true =>
      have h40i : (40 : Int) ≤ (s.length : Int) := of_decide_eq_true hb40
      go_wp2_with fail
      go_loopg [5, 6, 32] 5 (fun j v5 v6 v32 wr => ∃ k q : Nat, ∃ b : Bool, k + j = 5 ∧ v32 = .int .i64 k ∧ v5 = .int .i64 q ∧ v6 = .bool b ∧ Hid (q = s.length + longer k s ∧ b = anyOf k s) ∧ ∃ p, wr = w.drewN p)
      case atStart => exact ⟨0, s.length, false, rfl, rfl, rfl, rfl, ⟨rfl, rfl⟩, 0, rfl⟩
      case round =>
        obtain ⟨k, q, b, hk, rfl, rfl, rfl, HQ, p, rfl⟩ := hrel
        by_cases hlt : k < 5
        · obtain ⟨t1, t2, t3, t4⟩ := toRep_at k hlt
          have d0 := HT.out k (.string (bs [escAt k])) (by unfold strs; rw [List.getElem?_map, t1]; rfl)
          rw [Nat.zero_add] at d0
          have H253 : Hid (∃ n : Nat, n = s.count (escAt k) ∧ Calls Tryz.prog 253 #[.string (bs s), .string (bs [escAt k])] (w.drewN p) fun e w' => e = .returned (.int .i64 (n : Nat)) ∧ w.drewN p = w') :=
            ⟨_, rfl, (Tryz.strings_Count_one (bs s) (escAt k) _).mono fun e w' h => ⟨h.1, h.2.symm⟩⟩
          obtain ⟨n, hn, hCn⟩ := H253.out
          have HN := Lib.hid hn
          have HCn := Lib.hid hCn
          clear H253 hn hCn
          have hnl : n ≤ s.length := by rw [HN.out]; exact List.count_le_length
          by_cases hn0 : n = 0
          · subst hn0
            have HK := Lib.hid hk
            clear hk t1 t2 t3 t4
            go_wp2_with (go_at_call 253; refine HCn.out.mono ?_; rintro e w1 ⟨rfl, rfl⟩)
            go_roundg (5 - (k + 1))
            case measure => have := HK.out; omega
            case rel =>
              refine ⟨k + 1, q, b, by have := HK.out; omega, by go_num, rfl, rfl, ⟨?_, ?_⟩, p, rfl⟩
              · rw [HQ.out.1]; simp only [longer]; rw [← HN.out]; omega
              · rw [HQ.out.2]; simp only [anyOf]; rw [← HN.out]; simp
          · obtain ⟨L, hL⟩ : ∃ L, (pv (4 - k)).length = L := ⟨_, rfl⟩
            rw [hL] at t3 t4
            have hsc := slot_cell HB.out (HSl.out (escAt k))
            rw [t2] at hsc
            rcases hsc with ⟨h1, _⟩ | ⟨l, g, cap, h1, h2, _, _⟩
            · cases h1
            cases h1
            rw [hL] at h2
            have hy : ∀ h, (bs [escAt k])[0]'h = escAt k := fun _ => rfl
            have hz1 : (bs [escAt k]).size = 1 := rfl
            obtain ⟨d, hd⟩ : ∃ d, L - 1 = d := ⟨_, rfl⟩
            have hLd : (L : Int) - 1 = (d : Int) := by omega
            have hd5 : d ≤ 5 := by omega
            obtain ⟨x, hx⟩ : ∃ x : Nat, n * d = x := ⟨_, rfl⟩
            have hxn : x ≤ 5000000 := by
              rw [← hx]
              have : n * d ≤ 1000000 * 5 := Nat.mul_le_mul (by omega) (by omega)
              omega
            have hmul : (n : Int) * (d : Int) = (x : Int) := by rw [← hx]; simp
            have hne : ((n : Int) != 0) = true := by rw [bne_iff_ne]; omega
            have hneq : ((n : Int) == 0) = false := beq_eq_false_iff_ne.2 (by omega)
            have hq : q ≤ 6000000 := by have := HQ.out.1; have := HLen.out k (by omega); omega
            have hlt8 := (escAt k).toNat_lt
            have HK := Lib.hid hk
            have HX := Lib.hid (And.intro hL (And.intro hd hx))
            clear hk t1 t2 t3 t4 hL hd hx
            go_wp2_with (go_at_call 253; refine HCn.out.mono ?_; rintro e w1 ⟨rfl, rfl⟩)
            go_quiet (fail)
            go_wp2_with fail
            have hw : wrap64 (↑q + wrap64 (↑n * wrap64 ↑d)) = ((q + x : Nat) : Int) := by
              rw [IntWalk.wrap64_in (d : Int) (by omega), hmul, IntWalk.wrap64_in (x : Int) (by omega), IntWalk.wrap64_in _ (by omega)]; omega
            go_roundg (5 - (k + 1))
            case measure => have := HK.out; omega
            case rel =>
              refine ⟨k + 1, q + x, true, by have := HK.out; omega, by go_num, by first | rw [hw] | (congr 1; done) | (congr 1; omega), rfl, ⟨?_, ?_⟩, _, rfl⟩
              · rw [HQ.out.1, ← HX.out.2.2, ← HX.out.2.1, ← HX.out.1]; simp only [longer]; rw [← HN.out]; omega
              · simp only [anyOf]; rw [← HN.out, show (n != 0) = true by rw [bne_iff_ne]; exact hn0]; simp
        · have hk5 : k = 5 := by omega
          subst hk5
          have HQ2 : Hid (q = (escL s).length ∧ b = s.any isRep) := ⟨by rw [esc_longer]; exact HQ.out.1, by rw [← any_rep]; exact HQ.out.2⟩
          clear HQ hk hlt
          go_wp2_with fail
          go_meet
          exact ⟨by rw [HQ2.out.1], by rw [HQ2.out.2], p, rfl⟩
    | false =>
      have h40i : (s.length : Int) < 40 := by have := of_decide_eq_false hb40; omega
      go_wp2_with fail
      go_loopg [5, 6, 10] s.length (fun j v5 v6 v10 wr => ∃ i q : Nat, ∃ b : Bool, i + j = s.length ∧ v10 = .int .i64 i ∧ v5 = .int .i64 q ∧ v6 = .bool b ∧ Hid (q + i = (escL (s.take i)).length + s.length ∧ b = (s.take i).any isRep) ∧ w = wr)
      case atStart => exact ⟨0, s.length, false, by omega, rfl, rfl, rfl, ⟨by simp [escL], by simp⟩, rfl⟩
      case round =>
        obtain ⟨i, q, b, hi, rfl, rfl, rfl, HQ, rfl⟩ := hrel
        by_cases hlt : i < s.length
        · have hz : i < (bs s).size := by rw [hsz]; exact hlt
          have hg := bs_at s i hz
          have htk := take_more s i hlt
          obtain ⟨c, hc⟩ : ∃ c, s.getD i 0 = c := ⟨_, rfl⟩
          rw [hc] at hg htk
          have HTk := Lib.hid htk
          have hlt8 := c.toNat_lt
          have HI := Lib.hid hi
          have hq6 : q + i ≤ 6 * i + s.length := by have := HQ.out.1; have := esc_le (s.take i); rw [List.length_take] at this; omega
          rcases slot_cell HB.out (HSl.out c) with ⟨h1, h2⟩ | ⟨l, g, cap, h1, h2, _, _⟩
          · have H1 := Lib.hid h1
            clear h1 hi htk hc
            go_wp2_with fail
            go_roundg (s.length - (i + 1))
            case measure => have := HI.out; omega
            case rel =>
              refine ⟨i + 1, q, b, by have := HI.out; omega, by go_num, rfl, rfl, ⟨?_, ?_⟩, rfl⟩
              · rw [HTk.out, escL_append, List.length_append, escL_cons, List.length_append, esc_len]
                have e0 : escN c = 0 := by unfold escN; rw [H1.out]
                have := HQ.out.1
                rw [e0]; simp only [escL, List.flatMap_nil, List.length_nil]; simp only [escL] at this; omega
              · rw [HTk.out, List.any_append, ← HQ.out.2]
                have e0 : isRep c = false := by unfold isRep; rw [H1.out]; rfl
                simp [e0]
          · have hne : ∀ w, Sem.run Tryz.prog (binOp .neq 113 (.slice (some ⟨g, 0, none⟩) l.length cap) (.slice none 0 0)) w = .ok (.bool true) w := fun w => by rw [run_neq_slice_nil w 113 5 (some ⟨g, 0, none⟩) l.length cap Tryz.underlying113]; rfl
            have e0 : escN c + 1 = l.length := by
              have := esc_len c
              rw [esc_rep, h1] at this
              simp only at this
              omega
            have e1 : isRep c = true := by unfold isRep; rw [h1]; rfl
            have e2 := escN_le c
            obtain ⟨L, hL⟩ : ∃ L, l.length = L := ⟨_, rfl⟩
            rw [hL] at h2 hne e0
            have H1 := Lib.hid (And.intro e0 (And.intro e1 e2))
            have hL1 : 1 ≤ L := by omega
            have hL6 : L ≤ 6 := by omega
            clear h1 hi htk hc hL e0 e1 e2
            go_wp2_with fail
            go_roundg (s.length - (i + 1))
            case measure => have := HI.out; omega
            case rel =>
              refine ⟨i + 1, q + (L - 1), true, by have := HI.out; omega, by go_num, by congr 1; omega, rfl, ⟨?_, ?_⟩, rfl⟩
              · rw [HTk.out, escL_append, List.length_append, escL_cons, List.length_append, esc_len]
                have a1 := HQ.out.1
                have a2 := H1.out.1
                have a3 : (escL []).length = 0 := rfl
                omega
              · rw [HTk.out, List.any_append]
                simp [H1.out.2.1]
        · have hi5 : i = s.length := by omega
          subst hi5
          have HQ2 : Hid (q = (escL s).length ∧ b = s.any isRep) := by
            have := HQ.out
            rw [List.take_length] at this
            exact ⟨by omega, this.2⟩
          clear HQ hi hlt
          go_wp2_with fail
          go_meet
          exact ⟨by rw [HQ2.out.1], by rw [HQ2.out.2], 0, rfl⟩
  case rest =>
    obtain ⟨rfl, rfl, p, rfl⟩ := hcut
    cases hany : s.any isRep with
    | false =>
      have HE := Lib.hid (esc_no hany)
      clear hany
      go_wp2_with fail
      go_ret
      exact ⟨by rw [HE.out] <;> rfl, (Fr.refl _ _).drewN p⟩
    | true =>
      clear hany hb40 c256
      have hNle := esc_le s
      obtain ⟨N, hN⟩ : ∃ N, (escL s).length = N := ⟨_, rfl⟩
      rw [hN] at hNle ⊢
      have HN := Lib.hid hN.symm
      have hF1 : Fr (fun _ => False) w (w.drewN p) := (Fr.refl _ _).drewN p
      generalize w.drewN p = w1 at hF1 ⊢
      obtain ⟨i5, hi5, hz5, hz6, hz7⟩ := info_parts info5
      have hmk := run_makeSlice (P := Tryz.prog) w1 113 5 i5 _ Tryz.underlying113 hi5 hz5 .i64 .i64 N N (by omega) (Int.le_refl _) (by rw [hz6]; simp; omega) (by rw [hz7]; omega) (by omega)
      rw [hz6, Int.toNat_natCast, Nat.mul_one] at hmk
      obtain ⟨M, hM, hMs⟩ : ∃ M, madeCells (Value.int .u8 0).cells N = M ∧ M.size = N := ⟨_, rfl, by rw [size_madeCells]⟩
      rw [hM] at hmk
      clear hM hi5 hz5 hz6 hz7 hN
      have hB0 : BufTo w1 s N 0 0 (w1.alloc (.cells M 5)) := ⟨rfl, ⟨M, block_new _ _, hMs, fun t ht => absurd ht (Nat.not_lt_zero _)⟩, (Fr.refl _ _).alloc _⟩
      have HB0 := Lib.hid hB0
      have HF1 := Lib.hid hF1
      clear hB0 hMs hF1
      go_wp2_with fail
      go_loopg [13, 14] s.length (fun j v13 v14 wr => ∃ i q : Nat, i + j = s.length ∧ v14 = .int .i64 i ∧ v13 = .int .i64 q ∧ Hid (BufTo w1 s N i q wr))
      case atStart => exact ⟨0, 0, by omega, rfl, rfl, HB0.out⟩
      case round =>
        obtain ⟨i, q, hi, rfl, rfl, HBu⟩ := hrel
        by_cases hlt : i < s.length
        · have hz : i < (bs s).size := by rw [hsz]; exact hlt
          have hg := bs_at s i hz
          obtain ⟨c, hc⟩ : ∃ c, s.getD i 0 = c := ⟨_, rfl⟩
          rw [hc] at hg
          have hlt8 := c.toNat_lt
          have HI := Lib.hid hi
          have HC := Lib.hid hc
          have hfr : Fr (fun _ => False) w wr := HF1.out.next HBu.out.fr
          have hbr := hfr.keep HB.out (fun h => h)
          have hslr : slotOK wr B C[c.toNat]? (repF 0 c) := slotOK.keep (HSl.out c) fun g c f hg => hfr.keep hg (fun h => h)
          rcases slot_cell hbr hslr with ⟨h1, h2⟩ | ⟨l, g, cap, h1, h2, h3, _⟩
          · obtain ⟨hqN, hnx⟩ := HBu.out.byte HN.out hlt hc h1
            have HX := Lib.hid hnx
            obtain ⟨cu, hcu, hcs, _⟩ := HBu.out.blk
            have e1 := cell_of hcu (i := q) (v := cu[q]'(by omega)) (Array.getElem?_eq_getElem (by omega))
            have f1 := free_of q hcu
            clear h1 hi hc hnx hfr hbr hslr hcu
            go_wp2_with fail
            go_roundg (s.length - (i + 1))
            case measure => have := HI.out; omega
            case rel => exact ⟨i + 1, q + 1, by have := HI.out; omega, by go_num, by go_num, HX.out⟩
          · have hne : ∀ w, Sem.run Tryz.prog (binOp .neq 113 (.slice (some ⟨g, 0, none⟩) l.length cap) (.slice none 0 0)) w = .ok (.bool true) w := fun w => by rw [run_neq_slice_nil w 113 5 (some ⟨g, 0, none⟩) l.length cap Tryz.underlying113]; rfl
            obtain ⟨hqN, cu, hcu, hcs, hnx⟩ := HBu.out.text HN.out hlt hc h1
            have HX := Lib.hid hnx
            have hl1 : 1 ≤ l.length := by have := esc_len c; rw [esc_rep, h1] at this; simp only at this; omega
            obtain ⟨cur2, fz2, hg2, hat2⟩ := h3
            have hu : (u8s l).length = l.length := by unfold u8s; rw [List.length_map]
            have hcp : ∀ (W : World), W.heap = wr.heap → (Builtin.copy_ #[113, 113] 3 #[.slice (some ⟨w1.heap.size, q, none⟩) (N - q) (N - q), .slice (some ⟨g, 0, none⟩) l.length cap]).run Tryz.prog W = .ok (goInt (u8s l).length) (W.setRow w1.heap.size (cu.toList.take q ++ u8s l ++ cu.toList.drop (q + (u8s l).length)).toArray) := by
              intro W hW
              refine run_copy_row (P := Tryz.prog) W 113 113 3 5 w1.heap.size q (N - q) (N - q) ⟨g, 0, none⟩ l.length cap cu 5 (u8s l) Tryz.underlying113 (by kernel_rfl) (by rw [hW]; exact hcu) (by show (u8s l).length = min l.length (N - q); rw [hu]; omega) (fun j v hj => ?_) (by omega) (fun v hv => ?_)
              · unfold u8s at hj
                rw [List.getElem?_map] at hj
                obtain ⟨x, hx, rfl⟩ := Option.map_eq_some_iff.1 hj
                have hjl := (List.getElem?_eq_some_iff.1 hx).1
                have h5 := hat2 j hjl
                rw [List.getD_eq_getElem?_getD, hx] at h5
                rw [add0]
                exact cell_of (by rw [hW]; exact hg2) h5
              · unfold u8s at hv
                obtain ⟨x, _, rfl⟩ := List.mem_map.1 hv
                rfl
            have HCp := Lib.hid hcp
            have hqN1 : q ≤ N := by omega
            have hci : (c.toNat : Int) < 256 := by omega
            have hqN2 : ¬ N = q := by omega
            clear hcp h1 hi hc hnx hfr hbr hslr hcu hg2 hat2
            go_wp2_with fail
            go_region_law (first | (refine step_copy_runI rfl (.tmp 105) (.tmp 111) 113 113 rfl _ _ rfl rfl (HCp.out _ rfl) ?_) | fail)
            go_wp2_with fail
            go_roundg (s.length - (i + 1))
            case measure => have := HI.out; omega
            case rel =>
              refine ⟨i + 1, q + l.length, by have := HI.out; omega, by go_num, ?_, ?_⟩
              · rw [← hu]; go_num
              · have hx := HX.out wr.drew rfl (Fr.refl _ _).drew
                rw [hu, List.append_assoc] at hx
                exact hx
        · have hi5 : i = s.length := by omega
          subst hi5
          obtain ⟨e1, ⟨cu, hcu, hcs, hat⟩, hF3⟩ := HBu.out
          rw [List.take_length] at e1
          have hqN : q = N := by rw [e1]; exact HN.out.symm
          subst hqN
          have hcv : Sem.run Tryz.prog (convert 113 9 (.slice (some ⟨w1.heap.size, 0, none⟩) q q)) wr = .ok (.string (bs (escL s))) wr := by
            have := run_convert_bytes_back (P := Tryz.prog) wr 113 9 5 ⟨w1.heap.size, 0, none⟩ q (escL s) Tryz.underlying113 Tryz.underlying5 Tryz.underlying9 fun j hj => by
              rw [add0]
              refine cell_of hcu ?_
              rw [hat j (by omega), List.getD_eq_getElem?_getD, List.getElem?_eq_getElem hj]; rfl
            rw [← e1] at this
            exact this
          have HF3 := Lib.hid hF3
          clear hF3 hcu hcs hat e1 hi hlt
          go_wp2_with fail
          go_ret
          exact ⟨rfl, HF1.out.next HF3.out⟩
end Go.Proofs.YtpinjgdnhbogoaaGreatDoor
