/- strings.Builder at this program: copyCheck, WriteByte: walked. -/
import Derived.Test.YtgmghopcppniaaaGreatDoorS5
import Derived.Test.YtgmghopcppniaaaGreatDoorC5
import Derived.Shelf.Strings.BuilderK
import Derived.ChangeAlike
import Derived.StillTailTactics
namespace Go.Proofs.YtgmghopcppniaaaGreatDoor
open Go.RowKit Go.Lib

theorem info5 : (Tryz.prog.info? 5).map (fun i => (i.zero, i.size, i.bytes)) = some (some (.int .u8 0), 1, 1) := by kernel_rfl
theorem info108 : (Tryz.prog.info? 108).map (fun j => j.size) = some 2 := by kernel_rfl
theorem lies108 : liesAt Tryz.prog Tryz.prog.depth 197 (2 / Tryz.prog.cellsOf 197) 0 108 1 = true := by kernel_rfl
set_option maxHeartbeats 1000000 in
set_option maxRecDepth 100000 in
theorem bcheck_fresh (b : Nat) (w : World) (h0 : w.cell? ⟨b, 0, none⟩ = some (.pointer none)) (hsh : w.shape? b = some (197, 2)) (hfz : w.frozen? ⟨b, 0, none⟩ = false) :
    Calls Tryz.prog 114 #[.pointer (some ⟨b, 0, none⟩)] w fun e w' => e = .returned (.tuple #[]) ∧ w' = w.setCell ⟨b, 0, none⟩ (.pointer (some ⟨b, 0, none⟩)) := by
  obtain ⟨j, hj, hjs⟩ := Option.map_eq_some_iff.1 info108
  go_enter Tryz.func114, Tryz.ntmps114
  go_wp2
  rw [Lib.run_to_unsafe w ⟨b, 0, none⟩ Tryz.underlying106 Tryz.underlying191 hj (by rw [hjs]; decide) hsh (Nat.zero_lt_succ 1)]
  simp only [Result.andThen]
  rw [Oper.upon_value]
  go_wp2
  rw [run_callFunc_extern Tryz.func150 (by kernel_rfl) (by kernel_rfl) (by kernel_rfl) (e := Extern.AbiNoEscape.same) (by kernel_rfl)]
  rw [Lib.run_noEscape]
  simp only [Result.andThen]
  rw [Oper.upon_value]
  go_wp2
  rw [Lib.run_from_unsafe w ⟨b, 0, none⟩ Tryz.underlying191 Tryz.underlying106 hj hsh lies108]
  simp only [Result.andThen]
  rw [Oper.upon_value]
  go_wp2
  go_end0
  exact ⟨rfl, rfl⟩
set_option maxHeartbeats 1000000 in
set_option maxRecDepth 100000 in
theorem bcheck_used (b : Nat) (w : World) (h0 : w.cell? ⟨b, 0, none⟩ = some (.pointer (some ⟨b, 0, none⟩))) :
    Calls Tryz.prog 114 #[.pointer (some ⟨b, 0, none⟩)] w fun e w' => e = .returned (.tuple #[]) ∧ w' = w := by
  obtain ⟨j, hj, _⟩ := Option.map_eq_some_iff.1 info108
  go_enter Tryz.func114, Tryz.ntmps114
  go_wp2
  rw [Lib.run_neq_ptr_same w _ Tryz.underlying106 hj]
  go_wp2
  go_end0
  exact ⟨rfl, rfl⟩
theorem bcheck_h (B b : Nat) (bs : List Value) (w : World) (h : Lib.IsBuilderF 197 5 B b bs w) :
    Calls Tryz.prog 114 #[.pointer (some ⟨b, 0, none⟩)] w fun e w' => e = .returned (.tuple #[]) ∧ Lib.BuilderAtF 197 5 B b (.pointer (some ⟨b, 0, none⟩)) bs w' ∧ Below B w w' ∧ Lib.OthersKept 5 (some b) w w' := by
  rcases h with h | h
  · refine (bcheck_fresh b w h.cell0 h.shape h.frozen0).mono ?_
    rintro e w' ⟨rfl, rfl⟩
    exact ⟨rfl, h.used _, (Below.refl B w).setCell (p := ⟨b, 0, none⟩) h.1 _, (Lib.OthersKept.refl _ _ w).setCell ⟨b, 0, none⟩ rfl _⟩
  · refine (bcheck_used b w h.cell0).mono ?_
    rintro e w' ⟨rfl, rfl⟩
    exact ⟨rfl, h, Below.refl B _, Lib.OthersKept.refl _ _ _⟩
set_option maxHeartbeats 2000000 in
set_option maxRecDepth 100000 in
theorem bbyte_h (B b : Nat) (bs : List Value) (c : Int) (w : World) (h : Lib.IsBuilderF 197 5 B b bs w) (hlen : bs.length + 1 ≤ 140737488355328) (hBw : B ≤ w.heap.size) :
    Calls Tryz.prog 220 #[.pointer (some ⟨b, 0, none⟩), .int .u8 c] w fun e w' => e = .returned .nilIface ∧ Lib.BuilderAtF 197 5 B b (.pointer (some ⟨b, 0, none⟩)) (bs ++ [.int .u8 c]) w' ∧ Below B w w' ∧ Lib.OthersKept 5 (some b) w w' := by
  obtain ⟨i0, hi, hz0, hz1, hz2⟩ := info_parts info5
  go_enter Tryz.func220, Tryz.ntmps220
  go_wp2_with (go_at_call 114; refine (bcheck_h B b bs _ h).mono ?_)
  rintro e w1 ⟨rfl, h1, hb1, hk1⟩
  obtain ⟨hB, v, hbk, hown, hne⟩ := h1
  have c0 : w1.cell? ⟨b, 0, none⟩ = some (.pointer (some ⟨b, 0, none⟩)) := by rw [Lib.cell_of_heap hbk]; rfl
  have c1 : w1.cell? ⟨b, 1, none⟩ = some v := by rw [Lib.cell_of_heap hbk]; rfl
  go_wp2_with (at_builtin; refine wpList_append_ownF _ rfl _ _ 33 rfl B 5 i0 (.int .u8 0) 1 1 Tryz.underlying33 hi hz0 hz1 hz2 rfl (by decide) _ _ _ rfl (hown.alloc _) ⟨w1.heap.size, 0, none⟩ 1 1 [.int .u8 c] rfl rfl ?c1 ?c2 ?c3 ?c4 ?c5 ?_)
  case c1 =>
    intro j u hj
    match j, hj with
    | 0, hj => simp at hj; subst hj; simp [Addr.add]
  case c2 => intro u hu; simp at hu; subst hu; rfl
  case c3 => unfold maxLen; omega
  case c4 => omega
  case c5 => have := hb1.size; simp; omega
  intro v' w2 hown' hgrow _
  have hlt : b < w1.heap.size := by
    rcases Nat.lt_or_ge b w1.heap.size with h' | h'
    · exact h'
    · simp [Array.getElem?_eq_none h'] at hbk
  have hb2 : w2.heap[b]? = some (.cells #[.pointer (some ⟨b, 0, none⟩), v] 197 (0, 0)) := by
    rw [hgrow.block b (by simp; omega) (fun e => hne e.symm), Lib.alloc_old w1 _ b hlt]
    exact hbk
  have d0 : w2.cell? ⟨b, 0, none⟩ = some (.pointer (some ⟨b, 0, none⟩)) := by rw [Lib.cell_of_heap hb2]; rfl
  have d1 : w2.cell? ⟨b, 1, none⟩ = some v := by rw [Lib.cell_of_heap hb2]; rfl
  have f1 : w2.frozen? ⟨b, 1, none⟩ = false := Lib.frozen_of_heap hb2 1
  obtain ⟨g, cap, rfl⟩ : ∃ g cap, v' = .slice (some ⟨g, 0, none⟩) (bs.length + 1) cap := by
    rcases hown'.2 with ⟨_, h0⟩ | ⟨g, cap, cur, fz, hv, _⟩
    · omega
    · exact ⟨g, cap, hv⟩
  go_wp2
  go_ret
  refine ⟨rfl, ?_, ?_, ((hk1.alloc _).grown hgrow (Lib.ownsRowF_kind (hown.alloc _))).setCell ⟨b, 1, none⟩ rfl _⟩
  · exact Lib.BuilderAtF.put (T := 197) (e := 5) hB hb2 (bs' := bs ++ [.int .u8 c]) (by simpa using hown') (by decide)
  · exact ((hb1.alloc (by have := hb1.size; omega) _).grown hgrow (by have := hb1.size; simp; omega) (fun k hk => (hown.lt k hk).1)).setCell (p := ⟨b, 1, none⟩) hB _
end Go.Proofs.YtgmghopcppniaaaGreatDoor

/- writer.natural: walked. -/
namespace Go.Proofs.YtgmghopcppniaaaGreatDoor
open Go.RowKit Go.Lib

/-- a writer that holds these bytes -/
def Wr (B b : Nat) (o : Str) (w : World) : Prop := Lib.IsBuilderF 197 5 B b (Lib.byteCells o) w
/-- what a writing call leaves -/
def WrPost (B b : Nat) (o : Str) (w w' : World) : Prop := Wr B b o w' ∧ Below B w w' ∧ Lib.OthersKept 5 (some b) w w'
theorem wbyte_h {B b : Nat} {o : Str} {w : World} (c : UInt8) (h : Wr B b o w) (hl : o.length ≤ 100000000) (hB : B ≤ w.heap.size) :
    Calls Tryz.prog 220 #[.pointer (some ⟨b, 0, none⟩), .int .u8 (c.toNat : Int)] w fun e w' => e = .returned .nilIface ∧ WrPost B b (o ++ [c]) w w' := by
  refine (bbyte_h B b _ (c.toNat : Int) w h (by rw [Lib.byteCells_length]; omega) hB).mono ?_
  rintro e w' ⟨rfl, h1, h2, h3⟩
  refine ⟨rfl, Or.inr ?_, h2, h3⟩
  have e : Lib.byteCells (o ++ [c]) = Lib.byteCells o ++ [.int .u8 (c.toNat : Int)] := by simp [Lib.byteCells]
  rw [e]; exact h1
theorem wbyte_n {B b : Nat} {o : Str} {w : World} {k n : Nat} (h : Wr B b o w) (hl : o.length ≤ 100000000) (hB : B ≤ w.heap.size) (hn : n < 256) :
    Calls Tryz.prog 220 #[.pointer (some ⟨b, 0, none⟩), .int .u8 (n : Int)] (w.drewN k) fun e w' => e = .returned .nilIface ∧ WrPost B b (o ++ [UInt8.ofNat n]) w w' := by
  have e : (n : Int) = ((UInt8.ofNat n).toNat : Int) := by rw [UInt8.toNat_ofNat', Nat.mod_eq_of_lt (by omega)]
  rw [e]
  refine (wbyte_h (w := w.drewN k) (UInt8.ofNat n) h hl hB).mono ?_
  rintro e w' ⟨rfl, h1, h2, h3⟩
  exact ⟨rfl, h1, ⟨h2.os, h2.tape, h2.output, h2.size, h2.block⟩, fun i x hi => h3 i x hi⟩
theorem shr_val (v j : Nat) : (v : Int) / 2 ^ (7 * (j : Int)).toNat = ((v / 128 ^ j : Nat) : Int) := by
  have e0 : (7 * (j : Int)).toNat = 7 * j := by omega
  have e : ((2 : Int) ^ (7 * j)) = ((128 ^ j : Nat) : Int) := by
    rw [show (128 : Nat) ^ j = 2 ^ (7 * j) by rw [Nat.pow_mul], Int.natCast_pow]; rfl
  rw [e0, e, Int.natCast_ediv]
theorem WrPost.next {B b : Nat} {o o2 : Str} {w w1 w2 : World} (h : WrPost B b o w w1) (k : WrPost B b o2 w1 w2) : WrPost B b o2 w w2 := ⟨k.1, h.2.1.trans k.2.1, h.2.2.trans k.2.2⟩
set_option maxRecDepth 100000 in
set_option maxHeartbeats 8000000 in
theorem natural_h {w : World} {B b : Nat} {o : Str} (v : Nat) (hv : v < 18446744073709551616) (h : Wr B b o w) (hl : o.length ≤ 10000000) (hB : B ≤ w.heap.size) :
    Calls Tryz.prog 193 #[.pointer (some ⟨b, 0, none⟩), .int .u64 (v : Int)] w fun e w' => e = .returned (.tuple #[]) ∧ WrPost B b (o ++ natL v) w w' := by
  have H := Lib.hid h
  clear h
  have h7 := shr7 v
  go_enter Tryz.func193, Tryz.ntmps193
  go_wp2_with fail
  go_loopg [4, 5] 9 (fun j v4 v5 wr => (∃ i k : Nat, i + j = 9 ∧ v4 = .int .i64 ((7 * i : Nat) : Int) ∧ v5 = .int .u64 (k : Int) ∧ Hid (CountAt v i k)) ∧ w = wr)
  case atStart => exact ⟨⟨0, v / 128, by omega, rfl, rfl, CountAt.start v⟩, rfl⟩
  case round =>
    obtain ⟨⟨i, k, hi, rfl, rfl, HC⟩, rfl⟩ := hrel
    have HI := Lib.hid hi
    clear hi
    by_cases hk : k = 0
    · subst hk
      have HW := Lib.hid HC.out.write
      have hi9 := HC.out.le
      go_wp2_with fail
      go_loopg [4] i (fun j v4 wr => ∃ o' : Str, v4 = .int .i64 ((7 * j : Nat) : Int) ∧ Hid (WriteAt v j o') ∧ Hid (WrPost B b (o ++ o') w wr) ∧ o'.length + j ≤ 10 ∧ j ≤ 9)
      case atStart => exact ⟨[], rfl, HW.out, ⟨by rw [List.append_nil]; exact H.out, Below.refl _ _, Lib.OthersKept.refl _ _ _⟩, by simp; omega, hi9⟩
      case round =>
        obtain ⟨o', rfl, HA, HP, hol, hj9⟩ := hrel
        have hB2 := HP.out.2.1.size
        obtain rfl | ⟨m, rfl⟩ : gk = 0 ∨ ∃ m, gk = m + 1 := by cases gk; exact .inl rfl; exact .inr ⟨_, rfl⟩
        · have hb2 : bits .and .u8 ((v : Int) % 256) 127 = ((v % 128 : Nat) : Int) := by
            have := and127 (v % 256) (by omega)
            rw [show v % 256 % 128 = v % 128 by omega] at this
            exact this
          go_wp2_with fail
          rw [show (v : Int) % 128 = ((v % 128 : Nat) : Int) from rfl]
          refine Calls.mono (wbyte_n (k := 0) HP.out.1 (by simp; omega) (by omega) (n := v % 128) (by omega)) ?_
          rintro e w2 ⟨rfl, hW2⟩
          have HW2 := Lib.hid (HP.out.next hW2)
          clear hW2
          go_wp2_with fail
          go_end0
          exact ⟨rfl, by rw [← HA.out.done, ← List.append_assoc]; exact HW2.out⟩
        · have hs := shr_val v (m + 1)
          obtain ⟨q, hq⟩ : ∃ q, v / 128 ^ (m + 1) = q := ⟨_, rfl⟩
          rw [hq] at hs
          have hs2 : (v : Int) / 2 ^ (7 * ((m : Int) + 1)).toNat = (q : Int) := hs
          have hb1 := wrap_byte q
          have hb2 := or128 (q % 256) (by omega)
          have hmm : 128 + q % 256 % 128 = 128 + q % 128 := by omega
          rw [hmm] at hb2
          have HQ := Lib.hid hq
          clear hq hmm
          go_wp2_with fail
          go_still_tail 8, (by kernel_rfl)
          go_wp2_with fail
          rw [show (q : Int) % 256 = ((q % 256 : Nat) : Int) from rfl, hb2]
          refine Calls.mono (wbyte_n (k := 1) HP.out.1 (by simp; omega) (by omega) (n := 128 + q % 128) (by omega)) ?_
          rintro e w2 ⟨rfl, hW2⟩
          have HW2 := Lib.hid (HP.out.next hW2)
          clear hW2
          have HA2 := HA.out.step
          rw [HQ.out] at HA2
          have HA3 := Lib.hid HA2
          clear HA2
          go_wp2_with fail
          go_roundg m
          case measure => omega
          case rel => exact ⟨o' ++ [UInt8.ofNat (128 + q % 128)], by go_num, HA3.out, by rw [← List.append_assoc]; exact HW2.out, by simp; omega, by omega⟩
    · have hk7 := shr7 k
      have hi9 := HC.out.lt hv hk
      have hkp : (0 : Int) < k := by omega
      go_wp2_with fail
      go_roundg (9 - (i + 1))
      case measure => have := HI.out; omega
      case rel => exact ⟨⟨i + 1, k / 128, by omega, by go_num, rfl, HC.out.step hv hk⟩, rfl⟩
end Go.Proofs.YtgmghopcppniaaaGreatDoor

/- writer.int: walked. -/
namespace Go.Proofs.YtgmghopcppniaaaGreatDoor
open Go.RowKit Go.Lib

theorem xor0_u64 (a : Nat) (ha : a < 18446744073709551616) : bits .xor .u64 (a : Int) 0 = (a : Int) := by
  have h1 : (BitVec.ofInt 64 (a : Int)).toNat = a := by
    rw [BitVec.ofInt_natCast, BitVec.toNat_ofNat]; exact Nat.mod_eq_of_lt (by omega)
  show IntKind.u64.wrap ((BitVec.ofInt 64 (a : Int) ^^^ BitVec.ofInt 64 0).toNat : Int) = _
  rw [BitVec.toNat_xor, h1, show (BitVec.ofInt 64 0).toNat = 0 from rfl, Nat.xor_zero, IntKind.wrap_u64]
  omega
theorem xorm_u64 (a : Nat) (ha : a < 18446744073709551616) : bits .xor .u64 (a : Int) 18446744073709551615 = ((18446744073709551615 - a : Nat) : Int) := by
  have h1 : (BitVec.ofInt 64 (a : Int)).toNat = a := by
    rw [BitVec.ofInt_natCast, BitVec.toNat_ofNat]; exact Nat.mod_eq_of_lt (by omega)
  have h3 : (BitVec.ofInt 64 (a : Int) ^^^ BitVec.ofInt 64 18446744073709551615) = ~~~ (BitVec.ofInt 64 (a : Int)) := by
    rw [show BitVec.ofInt 64 18446744073709551615 = BitVec.allOnes 64 from by decide, BitVec.xor_allOnes]
  show IntKind.u64.wrap ((BitVec.ofInt 64 (a : Int) ^^^ BitVec.ofInt 64 18446744073709551615).toNat : Int) = _
  have h4 : (((~~~ (BitVec.ofInt 64 (a : Int))).toNat : Nat) : Int) = 18446744073709551615 - (a : Int) := by
    rw [BitVec.toNat_not, h1]
    have : (2 : Nat) ^ 64 - 1 - a + a = 18446744073709551615 := Nat.sub_add_cancel (by omega)
    generalize (2 : Nat) ^ 64 - 1 - a = y at this ⊢
    omega
  rw [h3, h4, IntKind.wrap_u64]
  omega
set_option maxRecDepth 100000 in
set_option maxHeartbeats 8000000 in
theorem wint_h {w : World} {B b : Nat} {o : Str} (n : Int) (hn : I64 n) (h : Wr B b o w) (hl : o.length ≤ 10000000) (hB : B ≤ w.heap.size) :
    Calls Tryz.prog 155 #[.pointer (some ⟨b, 0, none⟩), .int .i64 n] w fun e w' => e = .returned (.tuple #[]) ∧ WrPost B b (o ++ intL n) w w' := by
  obtain ⟨hn1, hn2⟩ := hn
  have H := Lib.hid h
  clear h
  have hz := zig_lt (n := n) ⟨hn1, hn2⟩
  have HN := Lib.hid (natural_h (zig n) hz H.out hl hB)
  obtain ⟨z, hzz⟩ : ∃ z, zig n = z := ⟨_, rfl⟩
  have hil : intL n = natL z := by unfold intL; rw [hzz]
  rw [hzz] at HN hz
  rw [hil]
  have HZ := Lib.hid hzz
  rcases Int.lt_or_le n 0 with hneg | hpos
  · have hw : n % 18446744073709551616 = n + 18446744073709551616 := by omega
    have hd : n / 9223372036854775808 = -1 := by omega
    clear hzz hil
    have hv : bits .xor .u64 (IntKind.u64.wrap (IntKind.u64.wrap n * 2)) (IntKind.u64.wrap (-1)) = (z : Int) := by
      have h1 : IntKind.u64.wrap (IntKind.u64.wrap n * 2) = ((18446744073709551615 - z : Nat) : Int) := by
        have h9 := HZ.out
        unfold zig at h9
        rw [if_neg (by omega)] at h9
        rw [IntKind.wrap_u64, IntKind.wrap_u64]
        omega
      rw [h1, show IntKind.u64.wrap (-1) = 18446744073709551615 from by decide, xorm_u64 _ (by omega), Nat.sub_sub_self (by omega)]
    have HV := Lib.hid hv
    clear hv
    go_enter Tryz.func155, Tryz.ntmps155
    go_wp2_with fail
    rw [HV.out]
    refine Calls.mono HN.out ?_
    rintro e w2 ⟨rfl, hW⟩
    have HW := Lib.hid hW
    clear hW
    go_wp2_with fail
    go_end0
    exact ⟨rfl, HW.out⟩
  · have hd : n / 9223372036854775808 = 0 := by omega
    clear hzz hil
    have hv : bits .xor .u64 (n * 2) 0 = (z : Int) := by
      have h9 := HZ.out
      unfold zig at h9
      rw [if_pos hpos] at h9
      rw [show n * 2 = (z : Int) by omega, xor0_u64 _ hz]
    have HV := Lib.hid hv
    clear hv
    go_enter Tryz.func155, Tryz.ntmps155
    go_wp2_with fail
    rw [HV.out]
    refine Calls.mono HN.out ?_
    rintro e w2 ⟨rfl, hW⟩
    have HW := Lib.hid hW
    clear hW
    go_wp2_with fail
    go_end0
    exact ⟨rfl, HW.out⟩
end Go.Proofs.YtgmghopcppniaaaGreatDoor

/- each, over numbers, with the writer's int: walked. -/
namespace Go.Proofs.YtgmghopcppniaaaGreatDoor
open Go.RowKit Go.Lib

theorem intsL_snoc {l : List Int} {i : Nat} {n : Int} (h : l[i]? = some n) : intsL (l.take (i + 1)) = intsL (l.take i) ++ intL n := by
  rw [List.take_add_one, h, intsL_app]; simp [intsL]
set_option maxRecDepth 100000 in
set_option maxHeartbeats 8000000 in
theorem each_h {w : World} {B b cap : Nat} {a : Option Addr} {o : Str} (l : List Int) (hI : ∀ n ∈ l, I64 n) (hr : IR w (fun k => k < B) (.slice a l.length cap) l) (h : Wr B b o w) (hl : o.length + 10 * l.length ≤ 10000000) (hB : B ≤ w.heap.size) :
    Calls Tryz.prog 154 #[.slice a l.length cap, .func (.func 155) #[.pointer (some ⟨b, 0, none⟩)] #[]] w fun e w' => e = .returned (.tuple #[]) ∧ WrPost B b (o ++ intsL l) w w' := by
  have H := Lib.hid h
  have HR := Lib.hid hr
  have HII := Lib.hid hI
  clear h hr hI
  go_enter Tryz.func154, Tryz.ntmps154
  go_wp2_with fail
  go_loopg [8] (l.length) (fun j v8 wr => ∃ i : Nat, i + j = l.length ∧ v8 = .int .i64 (i : Int) ∧ Hid (WrPost B b (o ++ intsL (l.take i)) w wr) ∧ (intsL (l.take i)).length ≤ 10 * i)
  case atStart => exact ⟨0, by omega, rfl, ⟨by rw [List.take_zero, show intsL [] = [] from rfl, List.append_nil]; exact H.out, Below.refl _ _, Lib.OthersKept.refl _ _ _⟩, by rw [List.take_zero]; exact Nat.zero_le _⟩
  case round =>
    obtain ⟨i, hi, rfl, HP, hln⟩ := hrel
    have HX := Lib.hid hi
    clear hi
    by_cases hlt : i < l.length
    · obtain ⟨n, hn⟩ : ∃ n, l[i]? = some n := ⟨_, List.getElem?_eq_getElem hlt⟩
      have HR2 : IR wr (fun k => k < B) (.slice a l.length cap) l := HR.out.fr (Fr.of_below HP.out.2.1) (fun k h1 h2 => by omega)
      obtain ⟨g, off, rfl, hc⟩ := HR2.cells (by omega)
      have c0 := hc i n hn
      clear HR2 hc
      have HN := Lib.hid (HII.out n (List.mem_of_getElem? hn))
      have hB2 := HP.out.2.1.size
      have hlen := HP.out.1
      have HC := Lib.hid (wint_h n HN.out HP.out.1 (by rw [List.length_append]; omega) (by omega))
      have HE := Lib.hid (intsL_snoc hn)
      have HL := Lib.hid (intL_len HN.out)
      clear hlen
      go_wp2_with fail
      refine Calls.mono HC.out ?_
      rintro e w2 ⟨rfl, hW2⟩
      have HW2 := Lib.hid (HP.out.next hW2)
      clear hW2
      go_wp2_with fail
      go_roundg (l.length - (i + 1))
      case measure => have := HX.out; omega
      case rel => exact ⟨i + 1, by omega, by go_num, by rw [HE.out, ← List.append_assoc]; exact HW2.out, by rw [HE.out, List.length_append]; have := HL.out; omega⟩
    · obtain rfl : i = l.length := by have := HX.out; omega
      rw [List.take_length] at HP
      go_wp2_with fail
      go_end0
      exact ⟨rfl, HP.out⟩
end Go.Proofs.YtgmghopcppniaaaGreatDoor
