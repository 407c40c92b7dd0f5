/- snap.payloads: what the loops over it are handed. -/
import Derived.Test.YtgmghopcppniaaaGreatDoorS12
import Derived.RangeFuncNested
import Derived.RangeFuncLeaves
import Derived.RangeFuncBound
import Derived.RangeFuncCalls
import Derived.Shelf.Abstract
import Derived.Shelf.RegionOpen
import Derived.OwnWalkIn
import Derived.TacticsInMore
import Derived.LoopNIn
import Derived.LoopIn
import Derived.Sort.LoopGhostIn
import Derived.Deep.DeepCutAuto
namespace Go.Proofs.YtgmghopcppniaaaGreatDoor
open Go.RowKit Go.Lib Go.Shelf

attribute [local go_sem] Oper.semAt_some
theorem payloads_h {w : World} {b : BaseD} {v : Value} :
    Calls Tryz.prog 66 #[baseV b v] w fun e w' => e = .returned (.func (.func 119) #[] #[.pointer (some ⟨w.heap.size, 0, none⟩)]) ∧ w' = w.alloc (.cells #[.int .i64 b.index, .int .i64 b.term, v, .string (bs b.data)] 24) := by
  have hmf : ∀ (fn : Fn) (first cap : Array Value) (w : World), (Instr.makeFunc fn first cap).run Tryz.prog w = .ok (.func fn first cap) w := fun _ _ _ _ => rfl
  unfold baseV
  go_enter Tryz.func66, Tryz.ntmps66
  go_wp2_with fail
  go_ret
  exact ⟨rfl, rfl⟩
theorem Fr.grown_none {w w' : World} (h : Fr (fun _ => False) w w') : w.grownBy w' none :=
  ⟨h.os, h.tape, h.output, h.size, fun k hk _ => h.block k hk fun h => h⟩
/-- three numbers, one number, in a block of their own -/
theorem int3_h {w : World} {k : Nat} {x y z : Int} (hx : I64 x) (hy : I64 y) (hz : I64 z) (hb : w.heap[k]? = some (.cells #[.int .i64 x, .int .i64 y, .int .i64 z] 3 (0, 0))) :
    Calls Tryz.prog 120 #[.slice (some ⟨k, 0, none⟩) 3 3] w fun e w' => e = .returned (.string (bs (intsL [x, y, z]))) ∧ Fr (fun _ => False) w w' := by
  have hr : IR w (fun k => k < w.heap.size) (.slice (some ⟨k, 0, none⟩) [x, y, z].length [x, y, z].length) [x, y, z] := IR.lit (e := 3) (f := (0, 0)) hb (by simp [maxLen]) (lt_of_block hb)
  exact int_h [x, y, z] (by intro n hn; simp at hn; rcases hn with rfl | rfl | rfl <;> assumption) hr (by simp)
theorem int1_h {w : World} {k : Nat} {x : Int} (hx : I64 x) (hb : w.heap[k]? = some (.cells #[.int .i64 x] 3 (0, 0))) :
    Calls Tryz.prog 120 #[.slice (some ⟨k, 0, none⟩) 1 1] w fun e w' => e = .returned (.string (bs (intsL [x]))) ∧ Fr (fun _ => False) w w' := by
  have hr : IR w (fun k => k < w.heap.size) (.slice (some ⟨k, 0, none⟩) [x].length [x].length) [x] := IR.lit (e := 3) (f := (0, 0)) hb (by simp [maxLen]) (lt_of_block hb)
  exact int_h [x] (by intro n hn; simp at hn; subst hn; assumption) hr (by simp)
def HeadAt (b : BaseD) (w : World) (v : Value) (w' : World) : Prop := v = .string (bs (headL b)) ∧ Fr (fun _ => False) w w'

/-- a block is as it was, where it holds that -/
def KeepB (k : Nat) (o : Obj) (W W' : World) : Prop := W.heap[k]? = some o → W'.heap[k]? = some o
abbrev Chunk := { s : Str // s.length ≤ 1000 }
def vals (l : List Chunk) : List Str := l.map (·.1)
theorem pays_short {b : BaseD} (hr : rightB b = true) : ∀ s ∈ payloadsL b, s.length ≤ 1000 := by
  intro s hs
  unfold payloadsL at hs
  rcases List.mem_cons.1 hs with rfl | hs
  · have := head_len hr; omega
  · exact (chunk_short _ _ (Nat.le_refl _) s hs).1
def PayPost (b : BaseD) (J Jx : List Chunk → World → Prop) (e : Ending) (W' : World) : Prop := (∃ v, e = .returned v) ∧ ((∃ xs, vals xs = payloadsL b ∧ J xs W') ∨ (∃ pre, vals pre <+: payloadsL b ∧ Jx pre W'))
theorem pay_no {b : BaseD} {J Jx : List Chunk → World → Prop} {pre : List Chunk} {v : Value} {W' : World} (h : vals pre <+: payloadsL b) (hJ : Jx pre W') : PayPost b J Jx (.returned v) W' := ⟨⟨v, rfl⟩, .inr ⟨pre, h, hJ⟩⟩
theorem pay_all {b : BaseD} {J Jx : List Chunk → World → Prop} {pre : List Chunk} {v : Value} {W' : World} (h : vals pre = payloadsL b) (hJ : J pre W') : PayPost b J Jx (.returned v) W' := ⟨⟨v, rfl⟩, .inl ⟨pre, h, hJ⟩⟩
theorem vals_snoc (l : List Chunk) (c : Chunk) : vals (l ++ [c]) = vals l ++ [c.1] := by simp [vals]
set_option maxRecDepth 100000 in
set_option maxHeartbeats 8000000 in
theorem pay_h {w : World} {k l n : Nat} {b : BaseD} {v : Value} {J Jx : List Chunk → World → Prop} (hB : w.heap[k]? = some (.cells #[.int .i64 b.index, .int .i64 b.term, v, .string (bs b.data)] 24 (0, 0))) (hb : BaseIn w (fun k => k < w.heap.size) b v) (hr : rightB b = true)
    (hJ : AbidesFrom w.heap.size J)
    (hY : ∀ (pre : List Chunk) (x : Chunk) (W1 : World), J pre W1 → pre.length < (payloadsL b).length → YieldAt Fence.wide (n - 1) Tryz.prog l #[.string (bs x.1)] W1 fun e W' =>
      (e = .returned (.bool true) ∧ J (pre ++ [x]) W' ∧ KeepB k (.cells #[.int .i64 b.index, .int .i64 b.term, v, .string (bs b.data)] 24 (0, 0)) W1 W') ∨ (e = .returned (.bool false) ∧ Jx (pre ++ [x]) W')) (h0 : J [] w) :
    Calls Tryz.prog 119 #[.func (.yield l) #[] #[], .pointer (some ⟨k, 0, none⟩)] w (PayPost b J Jx) := by
  obtain ⟨hrow, hnums, hidx, htrm, hdat⟩ := hb
  obtain ⟨a, cap, rfl, hcap, hcap2⟩ := hrow.form
  have x0 := cell_of hB (i := 0) (v := .int .i64 b.index) rfl
  have x1 := cell_of hB (i := 1) (v := .int .i64 b.term) rfl
  have x2 := cell_of hB (i := 2) (v := .slice a b.voters.length cap) rfl
  have x3 := cell_of hB (i := 3) (v := .string (bs b.data)) rfl
  have hln : (bs b.data).size = b.data.length := rfl
  have hvl := (right_voters hr).1
  have HI1 := Lib.hid (fun (W : World) (j : Nat) (hj : W.heap[j]? = some (.cells #[.int .i64 b.index, .int .i64 b.term, .int .i64 (b.voters.length : Int)] 3 (0, 0))) => int3_h hidx htrm (show I64 (b.voters.length : Int) by unfold I64; omega) hj)
  have HI2 := Lib.hid (fun (W : World) (hF : Fr (fun _ => False) w W) => int_h b.voters hnums ((hrow.grow hF).mono fun k hk => Nat.lt_of_lt_of_le hk hF.size) (by omega))
  have HI3 := Lib.hid (fun (W : World) (j : Nat) (hj : W.heap[j]? = some (.cells #[.int .i64 (b.data.length : Int)] 3 (0, 0))) => int1_h (show I64 (b.data.length : Int) by unfold I64; omega) hj)
  have HHL : Hid (headL b = intsL [b.index, b.term, (b.voters.length : Int)] ++ intsL b.voters ++ intsL [(b.data.length : Int)]) := by
    show headL b = _
    unfold headL headI
    rw [intsL_cons, intsL_cons, intsL_cons, intsL_app, intsL_cons, intsL_cons, intsL_cons]
    simp [intsL]
  have hhl := head_len hr
  rw [HHL.out] at hhl
  obtain ⟨A, hA⟩ : ∃ A, intsL [b.index, b.term, (b.voters.length : Int)] = A := ⟨_, rfl⟩
  obtain ⟨V, hV⟩ : ∃ V, intsL b.voters = V := ⟨_, rfl⟩
  obtain ⟨C, hC⟩ : ∃ C, intsL [(b.data.length : Int)] = C := ⟨_, rfl⟩
  rw [hA] at HI1 HHL hhl
  rw [hV] at HI2 HHL hhl
  rw [hC] at HI3 HHL hhl
  have HJ0 := Lib.hid h0
  have s1 := fun (W : World) => sum_at W (a := A) (b := V) rfl (by simp at hhl ⊢; omega)
  have s2 := fun (W : World) => sum_at W (a := A ++ V) (b := C) rfl (by omega)
  have hkl := lt_of_block hB
  have HB := Lib.hid hB
  have HR := Lib.hid hrow
  clear hrow hnums hA hV hC hB hidx htrm
  go_enter Tryz.func119, Tryz.ntmps119
  go_upto_region 0 with fail
  go_cut [3] (fun s3 wx => Hid (HeadAt b w s3 wx))
  case first =>
    clear hY hJ h0 hr
    go_region_held3 (fun w' => w'.cell? ⟨k, 0, none⟩ = some (.int .i64 b.index) ∧ w'.cell? ⟨k, 1, none⟩ = some (.int .i64 b.term) ∧ w'.cell? ⟨k, 2, none⟩ = some (.slice a b.voters.length cap) ∧ w'.cell? ⟨k, 3, none⟩ = some (.string (bs b.data)))
      (first | go_keep | (with_reducible exact ⟨s0_fC, s1_fC, s2_fC, s3_fC⟩) | (with_reducible exact ⟨s0_fV, s1_fV, s2_fV, s3_fV⟩) | (with_reducible exact ⟨s0_fA, s1_fA, s2_fA, s3_fA⟩) | fail)
      (first
        | (go_at_call 120; (with_reducible refine Calls.mono (HI1.out _ _ (by first | with_reducible exact block_new_drew rfl | with_reducible exact block_old_drew (block_new _ _) _ | with_reducible exact block_new _ _ | with_reducible exact block_old (block_new _ _) _ | with_reducible exact block_new_drew (by simp) | with_reducible exact block_new_at (by simp))) ?_); clear HI1; rintro e wA ⟨rfl, hq⟩; have fA := (show Fr (fun _ => False) w _ by repeat (first | exact Fr.refl _ _ | refine Fr.drew ?_ | refine Fr.alloc ?_ _)).next hq; (first | (have hz : wA.heap[w.heap.size]? = some (.cells #[.int .i64 (b.data.length : Int)] 3 (0, 0)) := by with_reducible exact hq.keep (block_old_drew (block_new _ _) _) (fun h => h)) | (have hz : wA.heap[w.heap.size + 1]? = some (.cells #[.int .i64 (b.data.length : Int)] 3 (0, 0)) := by with_reducible exact hq.keep (block_new_drew (by simp)) (fun h => h)) | (have hz : wA.heap[w.heap.size]? = some (.cells #[.int .i64 (b.data.length : Int)] 3 (0, 0)) := by with_reducible exact hq.keep (block_old (block_new _ _) _) (fun h => h)) | (have hz : wA.heap[w.heap.size + 1]? = some (.cells #[.int .i64 (b.data.length : Int)] 3 (0, 0)) := by with_reducible exact hq.keep (block_new_at (by simp)) (fun h => h)) | skip); (try (have zl := lt_of_block hz)); have s0_fA := fA.cell x0 (fun h => h); have s1_fA := fA.cell x1 (fun h => h); have s2_fA := fA.cell x2 (fun h => h); have s3_fA := fA.cell x3 (fun h => h); have hs_fA := fA.size; clear hq)
        | (have tok := s0_fA; clear tok; go_at_call 120; (with_reducible refine Calls.mono (HI2.out _ (show Fr (fun _ => False) w _ by repeat (first | exact Fr.refl _ _ | exact fA | refine Fr.drew ?_ | refine Fr.alloc ?_ _))) ?_); clear HI2; rintro e wV ⟨rfl, hq⟩; have fV := (show Fr (fun _ => False) w _ by repeat (first | exact Fr.refl _ _ | exact fA | refine Fr.drew ?_ | refine Fr.alloc ?_ _)).next hq; (first | (have hz := hq.keep hz (fun h => h)) | (have hz : wV.heap[wA.heap.size]? = some (.cells #[.int .i64 (b.data.length : Int)] 3 (0, 0)) := by first | with_reducible exact hq.keep (block_new_drew rfl) (fun h => h) | with_reducible exact hq.keep (block_new _ _) (fun h => h)) | skip); (try (have zl := lt_of_block hz)); have s0_fV := fV.cell x0 (fun h => h); have s1_fV := fV.cell x1 (fun h => h); have s2_fV := fV.cell x2 (fun h => h); have s3_fV := fV.cell x3 (fun h => h); have hs_fV := fV.size; clear hq)
        | (have tok := s0_fV; clear tok; go_at_call 120; (with_reducible refine Calls.mono (HI3.out _ _ (by first | exact hz | with_reducible exact block_new _ _ | with_reducible exact block_new_drew rfl)) ?_); clear HI3; rintro e wC ⟨rfl, hq⟩; have fC := (show Fr (fun _ => False) w _ by repeat (first | exact Fr.refl _ _ | exact fV | refine Fr.drew ?_ | refine Fr.alloc ?_ _)).next hq; have s0_fC := fC.cell x0 (fun h => h); have s1_fC := fC.cell x1 (fun h => h); have s2_fC := fC.cell x2 (fun h => h); have s3_fC := fC.cell x3 (fun h => h); have hs_fC := fC.size; clear hq)
        | fail)
    all_goals
      go_wp2_with fail
      go_meet
      exact ⟨by show _ = Value.string (bs (headL b)); rw [HHL.out]; first | rfl | rw [List.append_assoc], fC⟩
  case rest =>
    obtain ⟨rfl, hf⟩ := hcut.out
    have HJ := Lib.hid (hJ _ _ _ none h0 hf.grown_none (fun r e => by cases e))
    have HB2 := Lib.hid (hf.keep HB.out (fun h => h))
    obtain ⟨hc, hhc⟩ : ∃ c : Chunk, c.1 = headL b := ⟨⟨headL b, pays_short hr _ (List.mem_cons_self ..)⟩, rfl⟩
    obtain ⟨fn, tmps, assign, body, hy, hR⟩ := hY [] hc wc HJ.out (by simp [payloadsL])
    rw [hhc] at hy
    have HC := Lib.hid hhc
    clear hhc
    have HR2 := Lib.hid hR
    have HY := Lib.hid hY
    clear hR hY hJ h0 hcut
    rename_i hKK
    refine hKK _ _ (wpIn_wide (n := n).1 ?_)
    gi_wp2
    refine ⟨fun h => (by simp [Fence.wide] at h), ?_⟩
    refine HR2.out.mono ?_
    rintro e W1 (⟨rfl, hJ1, hF1⟩ | ⟨rfl, hJx⟩)
    · have hb1 := hF1 HB2.out
      have y3 := cell_of hb1 (i := 3) (v := .string (bs b.data)) rfl
      have HJ1 := Lib.hid hJ1
      clear hF1 hb1 hJ1 HR2
      rw [List.nil_append] at HJ1
      gi_wp2
      gi_loopg [4] (b.data.length + 1) (fun j v4 wr => ∃ (pre : List Chunk) (rest : Str), v4 = .string (bs rest) ∧ rest.length < j ∧ rest.length ≤ 1000000 ∧ Hid (vals pre ++ chunksL rest = payloadsL b) ∧ Hid (J pre wr))
      case atStart => exact ⟨[hc], b.data, rfl, by omega, hdat, by show vals [hc] ++ _ = _; unfold vals payloadsL; rw [List.map_cons, HC.out]; rfl, HJ1.out⟩
      case round =>
        obtain ⟨pre, rest, rfl, hlt, hle, HP, HJp⟩ := hrel
        by_cases h0 : rest = []
        · have t1 : ((bs rest).toList == []) = true := by rw [bs_toList, h0]; rfl
          have t2 : (bs rest).toList.isEmpty = true := by rw [bs_toList, h0]; rfl
          have HE : Hid (vals pre = payloadsL b) := by
            show vals pre = _
            have := HP.out
            rwa [h0, chunks_nil, List.append_nil] at this
          clear h0
          gi_wp2
          go_end0
          exact pay_all HE.out HJp.out
        · have t1 : ((bs rest).toList == []) = false := by rw [bs_toList]; exact beq_eq_false_iff_ne.2 h0
          have t2 : (bs rest).toList.isEmpty = false := by rw [bs_toList]; simpa using h0
          have t3 : decide (bs rest = ⟨#[]⟩) = false := decide_eq_false fun e => h0 (bs_inj e)
          have hpos : 0 < rest.length := List.length_pos_iff.2 h0
          have hsz : (bs rest).size = rest.length := rfl
          obtain ⟨m, hm, hm1, hm2, hm3⟩ : ∃ m : Nat, min (1000 : Int) (rest.length : Int) = (m : Int) ∧ 0 < m ∧ m ≤ rest.length ∧ rest.take m = rest.take 1000 ∧ rest.drop m = rest.drop 1000 := by
            rcases Nat.lt_or_ge rest.length 1000 with h | h
            · exact ⟨rest.length, by omega, hpos, Nat.le_refl _, by rw [List.take_of_length_le (Nat.le_refl _), List.take_of_length_le (by omega)], by rw [List.drop_eq_nil_of_le (Nat.le_refl _), List.drop_eq_nil_of_le (by omega)]⟩
            · exact ⟨1000, by omega, by decide, h, rfl, rfl⟩
          obtain ⟨ck, hck⟩ : ∃ c : Chunk, c.1 = rest.take 1000 := ⟨⟨rest.take 1000, by rw [List.length_take]; omega⟩, rfl⟩
          have hcat : vals (pre ++ [ck]) ++ chunksL (rest.drop 1000) = payloadsL b := by
            rw [vals_snoc, hck, List.append_assoc, ← HP.out, chunks_cons h0]; rfl
          have hlen : pre.length < (payloadsL b).length := by
            rw [← hcat, vals_snoc, List.length_append, List.length_append]; unfold vals; rw [List.length_map]; simp; omega
          have hs1 : (bs rest).extract 0 m = bs (rest.take 1000) := by rw [bs_mid, List.drop_zero, hm3.1]
          have hs2 : (bs rest).extract m rest.length = bs (rest.drop 1000) := by rw [bs_mid, List.take_of_length_le (Nat.le_refl _), hm3.2]
          obtain ⟨fn2, tmps2, assign2, body2, hy2, hR2⟩ := HY.out pre ck wr HJp.out hlen
          rw [hck] at hy2
          have HR3 := Lib.hid hR2
          have HK := Lib.hid hck
          have HQ := Lib.hid hcat
          have HD : (rest.drop 1000).length < rest.length := by rw [List.length_drop]; omega
          have HM3 := Lib.hid hm3
          clear hR2 hck hcat hlen hm3 h0
          gi_wp2
          refine ⟨fun h => (by simp [Fence.wide] at h), ?_⟩
          refine HR3.out.mono ?_
          rintro e W2 (⟨rfl, hJ2, hF2⟩ | ⟨rfl, hJx⟩)
          · have HJ2 := Lib.hid hJ2
            clear hJ2 hF2
            gi_wp2
            gi_roundg (rest.length)
            case measure => exact hlt
            case rel => exact ⟨pre ++ [ck], rest.drop 1000, by first | rfl | (rw [← hs2]; rfl), HD, by omega, HQ.out, HJ2.out⟩
          · gi_wp2
            go_end0
            exact pay_no (by rw [vals_snoc, HK.out, ← HP.out, chunks_cons (List.length_pos_iff.1 hpos)]; exact ⟨chunksL (rest.drop 1000), by simp⟩) hJx
    · gi_wp2
      go_end0
      exact pay_no (by unfold payloadsL vals; rw [List.nil_append, List.map_cons, HC.out]; exact ⟨chunksL b.data, rfl⟩) hJx
theorem pay_stops {w : World} {k n : Nat} {b : BaseD} {v : Value} (hB : w.heap[k]? = some (.cells #[.int .i64 b.index, .int .i64 b.term, v, .string (bs b.data)] 24 (0, 0))) (hb : BaseIn w (fun k => k < w.heap.size) b v) (hr : rightB b = true) :
    SeqStopsK Fence.wide n Tryz.prog 119 #[.pointer (some ⟨k, 0, none⟩)] (fun x : Chunk => #[.string (bs x.1)]) (KeepB k (.cells #[.int .i64 b.index, .int .i64 b.term, v, .string (bs b.data)] 24 (0, 0))) (fun xs => vals xs = payloadsL b) (fun pre => vals pre <+: payloadsL b) (payloadsL b).length w := by
  intro l J Jx W hW hJ _ hY h0
  have hf : Fr (fun k => w.heap.size ≤ k) w W := Fr.of_below hW
  have hk := lt_of_block hB
  refine callsIn_wide.2 ?_
  exact pay_h (n := n) (hf.keep hB (by omega)) ((hb.fr hf (fun j h1 h2 => by omega)).mono fun j h => Nat.lt_of_lt_of_le h hf.size) hr hJ hY h0
theorem keepB_t {k : Nat} {o : Obj} {A B C : World} (h : KeepB k o A B) (j : KeepB k o B C) : KeepB k o A C := fun e => j (h e)
theorem keepB_b {k : Nat} {o : Obj} {w : World} (hk : k < w.heap.size) (W : World) (l : Nat) (o1 o2 : Obj) (hl : w.heap.size ≤ l) (_ : W.heap[l]? = some o1) (_ : o1.isCells = false) (_ : o1.isWalk = false) : KeepB k o W (W.putObj l o2) :=
  fun e => (World.putObj_heap_other (by omega)).trans e
theorem chunk_pays {b : BaseD} : (payloadsL b).length ≤ b.data.length + 1 := by
  have : ∀ (n : Nat) (d : Str), d.length ≤ n → (chunksL d).length ≤ d.length := by
    intro n
    induction n with
    | zero => intro d h; rw [List.eq_nil_of_length_eq_zero (by omega : d.length = 0)]; simp [chunks_nil]
    | succ n ih =>
      intro d h
      by_cases e : d = []
      · rw [e]; simp [chunks_nil]
      · have hp := List.length_pos_iff.2 e
        rw [chunks_cons e, List.length_cons]
        have := ih (d.drop 1000) (by rw [List.length_drop]; omega)
        rw [List.length_drop] at this; omega
  unfold payloadsL
  rw [List.length_cons]
  have := this _ b.data (Nat.le_refl _)
  omega
end Go.Proofs.YtgmghopcppniaaaGreatDoor
