/- snap.write: walked. -/
import Derived.Test.YtgmghopcppniaaaGreatDoorS19
import Derived.Test.YtgmghopcppniaaaGreatDoorKA
namespace Go.Proofs.YtgmghopcppniaaaGreatDoor
open Go.RowKit Go.Lib Go.Shelf

attribute [local go_sem] Oper.semAt_some
theorem pour_snoc : ∀ (l : List Str) (p : Str) (D : DiskD), (pourD l D).1 = 0 → pourD (l ++ [p]) D = appendD (pourD l D).2 freshN (frameL p)
  | [], p, D, _ => by
    show (if (appendD D freshN (frameL p)).1 ≠ 0 then appendD D freshN (frameL p) else pourD [] (appendD D freshN (frameL p)).2) = _
    split
    · rfl
    · rename_i h
      show (0, (appendD D freshN (frameL p)).2) = appendD D freshN (frameL p)
      rw [← Decidable.not_not.1 h]
  | q :: l, p, D, h => by
    show (if (appendD D freshN (frameL q)).1 ≠ 0 then appendD D freshN (frameL q) else pourD (l ++ [p]) (appendD D freshN (frameL q)).2) = appendD (if (appendD D freshN (frameL q)).1 ≠ 0 then appendD D freshN (frameL q) else pourD l (appendD D freshN (frameL q)).2).2 freshN (frameL p)
    have h' : (if (appendD D freshN (frameL q)).1 ≠ 0 then appendD D freshN (frameL q) else pourD l (appendD D freshN (frameL q)).2).1 = 0 := h
    by_cases h0 : (appendD D freshN (frameL q)).1 ≠ 0
    · rw [if_pos h0] at h'; exact absurd h' h0
    · rw [if_neg h0] at h' ⊢
      rw [if_neg h0]
      exact pour_snoc l p _ h'
theorem pour_stop : ∀ (l r : List Str) (D : DiskD), (pourD l D).1 ≠ 0 → pourD (l ++ r) D = pourD l D
  | [], r, D, h => absurd rfl h
  | q :: l, r, D, h => by
    have h' : (if (appendD D freshN (frameL q)).1 ≠ 0 then appendD D freshN (frameL q) else pourD l (appendD D freshN (frameL q)).2).1 ≠ 0 := h
    show (if (appendD D freshN (frameL q)).1 ≠ 0 then appendD D freshN (frameL q) else pourD (l ++ r) (appendD D freshN (frameL q)).2) = (if (appendD D freshN (frameL q)).1 ≠ 0 then appendD D freshN (frameL q) else pourD l (appendD D freshN (frameL q)).2)
    by_cases h0 : (appendD D freshN (frameL q)).1 ≠ 0
    · rw [if_pos h0, if_pos h0]
    · rw [if_neg h0] at h'
      rw [if_neg h0, if_neg h0]
      exact pour_stop l r _ h'
theorem Fr.turn {o : Nat → Prop} {a b c : World} {B : Nat} {row : Option Nat} (h : Fr o a b) (hg : b.grownBy c row) (hr : ∀ r, row = some r → B ≤ r) (hB : a.heap.size ≤ B) : Fr o a c :=
  h.grown hg fun k e => .inr (Nat.le_trans hB (hr k e))
theorem turn_fr {b c : World} {B : Nat} {row : Option Nat} (hg : b.grownBy c row) (hr : ∀ r, row = some r → B ≤ r) : Fr (fun k => B ≤ k) b c :=
  ⟨hg.os, hg.tape, hg.output, hg.size, fun k hk hn => hg.block k hk fun e => hn (hr k e.symm)⟩
theorem fr_own_from {pb mb B : Nat} {w w' : World} (h : Fr (Own pb mb) w w') (h1 : pb < B) (h2 : mb < B) : KeepsFrom B w w' :=
  ⟨h.size, fun k o hk ho _ => h.keep ho (fun e => by rcases e with e | e <;> omega)⟩
theorem fr_own_keepB {pb mb k : Nat} {o : Obj} {w w' : World} (h : Fr (Own pb mb) w w') (h1 : k ≠ pb) (h2 : k ≠ mb) : KeepB k o w w' := fun e => h.keep e (fun e => by rcases e with e | e <;> omega)
theorem own_ge {pb mb k n : Nat} (h1 : pb < n) (h2 : mb < n) (h : n ≤ k) : ¬ Own pb mb k := by rintro (e | e) <;> omega
/-- between two rounds: the three boxes -/
structure WBox (w : World) (pb : Nat) (b : BaseD) (v : Value) (x : Int) (W : World) : Prop where
  d : W.heap[w.heap.size]? = some (.cells #[.pointer (some ⟨pb, 0, none⟩)] 39 (0, 0))
  b : W.heap[w.heap.size + 1]? = some (.cells #[.int .i64 b.index, .int .i64 b.term, v, .string (bs b.data)] 24 (0, 0))
  r : W.heap[w.heap.size + 1 + 1]? = some (.cells #[.int .i64 x] 27 (0, 0))
theorem WBox.fr {w W W' : World} {pb : Nat} {b : BaseD} {v : Value} {x : Int} {o : Nat → Prop} (h : WBox w pb b v x W) (hf : Fr o W W') (h0 : ¬ o w.heap.size) (h1 : ¬ o (w.heap.size + 1)) (h2 : ¬ o (w.heap.size + 1 + 1)) : WBox w pb b v x W' := ⟨hf.keep h.d h0, hf.keep h.b h1, hf.keep h.r h2⟩
structure WIs (w : World) (pb mb : Nat) (b : BaseD) (v : Value) (x : Int) (p : Int × DiskD) (W : World) : Prop where
  box : WBox w pb b v x W
  disk : DiskAt W pb mb p.2
  fr : Fr (Own pb mb) w W
theorem WIs.turn {w W W' : World} {pb mb B : Nat} {b : BaseD} {v : Value} {x : Int} {p : Int × DiskD} {row : Option Nat} (h : WIs w pb mb b v x p W) (hg : W.grownBy W' row) (hr : ∀ r, row = some r → B ≤ r) (hB : w.heap.size + 3 ≤ B) (h1 : pb < w.heap.size) (h2 : mb < w.heap.size) : WIs w pb mb b v x p W' :=
  ⟨h.box.fr (turn_fr hg hr) (by omega) (by omega) (by omega), h.disk.fr (turn_fr hg hr) (by omega) (by omega), h.fr.turn hg hr (by omega)⟩
theorem WIs.put {w W : World} {pb mb : Nat} {b : BaseD} {v : Value} {x : Int} {p : Int × DiskD} (h : WIs w pb mb b v x p W) (y : Int) (h1 : pb < w.heap.size) (h2 : mb < w.heap.size) : WIs w pb mb b v y p (W.setCell ⟨w.heap.size + 1 + 1, 0, none⟩ (.int .i64 y)) := by
  have hf : Fr (fun k => k = w.heap.size + 1 + 1) W (W.setCell ⟨w.heap.size + 1 + 1, 0, none⟩ (.int .i64 y)) := (Fr.refl (fun k => k = w.heap.size + 1 + 1) W).setCell (p := ⟨w.heap.size + 1 + 1, 0, none⟩) (.inl rfl) _
  exact ⟨⟨hf.keep h.box.d (by omega), hf.keep h.box.b (by omega), block_set h.box.r 0 _⟩, h.disk.fr hf (by omega) (by omega), h.fr.setCell (p := ⟨w.heap.size + 1 + 1, 0, none⟩) (.inr (show w.heap.size ≤ w.heap.size + 1 + 1 by omega)) _⟩
set_option maxRecDepth 100000 in
set_option maxHeartbeats 8000000 in
theorem write_h {w : World} {pb mb : Nat} {D : DiskD} {b : BaseD} {v : Value} (hE : Env w) (h8 : 8 ≤ pb ∧ 8 ≤ mb) (hD : DiskAt w pb mb D) (h : BaseIn w (fun k => k < w.heap.size) b v) (hr : rightB b = true) :
    Calls Tryz.prog 69 #[.pointer (some ⟨pb, 0, none⟩), baseV b v] w (Does pb mb (writeD D b) w) := by
  have hrow := h.row
  obtain ⟨a, cap, rfl, hcap, hcap2⟩ := hrow.form
  clear hrow
  have hpb : pb < w.heap.size := lt_of_block hD.head
  have hmb : mb < w.heap.size := hD.map.lt
  have HH := Lib.hid h
  have HD := Lib.hid hD
  have HRB := Lib.hid hr
  clear h hD hr
  refine (callsIn_wide (n := 5)).1 ?_
  refine callsIn_of_wp_marks Tryz.func69 rfl trivial ?_ rfl
  simp only [Tryz.ntmps69, List.size_toArray, List.length_cons, List.length_nil, Nat.reduceAdd, Nat.reduceSub, Array.replicate_succ, Array.replicate_zero, List.push_toArray, List.append_toArray, List.nil_append, List.cons_append]
  refine wpIn_wide.2 ?_
  have HA : baseV b (.slice a b.voters.length cap) = .agg #[.int .i64 b.index, .int .i64 b.term, .slice a b.voters.length cap, .string (bs b.data)] := rfl
  rw [HA]
  obtain ⟨w1, hw1⟩ : ∃ w1, w1 = ((w.alloc (.cells #[.pointer (some ⟨pb, 0, none⟩)] 39)).alloc (.cells #[.int .i64 b.index, .int .i64 b.term, .slice a b.voters.length cap, .string (bs b.data)] 24)).alloc (.cells #[.int .i64 0] 27) := ⟨_, rfl⟩
  have HF1 : Hid (Fr (fun _ => False) w w1) := by show Fr _ _ _; rw [hw1]; exact (((Fr.refl _ _).alloc _).alloc _).alloc _
  have HB1 : Hid (WBox w pb b (.slice a b.voters.length cap) 0 w1) := by
    show WBox _ _ _ _ _ _
    rw [hw1]
    exact ⟨block_old (block_old (block_new _ _) _) _, block_old (block_new_at (by simp)) _, block_new_at (by simp)⟩
  have hs1 : w1.heap.size = w.heap.size + 3 := by rw [hw1]; simp
  have x0 := cell_of HB1.out.b (i := 0) (v := .int .i64 b.index) rfl
  have x1 := cell_of HB1.out.b (i := 1) (v := .int .i64 b.term) rfl
  have x2 := cell_of HB1.out.b (i := 2) (v := .slice a b.voters.length cap) rfl
  have x3 := cell_of HB1.out.b (i := 3) (v := .string (bs b.data)) rfl
  have HS1 := Lib.hid hs1
  clear HA hs1
  go_wp2_with fail
  rw [← hw1]
  clear hw1
  refine Calls.mono (payloads_h (b := b) (v := .slice a b.voters.length cap)) ?_
  rintro e w' ⟨rfl, rfl⟩
  have hs1 := HS1.out
  obtain ⟨w4, hw4⟩ : ∃ w4, w4 = w1.alloc (.cells #[.int .i64 b.index, .int .i64 b.term, .slice a b.voters.length cap, .string (bs b.data)] 24) := ⟨_, rfl⟩
  have hF14 : Fr (fun _ => False) w1 w4 := by rw [hw4]; exact (Fr.refl _ _).alloc _
  have hF4 := HF1.out.next hF14
  have hB4 : w4.heap[w.heap.size + 3]? = some (.cells #[.int .i64 b.index, .int .i64 b.term, .slice a b.voters.length cap, .string (bs b.data)] 24 (0, 0)) := by rw [hw4, ← hs1]; exact block_new _ _
  have hH4 : BaseIn w4 (fun k => k < w4.heap.size) b (.slice a b.voters.length cap) := (HH.out.grow hF4).mono fun k hk => Nat.lt_of_lt_of_le hk hF4.size
  have hI4 : WIs w pb mb b (.slice a b.voters.length cap) 0 (0, D) w4 := ⟨HB1.out.fr hF14 (fun h => h) (fun h => h) (fun h => h), HD.out.grow hF4, hF4.mono fun _ _ h => h.elim⟩
  have hs4 : w4.heap.size = w.heap.size + 4 := by rw [hw4]; simp; omega
  rw [← hw4]
  clear hw4 hF14 x0 x1 x2 x3
  go_wp2_with fail
  refine (wpIn_wide (n := 5)).1 ?_
  refine wpIn_rangeFunc_ownG (F := Fence.wide) rfl (by decide) (gf := 119) (lb := #[.pointer (some ⟨w.heap.size + 3, 0, none⟩)]) rfl trivial (enters_of Tryz.func119 (by kernel_rfl) rfl)
    (pay_stops hB4 hH4 HRB.out) keepB_t (keepB_b (lt_of_block hB4)) (Below.refl _ _) (fun _ => rfl)
    (fun pre W => WIs w pb mb b (.slice a b.voters.length cap) 0 (pourD (vals pre) D) W ∧ (pourD (vals pre) D).1 = 0)
    (fun c pre W => c = .ret ∧ WIs w pb mb b (.slice a b.voters.length cap) (pourD (vals pre) D).1 (pourD (vals pre) D) W ∧ (pourD (vals pre) D).1 ≠ 0) ?hI ?hIx ?h0
    (fun x => { tmps := #[.pointer (some ⟨pb, 0, none⟩), .agg #[.int .i64 b.index, .int .i64 b.term, .slice a b.voters.length cap, .string (bs b.data)], .pointer (some ⟨w.heap.size, 0, none⟩), .pointer (some ⟨w.heap.size + 1, 0, none⟩), .pointer (some ⟨w.heap.size + 1 + 1, 0, none⟩), .string (bs x.1), undef, undef, undef, undef, .agg #[.int .i64 b.index, .int .i64 b.term, .slice a b.voters.length cap, .string (bs b.data)], .func (.func 119) #[] #[.pointer (some ⟨w.heap.size + 3, 0, none⟩)], .string (bs x.1), undef, undef, undef, undef, undef, undef, undef, undef, undef, undef, undef, undef, undef, undef, undef, undef, undef, undef, undef, undef, undef], defers := [] }) ?assign ?body ?done ?stop
  case hI => exact fun s A B row hs hg hr => ⟨hs.1.turn (B := w4.heap.size) hg (fun r e => (hr r e).1) (by omega) hpb hmb, hs.2⟩
  case hIx => exact fun c s A B row hs hg hr => ⟨hs.1, hs.2.1.turn (B := w4.heap.size) hg (fun r e => (hr r e).1) (by omega) hpb hmb, hs.2.2⟩
  case h0 => exact ⟨hI4, rfl⟩
  case assign =>
    intro l x W K hK
    gi_wp2
    exact hK
  case body =>
    rintro l pre x W ⟨hi, hz⟩ hlt
    obtain ⟨x, hx⟩ := x
    dsimp only
    have d0 := cell_of hi.box.d (i := 0) (v := .pointer (some ⟨pb, 0, none⟩)) rfl
    have HI := Lib.hid hi
    have HZ := Lib.hid hz
    have HF5 := Lib.hid (frame_ok (w := W) x (by omega))
    have hfl := frame_len x
    clear hi hz hB4 hH4 hI4
    gi_wp2_with ((first | refine ⟨trivial, ?_⟩ | skip); gi_at_call 67; refine (CallsIn.inRound l (callsIn_wide.2 HF5.out)).mono ?_)
    rintro e W1 ⟨rfl, hf1⟩
    have d1 := hf1.cell d0 (fun h => h)
    have HA1 := Lib.hid (append_h (HI.out.disk.grow hf1) freshN (frameL x) (by decide) (by omega))
    have HF1 := Lib.hid hf1
    clear hf1 d0
    have HP : Hid (pourD (vals (pre ++ [(⟨x, hx⟩ : Chunk)])) D = appendD (pourD (vals pre) D).2 freshN (frameL x)) := by
      show pourD _ D = _
      rw [vals_snoc]; exact pour_snoc _ _ _ HZ.out
    obtain ⟨q, hq⟩ : ∃ q, appendD (pourD (vals pre) D).2 freshN (frameL x) = q := ⟨_, rfl⟩
    rw [hq] at HA1 HP
    clear hq
    gi_wp2_with ((first | refine ⟨trivial, ?_⟩ | skip); gi_at_call 32; refine (CallsIn.inRound l (callsIn_wide.2 HA1.out)).mono ?_)
    rintro e W2 ⟨rfl, h2, h3⟩
    have hb2 : WBox w pb b (.slice a b.voters.length cap) 0 W2 := (HI.out.box.fr HF1.out (fun h => h) (fun h => h) (fun h => h)).fr h3 (own_ge hpb hmb (by omega)) (own_ge hpb hmb (by omega)) (own_ge hpb hmb (by omega))
    have HW : Hid (WIs w pb mb b (.slice a b.voters.length cap) 0 q W2) := ⟨hb2, h2, (HI.out.fr.trans HF1.out (fun _ h => h.elim)).next h3⟩
    have r0 := cell_of hb2.r (i := 0) (v := .int .i64 0) rfl
    have rf := free_of 0 hb2.r
    have HKF := Lib.hid ((fr_from (B := w4.heap.size) HF1.out).trans (fr_own_from h3 (by omega) (by omega)))
    have HKB := Lib.hid (fun (o : Obj) => keepB_t (k := w.heap.size + 3) (o := o) (fr_keepB HF1.out) (fr_own_keepB h3 (by omega) (by omega)))
    clear h2 h3 hb2
    by_cases he : q.1 = 0
    · have q1 : (q.1 == 0) = true := by simpa using he
      have q2 : decide (q.1 = 0) = true := by simpa using he
      have HE := Lib.hid he
      clear he
      gi_wp2
      exact ⟨HKF.out, HKB.out _, by rw [HP.out]; exact HW.out, by rw [HP.out]; exact HE.out⟩
    · have q1 : (q.1 == 0) = false := by simpa using he
      have q2 : decide (q.1 = 0) = false := by simpa using he
      have HE := Lib.hid he
      clear he
      gi_wp2
      exact ⟨HKF.out.trans ((KeepsOthers.setCell _ _ _).from _), rfl, by rw [HP.out]; exact HW.out.put q.1 hpb hmb, by rw [HP.out]; exact HE.out⟩
  case done =>
    rintro Dd ys W hDl hys ⟨hi, hz⟩ hK
    rw [hys] at hi hz
    have d0 := cell_of hi.box.d (i := 0) (v := .pointer (some ⟨pb, 0, none⟩)) rfl
    have HI := Lib.hid hi
    have HZ := Lib.hid hz
    have HK := Lib.hid hK
    have HS := Lib.hid (sync_h hi.disk freshN)
    have HWD : Hid (writeD D b = if (syncD (pourD (payloadsL b) D).2 freshN).1 ≠ 0 then syncD (pourD (payloadsL b) D).2 freshN else renameD (syncD (pourD (payloadsL b) D).2 freshN).2 freshN (nameS b.index)) := by
      show writeD D b = _
      unfold writeD
      rw [if_neg (by rw [hz]; simp)]
    obtain ⟨q, hq⟩ : ∃ q, syncD (pourD (payloadsL b) D).2 freshN = q := ⟨_, rfl⟩
    rw [hq] at HS HWD
    clear hq hi hz hK hys hB4 hH4 hI4
    go_wp2_with (go_at_call 126; refine Calls.mono HS.out ?_)
    rintro e W2 ⟨rfl, h2, h3⟩
    have hb2 := HI.out.box.fr h3 (own_ge hpb hmb (by omega)) (own_ge hpb hmb (by omega)) (own_ge hpb hmb (by omega))
    have HW : Hid (WIs w pb mb b (.slice a b.voters.length cap) 0 q W2) := ⟨hb2, h2, HI.out.fr.next h3⟩
    have HK2 := Lib.hid (h3.keep HK.out (own_ge hpb hmb (by omega)))
    have r0 := cell_of hb2.r (i := 0) (v := .int .i64 0) rfl
    have rf := free_of 0 hb2.r
    have d2 := cell_of hb2.d (i := 0) (v := .pointer (some ⟨pb, 0, none⟩)) rfl
    have i2 := cell_of hb2.b (i := 0) (v := .int .i64 b.index) rfl
    have rl := lt_of_block hb2.r
    clear h2 h3 hb2 d0
    by_cases he : q.1 = 0
    · have q1 : (q.1 == 0) = true := by simpa using he
      have q2 : decide (q.1 = 0) = true := by simpa using he
      have HE : Hid (writeD D b = renameD q.2 freshN (nameS b.index)) := by show writeD D b = _; rw [HWD.out, if_neg (fun h => h he)]
      clear he
      have hbi := right_parts HRB.out
      have hE2 := (hE.fr (HW.out.fr) (fun k hk => by rintro (e | e) <;> omega))
      have HNM := Lib.hid (fun (W : World) (hF : Fr (fun _ => False) W2 W) => sname_h (w := W) (hE2.grow hF) hbi.2.1 hbi.2.2.1)
      have hnl : (nameS b.index).length ≤ 1000000 := by unfold nameS; rw [List.length_cons]; have := decHi_len 18 b.index.toNat (by omega); omega
      have HRN := Lib.hid (fun (W : World) (hF : Fr (fun _ => False) W2 W) => rename_h (HW.out.disk.grow hF) freshN (nameS b.index) hnl)
      obtain ⟨u, hu⟩ : ∃ u, renameD q.2 freshN (nameS b.index) = u := ⟨_, rfl⟩
      rw [hu] at HE HRN
      have HWU := Lib.hid (fun (W : World) (hW : DiskAt W pb mb u.2) (hf : Fr (Own pb mb) W2 W) => show WIs w pb mb b (.slice a b.voters.length cap) 0 u W from ⟨HW.out.box.fr hf (own_ge hpb hmb (by omega)) (own_ge hpb hmb (by omega)) (own_ge hpb hmb (by omega)), hW, HW.out.fr.next hf⟩)
      have nx1 : ¬ w.heap.size = w.heap.size + 1 + 1 := by omega
      have nx2 : ¬ w.heap.size + 1 + 1 = w.heap.size := by omega
      clear hu hbi hE2
      go_wp2_with fail
      go_region_held3 (fun w' => w'.cell? ⟨w.heap.size, 0, none⟩ = some (.pointer (some ⟨pb, 0, none⟩)) ∧ w'.cell? ⟨w.heap.size + 1, 0, none⟩ = some (.int .i64 b.index))
        (first | go_keep | (with_reducible exact ⟨s0_r, s1_r⟩) | (with_reducible exact ⟨s0_n, s1_n⟩) | fail)
        (first
          | (go_at_call 128; (with_reducible refine Calls.mono (HNM.out _ (show Fr (fun _ => False) W2 _ by repeat (first | exact Fr.refl _ _ | exact fN | refine Fr.drew ?_))) ?_); clear HNM; rintro e w5 ⟨rfl, hq⟩; have fN := (show Fr (fun _ => False) W2 _ by repeat (first | exact Fr.refl _ _ | exact fN | refine Fr.drew ?_)).next hq; have s0_n := fN.cell d2 (fun h => h); have s1_n := fN.cell i2 (fun h => h); clear hq)
          | (have tok := s0_n; clear tok; go_at_call 127; (refine Calls.mono (HRN.out _ (show Fr (fun _ => False) W2 _ by repeat (first | exact Fr.refl _ _ | exact fN | refine Fr.drew ?_))) ?_); clear HRN; rintro e w6 ⟨rfl, hq1, hq2⟩; have fR := ((show Fr (fun _ => False) W2 _ by repeat (first | exact Fr.refl _ _ | exact fN | refine Fr.drew ?_)).mono (o2 := Own pb mb) (fun _ _ h => h.elim)).next hq2; have HX := Lib.hid (HWU.out _ hq1 fR); have s0_r := cell_of HX.out.box.d (i := 0) (v := .pointer (some ⟨pb, 0, none⟩)) rfl; have s1_r := cell_of HX.out.box.b (i := 0) (v := .int .i64 b.index) rfl; have z0 := cell_of HX.out.box.r (i := 0) (v := .int .i64 0) rfl; have zf := free_of 0 HX.out.box.r; have zl := lt_of_block HX.out.box.r; clear hq1 hq2)
          | fail)
      all_goals
        go_wp2_with fail
        have hWp := HX.out.put u.1 hpb hmb
        have hKp := (block_set_ne (w := w6) (k := Dd) (b := w.heap.size + 1 + 1) (i := 0) (by omega) (v := .int .i64 u.1)).trans (fR.keep HK2.out (own_ge hpb hmb (by omega)))
        refine ⟨by simp, .inl ⟨_, _, rfl, run_takeDeferred hKp, ?_⟩⟩
        have hT := hWp.turn (B := w.heap.size + 3) (grownBy_putObj' _ Dd (.deferred none)) (fun r e => by cases e; omega) (Nat.le_refl _) hpb hmb
        have e0 := cell_of hT.box.r (i := 0) (v := .int .i64 u.1) rfl
        refine ⟨_, (by simp [results, Tryz.results69, go_sem, e0] <;> rfl), ?_⟩
        rw [HE.out]
        exact ⟨rfl, hT.disk, hT.fr⟩
    · have q1 : (q.1 == 0) = false := by simpa using he
      have q2 : decide (q.1 = 0) = false := by simpa using he
      have HE : Hid (writeD D b = q) := by show writeD D b = _; rw [HWD.out, if_pos he]
      clear he
      go_wp2_with fail
      have hWp := HW.out.put q.1 hpb hmb
      have hKp := (block_set_ne (w := W2) (k := Dd) (b := w.heap.size + 1 + 1) (i := 0) (by omega) (v := .int .i64 q.1)).trans HK2.out
      refine ⟨by simp, .inl ⟨_, _, rfl, run_takeDeferred hKp, ?_⟩⟩
      have hT := hWp.turn (B := w.heap.size + 3) (grownBy_putObj' _ Dd (.deferred none)) (fun r e => by cases e; omega) (Nat.le_refl _) hpb hmb
      have e0 := cell_of hT.box.r (i := 0) (v := .int .i64 q.1) rfl
      refine ⟨_, (by simp [results, Tryz.results69, go_sem, e0] <;> rfl), ?_⟩
      rw [HE.out]
      exact ⟨rfl, hT.disk, hT.fr⟩
  case stop =>
    rintro Dd c pre W hDl hpre ⟨rfl, hi, hz⟩ hK
    have HE : Hid (writeD D b = pourD (vals pre) D) := by
      show writeD D b = _
      obtain ⟨r, hr⟩ := hpre
      have : pourD (payloadsL b) D = pourD (vals pre) D := by rw [← hr]; exact pour_stop _ _ _ hz
      unfold writeD
      rw [this, if_pos hz]
    have HI := Lib.hid hi
    have HK := Lib.hid hK
    clear hi hz hK hpre hB4 hH4 hI4
    gi_wp2
    refine ⟨by simp, .inl ⟨_, _, rfl, run_takeDeferred HK.out, ?_⟩⟩
    have hT := HI.out.turn (B := w.heap.size + 3) (grownBy_putObj' _ Dd (.deferred none)) (fun r e => by cases e; omega) (Nat.le_refl _) hpb hmb
    have e0 := cell_of hT.box.r (i := 0) (v := .int .i64 (pourD (vals pre) D).1) rfl
    refine ⟨_, (by simp [results, Tryz.results69, go_sem, e0] <;> rfl), ?_⟩
    rw [HE.out]
    exact ⟨rfl, hT.disk, hT.fr⟩
end Go.Proofs.YtgmghopcppniaaaGreatDoor
