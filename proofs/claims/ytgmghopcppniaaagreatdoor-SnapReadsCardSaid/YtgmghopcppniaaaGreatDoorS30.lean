/- The law SnapReads: walked. -/
import Derived.Test.YtgmghopcppniaaaGreatDoorR10
import Derived.Test.YtgmghopcppniaaaGreatDoorS29
import Derived.Lib.ConvBytes
namespace Go.Proofs.YtgmghopcppniaaaGreatDoor
open Go.RowKit Go.Lib

def unpD (s : Str) : BaseD × Int := match unpackL s with | .error e => (zeroB, e) | .ok b => (b, 0)
def UnpAny (x : BaseD) (er : Int) (w : World) (e : Ending) (w' : World) : Prop := ∃ (a : Option Addr) (c : Nat), e = .returned (.tuple #[.agg #[.int .i64 x.index, .int .i64 x.term, .slice a x.voters.length c, .string (bs x.data)], .int .i64 er]) ∧ BaseIn w' (fun k => w.heap.size ≤ k ∧ k < w'.heap.size) x (.slice a x.voters.length c) ∧ Fr (fun _ => False) w w'
theorem unp_any {w w' : World} {e : Ending} {s : Str} {x : BaseD} {er : Int} (hp : UnpPost s w e w') (h : unpD s = (x, er)) : UnpAny x er w e w' := by
  unfold UnpPost at hp
  unfold unpD at h
  cases hu : unpackL s with
  | error e2 =>
    rw [hu] at hp h
    simp only [Prod.mk.injEq] at h
    obtain ⟨rfl, rfl⟩ := h
    obtain ⟨rfl, hf⟩ := hp
    exact ⟨none, 0, rfl, ⟨SRow.nil _ _ _, (fun _ h => by cases h), (by show I64 0; exact ⟨by decide, by decide⟩), (by show I64 0; exact ⟨by decide, by decide⟩), by simp [zeroB]⟩, hf⟩
  | ok b =>
    rw [hu] at hp h
    simp only [Prod.mk.injEq] at h
    obtain ⟨rfl, rfl⟩ := h
    obtain ⟨v, rfl, hb, hf⟩ := hp
    obtain ⟨a, c, rfl, _⟩ := hb.row.form
    exact ⟨a, c, rfl, hb, hf⟩
theorem pun_h {w : World} {s : Str} {x : BaseD} {er : Int} (hs : s.length ≤ 1000000) (h : unpD s = (x, er)) : Calls Tryz.prog 16 #[.string (bs s)] w (UnpAny x er w) := (unpack_h s hs).mono fun _ _ hp => unp_any hp h
theorem run_h {w : World} {s : Str} {x : BaseD} {er : Int} (hs : s.length ≤ 1000000) (h : unpD s = (x, er)) : Calls Tryz.prog 17 #[.string (bs s)] w (UnpAny x er w) := (runpack_h s hs).mono fun _ _ hp => unp_any hp h
theorem same_ok {w : World} {S S' : Nat → Prop} {x : BaseD} {a b : Option Addr} {c d : Nat} (hA : BaseIn w S x (.slice a x.voters.length c)) (hB : BaseIn w S' x (.slice b x.voters.length d)) :
    Calls Tryz.prog 18 #[.agg #[.int .i64 x.index, .int .i64 x.term, .slice a x.voters.length c, .string (bs x.data)], .agg #[.int .i64 x.index, .int .i64 x.term, .slice b x.voters.length d, .string (bs x.data)]] w fun e w' => e = .returned (.bool true) ∧ Fr (fun _ => False) w w' := by
  refine (same_h hA hB).mono ?_
  rintro e w' ⟨rfl, hf⟩
  exact ⟨by rw [decide_eq_true rfl], hf⟩
/-- a row of bytes of one's own -/
structure CB (W : World) (g : Nat) (l : Str) : Prop where
  cells : ∀ j u, l[j]? = some u → W.cell? ⟨g, j, none⟩ = some (.int .u8 (u.toNat : Int))
theorem CB.conv {W : World} {g cap : Nat} {l : Str} (h : CB W g l) : Sem.run Tryz.prog (convert 33 9 (.slice (some ⟨g, 0, none⟩) l.length cap)) W = .ok (.string (bs l)) W :=
  run_convert_bytes_back _ 33 9 5 ⟨g, 0, none⟩ cap l Tryz.underlying33 Tryz.underlying5 Tryz.underlying9 fun j hj => by rw [Addr.add_lit, Nat.zero_add]; exact h.cells j _ (List.getElem?_eq_getElem hj)
theorem CB.fr {W W' : World} {o : Nat → Prop} {g : Nat} {l : Str} (h : CB W g l) (hf : Fr o W W') (hg : ¬ o g) : CB W' g l := ⟨fun j u hu => hf.cell (h.cells j u hu) hg⟩
theorem cb_new {w : World} {T : Str} : CB (Lib.bytesWorld w 5 (bs T)) w.heap.size T := by
  refine ⟨fun j u hu => ?_⟩
  have hj : j < T.length := by
    rcases Nat.lt_or_ge j T.length with h | h
    · exact h
    · rw [List.getElem?_eq_none h] at hu; cases hu
  rw [Lib.bytesWorld_cell w 5 (bs T) j hj, bs_data, List.getD_eq_getElem?_getD, hu]; rfl
theorem fr_bytes {w : World} {T : Str} : Fr (fun _ => False) w (Lib.bytesWorld w 5 (bs T)) :=
  ⟨rfl, rfl, rfl, by rw [Lib.bytesWorld_size]; omega, fun i hi _ => Lib.bytesWorld_at_old w 5 (bs T) i hi⟩
theorem free_bytes {w : World} {T : Str} {j : Nat} (hj : j < T.length) : (Lib.bytesWorld w 5 (bs T)).frozen? ⟨w.heap.size, j, none⟩ = false := by
  have h := Lib.bytesWorld_at_new w 5 (bs T)
  have h2 : j < (Lib.bytesCells w 5 (bs T)).size := by
    unfold Lib.bytesCells
    simp [bs]
    omega
  unfold World.frozen?
  simp only [h]
  simp
  omega
theorem CB.set {W : World} {g q : Nat} {l : Str} {c : UInt8} (h : CB W g l) (hq : q < l.length) : CB (W.setCell ⟨g, q, none⟩ (.int .u8 (c.toNat : Int))) g (l.set q c) := by
  refine ⟨fun j u hu => ?_⟩
  by_cases hj : q = j
  · subst hj
    rw [List.getElem?_set_self (by simpa using hq)] at hu
    obtain rfl := Option.some.inj hu
    obtain ⟨u0, hu0⟩ : ∃ u, l[q]? = some u := ⟨_, List.getElem?_eq_getElem hq⟩
    exact World.cell?_setCell_same _ _ _ (h.cells q u0 hu0)
  · rw [List.getElem?_set_ne hj] at hu
    rw [World.cell?_setCell_other _ _ _ _ (by simp)]
    exact h.cells j u hu
theorem Fr.set4 {W : World} {X : Nat} {a b c d : Value} : Fr (fun k => k = X) W ((((W.setCell ⟨X, 0, none⟩ a).setCell ⟨X, 1, none⟩ b).setCell ⟨X, 2, none⟩ c).setCell ⟨X, 3, none⟩ d) :=
  ((((Fr.refl (fun k => k = X) W).setCell (p := ⟨X, 0, none⟩) (.inl rfl) a).setCell (p := ⟨X, 1, none⟩) (.inl rfl) b).setCell (p := ⟨X, 2, none⟩) (.inl rfl) c).setCell (p := ⟨X, 3, none⟩) (.inl rfl) d
theorem Fr.old {w a b : World} {X : Nat} (h : Fr (fun _ => False) w a) (k : Fr (fun k => k = X) a b) (hX : w.heap.size ≤ X) : Fr (fun _ => False) w b :=
  h.trans k fun i hi => .inr (by rw [hi]; exact hX)
set_option maxRecDepth 100000 in
set_option maxHeartbeats 16000000 in
theorem snapreads_h {w : World} (hE : Env w) (h8 : 8 ≤ w.heap.size) (s : Str) (hs : s.length ≤ 9223372036854775807) {b : BaseD} {v : Value} (h : BaseRaw w (fun k => k < w.heap.size) b v) {ia ib : Int} (hia : I64 ia) (hto : I64 ib) :
    Calls Tryz.prog 3 #[.string (bs s), baseV b v, .int .i64 ia, .int .i64 ib] w fun e w' => e = .returned (.bool true) ∧ Fr (fun _ => False) w w' := by
  obtain ⟨a, cap, rfl, hcap, hcap2⟩ := h.row.form
  have hsz : (bs s).size = s.length := rfl
  have HA : baseV b (.slice a b.voters.length cap) = .agg #[.int .i64 b.index, .int .i64 b.term, .slice a b.voters.length cap, .string (bs b.data)] := rfl
  rw [HA]
  obtain ⟨w1, hw1⟩ : ∃ w1, w1 = w.alloc (.cells #[.int .i64 b.index, .int .i64 b.term, .slice a b.voters.length cap, .string (bs b.data)] 24) := ⟨_, rfl⟩
  have HF1 : Hid (Fr (fun _ => False) w w1) := by show Fr _ _ _; rw [hw1]; exact (Fr.refl _ _).alloc _
  have HB1 : Hid (w1.heap[w.heap.size]? = some (.cells #[.int .i64 b.index, .int .i64 b.term, .slice a b.voters.length cap, .string (bs b.data)] 24 (0, 0))) := by show w1.heap[w.heap.size]? = _; rw [hw1]; exact block_new _ _
  have HSH := Lib.hid (shown_h (hE.grow HF1.out) (Nat.le_trans h8 HF1.out.size))
  have HH := Lib.hid h
  have hdl := h.data
  have HLT := Lib.hid (show ∀ (W : World), Fr (fun _ => False) w W → smallB b = true → BaseIn W (fun k => k < W.heap.size) b (.slice a b.voters.length cap) from fun W hf hsm => ((HH.out.small hsm).grow hf).mono fun k hk => Nat.lt_of_lt_of_le hk hf.size)
  have HIA := Lib.hid hia
  have HTO := Lib.hid hto
  clear h hia hto
  go_enter Tryz.func3, Tryz.ntmps3
  go_wp2_with fail
  rw [← hw1]
  clear hw1
  refine Calls.mono HSH.out ?_
  rintro e w2 ⟨rfl, hf2⟩
  have HF2 := Lib.hid (HF1.out.next hf2)
  have hb2 := hf2.keep HB1.out (fun h => h)
  have x0 := cell_of hb2 (i := 0) (v := .int .i64 b.index) rfl
  have x1 := cell_of hb2 (i := 1) (v := .int .i64 b.term) rfl
  have x2 := cell_of hb2 (i := 2) (v := .slice a b.voters.length cap) rfl
  have x3 := cell_of hb2 (i := 3) (v := .string (bs b.data)) rfl
  have HB2 := Lib.hid hb2
  clear hf2 hb2 HSH
  cases hsm : smallB b with
  | false =>
    have HSM := Lib.hid (small_is (w := w2) (a := a) (cap := cap) (by omega) hdl hsm)
    rw [HA] at HSM
    clear HA hsm
    go_wp2_with fail
    refine Calls.mono HSM.out ?_
    rintro e w3 ⟨rfl, hf3⟩
    have HF3 := Lib.hid (HF2.out.next hf3)
    clear hf3
    go_wp2_with fail
    go_ret
    exact ⟨rfl, HF3.out⟩
  | true =>
    have HSM := Lib.hid (small_is (w := w2) (a := a) (cap := cap) (by omega) hdl hsm)
    rw [HA] at HSM
    have HSB := Lib.hid hsm
    clear hsm
    go_wp2_with fail
    refine Calls.mono HSM.out ?_
    rintro e w3 ⟨rfl, hf3⟩
    have HF3 := Lib.hid (HF2.out.next hf3)
    have hb3 := hf3.keep HB2.out (fun h => h)
    clear x0 x1 x2 x3
    have HB3 := Lib.hid hb3
    clear hf3 hb3 HSM
    by_cases h5 : s.length ≤ 5000
    · have h5i : ¬ (5000 : Int) < (s.length : Int) := by omega
      have hs5 : s.length ≤ 1000000 := by omega
      clear h5
      obtain ⟨x, er, hx⟩ : ∃ x er, unpD s = (x, er) := ⟨_, _, rfl⟩
      have HU1 := Lib.hid (fun (W : World) => pun_h (w := W) hs5 hx)
      have HU2 := Lib.hid (fun (W : World) => run_h (w := W) hs5 hx)
      clear hx
      go_wp2_with fail
      refine Calls.mono (HU1.out _) ?_
      rintro e w4 ⟨xa, xc, rfl, hbx, hf4⟩
      obtain ⟨w5, hw5⟩ : ∃ w5, w5 = w4.alloc (.cells #[.int .i64 x.index, .int .i64 x.term, .slice xa x.voters.length xc, .string (bs x.data)] 24) := ⟨_, rfl⟩
      have hf45 : Fr (fun _ => False) w4 w5 := by rw [hw5]; exact (Fr.refl _ _).alloc _
      have HX5 : Hid (w5.heap[w4.heap.size]? = some (.cells #[.int .i64 x.index, .int .i64 x.term, .slice xa x.voters.length xc, .string (bs x.data)] 24 (0, 0))) := by show w5.heap[w4.heap.size]? = _; rw [hw5]; exact block_new _ _
      have HBX := Lib.hid (hbx.grow hf45)
      have HF5 := Lib.hid ((HF3.out.next hf4).next hf45)
      have HB5 := Lib.hid ((hf4.next hf45).keep HB3.out (fun h => h))
      have hX : w.heap.size ≤ w4.heap.size := Nat.le_trans HF3.out.size hf4.size
      have HX := Lib.hid hX
      have hXb : w.heap.size < w4.heap.size := Nat.lt_of_lt_of_le (lt_of_block HB3.out) hf4.size
      clear hf4 hf45 hbx hX
      go_wp2_with fail
      rw [← hw5]
      clear hw5
      refine Calls.mono (HU2.out _) ?_
      rintro e w6 ⟨ya, yc, rfl, hby, hf6⟩
      obtain ⟨w7, hw7⟩ : ∃ w7, w7 = w6.alloc (.cells #[.int .i64 x.index, .int .i64 x.term, .slice ya x.voters.length yc, .string (bs x.data)] 24) := ⟨_, rfl⟩
      have hf67 : Fr (fun _ => False) w6 w7 := by rw [hw7]; exact (Fr.refl _ _).alloc _
      have hy7 : w7.heap[w6.heap.size]? = some (.cells #[.int .i64 x.index, .int .i64 x.term, .slice ya x.voters.length yc, .string (bs x.data)] 24 (0, 0)) := by rw [hw7]; exact block_new _ _
      have HY7 := Lib.hid hy7
      have hf57 := hf6.next hf67
      have hx7 := hf57.keep HX5.out (fun h => h)
      have HX7 := Lib.hid hx7
      have HF7 := Lib.hid (HF5.out.next hf57)
      have hb7 := hf57.keep HB5.out (fun h => h)
      have HB7 := Lib.hid hb7
      have hY : w4.heap.size < w6.heap.size := Nat.lt_of_lt_of_le (lt_of_block HX5.out) hf6.size
      have HS := Lib.hid (same_ok (HBX.out.grow hf57) (hby.grow hf67))
      have p0 := cell_of hx7 (i := 0) (v := .int .i64 x.index) rfl
      have p1 := cell_of hx7 (i := 1) (v := .int .i64 x.term) rfl
      have p2 := cell_of hx7 (i := 2) (v := .slice xa x.voters.length xc) rfl
      have p3 := cell_of hx7 (i := 3) (v := .string (bs x.data)) rfl
      have q0 := cell_of hy7 (i := 0) (v := .int .i64 x.index) rfl
      have q1 := cell_of hy7 (i := 1) (v := .int .i64 x.term) rfl
      have q2 := cell_of hy7 (i := 2) (v := .slice ya x.voters.length yc) rfl
      have q3 := cell_of hy7 (i := 3) (v := .string (bs x.data)) rfl
      have x0 := cell_of hb7 (i := 0) (v := .int .i64 b.index) rfl
      have x1 := cell_of hb7 (i := 1) (v := .int .i64 b.term) rfl
      have x2 := cell_of hb7 (i := 2) (v := .slice a b.voters.length cap) rfl
      have x3 := cell_of hb7 (i := 3) (v := .string (bs b.data)) rfl
      clear hf6 hf67 hby hf57 hx7 hy7 hb7
      go_upto_region 7 with fail
      rw [← hw7]
      clear hw7
      go_wp2_with fail
      refine Calls.mono HS.out ?_
      rintro e w8 ⟨rfl, hf8⟩
      have HX8 := Lib.hid (hf8.keep HX7.out (fun h => h))
      have HY8 := Lib.hid (hf8.keep HY7.out (fun h => h))
      have HF8 := Lib.hid (HF7.out.next hf8)
      have hb8 := hf8.keep HB7.out (fun h => h)
      clear x0 x1 x2 x3 p0 p1 p2 p3 q0 q1 q2 q3
      have x0 := cell_of hb8 (i := 0) (v := .int .i64 b.index) rfl
      have x1 := cell_of hb8 (i := 1) (v := .int .i64 b.term) rfl
      have x2 := cell_of hb8 (i := 2) (v := .slice a b.voters.length cap) rfl
      have x3 := cell_of hb8 (i := 3) (v := .string (bs b.data)) rfl
      clear hb8 hf8 HS
      obtain ⟨T, g, hp⟩ : ∃ T g, packD b = (T, g) := ⟨_, _, rfl⟩
      have HPK := Lib.hid (rpack_is (HLT.out _ HF8.out HSB.out) hp)
      rw [HA] at HPK
      by_cases hg : g = 0
      · subst hg
        have hpr : rightB b = true ∧ T = packL b := by
          unfold packD at hp
          by_cases hr : rightB b = true
          · rw [if_pos hr] at hp; injection hp with h1 h2; exact ⟨hr, h1.symm⟩
          · rw [if_neg hr] at hp; injection hp with h1 h2; cases h2
        have hTl : T.length ≤ 100000 := by rw [hpr.2]; exact pack_long hpr.1 (small_parts HSB.out).2
        have hTp : 0 < T.length := by rw [hpr.2, pack_bytes]; omega
        have hTs : (bs T).size = T.length := rfl
        have hTi : (0 : Int) < (T.length : Int) := by omega
        have HPC := Lib.hid (fun (W : World) => pick_h (w := W) (c := ia) (n := (T.length : Int)) HIA.out.1 HIA.out.2 (by omega) (by omega))
        obtain ⟨q, hq⟩ : ∃ q : Nat, pickZ ia (T.length : Int) = (q : Int) := by
          have : 0 ≤ pickZ ia (T.length : Int) := Int.emod_nonneg _ (by omega)
          exact ⟨(pickZ ia (T.length : Int)).toNat, by omega⟩
        have hqT : q < T.length := by
          have : pickZ ia (T.length : Int) < (T.length : Int) := Int.emod_lt_of_pos _ (by omega)
          omega
        rw [hq] at HPC
        clear hp hpr hq HA
        go_wp2_with fail
        refine Calls.mono HPK.out ?_
        rintro e w9 ⟨rfl, hf9⟩
        have HX9 := Lib.hid (hf9.keep HX8.out (fun h => h))
        have HY9 := Lib.hid (hf9.keep HY8.out (fun h => h))
        have HF9 := Lib.hid (HF8.out.next hf9)
        clear hf9 x0 x1 x2 x3 HPK
        have hcv := Lib.run_convert_string_bytes (P := Tryz.prog) w9 9 33 5 (bs T) (u := .string) Tryz.underlying9 Tryz.underlying33 Tryz.underlying5
        obtain ⟨C, hC⟩ : ∃ C, grownCap w9 (bs T).size 0 5 = C := ⟨_, rfl⟩
        rw [hC] at hcv
        obtain ⟨wa, hwa⟩ : ∃ wa, wa = Lib.bytesWorld w9 5 (bs T) := ⟨_, rfl⟩
        have hcba : CB wa w9.heap.size T := by rw [hwa]; exact cb_new
        have hfa : Fr (fun _ => False) w9 wa := by rw [hwa]; exact fr_bytes
        have hfz : wa.frozen? ⟨w9.heap.size, q, none⟩ = false := by rw [hwa]; exact free_bytes hqT
        have hsa : wa.heap.size = w9.heap.size + 1 := by rw [hwa]; exact Lib.bytesWorld_size _ _ _
        rw [← hwa] at hcv
        clear hwa hC
        obtain ⟨cb, hcb⟩ : ∃ cb : UInt8, IntKind.u8.wrap ib = (cb.toNat : Int) := ⟨UInt8.ofNat (ib % 256).toNat, by rw [IntKind.wrap_u8, UInt8.toNat_ofNat']; omega⟩
        have hqi : (q : Int) < (T.length : Int) := by omega
        obtain ⟨u0, hu0⟩ : ∃ u, T[q]? = some u := ⟨_, List.getElem?_eq_getElem hqT⟩
        have hcell := hcba.cells q u0 hu0
        have hg9 : w9.heap.size < wa.heap.size := by omega
        go_upto_region 15 with (go_at_call 20; (with_reducible refine Calls.mono (HPC.out _) ?_); rintro e wz ⟨rfl, rfl⟩)
        obtain ⟨wb, hwb⟩ : ∃ wb, wb = wa.setCell ⟨w9.heap.size, q, none⟩ (.int .u8 (cb.toNat : Int)) := ⟨_, rfl⟩
        rw [← hwb]
        have hcb2 : CB wb w9.heap.size (T.set q cb) := by rw [hwb]; exact hcba.set hqT
        have hfb : Fr (fun _ => False) w9 wb := by rw [hwb]; exact hfa.setCell (p := ⟨w9.heap.size, q, none⟩) (.inr (Nat.le_refl _)) _
        clear hwb hcba hfa hfz hcell hcv hu0
        obtain ⟨T2, hT2⟩ : ∃ T2, T.set q cb = T2 := ⟨_, rfl⟩
        have hT2l : T2.length = T.length := by rw [← hT2, List.length_set]
        rw [hT2] at hcb2
        have hc2 := hcb2.conv (cap := C)
        rw [hT2l] at hc2
        have HCB := Lib.hid hcb2
        have hT2m : T2.length ≤ 1000000 := by omega
        obtain ⟨z, ez, hz⟩ : ∃ z ez, unpD T2 = (z, ez) := ⟨_, _, rfl⟩
        have HV1 := Lib.hid (fun (W : World) => pun_h (w := W) hT2m hz)
        have HV2 := Lib.hid (fun (W : World) => run_h (w := W) hT2m hz)
        have HXb := Lib.hid (hfb.keep HX9.out (fun h => h))
        have HYb := Lib.hid (hfb.keep HY9.out (fun h => h))
        have HFb := Lib.hid (HF9.out.next hfb)
        have HYm := Lib.hid (lt_of_block HY9.out)
        have HXm := Lib.hid (lt_of_block HX9.out)
        clear hT2 hz hcb2 hfb
        go_wp2_with fail
        refine Calls.mono (HV1.out _) ?_
        rintro e wc ⟨za, zc, rfl, hbz, hfc⟩
        have HXc := Lib.hid (hfc.keep HXb.out (fun h => h))
        have HYc := Lib.hid (hfc.keep HYb.out (fun h => h))
        have hxc := HXc.out
        have p0 := cell_of hxc (i := 0) (v := .int .i64 x.index) rfl
        have p1 := cell_of hxc (i := 1) (v := .int .i64 x.term) rfl
        have p2 := cell_of hxc (i := 2) (v := .slice xa x.voters.length xc) rfl
        have p3 := cell_of hxc (i := 3) (v := .string (bs x.data)) rfl
        have pf0 := free_of 0 hxc
        have pf1 := free_of 1 hxc
        have pf2 := free_of 2 hxc
        have pf3 := free_of 3 hxc
        have pl := lt_of_block hxc
        have HBZ := Lib.hid hbz
        have HFc := Lib.hid (HFb.out.next hfc)
        have HCc := Lib.hid (HCB.out.fr hfc (fun h => h))
        have HSb := Lib.hid hfc.size
        have HSz := Lib.hid (lt_of_block HXb.out)
        have HSy := Lib.hid (lt_of_block HYb.out)
        clear hxc hbz hfc hc2 HV1
        go_upto_region 16 with fail
        obtain ⟨wd, hwd⟩ : ∃ wd, wd = (((wc.setCell ⟨w4.heap.size, 0, none⟩ (.int .i64 z.index)).setCell ⟨w4.heap.size, 1, none⟩ (.int .i64 z.term)).setCell ⟨w4.heap.size, 2, none⟩ (.slice za z.voters.length zc)).setCell ⟨w4.heap.size, 3, none⟩ (.string (bs z.data)) := ⟨_, rfl⟩
        rw [← hwd]
        have hfd : Fr (fun k => k = w4.heap.size) wc wd := by rw [hwd]; exact Fr.set4
        have HXd : Hid (wd.heap[w4.heap.size]? = some (.cells #[.int .i64 z.index, .int .i64 z.term, .slice za z.voters.length zc, .string (bs z.data)] 24 (0, 0))) := by show wd.heap[w4.heap.size]? = _; rw [hwd]; exact block_set4 HXc.out
        have HYd := Lib.hid (hfd.keep HYc.out (by omega))
        have hcd := HCc.out.fr hfd (by have := HXm.out; omega)
        have hc3 := hcd.conv (cap := C)
        rw [hT2l] at hc3
        have HBd := Lib.hid (HBZ.out.fr hfd (fun k h1 h2 => by have := h1.1; have := HSz.out; omega))
        have HFd := Lib.hid (HFc.out.old hfd HX.out)
        have HSd := Lib.hid hfd.size
        clear hwd pf0 pf1 pf2 pf3 pl p0 p1 p2 p3 hcd hfd
        go_wp2_with fail
        refine Calls.mono (HV2.out _) ?_
        rintro e we ⟨ka, kc, rfl, hbk, hfe⟩
        have HXe := Lib.hid (hfe.keep HXd.out (fun h => h))
        have hye := hfe.keep HYd.out (fun h => h)
        have HYe := Lib.hid hye
        have q0 := cell_of hye (i := 0) (v := .int .i64 x.index) rfl
        have q1 := cell_of hye (i := 1) (v := .int .i64 x.term) rfl
        have q2 := cell_of hye (i := 2) (v := .slice ya x.voters.length yc) rfl
        have q3 := cell_of hye (i := 3) (v := .string (bs x.data)) rfl
        have qf0 := free_of 0 hye
        have qf1 := free_of 1 hye
        have qf2 := free_of 2 hye
        have qf3 := free_of 3 hye
        have ql := lt_of_block hye
        have HBK := Lib.hid hbk
        have HBe := Lib.hid (HBd.out.grow hfe)
        have HFe := Lib.hid (HFd.out.next hfe)
        have HSe := Lib.hid hfe.size
        have HYz := Lib.hid (lt_of_block HYd.out)
        clear hye hbk hfe hc3 HV2
        go_upto_region 17 with fail
        obtain ⟨wf, hwf⟩ : ∃ wf, wf = (((we.setCell ⟨w6.heap.size, 0, none⟩ (.int .i64 z.index)).setCell ⟨w6.heap.size, 1, none⟩ (.int .i64 z.term)).setCell ⟨w6.heap.size, 2, none⟩ (.slice ka z.voters.length kc)).setCell ⟨w6.heap.size, 3, none⟩ (.string (bs z.data)) := ⟨_, rfl⟩
        rw [← hwf]
        have hff : Fr (fun k => k = w6.heap.size) we wf := by rw [hwf]; exact Fr.set4
        have hyf : wf.heap[w6.heap.size]? = some (.cells #[.int .i64 z.index, .int .i64 z.term, .slice ka z.voters.length kc, .string (bs z.data)] 24 (0, 0)) := by rw [hwf]; exact block_set4 HYe.out
        have hxf := hff.keep HXe.out (by omega)
        have HSF := Lib.hid (same_ok (HBe.out.fr hff (fun k h1 h2 => by have := h1.1; have := HSy.out; omega)) (HBK.out.fr hff (fun k h1 h2 => by have := h1.1; have := HYz.out; omega)))
        have HFf := Lib.hid (HFe.out.old hff (by have := HX.out; omega))
        clear hwf hff qf0 qf1 qf2 qf3 ql q0 q1 q2 q3
        have p0 := cell_of hxf (i := 0) (v := .int .i64 z.index) rfl
        have p1 := cell_of hxf (i := 1) (v := .int .i64 z.term) rfl
        have p2 := cell_of hxf (i := 2) (v := .slice za z.voters.length zc) rfl
        have p3 := cell_of hxf (i := 3) (v := .string (bs z.data)) rfl
        have q0 := cell_of hyf (i := 0) (v := .int .i64 z.index) rfl
        have q1 := cell_of hyf (i := 1) (v := .int .i64 z.term) rfl
        have q2 := cell_of hyf (i := 2) (v := .slice ka z.voters.length kc) rfl
        have q3 := cell_of hyf (i := 3) (v := .string (bs z.data)) rfl
        clear hxf hyf
        go_wp2_with fail
        refine Calls.mono HSF.out ?_
        rintro e wg ⟨rfl, hfg⟩
        have HFg := Lib.hid (HFf.out.next hfg)
        clear hfg
        go_wp2_with fail
        go_ret
        exact ⟨rfl, HFg.out⟩
      · have q1 : (g == 0) = false := by simpa using hg
        have q2 : (g != 0) = true := by simpa using hg
        clear hp HA hg
        go_wp2_with fail
        refine Calls.mono HPK.out ?_
        rintro e w9 ⟨rfl, hf9⟩
        have HF9 := Lib.hid (HF8.out.next hf9)
        clear hf9
        go_wp2_with fail
        go_ret
        exact ⟨rfl, HF9.out⟩
    · have h5i : (5000 : Int) < (s.length : Int) := by omega
      clear h5
      go_wp2_with fail
      go_ret
      exact ⟨rfl, HF3.out⟩
end Go.Proofs.YtgmghopcppniaaaGreatDoor
