/- snap.Unpack: walked. -/
import Derived.Test.YtgmghopcppniaaaGreatDoorS17
import Derived.Test.YtgmghopcppniaaaGreatDoorC4
namespace Go.Proofs.YtgmghopcppniaaaGreatDoor
open Go.RowKit Go.Lib

def UnpNo (er : Int) (w : World) (e : Ending) (w' : World) : Prop := e = .returned (.tuple #[baseV zeroB (.slice none 0 0), .int .i64 er]) ∧ Fr (fun _ => False) w w'
def UnpOk (b : BaseD) (w : World) (e : Ending) (w' : World) : Prop := ∃ v, e = .returned (.tuple #[baseV b v, .int .i64 0]) ∧ BaseIn w' (fun k => w.heap.size ≤ k ∧ k < w'.heap.size) b v ∧ Fr (fun _ => False) w w'
def UnpPost (s : Str) (w : World) (e : Ending) (w' : World) : Prop := match unpackL s with | .error er => UnpNo er w e w' | .ok b => UnpOk b w e w'
theorem unp_no {s : Str} {er : Int} {w w' : World} {e : Ending} (h : unpackL s = .error er) (hp : UnpNo er w e w') : UnpPost s w e w' := by unfold UnpPost; rw [h]; exact hp
theorem unp_ok {s : Str} {b : BaseD} {w w' : World} {e : Ending} (h : unpackL s = .ok b) (hp : UnpOk b w e w') : UnpPost s w e w' := by unfold UnpPost; rw [h]; exact hp
theorem head_no_h {w : World} {s : Str} (hs : s.length ≤ 1000000) (h : headOf s = none) : Calls Tryz.prog 59 #[.string (bs s)] w (HeadNo w) := by
  refine (head_h s hs).mono ?_
  intro e w' hp
  unfold HeadPost at hp
  rwa [h] at hp
theorem head_ok_h {w : World} {s : Str} {b : BaseD} {long : Int} (hs : s.length ≤ 1000000) (h : headOf s = some (b, long)) : Calls Tryz.prog 59 #[.string (bs s)] w (HeadOk b long w) := by
  refine (head_h s hs).mono ?_
  intro e w' hp
  unfold HeadPost at hp
  rwa [h] at hp
theorem take_len {s t r : Str} (h : takeL s = .ok (t, r)) : t.length + 8 + r.length = s.length := by
  have := (take_back h).1
  rw [this, List.length_append, frame_len]; omega
theorem Fr.trans' {a b c : World} {B : Nat} (h : Fr (fun _ => False) a b) (k : Below B b c) (hB : a.heap.size ≤ B) : Fr (fun _ => False) a c :=
  ⟨k.os.trans h.os, k.tape.trans h.tape, k.output.trans h.output, Nat.le_trans h.size k.size, fun i hi _ => (k.block i (by omega)).trans (h.block i hi (fun h => h))⟩
theorem unp_fin {w5 : World} {r q : Nat} {b : BaseD} {v x x0 x1 x2 x3 : Value} {d : Str} (h : BaseIn w5 (fun k => r ≤ k ∧ k ≠ r ∧ k < q) b v) (hd : d.length ≤ 1000000) (hq : q ≤ w5.heap.size) (hrq : r < q) :
    BaseIn (((((w5.setCell ⟨q, 3, none⟩ x).setCell ⟨r, 0, none⟩ x0).setCell ⟨r, 1, none⟩ x1).setCell ⟨r, 2, none⟩ x2).setCell ⟨r, 3, none⟩ x3) (fun k => r ≤ k ∧ k < (((((w5.setCell ⟨q, 3, none⟩ x).setCell ⟨r, 0, none⟩ x0).setCell ⟨r, 1, none⟩ x1).setCell ⟨r, 2, none⟩ x2).setCell ⟨r, 3, none⟩ x3).heap.size) { b with data := d } v := by
  have hf : Fr (fun k => k = r ∨ k = q) w5 (((((w5.setCell ⟨q, 3, none⟩ x).setCell ⟨r, 0, none⟩ x0).setCell ⟨r, 1, none⟩ x1).setCell ⟨r, 2, none⟩ x2).setCell ⟨r, 3, none⟩ x3) :=
    (((((Fr.refl (fun k => k = r ∨ k = q) w5).setCell (p := ⟨q, 3, none⟩) (.inl (.inr rfl)) x).setCell (p := ⟨r, 0, none⟩) (.inl (.inl rfl)) x0).setCell (p := ⟨r, 1, none⟩) (.inl (.inl rfl)) x1).setCell (p := ⟨r, 2, none⟩) (.inl (.inl rfl)) x2).setCell (p := ⟨r, 3, none⟩) (.inl (.inl rfl)) x3
  have h2 := (h.fr hf (fun k h1 h2 => by rcases h2 with rfl | rfl <;> omega)).mono (S' := fun k => r ≤ k ∧ k < (((((w5.setCell ⟨q, 3, none⟩ x).setCell ⟨r, 0, none⟩ x0).setCell ⟨r, 1, none⟩ x1).setCell ⟨r, 2, none⟩ x2).setCell ⟨r, 3, none⟩ x3).heap.size) (fun k hk => ⟨hk.1, by have := hf.size; omega⟩)
  exact ⟨h2.row, h2.nums, h2.index, h2.term, hd⟩
/-- while the data are read -/
structure URel (w w4 : World) (bb : Nat) (r : Str) (long : Int) (j : Nat) (d rest : Str) (wr : World) : Prop where
  data : dataF (r.length + 1) long [] r = dataF j long d rest
  bld : Lib.IsBuilderF 108 5 bb bb (Lib.byteCells d) wr
  low : Below bb w4 wr
set_option maxRecDepth 100000 in
set_option maxHeartbeats 8000000 in
theorem unpack_h {w : World} (s : Str) (hs : s.length ≤ 1000000) : Calls Tryz.prog 16 #[.string (bs s)] w (UnpPost s w) := by
  obtain ⟨w1, hw1⟩ : ∃ w1, w1 = w.alloc (.cells #[.int .i64 0, .int .i64 0, .slice none 0 0, .string ⟨#[]⟩] 24) := ⟨_, rfl⟩
  have HF1 : Hid (Fr (fun _ => False) w w1) := by show Fr _ _ _; rw [hw1]; exact (Fr.refl _ _).alloc _
  have HB1 : Hid (w1.heap[w.heap.size]? = some (.cells #[.int .i64 0, .int .i64 0, .slice none 0 0, .string ⟨#[]⟩] 24 (0, 0))) := by show w1.heap[w.heap.size]? = _; rw [hw1]; exact block_new _ _
  cases ht : takeL s with
  | error er =>
    have HT := Lib.hid (take_no_h (w := w1) ht hs)
    have HE := Lib.hid (unpack_take ht)
    have her : er ≠ 0 := by rcases take_err ht with h | h <;> omega
    have q1 : (er == 0) = false := by simpa using her
    clear ht
    go_enter Tryz.func16, Tryz.ntmps16
    go_wp2_with fail
    rw [← hw1]
    clear hw1
    refine Calls.mono HT.out ?_
    rintro e w2 ⟨x, y, rfl, hf⟩
    have hres := hf.keep HB1.out (fun h => h)
    have x0 := cell_of hres (i := 0) (v := .int .i64 0) rfl
    have x1 := cell_of hres (i := 1) (v := .int .i64 0) rfl
    have x2 := cell_of hres (i := 2) (v := .slice none 0 0) rfl
    have x3 := cell_of hres (i := 3) (v := .string ⟨#[]⟩) rfl
    have f0 := free_of 0 hres
    have f1 := free_of 1 hres
    have f2 := free_of 2 hres
    have f3 := free_of 3 hres
    have hwl := lt_of_block hres
    have HR := Lib.hid hres
    have HF := Lib.hid (HF1.out.next hf)
    clear hres hf
    go_wp2_with fail
    have hz := block_set4 (a := .int .i64 0) (b := .int .i64 0) (c := .slice none 0 0) (d := .string ⟨#[]⟩) HR.out
    have e0 := cell_of hz (i := 0) (v := .int .i64 0) rfl
    have e1 := cell_of hz (i := 1) (v := .int .i64 0) rfl
    have e2 := cell_of hz (i := 2) (v := .slice none 0 0) rfl
    have e3 := cell_of hz (i := 3) (v := .string ⟨#[]⟩) rfl
    refine bodyPost_ret (v := .tuple #[.agg #[.int .i64 0, .int .i64 0, .slice none 0 0, .string ⟨#[]⟩], .int .i64 er]) (by simp [results, Tryz.results16, go_sem, e0, e1, e2, e3] <;> rfl) rfl ?_
    exact unp_no HE.out ⟨rfl, fr_set4 HF.out (Nat.le_refl _)⟩
  | ok p =>
    obtain ⟨t, r⟩ := p
    have HT := Lib.hid (take_ok_h (w := w1) ht hs)
    have htl := take_len ht
    have HTK := Lib.hid ht
    clear ht
    go_enter Tryz.func16, Tryz.ntmps16
    go_wp2_with fail
    rw [← hw1]
    clear hw1
    refine Calls.mono HT.out ?_
    rintro e w2 ⟨rfl, hf⟩
    have HR2 := Lib.hid (hf.keep HB1.out (fun h => h))
    have HF2 := Lib.hid (HF1.out.next hf)
    clear hf
    cases hh : headOf t with
    | none =>
      have HH := Lib.hid (head_no_h (w := w2) (show t.length ≤ 1000000 by omega) hh)
      have HE := Lib.hid (unpack_head HTK.out hh)
      clear hh
      go_wp2_with fail
      refine Calls.mono HH.out ?_
      rintro e w3 ⟨xx, xy, xa, xn, xc, xd, xz, rfl, hf⟩
      have hres := hf.keep HR2.out (fun h => h)
      have HR := Lib.hid hres
      have HF := Lib.hid (HF2.out.next hf)
      have x0 := cell_of hres (i := 0) (v := .int .i64 0) rfl
      have x1 := cell_of hres (i := 1) (v := .int .i64 0) rfl
      have x2 := cell_of hres (i := 2) (v := .slice none 0 0) rfl
      have x3 := cell_of hres (i := 3) (v := .string ⟨#[]⟩) rfl
      have f0 := free_of 0 hres
      have f1 := free_of 1 hres
      have f2 := free_of 2 hres
      have f3 := free_of 3 hres
      have hwl := lt_of_block hres
      clear hres hf
      go_wp2_with fail
      -- NONE
      have hz0 := block_set4 (a := .int .i64 0) (b := .int .i64 0) (c := .slice none 0 0) (d := .string ⟨#[]⟩) HR.out
      have hz := block_old hz0 (.cells #[.int .i64 xx, .int .i64 xy, .slice xa xn xc, .string xd] 24)
      have e0 := cell_of hz (i := 0) (v := .int .i64 0) rfl
      have e1 := cell_of hz (i := 1) (v := .int .i64 0) rfl
      have e2 := cell_of hz (i := 2) (v := .slice none 0 0) rfl
      have e3 := cell_of hz (i := 3) (v := .string ⟨#[]⟩) rfl
      refine bodyPost_ret (v := .tuple #[.agg #[.int .i64 0, .int .i64 0, .slice none 0 0, .string ⟨#[]⟩], .int .i64 8]) (by simp [results, Tryz.results16, go_sem, e0, e1, e2, e3] <;> rfl) rfl ?_
      exact unp_no HE.out ⟨rfl, (fr_set4 HF.out (Nat.le_refl _)).alloc _⟩
    | some q =>
      obtain ⟨b, long⟩ := q
      obtain ⟨hrb, hbd, hl0, hl4, hxx⟩ := headOf_back hh
      have HH := Lib.hid (head_ok_h (w := w2) (show t.length ≤ 1000000 by omega) hh)
      have HD := Lib.hid (fun (e : Int) => unpack_data (e := e) HTK.out hh)
      have HO := Lib.hid (fun (d r2 : Str) => unpack_done (d := d) (r2 := r2) HTK.out hh)
      clear hh hrb hxx
      go_wp2_with fail
      refine Calls.mono HH.out ?_
      rintro e w3 ⟨v, rfl, hbi, hf⟩
      obtain ⟨a, cap, rfl, hcap, hcap2⟩ := hbi.row.form
      have hres3 := hf.keep HR2.out (fun h => h)
      have hF3 := HF2.out.next hf
      have hw23 := hf.size
      have hw02 := HF2.out.size
      have HA : baseV b (.slice a b.voters.length cap) = .agg #[.int .i64 b.index, .int .i64 b.term, .slice a b.voters.length cap, .string ⟨#[]⟩] := by unfold baseV; rw [hbd]; rfl
      rw [HA]
      obtain ⟨w4, hw4⟩ : ∃ w4, w4 = (w3.alloc (.cells #[.int .i64 b.index, .int .i64 b.term, .slice a b.voters.length cap, .string ⟨#[]⟩] 24)).alloc (.cells #[.pointer none, .slice none 0 0] 108) := ⟨_, rfl⟩
      have HI4 : Hid (Lib.IsBuilderF 108 5 (w3.heap.size + 1) (w3.heap.size + 1) (Lib.byteCells []) w4) := by show Lib.IsBuilderF _ _ _ _ _ _; rw [hw4]; exact isB_new _ _ (by simp)
      have HK4 : Hid (w4.heap[w3.heap.size]? = some (.cells #[.int .i64 b.index, .int .i64 b.term, .slice a b.voters.length cap, .string ⟨#[]⟩] 24 (0, 0))) := by show w4.heap[w3.heap.size]? = _; rw [hw4]; exact block_old (block_new _ _) _
      have HF34 : Hid (Fr (fun _ => False) w3 w4) := by show Fr _ _ _; rw [hw4]; exact ((Fr.refl _ _).alloc _).alloc _
      have HR4 := Lib.hid (HF34.out.keep hres3 (fun h => h))
      have HFF := Lib.hid (hF3.next HF34.out)
      have HBI := Lib.hid (hbi.grow HF34.out)
      have hs4 : w4.heap.size = w3.heap.size + 2 := by rw [hw4]; simp
      have hrw : w.heap.size < w3.heap.size := lt_of_block hres3
      have HB3 := Lib.hid (show ∀ k, (w2.heap.size ≤ k ∧ k < w3.heap.size) → (w.heap.size ≤ k ∧ k ≠ w.heap.size ∧ k < w3.heap.size) from fun k h => ⟨by omega, by have := lt_of_block HR2.out; omega, h.2⟩)
      have HS4 := Lib.hid hs4
      have hs4l : w3.heap.size + 1 < w4.heap.size := by omega
      clear hbi hf hres3 hF3 HA hs4 hbd
      go_wp2_with fail
      rw [← hw4]
      clear hw4
      go_loopg [0, 4, 5] (r.length + 1) (fun j v0 v4 v5 wr => ∃ (d rest : Str), v0 = .string (bs rest) ∧ rest.length < j ∧ d.length + rest.length ≤ 1000000 ∧ d.length ≤ 1000000 ∧ rest.length ≤ 1000000 ∧ Hid (URel w w4 (w3.heap.size + 1) r long j d rest wr))
      case atStart => exact ⟨[], r, rfl, by omega, by simp; omega, by simp, by omega, ⟨rfl, HI4.out, Below.refl _ _⟩⟩
      case round =>
        obtain ⟨d, rest, rfl, hlj, hsum, hdl, hrl, HU⟩ := hrel
        obtain ⟨k, rfl⟩ : ∃ k, gk = k + 1 := ⟨gk - 1, by omega⟩
        have HLN := Lib.hid (clen_h _ _ d wr HU.out.bld)
        have hf4 : Fr (fun k => w3.heap.size + 1 ≤ k) w4 wr := Fr.of_below HU.out.low
        have hszr := HU.out.low.size
        have hres := hf4.keep HR4.out (by omega)
        have hkb := hf4.keep HK4.out (by omega)
        have HRr := Lib.hid hres
        have HKr := Lib.hid hkb
        have HFr := Lib.hid (show Fr (fun _ => False) w wr from HFF.out.trans' HU.out.low (by omega))
        have HBr := Lib.hid ((HBI.out.fr hf4 (fun k h1 h2 => by have := h1.2; omega)).mono HB3.out)
        have x0 := cell_of hres (i := 0) (v := .int .i64 0) rfl
        have x1 := cell_of hres (i := 1) (v := .int .i64 0) rfl
        have x2 := cell_of hres (i := 2) (v := .slice none 0 0) rfl
        have x3 := cell_of hres (i := 3) (v := .string ⟨#[]⟩) rfl
        have f0 := free_of 0 hres
        have f1 := free_of 1 hres
        have f2 := free_of 2 hres
        have f3 := free_of 3 hres
        have hwl := lt_of_block hres
        clear hres hkb hf4
        by_cases hgo : (d.length : Int) < long
        · have hdd : (0 : Int) ≤ long - d.length := by omega
          cases htk : takeL rest with
          | error er =>
            have HTk := Lib.hid (take_no_h (w := wr) htk hrl)
            have HE := Lib.hid (HD.out er (HU.out.data.trans (data_bad hgo htk)))
            have her : er ≠ 0 := by rcases take_err htk with h | h <;> omega
            have q1 : (er == 0) = false := by simpa using her
            clear htk
            go_wp2_with (go_at_call 60; refine Calls.mono HLN.out ?_; rintro e w5 ⟨rfl, rfl⟩)
            refine Calls.mono HTk.out ?_
            rintro e w5 ⟨x, y, rfl, hf5⟩
            have hres := hf5.keep HRr.out (fun h => h)
            have HR5 := Lib.hid hres
            have HF5 := Lib.hid (HFr.out.next hf5)
            clear x0 x1 x2 x3 f0 f1 f2 f3 hwl
            have x0 := cell_of hres (i := 0) (v := .int .i64 0) rfl
            have x1 := cell_of hres (i := 1) (v := .int .i64 0) rfl
            have x2 := cell_of hres (i := 2) (v := .slice none 0 0) rfl
            have x3 := cell_of hres (i := 3) (v := .string ⟨#[]⟩) rfl
            have f0 := free_of 0 hres
            have f1 := free_of 1 hres
            have f2 := free_of 2 hres
            have f3 := free_of 3 hres
            have hwl := lt_of_block hres
            clear hres hf5
            go_wp2_with fail
            have hz0 := block_set4 (a := .int .i64 0) (b := .int .i64 0) (c := .slice none 0 0) (d := .string ⟨#[]⟩) HR5.out
            have hz := hz0
            have e0 := cell_of hz (i := 0) (v := .int .i64 0) rfl
            have e1 := cell_of hz (i := 1) (v := .int .i64 0) rfl
            have e2 := cell_of hz (i := 2) (v := .slice none 0 0) rfl
            have e3 := cell_of hz (i := 3) (v := .string ⟨#[]⟩) rfl
            refine bodyPost_ret (v := .tuple #[.agg #[.int .i64 0, .int .i64 0, .slice none 0 0, .string ⟨#[]⟩], .int .i64 er]) (by simp [results, Tryz.results16, go_sem, e0, e1, e2, e3] <;> rfl) rfl ?_
            exact unp_no HE.out ⟨rfl, fr_set4 HF5.out (Nat.le_refl _)⟩
          | ok q =>
            obtain ⟨t2, r2⟩ := q
            have htl2 := take_len htk
            have HTk := Lib.hid (take_ok_h (w := wr) htk hrl)
            have hsz2 : (bs t2).size = t2.length := rfl
            obtain ⟨m, hm⟩ : ∃ m : Int, min (1000 : Int) (long - d.length) = m := ⟨_, rfl⟩
            have HM := Lib.hid hm
            have HGO := Lib.hid hgo
            by_cases hlen : (t2.length : Int) = m
            · have HDm := Lib.hid (HU.out.data.trans (data_more (k := k) hgo htk (hlen.trans hm.symm)))
              have q2 : ((t2.length : Int) == m) = true := by simpa using hlen
              have q3 : decide ((t2.length : Int) = m) = true := by simpa using hlen
              have HLE := Lib.hid hlen
              clear htk hlen
              go_wp2_with (go_at_call 60; refine Calls.mono HLN.out ?_; rintro e w5 ⟨rfl, rfl⟩)
              refine Calls.mono HTk.out ?_
              rintro e w5 ⟨rfl, hf5⟩
              have hb5 := isB_fr HU.out.bld hf5
              have HLN5 := Lib.hid (clen_h _ _ d w5 hb5)
              have hbl5 := isB_lt hb5
              have HW5 := Lib.hid (bput (a := t2) hb5 (by omega) (by omega))
              have HL5 := Lib.hid (HU.out.low.trans (hf5.below (by omega) (fun _ h => h.elim)))
              clear hf5 hb5
              go_wp2_with (go_at_call 60; refine Calls.mono HLN5.out ?_; rintro e w6 ⟨rfl, rfl⟩)
              refine Calls.mono HW5.out ?_
              rintro e w6 ⟨rfl, h6, h7, h8⟩
              have HU6 : Hid (URel w w4 (w3.heap.size + 1) r long k (d ++ t2) r2 w6) := ⟨HDm.out, h6, HL5.out.trans h7⟩
              clear h6 h7 h8
              have hapl : (d ++ t2).length = d.length + t2.length := List.length_append
              go_wp2_with fail
              go_roundg k
              case measure => omega
              case rel => exact ⟨d ++ t2, r2, rfl, by omega, by omega, by omega, by omega, HU6.out⟩
            · have HE := Lib.hid (HD.out 8 (HU.out.data.trans (data_odd (k := k) hgo htk (fun h => hlen (h.trans hm)))))
              have q2 : ((t2.length : Int) == m) = false := by simpa using hlen
              have q3 : decide ((t2.length : Int) = m) = false := by simpa using hlen
              have q4 : ¬ (t2.length : Int) = m := hlen
              clear htk hlen
              go_wp2_with (go_at_call 60; refine Calls.mono HLN.out ?_; rintro e w5 ⟨rfl, rfl⟩)
              refine Calls.mono HTk.out ?_
              rintro e w5 ⟨rfl, hf5⟩
              have hb5 := isB_fr HU.out.bld hf5
              have HLN5 := Lib.hid (clen_h _ _ d w5 hb5)
              have hres := hf5.keep HRr.out (fun h => h)
              have HR5 := Lib.hid hres
              have HF5 := Lib.hid (HFr.out.next hf5)
              clear x0 x1 x2 x3 f0 f1 f2 f3 hwl hf5 hb5
              have x0 := cell_of hres (i := 0) (v := .int .i64 0) rfl
              have x1 := cell_of hres (i := 1) (v := .int .i64 0) rfl
              have x2 := cell_of hres (i := 2) (v := .slice none 0 0) rfl
              have x3 := cell_of hres (i := 3) (v := .string ⟨#[]⟩) rfl
              have f0 := free_of 0 hres
              have f1 := free_of 1 hres
              have f2 := free_of 2 hres
              have f3 := free_of 3 hres
              have hwl := lt_of_block hres
              clear hres
              go_wp2_with (go_at_call 60; refine Calls.mono HLN5.out ?_; rintro e w6 ⟨rfl, rfl⟩)
              have hz0 := block_set4 (a := .int .i64 0) (b := .int .i64 0) (c := .slice none 0 0) (d := .string ⟨#[]⟩) HR5.out
              have hz := hz0
              have e0 := cell_of hz (i := 0) (v := .int .i64 0) rfl
              have e1 := cell_of hz (i := 1) (v := .int .i64 0) rfl
              have e2 := cell_of hz (i := 2) (v := .slice none 0 0) rfl
              have e3 := cell_of hz (i := 3) (v := .string ⟨#[]⟩) rfl
              refine bodyPost_ret (v := .tuple #[.agg #[.int .i64 0, .int .i64 0, .slice none 0 0, .string ⟨#[]⟩], .int .i64 8]) (by simp [results, Tryz.results16, go_sem, e0, e1, e2, e3] <;> rfl) rfl ?_
              exact unp_no HE.out ⟨rfl, fr_set4 HF5.out (Nat.le_refl _)⟩
        · have HO2 := Lib.hid (HO.out d rest (HU.out.data.trans (data_end (k := k) hgo)))
          have hgoi : ¬ (d.length : Int) < long := hgo
          by_cases hre : rest = []
          · have t1 : ((bs rest).toList == []) = true := by rw [bs_toList, hre]; rfl
            have t2 : (bs rest).toList.isEmpty = true := by rw [bs_toList, hre]; rfl
            have HE : Hid (unpackL s = .ok { b with data := d }) := by show unpackL s = _; rw [HO2.out, if_pos hre]
            have HS := Lib.hid (show Calls Tryz.prog 62 #[.pointer (some ⟨w3.heap.size + 1, 0, none⟩)] wr (fun e w' => e = .returned (.string (bs d)) ∧ (Lib.IsBuilderF 108 5 (w3.heap.size + 1) (w3.heap.size + 1) (Lib.byteCells d) w' ∧ Below (w3.heap.size + 1) wr w' ∧ Lib.OthersKept 5 (some (w3.heap.size + 1)) wr w')) from cstring_any_k _ _ _ wr HU.out.bld (by omega))
            clear hre hgo
            go_wp2_with (go_at_call 60; refine Calls.mono HLN.out ?_; rintro e w5 ⟨rfl, rfl⟩)
            refine Calls.mono HS.out ?_
            rintro e w5 ⟨rfl, h5, h6, h7⟩
            have hf5 : Fr (fun k => w3.heap.size + 1 ≤ k) wr w5 := Fr.of_below h6
            have hres := hf5.keep HRr.out (by omega)
            have hkb := hf5.keep HKr.out (by omega)
            have HR5 := Lib.hid hres
            have HK5 := Lib.hid (block_set hkb 3 (.string (bs d)))
            have k0 := cell_of hkb (i := 0) (v := .int .i64 b.index) rfl
            have k1 := cell_of hkb (i := 1) (v := .int .i64 b.term) rfl
            have k2 := cell_of hkb (i := 2) (v := .slice a b.voters.length cap) rfl
            have k3 := cell_of hkb (i := 3) (v := .string ⟨#[]⟩) rfl
            have kf := free_of 3 hkb
            have HF5 := Lib.hid (HFr.out.trans' h6 (by omega))
            have HB5 := Lib.hid (HBr.out.fr hf5 (fun k h1 h2 => by have := h1.2.2; omega))
            have hsz5 := h6.size
            have ne1 : ¬ w.heap.size = w3.heap.size := by omega
            have ne2 : ¬ w3.heap.size = w.heap.size := by omega
            clear x0 x1 x2 x3 f0 f1 f2 f3 hwl
            have x0 := cell_of hres (i := 0) (v := .int .i64 0) rfl
            have x1 := cell_of hres (i := 1) (v := .int .i64 0) rfl
            have x2 := cell_of hres (i := 2) (v := .slice none 0 0) rfl
            have x3 := cell_of hres (i := 3) (v := .string ⟨#[]⟩) rfl
            have f0 := free_of 0 hres
            have f1 := free_of 1 hres
            have f2 := free_of 2 hres
            have f3 := free_of 3 hres
            have hwl := lt_of_block hres
            have hkl := lt_of_block hkb
            clear hres hkb hf5 h5 h6 h7
            go_wp2_with fail
            have hR6 : (w5.setCell ⟨w3.heap.size, 3, none⟩ (.string (bs d))).heap[w.heap.size]? = _ := (block_set_ne (by omega)).trans HR5.out
            have hz := block_set4 (a := .int .i64 b.index) (b := .int .i64 b.term) (c := .slice a b.voters.length cap) (d := .string (bs d)) hR6
            have e0 := cell_of hz (i := 0) (v := .int .i64 b.index) rfl
            have e1 := cell_of hz (i := 1) (v := .int .i64 b.term) rfl
            have e2 := cell_of hz (i := 2) (v := .slice a b.voters.length cap) rfl
            have e3 := cell_of hz (i := 3) (v := .string (bs d)) rfl
            refine bodyPost_ret (v := .tuple #[.agg #[.int .i64 b.index, .int .i64 b.term, .slice a b.voters.length cap, .string (bs d)], .int .i64 0]) (by simp [results, Tryz.results16, go_sem, e0, e1, e2, e3] <;> rfl) rfl ?_
            refine unp_ok HE.out ⟨_, rfl, unp_fin (d := d) (HB5.out) hdl (by omega) (by omega), fr_set4 (HF5.out.setCell (p := ⟨w3.heap.size, 3, none⟩) (.inr (show w.heap.size ≤ w3.heap.size by omega)) _) (Nat.le_refl _)⟩
          · have t1 : ((bs rest).toList == []) = false := by rw [bs_toList]; exact beq_eq_false_iff_ne.2 hre
            have t2 : (bs rest).toList.isEmpty = false := by rw [bs_toList]; simpa using hre
            have t3 : decide (bs rest = ⟨#[]⟩) = false := decide_eq_false fun e => hre (bs_inj e)
            have HE : Hid (unpackL s = .error 8) := by show unpackL s = _; rw [HO2.out, if_neg hre]
            clear hre hgo
            go_wp2_with (go_at_call 60; refine Calls.mono HLN.out ?_; rintro e w5 ⟨rfl, rfl⟩)
            have hz0 := block_set4 (a := .int .i64 0) (b := .int .i64 0) (c := .slice none 0 0) (d := .string ⟨#[]⟩) HRr.out
            have hz := hz0
            have e0 := cell_of hz (i := 0) (v := .int .i64 0) rfl
            have e1 := cell_of hz (i := 1) (v := .int .i64 0) rfl
            have e2 := cell_of hz (i := 2) (v := .slice none 0 0) rfl
            have e3 := cell_of hz (i := 3) (v := .string ⟨#[]⟩) rfl
            refine bodyPost_ret (v := .tuple #[.agg #[.int .i64 0, .int .i64 0, .slice none 0 0, .string ⟨#[]⟩], .int .i64 8]) (by simp [results, Tryz.results16, go_sem, e0, e1, e2, e3] <;> rfl) rfl ?_
            exact unp_no HE.out ⟨rfl, fr_set4 HFr.out (Nat.le_refl _)⟩
end Go.Proofs.YtgmghopcppniaaaGreatDoor
