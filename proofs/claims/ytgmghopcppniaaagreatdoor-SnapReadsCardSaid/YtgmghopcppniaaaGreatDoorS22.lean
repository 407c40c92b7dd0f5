/- snap.Load: walked. -/
import Derived.Test.YtgmghopcppniaaaGreatDoorS21
namespace Go.Proofs.YtgmghopcppniaaaGreatDoor
open Go.RowKit Go.Lib

def LoadPost (p : (BaseD × Bool) × Int) (w : World) (e : Ending) (w' : World) : Prop := ∃ v, e = .returned (.tuple #[baseV p.1.1 v, .bool p.1.2, .int .i64 p.2]) ∧ BaseIn w' (fun k => w.heap.size ≤ k ∧ k < w'.heap.size) p.1.1 v ∧ Fr (fun _ => False) w w'
theorem zero_in (w : World) (S : Nat → Prop) : BaseIn w S zeroB (.slice none 0 0) := ⟨IR.nil _ _, fun _ h => (by cases h), ⟨by decide, by decide⟩, ⟨by decide, by decide⟩, by decide⟩
/-- while the files are gone through -/
structure LRel (w : World) (D : DiskD) (B : Nat) (L : List Str) (r : Value) (k : Nat) (best : BaseD) (v : Value) (wr : World) : Prop where
  fold : (L.drop k).foldl (betterD D) best = bestD D
  res : wr.heap[w.heap.size]? = some (.cells #[.int .i64 0, .int .i64 0, .slice none 0 0, .string ⟨#[]⟩] 24 (0, 0))
  box : wr.heap[w.heap.size + 1]? = some (.cells #[.int .i64 best.index, .int .i64 best.term, v, .string (bs best.data)] 24 (0, 0))
  inn : BaseIn wr (fun k => w.heap.size + 1 < k ∧ k < wr.heap.size) best v
  fr : Fr (fun _ => False) w wr
  row : wr.ownsRow B 9 1 r L.length (L.map encS)
theorem total_ge {f : FileD} : ∀ {l : List FileD}, f ∈ l → f.bytes.length ≤ total l
  | [], h => by cases h
  | g :: l, h => by
    have e : total (g :: l) = g.bytes.length + total l := by simp [total]
    rcases List.mem_cons.1 h with rfl | h
    · omega
    · have := total_ge h; omega
theorem read_short {w : World} {pb mb : Nat} {D : DiskD} (h : DiskAt w pb mb D) (hm : D.most ≤ 1000000) (n : Str) : (readD D n).1.length ≤ 1000000 := by
  have h1 := h.inv.full
  unfold readD
  split
  · simp
  · split
    · simp
    · rename_i f hf
      have : f.bytes.length ≤ total D.files := by
        obtain ⟨hmem, _⟩ := get_mem hf
        exact total_ge hmem
      show f.bytes.length ≤ _
      omega
theorem LRel.carry {w wr W : World} {D : DiskD} {B k : Nat} {L : List Str} {r v : Value} {best : BaseD} (h : LRel w D B L r k best v wr) (hf : Fr (fun _ => False) wr W) : LRel w D B L r k best v W :=
  ⟨h.fold, hf.keep h.res (fun h => h), hf.keep h.box (fun h => h), (h.inn.grow hf).mono fun _ hk => ⟨hk.1, Nat.lt_of_lt_of_le hk.2 hf.size⟩, h.fr.next hf, ownsRow_keep h.row (fun k hk => hf.block k (h.row.lt k hk).2 (fun h => h))⟩
theorem LRel.skip {w W : World} {D : DiskD} {B k : Nat} {L : List Str} {r v : Value} {best : BaseD} (h : LRel w D B L r k best v W) (hfo : (L.drop (k + 1)).foldl (betterD D) best = bestD D) : LRel w D B L r (k + 1) best v W :=
  ⟨hfo, h.res, h.box, h.inn, h.fr, h.row⟩
theorem LRel.take {w W : World} {D : DiskD} {B k : Nat} {L : List Str} {r v v2 : Value} {best b : BaseD} {x : Obj} (h : LRel w D B L r k best v W) (hB : w.heap.size + 1 < B) (hfo : (L.drop (k + 1)).foldl (betterD D) b = bestD D) {S : Nat → Prop} (hb : BaseIn W S b v2) (hS : ∀ k, S k → w.heap.size + 1 < k ∧ k < W.heap.size) :
    LRel w D B L r (k + 1) b v2 (((((W.setCell ⟨w.heap.size + 1, 0, none⟩ (.int .i64 b.index)).setCell ⟨w.heap.size + 1, 1, none⟩ (.int .i64 b.term)).setCell ⟨w.heap.size + 1, 2, none⟩ v2).setCell ⟨w.heap.size + 1, 3, none⟩ (.string (bs b.data))).alloc x) := by
  have hf : Fr (fun k => k = w.heap.size + 1) W (((((W.setCell ⟨w.heap.size + 1, 0, none⟩ (.int .i64 b.index)).setCell ⟨w.heap.size + 1, 1, none⟩ (.int .i64 b.term)).setCell ⟨w.heap.size + 1, 2, none⟩ v2).setCell ⟨w.heap.size + 1, 3, none⟩ (.string (bs b.data))).alloc x) :=
    (((((Fr.refl (fun k => k = w.heap.size + 1) W).setCell (p := ⟨w.heap.size + 1, 0, none⟩) (.inl rfl) _).setCell (p := ⟨w.heap.size + 1, 1, none⟩) (.inl rfl) _).setCell (p := ⟨w.heap.size + 1, 2, none⟩) (.inl rfl) _).setCell (p := ⟨w.heap.size + 1, 3, none⟩) (.inl rfl) _).alloc x
  refine ⟨hfo, hf.keep h.res (by omega), block_old (block_set4 h.box) x, (hb.fr hf (fun k h1 h2 => by have := (hS k h1).1; omega)).mono fun k hk => ⟨(hS k hk).1, Nat.lt_of_lt_of_le (hS k hk).2 hf.size⟩, (fr_set4 h.fr (by omega)).alloc x, ?_⟩
  exact ownsRow_keep h.row (fun k hk => hf.block k (h.row.lt k hk).2 (by have := (h.row.lt k hk).1; omega))
theorem load_fin {w wr : World} {b : BaseD} {v x0 x1 x2 x3 : Value} (h : BaseIn wr (fun k => w.heap.size + 1 < k ∧ k < wr.heap.size) b v) :
    BaseIn ((((wr.setCell ⟨w.heap.size, 0, none⟩ x0).setCell ⟨w.heap.size, 1, none⟩ x1).setCell ⟨w.heap.size, 2, none⟩ x2).setCell ⟨w.heap.size, 3, none⟩ x3) (fun k => w.heap.size ≤ k ∧ k < ((((wr.setCell ⟨w.heap.size, 0, none⟩ x0).setCell ⟨w.heap.size, 1, none⟩ x1).setCell ⟨w.heap.size, 2, none⟩ x2).setCell ⟨w.heap.size, 3, none⟩ x3).heap.size) b v := by
  have hf : Fr (fun k => k = w.heap.size) wr ((((wr.setCell ⟨w.heap.size, 0, none⟩ x0).setCell ⟨w.heap.size, 1, none⟩ x1).setCell ⟨w.heap.size, 2, none⟩ x2).setCell ⟨w.heap.size, 3, none⟩ x3) :=
    ((((Fr.refl (fun k => k = w.heap.size) wr).setCell (p := ⟨w.heap.size, 0, none⟩) (.inl rfl) _).setCell (p := ⟨w.heap.size, 1, none⟩) (.inl rfl) _).setCell (p := ⟨w.heap.size, 2, none⟩) (.inl rfl) _).setCell (p := ⟨w.heap.size, 3, none⟩) (.inl rfl) _
  exact (h.fr hf (fun k h1 h2 => by have := h1.1; omega)).mono fun k hk => ⟨by have := hk.1; omega, by have := hf.size; have := hk.2; omega⟩
theorem better_low {D : DiskD} {best : BaseD} {s : Str} (h : idxD s ≤ best.index) : betterD D best s = best := by unfold betterD; rw [if_pos h]
theorem better_err {D : DiskD} {best : BaseD} {s : Str} {er : Int} (h : ¬ idxD s ≤ best.index) (hu : unpackL (readD D s).1 = .error er) : betterD D best s = best := by unfold betterD; rw [if_neg h, hu]
theorem better_is {D : DiskD} {best b : BaseD} {s : Str} (h : ¬ idxD s ≤ best.index) (hu : unpackL (readD D s).1 = .ok b) (hi : b.index = idxD s) : betterD D best s = b := by unfold betterD; rw [if_neg h, hu]; simp only; rw [if_pos hi]
theorem better_not {D : DiskD} {best b : BaseD} {s : Str} (h : ¬ idxD s ≤ best.index) (hu : unpackL (readD D s).1 = .ok b) (hi : ¬ b.index = idxD s) : betterD D best s = best := by unfold betterD; rw [if_neg h, hu]; simp only; rw [if_neg hi]
set_option maxRecDepth 100000 in
set_option maxHeartbeats 8000000 in
theorem load_h {w : World} {pb mb : Nat} {D : DiskD} (hE : Env w) (hD : DiskAt w pb mb D) (hm : D.most ≤ 1000000) :
    Calls Tryz.prog 29 #[.pointer (some ⟨pb, 0, none⟩)] w (LoadPost (loadD D) w) := by
  have hpb : pb < w.heap.size := lt_of_block hD.head
  have hmb : mb < w.heap.size := hD.map.lt
  obtain ⟨w1, hw1⟩ : ∃ w1, w1 = w.alloc (.cells #[.int .i64 0, .int .i64 0, .slice none 0 0, .string ⟨#[]⟩] 24) := ⟨_, rfl⟩
  have HF1 : Hid (Fr (fun _ => False) w w1) := by show Fr _ _ _; rw [hw1]; exact (Fr.refl _ _).alloc _
  have HB1 : Hid (w1.heap[w.heap.size]? = some (.cells #[.int .i64 0, .int .i64 0, .slice none 0 0, .string ⟨#[]⟩] 24 (0, 0))) := by show w1.heap[w.heap.size]? = _; rw [hw1]; exact block_new _ _
  have HD0 := Lib.hid hD
  have HD1 := Lib.hid (hD.grow HF1.out)
  have HDE := Lib.hid (dead_h HD1.out)
  have hs1 : w1.heap.size = w.heap.size + 1 := by rw [hw1]; simp
  have HEE := Lib.hid (fun (W : World) (hf : Fr (fun _ => False) w W) => hE.grow hf)
  have HM := Lib.hid hm
  clear hD hm
  have HS1 := Lib.hid hs1
  clear hs1
  go_enter Tryz.func29, Tryz.ntmps29
  go_wp2_with fail
  rw [← hw1]
  clear hw1
  refine Calls.mono HDE.out ?_
  rintro e w2 ⟨rfl, rfl⟩
  cases hd : D.dead with
  | true =>
    have HE : Hid (loadD D = ((zeroB, false), 7)) := by show loadD D = _; unfold loadD; rw [if_pos hd]
    have x0 := cell_of HB1.out (i := 0) (v := .int .i64 0) rfl
    have x1 := cell_of HB1.out (i := 1) (v := .int .i64 0) rfl
    have x2 := cell_of HB1.out (i := 2) (v := .slice none 0 0) rfl
    have x3 := cell_of HB1.out (i := 3) (v := .string ⟨#[]⟩) rfl
    have f0 := free_of 0 HB1.out
    have f1 := free_of 1 HB1.out
    have f2 := free_of 2 HB1.out
    have f3 := free_of 3 HB1.out
    have hwl := lt_of_block HB1.out
    clear hd
    go_wp2_with fail
    have hz := block_set4 (a := .int .i64 0) (b := .int .i64 0) (c := .slice none 0 0) (d := .string ⟨#[]⟩) HB1.out
    have e0 := cell_of hz (i := 0) (v := .int .i64 0) rfl
    have e1 := cell_of hz (i := 1) (v := .int .i64 0) rfl
    have e2 := cell_of hz (i := 2) (v := .slice none 0 0) rfl
    have e3 := cell_of hz (i := 3) (v := .string ⟨#[]⟩) rfl
    refine bodyPost_ret (v := .tuple #[.agg #[.int .i64 0, .int .i64 0, .slice none 0 0, .string ⟨#[]⟩], .bool false, .int .i64 7]) (by simp [results, Tryz.results29, go_sem, e0, e1, e2, e3] <;> rfl) rfl ?_
    rw [HE.out]
    exact ⟨.slice none 0 0, rfl, zero_in _ _, fr_set4 HF1.out (Nat.le_refl _)⟩
  | false =>
    have HLD : Hid (loadD D = ((bestD D, decide (0 < (bestD D).index)), 0)) := by show loadD D = _; unfold loadD; rw [if_neg (by rw [hd]; simp)]
    clear hd
    obtain ⟨w2, hw2⟩ : ∃ w2, w2 = w1.alloc (.cells #[.int .i64 0, .int .i64 0, .slice none 0 0, .string ⟨#[]⟩] 24) := ⟨_, rfl⟩
    have HF12 : Hid (Fr (fun _ => False) w1 w2) := by show Fr _ _ _; rw [hw2]; exact (Fr.refl _ _).alloc _
    have HF2 := Lib.hid (HF1.out.next HF12.out)
    have HB2 := Lib.hid (HF12.out.keep HB1.out (fun h => h))
    have HK2 : Hid (w2.heap[w.heap.size + 1]? = some (.cells #[.int .i64 0, .int .i64 0, .slice none 0 0, .string ⟨#[]⟩] 24 (0, 0))) := by show w2.heap[w.heap.size + 1]? = _; rw [hw2, ← HS1.out]; exact block_new _ _
    have HLI := Lib.hid (list_h (HD1.out.grow HF12.out))
    have HSH := Lib.hid (names_short HD0.out)
    have hs2 : w2.heap.size = w.heap.size + 2 := by rw [hw2]; simp; have := HS1.out; omega
    have HS2 := Lib.hid hs2
    have HBD : Hid (bestD D = (names D.files).foldl (betterD D) zeroB) := rfl
    obtain ⟨L, hL⟩ : ∃ L, names D.files = L := ⟨_, rfl⟩
    rw [hL] at HBD HLI HSH
    have hs1 := HS1.out
    clear hL hs2
    go_wp2_with fail
    rw [← hw2]
    clear hw2
    refine Calls.mono HLI.out ?_
    rintro e w3 ⟨r, rfl, hrow, hf3⟩
    obtain ⟨ra, rc, rfl⟩ := ownsRow_shape hrow
    have HV : Hid (LRel w D w2.heap.size L (.slice ra L.length rc) 0 zeroB (.slice none 0 0) w3) := ⟨HBD.out.symm, hf3.keep HB2.out (fun h => h), hf3.keep HK2.out (fun h => h), zero_in _ _, HF2.out.next hf3, hrow⟩
    clear hrow hf3
    go_wp2_with fail
    go_loopg [19] (L.length) (fun j v19 wr => ∃ (k : Nat) (best : BaseD) (v : Value), k + j = L.length ∧ v19 = .int .i64 (k : Int) ∧ Hid (LRel w D w2.heap.size L (.slice ra L.length rc) k best v wr))
    case atStart => exact ⟨0, zeroB, _, by omega, rfl, HV.out⟩
    case round =>
      obtain ⟨k, best, v, hk, rfl, HK⟩ := hrel
      have HX := Lib.hid hk
      clear hk
      obtain ⟨va, vc, rfl, hvc1, hvc2⟩ := HK.out.inn.row.form
      by_cases hlt : k < L.length
      · obtain ⟨s, hs⟩ : ∃ s, L[k]? = some s := ⟨_, List.getElem?_eq_getElem hlt⟩
        obtain ⟨g, gc, hv, hgB, hnc, hcm⟩ := ownsRow_form HK.out.row (by omega)
        have hll : L.length ≤ 9223372036854775807 := by unfold maxLen at hcm; omega
        injection hv with hv1 _ hv2
        subst hv1; subst hv2
        have c0 := ownsRow_cell HK.out.row (i := k) (v := encS s) (by rw [List.getElem?_map, hs]; rfl)
        unfold encS at c0
        have hdrop : L.drop k = s :: L.drop (k + 1) := by
          obtain ⟨hl, e⟩ := List.getElem?_eq_some_iff.1 hs
          rw [← e]; exact List.drop_eq_getElem_cons hl
        have HG : Hid ((L.drop (k + 1)).foldl (betterD D) (betterD D best s) = bestD D) := by
          show _ = _
          have := HK.out.fold
          rw [hdrop] at this
          exact this
        have HIX := Lib.hid (index_h (HEE.out _ HK.out.fr) s (HSH.out s (List.mem_of_getElem? hs)))
        clear hdrop hs
        obtain ⟨n, hn⟩ : ∃ n, idxD s = n := ⟨_, rfl⟩
        have HIN : Hid (Calls Tryz.prog 70 #[.string (bs s)] wr (fun e w' => e = .returned (.int .i64 n) ∧ Fr (fun _ => False) wr w')) := by
          show Calls _ _ _ _ _
          refine HIX.out.mono ?_
          rintro e w' ⟨rfl, hf⟩
          exact ⟨by rw [hn], hf⟩
        have HN := Lib.hid hn
        clear hn HIX
        go_wp2_with fail
        refine Calls.mono HIN.out ?_
        rintro e w6 ⟨rfl, hf6⟩
        have HF6 := Lib.hid hf6
        have hbox6 := hf6.keep HK.out.box (fun h => h)
        have i0 := cell_of hbox6 (i := 0) (v := .int .i64 best.index) rfl
        have HK6 := Lib.hid (HK.out.carry hf6)
        clear hf6 hbox6
        by_cases hle : n ≤ best.index
        · have HV2 := Lib.hid (HK6.out.skip (by rw [← HG.out, better_low (by rw [HN.out]; exact hle)]))
          go_wp2_with fail
          go_roundg (L.length - (k + 1))
          case measure => have := HX.out; omega
          case rel => exact ⟨k + 1, best, _, by omega, by go_num, HV2.out⟩
        · have HGT := Lib.hid (show ¬ idxD s ≤ best.index by rw [HN.out]; exact hle)
          have HRD := Lib.hid (read_h (HD0.out.grow HK6.out.fr) s)
          have hrs := read_short HD0.out HM.out s
          obtain ⟨y, hy⟩ : ∃ y, (readD D s).1 = y := ⟨_, rfl⟩
          obtain ⟨ye, hye⟩ : ∃ y, (readD D s).2 = y := ⟨_, rfl⟩
          rw [hy] at hrs HRD
          rw [hye] at HRD
          have HY := Lib.hid hy
          clear hy hye
          go_wp2_with fail
          refine Calls.mono HRD.out ?_
          rintro e w7 ⟨rfl, hf7⟩
          have HK7 := Lib.hid (HK6.out.carry hf7)
          have HUP := Lib.hid (unpack_h (w := w7) y hrs)
          have hs27 : w.heap.size + 2 ≤ w7.heap.size := by have := (HK7.out.row.lt g rfl); have := HS2.out; omega
          clear hf7
          cases hu : unpackL y with
          | error er =>
            have HUN : Hid (Calls Tryz.prog 16 #[.string (bs y)] w7 (fun e w' => e = .returned (.tuple #[.agg #[.int .i64 0, .int .i64 0, .slice none 0 0, .string ⟨#[]⟩], .int .i64 er]) ∧ Fr (fun _ => False) w7 w')) := by
              show Calls _ _ _ _ _
              refine HUP.out.mono ?_
              intro e w' hp
              unfold UnpPost at hp
              rw [hu] at hp
              exact hp
            have her : er ≠ 0 := by rcases unpack_err hu with h | h <;> omega
            have q1 : (er == 0) = false := by simpa using her
            have q2 : decide (er = 0) = false := by simpa using her
            have HFO := Lib.hid (show (L.drop (k + 1)).foldl (betterD D) best = bestD D by rw [← HG.out, better_err (by have := HGT.out; omega) (by rw [HY.out]; exact hu)])
            clear hu HUP
            go_wp2_with fail
            refine Calls.mono HUN.out ?_
            rintro e w8 ⟨rfl, hf8⟩
            have HK8 := Lib.hid ((HK7.out.carry (hf8.alloc (.cells #[.int .i64 0, .int .i64 0, .slice none 0 0, .string ⟨#[]⟩] 24))).skip HFO.out)
            clear hf8
            go_wp2_with fail
            go_roundg (L.length - (k + 1))
            case measure => have := HX.out; omega
            case rel => exact ⟨k + 1, best, _, by omega, by go_num, HK8.out⟩
          | ok b =>
            have HUO : Hid (Calls Tryz.prog 16 #[.string (bs y)] w7 (UnpOk b w7)) := by
              show Calls _ _ _ _ _
              refine HUP.out.mono ?_
              intro e w' hp
              unfold UnpPost at hp
              rw [hu] at hp
              exact hp
            have HU := Lib.hid hu
            clear hu HUP
            go_wp2_with fail
            refine Calls.mono HUO.out ?_
            rintro e w8 ⟨v2, rfl, hb8, hf8⟩
            obtain ⟨a2, c2, rfl, hc21, hc22⟩ := hb8.row.form
            have HA : baseV b (.slice a2 b.voters.length c2) = .agg #[.int .i64 b.index, .int .i64 b.term, .slice a2 b.voters.length c2, .string (bs b.data)] := rfl
            rw [HA]
            have HK8 := Lib.hid (HK7.out.carry hf8)
            have HB8 := Lib.hid hb8
            have hs78 := hf8.size
            have hne1 : ¬ w.heap.size + 1 = w8.heap.size := by omega
            have hne2 : ¬ w8.heap.size = w.heap.size + 1 := by omega
            have k0 := cell_of HK8.out.box (i := 0) (v := .int .i64 best.index) rfl
            have k1 := cell_of HK8.out.box (i := 1) (v := .int .i64 best.term) rfl
            have k2 := cell_of HK8.out.box (i := 2) (v := .slice va best.voters.length vc) rfl
            have k3 := cell_of HK8.out.box (i := 3) (v := .string (bs best.data)) rfl
            have g0 := free_of 0 HK8.out.box
            have g1 := free_of 1 HK8.out.box
            have g2 := free_of 2 HK8.out.box
            have g3 := free_of 3 HK8.out.box
            have gl := lt_of_block HK8.out.box
            have hB2 : w.heap.size + 1 < w2.heap.size := by have := HS2.out; omega
            clear hb8 hf8 HA
            by_cases hbi : b.index = n
            · have q1 : (b.index == n) = true := by simpa using hbi
              have q2 : decide (b.index = n) = true := by simpa using hbi
              have HV2 := Lib.hid (HK8.out.take (x := .cells #[.int .i64 b.index, .int .i64 b.term, .slice a2 b.voters.length c2, .string (bs b.data)] 24) hB2 (by rw [← HG.out, better_is (by have := HGT.out; omega) (by rw [HY.out]; exact HU.out) (by rw [HN.out]; exact hbi)]) HB8.out (fun k hk => ⟨by have := hk.1; omega, hk.2⟩))
              clear hbi
              go_wp2_with fail
              go_roundg (L.length - (k + 1))
              case measure => have := HX.out; omega
              case rel => exact ⟨k + 1, b, _, by omega, by go_num, HV2.out⟩
            · have q1 : (b.index == n) = false := by simpa using hbi
              have q2 : decide (b.index = n) = false := by simpa using hbi
              have HV2 := Lib.hid ((HK8.out.carry ((Fr.refl _ w8).alloc (.cells #[.int .i64 b.index, .int .i64 b.term, .slice a2 b.voters.length c2, .string (bs b.data)] 24))).skip (by rw [← HG.out, better_not (by have := HGT.out; omega) (by rw [HY.out]; exact HU.out) (by rw [HN.out]; exact hbi)]))
              clear hbi
              go_wp2_with fail
              go_roundg (L.length - (k + 1))
              case measure => have := HX.out; omega
              case rel => exact ⟨k + 1, best, _, by omega, by go_num, HV2.out⟩
      · obtain rfl : k = L.length := by have := HX.out; omega
        have hfo := HK.out.fold
        rw [List.drop_length] at hfo
        have HFO : Hid (best = bestD D) := hfo
        have k0 := cell_of HK.out.box (i := 0) (v := .int .i64 best.index) rfl
        have k1 := cell_of HK.out.box (i := 1) (v := .int .i64 best.term) rfl
        have k2 := cell_of HK.out.box (i := 2) (v := .slice va best.voters.length vc) rfl
        have k3 := cell_of HK.out.box (i := 3) (v := .string (bs best.data)) rfl
        have x0 := cell_of HK.out.res (i := 0) (v := .int .i64 0) rfl
        have x1 := cell_of HK.out.res (i := 1) (v := .int .i64 0) rfl
        have x2 := cell_of HK.out.res (i := 2) (v := .slice none 0 0) rfl
        have x3 := cell_of HK.out.res (i := 3) (v := .string ⟨#[]⟩) rfl
        have f0 := free_of 0 HK.out.res
        have f1 := free_of 1 HK.out.res
        have f2 := free_of 2 HK.out.res
        have f3 := free_of 3 HK.out.res
        have hwl := lt_of_block HK.out.res
        clear hfo
        go_wp2_with fail
        go_region_held3 (fun w' => w'.cell? ⟨w.heap.size + 1, 0, none⟩ = some (.int .i64 best.index) ∧ w'.cell? ⟨w.heap.size + 1, 1, none⟩ = some (.int .i64 best.term) ∧ w'.cell? ⟨w.heap.size + 1, 2, none⟩ = some (.slice va best.voters.length vc) ∧ w'.cell? ⟨w.heap.size + 1, 3, none⟩ = some (.string (bs best.data)))
          (first | go_keep | fail)
          (fail)
        all_goals
          go_wp2_with fail
          have hz := block_set4 (a := .int .i64 best.index) (b := .int .i64 best.term) (c := .slice va best.voters.length vc) (d := .string (bs best.data)) HK.out.res
          have e0 := cell_of hz (i := 0) (v := .int .i64 best.index) rfl
          have e1 := cell_of hz (i := 1) (v := .int .i64 best.term) rfl
          have e2 := cell_of hz (i := 2) (v := .slice va best.voters.length vc) rfl
          have e3 := cell_of hz (i := 3) (v := .string (bs best.data)) rfl
          refine bodyPost_ret (v := .tuple #[.agg #[.int .i64 best.index, .int .i64 best.term, .slice va best.voters.length vc, .string (bs best.data)], .bool (decide (0 < best.index)), .int .i64 0]) (by simp [results, Tryz.results29, go_sem, e0, e1, e2, e3] <;> rfl) rfl ?_
          rw [HLD.out, ← HFO.out]
          exact ⟨_, rfl, BaseIn.grow (load_fin HK.out.inn) ((Fr.refl _ _).drew), (fr_set4 HK.out.fr (Nat.le_refl _)).drew⟩
end Go.Proofs.YtgmghopcppniaaaGreatDoor
