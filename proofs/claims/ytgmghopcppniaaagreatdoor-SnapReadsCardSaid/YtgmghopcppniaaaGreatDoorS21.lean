/- snap.Save: walked. -/
import Derived.Test.YtgmghopcppniaaaGreatDoorS20
namespace Go.Proofs.YtgmghopcppniaaaGreatDoor
open Go.RowKit Go.Lib

theorem wipe_skip {i : Int} {s : Str} {l : List Str} {D : DiskD} (h : ¬ (0 < idxD s ∧ idxD s ≠ i)) : wipeD i (s :: l) D = wipeD i l D := by
  show (if _ then _ else _) = _
  rw [if_neg h]
theorem wipe_bad {i : Int} {s : Str} {l : List Str} {D : DiskD} (h : 0 < idxD s ∧ idxD s ≠ i) (h2 : (deleteD D s).1 ≠ 0) : wipeD i (s :: l) D = deleteD D s := by
  show (if _ then _ else _) = _
  rw [if_pos h, if_pos h2]
theorem wipe_next {i : Int} {s : Str} {l : List Str} {D : DiskD} (h : 0 < idxD s ∧ idxD s ≠ i) (h2 : (deleteD D s).1 = 0) : wipeD i (s :: l) D = wipeD i l (deleteD D s).2 := by
  show (if _ then _ else _) = _
  rw [if_pos h, if_neg (by rw [h2]; simp)]
/-- while old files are deleted -/
structure VRel (w : World) (pb mb : Nat) (b : BaseD) (v : Value) (B : Nat) (L : List Str) (D0 : DiskD) (r : Value) (k : Nat) (wr : World) : Prop where
  go : ∃ Dk, wipeD b.index L D0 = wipeD b.index (L.drop k) Dk ∧ DiskAt wr pb mb Dk
  box : wr.heap[w.heap.size]? = some (.cells #[.int .i64 b.index, .int .i64 b.term, v, .string (bs b.data)] 24 (0, 0))
  fr : Fr (Own pb mb) w wr
  row : wr.ownsRow B 9 1 r L.length (L.map encS)
theorem names_short {w : World} {pb mb : Nat} {D : DiskD} (h : DiskAt w pb mb D) : ∀ s ∈ names D.files, s.length ≤ 1000000 := by
  intro s hs
  obtain ⟨f, hf, rfl⟩ := List.mem_map.1 hs
  have := name_len h.inv hf
  omega
def SaveP (pb mb : Nat) (p : Int × DiskD) (w : World) (e : Ending) (w' : World) : Prop := Does pb mb p w e w'
theorem save_is {pb mb : Nat} {p : Int × DiskD} {er : Int} {Dk : DiskD} {w w' : World} (h : p = (er, Dk)) (hD : DiskAt w' pb mb Dk) (hf : Fr (Own pb mb) w w') : Does pb mb p w (.returned (.int .i64 er)) w' := by subst h; exact ⟨rfl, hD, hf⟩
set_option maxRecDepth 100000 in
set_option maxHeartbeats 8000000 in
theorem save_h {w : World} {pb mb : Nat} {D : DiskD} {b : BaseD} {v : Value} (hE : Env w) (h8 : 8 ≤ pb ∧ 8 ≤ mb) (hD : DiskAt w pb mb D) {S : Nat → Prop} (h : BaseIn w S b v) (hS : ∀ k, S k → k < w.heap.size ∧ ¬ Own pb mb k) :
    Calls Tryz.prog 27 #[.pointer (some ⟨pb, 0, none⟩), baseV b v] w (Does pb mb (saveD D b) w) := by
  have hrow := h.row
  obtain ⟨a, cap, rfl, hcap, hcap2⟩ := hrow.form
  clear hrow
  have hpb : pb < w.heap.size := lt_of_block hD.head
  have hmb : mb < w.heap.size := hD.map.lt
  have HA : baseV b (.slice a b.voters.length cap) = .agg #[.int .i64 b.index, .int .i64 b.term, .slice a b.voters.length cap, .string (bs b.data)] := rfl
  rw [HA]
  obtain ⟨w1, hw1⟩ : ∃ w1, w1 = w.alloc (.cells #[.int .i64 b.index, .int .i64 b.term, .slice a b.voters.length cap, .string (bs b.data)] 24) := ⟨_, rfl⟩
  have HB1 : Hid (w1.heap[w.heap.size]? = some (.cells #[.int .i64 b.index, .int .i64 b.term, .slice a b.voters.length cap, .string (bs b.data)] 24 (0, 0))) := by show w1.heap[w.heap.size]? = _; rw [hw1]; exact block_new _ _
  have HF1 : Hid (Fr (fun _ => False) w w1) := by show Fr _ _ _; rw [hw1]; exact (Fr.refl _ _).alloc _
  have HH1 := Lib.hid (h.grow HF1.out)
  have HR := Lib.hid (right_h HH1.out)
  rw [HA] at HR
  have HSS := Lib.hid hS
  have HH0 := Lib.hid h
  have HD1 := Lib.hid (hD.grow HF1.out)
  have HOW := Lib.hid (fun (k : Nat) (hk : w.heap.size ≤ k) => own_ge hpb hmb hk)
  have HEE := Lib.hid (fun (W : World) (hf : Fr (Own pb mb) w W) => hE.fr hf (fun k hk => by rintro (e | e) <;> omega))
  clear HA h hS hD
  go_enter Tryz.func27, Tryz.ntmps27
  go_wp2_with fail
  rw [← hw1]
  clear hw1
  refine Calls.mono HR.out ?_
  rintro e w2 ⟨rfl, hf2⟩
  have HF2 := Lib.hid (HF1.out.next hf2)
  have HB2 := Lib.hid (hf2.keep HB1.out (fun h => h))
  have HD2 := Lib.hid (HD1.out.grow hf2)
  clear hf2 HR
  cases hr : rightB b with
  | false =>
    have HE : Hid (saveD D b = (1, D)) := by show saveD D b = _; unfold saveD; rw [if_pos hr]
    clear hr
    go_wp2_with fail
    go_ret
    exact save_is HE.out HD2.out (HF2.out.mono fun _ _ h => h.elim)
  | true =>
    have HRB := Lib.hid hr
    have HS0 : Hid (saveD D b = if (deleteD D freshN).1 = 7 then deleteD D freshN
      else if (writeD (deleteD D freshN).2 b).1 ≠ 0 then
        (if (deleteD (writeD (deleteD D freshN).2 b).2 freshN).1 = 7 then deleteD (writeD (deleteD D freshN).2 b).2 freshN
          else ((writeD (deleteD D freshN).2 b).1, (deleteD (writeD (deleteD D freshN).2 b).2 freshN).2))
      else wipeD b.index (namesL (writeD (deleteD D freshN).2 b).2.files) (writeD (deleteD D freshN).2 b).2) := by
      show saveD D b = _; unfold saveD; rw [if_neg (by rw [hr]; simp)]
    clear hr
    have HL := Lib.hid (delete_h HD2.out freshN)
    obtain ⟨q, hq⟩ : ∃ q, deleteD D freshN = q := ⟨_, rfl⟩
    rw [hq] at HL HS0
    clear hq
    go_wp2_with fail
    refine Calls.mono HL.out ?_
    rintro e w3 ⟨rfl, hD3, hf3⟩
    have HD3 := Lib.hid hD3
    have HF3 := Lib.hid ((HF2.out.mono (o2 := Own pb mb) fun _ _ h => h.elim).next hf3)
    have HB3 := Lib.hid (hf3.keep HB2.out (HOW.out _ (Nat.le_refl _)))
    clear hD3 hf3
    by_cases h7 : q.1 = 7
    · have q1 : (q.1 == 7) = true := by simpa using h7
      have q2 : decide (q.1 = 7) = true := by simpa using h7
      have HE : Hid (saveD D b = q) := by show saveD D b = _; rw [HS0.out, if_pos h7]
      clear h7
      go_wp2_with fail
      go_ret
      exact save_is HE.out HD3.out HF3.out
    · have q1 : (q.1 == 7) = false := by simpa using h7
      have q2 : decide (q.1 = 7) = false := by simpa using h7
      rw [if_neg h7] at HS0
      clear h7
      have HH3 : Hid (BaseIn w3 (fun k => k < w3.heap.size) b (.slice a b.voters.length cap)) := (HH0.out.fr HF3.out (fun k h1 => (HSS.out k h1).2)).mono fun k hk => Nat.lt_of_lt_of_le (HSS.out k hk).1 HF3.out.size
      have HW := Lib.hid (write_h (HEE.out _ HF3.out) h8 HD3.out HH3.out HRB.out)
      have x0 := cell_of HB3.out (i := 0) (v := .int .i64 b.index) rfl
      have x1 := cell_of HB3.out (i := 1) (v := .int .i64 b.term) rfl
      have x2 := cell_of HB3.out (i := 2) (v := .slice a b.voters.length cap) rfl
      have x3 := cell_of HB3.out (i := 3) (v := .string (bs b.data)) rfl
      obtain ⟨p, hp⟩ : ∃ p, writeD q.2 b = p := ⟨_, rfl⟩
      rw [hp] at HW HS0
      clear hp
      go_wp2_with (go_at_call 69; refine Calls.mono HW.out ?_)
      rintro e w4 ⟨rfl, hD4, hf4⟩
      have HD4 := Lib.hid hD4
      have HF4 := Lib.hid (HF3.out.next hf4)
      have HB4 := Lib.hid (hf4.keep HB3.out (HOW.out _ (Nat.le_refl _)))
      clear hD4 hf4 x0 x1 x2 x3
      by_cases h0 : p.1 = 0
      · have q3 : (p.1 == 0) = true := by simpa using h0
        have q4 : decide (p.1 = 0) = true := by simpa using h0
        have HS1 : Hid (saveD D b = wipeD b.index (names p.2.files) p.2) := by show saveD D b = _; rw [HS0.out, if_neg (fun h => h h0)]; rfl
        clear h0
        have HLI := Lib.hid (list_h HD4.out)
        have HSH := Lib.hid (names_short HD4.out)
        obtain ⟨L, hL⟩ : ∃ L, names p.2.files = L := ⟨_, rfl⟩
        rw [hL] at HS1 HLI HSH
        clear hL
        go_wp2_with (go_at_call 56; refine Calls.mono HLI.out ?_)
        rintro e w5 ⟨r, rfl, hrow, hf5⟩
        obtain ⟨ra, rc, rfl⟩ := ownsRow_shape hrow
        have HV : Hid (VRel w pb mb b (.slice a b.voters.length cap) w4.heap.size L p.2 (.slice ra L.length rc) 0 w5) := ⟨⟨p.2, rfl, HD4.out.grow hf5⟩, hf5.keep HB4.out (fun h => h), HF4.out.next (hf5.mono fun _ _ h => h.elim), hrow⟩
        have hw4 : w.heap.size ≤ w4.heap.size := HF4.out.size
        clear hrow hf5
        go_wp2_with fail
        go_loopg [31] (L.length) (fun j v31 wr => ∃ k : Nat, k + j = L.length ∧ v31 = .int .i64 (k : Int) ∧ Hid (VRel w pb mb b (.slice a b.voters.length cap) w4.heap.size L p.2 (.slice ra L.length rc) k wr))
        case atStart => exact ⟨0, by omega, rfl, HV.out⟩
        case round =>
          obtain ⟨k, hk, rfl, HK⟩ := hrel
          have HX := Lib.hid hk
          clear hk
          by_cases hlt : k < L.length
          · obtain ⟨s, hs⟩ : ∃ s, L[k]? = some s := ⟨_, List.getElem?_eq_getElem hlt⟩
            obtain ⟨g, gc, hv, hgB, hnc, hcm⟩ := ownsRow_form HK.out.row (by omega)
            have hll : L.length ≤ 9223372036854775807 := by unfold maxLen at hcm; omega
            injection hv with hv1 _ hv2
            subst hv1; subst hv2
            have c0 := ownsRow_cell HK.out.row (i := k) (v := encS s) (by rw [List.getElem?_map, hs]; rfl)
            unfold encS at c0
            obtain ⟨Dk, hgo, hDk⟩ := HK.out.go
            have hdrop : L.drop k = s :: L.drop (k + 1) := by
              obtain ⟨hl, e⟩ := List.getElem?_eq_some_iff.1 hs
              rw [← e]; exact List.drop_eq_getElem_cons hl
            rw [hdrop] at hgo
            have HG := Lib.hid hgo
            have HDk := Lib.hid hDk
            have HIX := Lib.hid (index_h (HEE.out _ HK.out.fr) s (HSH.out s (List.mem_of_getElem? hs)))
            clear hgo hDk hdrop hs
            obtain ⟨n, hn⟩ : ∃ n, idxD s = n := ⟨_, rfl⟩
            have HIN : Hid (Calls Tryz.prog 70 #[.string (bs s)] wr (fun e w' => e = .returned (.int .i64 n) ∧ Fr (fun _ => False) wr w')) := by
              show Calls _ _ _ _ _
              refine HIX.out.mono ?_
              rintro e w' ⟨rfl, hf⟩
              exact ⟨by rw [hn], hf⟩
            have HN := Lib.hid hn
            clear hn HIX
            go_wp2_with fail
            refine Calls.mono HIN.out ?_
            rintro e w6 ⟨rfl, hf6⟩
            have i0 := cell_of (hf6.keep HK.out.box (fun h => h)) (i := 0) (v := .int .i64 b.index) rfl
            have HF6 := Lib.hid hf6
            clear hf6
            have HR6 := Lib.hid (ownsRow_keep HK.out.row (fun k hk => HF6.out.block k (HK.out.row.lt k hk).2 (fun h => h)))
            have HB6 := Lib.hid (HF6.out.keep HK.out.box (fun h => h))
            have HD6 := Lib.hid (HDk.out.grow HF6.out)
            have HF6w := Lib.hid (HK.out.fr.next (HF6.out.mono (o2 := Own pb mb) fun _ _ h => h.elim))
            by_cases h0 : 0 < n
            · by_cases hne : n = b.index
              · have q5 : (n == b.index) = true := by simpa using hne
                have q6 : decide (n = b.index) = true := by simpa using hne
                have HV2 : Hid (VRel w pb mb b (.slice a b.voters.length cap) w4.heap.size L p.2 (.slice (some ⟨g, 0, none⟩) L.length rc) (k + 1) w6) := ⟨⟨Dk, by rw [HG.out, wipe_skip (fun h => h.2 (HN.out.trans hne))], HD6.out⟩, HB6.out, HF6w.out, HR6.out⟩
                have HNE := Lib.hid hne
                clear hne
                go_wp2_with fail
                go_roundg (L.length - (k + 1))
                case measure => have := HX.out; omega
                case rel => exact ⟨k + 1, by omega, by go_num, HV2.out⟩
              · have q5 : (n == b.index) = false := by simpa using hne
                have q6 : decide (n = b.index) = false := by simpa using hne
                have HYES := Lib.hid (show 0 < idxD s ∧ idxD s ≠ b.index from ⟨by rw [HN.out]; exact h0, by rw [HN.out]; exact hne⟩)
                have HDL := Lib.hid (delete_h HD6.out s)
                obtain ⟨u, hu⟩ : ∃ u, deleteD Dk s = u := ⟨_, rfl⟩
                rw [hu] at HDL
                have HU := Lib.hid hu
                clear hu
                go_wp2_with fail
                refine Calls.mono HDL.out ?_
                rintro e w7 ⟨rfl, hD7, hf7⟩
                have HD7 := Lib.hid hD7
                have HF7 := Lib.hid (HF6w.out.next hf7)
                have HB7 := Lib.hid (hf7.keep HB6.out (HOW.out _ (Nat.le_refl _)))
                have HR7 := Lib.hid (ownsRow_keep HR6.out (fun k hk => hf7.block k (HR6.out.lt k hk).2 (HOW.out _ (Nat.le_trans hw4 (HR6.out.lt k hk).1))))
                clear hD7 hf7
                by_cases hz : u.1 = 0
                · have q7 : (u.1 == 0) = true := by simpa using hz
                  have q8 : decide (u.1 = 0) = true := by simpa using hz
                  have HV2 : Hid (VRel w pb mb b (.slice a b.voters.length cap) w4.heap.size L p.2 (.slice (some ⟨g, 0, none⟩) L.length rc) (k + 1) w7) := ⟨⟨u.2, by rw [HG.out, wipe_next HYES.out (by rw [HU.out]; exact hz), HU.out], HD7.out⟩, HB7.out, HF7.out, HR7.out⟩
                  clear hz
                  go_wp2_with fail
                  go_roundg (L.length - (k + 1))
                  case measure => have := HX.out; omega
                  case rel => exact ⟨k + 1, by omega, by go_num, HV2.out⟩
                · have q7 : (u.1 == 0) = false := by simpa using hz
                  have q8 : decide (u.1 = 0) = false := by simpa using hz
                  have HE : Hid (saveD D b = (u.1, u.2)) := by show saveD D b = _; rw [HS1.out, HG.out, wipe_bad HYES.out (by rw [HU.out]; exact hz), HU.out]
                  clear hz
                  go_wp2_with fail
                  go_ret
                  exact save_is HE.out HD7.out HF7.out
            · have q5 : decide (0 < n) = false := by simpa using h0
              have HV2 : Hid (VRel w pb mb b (.slice a b.voters.length cap) w4.heap.size L p.2 (.slice (some ⟨g, 0, none⟩) L.length rc) (k + 1) w6) := ⟨⟨Dk, by rw [HG.out, wipe_skip (fun h => h0 (by rw [← HN.out]; exact h.1))], HD6.out⟩, HB6.out, HF6w.out, HR6.out⟩
              go_wp2_with fail
              go_roundg (L.length - (k + 1))
              case measure => have := HX.out; omega
              case rel => exact ⟨k + 1, by omega, by go_num, HV2.out⟩
          · obtain rfl : k = L.length := by have := HX.out; omega
            obtain ⟨Dk, hgo, hDk⟩ := HK.out.go
            rw [List.drop_length] at hgo
            have HE : Hid (saveD D b = (0, Dk)) := by show saveD D b = _; rw [HS1.out, hgo]; rfl
            have HDk := Lib.hid hDk
            clear hgo hDk
            go_wp2_with fail
            go_ret
            exact save_is HE.out HDk.out HK.out.fr
      · have q3 : (p.1 == 0) = false := by simpa using h0
        have q4 : decide (p.1 = 0) = false := by simpa using h0
        rw [if_pos h0] at HS0
        clear h0
        have HL4 := Lib.hid (delete_h HD4.out freshN)
        obtain ⟨u, hu⟩ : ∃ u, deleteD p.2 freshN = u := ⟨_, rfl⟩
        rw [hu] at HL4 HS0
        clear hu
        go_wp2_with (go_at_call 68; refine Calls.mono HL4.out ?_)
        rintro e w5 ⟨rfl, hD5, hf5⟩
        have HD5 := Lib.hid hD5
        have HF5 := Lib.hid (HF4.out.next hf5)
        clear hD5 hf5
        by_cases h7 : u.1 = 7
        · have q5 : (u.1 == 7) = true := by simpa using h7
          have q6 : decide (u.1 = 7) = true := by simpa using h7
          have HE : Hid (saveD D b = (7, u.2)) := by show saveD D b = _; rw [HS0.out, if_pos h7, ← h7]
          clear h7
          go_wp2_with fail
          go_ret
          exact save_is HE.out HD5.out HF5.out
        · have q5 : (u.1 == 7) = false := by simpa using h7
          have q6 : decide (u.1 = 7) = false := by simpa using h7
          have HE : Hid (saveD D b = (p.1, u.2)) := by show saveD D b = _; rw [HS0.out, if_neg h7]
          clear h7
          go_wp2_with fail
          go_ret
          exact save_is HE.out HD5.out HF5.out
end Go.Proofs.YtgmghopcppniaaaGreatDoor
