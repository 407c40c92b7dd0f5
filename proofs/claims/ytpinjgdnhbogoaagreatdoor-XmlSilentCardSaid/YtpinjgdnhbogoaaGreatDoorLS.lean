/- The walk of the law XmlSilent. -/
import Derived.Test.YtpinjgdnhbogoaaGreatDoorLJ
namespace Go.Proofs.YtpinjgdnhbogoaaGreatDoor
open Go.RowKit Go.Lib

theorem silent_cat (s c b : Str) : (⟨#[60, 33, 45, 45]⟩ : ByteArray) ++ bs c ++ ⟨#[45, 45, 62]⟩ ++ bs s ++ ⟨#[60, 63]⟩ ++ bs c ++ ⟨#[63, 62, 60, 113]⟩ ++ bs b ++ ⟨#[47, 62, 60, 114]⟩ ++ bs b ++ ⟨#[62, 60, 47, 114]⟩ ++ bs b ++ ⟨#[62]⟩ = bs (silentT c s b) := by
  rw [show (⟨#[60, 33, 45, 45]⟩ : ByteArray) = bs [60, 33, 45, 45] from rfl, show (⟨#[45, 45, 62]⟩ : ByteArray) = bs [45, 45, 62] from rfl, show (⟨#[60, 63]⟩ : ByteArray) = bs [60, 63] from rfl, show (⟨#[63, 62, 60, 113]⟩ : ByteArray) = bs [63, 62, 60, 113] from rfl, show (⟨#[47, 62, 60, 114]⟩ : ByteArray) = bs [47, 62, 60, 114] from rfl, show (⟨#[62, 60, 47, 114]⟩ : ByteArray) = bs [62, 60, 47, 114] from rfl, show (⟨#[62]⟩ : ByteArray) = bs [62] from rfl]
  simp only [bs_append, silentT, List.cons_append, List.nil_append, List.append_assoc]
theorem silent_len (s c b : Str) : (silentT c s b).length = s.length + 2 * c.length + 3 * b.length + 22 := by unfold silentT; simp; omega
theorem silent_cat2 (s c b : Str) {x : ByteArray} (h : x = bs b) : (⟨#[60, 33, 45, 45]⟩ : ByteArray) ++ bs c ++ ⟨#[45, 45, 62]⟩ ++ bs s ++ ⟨#[60, 63]⟩ ++ bs c ++ ⟨#[63, 62, 60, 113]⟩ ++ x ++ ⟨#[47, 62, 60, 114]⟩ ++ x ++ ⟨#[62, 60, 47, 114]⟩ ++ x ++ ⟨#[62]⟩ = bs (silentT c s b) := by
  rw [h]; exact silent_cat s c b
def silentR (a : List TokD) : List TokD := a ++ [⟨1, [113], [], []⟩, ⟨2, [113], [], []⟩, ⟨1, [114], [], []⟩, ⟨2, [114], [], []⟩]
theorem silentR_len (a : List TokD) : (silentR a).length = a.length + 4 := by unfold silentR; simp
theorem silentR_0 (a : List TokD) : (silentR a)[a.length]? = some ⟨1, [113], [], []⟩ := by unfold silentR; simp
theorem silentR_1 (a : List TokD) : (silentR a)[a.length + 1]? = some ⟨2, [113], [], []⟩ := by unfold silentR; simp
theorem silentR_2 (a : List TokD) : (silentR a)[a.length + 2]? = some ⟨1, [114], [], []⟩ := by unfold silentR; simp
theorem silentR_3 (a : List TokD) : (silentR a)[a.length + 3]? = some ⟨2, [114], [], []⟩ := by unfold silentR; simp
def NoBar (c : Str) (k : Nat) : Prop := ∀ i, i < k → c.getD i 0 ≠ 45 ∧ c.getD i 0 ≠ 63
theorem NoBar.all {c : Str} (h : NoBar c c.length) : 45 ∉ c ∧ 63 ∉ c := by
  have key : ∀ x ∈ c, x ≠ 45 ∧ x ≠ 63 := by
    intro x hx
    obtain ⟨i, hi, rfl⟩ := List.getElem_of_mem hx
    have := h i hi
    rwa [List.getD_eq_getElem?_getD, List.getElem?_eq_getElem hi] at this
  exact ⟨fun h => (key _ h).1 rfl, fun h => (key _ h).2 rfl⟩
set_option maxRecDepth 100000 in
set_option maxHeartbeats 16000000 in
theorem silent_h {w : World} (hE : Env w) (s c : Str) (z : Int) : Calls Tryz.prog 9 #[.string (bs s), .string (bs c), .int .i64 z] w fun e w' => e = .returned (.bool true) ∧ Fr (fun _ => False) w w' := by
  have hsz : (bs s).size = s.length := rfl
  have htz : (bs c).size = c.length := rfl
  have HE := Lib.hid hE
  have HS := Lib.hid (shown_h hE)
  clear hE
  by_cases hlong : 2000 < s.length
  · have hd : decide ((2000 : Int) < (s.length : Int)) = true := decide_eq_true (by omega)
    go_enter Tryz.func9, Tryz.ntmps9
    go_wp2_with fail
    refine Calls.mono HS.out ?_
    rintro e w1 ⟨rfl, hF⟩
    have HF := Lib.hid hF
    clear hF
    go_wp2_with fail
    go_ret
    exact ⟨rfl, HF.out⟩
  have hd : decide ((2000 : Int) < (s.length : Int)) = false := decide_eq_false (by omega)
  by_cases hlong2 : 300 < c.length
  · have hd2 : decide ((300 : Int) < (c.length : Int)) = true := decide_eq_true (by omega)
    go_enter Tryz.func9, Tryz.ntmps9
    go_wp2_with fail
    refine Calls.mono HS.out ?_
    rintro e w1 ⟨rfl, hF⟩
    have HF := Lib.hid hF
    clear hF
    go_wp2_with fail
    go_ret
    exact ⟨rfl, HF.out⟩
  have hd2 : decide ((300 : Int) < (c.length : Int)) = false := decide_eq_false (by omega)
  have hs3 : s.length ≤ 2000 := by omega
  have hc3 : c.length ≤ 300 := by omega
  clear hlong hlong2
  have HRead := Lib.hid (fun (W : World) (hF : Fr (fun _ => False) w W) {x : Str} {l : List TokD} {a b : Int} (hr : readD x = (l, a, b)) (hs : x.length ≤ 1000000) => read_at (HE.out.grow hF) hr hs)
  cases hrs : readL s with
  | error k =>
    have hR1 := Lib.hid (readD_bad hrs (by omega))
    clear hrs
    go_enter Tryz.func9, Tryz.ntmps9
    go_wp2_with fail
    refine Calls.mono HS.out ?_
    rintro e w1 ⟨rfl, hF⟩
    have HF := Lib.hid hF
    clear hF
    go_wp2_with fail
    refine Calls.mono (HRead.out _ HF.out hR1.out (by omega)) ?_
    rintro e w2 ⟨⟨v2, rfl, _⟩, hF2⟩
    have HF2 := Lib.hid (HF.out.next hF2)
    clear hF2
    go_wp2_with fail
    go_ret
    exact ⟨rfl, HF2.out⟩
  | ok a =>
    have hR1 := Lib.hid (readD_ok hrs (by omega))
    have hal := readL_many hrs
    have hal2 : a.length ≤ 6001 := by omega
    have HRS := Lib.hid hrs
    clear hal hrs
    go_enter Tryz.func9, Tryz.ntmps9
    go_wp2_with fail
    refine Calls.mono HS.out ?_
    rintro e w1 ⟨rfl, hF⟩
    have HF := Lib.hid hF
    clear hF
    go_wp2_with fail
    refine Calls.mono (HRead.out _ HF.out hR1.out (by omega)) ?_
    rintro e w2 ⟨⟨v2, rfl, hT2⟩, hF2⟩
    obtain ⟨a2, cap2, rfl, _, _⟩ := hT2.sliced
    have HF2 := Lib.hid (HF.out.next hF2)
    have HT2 := Lib.hid hT2
    clear hF2 hT2
    go_wp2_with fail
    go_loopg [11] c.length (fun j v wr => (∃ k : Nat, k + j = c.length ∧ v = .int .i64 k ∧ Hid (NoBar c k)) ∧ w2 = wr)
    case atStart => exact ⟨⟨0, by omega, rfl, fun i hi => absurd hi (Nat.not_lt_zero _)⟩, rfl⟩
    case round =>
      obtain ⟨⟨k, hk, rfl, hn⟩, rfl⟩ := hrel
      by_cases hlt : k < c.length
      · have hz : k < (bs c).size := by rw [htz]; exact hlt
        have hg := bs_at c k hz
        obtain ⟨x, hx⟩ : ∃ x, c.getD k 0 = x := ⟨_, rfl⟩
        rw [hx] at hg
        have HX := Lib.hid hx
        clear hx
        by_cases h45 : x = 45
        · have t1 : ((x.toNat : Int) == 45) = true := by subst h45; rfl
          clear h45
          go_wp2_with fail
          go_ret
          exact ⟨rfl, HF2.out⟩
        have t1 : ((x.toNat : Int) == 45) = false := by
          rw [beq_eq_false_iff_ne]; intro e; exact h45 (UInt8.toNat.inj (by show x.toNat = 45; omega))
        by_cases h63 : x = 63
        · have t2 : ((x.toNat : Int) == 63) = true := by subst h63; rfl
          clear h45 h63
          go_wp2_with fail
          go_ret
          exact ⟨rfl, HF2.out⟩
        have t2 : ((x.toNat : Int) == 63) = false := by
          rw [beq_eq_false_iff_ne]; intro e; exact h63 (UInt8.toNat.inj (by show x.toNat = 63; omega))
        have HN2 : Hid (NoBar c (k + 1)) := fun i hi => by
          by_cases e : i = k
          · subst e; rw [HX.out]; exact ⟨h45, h63⟩
          · exact hn.out i (by omega)
        clear h45 h63
        go_wp2_with fail
        go_roundg (c.length - (k + 1))
        case measure => omega
        case rel => exact ⟨⟨k + 1, by omega, by go_num, HN2.out⟩, rfl⟩
      · obtain rfl : k = c.length := by omega
        have HB := Lib.hid hn.out.all
        obtain ⟨q, hq, hq1, hq2⟩ : ∃ q, z.tmod 4 = q ∧ -4 < q ∧ q < 4 := ⟨_, rfl, by have := Int.tmod_lt_of_pos (-z) (b := 4) (by decide); rw [Int.neg_tmod] at this; omega, Int.tmod_lt_of_pos z (by decide)⟩
        have hq3 : (0 : Int) ≤ q + 4 := by omega
        have hcl : (q + 4) % 4 = 0 ∨ (q + 4) % 4 = 1 ∨ (q + 4) % 4 = 2 ∨ (q + 4) % 4 = 3 := by omega
        have HRead3 := Lib.hid (fun (W : World) (hF : Fr (fun _ => False) w W) (b : Str) (hb : b.all blankC = true) (hl : b.length ≤ 2) => HRead.out W hF (readD_ok (l := silentR a) (read_silent HRS.out HB.out.1 HB.out.2 hb) (by rw [silent_len]; omega)) (by rw [silent_len]; omega))
        rcases hcl with hm | hm | hm | hm
        · have hm2 : (q + 4).tmod 4 = 0 := by rw [Int.tmod_eq_emod_of_nonneg hq3]; exact hm
          have HCat := Lib.hid (silent_cat2 s c [32] (x := ⟨#[32]⟩) rfl)
          have HR3 := Lib.hid (fun (W : World) (hF : Fr (fun _ => False) w W) => HRead3.out W hF [32] (by decide) (by decide))
          have HFa : Hid (Fr (fun _ => False) w2 (w2.alloc (.cells #[.string ⟨#[32]⟩, .string ⟨#[9]⟩, .string ⟨#[10, 13]⟩, .string ⟨#[]⟩] 9))) := (Fr.refl _ _).alloc _
          clear HRead3
          go_wp2_with fail
          rw [HCat.out]
          refine Calls.mono (HR3.out _ (HF2.out.next HFa.out)) ?_
          rintro e w3 ⟨⟨v3, rfl, hT3⟩, hF3⟩
          obtain ⟨a3, cap3, rfl, hc31, hc32⟩ := hT3.sliced
          have HF3 := Lib.hid (HFa.out.next hF3)
          have HT3 := Lib.hid hT3
          clear hF3 hT3
          go_wp2_with fail
          refine Calls.mono (as_h (HT2.out.fr HF3.out).view) ?_
          rintro e w4 ⟨u, bb, rfl, hbb, hR4, hF4⟩
          have HF4 := Lib.hid hF4
          have HR4 := Lib.hid hR4
          clear hF4 hR4
          cases hfit : fitsA a with
          | false =>
            rw [hfit] at hbb
            subst hbb
            clear hfit
            go_wp2_with fail
            go_ret
            exact ⟨rfl, (HF2.out.next HF3.out).next HF4.out⟩
          | true =>
            rw [hfit] at hbb
            subst hbb
            obtain ⟨g4, off4, rfl, hel⟩ := HT3.out.cells (by rw [silentR_len]; omega)
            obtain ⟨av0, h0⟩ := hel _ _ (silentR_0 a)
            obtain ⟨av1, h1⟩ := hel _ _ (silentR_1 a)
            obtain ⟨av2, h2⟩ := hel _ _ (silentR_2 a)
            obtain ⟨av3, h3⟩ := hel _ _ (silentR_3 a)
            have d0 := HF4.out.cell h0.c1 (fun h => h)
            have d1 := HF4.out.cell h1.c0 (fun h => h)
            have d2 := HF4.out.cell h2.c1 (fun h => h)
            have d3 := HF4.out.cell h3.c1 (fun h => h)
            obtain ⟨rs, hrs1, hrs2, hrs3, hrs4, hrs5⟩ := (HT3.out.fr HF4.out).low.parts
            rw [silentR_len] at hrs2
            rw [hrs2, silentR_len] at hrs3
            have hsl8 := head_run (a := some ⟨g4, off4, none⟩) (len := a.length + 4) (cap := cap3) (k := a.length) (i := (a.length : Int)) rfl (by rw [silentR_len] at hc31; omega)
            have hrow8 := hrs3.head (k := a.length) (by omega)
            rw [tcells_take] at hrow8
            have HV8 : Hid (TokV w4 (fun k => k < w4.heap.size) (.slice (some ⟨g4, off4, none⟩) a.length cap3) a) := by
              refine ⟨rs.take a.length, ?_, ?_, fun p hp => hrs4 p (List.mem_of_mem_take hp)⟩
              · rw [List.map_take, hrs1]; unfold silentR; rw [List.take_left]
              · rw [show (rs.take a.length).length = a.length by rw [List.length_take]; omega]; exact hrow8
            have HL9 := Lib.hid (fits_len2 hfit)
            have HU := Lib.hid (HR4.out rfl)
            have hq : (bs [113]).toList = [113] := bs_toList _
            have hq2 : (bs [114]).toList = [114] := bs_toList _
            rw [silentR_len]
            clear hfit hel h0 h1 h2 h3 hrs1 hrs2 hrs3 hrs4 hrs5 hrow8 hc31 hc32
            go_wp2_with fail
            refine Calls.mono (alike_eq rfl HV8.out HU.out.view (Fr.refl _ _) HL9.out (Fr.refl _ _)) ?_
            rintro e w5 ⟨rfl, hF5⟩
            have e0 := hF5.cell d0 (fun h => h)
            have e1 := hF5.cell d1 (fun h => h)
            have e2 := hF5.cell d2 (fun h => h)
            have e3 := hF5.cell d3 (fun h => h)
            have HF5 := Lib.hid hF5
            clear hF5 d0 d1 d2 d3
            go_wp2_with fail
            go_ret
            exact ⟨rfl, ((HF2.out.next HF3.out).next HF4.out).next HF5.out⟩
        · have hm2 : (q + 4).tmod 4 = 1 := by rw [Int.tmod_eq_emod_of_nonneg hq3]; exact hm
          have HCat := Lib.hid (silent_cat2 s c [9] (x := ⟨#[9]⟩) rfl)
          have HR3 := Lib.hid (fun (W : World) (hF : Fr (fun _ => False) w W) => HRead3.out W hF [9] (by decide) (by decide))
          have HFa : Hid (Fr (fun _ => False) w2 (w2.alloc (.cells #[.string ⟨#[32]⟩, .string ⟨#[9]⟩, .string ⟨#[10, 13]⟩, .string ⟨#[]⟩] 9))) := (Fr.refl _ _).alloc _
          clear HRead3
          go_wp2_with fail
          rw [HCat.out]
          refine Calls.mono (HR3.out _ (HF2.out.next HFa.out)) ?_
          rintro e w3 ⟨⟨v3, rfl, hT3⟩, hF3⟩
          obtain ⟨a3, cap3, rfl, hc31, hc32⟩ := hT3.sliced
          have HF3 := Lib.hid (HFa.out.next hF3)
          have HT3 := Lib.hid hT3
          clear hF3 hT3
          go_wp2_with fail
          refine Calls.mono (as_h (HT2.out.fr HF3.out).view) ?_
          rintro e w4 ⟨u, bb, rfl, hbb, hR4, hF4⟩
          have HF4 := Lib.hid hF4
          have HR4 := Lib.hid hR4
          clear hF4 hR4
          cases hfit : fitsA a with
          | false =>
            rw [hfit] at hbb
            subst hbb
            clear hfit
            go_wp2_with fail
            go_ret
            exact ⟨rfl, (HF2.out.next HF3.out).next HF4.out⟩
          | true =>
            rw [hfit] at hbb
            subst hbb
            obtain ⟨g4, off4, rfl, hel⟩ := HT3.out.cells (by rw [silentR_len]; omega)
            obtain ⟨av0, h0⟩ := hel _ _ (silentR_0 a)
            obtain ⟨av1, h1⟩ := hel _ _ (silentR_1 a)
            obtain ⟨av2, h2⟩ := hel _ _ (silentR_2 a)
            obtain ⟨av3, h3⟩ := hel _ _ (silentR_3 a)
            have d0 := HF4.out.cell h0.c1 (fun h => h)
            have d1 := HF4.out.cell h1.c0 (fun h => h)
            have d2 := HF4.out.cell h2.c1 (fun h => h)
            have d3 := HF4.out.cell h3.c1 (fun h => h)
            obtain ⟨rs, hrs1, hrs2, hrs3, hrs4, hrs5⟩ := (HT3.out.fr HF4.out).low.parts
            rw [silentR_len] at hrs2
            rw [hrs2, silentR_len] at hrs3
            have hsl8 := head_run (a := some ⟨g4, off4, none⟩) (len := a.length + 4) (cap := cap3) (k := a.length) (i := (a.length : Int)) rfl (by rw [silentR_len] at hc31; omega)
            have hrow8 := hrs3.head (k := a.length) (by omega)
            rw [tcells_take] at hrow8
            have HV8 : Hid (TokV w4 (fun k => k < w4.heap.size) (.slice (some ⟨g4, off4, none⟩) a.length cap3) a) := by
              refine ⟨rs.take a.length, ?_, ?_, fun p hp => hrs4 p (List.mem_of_mem_take hp)⟩
              · rw [List.map_take, hrs1]; unfold silentR; rw [List.take_left]
              · rw [show (rs.take a.length).length = a.length by rw [List.length_take]; omega]; exact hrow8
            have HL9 := Lib.hid (fits_len2 hfit)
            have HU := Lib.hid (HR4.out rfl)
            have hq : (bs [113]).toList = [113] := bs_toList _
            have hq2 : (bs [114]).toList = [114] := bs_toList _
            rw [silentR_len]
            clear hfit hel h0 h1 h2 h3 hrs1 hrs2 hrs3 hrs4 hrs5 hrow8 hc31 hc32
            go_wp2_with fail
            refine Calls.mono (alike_eq rfl HV8.out HU.out.view (Fr.refl _ _) HL9.out (Fr.refl _ _)) ?_
            rintro e w5 ⟨rfl, hF5⟩
            have e0 := hF5.cell d0 (fun h => h)
            have e1 := hF5.cell d1 (fun h => h)
            have e2 := hF5.cell d2 (fun h => h)
            have e3 := hF5.cell d3 (fun h => h)
            have HF5 := Lib.hid hF5
            clear hF5 d0 d1 d2 d3
            go_wp2_with fail
            go_ret
            exact ⟨rfl, ((HF2.out.next HF3.out).next HF4.out).next HF5.out⟩
        · have hm2 : (q + 4).tmod 4 = 2 := by rw [Int.tmod_eq_emod_of_nonneg hq3]; exact hm
          have HCat := Lib.hid (silent_cat2 s c [10, 13] (x := ⟨#[10, 13]⟩) rfl)
          have HR3 := Lib.hid (fun (W : World) (hF : Fr (fun _ => False) w W) => HRead3.out W hF [10, 13] (by decide) (by decide))
          have HFa : Hid (Fr (fun _ => False) w2 (w2.alloc (.cells #[.string ⟨#[32]⟩, .string ⟨#[9]⟩, .string ⟨#[10, 13]⟩, .string ⟨#[]⟩] 9))) := (Fr.refl _ _).alloc _
          clear HRead3
          go_wp2_with fail
          rw [HCat.out]
          refine Calls.mono (HR3.out _ (HF2.out.next HFa.out)) ?_
          rintro e w3 ⟨⟨v3, rfl, hT3⟩, hF3⟩
          obtain ⟨a3, cap3, rfl, hc31, hc32⟩ := hT3.sliced
          have HF3 := Lib.hid (HFa.out.next hF3)
          have HT3 := Lib.hid hT3
          clear hF3 hT3
          go_wp2_with fail
          refine Calls.mono (as_h (HT2.out.fr HF3.out).view) ?_
          rintro e w4 ⟨u, bb, rfl, hbb, hR4, hF4⟩
          have HF4 := Lib.hid hF4
          have HR4 := Lib.hid hR4
          clear hF4 hR4
          cases hfit : fitsA a with
          | false =>
            rw [hfit] at hbb
            subst hbb
            clear hfit
            go_wp2_with fail
            go_ret
            exact ⟨rfl, (HF2.out.next HF3.out).next HF4.out⟩
          | true =>
            rw [hfit] at hbb
            subst hbb
            obtain ⟨g4, off4, rfl, hel⟩ := HT3.out.cells (by rw [silentR_len]; omega)
            obtain ⟨av0, h0⟩ := hel _ _ (silentR_0 a)
            obtain ⟨av1, h1⟩ := hel _ _ (silentR_1 a)
            obtain ⟨av2, h2⟩ := hel _ _ (silentR_2 a)
            obtain ⟨av3, h3⟩ := hel _ _ (silentR_3 a)
            have d0 := HF4.out.cell h0.c1 (fun h => h)
            have d1 := HF4.out.cell h1.c0 (fun h => h)
            have d2 := HF4.out.cell h2.c1 (fun h => h)
            have d3 := HF4.out.cell h3.c1 (fun h => h)
            obtain ⟨rs, hrs1, hrs2, hrs3, hrs4, hrs5⟩ := (HT3.out.fr HF4.out).low.parts
            rw [silentR_len] at hrs2
            rw [hrs2, silentR_len] at hrs3
            have hsl8 := head_run (a := some ⟨g4, off4, none⟩) (len := a.length + 4) (cap := cap3) (k := a.length) (i := (a.length : Int)) rfl (by rw [silentR_len] at hc31; omega)
            have hrow8 := hrs3.head (k := a.length) (by omega)
            rw [tcells_take] at hrow8
            have HV8 : Hid (TokV w4 (fun k => k < w4.heap.size) (.slice (some ⟨g4, off4, none⟩) a.length cap3) a) := by
              refine ⟨rs.take a.length, ?_, ?_, fun p hp => hrs4 p (List.mem_of_mem_take hp)⟩
              · rw [List.map_take, hrs1]; unfold silentR; rw [List.take_left]
              · rw [show (rs.take a.length).length = a.length by rw [List.length_take]; omega]; exact hrow8
            have HL9 := Lib.hid (fits_len2 hfit)
            have HU := Lib.hid (HR4.out rfl)
            have hq : (bs [113]).toList = [113] := bs_toList _
            have hq2 : (bs [114]).toList = [114] := bs_toList _
            rw [silentR_len]
            clear hfit hel h0 h1 h2 h3 hrs1 hrs2 hrs3 hrs4 hrs5 hrow8 hc31 hc32
            go_wp2_with fail
            refine Calls.mono (alike_eq rfl HV8.out HU.out.view (Fr.refl _ _) HL9.out (Fr.refl _ _)) ?_
            rintro e w5 ⟨rfl, hF5⟩
            have e0 := hF5.cell d0 (fun h => h)
            have e1 := hF5.cell d1 (fun h => h)
            have e2 := hF5.cell d2 (fun h => h)
            have e3 := hF5.cell d3 (fun h => h)
            have HF5 := Lib.hid hF5
            clear hF5 d0 d1 d2 d3
            go_wp2_with fail
            go_ret
            exact ⟨rfl, ((HF2.out.next HF3.out).next HF4.out).next HF5.out⟩
        · have hm2 : (q + 4).tmod 4 = 3 := by rw [Int.tmod_eq_emod_of_nonneg hq3]; exact hm
          have HCat := Lib.hid (silent_cat2 s c [] (x := ⟨#[]⟩) rfl)
          have HR3 := Lib.hid (fun (W : World) (hF : Fr (fun _ => False) w W) => HRead3.out W hF [] (by decide) (by decide))
          have HFa : Hid (Fr (fun _ => False) w2 (w2.alloc (.cells #[.string ⟨#[32]⟩, .string ⟨#[9]⟩, .string ⟨#[10, 13]⟩, .string ⟨#[]⟩] 9))) := (Fr.refl _ _).alloc _
          clear HRead3
          go_wp2_with fail
          rw [HCat.out]
          refine Calls.mono (HR3.out _ (HF2.out.next HFa.out)) ?_
          rintro e w3 ⟨⟨v3, rfl, hT3⟩, hF3⟩
          obtain ⟨a3, cap3, rfl, hc31, hc32⟩ := hT3.sliced
          have HF3 := Lib.hid (HFa.out.next hF3)
          have HT3 := Lib.hid hT3
          clear hF3 hT3
          go_wp2_with fail
          refine Calls.mono (as_h (HT2.out.fr HF3.out).view) ?_
          rintro e w4 ⟨u, bb, rfl, hbb, hR4, hF4⟩
          have HF4 := Lib.hid hF4
          have HR4 := Lib.hid hR4
          clear hF4 hR4
          cases hfit : fitsA a with
          | false =>
            rw [hfit] at hbb
            subst hbb
            clear hfit
            go_wp2_with fail
            go_ret
            exact ⟨rfl, (HF2.out.next HF3.out).next HF4.out⟩
          | true =>
            rw [hfit] at hbb
            subst hbb
            obtain ⟨g4, off4, rfl, hel⟩ := HT3.out.cells (by rw [silentR_len]; omega)
            obtain ⟨av0, h0⟩ := hel _ _ (silentR_0 a)
            obtain ⟨av1, h1⟩ := hel _ _ (silentR_1 a)
            obtain ⟨av2, h2⟩ := hel _ _ (silentR_2 a)
            obtain ⟨av3, h3⟩ := hel _ _ (silentR_3 a)
            have d0 := HF4.out.cell h0.c1 (fun h => h)
            have d1 := HF4.out.cell h1.c0 (fun h => h)
            have d2 := HF4.out.cell h2.c1 (fun h => h)
            have d3 := HF4.out.cell h3.c1 (fun h => h)
            obtain ⟨rs, hrs1, hrs2, hrs3, hrs4, hrs5⟩ := (HT3.out.fr HF4.out).low.parts
            rw [silentR_len] at hrs2
            rw [hrs2, silentR_len] at hrs3
            have hsl8 := head_run (a := some ⟨g4, off4, none⟩) (len := a.length + 4) (cap := cap3) (k := a.length) (i := (a.length : Int)) rfl (by rw [silentR_len] at hc31; omega)
            have hrow8 := hrs3.head (k := a.length) (by omega)
            rw [tcells_take] at hrow8
            have HV8 : Hid (TokV w4 (fun k => k < w4.heap.size) (.slice (some ⟨g4, off4, none⟩) a.length cap3) a) := by
              refine ⟨rs.take a.length, ?_, ?_, fun p hp => hrs4 p (List.mem_of_mem_take hp)⟩
              · rw [List.map_take, hrs1]; unfold silentR; rw [List.take_left]
              · rw [show (rs.take a.length).length = a.length by rw [List.length_take]; omega]; exact hrow8
            have HL9 := Lib.hid (fits_len2 hfit)
            have HU := Lib.hid (HR4.out rfl)
            have hq : (bs [113]).toList = [113] := bs_toList _
            have hq2 : (bs [114]).toList = [114] := bs_toList _
            rw [silentR_len]
            clear hfit hel h0 h1 h2 h3 hrs1 hrs2 hrs3 hrs4 hrs5 hrow8 hc31 hc32
            go_wp2_with fail
            refine Calls.mono (alike_eq rfl HV8.out HU.out.view (Fr.refl _ _) HL9.out (Fr.refl _ _)) ?_
            rintro e w5 ⟨rfl, hF5⟩
            have e0 := hF5.cell d0 (fun h => h)
            have e1 := hF5.cell d1 (fun h => h)
            have e2 := hF5.cell d2 (fun h => h)
            have e3 := hF5.cell d3 (fun h => h)
            have HF5 := Lib.hid hF5
            clear hF5 d0 d1 d2 d3
            go_wp2_with fail
            go_ret
            exact ⟨rfl, ((HF2.out.next HF3.out).next HF4.out).next HF5.out⟩
end Go.Proofs.YtpinjgdnhbogoaaGreatDoor
