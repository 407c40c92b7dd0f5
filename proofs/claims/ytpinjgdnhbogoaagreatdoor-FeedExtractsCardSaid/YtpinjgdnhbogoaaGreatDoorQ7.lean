/- The reference's reference: what an entity or a number of a rune says. -/
import Derived.Test.YtpinjgdnhbogoaaGreatDoorQ3
import Derived.BigQuiet
import Derived.Test.YtpinjgdnhbogoaaGreatDoorM0
namespace Go.Proofs.YtpinjgdnhbogoaaGreatDoor
open Go.RowKit Go.Lib

theorem rnum_parts {base most : Nat} (ds : Str) (hb : base ≤ 16) (hm : most ≤ 7) : ∃ (v : Nat) (ok : Bool), rnumV base most ds = .tuple #[.int .i64 (v : Int), .bool ok] ∧ v ≤ 268435456 ∧ ok = (!ds.isEmpty && numQ base most ds) ∧ (ok = true → v = numV base ds) := by
  unfold rnumV
  cases hq : numQ base most ds with
  | false => exact ⟨0, _, rfl, by omega, rfl, fun h => by simp at h⟩
  | true =>
    refine ⟨numV base ds, _, rfl, ?_, rfl, fun _ => rfl⟩
    unfold numQ at hq
    rw [Bool.and_eq_true, decide_eq_true_iff] at hq
    have := numV_lt base hb ds 7 (by omega) hq.1
    exact Nat.le_of_lt this
theorem rutf_yes {n : Nat} (h : runeOK n = true) : rutfV n = .tuple #[.string (bs (utf8L n)), .bool true] := by unfold rutfV; rw [h]; rfl
theorem rutf_no {n : Nat} (h : runeOK n = false) : rutfV n = .tuple #[.string ⟨#[]⟩, .bool false] := by unfold rutfV; rw [h]; rfl
theorem numE_no {base most : Nat} {m ds rest : Str} (h : (!ds.isEmpty && numQ base most ds) = false) : rnumE base most m ds rest = .tuple #[.string ⟨#[]⟩, .int .i64 0] := by unfold rnumE; rw [h]; rfl
theorem numE_bad {base most : Nat} {m ds rest : Str} (h : runeOK (numV base ds) = false) : rnumE base most m ds rest = .tuple #[.string ⟨#[]⟩, .int .i64 0] := by unfold rnumE; rw [h, Bool.and_false]; rfl
theorem numE_yes {base most : Nat} {m ds rest : Str} (h : (!ds.isEmpty && numQ base most ds) = true) (h2 : runeOK (numV base ds) = true) : rnumE base most m ds rest = .tuple #[.string (bs (utf8L (numV base ds))), .int .i64 ((1 + (m.length - rest.length) : Nat) : Int)] := by unfold rnumE; rw [h, h2]; rfl
theorem pre38 (p m : Str) : (38 :: p : Str).isPrefixOf (38 :: m) = p.isPrefixOf m := by simp [List.isPrefixOf]
/-- of the first k names none begins the text -/
def NoName (m : Str) (k : Nat) : Prop := ∀ q ∈ refNames.take k, ¬ q.1.isPrefixOf m = true
theorem NoName.snoc {m : Str} {k : Nat} {q : Str × Str} (h : NoName m k) (hq : refNames[k]? = some q) (hn : q.1.isPrefixOf m = false) : NoName m (k + 1) := by
  intro x hx
  rw [List.take_add_one, hq, List.mem_append] at hx
  rcases hx with hx | hx
  · exact h x hx
  · simp at hx; subst hx; rw [hn]; simp
theorem NoName.all {m : Str} (h : NoName m 5) : ∀ q ∈ refNames, ¬ q.1.isPrefixOf m = true := h
def namesB : Array Value := #[.string ⟨#[38, 97, 109, 112, 59]⟩, .string ⟨#[38, 108, 116, 59]⟩, .string ⟨#[38, 103, 116, 59]⟩, .string ⟨#[38, 113, 117, 111, 116, 59]⟩, .string ⟨#[38, 97, 112, 111, 115, 59]⟩]
theorem names_at : ∀ i : Nat, i < 5 → ∃ p c, refNames[i]? = some (p, c) ∧ namesB[i]? = some (.string (bs (38 :: p))) ∧ p.length ≤ 5 ∧ ∀ w : World, (Instr.slice 9 (.string ⟨#[38, 60, 62, 34, 39]⟩) (some (.int .i64 (i : Int))) (some (.int .i64 ((i : Int) + 1))) none).run Tryz.prog w = .ok (.string (bs c)) w := by
  intro i hi
  have key : ∀ (c : Str), (([38, 60, 62, 34, 39] : Str).drop i).take (i + 1 - i) = c → ∀ w : World, (Instr.slice 9 (.string ⟨#[38, 60, 62, 34, 39]⟩) (some (.int .i64 (i : Int))) (some (.int .i64 ((i : Int) + 1))) none).run Tryz.prog w = .ok (.string (bs c)) w := by
    intro c hc w
    have h := slice_run (w := w) [38, 60, 62, 34, 39] (i := (i : Int)) (j := (i : Int) + 1) (a := i) (b := i + 1) rfl (by omega) (by omega) (by simp; omega)
    rw [hc] at h
    exact h
  match i, hi with
  | 0, _ => exact ⟨_, _, rfl, rfl, by decide, key _ rfl⟩
  | 1, _ => exact ⟨_, _, rfl, rfl, by decide, key _ rfl⟩
  | 2, _ => exact ⟨_, _, rfl, rfl, by decide, key _ rfl⟩
  | 3, _ => exact ⟨_, _, rfl, rfl, by decide, key _ rfl⟩
  | 4, _ => exact ⟨_, _, rfl, rfl, by decide, key _ rfl⟩
theorem pre_hash (m : Str) : ([38, 35] : Str).isPrefixOf (38 :: m) = ([35] : Str).isPrefixOf m := by simp [List.isPrefixOf]
theorem cut_not35 {m b rest : Str} (hc : cutL [59] m = some (b, rest)) (hb : ∀ t, b ≠ 35 :: t) : ([38, 35] : Str).isPrefixOf (38 :: m) = false := by
  rw [pre_hash, cutL_some hc]
  cases b with
  | nil => rfl
  | cons x t =>
    have hx : x ≠ 35 := fun e => hb t (by rw [e])
    have h2 : ¬ (35 : UInt8) = x := fun e => hx e.symm
    simp [List.isPrefixOf, h2]
theorem cut_35 {m ds rest : Str} (hc : cutL [59] m = some (35 :: ds, rest)) : m = 35 :: (ds ++ 59 :: rest) := by
  have := cutL_some hc
  simpa using this
set_option maxRecDepth 100000 in
set_option maxHeartbeats 2000000 in
theorem rreference_h {w : World} (m : Str) (hm : m.length ≤ 900000) : Calls Tryz.prog 114 #[.string (bs (38 :: m))] w fun e w' => e = .returned (rrefV m) ∧ Fr (fun _ => False) w w' := by
  have hsz : (bs (38 :: m)).size = m.length + 1 := rfl
  have HF : Hid (Fr (fun _ => False) w (w.alloc (.cells namesB 9))) := (Fr.refl _ _).alloc _
  have HC : Hid (∀ i v, namesB[i]? = some v → (w.alloc (.cells namesB 9)).cell? ⟨w.heap.size, i, none⟩ = some v) := fun i v hv => cell_of (block_new _ _) hv
  have HBeg := Lib.hid (fun (W : World) (t : Str) (ht : t.length ≤ 10) => rbegins_h (w := W) (38 :: m) t (by simp; omega) (by omega))
  have HFind := Lib.hid (fun (W : World) => rfind_h (w := W) (38 :: m) [59] 0 (by simp; omega) (by decide) (by decide) (by omega))
  have HU := Lib.hid (fun (W : World) (n : Nat) (hn : n ≤ 268435456) => rutf_h (w := W) n hn)
  go_enter Tryz.func114, Tryz.ntmps114
  go_wp2_with fail
  go_loopg [6] 5 (fun j v6 w' => w' = w.alloc (.cells namesB 9) ∧ ∃ i : Nat, i + j = 5 ∧ v6 = .int .i64 i ∧ Hid (NoName m i))
  case atStart => exact ⟨rfl, 0, rfl, rfl, fun q hq => by simp at hq⟩
  case round =>
    obtain ⟨rfl, i, hi, rfl, HNo⟩ := hrel
    by_cases hlt : i < 5
    · obtain ⟨p, c, h1, h2, h3, hx⟩ := names_at i hlt
      have hcell := HC.out i _ h2
      have HI := Lib.hid hi
      have HP := Lib.hid h1
      have hps : (bs (38 :: p)).size = p.length + 1 := rfl
      have HB2 := Lib.hid (HBeg.out (w.alloc (.cells namesB 9)) (38 :: p) (by simp; omega))
      clear h1 h2 hi
      cases hp : (38 :: p : Str).isPrefixOf (38 :: m) with
      | true =>
        have HR := Lib.hid (rref_hit (List.mem_of_getElem? HP.out) hp)
        rw [hp] at HB2
        clear hp
        go_wp2_with fail
        refine Calls.mono HB2.out ?_
        rintro e w1 ⟨rfl, rfl⟩
        go_wp2_with fail
        go_big_quiet (fail)
        go_wp2_with fail
        go_ret2
        refine ⟨?_, HF.out.next ((Fr.refl _ _).drewN _)⟩
        rw [HR.out, show ((1 + p.length : Nat) : Int) = (p.length : Int) + 1 by omega] <;> rfl
      | false =>
        have HN2 := Lib.hid (NoName.snoc HNo.out HP.out (by rw [← pre38]; exact hp))
        rw [hp] at HB2
        clear hp
        go_wp2_with fail
        refine Calls.mono HB2.out ?_
        rintro e w1 ⟨rfl, rfl⟩
        go_wp2_with fail
        go_roundg (5 - (i + 1))
        case measure => have := HI.out; omega
        case rel => exact ⟨rfl, i + 1, by have := HI.out; omega, by go_num, HN2.out⟩
    · have h5 : i = 5 := by omega
      subst h5
      have HNA := Lib.hid (NoName.all HNo.out)
      clear hlt hi
      have hf0 := find0 m
      have HB3 := Lib.hid (HBeg.out (w.alloc (.cells namesB 9)) [38, 35] (by decide))
      cases hc : cutL [59] m with
      | none =>
        have HR := Lib.hid (rref_none HNA.out hc)
        rw [hc] at hf0
        rw [hf0] at HFind
        have HX := Lib.hid hf0
        clear hf0 hc
        cases hb : ([38, 35] : Str).isPrefixOf (38 :: m) with
        | true =>
          rw [hb] at HB3
          clear hb
          go_wp2_with fail
          refine Calls.mono (HFind.out _) ?_
          rintro e w1 ⟨rfl, rfl⟩
          go_wp2_with fail
          refine Calls.mono HB3.out ?_
          rintro e w1 ⟨rfl, rfl⟩
          go_wp2_with fail
          go_ret2
          exact ⟨by rw [HR.out] <;> rfl, HF.out⟩
        | false =>
          rw [hb] at HB3
          clear hb
          go_wp2_with fail
          refine Calls.mono (HFind.out _) ?_
          rintro e w1 ⟨rfl, rfl⟩
          go_wp2_with fail
          refine Calls.mono HB3.out ?_
          rintro e w1 ⟨rfl, rfl⟩
          go_wp2_with fail
          go_ret2
          exact ⟨by rw [HR.out] <;> rfl, HF.out⟩
      | some q =>
        obtain ⟨b, rest⟩ := q
        rw [hc] at hf0
        simp only at hf0
        rw [hf0] at HFind
        have hlens := cutL_lens hc
        clear hf0
        by_cases hb35 : ∃ ds, b = 35 :: ds
        · obtain ⟨ds, rfl⟩ := hb35
          have hm2 := cut_35 hc
          have hpre : ([38, 35] : Str).isPrefixOf (38 :: m) = true := by rw [pre_hash, hm2]; rfl
          rw [hpre] at HB3
          have hdl : ds.length ≤ 900000 := by simp at hlens; omega
          have HML : Hid (1 + (m.length - rest.length) = ds.length + 3) := by simp at hlens; show _ = _; omega
          have hs2 : ∀ W : World, (Instr.slice 9 (.string (bs (38 :: m))) (some (.int .i64 2)) (some (.int .i64 ((ds.length : Int) + 2))) none).run Tryz.prog W = .ok (.string (bs ds)) W := by
            intro W
            have h := slice_run (w := W) (38 :: m) (i := 2) (j := (ds.length : Int) + 2) (a := 2) (b := ds.length + 2) rfl (by omega) (by omega) (by rw [hm2]; simp)
            have e : ((38 :: m : Str).drop 2).take (ds.length + 2 - 2) = ds := by rw [hm2]; simp
            rw [e] at h
            exact h
          have hend : (1 + (35 :: ds : Str).length : Nat) = ds.length + 2 := by simp; omega
          rw [hend] at HFind
          have hz2 : 2 < (bs (38 :: m)).size := by rw [hsz, hm2]; simp; omega
          have hg2 := bs_at (38 :: m) 2 hz2
          by_cases hx : ∃ ds2, ds = 120 :: ds2
          · obtain ⟨ds2, rfl⟩ := hx
            have hnum := rref_num16 HNA.out hc
            have he2 : (38 :: m : Str).getD 2 0 = 120 := by rw [hm2]; rfl
            rw [he2] at hg2
            have hs3 : ∀ W : World, (Instr.slice 9 (.string (bs (38 :: m))) (some (.int .i64 3)) (some (.int .i64 (((120 :: ds2 : Str).length : Int) + 2))) none).run Tryz.prog W = .ok (.string (bs ds2)) W := by
              intro W
              have h := slice_run (w := W) (38 :: m) (i := 3) (j := ((120 :: ds2 : Str).length : Int) + 2) (a := 3) (b := (120 :: ds2 : Str).length + 2) rfl (by omega) (by simp) (by rw [hm2]; simp)
              have e : ((38 :: m : Str).drop 3).take ((120 :: ds2 : Str).length + 2 - 3) = ds2 := by rw [hm2]; simp
              rw [e] at h
              exact h
            have HN1 := Lib.hid (fun (W : World) => rnumber10_h (w := W) (120 :: ds2) 7 (by omega) (by omega))
            have HN2 := Lib.hid (fun (W : World) => rnumber16_h (w := W) ds2 6 (by simp at hdl; omega) (by omega))
            obtain ⟨v1, ok1, hnv1, _, _, _⟩ := rnum_parts (base := 10) (most := 7) (120 :: ds2) (by omega) (by omega)
            obtain ⟨v, ok, hnv, hv, hok, hvv⟩ := rnum_parts (base := 16) (most := 6) ds2 (by omega) (by omega)
            rw [hnv1] at HN1
            rw [hnv] at HN2
            have HOK := Lib.hid hok
            have HU2 := Lib.hid (fun (W : World) => HU.out W v hv)
            have HVV := Lib.hid hvv
            clear hv hvv
            obtain ⟨k, hk⟩ : ∃ k, (120 :: ds2 : Str).length = k := ⟨_, rfl⟩
            rw [hk] at hs2 hs3 HFind HML hdl
            obtain ⟨d1, hd1⟩ : ∃ d1, (120 :: ds2 : Str) = d1 := ⟨_, rfl⟩
            rw [hd1] at hs2 HN1
            clear hc hm2 hpre hlens hend hok hnv hnv1 he2 hk hd1
            go_wp2_with fail
            refine Calls.mono (HFind.out _) ?_
            rintro e w1 ⟨rfl, rfl⟩
            go_wp2_with fail
            refine Calls.mono HB3.out ?_
            rintro e w1 ⟨rfl, rfl⟩
            go_wp2_with fail
            refine Calls.mono (HN1.out _) ?_
            rintro e w1 ⟨rfl, rfl⟩
            go_wp2_with fail
            refine Calls.mono (HN2.out _) ?_
            rintro e w1 ⟨rfl, rfl⟩
            cases ok with
            | false =>
              obtain ⟨X, Y, hXY⟩ : ∃ X Y, rutfV v = .tuple #[.string X, .bool Y] := ⟨_, _, rfl⟩
              have HR := Lib.hid (hnum.trans (numE_no HOK.out.symm))
              go_wp2_with fail
              refine Calls.mono (HU2.out _) ?_
              rintro e w5 ⟨rfl, hF5⟩
              rw [hXY]
              have HF5 := Lib.hid hF5
              clear hF5 hXY
              go_wp2_with fail
              go_ret2
              exact ⟨by rw [HR.out] <;> rfl, HF.out.next HF5.out⟩
            | true =>
              have hve := HVV.out rfl
              cases hro : runeOK v with
              | false =>
                have HR := Lib.hid (hnum.trans (numE_bad (by rw [← hve]; exact hro)))
                have HUE := Lib.hid (rutf_no hro)
                clear hve hro
                go_wp2_with fail
                refine Calls.mono (HU2.out _) ?_
                rintro e w5 ⟨rfl, hF5⟩
                rw [HUE.out]
                have HF5 := Lib.hid hF5
                clear hF5
                go_wp2_with fail
                go_ret2
                exact ⟨by rw [HR.out] <;> rfl, HF.out.next HF5.out⟩
              | true =>
                have HR := Lib.hid (hnum.trans (numE_yes HOK.out.symm (by rw [← hve]; exact hro)))
                have HUE := Lib.hid (rutf_yes hro)
                have HVE := Lib.hid hve
                clear hve hro
                go_wp2_with fail
                refine Calls.mono (HU2.out _) ?_
                rintro e w5 ⟨rfl, hF5⟩
                rw [HUE.out]
                have HF5 := Lib.hid hF5
                clear hF5
                go_wp2_with fail
                go_ret2
                refine ⟨?_, HF.out.next HF5.out⟩
                rw [HR.out, ← HVE.out, HML.out]
                first | rfl | (congr 4; omega) | skip
          · have hnum := rref_num10 HNA.out hc (fun t e => hx ⟨t, e⟩)
            have he2 : ((bs (38 :: m))[2] == 120) = false := by
              rw [hg2, hm2]
              cases ds with
              | nil => rfl
              | cons c t =>
                show (c == 120) = false
                rw [beq_eq_false_iff_ne]
                intro e
                exact hx ⟨t, by rw [e]⟩
            obtain ⟨c2, hc2⟩ : ∃ c2, (38 :: m : Str).getD 2 0 = c2 := ⟨_, rfl⟩
            rw [hg2, hc2] at he2
            rw [hc2] at hg2
            have he3 : ((c2.toNat : Int) == 120) = false := by
              rw [beq_eq_false_iff_ne] at he2 ⊢
              intro e
              exact he2 (UInt8.toNat.inj (by show c2.toNat = 120; omega))
            have HN1 := Lib.hid (fun (W : World) => rnumber10_h (w := W) ds 7 (by omega) (by omega))
            obtain ⟨v, ok, hnv, hv, hok, hvv⟩ := rnum_parts (base := 10) (most := 7) ds (by omega) (by omega)
            rw [hnv] at HN1
            have HOK := Lib.hid hok
            have HU2 := Lib.hid (fun (W : World) => HU.out W v hv)
            have HVV := Lib.hid hvv
            clear hv hvv
            clear hc hm2 hpre hlens hend hok hnv he2 hc2 hx
            go_wp2_with fail
            refine Calls.mono (HFind.out _) ?_
            rintro e w1 ⟨rfl, rfl⟩
            go_wp2_with fail
            refine Calls.mono HB3.out ?_
            rintro e w1 ⟨rfl, rfl⟩
            go_wp2_with fail
            refine Calls.mono (HN1.out _) ?_
            rintro e w1 ⟨rfl, rfl⟩
            cases ok with
            | false =>
              obtain ⟨X, Y, hXY⟩ : ∃ X Y, rutfV v = .tuple #[.string X, .bool Y] := ⟨_, _, rfl⟩
              have HR := Lib.hid (hnum.trans (numE_no HOK.out.symm))
              go_wp2_with fail
              refine Calls.mono (HU2.out _) ?_
              rintro e w5 ⟨rfl, hF5⟩
              rw [hXY]
              have HF5 := Lib.hid hF5
              clear hF5 hXY
              go_wp2_with fail
              go_ret2
              exact ⟨by rw [HR.out] <;> rfl, HF.out.next HF5.out⟩
            | true =>
              have hve := HVV.out rfl
              cases hro : runeOK v with
              | false =>
                have HR := Lib.hid (hnum.trans (numE_bad (by rw [← hve]; exact hro)))
                have HUE := Lib.hid (rutf_no hro)
                clear hve hro
                go_wp2_with fail
                refine Calls.mono (HU2.out _) ?_
                rintro e w5 ⟨rfl, hF5⟩
                rw [HUE.out]
                have HF5 := Lib.hid hF5
                clear hF5
                go_wp2_with fail
                go_ret2
                exact ⟨by rw [HR.out] <;> rfl, HF.out.next HF5.out⟩
              | true =>
                have HR := Lib.hid (hnum.trans (numE_yes HOK.out.symm (by rw [← hve]; exact hro)))
                have HUE := Lib.hid (rutf_yes hro)
                have HVE := Lib.hid hve
                clear hve hro
                go_wp2_with fail
                refine Calls.mono (HU2.out _) ?_
                rintro e w5 ⟨rfl, hF5⟩
                rw [HUE.out]
                have HF5 := Lib.hid hF5
                clear hF5
                go_wp2_with fail
                go_ret2
                refine ⟨?_, HF.out.next HF5.out⟩
                rw [HR.out, ← HVE.out, HML.out]
                first | rfl | (congr 4; omega) | skip
        · have hb2 : ∀ t, b ≠ 35 :: t := fun t e => hb35 ⟨t, e⟩
          have HR := Lib.hid (rref_not35 HNA.out hc hb2)
          have hpre := cut_not35 hc hb2
          rw [hpre] at HB3
          have hbl : b.length ≤ 900000 := by omega
          clear hb35 hb2 hc hpre hlens
          go_wp2_with fail
          refine Calls.mono (HFind.out _) ?_
          rintro e w1 ⟨rfl, rfl⟩
          go_wp2_with fail
          refine Calls.mono HB3.out ?_
          rintro e w1 ⟨rfl, rfl⟩
          go_wp2_with fail
          go_ret2
          exact ⟨by rw [HR.out] <;> rfl, HF.out⟩
end Go.Proofs.YtpinjgdnhbogoaaGreatDoor

/- The reference's blanks and until. -/
namespace Go.Proofs.YtpinjgdnhbogoaaGreatDoor
open Go.RowKit Go.Lib

set_option maxRecDepth 100000 in
set_option maxHeartbeats 4000000 in
theorem rblanks_h {w : World} (s : Str) (hs : s.length ≤ 1000000) : Calls Tryz.prog 118 #[.string (bs s)] w fun e w' => e = .returned (.int .i64 ((blanksN s : Nat) : Int)) ∧ w = w' := by
  have hsz : (bs s).size = s.length := rfl
  go_enter Tryz.func118, Tryz.ntmps118
  go_wp2_with fail
  go_loopg [3] (s.length) (fun j v wr => (∃ k : Nat, k + j = s.length ∧ v = .int .i64 k ∧ Hid (BlankTo s k)) ∧ w = wr)
  case atStart => exact ⟨⟨0, by omega, rfl, BlankTo.start s⟩, rfl⟩
  case round =>
    obtain ⟨⟨k, hk, rfl, HT⟩, rfl⟩ := hrel
    by_cases hlt : k < s.length
    · have hz : k < (bs s).size := hlt
      have hg := bs_at s k hz
      obtain ⟨c, hc⟩ : ∃ c, s.getD k 0 = c := ⟨_, rfl⟩
      rw [hc] at hg
      have HB := Lib.hid (rblank_h (w := w) c)
      have HK := Lib.hid (And.intro hk hlt)
      cases hb : blankC c with
      | true =>
        have HN := Lib.hid (HT.out.step hlt (by rw [hc]; exact hb))
        rw [hb] at HB
        clear hb hc hk
        go_wp2_with fail
        refine Calls.mono HB.out ?_
        rintro e w1 ⟨rfl, rfl⟩
        go_wp2_with fail
        go_roundg (s.length - (k + 1))
        case measure => have := HK.out; omega
        case rel => exact ⟨⟨k + 1, by have := HK.out; omega, by go_num, HN.out⟩, rfl⟩
      | false =>
        have HN := Lib.hid (HT.out.stop hlt (by rw [hc]; exact hb))
        rw [hb] at HB
        clear hb hc hk
        go_wp2_with fail
        refine Calls.mono HB.out ?_
        rintro e w1 ⟨rfl, rfl⟩
        go_wp2_with fail
        go_ret
        exact ⟨by rw [HN.out] <;> rfl, rfl⟩
    · have HN := Lib.hid (HT.out.all hlt)
      have h1 : ¬ (k : Int) < (s.length : Int) := by omega
      clear hlt hk
      go_wp2_with fail
      go_ret
      exact ⟨by rw [HN.out] <;> rfl, rfl⟩
set_option maxRecDepth 100000 in
set_option maxHeartbeats 4000000 in
theorem runtil_h {w : World} (s t : Str) (k : Nat) (hs : s.length ≤ 1000000) (ht : t.length ≤ 1000000) (h0 : 0 < t.length) (hk : k ≤ 1000000) :
    Calls Tryz.prog 116 #[.string (bs s), .int .i64 (k : Int), .string (bs t)] w fun e w' => e = .returned (.int .i64 ((untilN t s k : Nat) : Int)) ∧ w = w' := by
  have hsz : (bs s).size = s.length := rfl
  have htz : (bs t).size = t.length := rfl
  have HF := Lib.hid (rfind_h (w := w) s t k hs ht h0 hk)
  by_cases hn : findZ t s k < 0
  · have HE := Lib.hid (until_none hn)
    obtain ⟨z, hz⟩ : ∃ z, findZ t s k = z := ⟨_, rfl⟩
    rw [hz] at HF hn
    clear hz
    go_enter Tryz.func116, Tryz.ntmps116
    go_wp2_with fail
    refine Calls.mono HF.out ?_
    rintro e w1 ⟨rfl, rfl⟩
    go_wp2_with fail
    go_ret
    exact ⟨by rw [HE.out] <;> rfl, rfl⟩
  · have HE := Lib.hid (until_some hn)
    obtain ⟨a, b, h1, h2, h3⟩ := find_some hn
    have hl := congrArg List.length h3
    rw [List.length_drop, List.length_append, List.length_append] at hl
    obtain ⟨z, hz⟩ : ∃ z : Nat, z = k + a.length := ⟨_, rfl⟩
    have h4 : findZ t s k = (z : Int) := by rw [h2, hz]
    have hz2 : z ≤ 2000000 := by omega
    rw [h4] at HF HE
    clear hn h1 h2 h3 hl hz h4
    go_enter Tryz.func116, Tryz.ntmps116
    go_wp2_with fail
    refine Calls.mono HF.out ?_
    rintro e w1 ⟨rfl, rfl⟩
    go_wp2_with fail
    go_ret
    exact ⟨by rw [HE.out] <;> rfl, rfl⟩
end Go.Proofs.YtpinjgdnhbogoaaGreatDoor
