/- snap.name, snap.indexOf: walked. -/
import Derived.Test.YtgmghopcppniaaaGreatDoorS18
import Derived.Test.YtgmghopcppniaaaGreatDoorC7
import Derived.Test.YtgmghopcppniaaaGreatDoorShelfB
namespace Go.Proofs.YtgmghopcppniaaaGreatDoor
open Go.RowKit Go.Lib

/-- the library's variables -/
structure Env (w : World) : Prop where
  syn : ∃ T p, w.cell? ⟨0, 0, none⟩ = some (.iface T p)
  rng : ∃ T p, w.cell? ⟨1, 0, none⟩ = some (.iface T p)
  pow : ∃ e f, w.heap[2]? = some (.cells (Lib.pow10Tab.map fun z => Value.int .u64 z).toArray e f)
theorem Env.fr {o : Nat → Prop} {w w' : World} (h : Env w) (hf : Fr o w w') (ho : ∀ k, k < 8 → ¬ o k) : Env w' := by
  obtain ⟨⟨T, p, h1⟩, ⟨T', p', h2⟩, ⟨e, f, h3⟩⟩ := h
  exact ⟨⟨T, p, hf.cell h1 (ho 0 (by omega))⟩, ⟨T', p', hf.cell h2 (ho 1 (by omega))⟩, ⟨e, f, hf.keep h3 (ho 2 (by omega))⟩⟩
theorem Env.grow {w w' : World} (h : Env w) (hf : Fr (fun _ => False) w w') : Env w' := h.fr hf fun _ _ h => h
theorem pow_named : Tryz.prog.globalNamed "internal/strconv.uint64pow10" = some 2 := by kernel_rfl
theorem Env.tab {w : World} (h : Env w) : Lib.TabIs Tryz.prog w "internal/strconv.uint64pow10" .u64 Lib.pow10Tab := by
  obtain ⟨e, f, h3⟩ := h.pow
  unfold Lib.TabIs World.var?
  rw [pow_named]
  simp only [Option.bind_some, h3]
theorem fr_new {w w' : World} (h : Below w.heap.size w w') : Fr (fun _ => False) w w' := fr_below h
theorem fr_grown {w : World} (os : Array Obj) : Fr (fun _ => False) w (Sort.grow w os) :=
  ⟨rfl, rfl, rfl, by show w.heap.size ≤ (w.heap ++ os).size; rw [Array.size_append]; omega, fun k hk _ => by show (w.heap ++ os)[k]? = _; rw [Array.getElem?_append_left hk]⟩
theorem itoa_h {w : World} (hE : Env w) {n : Int} (hn : I64 n) : Calls Tryz.prog 131 #[.int .i64 n] w fun e w' => e = .returned (.string (bs (Lib.itoa n))) ∧ Fr (fun _ => False) w w' := by
  refine (Tryz.strconv_Itoa n hn.1 hn.2 w hE.tab).mono ?_
  rintro e w' ⟨rfl, k, os, rfl⟩
  exact ⟨rfl, (fr_grown (w := w.drewN k) os).of_start⟩
theorem atoi_ok_h {w : World} {t : Str} (ht : t.length ≤ 1000000) {v : Int} (h : Lib.atoiAll t = .ok v) : Calls Tryz.prog 130 #[.string (bs t)] w fun e w' => e = .returned (.tuple #[.int .i64 v, .nilIface]) ∧ Fr (fun _ => False) w w' := by
  refine (Tryz.strconv_Atoi_ok (bs t) (by rw [bs_size]; omega) v h w).mono ?_
  rintro e w' ⟨rfl, rfl | ⟨t, rfl⟩⟩
  · exact ⟨rfl, Fr.refl _ _⟩
  · exact ⟨rfl, fr_new (Lib.bytesWorld_below _ _ _)⟩
theorem atoi_bad_h {w : World} (hE : Env w) {t : Str} (ht : t.length ≤ 1000000) (h : ∀ v, Lib.atoiAll t ≠ .ok v) : Calls Tryz.prog 130 #[.string (bs t)] w fun e w' => ∃ (v : Int) (N : Nat), e = .returned (.tuple #[.int .i64 v, .iface 234 (.pointer (some ⟨N, 0, none⟩))]) ∧ Fr (fun _ => False) w w' := by
  obtain ⟨⟨T, p, h1⟩, ⟨T', p', h2⟩, _⟩ := hE
  cases ha : Lib.atoiAll t with
  | ok v => exact absurd ha (h v)
  | range =>
    refine (Tryz.strconv_Atoi_range (bs t) (by rw [bs_size]; omega) ha _ w h2 (.inr ⟨_, _, rfl⟩)).mono ?_
    rintro e w' ⟨N, rfl, _, _, hb⟩
    exact ⟨_, N, rfl, fr_new hb⟩
  | _ =>
    refine (Tryz.strconv_Atoi_syntax (bs t) (by rw [bs_size]; omega) ha _ w h1 (.inr ⟨_, _, rfl⟩)).mono ?_
    rintro e w' ⟨N, rfl, _, _, hb⟩
    exact ⟨_, N, rfl, fr_new hb⟩
theorem cutp_h {w : World} (t : Str) : Calls Tryz.prog 129 #[.string (bs (112 :: t)), .string ⟨#[112]⟩] w fun e w' => e = .returned (.tuple #[.string (bs t), .bool true]) ∧ w = w' := by
  refine (Tryz.strings_CutPrefix (bs (112 :: t)) ⟨#[112]⟩ w).mono ?_
  rintro e w' ⟨rfl, rfl⟩
  refine ⟨?_, rfl⟩
  have h1 : Lib.hasPrefix (112 :: t) [112] = true := by simp [Lib.hasPrefix]
  have h2 : Lib.trimPrefix (112 :: t) [112] = t := by unfold Lib.trimPrefix; rw [h1]; simp
  show Ending.returned (.tuple #[.string ⟨(Lib.trimPrefix (112 :: t) [112]).toArray⟩, .bool (Lib.hasPrefix (112 :: t) [112])]) = _
  rw [h1, h2]; rfl
theorem cutn_h {w : World} {s : Str} (hs : ∀ t, s ≠ 112 :: t) : Calls Tryz.prog 129 #[.string (bs s), .string ⟨#[112]⟩] w fun e w' => e = .returned (.tuple #[.string (bs s), .bool false]) ∧ w = w' := by
  refine (Tryz.strings_CutPrefix (bs s) ⟨#[112]⟩ w).mono ?_
  rintro e w' ⟨rfl, rfl⟩
  refine ⟨?_, rfl⟩
  have h1 : Lib.hasPrefix s [112] = false := by
    cases s with
    | nil => rfl
    | cons c t =>
      have : c ≠ 112 := by rintro rfl; exact hs t rfl
      show List.isPrefixOf [112] (c :: t) = false
      unfold List.isPrefixOf
      rw [show ((112 : UInt8) == c) = false from beq_eq_false_iff_ne.2 (Ne.symm this)]; rfl
  have h2 : Lib.trimPrefix s [112] = s := by unfold Lib.trimPrefix; rw [h1]; simp
  show Ending.returned (.tuple #[.string ⟨(Lib.trimPrefix s [112]).toArray⟩, .bool (Lib.hasPrefix s [112])]) = _
  rw [h1, h2]; rfl
theorem sname_text {n : Int} (h : 0 < n) : (112 :: Lib.itoa n : Str) = nameS n := by unfold nameS; rw [itoa_dec h]
theorem sname_h {w : World} (hE : Env w) {n : Int} (h0 : 0 < n) (h1 : n ≤ 1099511627776) : Calls Tryz.prog 128 #[.int .i64 n] w fun e w' => e = .returned (.string (bs (nameS n))) ∧ Fr (fun _ => False) w w' := by
  have HI := Lib.hid (itoa_h (w := w) hE (n := n) ⟨by omega, by omega⟩)
  have hlen : (Lib.itoa n).length ≤ 21 := by rw [itoa_dec h0]; have := decHi_len 18 n.toNat (by omega); omega
  have HN := Lib.hid (sname_text h0)
  have h112 : (⟨#[112]⟩ : ByteArray) = bs [112] := rfl
  have s1 := fun (W : World) => sum_at W (a := [112]) (b := Lib.itoa n) rfl (by simp; omega)
  rw [← h112] at s1
  obtain ⟨t, ht⟩ : ∃ t, Lib.itoa n = t := ⟨_, rfl⟩
  rw [ht] at HI s1 HN
  have HN2 : Hid ([112] ++ t = nameS n) := HN.out
  rw [HN2.out] at s1
  clear h112 ht HN
  go_enter Tryz.func128, Tryz.ntmps128
  go_wp2_with fail
  refine Calls.mono HI.out ?_
  rintro e w1 ⟨rfl, hf⟩
  have HF := Lib.hid hf
  clear hf
  go_wp2_with fail
  go_ret
  exact ⟨rfl, HF.out⟩
def IdxPost (s : Str) (w : World) (e : Ending) (w' : World) : Prop := e = .returned (.int .i64 (idxD s)) ∧ Fr (fun _ => False) w w'
theorem idx_zero {s : Str} {w w' : World} (h : idxD s = 0) (hf : Fr (fun _ => False) w w') : IdxPost s w (.returned (.int .i64 0)) w' := ⟨by rw [h], hf⟩
theorem idx_val {s : Str} {v : Int} {w w' : World} (h : idxD s = v) (hf : Fr (fun _ => False) w w') : IdxPost s w (.returned (.int .i64 v)) w' := ⟨by rw [h], hf⟩
theorem atoi_in {t : Str} {v : Int} (h : Lib.atoiAll t = .ok v) : -9223372036854775808 ≤ v ∧ v ≤ 9223372036854775807 := by
  unfold Lib.atoiAll at h
  split at h
  · cases h
  · simp only at h
    split at h
    · cases h
    · cases h
    · split at h
      · cases h
      · split at h
        · cases h
        · injection h with h
          split at h <;> omega
set_option maxRecDepth 100000 in
set_option maxHeartbeats 4000000 in
theorem index_h {w : World} (hE : Env w) (s : Str) (hs : s.length ≤ 1000000) : Calls Tryz.prog 70 #[.string (bs s)] w (IdxPost s w) := by
  by_cases hp : ∃ t, s = 112 :: t
  · obtain ⟨t, rfl⟩ := hp
    have htl : t.length ≤ 1000000 := by simp at hs; omega
    have hsz : (bs t).size = t.length := rfl
    have HC := Lib.hid (cutp_h (w := w) t)
    by_cases hok : ∃ v, Lib.atoiAll t = .ok v
    · obtain ⟨v, hv⟩ := hok
      have HA := Lib.hid (atoi_ok_h (w := w) htl hv)
      have hvi := atoi_in hv
      have HV := Lib.hid hv
      clear hv
      by_cases h1 : 1 ≤ v
      · have h1n : ¬ v < 1 := by omega
        by_cases h18 : t.length ≤ 18
        · have h18i : ¬ (18 : Int) < (t.length : Int) := by omega
          by_cases hit : Lib.itoa v = t
          · have HE := Lib.hid (idx_hit h1 h18 hit)
            have HI := Lib.hid (fun (W : World) (hF : Fr (fun _ => False) w W) => itoa_h (w := W) (hE.grow hF) (n := v) ⟨by omega, by omega⟩)
            rw [hit] at HI
            clear hit h1 h18
            go_enter Tryz.func70, Tryz.ntmps70
            go_wp2_with (go_at_call 129; refine Calls.mono HC.out ?_; rintro e w' ⟨rfl, rfl⟩)
            refine Calls.mono HA.out ?_
            rintro e w1 ⟨rfl, hf⟩
            have HF := Lib.hid hf
            clear hf
            go_wp2_with (go_at_call 131; refine Calls.mono (HI.out _ HF.out) ?_)
            rintro e w2 ⟨rfl, hf⟩
            have HF2 := Lib.hid (HF.out.next hf)
            clear hf
            go_wp2_with fail
            go_ret
            exact idx_val HE.out HF2.out
          · have HE : Hid (idxD (112 :: t) = 0) := by
              show idxD (112 :: t) = 0
              refine Decidable.byContradiction fun h => ?_
              obtain ⟨u, hu1, _, _, hu4⟩ := idx_miss h
              rw [HV.out] at hu1
              injection hu1 with hu1
              rw [hu1] at hit
              exact hit hu4
            obtain ⟨u, hu⟩ : ∃ u, Lib.itoa v = u := ⟨_, rfl⟩
            rw [hu] at hit
            have HI := Lib.hid (fun (W : World) (hF : Fr (fun _ => False) w W) => itoa_h (w := W) (hE.grow hF) (n := v) ⟨by omega, by omega⟩)
            rw [hu] at HI
            have hne : bs u ≠ bs t := fun e => hit (bs_inj e)
            have q2 : decide (bs u = bs t) = false := decide_eq_false hne
            have q3 : ((bs u).toList == (bs t).toList) = false := by rw [bs_toList, bs_toList]; exact beq_eq_false_iff_ne.2 hit
            clear hu hit h1 h18
            go_enter Tryz.func70, Tryz.ntmps70
            go_wp2_with (go_at_call 129; refine Calls.mono HC.out ?_; rintro e w' ⟨rfl, rfl⟩)
            refine Calls.mono HA.out ?_
            rintro e w1 ⟨rfl, hf⟩
            have HF := Lib.hid hf
            clear hf
            go_wp2_with (go_at_call 131; refine Calls.mono (HI.out _ HF.out) ?_)
            rintro e w2 ⟨rfl, hf⟩
            have HF2 := Lib.hid (HF.out.next hf)
            clear hf
            go_wp2_with fail
            go_ret
            exact idx_zero HE.out HF2.out
        · have h18i : (18 : Int) < (t.length : Int) := by omega
          have HE : Hid (idxD (112 :: t) = 0) := by
            show idxD (112 :: t) = 0
            refine Decidable.byContradiction fun h => ?_
            obtain ⟨u, _, _, hu3, _⟩ := idx_miss h
            exact h18 hu3
          clear h1 h18
          go_enter Tryz.func70, Tryz.ntmps70
          go_wp2_with (go_at_call 129; refine Calls.mono HC.out ?_; rintro e w' ⟨rfl, rfl⟩)
          refine Calls.mono HA.out ?_
          rintro e w1 ⟨rfl, hf⟩
          have HF := Lib.hid hf
          clear hf
          go_wp2_with fail
          go_ret
          exact idx_zero HE.out HF.out
      · have h1n : v < 1 := by omega
        have HE : Hid (idxD (112 :: t) = 0) := by
          show idxD (112 :: t) = 0
          refine Decidable.byContradiction fun h => ?_
          obtain ⟨u, hu1, hu2, _, _⟩ := idx_miss h
          rw [HV.out] at hu1
          injection hu1 with hu1
          omega
        clear h1
        go_enter Tryz.func70, Tryz.ntmps70
        go_wp2_with (go_at_call 129; refine Calls.mono HC.out ?_; rintro e w' ⟨rfl, rfl⟩)
        refine Calls.mono HA.out ?_
        rintro e w1 ⟨rfl, hf⟩
        have HF := Lib.hid hf
        clear hf
        go_wp2_with fail
        go_ret
        exact idx_zero HE.out HF.out
    · have HA := Lib.hid (atoi_bad_h (w := w) hE htl (fun v h => hok ⟨v, h⟩))
      have HE : Hid (idxD (112 :: t) = 0) := by
        show idxD (112 :: t) = 0
        refine Decidable.byContradiction fun h => ?_
        obtain ⟨u, hu1, _⟩ := idx_miss h
        exact hok ⟨u, hu1⟩
      clear hok
      go_enter Tryz.func70, Tryz.ntmps70
      go_wp2_with (go_at_call 129; refine Calls.mono HC.out ?_; rintro e w' ⟨rfl, rfl⟩)
      refine Calls.mono HA.out ?_
      rintro e w1 ⟨v, N, rfl, hf⟩
      have HF := Lib.hid hf
      clear hf
      go_wp2_with fail
      go_ret
      exact idx_zero HE.out HF.out
  · have hp2 : ∀ t, s ≠ 112 :: t := fun t h => hp ⟨t, h⟩
    have HC := Lib.hid (cutn_h (w := w) hp2)
    have HE := Lib.hid (idx_other hp2)
    clear hp hp2
    by_cases hok : ∃ v, Lib.atoiAll s = .ok v
    · obtain ⟨v, hv⟩ := hok
      have HA := Lib.hid (atoi_ok_h (w := w) hs hv)
      clear hv
      go_enter Tryz.func70, Tryz.ntmps70
      go_wp2_with (go_at_call 129; refine Calls.mono HC.out ?_; rintro e w' ⟨rfl, rfl⟩)
      refine Calls.mono HA.out ?_
      rintro e w1 ⟨rfl, hf⟩
      have HF := Lib.hid hf
      clear hf
      go_wp2_with fail
      go_ret
      exact idx_zero HE.out HF.out
    · have HA := Lib.hid (atoi_bad_h (w := w) hE hs (fun v h => hok ⟨v, h⟩))
      clear hok
      go_enter Tryz.func70, Tryz.ntmps70
      go_wp2_with (go_at_call 129; refine Calls.mono HC.out ?_; rintro e w' ⟨rfl, rfl⟩)
      refine Calls.mono HA.out ?_
      rintro e w1 ⟨v, N, rfl, hf⟩
      have HF := Lib.hid hf
      clear hf
      go_wp2_with fail
      go_ret
      exact idx_zero HE.out HF.out
end Go.Proofs.YtgmghopcppniaaaGreatDoor
