/- The walk of the law DiskOthers. -/
import Derived.Test.YtfcnjbkoneinpaaDoorKE
namespace Go.Proofs.YtfcnjbkoneinpaaDoor
open Go.RowKit Go.Lib

section
variable {w w' : World} {pb mb : Nat} {D : DiskD} {v : Value} {l : List ActM} {m : ActM} {S : Nat → Prop}
theorem acts_one {g : Nat} (h : ActIn w S m) (hb : w.heap[g]? = some (.cells (cellsM m).toArray 38 (0, 0))) (hS : S g) : ActsAt w S (.slice (some ⟨g, 0, none⟩) 1 1) [m] :=
  ⟨⟨_, 1, rfl, Nat.le_refl _, by decide, fun _ => ⟨g, 0, rfl, hS, fun i m' j u hm hu => by
    cases i with
    | zero => obtain rfl := Option.some.inj hm; rw [Nat.zero_mul, Nat.zero_add]; exact cell_of hb (by simpa using hu)
    | succ i => simp at hm⟩⟩, fun m' hm => by rw [List.mem_singleton.1 hm]; exact h⟩
theorem ActIn.mono {S' : Nat → Prop} (h : ActIn w S m) (hs : ∀ k, S k → S' k) : ActIn w S' m := ⟨h.keep.mono hs, h.noise.mono hs, h.op, h.num⟩

set_option maxRecDepth 100000 in
set_option maxHeartbeats 8000000 in
theorem others_h (hA : ActsAt w (fun k => k < w.heap.size) v l) (hM : ActIn w (fun k => k < w.heap.size) m) (n : List UInt8) : Calls Tryd.prog 6 #[v, actV m.va m.vb m.act, .string (bs n)] w fun e w' => e = .returned (.bool true) ∧ Fr (fun _ => False) w w' := by
  obtain ⟨va, vac, hva, hv1, hv2⟩ := hM.keep.form
  obtain ⟨vb, vbc, hvb, hv3, hv4⟩ := hM.noise.form
  have hF0 : Fr (fun _ => False) w (w.alloc (.cells #[.int .i64 m.act.op, .int .i64 m.act.n, .string (bs m.act.name), .string (bs m.act.to), .string (bs m.act.data), .slice va m.act.keep.length vac, .slice vb m.act.noise.length vbc] 38)) := (Fr.refl _ _).alloc _
  have hb0 := block_new w (.cells #[.int .i64 m.act.op, .int .i64 m.act.n, .string (bs m.act.name), .string (bs m.act.to), .string (bs m.act.data), .slice va m.act.keep.length vac, .slice vb m.act.noise.length vbc] 38)
  have HA := Lib.hid hA
  have HM := Lib.hid hM
  have HV := Lib.hid (And.intro hva hvb)
  obtain ⟨⟨a, cap, rfl, hc1, hc2, _⟩, _⟩ := hA
  have tn := bs_toList n
  have t1 := bs_toList m.act.name
  have t2 := bs_toList m.act.to
  unfold actV
  rw [hva, hvb]
  clear hva hvb hv1 hv2 hv3 hv4 hM
  generalize hWE : w.alloc (.cells #[.int .i64 m.act.op, .int .i64 m.act.n, .string (bs m.act.name), .string (bs m.act.to), .string (bs m.act.data), .slice va m.act.keep.length vac, .slice vb m.act.noise.length vbc] 38) = W at hF0 hb0
  have HW := Lib.hid hWE
  have HB := Lib.hid (And.intro hF0 hb0)
  clear hWE hF0 hb0
  go_enter Tryd.func6, Tryd.ntmps6
  go_wp2_with fail
  rw [HW.out]
  refine Calls.mono (shown_h W) ?_
  rintro e w1 ⟨rfl, hF1⟩
  have HF1 := Lib.hid (And.intro (HB.out.1.next hF1) (hF1.keep HB.out.2 (fun h => h)))
  clear hF1
  go_wp2_with fail
  refine Calls.mono (small_h (HA.out.grow HF1.out.1)) ?_
  rintro e w1 ⟨r, rfl, hr, rfl⟩
  have HR := Lib.hid hr
  clear hr
  have k0 := cell_of HF1.out.2 (i := 0) rfl
  have k1 := cell_of HF1.out.2 (i := 1) rfl
  have k2 := cell_of HF1.out.2 (i := 2) rfl
  have k3 := cell_of HF1.out.2 (i := 3) rfl
  have k4 := cell_of HF1.out.2 (i := 4) rfl
  have k5 := cell_of HF1.out.2 (i := 5) rfl
  have k6 := cell_of HF1.out.2 (i := 6) rfl
  go_wp2_with fail
  have hF2 : Fr (fun _ => False) w1 (w1.alloc (.cells #[.int .i64 m.act.op, .int .i64 m.act.n, .string (bs m.act.name), .string (bs m.act.to), .string (bs m.act.data), .slice va m.act.keep.length vac, .slice vb m.act.noise.length vbc] 38)) := (Fr.refl _ _).alloc _
  have hone := acts_one (m := m) (S := fun _ => True) (((HM.out.fr (HF1.out.1.next hF2) (fun _ _ h => h)).mono fun _ _ => trivial)) (g := w1.heap.size) (by have := block_new w1 (.cells #[.int .i64 m.act.op, .int .i64 m.act.n, .string (bs m.act.name), .string (bs m.act.to), .string (bs m.act.data), .slice va m.act.keep.length vac, .slice vb m.act.noise.length vbc] 38); unfold cellsM; rw [HV.out.1, HV.out.2]; exact this) trivial
  have HO := Lib.hid (small_h hone)
  have HF2 := Lib.hid (And.intro (HF1.out.1.next hF2) (hF2.keep HF1.out.2 (fun h => h)))
  clear hF2 hone k0 k1 k2 k3 k4 k5 k6
  refine Calls.mono HO.out ?_
  rintro e w2 ⟨r2, rfl, hr2, rfl⟩
  have HR2 := Lib.hid hr2
  clear hr2 HO
  generalize w1.alloc (.cells #[.int .i64 m.act.op, .int .i64 m.act.n, .string (bs m.act.name), .string (bs m.act.to), .string (bs m.act.data), .slice va m.act.keep.length vac, .slice vb m.act.noise.length vbc] 38) = w2 at *
  have k0 := cell_of HF2.out.2 (i := 0) rfl
  have k1 := cell_of HF2.out.2 (i := 1) rfl
  have k2 := cell_of HF2.out.2 (i := 2) rfl
  have k3 := cell_of HF2.out.2 (i := 3) rfl
  have k4 := cell_of HF2.out.2 (i := 4) rfl
  have k5 := cell_of HF2.out.2 (i := 5) rfl
  have k6 := cell_of HF2.out.2 (i := 6) rfl
  clear HF1
  cases r with
  | false =>
    go_wp2_with fail
    go_ret
    exact ⟨rfl, HF2.out.1⟩
  | true =>
    cases r2 with
    | false =>
      go_wp2_with fail
      go_ret
      exact ⟨rfl, HF2.out.1⟩
    | true =>
      by_cases hn1 : n = m.act.name
      · have d1 : (n == m.act.name) = true := by simpa using hn1
        clear hn1
        go_wp2_with fail
        go_ret
        exact ⟨rfl, HF2.out.1⟩
      have d1 : (n == m.act.name) = false := by simpa using hn1
      by_cases hn2 : n = m.act.to
      · have d2 : (n == m.act.to) = true := by simpa using hn2
        clear hn1 hn2
        go_wp2_with fail
        go_ret
        exact ⟨rfl, HF2.out.1⟩
      have d2 : (n == m.act.to) = false := by simpa using hn2
      have HS := Lib.hid (HR.out.1 rfl)
      have HS2 := Lib.hid ((HR2.out.1 rfl).2 m (List.mem_singleton.2 rfl))
      have HN := Lib.hid (And.intro hn1 hn2)
      clear HR HR2 hn1 hn2
      go_wp2_with fail
      have hlow : ActsAt w2 (fun k => k < w2.heap.size) (.slice a l.length cap) l := by
        have h1 := HA.out.grow HF2.out.1
        have h2 := HF2.out.1.size
        obtain ⟨⟨a', cap', e1, e2, e3, e4⟩, e5⟩ := h1
        exact ⟨⟨a', cap', e1, e2, e3, fun hh => by obtain ⟨g, off, q1, q2, q3⟩ := e4 hh; exact ⟨g, off, q1, by omega, q3⟩⟩, fun x hx => (e5 x hx).mono fun k hk => by omega⟩
      have HMD := Lib.hid (made_h hlow HS.out (most := 2999) (by decide) (by decide))
      clear hlow
      refine Calls.mono HMD.out ?_
      rintro e w3 ⟨pb, mb, rfl, hD3, hf3, hp3, hm3⟩
      obtain ⟨D, hDD⟩ : ∃ D, playM (newD (pickZ 2999 3000)) l = D := ⟨_, rfl⟩
      rw [hDD] at hD3
      obtain ⟨hpw1, hpw2⟩ : w.heap.size ≤ pb ∧ w.heap.size ≤ mb := by have := HF2.out.1.size; omega
      have hb3 := hf3.keep HF2.out.2 (fun h => h)
      have HD3 := Lib.hid (And.intro hD3 (And.intro (HF2.out.1.next hf3) hb3))
      have k0 := cell_of hb3 (i := 0) rfl
      have hpk := pick_h (w := w3) HM.out.op.1 HM.out.op.2 (n := 11) (by decide) (by decide)
      obtain ⟨p, hp⟩ : ∃ p, pickZ m.act.op 11 = p := ⟨_, rfl⟩
      rw [hp] at hpk
      have HP := Lib.hid hp
      have HPK := Lib.hid hpk
      have hwb : w.heap.size < w2.heap.size := lt_of_block HF2.out.2
      clear hD3 hf3 hb3 hDD HMD hp hpk
      go_wp2_with fail
      refine Calls.mono HPK.out ?_
      rintro e w4 ⟨rfl, rfl⟩
      by_cases h9 : 9 ≤ p
      · have d9 : decide (9 ≤ p) = true := by simpa using h9
        clear h9
        go_wp2_with fail
        go_ret
        exact ⟨rfl, HD3.out.2.1⟩
      have d9 : decide (9 ≤ p) = false := by simpa using h9
      have hlt9 : p < 9 := by omega
      have HP9 := Lib.hid hlt9
      clear h9 hlt9
      go_wp2_with fail
      refine Calls.mono (read_h HD3.out.1 n) ?_
      rintro e w4 ⟨rfl, hf4⟩
      have hD4 := HD3.out.1.grow hf4
      have hb4 := hf4.keep HD3.out.2.2 (fun h => h)
      have hF4 := HD3.out.2.1.next hf4
      have hin := (HM.out.fr hF4 (fun _ _ h => h)).actV HS2.out
      have hdo := does_h hD4 hin (fun i hi h => by rcases h with h | h <;> omega)
      unfold actV at hdo
      rw [HV.out.1, HV.out.2] at hdo
      have HDO := Lib.hid hdo
      have HF4 := Lib.hid hF4
      have k0 := cell_of hb4 (i := 0) rfl
      have k1 := cell_of hb4 (i := 1) rfl
      have k2 := cell_of hb4 (i := 2) rfl
      have k3 := cell_of hb4 (i := 3) rfl
      have k4 := cell_of hb4 (i := 4) rfl
      have k5 := cell_of hb4 (i := 5) rfl
      have k6 := cell_of hb4 (i := 6) rfl
      have hoth := fun hd => others (xb := xbG) (D := D) (m := n) hD4.inv.sorted (a := m.act) HN.out.1 HN.out.2 (by rw [HP.out]; exact HP9.out) hd
      obtain ⟨rr, hrr⟩ : ∃ rr, doesD xbG D m.act = rr := ⟨_, rfl⟩
      rw [hrr] at hoth HDO
      have HOT := Lib.hid hoth
      obtain ⟨⟨rs, re⟩, rD⟩ := rr
      clear hf4 hD4 hb4 hF4 hin hdo hrr hoth
      obtain ⟨⟨ws, we⟩, hww⟩ : ∃ x, readD D n = x := ⟨_, rfl⟩
      rw [hww] at HOT ⊢
      go_wp2_with fail
      refine Calls.mono HDO.out ?_
      rintro e w5 ⟨rfl, hD5, hf5⟩
      have HD5 := Lib.hid (And.intro hD5 (HF4.out.trans hf5 fun i hi => by rcases hi with h | h <;> exact .inr (by omega) : Fr (fun _ => False) w w5))
      clear hD5 hf5 HDO k0 k1 k2 k3 k4 k5 k6 hww
      cases hdd : rD.dead with
      | true =>
        have hdh := dead_h HD5.out.1
        rw [hdd] at hdh
        have HDH := Lib.hid hdh
        clear hdh hdd
        go_wp2_with fail
        refine Calls.mono HDH.out ?_
        rintro e w6 ⟨rfl, rfl⟩
        go_wp2_with fail
        go_ret
        exact ⟨rfl, HD5.out.2⟩
      | false =>
        have hre := HOT.out hdd
        have hdh := dead_h HD5.out.1
        rw [hdd] at hdh
        have HDH := Lib.hid hdh
        have hrd := read_h HD5.out.1 n
        rw [hre] at hrd
        have HRD := Lib.hid hrd
        have t3 := bs_toList ws
        have d3 : (ws == ws) = true := by simp
        have d4 : (we == we) = true := by simp
        clear hdh hdd hre hrd
        go_wp2_with fail
        refine Calls.mono HDH.out ?_
        rintro e w6 ⟨rfl, rfl⟩
        go_wp2_with fail
        refine Calls.mono HRD.out ?_
        rintro e w6 ⟨rfl, hf6⟩
        have HF6 := Lib.hid (HD5.out.2.next hf6)
        clear hf6
        go_wp2_with fail
        go_ret
        exact ⟨rfl, HF6.out⟩
end
end Go.Proofs.YtfcnjbkoneinpaaDoor
