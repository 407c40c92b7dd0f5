/- The walk of the law TreeSqueezes (at its own seat, chapter 12's other one). -/
import Derived.Test.YtpinjgdnhbogoaaDoorNH
namespace Go.Proofs.YtpinjgdnhbogoaaDoor
open Go.RowKit Go.Lib

theorem bs_of (s : ByteArray) : ∃ l, s = bs l := ⟨s.data.toList, rfl⟩
theorem byte_of {t : Str} {k : Nat} {c : UInt8} (h : t.getD k 0 = c) (hk : k < t.length) : k < (bs t).size ∧ t.getD k 0 = c := ⟨hk, h⟩
theorem blank_cases {c : UInt8} (h : blankC c = true) : (c.toNat : Int) = 32 ∨ (c.toNat : Int) = 9 ∨ (c.toNat : Int) = 10 ∨ (c.toNat : Int) = 13 := by
  unfold blankC at h
  simp only [Bool.or_eq_true, beq_iff_eq] at h
  rcases h with ((h | h) | h) | h <;> subst h <;> decide
theorem blank_nots {c : UInt8} (h : blankC c = false) : ¬ (c.toNat : Int) = 32 ∧ ¬ (c.toNat : Int) = 9 ∧ ¬ (c.toNat : Int) = 10 ∧ ¬ (c.toNat : Int) = 13 := by
  unfold blankC at h
  simp only [Bool.or_eq_false_iff, beq_eq_false_iff_ne, ne_eq] at h
  have e : ∀ d : UInt8, ¬ c = d → ¬ (c.toNat : Int) = (d.toNat : Int) := fun d hd h2 => hd (UInt8.toNat_inj.1 (by omega))
  exact ⟨e 32 h.1.1.1, e 9 h.1.1.2, e 10 h.1.2, e 13 h.2⟩
/-- where the walk through the squeezed text stands -/
theorem SqAt.gap_at {s : Str} {i : Nat} {b : Str} (h : SqAt s i b true) (hi : i < s.length) (hc : blankC (s.getD i 0) = false) : b.length + 1 < (squeezeL s).length ∧ (squeezeL s).getD b.length 0 = 32 ∧ (squeezeL s).getD (b.length + 1) 0 = s.getD i 0 := by
  have h1 := (h.gap hi hc).eq
  rw [h1]
  refine ⟨by simp, by simp, by simp⟩
theorem SqAt.plain_at {s : Str} {i : Nat} {b : Str} (h : SqAt s i b false) (hi : i < s.length) (hc : blankC (s.getD i 0) = false) : b.length < (squeezeL s).length ∧ (squeezeL s).getD b.length 0 = s.getD i 0 := by
  have h1 := (h.plain hi hc).eq
  rw [h1]
  refine ⟨by simp, by simp⟩
theorem sq_ends (s : Str) (h : squeezeL s ≠ []) : ∃ c d : UInt8, (squeezeL s).getD 0 0 = c ∧ (squeezeL s).getD ((squeezeL s).length - 1) 0 = d ∧ ¬ (c.toNat : Int) = 32 ∧ ¬ (d.toNat : Int) = 32 := by
  refine ⟨_, _, rfl, rfl, ?_, ?_⟩
  · cases ht : squeezeL s with
    | nil => exact absurd ht h
    | cons c t => exact (blank_nots (sq_head s c t ht)).1
  · have hl : (squeezeL s).getLast? = some ((squeezeL s).getD ((squeezeL s).length - 1) 0) := by
      rw [List.getLast?_eq_getElem?]
      have : (squeezeL s).length - 1 < (squeezeL s).length := by have := List.length_pos_iff.2 h; omega
      simp [this]
    exact (blank_nots (sq_last s false false _ hl)).1
theorem sqz_len {s : Str} : (squeezeL s).length ≤ s.length := by
  have : ∀ (s : Str) (i : Nat), i ≤ s.length → ∃ b gap, SqAt s i b gap := by
    intro s i
    induction i with
    | zero => intro _; exact ⟨[], false, SqAt.start s⟩
    | succ i ih =>
      intro hi
      obtain ⟨b, gap, h⟩ := ih (by omega)
      cases hb : blankC (s.getD i 0) with
      | true => exact ⟨_, _, h.blank (by omega) hb⟩
      | false =>
        cases gap with
        | true => exact ⟨_, _, h.gap (by omega) hb⟩
        | false => exact ⟨_, _, h.plain (by omega) hb⟩
  obtain ⟨b, gap, h⟩ := this s s.length (Nat.le_refl _)
  rw [h.done]
  have := h.len
  omega
set_option maxRecDepth 100000 in
set_option maxHeartbeats 8000000 in
theorem squeezes_h {w : World} (hE : Env w) (s : Str) : Calls Tryd.prog 3 #[.string (bs s)] w fun e w' => e = .returned (.bool true) ∧ Fr (fun _ => False) w w' := by
  have hsz : (bs s).size = s.length := rfl
  have HS := Lib.hid (tshown_h hE)
  clear hE
  go_enter Tryd.func3, Tryd.ntmps3
  go_wp2_with fail
  refine Calls.mono HS.out ?_
  rintro e w1 ⟨rfl, hf1⟩
  have HF1 := Lib.hid hf1
  clear hf1 HS
  by_cases hl : 2000 < s.length
  · have hli : (2000 : Int) < (s.length : Int) := by omega
    clear hl
    go_wp2_with fail
    go_ret
    exact ⟨rfl, HF1.out⟩
  have hli : ¬ (2000 : Int) < (s.length : Int) := by omega
  have HL := Lib.hid (show s.length ≤ 2000 by omega)
  have HQ1 := Lib.hid (squeeze_h (w := w1) s (by omega))
  have HT := Lib.hid (squeeze_twice s)
  have hends := sq_ends s
  have hsl := sqz_len (s := s)
  have HG := Lib.hid (fun (i : Nat) (b : Str) (h : SqAt s i b true) => h.gap_at)
  have HP := Lib.hid (fun (i : Nat) (b : Str) (h : SqAt s i b false) => h.plain_at)
  have HDN := Lib.hid (fun (b : Str) (gap : Bool) (h : SqAt s s.length b gap) => h.done)
  obtain ⟨t, ht⟩ : ∃ t, squeezeL s = t := ⟨_, rfl⟩
  rw [ht] at HQ1 HT hends hsl HG HP HDN
  have HQ2 := Lib.hid (fun W : World => squeeze_h (w := W) t (by omega))
  rw [HT.out] at HQ2
  have htsz : (bs t).size = t.length := rfl
  clear ht hl
  go_wp2_with fail
  refine Calls.mono HQ1.out ?_
  rintro e w2 ⟨rfl, hf2⟩
  have HF2 := Lib.hid (HF1.out.next hf2)
  clear hf2 HQ1
  go_upto_region 5 with fail
  go_cut [39] (fun s39 wx => s39 = .bool false ∧ Hid (Fr (fun _ => False) w wx))
  case first =>
    by_cases ht0 : t = []
    · subst ht0
      have q0 : (!(bs []).toList.isEmpty) = false := by rw [bs_toList]; rfl
      have q1 : (bs []).toList.isEmpty = true := by rw [bs_toList]; rfl
      go_wp2_with fail
      refine Calls.mono (HQ2.out _) ?_
      rintro e w3 ⟨rfl, hf3⟩
      have HF3 := Lib.hid (HF2.out.next hf3)
      clear hf3
      go_wp2_with fail
      go_meet
      exact ⟨rfl, HF3⟩
    · obtain ⟨c, d, hc, hd, hc2, hd2⟩ := hends ht0
      have hlp := List.length_pos_iff.2 ht0
      have q0 : ((bs t).toList == []) = false := by rw [bs_toList]; simpa using ht0
      have q1 : ¬ (bs t).toList = [] := by rw [bs_toList]; exact ht0
      have q2 : ¬ bs t = ⟨#[]⟩ := fun e => ht0 (bs_inj e)
      have q3 : decide (bs t = ⟨#[]⟩) = false := decide_eq_false q2
      have q4 : (bs t).toList.isEmpty = false := by rw [bs_toList]; simpa using ht0
      have q5 : ((c.toNat : Int) == 32) = false := by simpa using hc2
      have q6 : ((d.toNat : Int) == 32) = false := by simpa using hd2
      obtain ⟨m, hm⟩ : ∃ m, t.length = m + 1 := ⟨t.length - 1, by omega⟩
      rw [hm, Nat.add_sub_cancel] at hd
      have z0 : 0 < (bs t).size := hlp
      have z1 : m < (bs t).size := by rw [htsz]; omega
      have g0 := bs_at t 0 z0
      have g1 := bs_at t m z1
      rw [hc] at g0
      rw [hd] at g1
      have i1 : IntKind.i64.wrap ((t.length : Int) - 1) = (m : Int) := by rw [IntWalk.i64_in _ (by omega)]; omega
      have i2 : IntKind.i64.wrap (((m + 1 : Nat) : Int) - 1) = (m : Int) := by rw [IntWalk.i64_in _ (by omega)]; omega
      clear hc hd ht0
      go_wp2_with fail
      refine Calls.mono (HQ2.out _) ?_
      rintro e w3 ⟨rfl, hf3⟩
      have HF3 := Lib.hid (HF2.out.next hf3)
      clear hf3
      go_wp2_with fail
      go_meet
      exact ⟨rfl, HF3⟩
  case rest =>
  obtain ⟨rfl, HF3⟩ := hcut
  obtain ⟨w3, hwn⟩ : ∃ x, x = wc := ⟨_, rfl⟩
  rw [← hwn] at HF3 ⊢
  clear hwn hends
  go_wp2_with fail
  go_loopg [5, 6] s.length (fun j v5 v6 wr => ∃ (i k : Nat) (b : Str) (gap : Bool), i + j = s.length ∧ v6 = .int .i64 (i : Int) ∧ v5 = .int .i64 (k : Int) ∧ b.length = k ∧ Hid (SqAt s i b gap) ∧ wr = w3)
  case atStart => exact ⟨0, 0, [], false, by omega, rfl, rfl, rfl, Lib.hid (SqAt.start s), rfl⟩
  case round =>
    obtain ⟨i, k, b, gap, hi, rfl, rfl, hk, HI, hwr⟩ := hrel
    subst hwr
    have HII := Lib.hid hi
    by_cases hlt : i < s.length
    · have hlti : (i : Int) < (s.length : Int) := by omega
      have hz : i < (bs s).size := hlt
      have hg := bs_at s i hz
      obtain ⟨c, hc⟩ : ∃ c, s.getD i 0 = c := ⟨_, rfl⟩
      rw [hc] at hg
      cases hb : blankC c with
      | true =>
        have HN := Lib.hid (HI.out.blank hlt (by rw [hc]; exact hb))
        have hcc := blank_cases hb
        have HK := Lib.hid hk
        clear hb hc hi hk
        rcases hcc with hcc | hcc | hcc | hcc
        all_goals
          go_wp2_with fail
          go_roundg (s.length - (i + 1))
          case measure => have := HII.out; omega
          case rel => exact ⟨i + 1, k, b, _, by have := HII.out; omega, by go_num, rfl, HK.out, HN, rfl⟩
      | false =>
        obtain ⟨n1, n2, n3, n4⟩ := blank_nots hb
        have m1 : ((c.toNat : Int) == 32) = false := by simpa using n1
        have m2 : ((c.toNat : Int) == 9) = false := by simpa using n2
        have m3 : ((c.toNat : Int) == 10) = false := by simpa using n3
        have m4 : ((c.toNat : Int) == 13) = false := by simpa using n4
        cases gap with
        | true =>
          have HN := Lib.hid (HI.out.gap hlt (by rw [hc]; exact hb))
          obtain ⟨k1, k2, k3⟩ := HG.out i b HI.out hlt (by rw [hc]; exact hb)
          rw [hc, hk] at k3
          rw [hc] at HN
          rw [hk] at k1 k2
          have z0 : k < (bs t).size := by rw [htsz]; omega
          have z1 : k + 1 < (bs t).size := by rw [htsz]; omega
          have g0 := bs_at t k z0
          have g1 := bs_at t (k + 1) z1
          rw [k2] at g0
          have e32 : (((32 : UInt8).toNat : Nat) : Int) = 32 := rfl
          have b32 : ((((32 : UInt8).toNat : Nat) : Int) == 32) = true := rfl
          rw [k3] at g1
          have l0 : (k : Int) < (t.length : Int) := by omega
          have l1 : (k : Int) + 1 < (t.length : Int) := by omega
          have l2 : ¬ (t.length : Int) ≤ (k : Int) + 1 := by omega
          have HK : Hid ((b ++ [32] ++ [c]).length = k + 2) := by show _ = _; simp; omega
          clear hb hc hi hk k2 k3
          go_wp2_with fail
          go_roundg (s.length - (i + 1))
          case measure => have := HII.out; omega
          case rel => exact ⟨i + 1, k + 2, _, _, by have := HII.out; omega, by go_num, by have e : ((k + 2 : Nat) : Int) = (k : Int) + 1 + 1 := (by omega); rw [e], HK.out, HN, rfl⟩
        | false =>
          have HN := Lib.hid (HI.out.plain hlt (by rw [hc]; exact hb))
          obtain ⟨k1, k3⟩ := HP.out i b HI.out hlt (by rw [hc]; exact hb)
          rw [hc, hk] at k3
          rw [hc] at HN
          rw [hk] at k1
          have z0 : k < (bs t).size := by rw [htsz]; omega
          have g0 := bs_at t k z0
          rw [k3] at g0
          have l0 : (k : Int) < (t.length : Int) := by omega
          have l2 : ¬ (t.length : Int) ≤ (k : Int) := by omega
          have HK : Hid ((b ++ [c]).length = k + 1) := by show _ = _; simp; omega
          clear hb hc hi hk k3
          go_wp2_with fail
          go_roundg (s.length - (i + 1))
          case measure => have := HII.out; omega
          case rel => exact ⟨i + 1, k + 1, _, _, by have := HII.out; omega, by go_num, by go_num, HK.out, HN, rfl⟩
    · obtain rfl : i = s.length := by omega
      have hlti : ¬ (s.length : Int) < (s.length : Int) := by omega
      have hkt : k = t.length := by rw [← hk, HDN.out b gap HI.out]
      subst hkt
      have HF3' := Lib.hid HF3.out
      clear hi hk
      go_wp2_with fail
      go_ret
      exact ⟨rfl, HF3'.out⟩
end Go.Proofs.YtpinjgdnhbogoaaDoor
