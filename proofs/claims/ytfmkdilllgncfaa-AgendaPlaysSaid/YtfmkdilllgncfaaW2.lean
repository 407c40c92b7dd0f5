/- The walks of container/heap's up and down. -/
import Derived.Test.YtfmkdilllgncfaaW1
namespace Go.Proofs.Ytfmkdilllgncfaa
open Go.RowKit Go.Lib

section
variable {w : World} {ba : Nat} {hv mv : Value} {ts : List T3}

theorem HRep.drewN (h : HRep w ba hv mv ts) (n : Nat) : HRep (w.drewN n) ba hv mv ts := h.keep fun _ _ => rfl

theorem foot_perm {l l' : List T3} (h : l'.Perm l) (k : Nat) : foot ba hv l' k ↔ foot ba hv l k := by
  unfold foot
  simp only [h.mem_iff]

theorem keyF_of {l : List T3} {k : Nat} {x : T3} (h : l[k]? = some x) : keyF l k = x.key := by simp [keyF, List.getD, h]
theorem ltB_iff {l : List T3} {i j : Nat} {x y : T3} (hx : l[i]? = some x) (hy : l[j]? = some y) : ltB x y = true ↔ ltK (keyF l i) (keyF l j) := by
  rw [keyF_of hx, keyF_of hy]; simp [ltB]

def UpPost (w : World) (ba : Nat) (hv mv : Value) (ts : List T3) (n : Nat) (w' : World) : Prop :=
  ∃ ts', HRep w' ba hv mv ts' ∧ ts'.Perm ts ∧ (∀ k, n ≤ k → ts'[k]? = ts[k]?) ∧ HeapTo (keyF ts') n ∧ Fr (foot ba hv ts) w w'
def UpRel (w : World) (ba : Nat) (hv mv : Value) (ts : List T3) (n : Nat) (v : Value) (w' : World) : Prop :=
  ∃ (j : Nat) (ts' : List T3), v = .int .i64 j ∧ j < n ∧ HRep w' ba hv mv ts' ∧ ts'.Perm ts ∧ (∀ k, n ≤ k → ts'[k]? = ts[k]?) ∧ UpInv (keyF ts') n j ∧ Fr (foot ba hv ts) w w'

set_option maxHeartbeats 1000000 in
theorem up_h (h : HRep w ba hv mv ts) {j n : Nat} (hj : j < n) (hn : n ≤ ts.length) (hlen : ts.length ≤ 1000000) (hu : UpInv (keyF ts) n j) :
    Calls Try.prog 28 #[.iface 60 (.pointer (some ⟨ba, 0, none⟩)), .int .i64 j] w fun e w' => e = .returned (.tuple #[]) ∧ UpPost w ba hv mv ts n w' := by
  go_enter Try.func28, Try.ntmps28
  go_wp2_with fail
  go_loopw [1] (fun v wr => UpRel w ba hv mv ts n v wr) (fun v _ => (intOf v).toNat)
  case atStart => exact ⟨j, ts, rfl, hj, h, .refl _, fun _ _ => rfl, hu, Fr.refl _ _⟩
  case round =>
    obtain ⟨i, ts', rfl, hi, hr, hp, hk, hinv, hfr⟩ := hrel
    have HK := Lib.hid hk; clear hk
    clear h hu hj
    rcases Nat.eq_zero_or_pos i with rfl | h0
    · go_wp2_with fail
      go_end0
      exact ⟨rfl, ts', hr, hp, HK.out, up_end hinv (.inl rfl), hfr⟩
    · have hd : ((i : Int) - 1) / 2 = ((par i : Nat) : Int) := by unfold par; omega
      have hpl := par_lt h0
      have hlen' : ts'.length = ts.length := hp.length_eq
      have b1 : (((par i : Nat) : Int) == ((i : Nat) : Int)) = false := by rw [beq_eq_false_iff_ne]; omega
      have b2 : (par i == i) = false := by rw [beq_eq_false_iff_ne]; omega
      obtain ⟨x, hx⟩ : ∃ x, ts'[i]? = some x := ⟨_, List.getElem?_eq_getElem (by omega)⟩
      obtain ⟨y, hy⟩ : ∃ x, ts'[par i]? = some x := ⟨_, List.getElem?_eq_getElem (by omega)⟩
      have hm1 := meth_less ba hv wr (cell_of hr.head (by rfl))
      have hm2 := fun n => meth_swap ba hv (wr.drewN n) (cell_of (hr.drewN n).head (by rfl))
      have HX := Lib.hid hx; clear hx
      have HY := Lib.hid hy; clear hy
      have HL := Lib.hid hlen'; clear hlen'
      by_cases hl : ltB x y = true
      · go_wp2_with (first | (go_at_call 45; go_must ((with_reducible refine (less_h hr HX.out HY.out).mono ?_); rintro e w' ⟨rfl, N, rfl⟩)) | (go_at_call 46; go_must ((with_reducible refine (swap_h (hr.drewN _) hpl (by rw [HL.out]; omega)).mono ?_); rintro e w' ⟨rfl, hr2, hf2⟩)))
        have hlt := (ltB_iff HX.out HY.out).1 hl
        refine ⟨⟨par i, swapL ts' (par i) i, rfl, by omega, hr2, (swapL_perm (by rw [HL.out]; omega) (by rw [HL.out]; omega)).trans hp, ?_, ?_, ?_⟩, by simp [intOf]; omega⟩
        · intro k hkn
          rw [swapL_get (by rw [HL.out]; omega) (by rw [HL.out]; omega), if_neg (by omega), if_neg (by omega)]
          exact HK.out k hkn
        · rw [swapL_key (by rw [HL.out]; omega) (by rw [HL.out]; omega)]
          exact up_step hinv h0 hi hlt
        · exact hfr.next ((hf2.mono fun k _ hk => (foot_perm hp k).1 hk).of_start)
      · have hl' : ltB x y = false := by simpa using hl
        go_wp2_with (first | (go_at_call 45; go_must ((with_reducible refine (less_h hr HX.out HY.out).mono ?_); rintro e w' ⟨rfl, N, rfl⟩)))
        go_end0
        refine ⟨rfl, ts', hr.drewN _, hp, HK.out, up_end hinv (.inr fun hlt => hl ((ltB_iff HX.out HY.out).2 hlt)), hfr.drewN _⟩

/-! ### down -/
def Child (g : Nat → Int × Int) (n i c : Nat) : Prop := par c = i ∧ 0 < c ∧ c < n ∧ ∀ k, 0 < k → k < n → par k = i → ¬ ltK (g k) (g c)
theorem child_one {g : Nat → Int × Int} {n i : Nat} (h : 2 * i + 1 < n) (h2 : 2 * i + 2 < n → ¬ ltK (g (2 * i + 2)) (g (2 * i + 1))) : Child g n i (2 * i + 1) :=
  ⟨par_l i, by omega, h, fun k hk hkn hp => by
    rcases par_child hk hp with rfl | rfl
    · exact ltK_irrefl _
    · exact h2 hkn⟩
theorem child_two {g : Nat → Int × Int} {n i : Nat} (h : 2 * i + 2 < n) (h2 : ltK (g (2 * i + 2)) (g (2 * i + 1))) : Child g n i (2 * i + 2) :=
  ⟨par_r i, by omega, h, fun k hk hkn hp => by
    rcases par_child hk hp with rfl | rfl
    · exact ltK_asymm h2
    · exact ltK_irrefl _⟩

/-- what holds behind 'down': moved or not -/
def DownPost (w : World) (ba : Nat) (hv mv : Value) (ts : List T3) (n i : Nat) (moved : Bool) (w' : World) : Prop :=
  ∃ ts', HRep w' ba hv mv ts' ∧ ts'.Perm ts ∧ (∀ k, n ≤ k → ts'[k]? = ts[k]?) ∧ (moved = true → HeapTo (keyF ts') n) ∧ (moved = false → UpInv (keyF ts') n i) ∧ Fr (foot ba hv ts) w w'
def DownRel (w : World) (ba : Nat) (hv mv : Value) (ts : List T3) (n i0 : Nat) (v : Value) (w' : World) : Prop :=
  ∃ (i : Nat) (ts' : List T3), v = .int .i64 i ∧ i < n ∧ i0 ≤ i ∧ HRep w' ba hv mv ts' ∧ ts'.Perm ts ∧ (∀ k, n ≤ k → ts'[k]? = ts[k]?) ∧ FixInv (keyF ts') n i ∧
    (i0 < i → ¬ ltK (keyF ts' i) (keyF ts' (par i))) ∧ Fr (foot ba hv ts) w w'
end
end Go.Proofs.Ytfmkdilllgncfaa
