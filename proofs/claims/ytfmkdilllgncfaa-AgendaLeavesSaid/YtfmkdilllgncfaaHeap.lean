/- Plain law of a binary heap over pairs of numbers (lexicographic order): what one step of going up and of going down keeps, and what holds at their ends. -/
namespace Go.Proofs.Ytfmkdilllgncfaa

def ltK (x y : Int × Int) : Prop := x.1 < y.1 ∨ (x.1 = y.1 ∧ x.2 < y.2)
instance (x y : Int × Int) : Decidable (ltK x y) := inferInstanceAs (Decidable (_ ∨ _))

theorem ltK_irrefl (x : Int × Int) : ¬ ltK x x := by unfold ltK; omega
theorem ltK_asymm {x y : Int × Int} (h : ltK x y) : ¬ ltK y x := by unfold ltK at *; omega
theorem ltK_trans {x y z : Int × Int} (h : ltK x y) (h' : ltK y z) : ltK x z := by unfold ltK at *; omega
theorem leK_trans {x y z : Int × Int} (h : ¬ ltK y x) (h' : ¬ ltK z y) : ¬ ltK z x := by unfold ltK at *; omega
theorem leK_lt {x y z : Int × Int} (h : ¬ ltK y x) (h' : ltK y z) : ltK x z := by unfold ltK at *; omega
theorem leK_antisymm {x y : Int × Int} (h : ¬ ltK y x) (h' : ¬ ltK x y) : x = y := by
  unfold ltK at *; exact Prod.ext (by omega) (by omega)

def swapF (g : Nat → Int × Int) (i j : Nat) : Nat → Int × Int := fun k => if k = i then g j else if k = j then g i else g k
theorem swapF_l (g : Nat → Int × Int) (i j : Nat) : swapF g i j i = g j := by simp [swapF]
theorem swapF_r (g : Nat → Int × Int) (i j : Nat) : swapF g i j j = g i := by
  by_cases h : j = i
  · subst h; simp [swapF]
  · simp [swapF, h]
theorem swapF_o (g : Nat → Int × Int) {i j k : Nat} (h : k ≠ i) (h' : k ≠ j) : swapF g i j k = g k := by simp [swapF, h, h']

def par (k : Nat) : Nat := (k - 1) / 2
/-- each of the first n is not before its parent -/
def HeapTo (g : Nat → Int × Int) (n : Nat) : Prop := ∀ k, 0 < k → k < n → ¬ ltK (g k) (g (par k))
def UpInv (g : Nat → Int × Int) (n j : Nat) : Prop :=
  (∀ k, 0 < k → k < n → k ≠ j → ¬ ltK (g k) (g (par k))) ∧ (∀ k, 0 < k → k < n → par k = j → 0 < j → ¬ ltK (g k) (g (par j)))
def FixInv (g : Nat → Int × Int) (n i : Nat) : Prop :=
  (∀ k, 0 < k → k < n → k ≠ i → par k ≠ i → ¬ ltK (g k) (g (par k))) ∧ (∀ k, 0 < k → k < n → par k = i → 0 < i → ¬ ltK (g k) (g (par i)))

theorem par_lt {k : Nat} (h : 0 < k) : par k < k := by unfold par; omega

theorem up_end {g : Nat → Int × Int} {n j : Nat} (h : UpInv g n j) (he : j = 0 ∨ ¬ ltK (g j) (g (par j))) : HeapTo g n := by
  intro k hk hn
  by_cases hkj : k = j
  · subst hkj
    rcases he with he | he
    · omega
    · exact he
  · exact h.1 k hk hn hkj

theorem up_step {g : Nat → Int × Int} {n j : Nat} (h : UpInv g n j) (hj : 0 < j) (hn : j < n) (hl : ltK (g j) (g (par j))) : UpInv (swapF g (par j) j) n (par j) := by
  have hpj := par_lt hj
  refine ⟨fun k hk hkn hne => ?_, fun k hk hkn hp h0 => ?_⟩
  · have hpk := par_lt hk
    by_cases hkj : k = j
    · subst hkj
      rw [swapF_r, swapF_l]
      exact ltK_asymm hl
    · rw [swapF_o g hne hkj]
      by_cases h1 : par k = par j
      · rw [h1, swapF_l]
        have := h.1 k hk hkn hkj
        rw [h1] at this
        intro h2
        exact this (ltK_trans h2 hl)
      · by_cases h2 : par k = j
        · rw [h2, swapF_r]
          exact h.2 k hk hkn h2 hj
        · rw [swapF_o g h1 h2]
          exact h.1 k hk hkn hkj
  · have hpp : par (par j) < par j := par_lt h0
    rw [swapF_o g (by omega : par (par j) ≠ par j) (by omega : par (par j) ≠ j)]
    have hup : ¬ ltK (g (par j)) (g (par (par j))) := h.1 (par j) h0 (by omega) (by omega)
    by_cases hkj : k = j
    · subst hkj
      rw [swapF_r]
      exact hup
    · have hkp : k ≠ par j := by have := par_lt hk; omega
      rw [swapF_o g hkp hkj]
      have := h.1 k hk hkn hkj
      rw [hp] at this
      exact leK_trans hup this

theorem par_child {k i : Nat} (hk : 0 < k) (h : par k = i) : k = 2 * i + 1 ∨ k = 2 * i + 2 := by unfold par at h; omega
theorem par_l (i : Nat) : par (2 * i + 1) = i := by unfold par; omega
theorem par_r (i : Nat) : par (2 * i + 2) = i := by unfold par; omega

/-- c: the smallest child of i, before i -/
theorem down_step {g : Nat → Int × Int} {n i c : Nat} (h : FixInv g n i) (hc : par c = i) (h0 : 0 < c) (hcn : c < n) (hl : ltK (g c) (g i))
    (hs : ∀ k, 0 < k → k < n → par k = i → ¬ ltK (g k) (g c)) : FixInv (swapF g i c) n c ∧ ¬ ltK (swapF g i c c) (swapF g i c (par c)) := by
  have hic : i < c := by have := par_lt h0; omega
  refine ⟨⟨fun k hk hkn hne hp => ?_, fun k hk hkn hp _ => ?_⟩, ?_⟩
  · have hpk := par_lt hk
    by_cases hki : k = i
    · subst hki
      rw [swapF_l, swapF_o g (by omega) (by omega)]
      exact h.2 c h0 hcn hc hk
    · rw [swapF_o g hki hne]
      by_cases h1 : par k = i
      · rw [h1, swapF_l]
        exact hs k hk hkn h1
      · rw [swapF_o g h1 hp]
        exact h.1 k hk hkn hki h1
  · have hpk := par_lt hk
    rw [hc, swapF_l, swapF_o g (by omega) (by omega)]
    have := h.1 k hk hkn (by omega) (by omega)
    rwa [hp] at this
  · rw [hc, swapF_l, swapF_r]
    exact ltK_asymm hl

theorem down_end_up {g : Nat → Int × Int} {n i : Nat} (h : FixInv g n i) (hs : ∀ k, 0 < k → k < n → par k = i → ¬ ltK (g k) (g i)) : UpInv g n i := by
  refine ⟨fun k hk hkn hne => ?_, h.2⟩
  by_cases h1 : par k = i
  · rw [h1]; exact hs k hk hkn h1
  · exact h.1 k hk hkn hne h1

theorem down_end {g : Nat → Int × Int} {n i : Nat} (h : FixInv g n i) (hs : ∀ k, 0 < k → k < n → par k = i → ¬ ltK (g k) (g i)) (hi : ¬ ltK (g i) (g (par i))) : HeapTo g n :=
  up_end (down_end_up h hs) (.inr hi)

theorem HeapTo.mono {g : Nat → Int × Int} {n m : Nat} (h : HeapTo g n) (hm : m ≤ n) : HeapTo g m := fun k hk hkn => h k hk (by omega)
theorem HeapTo.congr {g g' : Nat → Int × Int} {n : Nat} (h : HeapTo g n) (he : ∀ k, k < n → g' k = g k) : HeapTo g' n := fun k hk hkn => by
  rw [he k hkn, he (par k) (by have := par_lt hk; omega)]; exact h k hk hkn

/-- a heap, in which one has got another value -/
theorem HeapTo.fix {g g' : Nat → Int × Int} {n i : Nat} (h : HeapTo g n) (he : ∀ k, k < n → k ≠ i → g' k = g k) : FixInv g' n i := by
  refine ⟨fun k hk hkn hne hp => ?_, fun k hk hkn hp h0 => ?_⟩
  · rw [he k hkn hne, he (par k) (by have := par_lt hk; omega) hp]; exact h k hk hkn
  · have h1 := par_lt hk
    have h2 := par_lt h0
    rw [he k hkn (by omega), he (par i) (by omega) (by omega)]
    have a := h k hk hkn
    rw [hp] at a
    exact leK_trans (h i h0 (by omega)) a

theorem HeapTo.push {g : Nat → Int × Int} {n : Nat} (h : HeapTo g n) : UpInv g (n + 1) n := by
  refine ⟨fun k hk hkn hne => h k hk (by omega), fun k hk hkn hp _ => ?_⟩
  have := par_lt hk
  omega

theorem HeapTo.least {g : Nat → Int × Int} {n : Nat} (h : HeapTo g n) : ∀ k, k < n → ¬ ltK (g k) (g 0)
  | k => by
    intro hk
    rcases Nat.eq_zero_or_pos k with rfl | h0
    · exact ltK_irrefl _
    · have := par_lt h0
      exact leK_trans (HeapTo.least h (par k) (by omega)) (h k h0 hk)
end Go.Proofs.Ytfmkdilllgncfaa
