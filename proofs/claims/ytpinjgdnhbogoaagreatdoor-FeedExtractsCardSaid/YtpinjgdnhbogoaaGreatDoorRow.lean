/- A slice that is read: its elements' cells, wherever they lie; appending such a slice to a row of one's own. -/
import Derived.Test.YtpinjgdnhbogoaaGreatDoorMem
import Derived.Laws.AppendOwnNone
namespace Go.Proofs.YtpinjgdnhbogoaaGreatDoor
open Go.RowKit Go.Lib

/-- v is a slice of n elements (size cells each) that hold xs; where there is one, they lie in a block of S. -/
structure SRow (w : World) (S : Nat → Prop) (size : Nat) (v : Value) (n : Nat) (xs : List Value) : Prop where
  len : xs.length = n * size
  form : ∃ a cap, v = .slice a n cap ∧ n ≤ cap ∧ cap ≤ maxLen ∧ (a = none → cap = 0) ∧ (0 < n → ∃ g off, a = some ⟨g, off, none⟩ ∧ S g ∧ ∀ i u, xs[i]? = some u → w.cell? ⟨g, off + i, none⟩ = some u)

section
variable {w w' : World} {S : Nat → Prop} {size n : Nat} {v : Value} {xs : List Value}
theorem SRow.nil (w : World) (S : Nat → Prop) (size : Nat) : SRow w S size (.slice none 0 0) 0 [] :=
  ⟨by simp, none, 0, rfl, Nat.le_refl _, Nat.zero_le _, fun _ => rfl, fun h => absurd h (Nat.lt_irrefl _)⟩
theorem SRow.fr {o : Nat → Prop} (h : SRow w S size v n xs) (hf : Fr o w w') (ho : ∀ k, S k → ¬ o k) : SRow w' S size v n xs := by
  obtain ⟨h1, a, cap, h2, h3, h4, h5, h6⟩ := h
  refine ⟨h1, a, cap, h2, h3, h4, h5, fun hn => ?_⟩
  obtain ⟨g, off, h7, h8, h9⟩ := h6 hn
  exact ⟨g, off, h7, h8, fun i u hu => hf.cell (h9 i u hu) (ho g h8)⟩
theorem SRow.mono {S' : Nat → Prop} (h : SRow w S size v n xs) (hs : ∀ k, S k → S' k) : SRow w S' size v n xs := by
  obtain ⟨h1, a, cap, h2, h3, h4, h5, h6⟩ := h
  refine ⟨h1, a, cap, h2, h3, h4, h5, fun hn => ?_⟩
  obtain ⟨g, off, h7, h8, h9⟩ := h6 hn
  exact ⟨g, off, h7, hs g h8, h9⟩
theorem SRow.of_owns {base e : Nat} (h : w.ownsRow base e size v n xs) : SRow w (fun k => v.ownBlock = some k) size v n xs := by
  have hc := fun g => h.cells (g := g)
  obtain ⟨h1, h2⟩ := h
  refine ⟨h1, ?_⟩
  rcases h2 with ⟨rfl, rfl⟩ | ⟨g, cap, cur, rfl, hb, hh, hnc, hcm, _⟩
  · exact ⟨_, 0, rfl, Nat.le_refl _, Nat.zero_le _, fun _ => rfl, fun h => absurd h (Nat.lt_irrefl _)⟩
  · refine ⟨_, cap, rfl, hnc, hcm, fun h => (by cases h), fun _ => ⟨g, 0, rfl, rfl, fun i u hu => ?_⟩⟩
    have := hc g rfl i u hu
    rwa [Addr.add_lit] at this
/-- the cells of one element -/
theorem SRow.cell {a : Option Addr} {cap : Nat} (h : SRow w S size (.slice a n cap) n xs) (hn : 0 < n) : ∃ g off, a = some ⟨g, off, none⟩ ∧ ∀ i u, xs[i]? = some u → w.cell? ⟨g, off + i, none⟩ = some u := by
  obtain ⟨h1, a', cap', h2, h3, h4, h5, h6⟩ := h
  injection h2 with e1 e2 e3
  subst e1
  obtain ⟨g, off, h7, h8, h9⟩ := h6 hn
  exact ⟨g, off, h7, h9⟩
/-- s[k:], s[:k], at a place within the length -/
theorem SRow.tail {a : Option Addr} {cap k : Nat} (h : SRow w S size (.slice a n cap) n xs) (hk : k ≤ n) : SRow w S size (.slice (if cap = k then a else a.map (·.add (k * size))) (n - k) (cap - k)) (n - k) (xs.drop (k * size)) := by
  obtain ⟨h1, a', cap', h2, h3, h4, h5, h6⟩ := h
  injection h2 with e1 e2 e3
  subst e1; subst e3
  refine ⟨by rw [List.length_drop, h1, Nat.sub_mul], _, _, rfl, by omega, by omega, fun hh => ?_, fun hn => ?_⟩
  · split at hh
    · have := h5 hh; omega
    · cases a with
      | none => have := h5 rfl; omega
      | some _ => cases hh
  · obtain ⟨g, off, h7, h8, h9⟩ := h6 (by omega)
    subst h7
    rw [if_neg (by omega)]
    refine ⟨g, off + k * size, by simp only [Option.map_some, Option.some.injEq]; exact Addr.add_lit g off (k * size), h8, fun i u hu => ?_⟩
    rw [List.getElem?_drop] at hu
    have := h9 _ u hu
    rwa [show off + k * size + i = off + (k * size + i) from by omega]
theorem SRow.head {a : Option Addr} {cap k : Nat} (h : SRow w S size (.slice a n cap) n xs) (hk : k ≤ n) : SRow w S size (.slice a k cap) k (xs.take (k * size)) := by
  obtain ⟨h1, a', cap', h2, h3, h4, h5, h6⟩ := h
  injection h2 with e1 e2 e3
  subst e1; subst e3
  refine ⟨by rw [List.length_take, h1]; exact Nat.min_eq_left (Nat.mul_le_mul_right _ hk), _, _, rfl, by omega, h4, h5, fun hn => ?_⟩
  obtain ⟨g, off, h7, h8, h9⟩ := h6 (by omega)
  refine ⟨g, off, h7, h8, fun i u hu => ?_⟩
  rw [List.getElem?_take] at hu
  split at hu
  · exact h9 i u hu
  · cases hu
end

theorem ownsRow_shape {w : World} {base e size n : Nat} {v : Value} {xs : List Value} (h : w.ownsRow base e size v n xs) : ∃ b cap, v = .slice b n cap := by
  rcases h.2 with ⟨rfl, h2⟩ | ⟨g, cap, cur, rfl, _⟩
  · exact ⟨none, 0, by rw [h2]⟩
  · exact ⟨_, _, rfl⟩

/-- append(s, x...), s a row of one's own, x a slice that is read -/
theorem wp_append_row {P : Program} {w : World} {o : Oper} {a : Act} {K : Act → World → Prop} {Q : Exit → Act → World → Prop} (s x : Operand) (t : TypeId)
    (ho : o.op = .call { callee := .builtin .append, args := #[s, x], argTypes := #[t, t] })
    (base : Nat) (e : TypeId) (i : TypeInfo) (z : Value) (size bytes : Nat) (ht : P.underlying t = some (.slice e)) (hi : P.info? e = some i) (hz : i.zero = some z)
    (hsize : i.size = size) (hby : i.bytes = bytes) (hzs : z.cells.size = size) (hsz : 0 < size)
    (v : Value) (n : Nat) (xs : List Value) (hs : a.eval s = v) (hown : w.ownsRow base e size v n xs)
    (S : Nat → Prop) (u : Value) (m : Nat) (news : List Value) (hx : a.eval x = u) (hrow : SRow w S size u m news) (h1 : ∀ u ∈ news, u.oneCell' = true)
    (h63 : n + m ≤ maxLen) (hbytes : (n + m) * bytes ≤ 140737488355328) (hbase : base ≤ w.heap.size)
    (h : ∀ b cap w', w'.ownsRow base e size (.slice b (n + m) cap) (n + m) (xs ++ news) → w.grownBy w' v.ownBlock → Fr (fun k => base ≤ k) w w' → K (a.put o.dst (.slice b (n + m) cap)) w') :
    o.wp P a w K Q := by
  obtain ⟨hl, ad, c, rfl, hmc, _, hnone, hcells⟩ := hrow
  have hshape : ∀ v' : Value, ∀ w' : World, w'.ownsRow base e size v' (n + m) (xs ++ news) → ∃ b cap, v' = .slice b (n + m) cap ∧ v'.ownBlock = b.map Addr.block := by
    intro v' w' hv
    rcases hv.2 with ⟨rfl, h2⟩ | ⟨g, cap, cur, rfl, _⟩
    · exact ⟨none, 0, by rw [h2], rfl⟩
    · exact ⟨_, _, rfl, rfl⟩
  cases ad with
  | some ad =>
    have hnews : ∀ j u, news[j]? = some u → w.cell? (ad.add j) = some u := by
      intro j u hu
      rcases Nat.eq_zero_or_pos m with rfl | hm
      · rw [Nat.zero_mul] at hl
        rw [List.eq_nil_of_length_eq_zero hl] at hu
        simp at hu
      · obtain ⟨g, off, e1, _, e3⟩ := hcells hm
        obtain rfl := Option.some.inj e1
        rw [Addr.add_lit]
        exact e3 j u hu
    obtain ⟨v', w', hr, h2, h3, h4, h5⟩ := run_append_own_at (P := P) w base t o.type e i z size bytes ht hi hz hsize hby hzs hsz v n xs hown ad m c news hl hnews h1 h63 hbytes hbase
    obtain ⟨b, cap, rfl, hb⟩ := hshape v' w' h2
    unfold Oper.wp execOp
    simp only [ho, resolve, invoke, builtin, Sem.run_bind, Sem.run_pure, Result.andThen_ok, List.map_toArray, List.map_cons, List.map_nil, hs, hx, hr]
    exact h b cap w' h2 h3 ((Fr.refl _ _).grown h3 fun k hk => .inl (hown.lt k hk).1)
  | none =>
    have hc0 := hnone rfl
    obtain rfl : m = 0 := by omega
    subst hc0
    rw [Nat.zero_mul] at hl
    obtain rfl := List.eq_nil_of_length_eq_zero hl
    have hrun := run_append_owned_none (P := P) w base t o.type e i size ht hi v n xs hown
    obtain ⟨b, cap, hv, hb⟩ := hshape v w (by simpa using hown)
    have := h b cap w (by rw [← hv]; simpa using hown) (World.grownBy.refl _ _) (Fr.refl _ _)
    rw [← hv] at this
    unfold Oper.wp
    simp [execOp, ho, resolve, invoke, builtin, hs, hx, hrun, Result.andThen]
    exact this
theorem wpList_append_row {P : Program} {w : World} {ops : Array Oper} {rest : List Oper} {o : Oper} {a : Act} {Q : Exit → Act → World → Prop} (hgd : o.guard = none) (s x : Operand) (t : TypeId)
    (ho : o.op = .call { callee := .builtin .append, args := #[s, x], argTypes := #[t, t] })
    (base : Nat) (e : TypeId) (i : TypeInfo) (z : Value) (size bytes : Nat) (ht : P.underlying t = some (.slice e)) (hi : P.info? e = some i) (hz : i.zero = some z)
    (hsize : i.size = size) (hby : i.bytes = bytes) (hzs : z.cells.size = size) (hsz : 0 < size)
    (v : Value) (n : Nat) (xs : List Value) (hs : a.eval s = v) (hown : w.ownsRow base e size v n xs)
    (S : Nat → Prop) (u : Value) (m : Nat) (news : List Value) (hx : a.eval x = u) (hrow : SRow w S size u m news) (h1 : ∀ u ∈ news, u.oneCell' = true)
    (h63 : n + m ≤ maxLen) (hbytes : (n + m) * bytes ≤ 140737488355328) (hbase : base ≤ w.heap.size)
    (h : ∀ b cap w', w'.ownsRow base e size (.slice b (n + m) cap) (n + m) (xs ++ news) → w.grownBy w' v.ownBlock → Fr (fun k => base ≤ k) w w' → wpList P ops Q rest (a.put o.dst (.slice b (n + m) cap)) w') :
    wpList P ops Q (o :: rest) a w :=
  wpList_plain hgd fun _ hK => wp_append_row s x t ho base e i z size bytes ht hi hz hsize hby hzs hsz v n xs hs hown S u m news hx hrow h1 h63 hbytes hbase fun b cap w' h2 h3 h4 => hK _ _ (h b cap w' h2 h3 h4)
/-- the same as a step of a region that draws -/
theorem step_append_row {P : Program} {w : World} {ops : Array Oper} {o : Oper} {a : Act} {K : Act → World → Prop} {Q : Exit → Act → World → Prop} {E : Prop} (hgd : o.guard = none) (s x : Operand) (t : TypeId)
    (ho : o.op = .call { callee := .builtin .append, args := #[s, x], argTypes := #[t, t] })
    (base : Nat) (e : TypeId) (i : TypeInfo) (z : Value) (size bytes : Nat) (ht : P.underlying t = some (.slice e)) (hi : P.info? e = some i) (hz : i.zero = some z)
    (hsize : i.size = size) (hby : i.bytes = bytes) (hzs : z.cells.size = size) (hsz : 0 < size)
    (v : Value) (n : Nat) (xs : List Value) (hs : a.eval s = v) (hown : w.ownsRow base e size v n xs)
    (S : Nat → Prop) (u : Value) (m : Nat) (news : List Value) (hx : a.eval x = u) (hrow : SRow w S size u m news) (h1 : ∀ u ∈ news, u.oneCell' = true)
    (h63 : n + m ≤ maxLen) (hbytes : (n + m) * bytes ≤ 140737488355328) (hbase : base ≤ w.heap.size)
    (h : ∀ b cap w', w'.ownsRow base e size (.slice b (n + m) cap) (n + m) (xs ++ news) → w.grownBy w' v.ownBlock → Fr (fun k => base ≤ k) w w' → K (a.put o.dst (.slice b (n + m) cap)) w') :
    if Region.wanted o (yielded ops a.tmps) = true then Oper.wp P o a w K Q else E := by
  rw [if_pos (by simp [Region.wanted, hgd])]
  exact wp_append_row s x t ho base e i z size bytes ht hi hz hsize hby hzs hsz v n xs hs hown S u m news hx hrow h1 h63 hbytes hbase h

theorem ownsRow_base {w : World} {base b2 e size n : Nat} {v : Value} {xs : List Value} (h : w.ownsRow base e size v n xs) (hb : b2 ≤ base) : w.ownsRow b2 e size v n xs := by
  refine ⟨h.1, ?_⟩
  rcases h.2 with h2 | ⟨g, cap, cur, hv, hg, r⟩
  · exact .inl h2
  · exact .inr ⟨g, cap, cur, hv, Nat.le_trans hb hg, r⟩
theorem block_new_drew {w : World} {x : Obj} {n : Nat} (h : n = w.heap.size) : (w.alloc x).drew.heap[n]? = some x := block_new_at h
theorem block_old_drew {w : World} {k : Nat} {y : Obj} (h : w.heap[k]? = some y) (x : Obj) : (w.alloc x).drew.heap[k]? = some y := block_old h x
/-- an empty row that has just been made -/
theorem ownsRow_empty {w : World} {base g e size : Nat} (h : w.heap[g]? = some (.cells #[] e (0, 0))) (hb : base ≤ g) : w.ownsRow base e size (.slice (some ⟨g, 0, none⟩) 0 0) 0 [] :=
  ⟨by simp, .inr ⟨g, 0, #[], rfl, hb, h, Nat.le_refl _, Nat.zero_le _, by simp, by simp⟩⟩
/-- a block that is known whole, read as a slice -/
theorem SRow.of_block {w : World} {S : Nat → Prop} {g e size n : Nat} {f : Nat × Nat} {xs : List Value} (h : w.heap[g]? = some (.cells xs.toArray e f)) (hl : xs.length = n * size) (hn : n ≤ maxLen) (hS : S g) : SRow w S size (.slice (some ⟨g, 0, none⟩) n n) n xs :=
  ⟨hl, some ⟨g, 0, none⟩, n, rfl, Nat.le_refl _, hn, fun h => (by cases h), fun _ => ⟨g, 0, rfl, hS, fun i u hu => by rw [Nat.zero_add]; exact cell_of h (by simpa using hu)⟩⟩
end Go.Proofs.YtpinjgdnhbogoaaGreatDoor
