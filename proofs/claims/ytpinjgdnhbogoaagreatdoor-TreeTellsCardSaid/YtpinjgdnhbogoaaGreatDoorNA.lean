/- Trees that came in. -/
import Derived.Test.YtpinjgdnhbogoaaGreatDoorArg
import Derived.Test.YtpinjgdnhbogoaaGreatDoorN3
import Derived.Test.YtpinjgdnhbogoaaGreatDoorM0
namespace Go.Proofs.YtpinjgdnhbogoaaGreatDoor
open Go.ChangeShapes Go.WideShapes Go.ChangeAt Go.RowKit
open Go.Deep

mutual
def textN : NodeD → Prop
  | .mk _ _ tx ks => tx.length ≤ txM ∧ textK ks
def textK : List NodeD → Prop
  | [] => True
  | k :: ks => textN k ∧ textK ks
end
theorem words_text {tx : Str} (h : tx.length ≤ txM) : ∀ x ∈ wordsT tx, x.text.length ≤ txM := by
  intro x hx
  unfold wordsT at hx
  split at hx
  · cases hx
  · simp at hx; subst hx; exact h
mutual
theorem tok_text : ∀ (n : NodeD), textN n → ∀ x ∈ tokN n, x.text.length ≤ txM
  | .mk nm la tx ks, h, x, hx => by
    unfold textN at h
    unfold tokN at hx
    simp only [List.mem_cons, List.mem_append, List.not_mem_nil, or_false] at hx
    rcases hx with rfl | hx | hx | rfl
    · exact Nat.zero_le _
    · exact words_text h.1 x hx
    · exact tokK_text ks h.2 x hx
    · exact Nat.zero_le _
theorem tokK_text : ∀ (ks : List NodeD), textK ks → ∀ x ∈ tokK ks, x.text.length ≤ txM
  | [], _, x, hx => by unfold tokK at hx; cases hx
  | k :: ks, h, x, hx => by
    unfold textK at h
    unfold tokK at hx
    rcases List.mem_append.1 hx with hx | hx
    · exact tok_text k h.1 x hx
    · exact tokK_text ks h.2 x hx
end
mutual
theorem tok_few : ∀ (n : NodeD), fewN n → ∀ x ∈ tokN n, x.attrs.length ≤ 30
  | .mk nm la tx ks, h, x, hx => by
    unfold fewN at h
    unfold tokN at hx
    simp only [List.mem_cons, List.mem_append, List.not_mem_nil, or_false] at hx
    rcases hx with rfl | hx | hx | rfl
    · exact h.1
    · unfold wordsT at hx
      split at hx
      · cases hx
      · simp at hx; subst hx; exact Nat.zero_le _
    · exact tokK_few ks h.2 x hx
    · exact Nat.zero_le _
theorem tokK_few : ∀ (ks : List NodeD), fewK ks → ∀ x ∈ tokK ks, x.attrs.length ≤ 30
  | [], _, x, hx => by unfold tokK at hx; cases hx
  | k :: ks, h, x, hx => by
    unfold fewK at h
    unfold tokK at hx
    rcases List.mem_append.1 hx with hx | hx
    · exact tok_few k h.1 x hx
    · exact tokK_few ks h.2 x hx
end
theorem words_len (tx : Str) : (wordsT tx).length ≤ 1 := by unfold wordsT; split <;> simp
mutual
theorem tok_len : ∀ (n : NodeD), (tokN n).length ≤ 3 * manyN n
  | .mk nm la tx ks => by
    unfold tokN manyN
    have := tokK_len ks
    have := words_len tx
    simp only [List.length_cons, List.length_append, List.length_nil]; omega
theorem tokK_len : ∀ (ks : List NodeD), (tokK ks).length ≤ 3 * manyK ks
  | [] => by unfold tokK; simp
  | k :: ks => by
    unfold tokK manyK
    have := tok_len k
    have := tokK_len ks
    rw [List.length_append]; omega
end

section
variable {H : Type} {enc : TypeId × Value → H} {P : Program} {w : World} {base : Nat} {spare : Nat → Bool} {held : Bool}
/-- nothing that is read takes more than the reach -/
def Light (P : Program) (t : TypeId) (d : DataW H) : Prop := (d.weights P t).all (· ≤ reachBytes) = true
theorem light_each : ∀ {ts : List TypeId} {ds : List (DataW H)} {j : Nat} {t : TypeId} {d : DataW H}, (DataW.weightsEach P ts ds).all (· ≤ reachBytes) = true → ts[j]? = some t → ds[j]? = some d → Light P t d
  | [], _, _, _, _, _, h, _ => by simp at h
  | _ :: _, [], _, _, _, _, _, h => by simp at h
  | t0 :: ts, d0 :: ds, 0, t, d, hl, h1, h2 => by
    simp at h1 h2; subst h1 h2
    unfold DataW.weightsEach at hl
    rw [List.all_append, Bool.and_eq_true] at hl
    exact hl.1
  | t0 :: ts, d0 :: ds, j + 1, t, d, hl, h1, h2 => by
    unfold DataW.weightsEach at hl
    rw [List.all_append, Bool.and_eq_true] at hl
    exact light_each hl.2 (by simpa using h1) (by simpa using h2)
theorem light_all {e : TypeId} : ∀ {ds : List (DataW H)} {d : DataW H}, (DataW.weightsAll P e ds).all (· ≤ reachBytes) = true → d ∈ ds → Light P e d
  | [], _, _, h => by cases h
  | d0 :: ds, d, hl, h => by
    unfold DataW.weightsAll at hl
    rw [List.all_append, Bool.and_eq_true] at hl
    rcases List.mem_cons.1 h with rfl | h
    · exact hl.1
    · exact light_all hl.2 h
theorem open_elemsW {t e : TypeId} {fs : Array Field} {fuel : Nat} {cs : List Value} {x : DataW H × List MemPlace} (ht : P.underlying t = some (.slice e)) (he : P.underlying e = some (.struct fs))
    (hone : oneCellFields P fs = true) (hC : P.cellsOf e = fs.size) (h : DataW.trod enc P w base spare held fuel t cs = some x) (hw : Light P t x.1) :
    (cs = [.slice none 0 0]) ∨
    ∃ (a : Addr) (len cap : Nat), cs = [.slice (some a) len cap] ∧ len ≤ cap ∧ cap ≤ maxLen ∧
      ∀ i, i < len → ∃ n, n < fuel ∧ ∀ (j : Nat) (f : Field), fs[j]? = some f → ∃ (v : Value) (y : DataW H × List MemPlace), w.cell? (a.add (i * fs.size + j)) = some v ∧ DataW.trod enc P w base spare held n f.type [v] = some y ∧ Light P f.type y.1 := by
  rcases DataW.trod_slice ht h with h0 | ⟨a, len, cap, elems, rest, n, hfu, hcs, hx, _, hl, hm, hlen, hel, _, _⟩
  · exact .inl h0.1
  · refine .inr ⟨a, len, cap, hcs, hl, hm, fun i him => ?_⟩
    have key := hel i him
    rw [List.getElem?_eq_getElem (by omega)] at key
    have hwe : Light P e (elems[i]'(by omega)).1 := by
      rw [hx] at hw
      unfold Light DataW.weights at hw
      rw [ht] at hw
      simp only [List.all_cons, List.all_append, Bool.and_eq_true] at hw
      exact light_all hw.2.1 (List.mem_map_of_mem (List.getElem_mem _))
    obtain ⟨cs', hc, ht'⟩ := Option.bind_eq_some_iff.1 key
    rw [hC] at hc
    obtain ⟨ys, n', hn', hy, hlen', hyl, hf⟩ := DataW.trod_struct he ht'
    obtain ⟨_, hcl, hat⟩ := World.cells?_some hc
    refine ⟨n', by omega, fun j f hj => ?_⟩
    obtain ⟨ho, hk⟩ := hone_of hone j f hj
    have hjl : j < fs.size := (Array.getElem?_eq_some_iff.1 hj).1
    have hcell := hat j hjl
    have hv : cs'[j]? = some (cs'[j]'(by omega)) := List.getElem?_eq_getElem (by omega)
    have h1 := hf j f hj
    rw [ho, hk] at h1
    have hone' : (cs'.drop j).take 1 = [cs'[j]'(by omega)] := by
      rw [List.drop_eq_getElem_cons (by omega)]
      rfl
    rw [hone'] at h1
    have hys : ys[j]? = some (ys[j]'(by omega)) := List.getElem?_eq_getElem (by omega)
    refine ⟨_, _, ?_, h1.trans hys, ?_⟩
    · rw [← Go.Deep.add_add, hcell, hv]
    · rw [hy] at hwe
      unfold Light DataW.weights at hwe
      rw [he] at hwe
      exact light_each hwe (j := j) (by rw [List.getElem?_map]; simp [hj]) (by rw [List.getElem?_map, hys]; rfl)
theorem open_fieldsW {t : TypeId} {fs : Array Field} {fuel : Nat} {cs : List Value} {x : DataW H × List MemPlace} (he : P.underlying t = some (.struct fs))
    (hone : oneCellFields P fs = true) (hC : P.cellsOf t = fs.size) (h : DataW.trod enc P w base spare held fuel t cs = some x) (hw : Light P t x.1) :
    ∃ n, n < fuel ∧ cs.length = fs.size ∧ ∀ (j : Nat) (f : Field), fs[j]? = some f → ∃ (v : Value) (y : DataW H × List MemPlace), cs[j]? = some v ∧ DataW.trod enc P w base spare held n f.type [v] = some y ∧ Light P f.type y.1 := by
  obtain ⟨ys, n', hn', hy, hlen, hyl, hf⟩ := DataW.trod_struct he h
  rw [hC] at hlen
  refine ⟨n', by omega, hlen, fun j f hj => ?_⟩
  obtain ⟨ho, hk⟩ := hone_of hone j f hj
  have hjl : j < fs.size := (Array.getElem?_eq_some_iff.1 hj).1
  have hv : cs[j]? = some (cs[j]'(by omega)) := List.getElem?_eq_getElem (by omega)
  have h1 := hf j f hj
  rw [ho, hk] at h1
  have hone' : (cs.drop j).take 1 = [cs[j]'(by omega)] := by
    rw [List.drop_eq_getElem_cons (by omega)]
    rfl
  rw [hone'] at h1
  have hys : ys[j]? = some (ys[j]'(by omega)) := List.getElem?_eq_getElem (by omega)
  refine ⟨_, _, hv, h1.trans hys, ?_⟩
  rw [hy] at hw
  unfold Light DataW.weights at hw
  rw [he] at hw
  exact light_each hw (j := j) (by rw [List.getElem?_map]; simp [hj]) (by rw [List.getElem?_map, hys]; rfl)
end
section
variable {H : Type} {enc : TypeId × Value → H} {W : World}
theorem strW_of {n : Nat} {cs : List Value} {x : DataW H × List MemPlace} (h : DataW.trod enc Tryz.prog W 0 (fun _ => true) true n 9 cs = some x) (hw : Light Tryz.prog 9 x.1) : ∃ l, cs = [.string (bs l)] ∧ l.length ≤ txM := by
  obtain ⟨s, h1, h2, _⟩ := DataW.trod_string Tryz.underlying9 h
  obtain ⟨l, rfl⟩ := bs_of s
  refine ⟨l, h1, ?_⟩
  rw [h2] at hw
  unfold Light DataW.weights at hw
  simp only [List.all_cons, List.all_nil, Bool.and_true, decide_eq_true_eq] at hw
  have e : (bs l).data.toList.length = l.length := rfl
  rw [e] at hw
  unfold reachBytes at hw
  unfold txM
  omega
/-- a slice of structs that came in, element by element -/
theorem rowW_of {α : Type} {f : α → List Value} {k : Nat} (hk : ∀ x, (f x).length = k) (hk0 : 0 < k) (Q : α → Prop) {t e : TypeId} {fs : Array Field} {fuel : Nat} {cs : List Value} {x : DataW H × List MemPlace}
    (ht : Tryz.prog.underlying t = some (.slice e)) (he : Tryz.prog.underlying e = some (.struct fs)) (hone : oneCellFields Tryz.prog fs = true) (hC : Tryz.prog.cellsOf e = fs.size) (hsz : fs.size = k)
    (of : ∀ {n : Nat} {c : Nat → Option Value}, n < fuel → (∀ (j : Nat) (g : Field), fs[j]? = some g → ∃ (v : Value) (y : DataW H × List MemPlace), c j = some v ∧ DataW.trod enc Tryz.prog W 0 (fun _ => true) true n g.type [v] = some y ∧ Light Tryz.prog g.type y.1) → ∃ m : α, (∀ j u, (f m)[j]? = some u → c j = some u) ∧ Q m)
    (h : DataW.trod enc Tryz.prog W 0 (fun _ => true) true fuel t cs = some x) (hw : Light Tryz.prog t x.1) :
    ∃ (v : Value) (l : List α), cs = [v] ∧ SRow W (fun k => k < W.heap.size) k v l.length (l.flatMap f) ∧ ∀ m ∈ l, Q m := by
  rcases open_elemsW ht he hone hC h hw with rfl | ⟨a, len, cap, rfl, hl, hm, hi⟩
  · exact ⟨_, [], rfl, SRow.nil _ _ _, (fun _ h => by cases h)⟩
  · obtain ⟨l, hln, hp⟩ := list_of (P := fun i (m : α) => (∀ j u, (f m)[j]? = some u → W.cell? (a.add (i * k + j)) = some u) ∧ Q m) len fun i hil => by
      obtain ⟨n, hn, hf⟩ := hi i hil
      rw [hsz] at hf
      exact of (c := fun j => W.cell? (a.add (i * k + j))) hn hf
    subst hln
    refine ⟨_, l, rfl, ⟨flat_len hk l, some a, cap, rfl, hl, hm, (fun h => by cases h), fun h0 => ?_⟩, fun m hmm => ?_⟩
    · obtain ⟨q, hq⟩ : ∃ q, l[0]? = some q := ⟨_, List.getElem?_eq_getElem h0⟩
      have hpos : 0 < (f q).length := by rw [hk]; exact hk0
      have c0 := (hp 0 q hq).1 0 _ (List.getElem?_eq_getElem hpos)
      have hx0 : a.add (0 * k + 0) = a := by simp [Addr.add]
      rw [hx0] at c0
      have hs : a.spot = none := by
        unfold World.cell? at c0
        split at c0
        · cases hsp : a.spot with
          | none => rfl
          | some _ => simp [hsp] at c0
        · cases c0
      obtain ⟨b, off, sp⟩ := a
      simp only at hs
      subst hs
      refine ⟨b, off, rfl, World.block_lt_of_cell? W _ c0, fun i u hu => ?_⟩
      obtain ⟨q, j, y, rfl, h2, h3⟩ := flat_at hk l i u hu
      have := (hp q y h2).1 j u h3
      rwa [Addr.add_lit] at this
    · obtain ⟨i, hi'⟩ := List.getElem?_of_mem hmm
      exact (hp i m hi').2
theorem u30 : Tryz.prog.underlying 30 = some (.struct (fsOf 30)) := by kernel_rfl
theorem fs30 : (fsOf 30).toList.map (·.type) = [9, 27, 9, 28] := by kernel_rfl
structure Cells4 where
  n : NodeD
  cs : List Value
  len : cs.length = 4
theorem kids_mk {S : Nat → Prop} : ∀ {l : List Cells4}, (∀ m ∈ l, NodeV W S m.n m.cs ∧ textN m.n) → KidsV W S (l.map (·.n)) (l.flatMap (·.cs)) ∧ textK (l.map (·.n))
  | [], _ => ⟨KidsV.nil.2 rfl, by show textK []; unfold textK; trivial⟩
  | m :: l, h => by
    have h0 := h m List.mem_cons_self
    have ih := kids_mk (l := l) fun x hx => h x (List.mem_cons_of_mem _ hx)
    refine ⟨KidsV.cons.2 ⟨_, _, rfl, h0.1, ih.1⟩, ?_⟩
    show textK (m.n :: l.map (·.n))
    unfold textK
    exact ⟨h0.2, ih.2⟩
/-- a tree, of its four fields -/
theorem node_fields {n : Nat} {c : Nat → Option Value} (hf : ∀ (j : Nat) (g : Field), (fsOf 30)[j]? = some g → ∃ (v : Value) (y : DataW H × List MemPlace), c j = some v ∧ DataW.trod enc Tryz.prog W 0 (fun _ => true) true n g.type [v] = some y ∧ Light Tryz.prog g.type y.1)
    (kid : ∀ {cs : List Value} {x : DataW H × List MemPlace}, DataW.trod enc Tryz.prog W 0 (fun _ => true) true n 28 cs = some x → Light Tryz.prog 28 x.1 → ∃ v ks xs, cs = [v] ∧ SRow W (fun k => k < W.heap.size) 4 v ks.length xs ∧ KidsV W (fun k => k < W.heap.size) ks xs ∧ textK ks) :
    ∃ m : Cells4, (∀ j u, m.cs[j]? = some u → c j = some u) ∧ (NodeV W (fun k => k < W.heap.size) m.n m.cs ∧ textN m.n) := by
  obtain ⟨f0, g0, k0⟩ := fs_at fs30 0 9 rfl
  obtain ⟨f1, g1, k1⟩ := fs_at fs30 1 27 rfl
  obtain ⟨f2, g2, k2⟩ := fs_at fs30 2 9 rfl
  obtain ⟨f3, g3, k3⟩ := fs_at fs30 3 28 rfl
  obtain ⟨v0, y0, c0, t0, l0⟩ := hf 0 f0 g0
  obtain ⟨v1, y1, c1, t1, l1⟩ := hf 1 f1 g1
  obtain ⟨v2, y2, c2, t2, l2⟩ := hf 2 f2 g2
  obtain ⟨v3, y3, c3, t3, l3⟩ := hf 3 f3 g3
  rw [k0] at t0 l0
  rw [k1] at t1 l1
  rw [k2] at t2 l2
  rw [k3] at t3 l3
  obtain ⟨s0, e0, _⟩ := strW_of t0 l0
  obtain ⟨av, la, e1, ha⟩ := attrs_of t1
  obtain ⟨s2, e2, hs2⟩ := strW_of t2 l2
  obtain ⟨kv, ks, xs, e3, hk1, hk2, hk3⟩ := kid t3 l3
  simp only [List.cons.injEq, and_true] at e0 e1 e2 e3
  subst e0 e1 e2 e3
  refine ⟨⟨.mk s0 la s2 ks, _, rfl⟩, fun j u hu => ?_, NodeV.intro ha hk1 hk2, by show textN (.mk s0 la s2 ks); unfold textN; exact ⟨hs2, hk3⟩⟩
  match j, hu with
  | 0, hu => rw [c0]; exact hu
  | 1, hu => rw [c1]; exact hu
  | 2, hu => rw [c2]; exact hu
  | 3, hu => rw [c3]; exact hu
  | _ + 4, hu => simp at hu
theorem kids_of : ∀ (fuel : Nat) {cs : List Value} {x : DataW H × List MemPlace}, DataW.trod enc Tryz.prog W 0 (fun _ => true) true fuel 28 cs = some x → Light Tryz.prog 28 x.1 → ∃ v ks xs, cs = [v] ∧ SRow W (fun k => k < W.heap.size) 4 v ks.length xs ∧ KidsV W (fun k => k < W.heap.size) ks xs ∧ textK ks := by
  intro fuel
  induction fuel using Nat.strongRecOn with
  | ind fuel ih =>
    intro cs x h hw
    obtain ⟨v, l, h1, h2, h3⟩ := rowW_of (α := Cells4) (f := Cells4.cs) (k := 4) (fun x => x.len) (by decide) (fun m => NodeV W (fun k => k < W.heap.size) m.n m.cs ∧ textN m.n) (by kernel_rfl) u30 (by kernel_rfl) (by kernel_rfl) (by kernel_rfl)
      (fun {n} {c} hn hf => node_fields hf fun {cs x} hx hwx => ih n hn hx hwx) h hw
    have hk := kids_mk h3
    refine ⟨v, l.map (·.n), l.flatMap (·.cs), h1, ?_, hk.1, hk.2⟩
    rw [List.length_map]
    exact h2
theorem node_of {fuel : Nat} {cs : List Value} {x : DataW H × List MemPlace} (h : DataW.trod enc Tryz.prog W 0 (fun _ => true) true fuel 30 cs = some x) (hw : Light Tryz.prog 30 x.1) :
    ∃ n : NodeD, NodeV W (fun k => k < W.heap.size) n cs ∧ textN n := by
  obtain ⟨n, hn, hl, hf⟩ := open_fieldsW u30 (by kernel_rfl) (by kernel_rfl) h hw
  have hl4 : cs.length = 4 := by rw [hl]; kernel_rfl
  obtain ⟨m, hm, h1, h2⟩ := node_fields (c := fun j => cs[j]?) hf fun {cs x} hx hwx => kids_of n hx hwx
  have e : m.cs = cs := by
    refine List.ext_getElem? fun j => ?_
    rcases Nat.lt_or_ge j 4 with h | h
    · obtain ⟨u, hu⟩ : ∃ u, m.cs[j]? = some u := ⟨_, List.getElem?_eq_getElem (by rw [m.len]; exact h)⟩
      rw [hu, hm j u hu]
    · rw [List.getElem?_eq_none (by rw [m.len]; exact h), List.getElem?_eq_none (by rw [hl4]; exact h)]
  rw [e] at h1
  exact ⟨m.n, h1, h2⟩
end
end Go.Proofs.YtpinjgdnhbogoaaGreatDoor
