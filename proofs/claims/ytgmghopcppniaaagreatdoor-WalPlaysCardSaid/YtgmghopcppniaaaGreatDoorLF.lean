/- Layer 3 in plain words: any acts, fuses and crashes among them (no program). -/
import Derived.Test.YtgmghopcppniaaaGreatDoorLE
namespace Go.Proofs.YtgmghopcppniaaaGreatDoor

/-- a disk on which the last segment has a part that no crash has met yet -/
structure TornAt (D : DiskD) (pre : List Nat) (n : Nat) (R : Nat → List RecD) (rs : List RecD) (b : Nat) : Prop where
 at' : SegsAt D pre n R (recsL rs) 0
 good : ∀ r ∈ rs, GoodR r ∧ (payL r).length ≤ 65536
 head : ∀ m ∈ pre ++ [n], R m = [] ∨ ∃ t v l, R m = .hard t v :: l
 first : R n = [] → rs = [] ∨ ∃ t v l, rs = .hard t v :: l
 many : pre.length ≤ 19
 full : ∀ m ∈ pre, 2000 ≤ (recsL (R m)).length
 thin : ∀ m, thinL (R m) ≤ b
 next : thinL (R n ++ rs) ≤ b
 fresh : ∀ m, n < m → R m = []
def logN (st : StD) (pre : List Nat) (n : Nat) (R : Nat → List RecD) : LogD := ⟨st, pre.map (segOf R), segOf R n⟩
section
variable {L M L2 : LogD} {D D2 : DiskD} {R : Nat → List RecD} {b i : Nat} {a : ActW} {xb : UInt8 → Int → UInt8} {keep noise : List Int} {pre : List Nat} {n : Nat} {rs : List RecD}
theorem TornAt.up (h : TornAt D pre n R rs b) {c : Nat} (hc : b ≤ c) : TornAt D pre n R rs c :=
 ⟨h.at', h.good, h.head, h.first, h.many, h.full, fun m => Nat.le_trans (h.thin m) hc, Nat.le_trans h.next hc, h.fresh⟩
theorem TornAt.same (h : TornAt D pre n R rs b) (hi : InvD D2) (hf : D2.files = D.files) : TornAt D2 pre n R rs b :=
 ⟨h.at'.same hi hf, h.good, h.head, h.first, h.many, h.full, h.thin, h.next, h.fresh⟩
theorem LogOK.torn (h : LogOK L D R b) (hi : InvD D2) (hf : D2.files = D.files) : TornAt D2 (L.pre.map (·.num)) L.last.num R [] b :=
 ⟨h.held.at'.same hi hf, fun r hr => (by cases hr), h.head, fun _ => .inl rfl, by rw [List.length_map]; exact h.many, h.full, h.thin, by rw [List.append_nil]; exact h.thin _, h.held.fresh⟩
theorem InvD.gone (h : InvD D) : InvD { D with dead := true } := ⟨h.sorted, h.names, h.synced, h.full, h.most, h.many, h.fuse⟩
theorem recF_nine (r : RecD) : 9 ≤ (recF r).length := by unfold recF; rw [frame_len]; have := pay_pos r; omega
theorem recs_nine : ∀ l : List RecD, l.length * 9 ≤ (recsL l).length
 | [] => Nat.le_refl _
 | r :: l => by
  have h1 := recs_nine l
  have h2 := recF_nine r
  rw [recsL_cons, List.length_append, List.length_cons]
  omega
theorem flatR_len {k : Nat} : ∀ {l : List Nat}, (∀ m ∈ l, (R m).length ≤ k) → (recsOf R l).length ≤ l.length * k
 | [], _ => Nat.zero_le _
 | m :: l, h => by
  have h1 := flatR_len (l := l) fun x hx => h x (List.mem_cons_of_mem _ hx)
  have h2 := h m (List.mem_cons_self ..)
  show (List.flatMap R (m :: l)).length ≤ _
  rw [List.flatMap_cons, List.length_append, List.length_cons, Nat.add_one_mul]
  have h3 : (List.flatMap R l).length ≤ l.length * k := h1
  omega
theorem SegsAt.bytes (h : SegsAt D pre n R [] 0) {m : Nat} (hm : m ∈ pre ++ [n]) : (recsL (R m)).length ≤ total D.files := by
 rcases List.mem_append.1 hm with hm | hm
 ·exact mem_total (get_mem (h.ahead m hm)).1
 ·rw [List.mem_singleton.1 hm]
  have := mem_total (get_mem h.last).1
  dsimp only at this
  rwa [List.append_nil] at this
theorem SegsAt.few (h : SegsAt D pre n R [] 0) (hm : D.most ≤ 100000) (hp : pre.length ≤ 19) : (recsOf R (pre ++ [n])).length ≤ 300000 := by
 have h1 := flatR_len (R := R) (k := 11111) (l := pre ++ [n]) fun m hm2 => by
  have h2 := h.bytes hm2
  have h3 := recs_nine (R m)
  have h4 := h.inv.full
  omega
 rw [List.length_append, List.length_singleton] at h1
 have h5 : (pre.length + 1) * 11111 ≤ 20 * 11111 := Nat.mul_le_mul_right _ (by omega)
 omega
/-- what was not synced is lost, or a beginning of it is there: it is opened -/
theorem TornAt.crash (h : TornAt D pre n R rs b) (hm : D.most ≤ 100000) : ∃ st R' D2, openD (crashD xb D keep noise) = ((0, (st, (pre ++ [n]).map (segOf R'))), D2) ∧
  LogOK (logN st pre n R') D2 R' b ∧ D2.most = D.most ∧ st.ents.length ≤ 300000 := by
 obtain ⟨j, z, e, hj, hc, hz⟩ := crash_torn (xb := xb) (keep := keep) (noise := noise) h.at' h.good
 obtain ⟨R', hR⟩ : ∃ R', updR R n (R n ++ rs.take j) = R' := ⟨_, rfl⟩
 rw [hR] at hc
 have hne := h.at'.ne'
 have hRn : R' n = R n ++ rs.take j := by rw [← hR]; exact updR_at ..
 have hRm : ∀ m, m ≠ n → R' m = R m := fun m hm => by rw [← hR]; exact updR_ne hm
 rcases open_torn hc rfl hz (.inr rfl) with ⟨h1, h2, h3, h4⟩ | ⟨_, _, _, _, _, h9⟩
 ·have hcap : (openD (crashD xb D keep noise)).2.most = D.most := openD_cap _
  have hp : (pre.map (segOf R')).map (·.num) = pre := by rw [List.map_map]; exact List.map_id' _
  refine ⟨foldS zeroS (recsOf R' (pre ++ [n])), R', _, Prod.ext h1 rfl, ⟨⟨?_, ?_, rfl, fun m hm => ?_, h2, OkS.fold _ OkS.zero fun r hr => ?_⟩, fun m hm => ?_, ?_, fun m hm => ?_, fun m => ?_⟩, hcap, ?_⟩
  ·show SegsAt _ ((pre.map (segOf R')).map (·.num)) n R' [] 0
   rw [hp]; exact h3
  ·show pre.map (segOf R') = ((pre.map (segOf R')).map (·.num)).map (segOf R')
   rw [hp]
  ·have hm : n < m := hm
   rw [hRm m (by omega)]; exact h.fresh m hm
  ·obtain ⟨m, hm, hr⟩ := List.mem_flatMap.1 hr
   exact (h3.good m hm r hr).1
  ·have hm : m ∈ pre ++ [n] := by
    have hm2 : m ∈ (pre.map (segOf R')).map (·.num) ++ [n] := hm
    rwa [hp] at hm2
   by_cases e2 : m = n
   ·rw [e2, hRn]
    rcases h.head n (List.mem_append_right _ (List.mem_singleton.2 rfl)) with h5 | ⟨t, v, l, h5⟩
    ·rw [h5]
     rcases h.first h5 with h6 | ⟨t, v, l, h6⟩
     ·rw [h6]; simp
     ·rw [h6]
      cases j with
      | zero => simp
      | succ j => exact .inr ⟨t, v, l.take j, rfl⟩
    ·rw [h5]; exact .inr ⟨t, v, l ++ rs.take j, rfl⟩
   ·rw [hRm m e2]; exact h.head m hm
  ·show (pre.map (segOf R')).length ≤ 19
   rw [List.length_map]; exact h.many
  ·have hm2 : m ∈ (pre.map (segOf R')).map (·.num) := hm
   rw [hp] at hm2
   rw [hRm m (hne m hm2)]; exact h.full m hm2
  ·by_cases e2 : m = n
   ·rw [e2, hRn, thin_app]
    have h5 := h.next
    rw [thin_app] at h5
    have := thin_take rs j
    omega
   ·rw [hRm m e2]; exact h.thin m
  ·have h5 := h3.few (by rw [hcap]; exact hm) h.many
   have h6 := foldS_len (recsOf R' (pre ++ [n])) zeroS
   have h7 : zeroS.ents.length = 0 := rfl
   omega
 ·exact absurd rfl h9

/-! ### records laid down -/
inductive LayQ (L M : LogD) (D : DiskD) (rs : List RecD) (b : Nat) (p : Int × (LogD × DiskD)) : Prop
 | done (h0 : p.1 = 0) (R' : Nat → List RecD) (h : LogOK (foldR p.2.1 rs) p.2.2 R' (b + 38)) (hn : (foldR p.2.1 rs).last.num = M.last.num) (hst : (foldR p.2.1 rs).st = foldS L.st rs) (hm : p.2.2.most = D.most)
 | no (e : Int) (h : p = (e, (M, D))) (he : e ≠ 0 ∧ e ≠ 7)
 | dead (h7 : p.1 = 7) (k : Nat) (hk : k ≤ (recsL rs).length) (hs : p.2.1 = sized M k) (hd : p.2.2.dead = true) (pre : List Nat) (n : Nat) (R' : Nat → List RecD) (rs' : List RecD) (hT : TornAt p.2.2 pre n R' rs' (b + 38)) (hn : n ≤ L.last.num + 1) (hm : p.2.2.most = D.most)
theorem LogOK.layQ (h : LogOK L D R b) (hg : Grows L M) (hn : L.last.num + 1 < 1000000) (hgood : ∀ r ∈ rs, GoodR r ∧ (payL r).length ≤ 65536) (hhead : M.last.size = 0 → ∃ t v l, rs = .hard t v :: l)
  (hb : 18 ≤ b) (hth : thinL rs ≤ 38 ∨ (M.last.size = 0 ∧ thinL rs ≤ 56)) : LayQ L M D rs b (layL M D rs) := by
 obtain ⟨hr, h1, h2, h3, h4, h5, h6, h7, h8⟩ := h.room hg hn
 have hsz : M.last.size = (recsL (R M.last.num)).length := congrArg SegD.size hr.seg
 have hnil : M.last.size = 0 → R M.last.num = [] := fun e => Classical.byContradiction fun h9 => by have := recsne h9; omega
 have hthin : thinL (R M.last.num ++ rs) ≤ b + 38 := by
  rw [thin_app]
  rcases hth with h9 | ⟨h9, h10⟩
  ·have := h.thin M.last.num; omega
  ·rw [hnil h9]; show 0 + _ ≤ _; omega
 cases h.lay hg hn hgood hhead with
 | no e h he => exact .no e h (by rcases he with rfl | ⟨rfl, _⟩ <;> decide)
 | dies hp hf =>
  rw [hp]
  exact .dead rfl 0 (Nat.zero_le _) rfl rfl _ _ _ _ ((h.torn h.held.at'.inv.gone rfl).up (by omega)) (by omega) rfl
 | torn h7' hd hS hs hf hm =>
  refine .dead h7' _ (Nat.le_refl _) hs hd _ _ R rs ⟨hS, hgood, fun m hm => ?_, fun e => .inr (hhead ?_), by rw [List.length_map]; exact h3, h4, fun m => Nat.le_trans (h.thin m) (by omega), hthin, hr.fresh⟩ (by omega) hm
  ·rcases List.mem_append.1 hm with hm | hm
   ·exact h5 m hm
   ·rw [List.mem_singleton.1 hm]; exact h6
  ·rw [hsz, e]; rfl
 | done h0 R' hH hrec hst hR hnum hsz2 hf ht hm =>
  refine .done h0 R' ⟨hH.held, hH.head, hH.many, hH.full, fun m => ?_⟩ ?_ hst hm
  ·rw [hR]
   by_cases e : m = M.last.num
   ·rw [e, updR_at]; exact hthin
   ·rw [updR_ne e]; exact Nat.le_trans (h.thin m) (by omega)
  ·have := congrArg List.getLast? hnum
   simpa [numsL] using this
/-- a log behind acts, of which the last one died -/
def Shape (L L2 : LogD) : Prop := L2 = L ∨ ∃ M k, Grows L M ∧ k ≤ 4000 ∧ L2 = sized M k
inductive ActQ (L : LogD) (D : DiskD) (b : Nat) (p : Int × (LogD × DiskD)) : Prop
 | same (e : Int) (h : p = (e, (L, D))) (he : e ≠ 7)
 | done (h0 : p.1 = 0) (R' : Nat → List RecD) (h : LogOK p.2.1 p.2.2 R' (b + 38)) (hn : p.2.1.last.num ≤ L.last.num + 1) (hl : p.2.1.st.ents.length ≤ L.st.ents.length + 5) (hm : p.2.2.most = D.most)
 | dead (h7 : p.1 = 7) (hL : Shape L p.2.1) (hst : p.2.1.st = L.st) (hd : p.2.2.dead = true) (pre : List Nat) (n : Nat) (R' : Nat → List RecD) (rs' : List RecD) (hT : TornAt p.2.2 pre n R' rs' (b + 38)) (hn : n ≤ L.last.num + 1) (hm : p.2.2.most = D.most)
theorem LogOK.act (h : LogOK L D R b) (hb : 18 ≤ b) (hn : L.last.num + 1 < 1000000) (ha : GoodW a) : ActQ L D b (doesL L D a) := by
 have hlen := doesL_len h hn ha
 unfold doesL at hlen ⊢
 by_cases h6 : pickZ a.op 10 = 6
 ·rw [if_pos h6] at hlen ⊢
  have hth : thinL (resetRs L) ≤ 38 ∨ (L.last.size = 0 ∧ thinL (resetRs L) ≤ 56) := by
   by_cases h0 : L.last.size = 0
   ·exact .inr ⟨h0, resetRs_thin h.held.ok⟩
   ·left
    unfold resetRs layRs
    rw [if_neg (by simp [h0])]
    have := thin_reset
    rw [thin_cons]; show _ + 0 ≤ 38; omega
  have hl := h.layQ (.inl rfl) hn (resetRs_good h.held.ok) (fun h0 => by unfold resetRs layRs; rw [if_pos (.inr h0)]; exact ⟨_, _, _, rfl⟩) hb hth
  unfold resetL at hlen ⊢
  cases hl with
  | done h0 R' hH hnum hst hm =>
   rw [if_neg (by rw [h0]; simp)] at hlen ⊢
   exact .done rfl R' hH (by show (foldR _ _).last.num ≤ _; omega) hlen hm
  | no e hp he => rw [if_pos (by rw [hp]; exact he.1)]; exact .same e hp he.2
  | dead h7 k hk hs hd pre n R' rs' hT hnn hm =>
   rw [if_pos (by rw [h7]; simp)]
   have := resetRs_bytes (L := L) h.held.ok
   exact .dead h7 (.inr ⟨L, k, .inl rfl, by omega, hs⟩) (by rw [hs]; rfl) hd pre n R' rs' hT hnn hm
 ·rw [if_neg h6] at hlen ⊢
  obtain ⟨ht, hv⟩ := hardW_in ha
  cases hw : wrongA (hardW a).1 (hardW a).2 (entriesW a) with
  | true => exact .same 1 (by unfold saveL; rw [if_pos hw]) (by decide)
  | false =>
   cases hi : idleA L (hardW a).1 (hardW a).2 (entriesW a) with
   | true => exact .same 0 (by unfold saveL; rw [if_neg (by rw [hw]; simp), if_pos hi]) (by decide)
   | false =>
    have hg := grown_grows L
    obtain ⟨hr, h1, h2, h3, h4, h5, h6', h7, h8⟩ := h.room hg hn
    have hl := h.layQ hg hn (saveRs_good ht hv (entriesW_in ha) hw) (fun h0 => saveRs_head h0) hb (.inl (saveRs_thin (L := L) (l := entriesW a) ht hv))
    have hbytes := saveRs_bytes (L := L) ha
    rw [save_lay hw hi] at hlen ⊢
    cases hl with
    | done h0 R' hH hnum hst hm =>
     rw [if_neg (by rw [h0]; simp)] at hlen ⊢
     exact .done rfl R' hH (by show (foldR _ _).last.num ≤ _; omega) hlen hm
    | no e hp he =>
     rw [hp, if_pos he.1]
     dsimp only
     rw [still_no h hg hn]
     exact .same e rfl he.2
    | dead h7 k hk hs hd pre n R' rs' hT hnn hm =>
     rw [if_pos (by rw [h7]; simp), h7]
     refine .dead rfl ?_ (still_st _ _ _ (by rw [hs]; exact h2)) hd pre n R' rs' hT hnn hm
     show Shape L (stillL _ _ _)
     unfold stillL
     split
     ·exact .inr ⟨_, k, hg, by omega, hs⟩
     ·exact .inl rfl

/-! ### sizes -/
structure FitQ (L : LogD) (i : Nat) : Prop where
 num0 : 0 < L.last.num
 num : L.last.num ≤ 1 + i
 size : L.last.size ≤ 200000 + 4000 * i
 many : L.pre.length ≤ 30 + i
 ok : OkS L.st
 top : I64 L.last.top
 few : L.st.ents.length ≤ 300000 + 5 * i
 pre : ∀ s ∈ L.pre, 0 < s.num ∧ s.num < 1000000
theorem FitQ.fit (h : FitQ L i) (hi : i ≤ 100) (hm : D.most ≤ 100000) : Fit L D :=
 ⟨h.num0, by have := h.num; omega, by have := h.size; omega, by have := h.many; omega, h.ok, h.top, by have := h.few; omega, h.pre, hm⟩
theorem FitQ.next (h : FitQ L i) : FitQ L (i + 1) :=
 ⟨h.num0, by have := h.num; omega, by have := h.size; omega, by have := h.many; omega, h.ok, h.top, by have := h.few; omega, h.pre⟩
theorem FitQ.shape (h : FitQ L i) (hs : Shape L L2) (hi : i ≤ 100) : FitQ L2 (i + 1) := by
 rcases hs with rfl | ⟨M, k, hg, hk, rfl⟩
 ·exact h.next
 ·rcases hg with rfl | ⟨rfl, h1, h2⟩
  ·exact ⟨h.num0, by have := h.num; show M.last.num ≤ _; omega, by have := h.size; show M.last.size + k ≤ _; omega, by have := h.many; show M.pre.length ≤ _; omega, h.ok, h.top, by have := h.few; show M.st.ents.length ≤ _; omega, h.pre⟩
  ·refine ⟨Nat.succ_pos _, by have := h.num; show L.last.num + 1 ≤ _; omega, by show 0 + k ≤ _; omega, by have := h.many; show (L.pre ++ [L.last]).length ≤ _; rw [List.length_append, List.length_singleton]; omega, h.ok, i64_small (n := 0) (by decide) (by decide), by have := h.few; show L.st.ents.length ≤ _; omega, fun s hs => ?_⟩
   rcases List.mem_append.1 (show s ∈ L.pre ++ [L.last] from hs) with hs | hs
   ·exact h.pre s hs
   ·rw [List.mem_singleton.1 hs]; have := h.num; have := h.num0; omega
theorem LogOK.fitQ (h : LogOK L D R b) (hn : L.last.num ≤ 1 + i) (hi : i ≤ 100) (he : L.st.ents.length ≤ 300000 + 5 * i) (hm : D.most ≤ 100000) : FitQ L i := by
 have hf := h.fit (by omega) (by omega) hm
 have h1 := congrArg SegD.size h.held.last
 have h2 : L.last.size = (recsL (R L.last.num)).length := h1
 have h3 := h.held.at'.bytes (List.mem_append_right _ (List.mem_singleton.2 rfl))
 have h4 := h.held.at'.inv.full
 exact ⟨hf.num0, hn, by omega, by have := h.many; omega, hf.ok, hf.top, he, hf.pre⟩

/-! ### what holds between two acts -/
structure PlayInv (L : LogD) (D : DiskD) (i : Nat) : Prop where
 fit : FitQ L i
 most : D.most ≤ 100000
 state : (D.dead = false ∧ ∃ R, LogOK L D R (56 + 38 * i)) ∨ (D.dead = true ∧ ∃ pre n R rs, TornAt D pre n R rs (56 + 38 * i) ∧ n ≤ 1 + i)
theorem PlayInv.torn (h : PlayInv L D i) : ∃ pre n R rs, TornAt D pre n R rs (56 + 38 * i) ∧ n ≤ 1 + i := by
 rcases h.state with ⟨_, R, h1⟩ | ⟨_, h1⟩
 ·exact ⟨_, _, _, _, h1.torn h1.held.at'.inv rfl, h.fit.num⟩
 ·exact h1
theorem PlayInv.start {most : Int} (h0 : 100 ≤ most) (h1 : most ≤ 100000) : PlayInv beginL (beginD most) 0 :=
 ⟨(whole_begin h0 (by omega)).ok.fitQ (Nat.le_refl _) (by decide) (by decide) h1, h1, .inl ⟨rfl, beginR, (whole_begin h0 (by omega)).ok.up (by decide)⟩⟩
theorem sized_zero (L : LogD) : sized L 0 = L := rfl
theorem dead_does (hd : D.dead = true) : ∃ c L2, doesL L D a = (c, (L2, D)) ∧ Shape L L2 ∧ L2.st = L.st := by
 have hap : ∀ n x, appendD D n x = (7, D) := fun n x => by unfold appendD; rw [if_pos hd]
 have hlay : ∀ M rs, layL M D rs = (7, (M, D)) := fun M rs => by unfold layL; rw [hap, if_pos (by simp)]
 unfold doesL
 split
 ·unfold resetL
  rw [hlay, if_pos (by simp)]
  exact ⟨7, L, rfl, .inl rfl, rfl⟩
 ·unfold saveL
  split
  ·exact ⟨1, L, rfl, .inl rfl, rfl⟩
  ·split
   ·exact ⟨0, L, rfl, .inl rfl, rfl⟩
   ·rw [hlay, if_pos (by simp)]
    refine ⟨7, _, rfl, ?_, still_st _ _ _ ?_⟩
    ·dsimp only
     unfold stillL
     split
     ·exact .inr ⟨_, 0, grown_grows L, Nat.zero_le _, (sized_zero _).symm⟩
     ·exact .inl rfl
    ·show (grownL L).st = L.st
     unfold grownL; split <;> rfl
theorem PlayInv.does (h : PlayInv L D i) (ha : GoodW a) (hi : i ≤ 60) : PlayInv (doesL L D a).2.1 (doesL L D a).2.2 (i + 1) := by
 have hn := h.fit.num
 rcases h.state with ⟨hd, R, h1⟩ | ⟨hd, pre, n, R, rs, h1, h2⟩
 ·cases h1.act (by omega) (by omega) ha with
  | same e hp he => rw [hp]; exact ⟨h.fit.next, h.most, .inl ⟨hd, R, h1.up (by omega)⟩⟩
  | done h0 R' hH hnn hl hm =>
   exact ⟨hH.fitQ (by omega) (by omega) (by have := h.fit.few; omega) (by rw [hm]; exact h.most), by rw [hm]; exact h.most, .inl ⟨hH.held.alive, R', by rw [show 56 + 38 * (i + 1) = 56 + 38 * i + 38 by omega]; exact hH⟩⟩
  | dead h7 hL hst hd pre n R' rs' hT hnn hm =>
   exact ⟨h.fit.shape hL (by omega), by rw [hm]; exact h.most, .inr ⟨hd, pre, n, R', rs', by rw [show 56 + 38 * (i + 1) = 56 + 38 * i + 38 by omega]; exact hT, by omega⟩⟩
 ·obtain ⟨c, L2, h3, h4, h5⟩ := dead_does (L := L) (a := a) hd
  rw [h3]
  exact ⟨h.fit.shape h4 (by omega), h.most, .inr ⟨hd, pre, n, R, rs, h1.up (by omega), by omega⟩⟩
theorem PlayInv.cut (h : PlayInv L D i) {k : Int} : PlayInv (cutL L D k).2.1 (cutL L D k).2.2 (i + 1) := by
 have hn := h.fit.num
 rcases h.state with ⟨hd, R, h1⟩ | ⟨hd, pre, n, R, rs, h1, h2⟩
 ·unfold cutL
  rw [if_neg (by rw [hd]; simp)]
  obtain ⟨st, pre, last⟩ := L
  obtain ⟨j, hj, htop, hdr, hc⟩ := cutF_r (i := k) pre h1
  have hpre : ∀ s ∈ pre.drop j, s ∈ pre := fun s hs => List.mem_of_mem_drop hs
  have hfit : FitQ ⟨st, pre.drop j, last⟩ (i + 1) := ⟨h.fit.num0, h.fit.next.num, h.fit.next.size, by have := h.fit.many; show (pre.drop j).length ≤ _; rw [List.length_drop]; dsimp only at this; omega, h.fit.ok, h.fit.top, h.fit.next.few, fun s hs => h.fit.pre s (hpre s hs)⟩
  dsimp only
  rw [hdr]
  rcases hc with ⟨h0, hOK, hf2, hm, hhead⟩ | ⟨h7, hdd, hS, hf2, hm⟩
  ·exact ⟨hfit, by rw [hm]; exact h.most, .inl ⟨hOK.held.alive, R, hOK.up (by omega)⟩⟩
  ·refine ⟨hfit, by rw [hm]; exact h.most, .inr ⟨hdd, _, _, R, [], ⟨hS, fun r hr => (by cases hr), fun m hm => h1.head m ?_, fun _ => .inl rfl, ?_, fun m hm => ?_, fun m => Nat.le_trans (h1.thin m) (by omega), ?_, h1.held.fresh⟩, by dsimp only at hn; omega⟩⟩
   ·rcases List.mem_append.1 hm with hm | hm
    ·obtain ⟨s, hs, rfl⟩ := List.mem_map.1 hm
     exact List.mem_append_left _ (List.mem_map.2 ⟨s, hpre s hs, rfl⟩)
    ·exact List.mem_append_right _ hm
   ·have := h1.many
    rw [List.length_map, List.length_drop]; dsimp only at this; omega
   ·obtain ⟨s, hs, rfl⟩ := List.mem_map.1 hm
    exact h1.full _ (List.mem_map.2 ⟨s, hpre s hs, rfl⟩)
   ·rw [List.append_nil]; exact Nat.le_trans (h1.thin _) (by omega)
 ·unfold cutL
  rw [if_pos hd]
  exact ⟨h.fit.next, h.most, .inr ⟨hd, pre, n, R, rs, h1.up (by omega), by omega⟩⟩
theorem PlayInv.fuse (h : PlayInv L D i) {k : Int} (hk : k ≤ 9223372036854775807) : PlayInv L (fuseD D k) (i + 1) := by
 refine ⟨h.fit.next, h.most, ?_⟩
 rcases h.state with ⟨hd, R, h1⟩ | ⟨hd, pre, n, R, rs, h1, h2⟩
 ·exact .inl ⟨hd, R, (⟨⟨h1.held.at'.same (h1.held.at'.inv.fused k hk) rfl, h1.held.segs, h1.held.last, h1.held.fresh, h1.held.alive, h1.held.ok⟩, h1.head, h1.many, h1.full, h1.thin⟩ : LogOK L (fuseD D k) R (56 + 38 * i)).up (by omega)⟩
 ·exact .inr ⟨hd, pre, n, R, rs, (h1.same (h1.at'.inv.fused k hk) rfl).up (by omega), by omega⟩
theorem PlayInv.crash (h : PlayInv L D i) (hi : i ≤ 60) : ∃ st pre n R D2, openD (crashD xb D keep noise) = ((0, (st, (pre ++ [n]).map (segOf R))), D2) ∧ PlayInv (logN st pre n R) D2 (i + 1) := by
 obtain ⟨pre, n, R, rs, h1, h2⟩ := h.torn
 obtain ⟨st, R', D2, h3, h4, h5, h6⟩ := h1.crash (xb := xb) (keep := keep) (noise := noise) h.most
 exact ⟨st, pre, n, R', D2, h3, h4.fitQ (by show n ≤ _; omega) (by omega) (by show st.ents.length ≤ _; omega) (by rw [h5]; exact h.most), by rw [h5]; exact h.most, .inl ⟨h4.held.alive, R', h4.up (by omega)⟩⟩
/-- a full segment has an entry -/
theorem LogOK.entry (h : LogOK L D R b) (hb : b < 2000) {m : Nat} (hm : m ∈ L.pre.map (·.num)) : ∃ e, RecD.ent e ∈ R m :=
 Classical.byContradiction fun h1 => by
  have h2 := thin_all (l := R m) fun e he => h1 ⟨e, he⟩
  have h3 := h.full m hm
  have h4 := h.thin m
  omega
theorem LogOK.top (h : LogOK L D R b) (hb : b < 2000) {m : Nat} (hm : m ∈ L.pre.map (·.num)) {i : Int} : topL (R m) ≤ i ↔ ∀ e, RecD.ent e ∈ R m → e.index ≤ i := by
 rw [top_le]
 refine ⟨fun h1 => h1.2, fun h1 => ⟨?_, h1⟩⟩
 obtain ⟨e, he⟩ := h.entry hb hm
 have h2 := h1 e he
 have h3 : GoodE e := (h.held.at'.good m (List.mem_append_left _ hm) _ he).1
 have := h3.parts
 omega
end
end Go.Proofs.YtgmghopcppniaaaGreatDoor
