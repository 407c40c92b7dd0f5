/- snap.head: walked. -/
import Derived.Test.YtgmghopcppniaaaGreatDoorS16
import Derived.BigRegion
namespace Go.Proofs.YtgmghopcppniaaaGreatDoor
open Go.RowKit Go.Lib

theorem info3 : (Tryz.prog.info? 3).map (fun i => (i.zero, i.size, i.bytes)) = some (some (.int .i64 0), 1, 8) := by kernel_rfl
def HeadNo (w : World) (e : Ending) (w' : World) : Prop := ∃ (x y : Int) (a : Option Addr) (n c : Nat) (d : ByteArray) (z : Int), e = .returned (.tuple #[.agg #[.int .i64 x, .int .i64 y, .slice a n c, .string d], .int .i64 z, .bool false]) ∧ Fr (fun _ => False) w w'
def HeadOk (b : BaseD) (long : Int) (w : World) (e : Ending) (w' : World) : Prop := ∃ v, e = .returned (.tuple #[baseV b v, .int .i64 long, .bool true]) ∧ BaseIn w' (fun k => w.heap.size ≤ k ∧ k < w'.heap.size) b v ∧ Fr (fun _ => False) w w'
/-- either, as the text says -/
def HeadPost (s : Str) (w : World) (e : Ending) (w' : World) : Prop := match headOf s with | none => HeadNo w e w' | some (b, long) => HeadOk b long w e w'
theorem head_none {s : Str} {w w' : World} {e : Ending} (h : headOf s = none) (hp : HeadNo w e w') : HeadPost s w e w' := by unfold HeadPost; rw [h]; exact hp
theorem head_some {s : Str} {b : BaseD} {long : Int} {w w' : World} {e : Ending} (h : headOf s = some (b, long)) (hp : HeadOk b long w e w') : HeadPost s w e w' := by unfold HeadPost; rw [h]; exact hp
theorem head_bad {s : Str} (h : numsF 13 s = none) : headOf s = none := by unfold headOf; rw [h]
theorem toInt_at {w : World} {s : Str} (hs : s.length ≤ 10000000) {n : Int} {t : Str} {ok : Bool} (h : toIntD s = ((n, t), ok)) :
    Calls Tryz.prog 113 #[.string (bs s)] w fun e w' => e = .returned (.tuple #[.int .i64 n, .string (bs t), .bool ok]) ∧ ∃ p, w' = w.drewN p := by
  refine (toInt_h s hs).mono ?_
  rintro e w' ⟨rfl, hf⟩
  exact ⟨by rw [h], hf⟩
theorem toIntD_no {s : Str} (h : toIntL s = none) : toIntD s = ((0, []), false) := by unfold toIntD; rw [h]
theorem toIntD_yes {s t : Str} {n : Int} (h : toIntL s = some (n, t)) : toIntD s = ((n, t), true) := by unfold toIntD; rw [h]
theorem toInt_less {s t : Str} {n : Int} (h : toIntL s = some (n, t)) : t.length < s.length := by
  have := (toInt_back h).1
  have h2 := intL_pos n
  rw [this, List.length_append]; omega
/-- while the numbers are read -/
structure HRel (w : World) (s : Str) (ns : List Int) (rest : Str) (v : Value) (wr : World) : Prop where
  at' : NumsAt s ns rest
  row : wr.ownsRow w.heap.size 3 1 v ns.length (ns.map (Value.int .i64))
  fr : Fr (fun _ => False) w wr
  res : wr.heap[w.heap.size]? = some (.cells #[.int .i64 0, .int .i64 0, .slice none 0 0, .string ⟨#[]⟩] 24 (0, 0))
theorem own_ne {w : World} {base e n size k : Nat} {v : Value} {xs : List Value} {c : Array Value} {T : TypeId} {f : Nat × Nat} (h : w.ownsRow base e size v n xs) (hb : w.heap[k]? = some (.cells c T f)) (hT : T ≠ e) : v.ownBlock ≠ some k := by
  intro hk
  rcases h.2 with ⟨rfl, _⟩ | ⟨g, cap, cur, rfl, _, hh, _⟩
  · simp [Value.ownBlock] at hk
  · simp [Value.ownBlock] at hk
    subst hk
    rw [hh] at hb
    injection hb with hb
    injection hb with _ hb _
    exact hT hb.symm
theorem block_set4 {w : World} {k : Nat} {T : TypeId} {x0 x1 x2 x3 a b c d : Value} (h : w.heap[k]? = some (.cells #[x0, x1, x2, x3] T (0, 0))) :
    ((((w.setCell ⟨k, 0, none⟩ a).setCell ⟨k, 1, none⟩ b).setCell ⟨k, 2, none⟩ c).setCell ⟨k, 3, none⟩ d).heap[k]? = some (.cells #[a, b, c, d] T (0, 0)) :=
  block_set (block_set (block_set (block_set h 0 a) 1 b) 2 c) 3 d
theorem fr_set4 {w w' : World} {k : Nat} {a b c d : Value} (h : Fr (fun _ => False) w w') (hk : w.heap.size ≤ k) : Fr (fun _ => False) w ((((w'.setCell ⟨k, 0, none⟩ a).setCell ⟨k, 1, none⟩ b).setCell ⟨k, 2, none⟩ c).setCell ⟨k, 3, none⟩ d) :=
  (((h.setCell (p := ⟨k, 0, none⟩) (.inr hk) a).setCell (p := ⟨k, 1, none⟩) (.inr hk) b).setCell (p := ⟨k, 2, none⟩) (.inr hk) c).setCell (p := ⟨k, 3, none⟩) (.inr hk) d
theorem head_base {w wc : World} {B g sc : Nat} {ns : List Int} {ci ct : Int} (hI : ∀ n ∈ ns, I64 n) (h0 : ns[0]? = some ci) (h1 : ns[1]? = some ct) (hrow : w.ownsRow B 3 1 (.slice (some ⟨g, 0, none⟩) ns.length sc) ns.length (ns.map (Value.int .i64))) (h4 : 4 ≤ ns.length) (hsc : ns.length ≤ sc) (hf : Fr (fun _ => False) w wc) :
    BaseIn wc (fun j => j = g) ⟨ci, ct, (ns.take (ns.length - 1)).drop 3, []⟩ (.slice (some ⟨g, 3, none⟩) (ns.length - 1 - 3) (sc - 3)) := by
  refine ⟨?_, fun n hn => hI n (List.mem_of_mem_take (List.mem_of_mem_drop hn)), hI _ (List.mem_of_getElem? h0), hI _ (List.mem_of_getElem? h1), by simp⟩
  have h := ((SRow.of_owns hrow).head (k := ns.length - 1) (by omega)).tail (k := 3) (by omega)
  rw [if_neg (by omega)] at h
  simp only [Option.map_some, Addr.add_lit, Nat.zero_add, Nat.mul_one] at h
  have h2 := (h.mono (S' := fun j => j = g) (by intro k hk; simpa [Value.ownBlock] using hk.symm)).fr hf (fun _ _ h => h)
  unfold IR
  rw [List.map_drop, List.map_take, List.length_drop, List.length_take, Nat.min_eq_left (by omega)]
  exact h2
theorem head_fin {w6 : World} {g r n : Nat} {b : BaseD} {v x0 x1 x2 x3 : Value} (h : BaseIn w6 (fun j => j = g) b v) (hne : ¬ g = r) (hg : r ≤ g) (hgl : g < n) (hn : n ≤ w6.heap.size) :
    BaseIn ((((w6.setCell ⟨r, 0, none⟩ x0).setCell ⟨r, 1, none⟩ x1).setCell ⟨r, 2, none⟩ x2).setCell ⟨r, 3, none⟩ x3) (fun k => r ≤ k ∧ k < ((((w6.setCell ⟨r, 0, none⟩ x0).setCell ⟨r, 1, none⟩ x1).setCell ⟨r, 2, none⟩ x2).setCell ⟨r, 3, none⟩ x3).heap.size) b v := by
  have hf : Fr (fun k => k = r) w6 ((((w6.setCell ⟨r, 0, none⟩ x0).setCell ⟨r, 1, none⟩ x1).setCell ⟨r, 2, none⟩ x2).setCell ⟨r, 3, none⟩ x3) :=
    ((((Fr.refl (fun k => k = r) w6).setCell (p := ⟨r, 0, none⟩) (.inl rfl) x0).setCell (p := ⟨r, 1, none⟩) (.inl rfl) x1).setCell (p := ⟨r, 2, none⟩) (.inl rfl) x2).setCell (p := ⟨r, 3, none⟩) (.inl rfl) x3
  refine (h.fr hf (by rintro k rfl e; exact hne e)).mono ?_
  rintro k rfl
  exact ⟨hg, by have := hf.size; omega⟩
theorem head_of {s : Str} {ns : List Int} {c ci ct cl : Int} (hn : numsF 13 s = some ns) (h4 : ¬ ns.length < 4) (hc : ns.getD 2 0 = c) (hq : c = (ns.length : Int) - 4) (h0 : ns[0]? = some ci) (h1 : ns[1]? = some ct) (hl : ns[ns.length - 1]? = some cl) :
    headOf s = if rightB ⟨ci, ct, (ns.take (ns.length - 1)).drop 3, []⟩ = true ∧ 0 ≤ cl ∧ cl ≤ 4000000 then some (⟨ci, ct, (ns.take (ns.length - 1)).drop 3, []⟩, cl) else none := by
  have e0 : ns.getD 0 0 = ci := by rw [List.getD_eq_getElem?_getD, h0]; rfl
  have e1 : ns.getD 1 0 = ct := by rw [List.getD_eq_getElem?_getD, h1]; rfl
  have el : ns.getD (ns.length - 1) 0 = cl := by rw [List.getD_eq_getElem?_getD, hl]; rfl
  unfold headOf
  rw [hn]
  dsimp only
  rw [if_neg (by rw [hc]; omega), e0, e1, el]
set_option maxRecDepth 100000 in
set_option maxHeartbeats 8000000 in
theorem head_h {w : World} (s : Str) (hs : s.length ≤ 1000000) : Calls Tryz.prog 59 #[.string (bs s)] w (HeadPost s w) := by
  obtain ⟨i0, hi, hz0, hz1, hz2⟩ := info_parts info3
  obtain ⟨w1, hw1⟩ : ∃ w1, w1 = w.alloc (.cells #[.int .i64 0, .int .i64 0, .slice none 0 0, .string ⟨#[]⟩] 24) := ⟨_, rfl⟩
  have HR0 : Hid (HRel w s [] s (.slice none 0 0) w1) := by
    show HRel _ _ _ _ _ _
    rw [hw1]
    exact ⟨NumsAt.start s, World.ownsRow_nil _ _ _ _, (Fr.refl _ _).alloc _, block_new _ _⟩
  go_enter Tryz.func59, Tryz.ntmps59
  go_wp2_with fail
  rw [← hw1]
  clear hw1
  go_loopg [0, 5] 13 (fun j v0 v5 wr => ∃ (ns : List Int) (rest : Str), v0 = .string (bs rest) ∧ j + ns.length = 13 ∧ rest.length ≤ 1000000 ∧ Hid (HRel w s ns rest v5 wr))
  case atStart => exact ⟨[], s, rfl, by simp, hs, HR0.out⟩
  case round =>
    obtain ⟨ns, rest, rfl, hj, hrl, HL⟩ := hrel
    have HJ := Lib.hid hj
    clear hj
    obtain ⟨sa, sc, rfl⟩ : ∃ a c, u5 = .slice a ns.length c := ownsRow_shape HL.out.row
    by_cases hgo : rest ≠ [] ∧ ns.length < 13
    · obtain ⟨hne, hlt⟩ := hgo
      have t1 : ((bs rest).toList == []) = false := by rw [bs_toList]; exact beq_eq_false_iff_ne.2 hne
      have t2 : (bs rest).toList.isEmpty = false := by rw [bs_toList]; simpa using hne
      have t3 : decide (bs rest = ⟨#[]⟩) = false := decide_eq_false fun e => hne (bs_inj e)
      have hlti : (ns.length : Int) < 13 := by omega
      have HNE := Lib.hid hne
      clear hne
      cases ht : toIntL rest with
      | none =>
        have HT := Lib.hid (toInt_at (w := wr) (show rest.length ≤ 10000000 by omega) (toIntD_no ht))
        have HE := Lib.hid (head_bad (HL.out.at'.bad HNE.out ht 13))
        clear ht
        go_wp2_with (go_at_call 113; refine Calls.mono HT.out ?_)
        rintro e w2 ⟨rfl, p, rfl⟩
        have hres := HL.out.res
        have x0 := cell_of hres (i := 0) (v := .int .i64 0) rfl
        have x1 := cell_of hres (i := 1) (v := .int .i64 0) rfl
        have x2 := cell_of hres (i := 2) (v := .slice none 0 0) rfl
        have x3 := cell_of hres (i := 3) (v := .string ⟨#[]⟩) rfl
        have f0 := free_of 0 hres
        have f1 := free_of 1 hres
        have f2 := free_of 2 hres
        have f3 := free_of 3 hres
        have hwl := lt_of_block hres
        clear hres
        go_wp2_with fail
        have hz := block_set4 (a := .int .i64 0) (b := .int .i64 0) (c := .slice none 0 0) (d := .string ⟨#[]⟩) (show (wr.drewN p).heap[w.heap.size]? = _ from HL.out.res)
        have e0 := cell_of hz (i := 0) (v := .int .i64 0) rfl
        have e1 := cell_of hz (i := 1) (v := .int .i64 0) rfl
        have e2 := cell_of hz (i := 2) (v := .slice none 0 0) rfl
        have e3 := cell_of hz (i := 3) (v := .string ⟨#[]⟩) rfl
        refine bodyPost_ret (v := .tuple #[.agg #[.int .i64 0, .int .i64 0, .slice none 0 0, .string ⟨#[]⟩], .int .i64 0, .bool false]) (by simp [results, Tryz.results59, go_sem, e0, e1, e2, e3] <;> rfl) rfl ?_
        exact head_none HE.out ⟨_, _, _, _, _, _, _, rfl, fr_set4 (HL.out.fr.drewN p) (Nat.le_refl _)⟩
      | some q =>
        obtain ⟨n, t⟩ := q
        have HT := Lib.hid (toInt_at (w := wr) (show rest.length ≤ 10000000 by omega) (toIntD_yes ht))
        have HN := Lib.hid (HL.out.at'.more ht)
        have htl := toInt_less ht
        clear ht
        go_wp2_with (go_at_call 113; refine Calls.mono HT.out ?_)
        rintro e w2 ⟨rfl, p, rfl⟩
        have hown : (wr.drewN p).ownsRow w.heap.size 3 1 (.slice sa ns.length sc) ns.length (ns.map (Value.int .i64)) := HL.out.row
        go_wp2_with (at_builtin; refine wpList_append_shape rfl _ _ 22 rfl w.heap.size 3 i0 (.int .i64 0) 1 8 Tryz.underlying22 hi hz0 hz1 hz2 rfl (by decide) _ _ _ rfl (hown.alloc _) ⟨wr.heap.size, 0, none⟩ 1 1 [.int .i64 n] rfl rfl ?c1 ?c2 ?c3 ?c4 ?c5 (by omega) ?_)
        case c1 =>
          intro j u hj
          match j, hj with
          | 0, hj => simp at hj; subst hj; simp [Addr.add]; exact cell_of (block_new (wr.drewN p) (.cells #[.int .i64 n] 3)) rfl
        case c2 => intro u hu; simp at hu; subst hu; rfl
        case c3 => unfold maxLen; omega
        case c4 => omega
        case c5 => have := HL.out.fr.size; simp; omega
        intro g cap w3 hown3 hg3 _
        have hfr3 : Fr (fun _ => False) w w3 := ((HL.out.fr.drewN p).alloc (.cells #[.int .i64 n] 3)).grown hg3 fun k hk => .inr (HL.out.row.lt k hk).1
        have hre3 := block_grown (block_old (show (wr.drewN p).heap[w.heap.size]? = _ from HL.out.res) (.cells #[.int .i64 n] 3)) hg3 (fun e => own_ne HL.out.row HL.out.res (by decide) e.symm)
        have HR3 : Hid (HRel w s (ns ++ [n]) t (.slice (some ⟨g, 0, none⟩) (ns ++ [n]).length cap) w3) := ⟨HN.out, by rw [List.length_append, List.map_append]; exact hown3, hfr3, hre3⟩
        rw [List.length_append, List.length_singleton] at HR3
        clear hown3 hg3 hfr3 hre3 hown
        go_wp2_with fail
        go_roundg (13 - (ns.length + 1))
        case measure => have := HJ.out; omega
        case rel => exact ⟨ns ++ [n], t, rfl, by rw [List.length_append, List.length_singleton]; omega, by omega, HR3⟩
    · have hnl : ns.length ≤ 13 := by have := HJ.out; omega
      have hres := HL.out.res
      have x0 := cell_of hres (i := 0) (v := .int .i64 0) rfl
      have x1 := cell_of hres (i := 1) (v := .int .i64 0) rfl
      have x2 := cell_of hres (i := 2) (v := .slice none 0 0) rfl
      have x3 := cell_of hres (i := 3) (v := .string ⟨#[]⟩) rfl
      have f0 := free_of 0 hres
      have f1 := free_of 1 hres
      have f2 := free_of 2 hres
      have f3 := free_of 3 hres
      have hwl := lt_of_block hres
      clear hres
      by_cases hne : rest = []
      · have t1 : ((bs rest).toList == []) = true := by rw [bs_toList, hne]; rfl
        have t2 : (bs rest).toList.isEmpty = true := by rw [bs_toList, hne]; rfl
        have HNS : Hid (numsF 13 s = some ns) := by
          show numsF 13 s = _
          have := HL.out.at'
          rw [hne] at this
          rw [this.done 13, if_pos hnl]
        clear hne hgo
        by_cases h4 : ns.length < 4
        · have h4i : (ns.length : Int) < 4 := by omega
          have HE : Hid (headOf s = none) := by show headOf s = none; unfold headOf; rw [HNS.out]; dsimp only; rw [if_pos (.inl h4)]
          clear h4
          go_wp2_with fail
          have hz := block_set4 (a := .int .i64 0) (b := .int .i64 0) (c := .slice none 0 0) (d := .string ⟨#[]⟩) HL.out.res
          have e0 := cell_of hz (i := 0) (v := .int .i64 0) rfl
          have e1 := cell_of hz (i := 1) (v := .int .i64 0) rfl
          have e2 := cell_of hz (i := 2) (v := .slice none 0 0) rfl
          have e3 := cell_of hz (i := 3) (v := .string ⟨#[]⟩) rfl
          refine bodyPost_ret (v := .tuple #[.agg #[.int .i64 0, .int .i64 0, .slice none 0 0, .string ⟨#[]⟩], .int .i64 0, .bool false]) (by simp [results, Tryz.results59, go_sem, e0, e1, e2, e3] <;> rfl) rfl ?_
          exact head_none HE.out ⟨_, _, _, _, _, _, _, rfl, fr_set4 HL.out.fr (Nat.le_refl _)⟩
        · have h4i : ¬ (ns.length : Int) < 4 := by omega
          obtain ⟨g, cap, hv, hgB, hnc, hcm⟩ := ownsRow_form HL.out.row (by omega)
          injection hv with hv1 _ hv2
          subst hv1; subst hv2
          obtain ⟨c, hc⟩ : ∃ c, ns[2]? = some c := ⟨_, List.getElem?_eq_getElem (by omega)⟩
          have y2 := ownsRow_cell HL.out.row (i := 2) (v := .int .i64 c) (by rw [List.getElem?_map, hc]; rfl)
          have hcD : ns.getD 2 0 = c := by rw [List.getD_eq_getElem?_getD, hc]; rfl
          have HC := Lib.hid hcD
          clear hc hcD
          by_cases hq : c = (ns.length : Int) - 4
          · have q1 : (c == (ns.length : Int) - 4) = true := by simpa using hq
            have q2 : decide (c = (ns.length : Int) - 4) = true := by simpa using hq
            obtain ⟨ci, hci⟩ : ∃ c, ns[0]? = some c := ⟨_, List.getElem?_eq_getElem (by omega)⟩
            obtain ⟨ct, hct⟩ : ∃ c, ns[1]? = some c := ⟨_, List.getElem?_eq_getElem (by omega)⟩
            obtain ⟨cl, hcl⟩ : ∃ c, ns[ns.length - 1]? = some c := ⟨_, List.getElem?_eq_getElem (by omega)⟩
            have y0 := ownsRow_cell HL.out.row (i := 0) (v := .int .i64 ci) (by rw [List.getElem?_map, hci]; rfl)
            have y1 := ownsRow_cell HL.out.row (i := 1) (v := .int .i64 ct) (by rw [List.getElem?_map, hct]; rfl)
            have yl := ownsRow_cell HL.out.row (i := ns.length - 1) (v := .int .i64 cl) (by rw [List.getElem?_map, hcl]; rfl)
            have HCI := Lib.hid hci
            have HCT := Lib.hid hct
            have HCL := Lib.hid hcl
            have hti : ((ns.length : Int) - 1).toNat = ns.length - 1 := by omega
            have hw1 : IntKind.i64.wrap ((ns.length : Int) - 1) = (ns.length : Int) - 1 := IntWalk.i64_in _ (by omega)
            have hge : (0 : Int) ≤ (ns.length : Int) - 1 := by omega
            have hlt1 : (ns.length : Int) - 1 < ns.length := by omega
            have hle3 : (3 : Int) ≤ (ns.length : Int) - 1 := by omega
            have hlc : (ns.length : Int) - 1 ≤ sc := by omega
            have hn0 : 0 < ns.length := by omega
            have hn1 : 1 < ns.length := by omega
            have hp0 : (0 : Int) < ns.length := by omega
            have hp1 : (1 : Int) < ns.length := by omega
            have HQ := Lib.hid hq
            clear hci hct hcl hq
            go_upto_region 9 with fail
            go_cut [9, 10] (fun s9 s10 wx => s9 = .pointer (some ⟨wr.heap.size, 0, none⟩) ∧ s10 = .int .i64 cl ∧ wx.heap[wr.heap.size]? = some (.cells #[.int .i64 ci, .int .i64 ct, .slice (some ⟨g, 3, none⟩) (ns.length - 1 - 3) (sc - 3), .string ⟨#[]⟩] 24 (0, 0)) ∧ Fr (fun _ => False) wr wx)
            case first =>
              go_region_held (fun w' => w'.cell? ⟨g, 0, none⟩ = some (.int .i64 ci) ∧ w'.cell? ⟨g, 1, none⟩ = some (.int .i64 ct) ∧ w'.cell? ⟨g, ns.length - 1, none⟩ = some (.int .i64 cl))
                (first | go_keep | fail)
                (fail)
              all_goals
                go_wp2_with fail
                go_meet
                exact ⟨rfl, rfl, block_new _ _, ((Fr.refl _ _).alloc _).drew⟩
            case rest =>
              obtain ⟨rfl, rfl, hk, hF⟩ := hcut
              have HBI : Hid (BaseIn wc (fun j => j = g) ⟨ci, ct, (ns.take (ns.length - 1)).drop 3, []⟩ (.slice (some ⟨g, 3, none⟩) (ns.length - 1 - 3) (sc - 3))) :=
                head_base (HL.out.at'.inr) HCI.out HCT.out (HL.out.row) (by omega) (by omega) hF
              have HHB := Lib.hid (head_of (cl := cl) HNS.out h4 HC.out HQ.out HCI.out HCT.out HCL.out)
              have hfW := HL.out.fr.next hF
              have hres2 := hF.keep HL.out.res (fun h => h)
              have k0 := cell_of hk (i := 0) (v := .int .i64 ci) rfl
              have k1 := cell_of hk (i := 1) (v := .int .i64 ct) rfl
              have k2 := cell_of hk (i := 2) (v := .slice (some ⟨g, 3, none⟩) (ns.length - 1 - 3) (sc - 3)) rfl
              have k3 := cell_of hk (i := 3) (v := .string ⟨#[]⟩) rfl
              have hkl := lt_of_block hk
              have HR := Lib.hid (right_h HBI.out)
              have HK := Lib.hid hk
              have HFW := Lib.hid hfW
              have HFC := Lib.hid hF
              have HRS := Lib.hid hres2
              have hclI := HL.out.at'.inr cl (List.mem_of_getElem? HCL.out)
              unfold I64 at hclI
              clear hk hF hfW hres2 x0 x1 x2 x3 f0 f1 f2 f3 y0 y1 y2 yl
              obtain ⟨L, hL⟩ : ∃ L, (ns.take (ns.length - 1)).drop 3 = L := ⟨_, rfl⟩
              rw [hL] at HBI HHB
              have hgl0 : w.heap.size < wr.heap.size := lt_of_block HL.out.res
              have hgl : ¬ wr.heap.size = w.heap.size := by omega
              have hgl2 : ¬ w.heap.size = wr.heap.size := by omega
              have HBJ := Lib.hid (fun (W : World) (hF : Fr (fun _ => False) wc W) => show Calls Tryz.prog 22 #[.agg #[.int .i64 ci, .int .i64 ct, .slice (some ⟨g, 3, none⟩) (ns.length - 1 - 3) (sc - 3), .string ⟨#[]⟩]] W (RightPost ⟨ci, ct, L, []⟩ W) from right_h (HBI.out.grow hF))
              clear HR
              have HGN := Lib.hid (fun e : g = w.heap.size => own_ne HL.out.row HL.out.res (by decide) (by rw [← e]; rfl))
              have HGL := Lib.hid (HL.out.row.lt g rfl).2
              cases hrt : rightB ⟨ci, ct, L, []⟩ with
              | true =>
                have HR2 := Lib.hid (fun (W : World) (hF : Fr (fun _ => False) wc W) => (HBJ.out W hF).mono (R' := fun e w' => e = .returned (.bool true) ∧ Fr (fun _ => False) W w') (by rintro e w' ⟨rfl, h⟩; exact ⟨by rw [hrt], h⟩))
                clear HBJ
                by_cases hc0 : 0 ≤ cl
                · by_cases hc4 : cl ≤ 4000000
                  · have HE : Hid (headOf s = some (⟨ci, ct, L, []⟩, cl)) := by show headOf s = _; rw [HHB.out, if_pos ⟨hrt, hc0, hc4⟩]
                    clear hrt hL
                    go_wp2_with fail
                    first | (go_region_held3 (fun w' => w'.cell? ⟨wr.heap.size, 0, none⟩ = some (.int .i64 ci) ∧ w'.cell? ⟨wr.heap.size, 1, none⟩ = some (.int .i64 ct) ∧ w'.cell? ⟨wr.heap.size, 2, none⟩ = some (.slice (some ⟨g, 3, none⟩) (ns.length - 1 - 3) (sc - 3)) ∧ w'.cell? ⟨wr.heap.size, 3, none⟩ = some (.string ⟨#[]⟩))
                      (first | go_keep | (with_reducible exact ⟨s0, s1, s2, s3⟩) | fail)
                      (first
                        | (go_at_call 22; (with_reducible refine Calls.mono (HR2.out _ (show Fr (fun _ => False) wc _ by repeat (first | exact Fr.refl _ _ | refine Fr.drew ?_))) ?_); rintro e w6 ⟨rfl, hq⟩; have f6 := (show Fr (fun _ => False) wc _ by repeat (first | exact Fr.refl _ _ | refine Fr.drew ?_)).next hq; have s0 := f6.cell k0 (fun h => h); have s1 := f6.cell k1 (fun h => h); have s2 := f6.cell k2 (fun h => h); have s3 := f6.cell k3 (fun h => h); have hr6 := f6.keep HRS.out (fun h => h); have x0 := cell_of hr6 (i := 0) (v := .int .i64 0) rfl; have x1 := cell_of hr6 (i := 1) (v := .int .i64 0) rfl; have x2 := cell_of hr6 (i := 2) (v := .slice none 0 0) rfl; have x3 := cell_of hr6 (i := 3) (v := .string ⟨#[]⟩) rfl; have f0 := free_of 0 hr6; have f1 := free_of 1 hr6; have f2 := free_of 2 hr6; have f3 := free_of 3 hr6; have hl6 := lt_of_block hr6; have HR6 := Lib.hid hr6; clear hq hr6)
                        | fail)) | fail
                    all_goals
                      go_wp2_with fail
                      have hz := block_set4 (a := .int .i64 ci) (b := .int .i64 ct) (c := .slice (some ⟨g, 3, none⟩) (ns.length - 1 - 3) (sc - 3)) (d := .string ⟨#[]⟩) HR6.out
                      have e0 := cell_of hz (i := 0) (v := .int .i64 ci) rfl
                      have e1 := cell_of hz (i := 1) (v := .int .i64 ct) rfl
                      have e2 := cell_of hz (i := 2) (v := .slice (some ⟨g, 3, none⟩) (ns.length - 1 - 3) (sc - 3)) rfl
                      have e3 := cell_of hz (i := 3) (v := .string ⟨#[]⟩) rfl
                      refine bodyPost_ret (v := .tuple #[.agg #[.int .i64 ci, .int .i64 ct, .slice (some ⟨g, 3, none⟩) (ns.length - 1 - 3) (sc - 3), .string ⟨#[]⟩], .int .i64 cl, .bool true]) (by simp [results, Tryz.results59, go_sem, e0, e1, e2, e3] <;> rfl) rfl ?_
                      exact head_some HE.out ⟨_, rfl, head_fin (HBI.out.grow f6) HGN.out hgB HGL.out (Nat.le_trans HFC.out.size f6.size), fr_set4 (HFW.out.next f6) (Nat.le_refl _)⟩
                  · have hc4n : ¬ cl ≤ 4000000 := hc4
                    have hc4d : decide (cl ≤ 4000000) = false := decide_eq_false hc4
                    have HE : Hid (headOf s = none) := by show headOf s = _; rw [HHB.out, if_neg (fun h => hc4 h.2.2)]
                    clear hrt hL hc4
                    go_wp2_with fail
                    first | (go_region_held3 (fun w' => w'.cell? ⟨wr.heap.size, 0, none⟩ = some (.int .i64 ci) ∧ w'.cell? ⟨wr.heap.size, 1, none⟩ = some (.int .i64 ct) ∧ w'.cell? ⟨wr.heap.size, 2, none⟩ = some (.slice (some ⟨g, 3, none⟩) (ns.length - 1 - 3) (sc - 3)) ∧ w'.cell? ⟨wr.heap.size, 3, none⟩ = some (.string ⟨#[]⟩))
                      (first | go_keep | (with_reducible exact ⟨s0, s1, s2, s3⟩) | fail)
                      (first
                        | (go_at_call 22; (with_reducible refine Calls.mono (HR2.out _ (show Fr (fun _ => False) wc _ by repeat (first | exact Fr.refl _ _ | refine Fr.drew ?_))) ?_); rintro e w6 ⟨rfl, hq⟩; have f6 := (show Fr (fun _ => False) wc _ by repeat (first | exact Fr.refl _ _ | refine Fr.drew ?_)).next hq; have s0 := f6.cell k0 (fun h => h); have s1 := f6.cell k1 (fun h => h); have s2 := f6.cell k2 (fun h => h); have s3 := f6.cell k3 (fun h => h); have hr6 := f6.keep HRS.out (fun h => h); have x0 := cell_of hr6 (i := 0) (v := .int .i64 0) rfl; have x1 := cell_of hr6 (i := 1) (v := .int .i64 0) rfl; have x2 := cell_of hr6 (i := 2) (v := .slice none 0 0) rfl; have x3 := cell_of hr6 (i := 3) (v := .string ⟨#[]⟩) rfl; have f0 := free_of 0 hr6; have f1 := free_of 1 hr6; have f2 := free_of 2 hr6; have f3 := free_of 3 hr6; have hl6 := lt_of_block hr6; have HR6 := Lib.hid hr6; clear hq hr6)
                        | fail)) | fail
                    all_goals
                      go_wp2_with fail
                      have hz := block_set4 (a := .int .i64 ci) (b := .int .i64 ct) (c := .slice (some ⟨g, 3, none⟩) (ns.length - 1 - 3) (sc - 3)) (d := .string ⟨#[]⟩) HR6.out
                      have e0 := cell_of hz (i := 0) (v := .int .i64 ci) rfl
                      have e1 := cell_of hz (i := 1) (v := .int .i64 ct) rfl
                      have e2 := cell_of hz (i := 2) (v := .slice (some ⟨g, 3, none⟩) (ns.length - 1 - 3) (sc - 3)) rfl
                      have e3 := cell_of hz (i := 3) (v := .string ⟨#[]⟩) rfl
                      refine bodyPost_ret (v := .tuple #[.agg #[.int .i64 ci, .int .i64 ct, .slice (some ⟨g, 3, none⟩) (ns.length - 1 - 3) (sc - 3), .string ⟨#[]⟩], .int .i64 cl, .bool false]) (by simp [results, Tryz.results59, go_sem, e0, e1, e2, e3] <;> rfl) rfl ?_
                      exact head_none HE.out ⟨_, _, _, _, _, _, _, rfl, fr_set4 (HFW.out.next f6) (Nat.le_refl _)⟩
                · have hc0n : ¬ 0 ≤ cl := hc0
                  have hc0d : decide (0 ≤ cl) = false := decide_eq_false hc0
                  have HE : Hid (headOf s = none) := by show headOf s = _; rw [HHB.out, if_neg (fun h => hc0 h.2.1)]
                  clear hrt hL hc0
                  go_wp2_with fail
                  first | (go_region_held (fun w' => w'.cell? ⟨wr.heap.size, 0, none⟩ = some (.int .i64 ci) ∧ w'.cell? ⟨wr.heap.size, 1, none⟩ = some (.int .i64 ct) ∧ w'.cell? ⟨wr.heap.size, 2, none⟩ = some (.slice (some ⟨g, 3, none⟩) (ns.length - 1 - 3) (sc - 3)) ∧ w'.cell? ⟨wr.heap.size, 3, none⟩ = some (.string ⟨#[]⟩))
                    (first | go_keep | (with_reducible exact ⟨s0, s1, s2, s3⟩) | fail)
                    (first
                      | (go_at_call 22; (with_reducible refine Calls.mono (HR2.out _ (show Fr (fun _ => False) wc _ by repeat (first | exact Fr.refl _ _ | refine Fr.drew ?_))) ?_); rintro e w6 ⟨rfl, hq⟩; have f6 := (show Fr (fun _ => False) wc _ by repeat (first | exact Fr.refl _ _ | refine Fr.drew ?_)).next hq; have s0 := f6.cell k0 (fun h => h); have s1 := f6.cell k1 (fun h => h); have s2 := f6.cell k2 (fun h => h); have s3 := f6.cell k3 (fun h => h); have hr6 := f6.keep HRS.out (fun h => h); have x0 := cell_of hr6 (i := 0) (v := .int .i64 0) rfl; have x1 := cell_of hr6 (i := 1) (v := .int .i64 0) rfl; have x2 := cell_of hr6 (i := 2) (v := .slice none 0 0) rfl; have x3 := cell_of hr6 (i := 3) (v := .string ⟨#[]⟩) rfl; have f0 := free_of 0 hr6; have f1 := free_of 1 hr6; have f2 := free_of 2 hr6; have f3 := free_of 3 hr6; have hl6 := lt_of_block hr6; have HR6 := Lib.hid hr6; clear hq hr6)
                      | fail)) | fail
                  all_goals
                    go_wp2_with fail
                    have hz := block_set4 (a := .int .i64 ci) (b := .int .i64 ct) (c := .slice (some ⟨g, 3, none⟩) (ns.length - 1 - 3) (sc - 3)) (d := .string ⟨#[]⟩) HR6.out
                    have e0 := cell_of hz (i := 0) (v := .int .i64 ci) rfl
                    have e1 := cell_of hz (i := 1) (v := .int .i64 ct) rfl
                    have e2 := cell_of hz (i := 2) (v := .slice (some ⟨g, 3, none⟩) (ns.length - 1 - 3) (sc - 3)) rfl
                    have e3 := cell_of hz (i := 3) (v := .string ⟨#[]⟩) rfl
                    refine bodyPost_ret (v := .tuple #[.agg #[.int .i64 ci, .int .i64 ct, .slice (some ⟨g, 3, none⟩) (ns.length - 1 - 3) (sc - 3), .string ⟨#[]⟩], .int .i64 cl, .bool false]) (by simp [results, Tryz.results59, go_sem, e0, e1, e2, e3] <;> rfl) rfl ?_
                    exact head_none HE.out ⟨_, _, _, _, _, _, _, rfl, fr_set4 (HFW.out.next f6) (Nat.le_refl _)⟩
              | false =>
                have HR2 := Lib.hid (fun (W : World) (hF : Fr (fun _ => False) wc W) => (HBJ.out W hF).mono (R' := fun e w' => e = .returned (.bool false) ∧ Fr (fun _ => False) W w') (by rintro e w' ⟨rfl, h⟩; exact ⟨by rw [hrt], h⟩))
                clear HBJ
                have HE : Hid (headOf s = none) := by show headOf s = _; rw [HHB.out, if_neg (fun h => by rw [hrt] at h; cases h.1)]
                clear hrt hL
                go_wp2_with fail
                first | (go_region_held (fun w' => w'.cell? ⟨wr.heap.size, 0, none⟩ = some (.int .i64 ci) ∧ w'.cell? ⟨wr.heap.size, 1, none⟩ = some (.int .i64 ct) ∧ w'.cell? ⟨wr.heap.size, 2, none⟩ = some (.slice (some ⟨g, 3, none⟩) (ns.length - 1 - 3) (sc - 3)) ∧ w'.cell? ⟨wr.heap.size, 3, none⟩ = some (.string ⟨#[]⟩))
                  (first | go_keep | (with_reducible exact ⟨s0, s1, s2, s3⟩) | fail)
                  (first
                    | (go_at_call 22; (with_reducible refine Calls.mono (HR2.out _ (show Fr (fun _ => False) wc _ by repeat (first | exact Fr.refl _ _ | refine Fr.drew ?_))) ?_); rintro e w6 ⟨rfl, hq⟩; have f6 := (show Fr (fun _ => False) wc _ by repeat (first | exact Fr.refl _ _ | refine Fr.drew ?_)).next hq; have s0 := f6.cell k0 (fun h => h); have s1 := f6.cell k1 (fun h => h); have s2 := f6.cell k2 (fun h => h); have s3 := f6.cell k3 (fun h => h); have hr6 := f6.keep HRS.out (fun h => h); have x0 := cell_of hr6 (i := 0) (v := .int .i64 0) rfl; have x1 := cell_of hr6 (i := 1) (v := .int .i64 0) rfl; have x2 := cell_of hr6 (i := 2) (v := .slice none 0 0) rfl; have x3 := cell_of hr6 (i := 3) (v := .string ⟨#[]⟩) rfl; have f0 := free_of 0 hr6; have f1 := free_of 1 hr6; have f2 := free_of 2 hr6; have f3 := free_of 3 hr6; have hl6 := lt_of_block hr6; have HR6 := Lib.hid hr6; clear hq hr6)
                    | fail)) | fail
                all_goals
                  go_wp2_with fail
                  have hz := block_set4 (a := .int .i64 ci) (b := .int .i64 ct) (c := .slice (some ⟨g, 3, none⟩) (ns.length - 1 - 3) (sc - 3)) (d := .string ⟨#[]⟩) HR6.out
                  have e0 := cell_of hz (i := 0) (v := .int .i64 ci) rfl
                  have e1 := cell_of hz (i := 1) (v := .int .i64 ct) rfl
                  have e2 := cell_of hz (i := 2) (v := .slice (some ⟨g, 3, none⟩) (ns.length - 1 - 3) (sc - 3)) rfl
                  have e3 := cell_of hz (i := 3) (v := .string ⟨#[]⟩) rfl
                  refine bodyPost_ret (v := .tuple #[.agg #[.int .i64 ci, .int .i64 ct, .slice (some ⟨g, 3, none⟩) (ns.length - 1 - 3) (sc - 3), .string ⟨#[]⟩], .int .i64 cl, .bool false]) (by simp [results, Tryz.results59, go_sem, e0, e1, e2, e3] <;> rfl) rfl ?_
                  exact head_none HE.out ⟨_, _, _, _, _, _, _, rfl, fr_set4 (HFW.out.next f6) (Nat.le_refl _)⟩
          · have q1 : (c == (ns.length : Int) - 4) = false := by simpa using hq
            have q2 : decide (c = (ns.length : Int) - 4) = false := by simpa using hq
            have HE : Hid (headOf s = none) := by show headOf s = none; unfold headOf; rw [HNS.out]; dsimp only; rw [if_pos (.inr (by rw [HC.out]; exact hq))]
            go_wp2_with fail
            have hz := block_set4 (a := .int .i64 0) (b := .int .i64 0) (c := .slice none 0 0) (d := .string ⟨#[]⟩) HL.out.res
            have e0 := cell_of hz (i := 0) (v := .int .i64 0) rfl
            have e1 := cell_of hz (i := 1) (v := .int .i64 0) rfl
            have e2 := cell_of hz (i := 2) (v := .slice none 0 0) rfl
            have e3 := cell_of hz (i := 3) (v := .string ⟨#[]⟩) rfl
            refine bodyPost_ret (v := .tuple #[.agg #[.int .i64 0, .int .i64 0, .slice none 0 0, .string ⟨#[]⟩], .int .i64 0, .bool false]) (by simp [results, Tryz.results59, go_sem, e0, e1, e2, e3] <;> rfl) rfl ?_
            exact head_none HE.out ⟨_, _, _, _, _, _, _, rfl, fr_set4 HL.out.fr (Nat.le_refl _)⟩
      · have t1 : ((bs rest).toList == []) = false := by rw [bs_toList]; exact beq_eq_false_iff_ne.2 hne
        have t2 : (bs rest).toList.isEmpty = false := by rw [bs_toList]; simpa using hne
        have t3 : decide (bs rest = ⟨#[]⟩) = false := decide_eq_false fun e => hne (bs_inj e)
        have h13 : ¬ ns.length < 13 := fun h => hgo ⟨hne, h⟩
        have h13i : ¬ (ns.length : Int) < 13 := by omega
        have HE := Lib.hid (head_bad (HL.out.at'.full hne (by omega)))
        clear hne hgo
        go_wp2_with fail
        have hz := block_set4 (a := .int .i64 0) (b := .int .i64 0) (c := .slice none 0 0) (d := .string ⟨#[]⟩) HL.out.res
        have e0 := cell_of hz (i := 0) (v := .int .i64 0) rfl
        have e1 := cell_of hz (i := 1) (v := .int .i64 0) rfl
        have e2 := cell_of hz (i := 2) (v := .slice none 0 0) rfl
        have e3 := cell_of hz (i := 3) (v := .string ⟨#[]⟩) rfl
        refine bodyPost_ret (v := .tuple #[.agg #[.int .i64 0, .int .i64 0, .slice none 0 0, .string ⟨#[]⟩], .int .i64 0, .bool false]) (by simp [results, Tryz.results59, go_sem, e0, e1, e2, e3] <;> rfl) rfl ?_
        exact head_none HE.out ⟨_, _, _, _, _, _, _, rfl, fr_set4 HL.out.fr (Nat.le_refl _)⟩
end Go.Proofs.YtgmghopcppniaaaGreatDoor
