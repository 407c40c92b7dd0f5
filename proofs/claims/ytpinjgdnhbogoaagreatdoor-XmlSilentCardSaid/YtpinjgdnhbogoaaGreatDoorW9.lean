/- tag: an open tag taken off. -/
import Derived.Test.YtpinjgdnhbogoaaGreatDoorW8
import Derived.RegionTactic
import Derived.BigRegion
import Derived.Outline
import Derived.WalkMore
import Derived.ScopeJumps
namespace Go.Proofs.YtpinjgdnhbogoaaGreatDoor
open Go.RowKit Go.Lib

theorem info64 : (Tryz.prog.info? 64).map (fun i => (i.zero, i.size, i.bytes)) = some (some (.agg #[.string ⟨#[]⟩, .string ⟨#[]⟩]), 2, 32) := by kernel_rfl
def attrNext (l : List (Str × Str)) (r : Str) : Option (List (Str × Str) × Bool × Str) := match attrL r with
  | none => none
  | some (a, v, left) => if (l.any fun b => b.1 == a) = true then none else attrsL (l ++ [(a, v)]) left
theorem next_none {l : List (Str × Str)} {r : Str} (h : attrL r = none) : attrNext l r = none := by unfold attrNext; rw [h]
theorem next_dup {l : List (Str × Str)} {r a v left : Str} (h : attrL r = some (a, v, left)) (hd : (l.any fun b => b.1 == a) = true) : attrNext l r = none := by
  unfold attrNext; rw [h]; dsimp only; rw [if_pos hd]
theorem next_new {l : List (Str × Str)} {r a v left : Str} (h : attrL r = some (a, v, left)) (hd : (l.any fun b => b.1 == a) = false) : attrNext l r = attrsL (l ++ [(a, v)]) left := by
  unfold attrNext; rw [h]; dsimp only; rw [if_neg (by rw [hd]; simp)]
structure TagIn (w : World) (tb : Nat) (n : Str) (s1 cur : Str) (l : List (Str × Str)) (av : Value) (wr : World) : Prop where
  eq : attrsL [] s1 = attrsL l cur
  len : l.length + cur.length ≤ s1.length
  blk : wr.heap[tb]? = some (.cells #[.int .i64 1, .string (bs n), av, .string ⟨#[]⟩] 54 (0, 0))
  row : wr.ownsRow w.heap.size 64 2 av l.length (acells l)
  fr : Fr (fun _ => False) w wr
  low : w.heap.size ≤ tb
def TagPost (s : Str) (w : World) (e : Ending) (w' : World) : Prop :=
  (match tagL s with
    | some (l, rest) => ∃ v, e = .returned (.tuple #[v, .string (bs rest), .bool true]) ∧ Toks w.heap.size w' v l
    | none => e = .returned (.tuple #[.slice none 0 0, .string ⟨#[]⟩, .bool false])) ∧ Fr (fun _ => False) w w'
theorem TagIn.fr2 {w wr w2 : World} {tb : Nat} {n s1 cur : Str} {l : List (Str × Str)} {av : Value} (h : TagIn w tb n s1 cur l av wr) (hf : Fr (fun _ => False) wr w2) : TagIn w tb n s1 cur l av w2 :=
  ⟨h.eq, h.len, hf.keep h.blk (fun h => h), ownsRow_fr h.row hf, h.fr.next hf, h.low⟩
theorem own_ne {w : World} {base e T size n b : Nat} {v : Value} {xs : List Value} {c : Array Value} {f : Nat × Nat} (h : w.ownsRow base e size v n xs) (hb : w.heap[b]? = some (.cells c T f)) (hT : T ≠ e) : v.ownBlock ≠ some b := by
  rcases h.2 with ⟨rfl, _⟩ | ⟨g, cap, cur, rfl, _, hg, _⟩
  · simp [Value.ownBlock]
  · intro h2
    simp only [Value.ownBlock, Option.some.injEq] at h2
    subst h2
    rw [hg] at hb
    simp only [Option.some.injEq, Obj.cells.injEq] at hb
    exact hT hb.2.1.symm
theorem TagIn.next {w w6 w7 : World} {tb : Nat} {n s1 cur left a v : Str} {l : List (Str × Str)} {av : Value} {b : Option Addr} {cap : Nat} (h : TagIn w tb n s1 cur l av w6) (hg : w6.grownBy w7 av.ownBlock) (hr : w7.ownsRow w.heap.size 64 2 (.slice b (l.length + 1) cap) (l.length + 1) (acells l ++ [.string (bs a), .string (bs v)])) (he : attrsL [] s1 = attrsL (l ++ [(a, v)]) left) (hl : left.length < cur.length) :
    w7.heap[tb]? = some (.cells #[.int .i64 1, .string (bs n), av, .string ⟨#[]⟩] 54 (0, 0)) ∧ TagIn w tb n s1 left (l ++ [(a, v)]) (.slice b (l.length + 1) cap) (w7.setCell ⟨tb, 2, none⟩ (.slice b (l.length + 1) cap)) := by
  have hb7 := block_grown h.blk hg (fun e => own_ne h.row h.blk (by decide) e.symm)
  have hne := own_ne hr hb7 (by decide)
  have hF : Fr (fun _ => False) w w7 := h.fr.grown hg fun k hk => .inr (h.row.lt k hk).1
  have e2 : (l ++ [(a, v)]).length = l.length + 1 := by simp
  refine ⟨hb7, ⟨he, by rw [e2]; have := h.len; omega, block_set hb7 2 _, ?_, Fr.setCell (p := ⟨tb, 2, none⟩) hF (.inr h.low) _, h.low⟩⟩
  rw [e2, ← acells_app]
  exact ownsRow_keep hr fun k hk => block_set_ne (fun e => hne (by rw [hk, e]))
theorem row_two {W : World} {B : Nat} {n : Str} {av : Value} {l : List (Str × Str)} (h : W.ownsRow B 64 2 av l.length (acells l)) (hB : B ≤ W.heap.size) :
    Toks B (W.alloc (.cells #[.int .i64 1, .string (bs n), av, .string ⟨#[]⟩, .int .i64 2, .string (bs n), .slice none 0 0, .string ⟨#[]⟩] 54)) (.slice (some ⟨W.heap.size, 0, none⟩) 2 2) [⟨1, n, l, []⟩, ⟨2, n, [], []⟩] := by
  refine ⟨[(⟨1, n, l, []⟩, av), (⟨2, n, [], []⟩, .slice none 0 0)], rfl, ⟨rfl, .inr ⟨_, 2, _, rfl, hB, block_new _ _, by simp, by unfold maxLen; omega, rfl, rfl⟩⟩, fun p hp => ?_⟩
  have hF : Fr (fun _ => False) W (W.alloc (.cells #[.int .i64 1, .string (bs n), av, .string ⟨#[]⟩, .int .i64 2, .string (bs n), .slice none 0 0, .string ⟨#[]⟩] 54)) := (Fr.refl _ _).alloc _
  simp at hp
  rcases hp with rfl | rfl
  · exact ownsRow_fr h hF
  · exact World.ownsRow_nil _ _ _ _
theorem row_one {W : World} {B : Nat} {k : Int} {n tx : Str} {av : Value} {l : List (Str × Str)} (h : W.ownsRow B 64 2 av l.length (acells l)) (hB : B ≤ W.heap.size) :
    Toks B (W.alloc (.cells #[.int .i64 k, .string (bs n), av, .string (bs tx)] 54)) (.slice (some ⟨W.heap.size, 0, none⟩) 1 1) [⟨k, n, l, tx⟩] := by
  refine ⟨[(⟨k, n, l, tx⟩, av)], rfl, ⟨rfl, .inr ⟨_, 1, _, rfl, hB, block_new _ _, by simp, by unfold maxLen; omega, rfl, rfl⟩⟩, fun p hp => ?_⟩
  have hF : Fr (fun _ => False) W (W.alloc (.cells #[.int .i64 k, .string (bs n), av, .string (bs tx)] 54)) := (Fr.refl _ _).alloc _
  simp at hp
  subst hp
  exact ownsRow_fr h hF
set_option maxRecDepth 100000 in
set_option maxHeartbeats 8000000 in
theorem tag_h {w : World} (hE : Env w) (s : Str) (hs : s.length ≤ 1000000) : Calls Tryz.prog 113 #[.string (bs s)] w (TagPost s w) := by
  have HN := Lib.hid (name_h (w := w) s (by omega))
  have hnl := name_le s
  obtain ⟨n, hn⟩ : ∃ n, nameL s = n := ⟨_, rfl⟩
  obtain ⟨s1, hs1⟩ : ∃ s1, s.drop n.length = s1 := ⟨_, rfl⟩
  have hl1 : s1.length ≤ 1000000 := by rw [← hs1, List.length_drop]; omega
  rw [hn] at HN hnl
  rw [hs1] at HN
  have HNS := Lib.hid (And.intro hn hs1)
  clear hn hs1
  by_cases hn0 : n = []
  · have HT := Lib.hid (show tagL s = none from by unfold tagL; rw [HNS.out.1, hn0]; rfl)
    have htn : (bs n).toList = [] := by rw [bs_toList]; exact hn0
    clear hn0
    go_enter Tryz.func113, Tryz.ntmps113
    go_wp2_with fail
    go_step3
    go_wp2_with fail
    refine HN.out.mono ?_
    rintro e w1 ⟨rfl, k1, rfl⟩
    go_wp2_with fail
    (try rw [Exit.noGoto_ret])
    go_ret3
    refine ⟨?_, (Fr.refl _ _).drewN k1⟩
    rw [HT.out]; rfl
  have HT := Lib.hid (show tagL s = match attrsL [] s1 with | none => none | some (l, true, rest) => some ([⟨1, n, l, []⟩, ⟨2, n, [], []⟩], rest) | some (l, false, rest) => some ([⟨1, n, l, []⟩], rest) from by
    unfold tagL; rw [HNS.out.1, if_neg (by simpa using hn0), HNS.out.2, attrsL_eq (by rw [← HNS.out.2, List.length_drop]; omega)]; rfl)
  have htn : ¬ (bs n).toList = [] := by rw [bs_toList]; exact hn0
  have htn2 : (bs n).toList.isEmpty = false := by rw [bs_toList]; simpa using hn0
  clear hn0
  go_enter Tryz.func113, Tryz.ntmps113
  go_wp2_with fail
  go_step3
  go_wp2_with fail
  refine HN.out.mono ?_
  rintro e w1 ⟨rfl, k1, hw1⟩
  have HF1 := Lib.hid (show Fr (fun _ => False) w w1 from by rw [hw1]; exact (Fr.refl _ _).drewN k1)
  clear hw1
  go_wp2_with fail
  go_step3
  go_wp2_with fail
  have HI0 := Lib.hid (show TagIn w w1.heap.size n s1 s1 [] (.slice none 0 0) (w1.alloc (.cells #[.int .i64 1, .string (bs n), .slice none 0 0, .string ⟨#[]⟩] 54)) from
    ⟨rfl, by simp, block_new _ _, World.ownsRow_nil _ _ _ _, HF1.out.alloc _, HF1.out.size⟩)
  go_loopg [0] s1.length (fun j v wr => ∃ cur l av, j = cur.length ∧ v = .string (bs cur) ∧ TagIn w w1.heap.size n s1 cur l av wr)
  case atStart => exact ⟨s1, [], _, rfl, rfl, HI0.out⟩
  case round =>
    obtain ⟨cur, l, av, hj, rfl, hI⟩ := hrel
    have hcl := hI.len
    have HI := Lib.hid (And.intro hj hI)
    clear hj hI HI0
    have htl := trim_le cur
    obtain ⟨r, hr⟩ : ∃ r, trimL cur = r := ⟨_, rfl⟩
    have HTR := Lib.hid (fun (W : World) => trim_h (w := W) (s := cur))
    rw [hr] at HTR htl
    have HST := Lib.hid (attrsL_step l cur)
    rw [hr] at HST
    clear hr
    have hrz : (bs r).size = r.length := rfl
    have hcz : (bs cur).size = cur.length := rfl
    cases hp : ([47, 62] : Str).isPrefixOf r with
    | true =>
      have HP1 := Lib.hid (fun (W : World) => hasp_h (w := W) (s := r) (p := [47, 62]))
      rw [hp] at HP1
      have hr2 : 2 ≤ r.length := by
        have := (List.isPrefixOf_iff_prefix.1 hp).length_le; simpa using this
      have HRES := Lib.hid (show tagL s = some ([⟨1, n, l, []⟩, ⟨2, n, [], []⟩], r.drop 2) from by rw [HT.out, HI.out.2.eq, HST.out, if_pos hp])
      have hx := bs_drop r 2
      clear hp
      go_wp2_with fail
      refine (HTR.out _).mono ?_
      rintro e w2 ⟨rfl, hF2⟩
      have HI2 := Lib.hid (HI.out.2.fr2 hF2)
      have hblk := HI2.out.blk
      have c0 := cell_of hblk (i := 0) (v := _) rfl
      have c1 := cell_of hblk (i := 1) (v := _) rfl
      have c2 := cell_of hblk (i := 2) (v := _) rfl
      have c3 := cell_of hblk (i := 3) (v := _) rfl
      clear hF2 hblk
      go_wp2_with fail
      refine (HP1.out _).mono ?_
      rintro e w3 ⟨rfl, rfl⟩
      go_wp2_with fail
      go_region
      go_wp2_with fail
      rw [Exit.noGoto_ret]
      go_ret3
      refine ⟨?_, ?_⟩
      · rw [HRES.out]
        exact ⟨_, rfl, row_two HI2.out.row HI2.out.fr.size⟩
      · exact (HI2.out.fr.alloc _).drew
    | false =>
      have HP1 := Lib.hid (fun (W : World) => hasp_h (w := W) (s := r) (p := [47, 62]))
      rw [hp] at HP1
      cases hp2 : ([62] : Str).isPrefixOf r with
      | true =>
        have HP2 := Lib.hid (fun (W : World) => hasp_h (w := W) (s := r) (p := [62]))
        rw [hp2] at HP2
        have hr2 : 1 ≤ r.length := by
          have := (List.isPrefixOf_iff_prefix.1 hp2).length_le; simpa using this
        have HRES := Lib.hid (show tagL s = some ([⟨1, n, l, []⟩], r.tail) from by rw [HT.out, HI.out.2.eq, HST.out, if_neg (by rw [hp]; simp), if_pos hp2, List.drop_one])
        have hx := bs_drop r 1
        rw [List.drop_one] at hx
        clear hp hp2
        go_wp2_with fail
        refine (HTR.out _).mono ?_
        rintro e w2 ⟨rfl, hF2⟩
        have HI2 := Lib.hid (HI.out.2.fr2 hF2)
        have hblk := HI2.out.blk
        have c0 := cell_of hblk (i := 0) (v := _) rfl
        have c1 := cell_of hblk (i := 1) (v := _) rfl
        have c2 := cell_of hblk (i := 2) (v := _) rfl
        have c3 := cell_of hblk (i := 3) (v := _) rfl
        clear hF2 hblk
        go_wp2_with fail
        refine (HP1.out _).mono ?_
        rintro e w3 ⟨rfl, rfl⟩
        go_wp2_with fail
        refine (HP2.out _).mono ?_
        rintro e w3 ⟨rfl, rfl⟩
        go_wp2_with fail
        go_region
        go_wp2_with fail
        rw [Exit.noGoto_ret]
        go_ret3
        refine ⟨?_, ?_⟩
        · rw [HRES.out]
          exact ⟨_, rfl, row_one (k := 1) (tx := []) HI2.out.row HI2.out.fr.size⟩
        · exact (HI2.out.fr.alloc _).drew
      | false =>
        have HP2 := Lib.hid (fun (W : World) => hasp_h (w := W) (s := r) (p := [62]))
        rw [hp2] at HP2
        by_cases hlen : r.length = cur.length
        · have HRES := Lib.hid (show tagL s = none from by rw [HT.out, HI.out.2.eq, HST.out, if_neg (by rw [hp]; simp), if_neg (by rw [hp2]; simp), if_pos hlen])
          have hle : decide (r.length = cur.length) = true := by rw [decide_eq_true_iff]; exact hlen
          have hle2 : ((r.length : Int) == (cur.length : Int)) = true := by rw [beq_iff_eq]; omega
          clear hp hp2 hlen
          go_wp2_with fail
          refine (HTR.out _).mono ?_
          rintro e w2 ⟨rfl, hF2⟩
          have HI2 := Lib.hid (HI.out.2.fr2 hF2)
          clear hF2
          go_wp2_with fail
          refine (HP1.out _).mono ?_
          rintro e w3 ⟨rfl, rfl⟩
          go_wp2_with fail
          refine (HP2.out _).mono ?_
          rintro e w3 ⟨rfl, rfl⟩
          go_wp2_with fail
          rw [Exit.noGoto_ret]
          go_ret3
          exact ⟨by rw [HRES.out] <;> rfl, HI2.out.fr⟩
        have hle : ((r.length : Int) == (cur.length : Int)) = false := by rw [beq_eq_false_iff_ne]; omega
        have hle3 : decide (r.length = cur.length) = false := by rw [decide_eq_false_iff_not]; exact hlen
        have HST2 := Lib.hid (show attrsL [] s1 = attrNext l r from by
          rw [HI.out.2.eq, HST.out, if_neg (by rw [hp]; simp), if_neg (by rw [hp2]; simp), if_neg hlen]; rfl)
        have hrl : r.length ≤ 1000000 := by omega
        have HAT := Lib.hid (fun (W : World) (hW : Env W) => attr_h hW r hrl)
        have hlt : r.length < cur.length := by omega
        clear hp hp2 hlen
        have hmf : ∀ (fn : Fn) (first cap : Array Value) (w : World), (Instr.makeFunc fn first cap).run Tryz.prog w = .ok (.func fn first cap) w := fun _ _ _ _ => rfl
        cases hat : attrL r with
        | none =>
          have HRES := Lib.hid (show tagL s = none from by rw [HT.out, HST2.out, next_none hat])
          have HA := Lib.hid hat
          clear hat
          go_wp2_with fail
          refine (HTR.out _).mono ?_
          rintro e w2 ⟨rfl, hF2⟩
          have HI2 := Lib.hid (HI.out.2.fr2 hF2)
          clear hF2
          go_wp2_with fail
          refine (HP1.out _).mono ?_
          rintro e w3 ⟨rfl, rfl⟩
          go_wp2_with fail
          refine (HP2.out _).mono ?_
          rintro e w3 ⟨rfl, rfl⟩
          go_wp2_with fail
          refine (HAT.out _ (hE.grow HI2.out.fr)).mono ?_
          rintro e w4 ⟨he, hF4⟩
          rw [HA.out] at he
          obtain ⟨a, v, r', rfl⟩ := he
          have HI4 := Lib.hid (HI2.out.fr2 hF4)
          clear hF4
          go_wp2_with fail
          rw [Exit.noGoto_ret]
          go_ret3
          exact ⟨by rw [HRES.out] <;> rfl, HI4.out.fr.alloc _⟩
        | some avl =>
          obtain ⟨a, v, left⟩ := avl
          have HA := Lib.hid hat
          have hleft := attrL_len hat
          clear hat
          cases hdup : (l.any fun b => b.1 == a) with
          | true =>
            have HRES := Lib.hid (show tagL s = none from by rw [HT.out, HST2.out, next_dup HA.out hdup])
            have HD := Lib.hid hdup
            clear hdup
            go_wp2_with fail
            refine (HTR.out _).mono ?_
            rintro e w2 ⟨rfl, hF2⟩
            have HI2 := Lib.hid (HI.out.2.fr2 hF2)
            clear hF2
            go_wp2_with fail
            refine (HP1.out _).mono ?_
            rintro e w3 ⟨rfl, rfl⟩
            go_wp2_with fail
            refine (HP2.out _).mono ?_
            rintro e w3 ⟨rfl, rfl⟩
            go_wp2_with fail
            refine (HAT.out _ (hE.grow HI2.out.fr)).mono ?_
            rintro e w4 ⟨he, hF4⟩
            rw [HA.out] at he
            subst he
            have HI5 := Lib.hid ((HI2.out.fr2 hF4).fr2 ((Fr.refl _ _).alloc (.cells #[.string (bs a), .string (bs v)] 64)))
            have hab : (w4.alloc (.cells #[.string (bs a), .string (bs v)] 64)).heap[w4.heap.size]? = some (.cells #[.string (bs a), .string (bs v)] 64 (0, 0)) := block_new _ _
            have c2 := cell_of HI5.out.blk (i := 2) (v := _) rfl
            have HH := Lib.hid (hasa_h (SRow.of_owns HI5.out.row) (by omega) hab)
            rw [HD.out] at HH
            clear hF4 hab
            go_wp2_with fail
            refine HH.out.mono ?_
            rintro e w6 ⟨rfl, hF6⟩
            have HF6 := Lib.hid (HI5.out.fr.next hF6)
            clear hF6
            go_wp2_with fail
            rw [Exit.noGoto_ret]
            go_ret3
            exact ⟨by rw [HRES.out] <;> rfl, HF6.out⟩
          | false =>
            have HNX := Lib.hid (show attrsL [] s1 = attrsL (l ++ [(a, v)]) left from by rw [HST2.out, next_new HA.out hdup])
            have HD := Lib.hid hdup
            clear hdup
            obtain ⟨i0, hi0, hz0, hz1, hz2⟩ := info_parts info64
            go_wp2_with fail
            refine (HTR.out _).mono ?_
            rintro e w2 ⟨rfl, hF2⟩
            have HI2 := Lib.hid (HI.out.2.fr2 hF2)
            clear hF2
            go_wp2_with fail
            refine (HP1.out _).mono ?_
            rintro e w3 ⟨rfl, rfl⟩
            go_wp2_with fail
            refine (HP2.out _).mono ?_
            rintro e w3 ⟨rfl, rfl⟩
            go_wp2_with fail
            refine (HAT.out _ (hE.grow HI2.out.fr)).mono ?_
            rintro e w4 ⟨he, hF4⟩
            rw [HA.out] at he
            subst he
            have HI5 := Lib.hid ((HI2.out.fr2 hF4).fr2 ((Fr.refl _ _).alloc (.cells #[.string (bs a), .string (bs v)] 64)))
            have hab : (w4.alloc (.cells #[.string (bs a), .string (bs v)] 64)).heap[w4.heap.size]? = some (.cells #[.string (bs a), .string (bs v)] 64 (0, 0)) := block_new _ _
            have c2 := cell_of HI5.out.blk (i := 2) (v := _) rfl
            have HH := Lib.hid (hasa_h (SRow.of_owns HI5.out.row) (by omega) hab)
            rw [HD.out] at HH
            have HAB := Lib.hid hab
            clear hF4 hab
            go_wp2_with fail
            refine HH.out.mono ?_
            rintro e w6 ⟨rfl, hF6⟩
            have HI6 := Lib.hid (HI5.out.fr2 hF6)
            have hab6 := hF6.keep HAB.out (fun h => h)
            clear hF6 c2
            have c2 := cell_of HI6.out.blk (i := 2) (v := _) rfl
            have f2 := free_of 2 HI6.out.blk
            have d0 := cell_of hab6 (i := 0) (v := _) rfl
            have d1 := cell_of hab6 (i := 1) (v := _) rfl
            clear hab6
            have hal : Fr (fun _ => False) w6 (w6.alloc (.cells #[.string (bs a), .string (bs v)] 64)) := (Fr.refl _ _).alloc _
            have HI7 := Lib.hid (HI6.out.fr2 hal)
            clear hal
            go_wp2_with (at_builtin; refine wpList_append_row rfl (.tmp 59) (.tmp 61) 27 rfl w.heap.size 64 i0 (.agg #[.string ⟨#[]⟩, .string ⟨#[]⟩]) 2 32 Tryz.underlying27 hi0 hz0 hz1 hz2 rfl (by decide) av l.length (acells l) rfl HI7.out.row (fun k => k = w6.heap.size) (.slice (some ⟨w6.heap.size, 0, none⟩) 1 1) 1 [.string (bs a), .string (bs v)] rfl (SRow.of_block (block_new _ _) rfl (by unfold maxLen; omega) rfl) (by intro u hu; simp at hu; rcases hu with rfl | rfl <;> rfl) (by unfold maxLen; omega) (by omega) HI7.out.fr.size ?_; intro b7 cap7 w7 hown7 hgrow7 _; obtain ⟨hb7, hT7⟩ := HI7.out.next hgrow7 hown7 HNX.out (by omega); have HT7 := Lib.hid hT7; have g2 := cell_of hb7 (i := 2) (v := _) rfl; have j2 := free_of 2 hb7; clear hown7 hgrow7 hT7 hb7 c2 f2 d0 d1)
            go_roundg left.length
            case measure => have := HI.out.1; omega
            case rel => exact ⟨left, l ++ [(a, v)], _, rfl, rfl, HT7.out⟩
end Go.Proofs.YtpinjgdnhbogoaaGreatDoor
