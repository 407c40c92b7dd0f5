/- Read, walked. -/
import Derived.Test.YtpinjgdnhbogoaaGreatDoorV4
namespace Go.Proofs.YtpinjgdnhbogoaaGreatDoor
open Go.RowKit Go.Lib

/-- the whole answer, in memory -/
def ReadPost (s : Str) (w : World) (e : Ending) (w' : World) : Prop :=
  (∃ v, e = .returned (.tuple #[v, .int .i64 (readD s).2.1, .int .i64 (readD s).2.2]) ∧ Toks w.heap.size w' v (readD s).1) ∧ Fr (fun _ => False) w w'
theorem read_post {s : Str} {l : List TokD} {a b : Int} {v : Value} {w w' : World} (h : readD s = (l, a, b)) (ht : Toks w.heap.size w' v l) (hf : Fr (fun _ => False) w w') : ReadPost s w (.returned (.tuple #[v, .int .i64 a, .int .i64 b])) w' := by
  unfold ReadPost; rw [h]; exact ⟨⟨v, rfl, ht⟩, hf⟩
def RdRel (s : Str) (w : World) (cur : Str) (wr : World) : Prop := ∃ l words lv, RdTo s l words cur ∧ RIn w lv l words wr
set_option maxRecDepth 100000 in
set_option maxHeartbeats 16000000 in
theorem read_h {w : World} (hE : Env w) (s : Str) (hs : s.length ≤ 1000000) : Calls Tryz.prog 35 #[.string (bs s)] w (ReadPost s w) := by
  have hsz : (bs s).size = s.length := rfl
  have hW := hE.size
  by_cases hlong : 20000 < s.length
  · have HD := Lib.hid (readD_big hlong)
    go_enter Tryz.func35, Tryz.ntmps35
    go_wp2_with fail
    go_ret3
    exact read_post HD.out (Toks.nil _ _) (Fr.refl _ _)
  have HD := Lib.hid (readD_short (s := s) (by omega))
  have hmf : ∀ (fn : Fn) (first cap : Array Value) (w : World), (Instr.makeFunc fn first cap).run Tryz.prog w = .ok (.func fn first cap) w := fun _ _ _ _ => rfl
  have hR0 : RIn w (.slice none 0 0) [] [] ((w.alloc (.cells #[.slice none 0 0] 22)).alloc (.cells #[.pointer none, .slice none 0 0] 115)) := by
    refine ⟨block_old (block_new _ _) _, Toks.nil _ _, ?_, ((Below.refl _ _).alloc (Nat.le_refl _) _).alloc (by simp) _, by simp⟩
    exact isB_new (w.alloc (.cells #[.slice none 0 0] 22)) (w.heap.size + 1) (by simp)
  have HR0 := Lib.hid hR0
  clear hR0
  go_enter Tryz.func35, Tryz.ntmps35
  go_wp2_with fail
  go_loopg [8] s.length (fun j v wr => ∃ cur, j = cur.length ∧ v = .string (bs cur) ∧ RdRel s w cur wr)
  case atStart => exact ⟨s, rfl, rfl, [], [], _, RdTo.zero s, HR0.out⟩
  case round =>
    obtain ⟨cur, hj, rfl, l, words, lv, hT, hI⟩ := hrel
    have hb1 := hT.len
    have hb2 := hT.lenL
    have hb3 := hT.lenW
    have hll : l.length ≤ 1000000 := by omega
    have hwl : words.length ≤ 100000000 := by omega
    have hcz : (bs cur).size = cur.length := rfl
    have hEr := hE.below hI.low hW
    have hbig := hI.big
    have HT := Lib.hid (And.intro hj (And.intro hT hI))
    clear hj hT hI HR0
    have hcases : cur = [] ∨ ∃ c t, cur = c :: t := by cases cur with | nil => exact .inl rfl | cons c t => exact .inr ⟨c, t, rfl⟩
    rcases hcases with hcur | ⟨c, t, hcur⟩
    · subst hcur
      have hte : (bs ([] : Str)).toList = [] := by rw [bs_toList]
      have hte2 : (bs ([] : Str)).toList.isEmpty = true := by rw [bs_toList]; rfl
      have HRL := Lib.hid (HT.out.2.1.last)
      have HFL := Lib.hid (flush_h HT.out.2.2 hll hwl)
      go_wp2_with fail
      refine HFL.out.mono ?_
      rintro e w5 ⟨rfl, ⟨lv5, hR5⟩, _⟩
      have HR5 := Lib.hid hR5
      have c5 := cell_of hR5.blk (i := 0) (v := lv5) rfl
      clear hR5
      go_wp2_with fail
      go_ret3
      exact read_post (by rw [HD.out, HRL.out] <;> rfl) HR5.out.tok (fr_new HR5.out.low)
    · have hcl : 0 < cur.length := by rw [hcur]; simp
      have hte : ¬ (bs cur).toList = [] := by rw [bs_toList, hcur]; simp
      have hte2 : (bs cur).toList.isEmpty = false := by rw [bs_toList, hcur]; rfl
      have hcurl : cur.length ≤ 1000000 := by omega
      obtain ⟨at_, hat⟩ : ∃ at_ : Nat, s.length - cur.length = at_ := ⟨_, rfl⟩
      have hwat : IntKind.i64.wrap ((s.length : Int) - (cur.length : Int)) = (at_ : Int) := by rw [IntWalk.i64_in _ (by omega)]; omega
      have hwat2 : (s.length : Int) - (cur.length : Int) = (at_ : Int) := by omega
      have HAT := Lib.hid hat
      have hatb : at_ ≤ 1000000 := by omega
      clear hat
      have HIX := Lib.hid (Tryz.strings_IndexByte (bs cur) 60 wr)
      rw [show ((60 : Int)).toNat.toUInt8 = 60 from rfl, bs_data, idx_lib] at HIX
      by_cases h60 : c = 60
      · subst h60
        rw [show (cur.takeWhile (fun x => decide (x ≠ 60))).length = 0 by rw [hcur]; rfl, if_pos (by omega)] at HIX
        have HPT := Lib.hid (part_h hEr cur hcurl (by omega))
        have HCU := Lib.hid hcur
        clear hcur
        cases hp : partL cur with
        | none =>
          have HP := Lib.hid hp
          have HRB := Lib.hid (show readL s = .error at_ from by
            have h1 := HT.out.2.1
            rw [HCU.out] at h1
            have h2 := h1.partBad (by rw [← HCU.out]; exact hp)
            rw [h2, ← HCU.out, HAT.out])
          clear hp
          go_wp2_with fail
          refine HIX.out.mono ?_
          rintro e w1 ⟨rfl, hw1⟩
          subst hw1
          go_wp2_with fail
          refine HPT.out.mono ?_
          rintro e w2 ⟨he, hF2⟩
          rw [HP.out] at he
          obtain ⟨u, v, r, rfl⟩ := he
          have HF2 := Lib.hid (HT.out.2.2.low.trans (hF2.below HT.out.2.2.low.size (fun _ h => h.elim)))
          clear hF2
          go_wp2_with fail
          go_ret3
          exact read_post (by rw [HD.out, HRB.out] <;> rfl) (Toks.nil _ _) (fr_new HF2.out)
        | some q =>
          obtain ⟨u, toks, left⟩ := q
          have HP := Lib.hid hp
          have hleft := partL_len hp
          have hpo := partL_out hp
          clear hp
          have hul : u.length ≤ 100000000 := by omega
          have htcases : toks = [] ∨ toks ≠ [] := Classical.em _
          rcases htcases with htk | htk
          · have HNX := Lib.hid (show RdTo s l (words ++ u) left from by
              have h1 := HT.out.2.1
              rw [HCU.out] at h1
              exact h1.part0 (by rw [← HCU.out, ← htk]; exact HP.out))
            have HTK := Lib.hid htk
            clear htk
            go_wp2_with fail
            refine HIX.out.mono ?_
            rintro e w1 ⟨rfl, hw1⟩
            subst hw1
            go_wp2_with fail
            refine HPT.out.mono ?_
            rintro e w2 ⟨he, hF2⟩
            rw [HP.out] at he
            obtain ⟨v, rfl, htv⟩ := he
            obtain ⟨va, vc, rfl⟩ := htv.shape
            have htl : toks.length = 0 := by rw [HTK.out]; rfl
            rw [htl]
            have HI2 := Lib.hid (HT.out.2.2.fr hF2)
            clear hF2 htv htl
            go_wp2_with fail
            refine (bput (l := words) (a := u) HI2.out.bld (by omega) (by have := HI2.out.big; omega)).mono ?_
            rintro e w3 ⟨rfl, hI3, hb3, hk3⟩
            have HI3 := Lib.hid (HI2.out.bw hI3 hb3 hk3)
            clear hI3 hb3 hk3
            go_wp2_with fail
            go_roundg left.length
            case measure => have := HT.out.1; omega
            case rel => exact ⟨left, rfl, rfl, l, _, _, HNX.out, HI3.out⟩
          · have htpos : 0 < toks.length := by cases toks with | nil => exact absurd rfl htk | cons _ _ => simp
            have HNX := Lib.hid (show RdTo s (flushL l (words ++ u) ++ toks) [] left from by
              have h1 := HT.out.2.1
              rw [HCU.out] at h1
              exact h1.part1 (by rw [← HCU.out]; exact HP.out) htk)
            have htk2 := hpo.2
            have hwu : (words ++ u).length ≤ 100000000 := by simp; omega
            have hll2 : (flushL l (words ++ u)).length ≤ 1000000 := by have := flush_len l (words ++ u); omega
            clear htk hpo
            obtain ⟨i0, hi0, hz0, hz1, hz2⟩ := info_parts info54
            go_wp2_with fail
            refine HIX.out.mono ?_
            rintro e w1 ⟨rfl, hw1⟩
            subst hw1
            go_wp2_with fail
            refine HPT.out.mono ?_
            rintro e w2 ⟨he, hF2⟩
            rw [HP.out] at he
            obtain ⟨v, rfl, htv⟩ := he
            obtain ⟨va, vc, rfl⟩ := htv.shape
            have HI2 := Lib.hid (HT.out.2.2.fr hF2)
            have HTV := Lib.hid htv
            clear hF2 htv
            go_wp2_with fail
            refine (bput (l := words) (a := u) HI2.out.bld (by omega) (by have := HI2.out.big; omega)).mono ?_
            rintro e w3 ⟨rfl, hI3, hb3, hk3⟩
            have HTV3 := Lib.hid (HTV.out.others hk3 hb3.size (isB_block HI2.out.bld))
            have HI3 := Lib.hid (HI2.out.bw hI3 hb3 hk3)
            clear hI3 hb3 hk3
            go_wp2_with fail
            refine (flush_h HI3.out hll hwu).mono ?_
            rintro e w4 ⟨rfl, ⟨lv4, hR4⟩, hkx⟩
            have HTV4 := Lib.hid (HTV3.out.keptX hkx (by omega) (by omega) (fun k hk => by
              obtain ⟨ps, h1, h2, _⟩ := HT.out.2.2.tok
              exact (h2.lt k hk).2))
            have HI4 := Lib.hid hR4
            obtain ⟨ps, hps, hrow, hatt⟩ := hR4.tok
            obtain ⟨qs, hqs, hrowq, hattq⟩ := HTV4.out
            have hpl : ps.length ≤ 1000000 := Nat.le_trans (Nat.le_of_eq ((List.length_map _).symm.trans (congrArg List.length hps))) hll2
            have hql : qs.length = toks.length := (List.length_map _).symm.trans (congrArg List.length hqs)
            rw [hql] at hrowq
            have hql2 : qs.length ≤ 2 := by omega
            have HP4 := Lib.hid (And.intro hps (And.intro hrow hatt))
            have HQ4 := Lib.hid (And.intro hqs (And.intro hql (And.intro hrowq hattq)))
            have c4 := cell_of hR4.blk (i := 0) (v := lv4) rfl
            have hsz4 := hR4.low.size
            have hone := tcells_one' hattq
            clear hkx hR4 hps hrow hatt hqs hrowq hattq hql
            go_wp2_with (at_builtin; refine wpList_append_row rfl (.tmp 71) (.tmp 72) 22 rfl w.heap.size 54 i0 (.agg #[.int .i64 0, .string ⟨#[]⟩, .slice none 0 0, .string ⟨#[]⟩]) 4 64 Tryz.underlying22 hi0 hz0 hz1 hz2 rfl (by decide) lv4 ps.length (tcells ps) rfl HP4.out.2.1 _ _ toks.length (tcells qs) rfl (SRow.of_owns HQ4.out.2.2.1) hone (by unfold maxLen; omega) (by omega) hsz4 ?_; intro b7 cap7 w7 hown7 hgrow7 _; rw [← HQ4.out.2.1] at hown7; obtain ⟨hb7, hR7⟩ := HI4.out.push HP4.out.1 HP4.out.2.1 HP4.out.2.2 (qs := qs) (fun p hp => ownsRow_base (HQ4.out.2.2.2 p hp) (by omega)) hgrow7 hown7; rw [HQ4.out.1, HQ4.out.2.1] at hR7; have HR7 := Lib.hid hR7; have g7 := cell_of hb7 (i := 0) (v := lv4) rfl; have j7 := free_of 0 hb7; clear hown7 hgrow7 hb7 hR7 c4)
            go_roundg left.length
            case measure => have := HT.out.1; omega
            case rel => exact ⟨left, rfl, rfl, _, _, _, HNX.out, HR7.out⟩
      · obtain ⟨seg, hseg⟩ : ∃ seg, cur.takeWhile (fun x => decide (x ≠ 60)) = seg := ⟨_, rfl⟩
        obtain ⟨rest, hrest⟩ : ∃ rest, cur.dropWhile (fun x => decide (x ≠ 60)) = rest := ⟨_, rfl⟩
        have hcat : cur = seg ++ rest := by rw [← hseg, ← hrest, List.takeWhile_append_dropWhile]
        have hs0 : seg ≠ [] := by rw [← hseg, hcur, List.takeWhile_cons_of_pos (by simpa using h60)]; simp
        have hs1 : 60 ∉ seg := by
          intro h
          have := List.all_eq_true.1 (List.all_takeWhile (l := cur) (p := fun x => decide (x ≠ 60))) 60 (by rw [hseg]; exact h)
          simp at this
        have hs2 : rest = [] ∨ ∃ t, rest = 60 :: t := by
          have h := List.head?_dropWhile_not (fun x => decide (x ≠ (60 : UInt8))) cur
          rw [hrest] at h
          cases rest with
          | nil => exact .inl rfl
          | cons x y =>
            have : x = 60 := by simpa using h
            rw [this]; exact .inr ⟨y, rfl⟩
        have HSEG := Lib.hid (And.intro hs0 (And.intro hs1 hs2))
        have hsl : 0 < seg.length := by cases seg with | nil => exact absurd rfl hs0 | cons _ _ => simp
        have hcl2 : cur.length = seg.length + rest.length := by rw [hcat, List.length_append]
        have HSA := Lib.hid (said_h hEr seg (by omega))
        have hx1 : (bs cur).extract 0 seg.length = bs seg := by rw [bs_take, hcat, List.take_left]
        have hx2 : (bs cur).extract seg.length cur.length = bs rest := by rw [bs_drop]; rw [hcat, List.drop_left]
        have HCU := Lib.hid hcat
        have hm1 : rest.length < cur.length := by omega
        have hm2 : seg.length ≤ cur.length := by omega
        rw [hseg] at HIX
        clear hseg hrest hcat hs0 hs1 hs2 hcur
        by_cases hend : seg.length < cur.length
        · rw [if_pos hend] at HIX
          clear hcl2
          have hn1 : ((seg.length : Int) == 0) = false := by rw [beq_eq_false_iff_ne]; omega
          go_wp2_with fail
          refine HIX.out.mono ?_
          rintro e w1 ⟨rfl, hw1⟩
          subst hw1
          go_wp2_with fail
          cases hsd : saidL seg with
          | error j =>
            have HSD := Lib.hid hsd
            have HRB := Lib.hid (show readL s = .error (at_ + j) from by
              have h1 := HT.out.2.1
              rw [HCU.out] at h1
              rw [h1.textBad HSEG.out.1 HSEG.out.2.1 HSEG.out.2.2 hsd, ← HCU.out, HAT.out])
            have hjb := said_place _ _ (Nat.lt_succ_self _) hsd
            obtain ⟨pl, hpl⟩ : ∃ pl : Nat, at_ + j = pl := ⟨_, rfl⟩
            rw [hpl] at HRB
            have hwj2 : (at_ : Int) + (j : Int) = (pl : Int) := by omega
            have hwj : IntKind.i64.wrap ((at_ : Int) + (j : Int)) = (pl : Int) := by rw [IntWalk.i64_in _ (by omega)]; omega
            clear hpl
            have hj0 : (0 : Int) ≤ (j : Int) := Int.natCast_nonneg j
            have hj1 : decide ((0 : Int) ≤ (j : Int)) = true := decide_eq_true hj0
            clear hsd
            refine HSA.out.mono ?_
            rintro e w2 ⟨he, hF2⟩
            rw [HSD.out] at he
            subst he
            have HF2 := Lib.hid (HT.out.2.2.low.trans (hF2.below HT.out.2.2.low.size (fun _ h => h.elim)))
            clear hF2
            go_wp2_with fail
            go_ret3
            exact read_post (by rw [HD.out, HRB.out] <;> rfl) (Toks.nil _ _) (fr_new HF2.out)
          | ok u =>
            have HSD := Lib.hid hsd
            have hul := said_len _ _ (Nat.lt_succ_self _) hsd
            have HNX := Lib.hid (show RdTo s l (words ++ u) rest from by
              have h1 := HT.out.2.1
              rw [HCU.out] at h1
              exact h1.text HSEG.out.1 HSEG.out.2.1 HSEG.out.2.2 hsd)
            clear hsd
            refine HSA.out.mono ?_
            rintro e w2 ⟨he, hF2⟩
            rw [HSD.out] at he
            subst he
            have HI2 := Lib.hid (HT.out.2.2.fr hF2)
            clear hF2
            go_wp2_with fail
            refine (bput (l := words) (a := u) HI2.out.bld (by omega) (by have := HI2.out.big; omega)).mono ?_
            rintro e w3 ⟨rfl, hI3, hb3, hk3⟩
            have HI3 := Lib.hid (HI2.out.bw hI3 hb3 hk3)
            clear hI3 hb3 hk3
            go_wp2_with fail
            go_roundg rest.length
            case measure => have := HT.out.1; omega
            case rel => exact ⟨rest, rfl, rfl, l, _, _, HNX.out, HI3.out⟩
        · rw [if_neg hend] at HIX
          have hse : seg.length = cur.length := by omega
          have HRE := Lib.hid (show rest = [] from List.eq_nil_of_length_eq_zero (by omega))
          rw [hse] at hx1 hx2
          clear hcl2
          go_wp2_with fail
          refine HIX.out.mono ?_
          rintro e w1 ⟨rfl, hw1⟩
          subst hw1
          go_wp2_with fail
          cases hsd : saidL seg with
          | error j =>
            have HSD := Lib.hid hsd
            have HRB := Lib.hid (show readL s = .error (at_ + j) from by
              have h1 := HT.out.2.1
              rw [HCU.out] at h1
              rw [h1.textBad HSEG.out.1 HSEG.out.2.1 HSEG.out.2.2 hsd, ← HCU.out, HAT.out])
            have hjb := said_place _ _ (Nat.lt_succ_self _) hsd
            obtain ⟨pl, hpl⟩ : ∃ pl : Nat, at_ + j = pl := ⟨_, rfl⟩
            rw [hpl] at HRB
            have hwj2 : (at_ : Int) + (j : Int) = (pl : Int) := by omega
            have hwj : IntKind.i64.wrap ((at_ : Int) + (j : Int)) = (pl : Int) := by rw [IntWalk.i64_in _ (by omega)]; omega
            clear hpl
            have hj0 : (0 : Int) ≤ (j : Int) := Int.natCast_nonneg j
            have hj1 : decide ((0 : Int) ≤ (j : Int)) = true := decide_eq_true hj0
            clear hsd
            refine HSA.out.mono ?_
            rintro e w2 ⟨he, hF2⟩
            rw [HSD.out] at he
            subst he
            have HF2 := Lib.hid (HT.out.2.2.low.trans (hF2.below HT.out.2.2.low.size (fun _ h => h.elim)))
            clear hF2
            go_wp2_with fail
            go_ret3
            exact read_post (by rw [HD.out, HRB.out] <;> rfl) (Toks.nil _ _) (fr_new HF2.out)
          | ok u =>
            have HSD := Lib.hid hsd
            have hul := said_len _ _ (Nat.lt_succ_self _) hsd
            have HNX := Lib.hid (show RdTo s l (words ++ u) rest from by
              have h1 := HT.out.2.1
              rw [HCU.out] at h1
              exact h1.text HSEG.out.1 HSEG.out.2.1 HSEG.out.2.2 hsd)
            clear hsd
            refine HSA.out.mono ?_
            rintro e w2 ⟨he, hF2⟩
            rw [HSD.out] at he
            subst he
            have HI2 := Lib.hid (HT.out.2.2.fr hF2)
            clear hF2
            go_wp2_with fail
            refine (bput (l := words) (a := u) HI2.out.bld (by omega) (by have := HI2.out.big; omega)).mono ?_
            rintro e w3 ⟨rfl, hI3, hb3, hk3⟩
            have HI3 := Lib.hid (HI2.out.bw hI3 hb3 hk3)
            clear hI3 hb3 hk3
            go_wp2_with fail
            go_roundg rest.length
            case measure => have := HT.out.1; omega
            case rel => exact ⟨rest, rfl, by rw [HRE.out]; rfl, l, _, _, HNX.out, HI3.out⟩
end Go.Proofs.YtpinjgdnhbogoaaGreatDoor
