/- The walk of the law AgendaPlays. -/
import Derived.Test.YtfmkdilllgncfaaTwo
import Derived.Test.YtfmkdilllgncfaaR3
import Derived.Deep.DeepCutAuto
import Derived.Deep.CutBlock
namespace Go.Proofs.Ytfmkdilllgncfaa
open Go.RowKit Go.Lib

/-- an act: what, when, which -/
def acells (l : List (Int × Int × Int)) : List Value := l.flatMap fun p => [.int .i64 p.1, .int .i64 p.2.1, .int .i64 p.2.2]
theorem acells_at {l : List (Int × Int × Int)} {i : Nat} {p : Int × Int × Int} (h : l[i]? = some p) : (acells l)[i * 3]? = some (.int .i64 p.1) ∧ (acells l)[i * 3 + 1]? = some (.int .i64 p.2.1) ∧ (acells l)[i * 3 + 2]? = some (.int .i64 p.2.2) := by
  induction l generalizing i with
  | nil => simp at h
  | cons q l ih =>
    have e : acells (q :: l) = .int .i64 q.1 :: .int .i64 q.2.1 :: .int .i64 q.2.2 :: acells l := by simp [acells]
    cases i with
    | zero => simp at h; subst h; rw [e]; simp
    | succ i =>
      have := ih (i := i) (by simpa using h)
      rw [e, show (i + 1) * 3 = i * 3 + 1 + 1 + 1 from by omega]
      simpa using this
def AR (w : World) (S : Nat → Prop) (v : Value) (l : List (Int × Int × Int)) : Prop := SRow w S 3 v l.length (acells l)
theorem AR.form {w : World} {S : Nat → Prop} {v : Value} {l : List (Int × Int × Int)} (h : AR w S v l) : ∃ a cap, v = .slice a l.length cap := let ⟨_, a, cap, h2, _⟩ := h; ⟨a, cap, h2⟩
theorem AR.cells {w : World} {S : Nat → Prop} {a : Option Addr} {cap : Nat} {l : List (Int × Int × Int)} (h : AR w S (.slice a l.length cap) l) (hn : 0 < l.length) :
    ∃ g off, a = some ⟨g, off, none⟩ ∧ ∀ i p, l[i]? = some p → w.cell? ⟨g, off + i * 3, none⟩ = some (.int .i64 p.1) ∧ w.cell? ⟨g, off + i * 3 + 1, none⟩ = some (.int .i64 p.2.1) ∧ w.cell? ⟨g, off + i * 3 + 2, none⟩ = some (.int .i64 p.2.2) := by
  obtain ⟨g, off, h1, h2⟩ := SRow.cell h hn
  exact ⟨g, off, h1, fun i p hp => ⟨h2 _ _ (acells_at hp).1, h2 _ _ (acells_at hp).2.1, h2 _ _ (acells_at hp).2.2⟩⟩

theorem drop_told {m : List (Int × Int)} (id : Int) : decide ((dropL id m).length < m.length) = (atL m id).isSome := by
  by_cases h : ∃ p ∈ m, p.2 = id
  · obtain ⟨p, hp, he⟩ := h
    have h1 : (atL m id).isSome = true := by
      unfold atL
      rw [Option.isSome_map, List.find?_isSome]
      exact ⟨p, hp, by simpa using he⟩
    rw [h1, decide_eq_true_iff]
    have h2 : (dropL id m).length ≠ m.length := fun e => by
      have := List.length_filter_eq_length_iff.1 e p hp
      simp at this
      exact this he
    have := dropL_length m id
    omega
  · have h1 : ∀ p ∈ m, p.2 ≠ id := fun p hp e => h ⟨p, hp, e⟩
    rw [dropL_of_not h1, atL_none h1]
    simp

/-- the agenda, and the reference's list beside it -/
def PlSt (w0 : World) (ba : Nat) (v7 : Value) (n : Nat) (wr : World) : Prop :=
  ∃ own m S, Ag wr own ba m ∧ (∀ k, own k → w0.heap.size ≤ k) ∧ Fr (fun _ => False) w0 wr ∧ TR wr S v7 m ∧ (∀ k, S k → ¬ own k ∧ k < wr.heap.size) ∧ m.length ≤ n

theorem Ag.lt {w : World} {own : Nat → Prop} {ba : Nat} {m : List (Int × Int)} (h : Ag w own ba m) : ∀ k, own k → k < w.heap.size := by obtain ⟨_, _, _, _, _, _, _, _, h6⟩ := h; exact h6

section
variable {w0 w w1 w2 : World} {ba n : Nat} {own own' S : Nat → Prop} {m m' : List (Int × Int)} {v : Value}
/-- first the agenda, then the list -/
theorem plst_ag (hown : ∀ k, own k → w0.heap.size ≤ k) (hfr : Fr (fun _ => False) w0 w) (hS : ∀ k, S k → ¬ own k ∧ k < w.heap.size)
    (_h1 : Ag w1 own' ba m') (h2 : ∀ k, own' k → own k ∨ w.heap.size ≤ k) (h3 : Fr own w w1) :
    (∀ k, own' k → w0.heap.size ≤ k) ∧ Fr (fun _ => False) w0 w1 ∧ (∀ k, S k → ¬ own' k ∧ k < w1.heap.size) ∧ ∀ {v l}, TR w S v l → TR w1 S v l := by
  refine ⟨fun k hk => ?_, hfr.trans h3 fun k hk => .inr (hown k hk), fun k hk => ⟨fun ho => ?_, Nat.lt_of_lt_of_le (hS k hk).2 h3.size⟩, fun h => SRow.fr h h3 fun k hk => (hS k hk).1⟩
  · rcases h2 k hk with h | h
    · exact hown k h
    · exact Nat.le_trans hfr.size h
  · rcases h2 k ho with h | h
    · exact (hS k hk).1 h
    · have := (hS k hk).2; omega
/-- the reference made a new list -/
theorem plst_new (h : Ag w own ba m) (hown : ∀ k, own k → w0.heap.size ≤ k) (hfr : Fr (fun _ => False) w0 w) (hrow : w1.ownsRow w.heap.size 44 2 v m.length (tcells m)) (hf : Fr (fun _ => False) w w1) (hn : m.length ≤ n) : PlSt w0 ba v n w1 :=
  ⟨own, m, _, h.other hf fun _ _ h => h, hown, hfr.next hf, SRow.of_owns hrow, fun k hk => by
    have hb := hrow.lt k hk
    exact ⟨fun ho => by have := h.lt k ho; omega, hb.2⟩, hn⟩
end

def PlRel (w0 : World) (l : List (Int × Int × Int)) (ba : Nat) (j : Nat) (v7 v8 : Value) (wr : World) : Prop := ∃ k : Nat, k + j = l.length ∧ v8 = .int .i64 k ∧ PlSt w0 ba v7 k wr

set_option maxRecDepth 100000 in
set_option maxHeartbeats 8000000 in
theorem plays_h {w : World} {v : Value} {l : List (Int × Int × Int)} (h : AR w (fun k => k < w.heap.size) v l) (hx : ∀ p ∈ l, -9223372036854775808 ≤ p.1 ∧ p.1 ≤ 9223372036854775807) (id : Int) :
    Calls Try.prog 3 #[v, .int .i64 id] w fun e w' => e = .returned (.bool true) ∧ Fr (fun _ => False) w w' := by
  obtain ⟨a, cap, rfl⟩ := h.form
  go_enter Try.func3, Try.ntmps3
  go_wp2_with fail
  refine Calls.mono (shown_h w) ?_
  rintro e w1 ⟨rfl, hf1⟩
  by_cases hbig : 300 < l.length
  · have d1 : decide (300 < (l.length : Int)) = true := by simp; omega
    go_wp2_with fail
    go_ret
    exact ⟨rfl, hf1⟩
  · have d1 : decide (300 < (l.length : Int)) = false := by simp; omega
    have hl2 : l.length ≤ 300 := by omega
    clear hbig
    go_wp2_with fail
    refine Calls.mono (new_h w1) ?_
    rintro e w2 ⟨ba, rfl, hm, hfm⟩
    go_wp2_with fail
    go_loopg [7, 8] (l.length) (fun j v7 v8 wr => PlRel w1 l ba j v7 v8 wr)
    case atStart => exact ⟨0, by omega, rfl, _, [], fun _ => False, hm, fun k hk => hk.1, hfm, SRow.nil _ _ _, fun _ h => h.elim, Nat.le_refl _⟩
    case round =>
      clear hm hfm
      obtain ⟨k, hk, rfl, own, m, S, hag, hown, hfr, htr, hS, hlen⟩ := hrel
      have HK := Lib.hid hk
      clear hk
      by_cases hlt : k < l.length
      · obtain ⟨g, off, rfl, hc⟩ := h.cells (by omega)
        obtain ⟨p, hp⟩ : ∃ p, l[k]? = some p := ⟨_, List.getElem?_eq_getElem hlt⟩
        obtain ⟨hc1, hc2, hc3⟩ := hc k p hp
        have c1 := hfr.cell (hf1.cell hc1 (fun h => h)) (fun h => h)
        have c2 := hfr.cell (hf1.cell hc2 (fun h => h)) (fun h => h)
        have c3 := hfr.cell (hf1.cell hc3 (fun h => h)) (fun h => h)
        obtain ⟨hb1, hb2⟩ := hx p (List.mem_of_getElem? hp)
        have hg : g < w.heap.size := World.block_lt_of_cell? w _ hc1
        have hsz1 : w.heap.size ≤ w1.heap.size := hf1.size
        have hgo : ¬ own g := fun ho => by have := hown g ho; omega
        clear hc hp hc1 hc2 hc3
        go_wp2_with fail
        refine Calls.mono (pick_any p.1 7 _ hb1 hb2 (by omega) (by omega)) ?_
        rintro e w3 ⟨rfl, rfl⟩
        clear hb1 hb2
        generalize pickZ p.1 7 = z
        go_upto_block 2 with fail
        go_cut [7] (fun v7 wc => PlSt w1 ba v7 (k + 1) wc)
        case first =>
          by_cases h5 : z = 5
          · subst h5
            have hdr := drop_m hag (by omega) p.2.2
            have HD := Lib.hid hdr
            clear hdr
            go_wp2_with fail
            refine Calls.mono HD.out ?_
            rintro e w4 ⟨rfl, hag4, hf4⟩
            obtain ⟨q1, q2, q3, q4⟩ := plst_ag hown hfr hS hag4 (fun k hk => .inl hk) hf4
            have htr4 := q4 htr
            have c3' := hf4.cell c3 hgo
            have HQ := Lib.hid (And.intro q2 q3)
            clear q2 q3 q4
            go_wp2_with fail
            refine Calls.mono (rdrop_h htr4 (by omega) p.2.2) ?_
            rintro e w5 ⟨v5, rfl, hrow5, hf5⟩
            rw [drop_told]
            have hx1 : ((atL m p.2.2).isSome != (atL m p.2.2).isSome) = false := by simp
            go_wp2_with fail
            go_meet
            exact plst_new hag4 q1 HQ.out.1 hrow5 hf5 (by have := dropL_length m p.2.2; omega)
          · have e5 : (z == 5) = false := by simpa using h5
            by_cases h6 : z = 6
            · subst h6
              have hdu := due_m hag (by omega) p.2.1
              have HO := Lib.hid (And.intro hown hfr)
              have hml : (leftL m p.2.1).length ≤ m.length := by unfold leftL; exact (List.dropWhile_sublist _).length_le
              have hdl : (dueL m p.2.1).length ≤ m.length := by unfold dueL; exact (List.takeWhile_sublist _).length_le
              go_wp2_with fail
              refine Calls.mono (rdue_h htr (by omega) p.2.1) ?_
              rintro e w4 ⟨v1, v2, rfl, htr4, hrow4, hf4⟩
              have hag4 := hag.other hf4 fun _ _ h => h
              have c2' := hf4.cell c2 (fun h => h)
              have hD2 : IR w4 (fun k => v2.ownBlock = some k) v2 ((dueL m p.2.1).map (·.2)) := by
                have := SRow.of_owns hrow4
                unfold IR
                simpa [idsV, List.map_map, Function.comp_def] using this
              have hv2 : ∀ i, v2.ownBlock = some i → ¬ own i := fun i hi ho => by have := hag.lt i ho; have := (hrow4.lt i hi).1; omega
              go_wp2_with fail
              refine Calls.mono (due_m hag4 (by omega) p.2.1) ?_
              rintro e w5 ⟨v3, rfl, hag5, hf5, hrow5⟩
              have hD3 : IR w5 (fun k => v3.ownBlock = some k) v3 ((dueL m p.2.1).map (·.2)) := by
                have := SRow.of_owns hrow5
                unfold IR
                simpa [idsV, List.map_map, Function.comp_def] using this
              have hD2' := hD2.fr hf5 hv2
              have hlD : ((dueL m p.2.1).map (·.2)).length < 1000000 := by rw [List.length_map]; omega
              go_wp2_with fail
              refine Calls.mono (same_h hD3 hD2' hlD hlD) ?_
              rintro e w6 ⟨rfl, N, rfl⟩
              have ht : decide ((dueL m p.2.1).map (·.2) = (dueL m p.2.1).map (·.2)) = true := by simp
              rw [ht]
              go_wp2_with fail
              go_meet
              exact ⟨own, leftL m p.2.1, S, hag5.drewN N, hown, ((hfr.next hf4).trans hf5 fun i hi => .inr (hown i hi)).drewN N, (SRow.fr htr4 hf5 fun i hi => (hS i hi).1).fr (o := fun _ => False) ((Fr.refl _ _).drewN N) (fun _ _ h => h), fun i hi => ⟨(hS i hi).1, Nat.lt_of_lt_of_le (hS i hi).2 (Nat.le_trans hf4.size hf5.size)⟩, by omega⟩
            · have e6 : (z == 6) = false := by simpa using h6
              have hpu := put_m hag (by omega) p.2.1 p.2.2
              have HP := Lib.hid hpu
              clear hpu h5 h6
              go_wp2_with fail
              go_still_tail 11, (by kernel_rfl)
              go_wp2_with fail
              refine Calls.mono (put_m (hag.drewN 1) (by omega) p.2.1 p.2.2) ?_
              rintro e w4 ⟨rfl, own', hag4, ho4, hf4⟩
              obtain ⟨q1, q2, q3, q4⟩ := plst_ag hown hfr hS hag4 ho4 hf4.of_start
              have htr4 := q4 htr
              have c2' := hf4.of_start.cell c2 hgo
              have c3' := hf4.of_start.cell c3 hgo
              have HQ := Lib.hid (And.intro q2 q3)
              clear q2 q3 q4
              go_wp2_with fail
              go_still_tail 11, (by kernel_rfl)
              go_wp2_with fail
              refine Calls.mono (rput_h (SRow.fr htr4 (o := fun _ => False) ((Fr.refl _ _).drewN 1) (fun _ _ h => h)) (by have := putL_length m p.2.1 p.2.2; omega) p.2.1 p.2.2) ?_
              rintro e w5 ⟨v5, rfl, hrow5, hf5⟩
              go_wp2_with fail
              go_meet
              exact plst_new (hag4.drewN 1) q1 (HQ.out.1.drewN 1) hrow5 hf5 (by have := putL_length m p.2.1 p.2.2; omega)
        case rest =>
          clear hag hown hfr htr hS hlen c1 c2 c3 hgo
          obtain ⟨own2, ml, S2, hag2, hown2, hfr2, htr2, hS2, hlen2⟩ := hcut
          have hml : ml.length ≤ 301 := by omega
          obtain ⟨ax, cx, rfl⟩ := htr2.form
          have b1 : ((ml.length : Int) != (ml.length : Int)) = false := by simp
          go_wp2_with fail
          refine Calls.mono (next_m hag2) ?_
          rintro e wn ⟨rfl, N, rfl⟩
          have hagN := hag2.drewN N
          have htrN : TR (wc.drewN N) S2 (.slice ax ml.length cx) ml := SRow.fr htr2 (o := fun _ => False) ((Fr.refl _ _).drewN N) fun _ _ h => h
          have HR : Hid (PlSt w1 ba (.slice ax ml.length cx) (k + 1) (wc.drewN N)) := ⟨own2, ml, S2, hagN, hown2, hfr2.drewN N, htrN, hS2, hlen2⟩
          have hln := len_m hagN
          rcases hcase : ml with _ | ⟨q, r⟩
          · subst hcase
            simp only [List.head?_nil, Option.map_none, Option.getD_none, Option.isSome_none, List.length_nil] at *
            have HL := Lib.hid hln
            clear hln
            go_wp2_with fail
            refine Calls.mono HL.out ?_
            rintro e wl ⟨rfl, rfl⟩
            go_wp2_with fail
            go_roundg (l.length - (k + 1))
            case measure => have := HK.out; omega
            case rel => exact ⟨k + 1, by omega, by go_num, HR.out⟩
          · obtain ⟨g2, off2, hax, hc2⟩ := TR.cells htrN (by rw [hcase]; simp)
            obtain ⟨c3, c4⟩ := hc2 0 q (by rw [hcase]; rfl)
            simp only [Nat.zero_mul, Nat.add_zero] at c3 c4
            have hpos : 0 < ml.length := by rw [hcase]; simp
            have d5 : decide (0 < (ml.length : Int)) = true := by simp; omega
            have d5n : decide (0 < ml.length) = true := by simp; omega
            have hq1 : (q.1 != q.1) = false := by simp
            have hq2 : (q.2 != q.2) = false := by simp
            subst hax
            have HL := Lib.hid hln
            simp only [List.head?_cons, Option.map_some, Option.getD_some, Option.isSome_some]
            rw [← hcase]
            clear hln hc2 hcase htrN htr2
            go_wp2_with fail
            refine Calls.mono HL.out ?_
            rintro e wl ⟨rfl, rfl⟩
            go_wp2_with fail
            go_roundg (l.length - (k + 1))
            case measure => have := HK.out; omega
            case rel => exact ⟨k + 1, by omega, by go_num, HR.out⟩
      · have hlen3 : m.length < 1000000 := by have := HK.out; omega
        go_wp2_with fail
        refine Calls.mono (at_m hag id) ?_
        rintro e w3 ⟨rfl, N, rfl⟩
        have htrN := SRow.fr htr (o := fun _ => False) ((Fr.refl _ _).drewN N) fun _ _ h => h
        go_wp2_with fail
        refine Calls.mono (rat_h htrN hlen3 id) ?_
        rintro e w4 ⟨rfl, rfl⟩
        have hq1 : (((atL m id).getD 0) == ((atL m id).getD 0)) = true := by simp
        have hq2 : ((atL m id).isSome == (atL m id).isSome) = true := by simp
        go_wp2_with fail
        go_ret
        exact ⟨by simp, (hf1.next hfr).drewN N⟩
end Go.Proofs.Ytfmkdilllgncfaa
