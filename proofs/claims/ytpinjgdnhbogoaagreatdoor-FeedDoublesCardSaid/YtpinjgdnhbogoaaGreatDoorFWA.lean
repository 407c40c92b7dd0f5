/- The walk of the law FeedDoubles. -/
import Derived.Test.YtpinjgdnhbogoaaGreatDoorFW9
namespace Go.Proofs.YtpinjgdnhbogoaaGreatDoor
open Go.RowKit Go.Lib

/-- a row grows: the other one is as it was, and lies elsewhere -/
theorem two_push {w W W1 w7 : World} {na nb g : Nat} {a b : Value} {xs ys : List Value} (hF : Fr (fun _ => False) w W) (ha : W.ownsRow w.heap.size 82 3 a na xs) (hb : W.ownsRow w.heap.size 82 3 b nb ys) (hd : ∀ k, a.ownBlock = some k → b.ownBlock ≠ some k) (hf : Fr (fun _ => False) W W1) (hg : W1.grownBy w7 b.ownBlock) (hat : b.ownBlock = some g ∨ g = W1.heap.size) (m c : Nat) :
    Fr (fun _ => False) w w7 ∧ w7.ownsRow w.heap.size 82 3 a na xs ∧ ∀ k, a.ownBlock = some k → Value.ownBlock (.slice (some ⟨g, 0, none⟩) m c) ≠ some k := by
  have h1 := ownsRow_fr ha hf
  refine ⟨(hF.next hf).grown hg fun k hk => .inr (hb.lt k hk).1, ownsRow_keep h1 fun k hk => hg.block k (h1.lt k hk).2 fun e => hd k hk e.symm, fun k hk e => ?_⟩
  have e : g = k := Option.some.inj e
  rcases hat with h | h
  · exact hd k hk (by rw [← e]; exact h)
  · have := (h1.lt k hk).2; omega
theorem twice_snoc {l : List ItemD} {i : Nat} {x : ItemD} (h : l[i]? = some x) : twiceL (l.take (i + 1)) = twiceL (l.take i) ++ [x, ⟨x.id, nOther, []⟩, ⟨[], x.title, []⟩] := by
  unfold twiceL; rw [List.take_add_one, h, List.flatMap_append]; simp
theorem foldI_snoc {l : List ItemD} {i : Nat} {x : ItemD} (h : l[i]? = some x) : (l.take (i + 1)).foldl withL [] = withL ((l.take i).foldl withL []) x := by
  rw [List.take_add_one, h, List.foldl_append]; rfl
theorem twice_len : ∀ l : List ItemD, (twiceL l).length = l.length * 3
  | [] => rfl
  | x :: l => by
    have := twice_len l
    have e : twiceL (x :: l) = x :: ⟨x.id, nOther, []⟩ :: ⟨[], x.title, []⟩ :: twiceL l := rfl
    rw [e]; simp only [List.length_cons]; omega
theorem twice_small {l : List ItemD} (h : ∀ x ∈ l, SmallI x) : ∀ y ∈ twiceL l, SmallI y := by
  intro y hy
  unfold twiceL at hy
  obtain ⟨x, hx, hy⟩ := List.mem_flatMap.1 hy
  have hs := h x hx
  simp only [List.mem_cons, List.not_mem_nil, or_false] at hy
  rcases hy with rfl | rfl | rfl
  · exact hs
  · exact ⟨hs.1, by show ([111, 116, 104, 101, 114] : Str).length ≤ 500; decide, Nat.zero_le _⟩
  · exact ⟨Nat.zero_le _, hs.2.1, Nat.zero_le _⟩
theorem twice_doc {l : List ItemD} (hl : l.length ≤ 20) (hs : ∀ x ∈ l, SmallI x) : (atomL [116] (twiceL l)).length ≤ 1000000 := by
  have h1 := flatI_len (f := entryW) (b := 10000) (l := twiceL l) fun x hx => entry_len (twice_small hs x hx)
  have h2 := elem_len nTitle [116]
  have h3 := esc_le [116]
  have h4 : nTitle.length = 5 := rfl
  have h5 := twice_len l
  rw [atom_cat]
  simp only [List.length_append, List.length_cons, List.length_nil] at h1 h3 ⊢
  omega
theorem fold_len (l : List ItemD) : (l.foldl withL []).length ≤ 100 := by
  have : ∀ (l acc : List ItemD), acc.length ≤ 100 → (l.foldl withL acc).length ≤ 100 := by
    intro l
    induction l with
    | nil => intro acc h; exact h
    | cons x l ih => intro acc h; exact ih _ (with_len h)
  exact this l [] (Nat.zero_le _)
theorem fold_few : ∀ (l acc : List ItemD), (l.foldl withL acc).length ≤ acc.length + l.length
  | [], _ => Nat.le_refl _
  | x :: l, acc => by
    have h := fold_few l (withL acc x)
    have h2 : (withL acc x).length ≤ acc.length + 1 := by
      unfold withL; split
      · omega
      · simp
    rw [List.foldl_cons, List.length_cons]; omega
set_option maxRecDepth 100000 in
set_option maxHeartbeats 16000000 in
theorem feeddoubles_h {w : World} (hE : Env w) {v : Value} {l : List ItemD} (hv : ItemsV w (fun k => k < w.heap.size) v l) : Calls Tryz.prog 20 #[v] w fun e w' => e = .returned (.bool true) ∧ Fr (fun _ => False) w w' := by
  obtain ⟨a, c, rfl, -, -⟩ := hv.shape
  have HS := Lib.hid (fshown_h hE)
  have HV := Lib.hid (fun (W : World) (hF : Fr (fun _ => False) w W) => show ItemsV W (fun k => k < W.heap.size) (.slice a l.length c) l from (hv.fr hF fun _ _ h => h).mono fun k hk => Nat.lt_of_lt_of_le hk hF.size)
  have HSm := Lib.hid (fun (W : World) (hF : Fr (fun _ => False) w W) => small_h (HV.out W hF))
  have HEv := Lib.hid (fun (W : World) (hF : Fr (fun _ => False) w W) => hE.grow hF)
  clear hE hv
  cases hsm : smallB l with
  | false =>
    rw [hsm] at HSm
    clear hsm
    go_enter Tryz.func20, Tryz.ntmps20
    go_wp2_with fail
    refine Calls.mono HS.out ?_
    rintro e w1 ⟨rfl, hF⟩
    have HF := Lib.hid hF
    clear hF
    go_wp2_with fail
    refine Calls.mono (HSm.out _ HF.out) ?_
    rintro e w2 ⟨rfl, rfl⟩
    go_wp2_with fail
    go_ret
    exact ⟨rfl, HF.out⟩
  | true =>
  have HAll := Lib.hid (small_all hsm)
  rw [hsm] at HSm
  clear hsm
  by_cases hl20 : 20 < l.length
  · have hli : (20 : Int) < (l.length : Int) := by omega
    clear hl20
    go_enter Tryz.func20, Tryz.ntmps20
    go_wp2_with fail
    refine Calls.mono HS.out ?_
    rintro e w1 ⟨rfl, hF⟩
    have HF := Lib.hid hF
    clear hF
    go_wp2_with fail
    refine Calls.mono (HSm.out _ HF.out) ?_
    rintro e w2 ⟨rfl, rfl⟩
    go_wp2_with fail
    go_ret
    exact ⟨rfl, HF.out⟩
  have hli : ¬ (20 : Int) < (l.length : Int) := by omega
  have HL := Lib.hid (show l.length ≤ 20 by omega)
  clear hl20
  obtain ⟨i82, hi82, hz82, hs82, hb82⟩ := info_parts info82
  go_enter Tryz.func20, Tryz.ntmps20
  go_wp2_with fail
  refine Calls.mono HS.out ?_
  rintro e w1 ⟨rfl, hF⟩
  have HF := Lib.hid hF
  clear hF
  go_wp2_with fail
  refine Calls.mono (HSm.out _ HF.out) ?_
  rintro e w2 ⟨rfl, rfl⟩
  go_wp2_with fail
  go_loopg [5, 6, 7] l.length (fun j v5 v6 v7 w' => ∃ W, W = w' ∧ ∃ (i : Nat) (out : List ItemD) (ta : Option Addr) (tn tc : Nat) (oa : Option Addr) (on oc : Nat), v5 = .slice ta tn tc ∧ v6 = .slice oa on oc ∧ i + j = l.length ∧ v7 = .int .i64 i ∧ Hid (Fr (fun _ => False) w W ∧ W.ownsRow w.heap.size 82 3 (.slice ta tn tc) tn (icells (twiceL (l.take i))) ∧ W.ownsRow w.heap.size 82 3 (.slice oa on oc) on (icells out) ∧ (∀ k, Value.ownBlock (.slice ta tn tc) = some k → Value.ownBlock (.slice oa on oc) ≠ some k) ∧ tn = i * 3 ∧ out.length = on ∧ (l.take i).foldl withL [] = out ∧ ∀ y ∈ l.take i, rightD y = true))
  case atStart => exact ⟨_, rfl, 0, [], none, 0, 0, none, 0, 0, rfl, rfl, by omega, rfl, HF.out, World.ownsRow_nil _ _ _ _, World.ownsRow_nil _ _ _ _, (fun k h => by cases h), rfl, rfl, rfl, (fun y hy => by simp at hy)⟩
  case round =>
    obtain ⟨W, rfl, i, out, ta, tn, tc, oa, on, oc, rfl, rfl, hi, rfl, HI⟩ := hrel
    have HN := Lib.hid (And.intro HI.out.2.2.2.2.2.1 HI.out.2.2.2.2.1)
    have hfew : out.length ≤ (l.take i).length := by rw [← HI.out.2.2.2.2.2.2.1]; exact Nat.le_trans (fold_few _ _) (by simp)
    have hlt0 : (l.take i).length ≤ i := by rw [List.length_take]; omega
    have hon : on ≤ i := by have := HN.out.1; omega
    have htb : tn ≤ 60 := by have h1 := HN.out.2; have h2 := HL.out; omega
    clear hfew hlt0
    by_cases hlt : i < l.length
    · have hl20 := HL.out
      obtain ⟨x, hx⟩ : ∃ x, l[i]? = some x := ⟨_, List.getElem?_eq_getElem hlt⟩
      obtain ⟨g, off, rfl, hc0⟩ := (HV.out w (Fr.refl _ _)).cells (by omega)
      have HX0 := Lib.hid hc0
      obtain ⟨q0', q1', q2'⟩ := hc0 i x hx
      have q0 := HI.out.1.cell q0' (fun h => h)
      have q1 := HI.out.1.cell q1' (fun h => h)
      have q2 := HI.out.1.cell q2' (fun h => h)
      have hsx := HAll.out.2 x (List.mem_of_getElem? hx)
      have HRx := Lib.hid (right_h (w := W) x (by unfold SmallI at hsx; omega))
      have HXx := Lib.hid (And.intro hx hi)
      have HW := Lib.hid (show (l.take (i + 1)).foldl withL [] = withL out x by rw [foldI_snoc hx, HI.out.2.2.2.2.2.2.1])
      clear hx hc0 hi hsx q0' q1' q2'
      cases hrx : rightD x with
      | false =>
        rw [hrx] at HRx
        clear hrx
        go_wp2_with fail
        refine Calls.mono HRx.out ?_
        rintro e w4 ⟨rfl, hF⟩
        have HF4 := Lib.hid (HI.out.1.next hF)
        clear hF
        go_wp2_with fail
        go_ret
        exact ⟨rfl, HF4.out⟩
      | true =>
        have HId := Lib.hid (right_id hrx)
        have HRt2 := Lib.hid (show ∀ y ∈ l.take (i + 1), rightD y = true from fun y hy => by
          rw [List.take_add_one, HXx.out.1] at hy
          rcases List.mem_append.1 hy with hy | hy
          · exact HI.out.2.2.2.2.2.2.2 y hy
          · have e : y = x := by simpa using hy
            rw [e]; exact hrx)
        rw [hrx] at HRx
        clear hrx
        go_wp2_with fail
        refine Calls.mono HRx.out ?_
        rintro e w4 ⟨rfl, hF⟩
        have HF4 := Lib.hid (HI.out.1.next hF)
        have HT4 := Lib.hid (ownsRow_fr HI.out.2.1 hF)
        have HO4 := Lib.hid (ownsRow_fr HI.out.2.2.1 hF)
        have HD4 := Lib.hid HI.out.2.2.2.1
        have p0 := hF.cell q0 (fun h => h)
        have p1 := hF.cell q1 (fun h => h)
        have p2 := hF.cell q2 (fun h => h)
        have HH4 := Lib.hid (ihas_h (w := w4) (v := .slice oa on oc) (l := out) (by have h := SRow.of_owns HO4.out; unfold ItemsV; rw [HN.out.1]; exact h) x.id (by have := HN.out.1; omega))
        clear hF q0 q1 q2
        cases hh : hasI out x.id with
        | true =>
          have HW2 := Lib.hid (show (l.take (i + 1)).foldl withL [] = out from HW.out.trans (with_has hh))
          rw [hh] at HH4
          clear hh
          go_wp2_with fail
          refine Calls.mono HH4.out ?_
          rintro e w5 ⟨rfl, rfl⟩
          have k0 := World.new_ne w4 _ p0
          have k1 := World.new_ne w4 _ p1
          have k2 := World.new_ne w4 _ p2
          go_wp2_with fail
          go_region_held3 (fun w' => w'.cell? ⟨g, off + i * 3, none⟩ = some (.string (bs x.id)) ∧ w'.cell? ⟨g, off + i * 3 + 1, none⟩ = some (.string (bs x.title)) ∧ w'.cell? ⟨g, off + i * 3 + 2, none⟩ = some (.string (bs x.link)))
            (first | go_keep | (with_reducible exact ⟨HP7.out.1.cell (HX0.out i x HXx.out.1).1 (fun h => h), HP7.out.1.cell (HX0.out i x HXx.out.1).2.1 (fun h => h), HP7.out.1.cell (HX0.out i x HXx.out.1).2.2 (fun h => h)⟩) | fail)
            (first
              | (refine step_append_at rfl (.tmp 55) (.tmp 72) 84 rfl w.heap.size 82 i82 (.agg #[.string ⟨#[]⟩, .string ⟨#[]⟩, .string ⟨#[]⟩]) 3 48 Tryz.underlying84 hi82 hz82 hs82 hb82 rfl (by decide) (.slice ta tn tc) tn (icells (twiceL (l.take i))) rfl (ownsRow_fr HT4.out (show Fr (fun _ => False) w4 _ by repeat (first | exact Fr.refl _ _ | refine Fr.drew ?_ | refine Fr.alloc ?_ _))) ⟨w4.heap.size, 0, none⟩ 3 3 (icells [x, ⟨x.id, nOther, []⟩, ⟨[], x.title, []⟩]) rfl rfl (news_at (by first | exact block_new _ _ | exact block_new_drew rfl)) (fun u hu => icells_one u hu) (by unfold maxLen; omega) (by omega) (by have := (HF4.out).size; simp; omega) (by omega) ?_; intro g7 cap7 w7 hown7 hgrow7 hat7; have HT7 : Hid (w7.ownsRow w.heap.size 82 3 (.slice (some ⟨g7, 0, none⟩) (tn + 3) cap7) (tn + 3) (icells (twiceL (l.take (i + 1))))) := (by have h := hown7; rw [← icells_app, ← twice_snoc HXx.out.1] at h; exact h); have HP7 := Lib.hid (two_push (HF4.out) HO4.out HT4.out (fun k h1 h2 => HD4.out k h2 h1) (show Fr (fun _ => False) w4 _ by repeat (first | exact Fr.refl _ _ | refine Fr.drew ?_ | refine Fr.alloc ?_ _)) hgrow7 (hat7.elim (fun e => .inl (e.symm.trans rfl)) (fun e => .inr (Option.some.inj e))) (tn + 3) cap7); clear hown7 hgrow7 hat7)
              | fail)
          all_goals
            go_wp2_with fail
            go_roundg (l.length - (i + 1))
            case measure => have := HXx.out.2; omega
            case rel => exact ⟨_, rfl, i + 1, out, _, _, _, oa, on, oc, rfl, rfl, by have := HXx.out.2; omega, by go_num, HP7.out.1, HT7.out, HP7.out.2.1, (fun k h1 h2 => HP7.out.2.2 k h2 h1), by have h9 := HN.out.2; omega, HN.out.1, HW2.out, HRt2.out⟩
        | false =>
          have HW2 := Lib.hid (show (l.take (i + 1)).foldl withL [] = out ++ [x] from HW.out.trans (with_new HId.out (by have := HN.out.1; omega) hh))
          rw [hh] at HH4
          clear hh
          have HFA : Hid (Fr (fun _ => False) w4 (w4.alloc (.cells #[.string (bs x.id), .string (bs x.title), .string (bs x.link)] 82))) := (Fr.refl _ _).alloc _
          go_wp2_with fail
          refine Calls.mono HH4.out ?_
          rintro e w5 ⟨rfl, rfl⟩
          go_wp2_with (at_builtin; refine wpList_append_shape rfl (.tmp 48) (.tmp 53) 84 rfl w.heap.size 82 i82 (.agg #[.string ⟨#[]⟩, .string ⟨#[]⟩, .string ⟨#[]⟩]) 3 48 Tryz.underlying84 hi82 hz82 hs82 hb82 rfl (by decide) (.slice oa on oc) on (icells out) rfl (ownsRow_fr HO4.out HFA.out) ⟨w4.heap.size, 0, none⟩ 1 1 (icells [x]) rfl rfl (news_at (block_new _ _)) (fun u hu => icells_one u hu) (by unfold maxLen; omega) (by omega) (Nat.le_trans HF4.out.size HFA.out.size) (by omega) ?_; intro b9 cap9 w9 hown9 hgrow9 hat9; have HO9 : Hid (w9.ownsRow w.heap.size 82 3 (.slice (some ⟨b9, 0, none⟩) (on + 1) cap9) (on + 1) (icells (out ++ [x]))) := (by have h := hown9; rw [← icells_app] at h; exact h); have HT9 := Lib.hid (two_push HF4.out HT4.out HO4.out HD4.out HFA.out hgrow9 hat9 (on + 1) cap9); have p0 := HT9.out.1.cell (HX0.out i x HXx.out.1).1 (fun h => h); have p1 := HT9.out.1.cell (HX0.out i x HXx.out.1).2.1 (fun h => h); have p2 := HT9.out.1.cell (HX0.out i x HXx.out.1).2.2 (fun h => h); clear hown9 hgrow9 hat9)
          have k0 := World.new_ne w9 _ p0
          have k1 := World.new_ne w9 _ p1
          have k2 := World.new_ne w9 _ p2
          go_wp2_with fail
          go_region_held3 (fun w' => w'.cell? ⟨g, off + i * 3, none⟩ = some (.string (bs x.id)) ∧ w'.cell? ⟨g, off + i * 3 + 1, none⟩ = some (.string (bs x.title)) ∧ w'.cell? ⟨g, off + i * 3 + 2, none⟩ = some (.string (bs x.link)))
            (first | go_keep | (with_reducible exact ⟨HP7.out.1.cell (HX0.out i x HXx.out.1).1 (fun h => h), HP7.out.1.cell (HX0.out i x HXx.out.1).2.1 (fun h => h), HP7.out.1.cell (HX0.out i x HXx.out.1).2.2 (fun h => h)⟩) | fail)
            (first
              | (refine step_append_at rfl (.tmp 55) (.tmp 72) 84 rfl w.heap.size 82 i82 (.agg #[.string ⟨#[]⟩, .string ⟨#[]⟩, .string ⟨#[]⟩]) 3 48 Tryz.underlying84 hi82 hz82 hs82 hb82 rfl (by decide) (.slice ta tn tc) tn (icells (twiceL (l.take i))) rfl (ownsRow_fr HT9.out.2.1 (show Fr (fun _ => False) w9 _ by repeat (first | exact Fr.refl _ _ | refine Fr.drew ?_ | refine Fr.alloc ?_ _))) ⟨w9.heap.size, 0, none⟩ 3 3 (icells [x, ⟨x.id, nOther, []⟩, ⟨[], x.title, []⟩]) rfl rfl (news_at (by first | exact block_new _ _ | exact block_new_drew rfl)) (fun u hu => icells_one u hu) (by unfold maxLen; omega) (by omega) (by have := (HT9.out.1).size; simp; omega) (by omega) ?_; intro g7 cap7 w7 hown7 hgrow7 hat7; have HT7 : Hid (w7.ownsRow w.heap.size 82 3 (.slice (some ⟨g7, 0, none⟩) (tn + 3) cap7) (tn + 3) (icells (twiceL (l.take (i + 1))))) := (by have h := hown7; rw [← icells_app, ← twice_snoc HXx.out.1] at h; exact h); have HP7 := Lib.hid (two_push (HT9.out.1) HO9.out HT9.out.2.1 (fun k h1 h2 => HT9.out.2.2 k h2 h1) (show Fr (fun _ => False) w9 _ by repeat (first | exact Fr.refl _ _ | refine Fr.drew ?_ | refine Fr.alloc ?_ _)) hgrow7 (hat7.elim (fun e => .inl (e.symm.trans rfl)) (fun e => .inr (Option.some.inj e))) (tn + 3) cap7); clear hown7 hgrow7 hat7)
              | fail)
          all_goals
            go_wp2_with fail
            go_roundg (l.length - (i + 1))
            case measure => have := HXx.out.2; omega
            case rel => exact ⟨_, rfl, i + 1, (out ++ [x]), _, _, _, _, (on + 1), _, rfl, rfl, by have := HXx.out.2; omega, by go_num, HP7.out.1, HT7.out, HP7.out.2.1, (fun k h1 h2 => HP7.out.2.2 k h2 h1), by have h9 := HN.out.2; omega, by rw [List.length_append]; exact congrArg Nat.succ HN.out.1, HW2.out, HRt2.out⟩
    · have hil : l.length = i := by omega
      have htk : l.take i = l := by rw [← hil, List.take_length]
      have HFi := Lib.hid HI.out.1
      have hr := HI.out.2.2.2.2.2.2.2
      have hf := HI.out.2.2.2.2.2.2.1
      have ht := HI.out.2.1
      rw [htk] at hr hf ht
      have HO := Lib.hid HI.out.2.2.1
      have htl : (twiceL l).length = tn := by rw [twice_len, HN.out.2]; omega
      have hl20 := HL.out
      have hdl := twice_doc HL.out HAll.out.2
      have HDc := Lib.hid (atomdoc_h (w := W) (v := .slice ta tn tc) (l := twiceL l) [116] (own_items ht htl) (by decide) (by omega) (twice_small HAll.out.2))
      have hxe : (atomL [116] (twiceL l)).length ≤ 20000 → extractL (atomL [116] (twiceL l)) = (out, 0) := fun h => by rw [← hf]; exact extract_twice h hr
      have hc1 := back_case hxe
      obtain ⟨A, hA⟩ : ∃ A, atomL [116] (twiceL l) = A := ⟨_, rfl⟩
      rw [hA] at HDc hdl hc1
      have hAz : (bs A).size = A.length := rfl
      have h116 : bs [116] = ⟨#[116]⟩ := rfl
      rw [h116] at HDc
      clear hA hxe htl hr hf ht htk hi hlt h116
      rcases hc1 with ⟨h1, hx1⟩ | ⟨h1, hx1⟩
      · have h1i : (20000 : Int) < (A.length : Int) := by omega
        have HX1 := Lib.hid (fun (W : World) (hF : Fr (fun _ => False) w W) => ext_at (n := 0) (HEv.out W hF) hx1 rfl (by omega))
        clear hx1 h1 hdl
        subst hil
        go_wp2_with fail
        refine Calls.mono HDc.out ?_
        rintro e w3 ⟨rfl, hF⟩
        have HF3 := Lib.hid (HFi.out.next hF)
        have HO3 := Lib.hid (ownsRow_fr HO.out hF)
        clear hF
        go_wp2_with fail
        refine Calls.mono (HX1.out _ HF3.out) ?_
        rintro e w4 ⟨a1, c1, rfl, hv1, hF⟩
        have HF4 := Lib.hid (HF3.out.next hF)
        have HO4 := Lib.hid (ownsRow_fr HO3.out hF)
        have HV1 := Lib.hid hv1
        clear hF hv1
        go_wp2_with fail
        go_ret
        exact ⟨rfl, HF4.out⟩
      · have h1i : ¬ (20000 : Int) < (A.length : Int) := by omega
        have HX1 := Lib.hid (fun (W : World) (hF : Fr (fun _ => False) w W) => ext_at (n := on) (HEv.out W hF) hx1 HN.out.1 (by omega))
        clear hx1 h1 hdl
        subst hil
        go_wp2_with fail
        refine Calls.mono HDc.out ?_
        rintro e w3 ⟨rfl, hF⟩
        have HF3 := Lib.hid (HFi.out.next hF)
        have HO3 := Lib.hid (ownsRow_fr HO.out hF)
        clear hF
        go_wp2_with fail
        refine Calls.mono (HX1.out _ HF3.out) ?_
        rintro e w4 ⟨a1, c1, rfl, hv1, hF⟩
        have HF4 := Lib.hid (HF3.out.next hF)
        have HO4 := Lib.hid (ownsRow_fr HO3.out hF)
        have HV1 := Lib.hid hv1
        clear hF hv1
        have HSame := Lib.hid (isame_at HV1.out (own_items HO4.out HN.out.1) (by have := HN.out.1; omega))
        go_wp2_with fail
        refine Calls.mono HSame.out ?_
        rintro e w7 ⟨rfl, hF⟩
        have HF7 := Lib.hid (HF4.out.next hF)
        clear hF
        go_wp2_with fail
        go_ret
        exact ⟨rfl, HF7.out⟩
end Go.Proofs.YtpinjgdnhbogoaaGreatDoor
