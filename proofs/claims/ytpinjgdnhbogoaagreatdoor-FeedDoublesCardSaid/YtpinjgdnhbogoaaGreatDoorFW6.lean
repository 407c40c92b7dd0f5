/- shown: chapter 13's examples; the walk of the law FeedItems. -/
import Derived.Test.YtpinjgdnhbogoaaGreatDoorFW3
import Derived.Test.YtpinjgdnhbogoaaGreatDoorFW4
import Derived.Test.YtpinjgdnhbogoaaGreatDoorFW5
namespace Go.Proofs.YtpinjgdnhbogoaaGreatDoor
open Go.RowKit Go.Lib

theorem ext_at {w : World} (hE : Env w) {s : Str} {l : List ItemD} {n : Nat} {er : Int} (h : extractL s = (l, er)) (hn : l.length = n) (hs : s.length ≤ 1000000) :
    Calls Tryz.prog 56 #[.string (bs s)] w fun e w' => ∃ a c, e = .returned (.tuple #[.slice a n c, .int .i64 er]) ∧ ItemsV w' (fun k => w.heap.size ≤ k ∧ k < w'.heap.size) (.slice a n c) l ∧ Fr (fun _ => False) w w' := by
  subst hn
  refine (extract_h hE s hs).mono ?_
  rintro e w' ⟨a, c, rfl, hr, hF⟩
  rw [h] at hr ⊢
  exact ⟨a, c, rfl, (SRow.of_owns hr).mono fun k hk => hr.lt k hk, hF⟩
theorem isame_at {w : World} {S S2 : Nat → Prop} {v u : Value} {l : List ItemD} (ha : ItemsV w S v l) (hb : ItemsV w S2 u l) (hl : l.length ≤ 1000000) : Calls Tryz.prog 58 #[v, u] w fun e w' => e = .returned (.bool true) ∧ Fr (fun _ => False) w w' := by
  refine (isame_h ha hb hl).mono ?_
  rintro e w' ⟨rfl, p, rfl⟩
  exact ⟨rfl, (Fr.refl _ _).drewN p⟩
def fx1 : ItemD := ⟨[49], [84], [104, 116, 116, 112, 58, 47, 47, 120]⟩
def fx2 : ItemD := ⟨[97, 32, 98], [], [97, 32, 98]⟩
def fx3 : ItemD := ⟨[105], [], [104]⟩
def ft2 : Str := [60, 114, 115, 115, 62, 60, 99, 104, 97, 110, 110, 101, 108, 62, 60, 105, 116, 101, 109, 62, 60, 108, 105, 110, 107, 62, 32, 97, 32, 32, 98, 32, 60, 47].append [108, 105, 110, 107, 62, 60, 47, 105, 116, 101, 109, 62, 60, 105, 116, 101, 109, 47, 62, 60, 47, 99, 104, 97, 110, 110, 101, 108, 62, 60, 47, 114, 115, 115, 62]
def ft3 : Str := [60, 102, 101, 101, 100, 62, 60, 101, 110, 116, 114, 121, 62, 60, 105, 100, 62, 105, 60, 47, 105, 100, 62, 60, 108, 105, 110, 107, 32, 114, 101, 108, 61, 34, 115, 101, 108, 102, 34, 32].append [104, 114, 101, 102, 61, 34, 115, 34, 47, 62, 60, 108, 105, 110, 107, 32, 104, 114, 101, 102, 61, 34, 104, 34, 47, 62, 60, 47, 101, 110, 116, 114, 121, 62, 60, 47, 102, 101, 101, 100, 62]
theorem fe1 : extractL (rssL [116] [fx1]) = ([fx1], 0) := by decide +kernel
theorem fe2 : extractL ft2 = ([fx2], 0) := by decide +kernel
theorem fe3 : extractL ft3 = ([fx3], 0) := by decide +kernel
theorem fe4 : extractL [60, 97, 47, 62] = ([], 8) := by decide +kernel
theorem fe1l : (rssL [116] [fx1]).length ≤ 1000000 := by decide +kernel
theorem one_row {w : World} (x : ItemD) (W : World) (hW : W = w.alloc (.cells (icells [x]).toArray 82)) : ItemsV W (fun _ => True) (.slice (some ⟨w.heap.size, 0, none⟩) 1 1) [x] := by
  rw [hW]
  exact SRow.of_block (e := 82) (f := (0, 0)) (block_new w (.cells (icells [x]).toArray 82)) rfl (by decide) trivial
set_option maxRecDepth 100000 in
set_option maxHeartbeats 8000000 in
theorem fshown_h {w : World} (hE : Env w) : Calls Tryz.prog 54 #[] w fun e w' => e = .returned (.bool true) ∧ Fr (fun _ => False) w w' := by
  have HB : Hid ((w.alloc (.cells (icells [fx1]).toArray 82)).heap[w.heap.size]? = some (.cells (icells [fx1]).toArray 82 (0, 0))) := block_new _ _
  have HFa : Hid (Fr (fun _ => False) w (w.alloc (.cells (icells [fx1]).toArray 82))) := (Fr.refl _ _).alloc _
  have HFb : Hid (Fr (fun _ => False) w ((w.alloc (.cells (icells [fx1]).toArray 82)).alloc (.cells (icells [fx1]).toArray 82))) := ((Fr.refl _ _).alloc _).alloc _
  have HR1 := Lib.hid (rssdoc_h (w := (w.alloc (.cells (icells [fx1]).toArray 82)).alloc (.cells (icells [fx1]).toArray 82)) (v := .slice (some ⟨w.heap.size + 1, 0, none⟩) 1 1) (l := [fx1]) [116]
    (SRow.of_block (e := 82) (f := (0, 0)) (block_new_at (by simp)) rfl (by decide) (by simp)) (by decide) (by decide) (fun x hx => by rw [List.mem_singleton] at hx; subst hx; unfold SmallI; decide))
  have HEv := Lib.hid (fun (W : World) (hF : Fr (fun _ => False) w W) => hE.grow hF)
  have x0 := cell_of HB.out (i := 0) (v := .string ⟨#[49]⟩) rfl
  have x1 := cell_of HB.out (i := 1) (v := .string ⟨#[84]⟩) rfl
  have x2 := cell_of HB.out (i := 2) (v := .string ⟨#[104, 116, 116, 112, 58, 47, 47, 120]⟩) rfl
  have xl := lt_of_block HB.out
  clear hE
  go_enter Tryz.func54, Tryz.ntmps54
  go_wp2_with fail
  refine Calls.mono HR1.out ?_
  rintro e w3 ⟨rfl, hF⟩
  have HF3 := Lib.hid (HFb.out.next hF)
  have HB3 := Lib.hid (((Fr.refl (fun _ => False) (w.alloc (.cells (icells [fx1]).toArray 82))).alloc _ |>.next hF).keep HB.out (fun h => h))
  clear hF x0 x1 x2 xl
  go_wp2_with fail
  refine Calls.mono (ext_at (HEv.out _ HF3.out) fe1 rfl fe1l) ?_
  rintro e w4 ⟨a1, c1, rfl, hv1, hF⟩
  have HF4 := Lib.hid (HF3.out.next hF)
  have HB4 := Lib.hid (hF.keep HB3.out (fun h => h))
  have HV4 := Lib.hid hv1
  clear hF hv1
  go_wp2_with fail
  refine Calls.mono (ext_at (HEv.out _ HF4.out) fe2 rfl (by decide)) ?_
  rintro e w5 ⟨a2, c2, rfl, hv2, hF⟩
  have HF5 := Lib.hid (HF4.out.next hF)
  have HB5 := Lib.hid (hF.keep HB4.out (fun h => h))
  have HV5 := Lib.hid (And.intro (HV4.out.fr hF fun _ _ h => h) hv2)
  clear hF hv2
  go_wp2_with fail
  refine Calls.mono (ext_at (HEv.out _ HF5.out) fe3 rfl (by decide)) ?_
  rintro e w6 ⟨a3, c3, rfl, hv3, hF⟩
  have HF6 := Lib.hid (HF5.out.next hF)
  have HB6 := Lib.hid (hF.keep HB5.out (fun h => h))
  have HV6 := Lib.hid (And.intro (HV5.out.1.fr hF fun _ _ h => h) (And.intro (HV5.out.2.fr hF fun _ _ h => h) hv3))
  clear hF hv3
  go_wp2_with fail
  refine Calls.mono (ext_at (HEv.out _ HF6.out) fe4 rfl (by decide)) ?_
  rintro e w7 ⟨a4, c4, rfl, -, hF⟩
  have HF7 := Lib.hid (HF6.out.next hF)
  have HB7 := Lib.hid (hF.keep HB6.out (fun h => h))
  have HV7 := Lib.hid (And.intro (HV6.out.1.fr hF fun _ _ h => h) (And.intro (HV6.out.2.1.fr hF fun _ _ h => h) (HV6.out.2.2.fr hF fun _ _ h => h)))
  clear hF
  have x0 := cell_of HB7.out (i := 0) (v := .string ⟨#[49]⟩) rfl
  have x1 := cell_of HB7.out (i := 1) (v := .string ⟨#[84]⟩) rfl
  have x2 := cell_of HB7.out (i := 2) (v := .string ⟨#[104, 116, 116, 112, 58, 47, 47, 120]⟩) rfl
  have xl := lt_of_block HB7.out
  have hFr1 : Fr (fun _ => False) w7 (w7.alloc (.cells (icells [fx1]).toArray 82)) := (Fr.refl _ _).alloc _
  have HS1 := Lib.hid (isame_at (HV7.out.1.fr hFr1 fun _ _ h => h) (one_row fx1 _ rfl) (by decide))
  have HFr1 := Lib.hid hFr1
  clear hFr1
  go_wp2_with fail
  refine Calls.mono HS1.out ?_
  rintro e w8 ⟨rfl, hF⟩
  have HF8 := Lib.hid (HFr1.out.next hF)
  clear hF x0 x1 x2 xl
  have hFr2 : Fr (fun _ => False) w8 (w8.alloc (.cells (icells [fx2]).toArray 82)) := (Fr.refl _ _).alloc _
  have HS2 := Lib.hid (isame_at (HV7.out.2.1.fr (HF8.out.next hFr2) fun _ _ h => h) (one_row fx2 _ rfl) (by decide))
  have HFr2 := Lib.hid (HF8.out.next hFr2)
  clear hFr2
  go_wp2_with fail
  refine Calls.mono HS2.out ?_
  rintro e w9 ⟨rfl, hF⟩
  have HF9 := Lib.hid (HFr2.out.next hF)
  clear hF
  have hFr3 : Fr (fun _ => False) w9 (w9.alloc (.cells (icells [fx3]).toArray 82)) := (Fr.refl _ _).alloc _
  have HS3 := Lib.hid (isame_at (HV7.out.2.2.fr (HF9.out.next hFr3) fun _ _ h => h) (one_row fx3 _ rfl) (by decide))
  have HFr3 := Lib.hid (HF9.out.next hFr3)
  clear hFr3
  go_wp2_with fail
  refine Calls.mono HS3.out ?_
  rintro e w10 ⟨rfl, hF⟩
  have HF10 := Lib.hid (HF7.out.next (HFr3.out.next hF))
  clear hF
  go_wp2_with fail
  go_ret
  exact ⟨rfl, HF10.out⟩
theorem right_small {x : ItemD} (h : rightD x = true) : x.id.length ≤ 100000000 ∧ x.title.length ≤ 100000000 ∧ x.link.length ≤ 100000000 := by
  unfold rightD fitB at h
  simp only [Bool.and_eq_true, decide_eq_true_eq] at h
  omega
theorem fresh_at {l : List ItemD} {i : Nat} {x : ItemD} (h : (l.map (·.id)).Nodup) (hx : l[i]? = some x) : hasI (l.take i) x.id = false := by
  cases hh : hasI (l.take i) x.id with
  | false => rfl
  | true =>
    exfalso
    obtain ⟨y, hy, e⟩ := List.any_eq_true.1 hh
    have e2 : y.id = x.id := by simpa using e
    obtain ⟨hk, ex⟩ := List.getElem?_eq_some_iff.1 hx
    obtain ⟨j, hj⟩ := List.getElem?_of_mem hy
    rw [List.getElem?_take] at hj
    split at hj
    · rename_i hji
      have h1 : (l.map (·.id))[j]? = some x.id := by rw [List.getElem?_map, hj]; simp [e2]
      have h2 : (l.map (·.id))[i]? = some x.id := by rw [List.getElem?_map, hx]; rfl
      obtain ⟨hj1, ej⟩ := List.getElem?_eq_some_iff.1 h1
      obtain ⟨hi1, ei⟩ := List.getElem?_eq_some_iff.1 h2
      exact (List.pairwise_iff_getElem.1 h) j i hj1 hi1 hji (ej.trans ei.symm)
    · cases hj
theorem icells_take : ∀ (l : List ItemD) (i : Nat), (icells l).take (i * 3) = icells (l.take i)
  | [], i => by simp [icells]
  | x :: l, 0 => by simp [icells]
  | x :: l, i + 1 => by
    rw [List.take_succ_cons, icells_cons, icells_cons, show (i + 1) * 3 = i * 3 + 1 + 1 + 1 by omega, List.take_succ_cons, List.take_succ_cons, List.take_succ_cons, icells_take l i]
theorem ItemsV.take {w : World} {S : Nat → Prop} {a : Option Addr} {c : Nat} {l : List ItemD} (h : ItemsV w S (.slice a l.length c) l) {i : Nat} (hi : i ≤ l.length) : ItemsV w S (.slice a i c) (l.take i) := by
  have h2 := SRow.head h hi
  rw [icells_take] at h2
  have e : (l.take i).length = i := by rw [List.length_take]; omega
  unfold ItemsV
  rw [e]; exact h2
theorem elem84 : Tryz.prog.elem 84 = 82 := by kernel_rfl
theorem under84 : Tryz.prog.underlying 84 = some (.slice (Tryz.prog.elem 84)) := by rw [elem84]; exact Tryz.underlying84
theorem size84 (w : World) : (sizeOf (Tryz.prog.elem 84)).run Tryz.prog w = .ok 3 w := by
  rw [elem84]
  obtain ⟨i, hi, _, hs, _⟩ := info_parts info82
  simp [sizeOf, typeInfo, hi, hs]
theorem head_run84 {a : Option Addr} {len cap k : Nat} {i : Int} (hi : i = (k : Int)) (hk : k ≤ cap) (w : World) :
    (Instr.slice 84 (.slice a len cap) none (some (.int .i64 i)) none).run Tryz.prog w = .ok (.slice a k cap) w := by
  subst hi
  rw [run_slice_h w 84 a len cap under84 .i64 k (by omega) (by omega), size84]
  have h : a.map (fun x => x.add 0) = a := by
    cases a with
    | none => rfl
    | some p => cases p with | mk b o s => cases s <;> simp [Addr.add]
  simp only [Result.andThen, sliced, Int.toNat_natCast, Nat.zero_mul, Nat.sub_zero, h, ite_self]
set_option maxRecDepth 100000 in
set_option maxHeartbeats 8000000 in
theorem feeditems_h {w : World} (hE : Env w) (s : Str) : Calls Tryz.prog 16 #[.string (bs s)] w fun e w' => e = .returned (.bool true) ∧ Fr (fun _ => False) w w' := by
  have hsz : (bs s).size = s.length := rfl
  have HS := Lib.hid (fshown_h hE)
  by_cases hb : 20500 < s.length
  · have hbi : (20500 : Int) < (s.length : Int) := by omega
    clear hb
    go_enter Tryz.func16, Tryz.ntmps16
    go_wp2_with fail
    refine Calls.mono HS.out ?_
    rintro e w1 ⟨rfl, hF⟩
    have HF := Lib.hid hF
    clear hF
    go_wp2_with fail
    go_ret
    exact ⟨rfl, HF.out⟩
  have hbi : ¬ (20500 : Int) < (s.length : Int) := by omega
  have HX := Lib.hid (fun (W : World) (hF : Fr (fun _ => False) w W) => ext_at (s := s) (hE.grow hF) rfl rfl (by omega))
  have HRt := Lib.hid (extract_right s)
  obtain ⟨l, hl⟩ : ∃ l, (extractL s).1 = l := ⟨_, rfl⟩
  obtain ⟨er, her⟩ : ∃ er, (extractL s).2 = er := ⟨_, rfl⟩
  rw [hl, her] at HRt
  have HX2 := Lib.hid (fun (W : World) (hF : Fr (fun _ => False) w W) => ext_at (s := s) (l := l) (n := l.length) (er := er) (hE.grow hF) (by rw [← hl, ← her]) rfl (by omega))
  clear hb hE hl her HX
  by_cases he : er = 0
  · subst he
    obtain ⟨r1, r2, r3⟩ := HRt.out.1
    have HR1 := Lib.hid r1
    have HR2 := Lib.hid r2
    have t100 : (l.length : Int) ≤ 100 := by omega
    clear r1 r2
    go_enter Tryz.func16, Tryz.ntmps16
    go_wp2_with fail
    refine Calls.mono HS.out ?_
    rintro e w1 ⟨rfl, hF⟩
    have HF1 := Lib.hid hF
    clear hF
    go_wp2_with fail
    refine Calls.mono (HX2.out _ HF1.out) ?_
    rintro e w2 ⟨a, c, rfl, hv, hF⟩
    have HF2 := Lib.hid (HF1.out.next hF)
    have HV := Lib.hid hv
    clear hF hv
    go_wp2_with fail
    go_loopg [6] l.length (fun j v6 w' => ∃ W, W = w' ∧ ∃ i : Nat, i + j = l.length ∧ v6 = .int .i64 i ∧ Hid (Fr (fun _ => False) w2 W))
    case atStart => exact ⟨_, rfl, 0, by omega, rfl, Fr.refl _ _⟩
    case round =>
      obtain ⟨W, rfl, i, hi, rfl, HI⟩ := hrel
      by_cases hlt : i < l.length
      · obtain ⟨x, hx⟩ : ∃ x, l[i]? = some x := ⟨_, List.getElem?_eq_getElem hlt⟩
        have hv := HV.out.fr HI.out fun _ _ h => h
        have hvt := hv.take (Nat.le_of_lt hlt)
        obtain ⟨g, off, rfl, hc⟩ := hv.cells (by omega)
        obtain ⟨q0, q1, q2⟩ := hc i x hx
        have hrx := HR1.out x (List.mem_of_getElem? hx)
        have HRx := Lib.hid (right_h (w := W) x (right_small hrx))
        rw [hrx] at HRx
        have HH := Lib.hid (fun (W' : World) (hF : Fr (fun _ => False) W W') => ihas_h (w := W') (hvt.fr hF fun _ _ h => h) x.id (by rw [List.length_take]; omega))
        rw [fresh_at HR2.out hx] at HH
        have HXx := Lib.hid (And.intro hx hi)
        have hcl : l.length ≤ c := by obtain ⟨_, _, e, h1, _⟩ := hv.shape; injection e with _ _ e; omega
        have hsl := fun w : World => head_run84 (a := some ⟨g, off, none⟩) (len := l.length) (cap := c) (k := i) rfl (by omega) w
        clear hx hv hvt hc hrx hi
        go_wp2_with fail
        refine Calls.mono HRx.out ?_
        rintro e w4 ⟨rfl, hF⟩
        have HF4 := Lib.hid (HI.out.next hF)
        have p0 := hF.cell q0 (fun h => h)
        have HH4 := Lib.hid (fun (m : Nat) => (HH.out (w4.drewN m) (hF.drewN m)).mono (fun _ _ h => And.intro h.1 h.2.symm))
        clear hF q0 q1 q2
        go_wp2_with fail
        go_quiet ((go_at_call 61; exact Calls.quiet_of_same (HH4.out _)))
        go_wp2_with fail
        go_roundg (l.length - (i + 1))
        case measure => have := HXx.out.2; omega
        case rel => exact ⟨_, rfl, i + 1, by have := HXx.out.2; omega, by go_num, HF4.out.drewN _⟩
      · obtain rfl : i = l.length := by omega
        clear hi hlt
        go_wp2_with fail
        go_ret
        exact ⟨rfl, HF2.out.next HI.out⟩
  · have HNil := Lib.hid (HRt.out.2 he)
    have t1 : (er != 0) = true := by rw [bne_iff_ne]; exact he
    have t2 : (er == 0) = false := beq_eq_false_iff_ne.2 he
    have t3 : l.length = 0 := by rw [HNil.out]; rfl
    have t4 : ((l.length : Int) == 0) = true := by rw [t3]; rfl
    clear he
    go_enter Tryz.func16, Tryz.ntmps16
    go_wp2_with fail
    refine Calls.mono HS.out ?_
    rintro e w1 ⟨rfl, hF⟩
    have HF1 := Lib.hid hF
    clear hF
    go_wp2_with fail
    refine Calls.mono (HX2.out _ HF1.out) ?_
    rintro e w2 ⟨a, c, rfl, -, hF⟩
    have HF2 := Lib.hid (HF1.out.next hF)
    clear hF
    go_wp2_with fail
    go_ret
    exact ⟨by first | rfl | rw [t3] <;> rfl, HF2.out⟩
end Go.Proofs.YtpinjgdnhbogoaaGreatDoor
