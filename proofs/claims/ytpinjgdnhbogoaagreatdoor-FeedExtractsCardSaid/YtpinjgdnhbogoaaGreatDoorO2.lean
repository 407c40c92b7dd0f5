/- The reference's All, Attr, Size of an element. -/
import Derived.Test.YtpinjgdnhbogoaaGreatDoorNE
import Derived.Test.YtpinjgdnhbogoaaGreatDoorQ1
import Derived.Laws.IdiomStrings
import Derived.Lib.BufferRead
namespace Go.Proofs.YtpinjgdnhbogoaaGreatDoor
open Go.RowKit Go.Lib

theorem info37o : (Tryz.prog.info? 37).map (fun i => (i.zero, i.size, i.bytes)) = some (some (.agg #[.string ⟨#[]⟩, .slice none 0 0, .string ⟨#[]⟩, .slice none 0 0]), 4, 80) := by kernel_rfl
structure AllRIn (S : Nat → Prop) (n : NodeD) (nm : Str) (w : World) (i : Nat) (v : Value) (W : World) : Prop where
  row : ∃ xs, W.ownsRow w.heap.size 37 4 v ((n.kids.take i).filter fun k => k.name == nm).length xs ∧ KidsV W S ((n.kids.take i).filter fun k => k.name == nm) xs
  fr : Fr (fun _ => False) w W
theorem AllRIn.fr2 {S : Nat → Prop} {n : NodeD} {nm : Str} {w W W2 : World} {i : Nat} {v : Value} (h : AllRIn S n nm w i v W) (hf : Fr (fun _ => False) W W2) : AllRIn S n nm w i v W2 := by
  obtain ⟨⟨xs, h1, h2⟩, h3⟩ := h
  exact ⟨⟨xs, ownsRow_fr h1 hf, KidsV.fr hf (fun _ _ h => h) _ h2⟩, h3.next hf⟩
theorem AllRIn.skip {S : Nat → Prop} {n x : NodeD} {nm : Str} {w W : World} {i : Nat} {v : Value} (h : AllRIn S n nm w i v W) (hx : n.kids[i]? = some x) (hn : x.name ≠ nm) : AllRIn S n nm w (i + 1) v W := by
  have e := all_take (nm := nm) hx
  rw [if_neg hn, List.append_nil] at e
  exact ⟨by rw [e]; exact h.row, h.fr⟩
theorem AllRIn.take {S : Nat → Prop} {n x : NodeD} {nm : Str} {w W W2 w7 : World} {i : Nat} {v v7 : Value} {xs cs : List Value} (h : AllRIn S n nm w i v W) (hx : n.kids[i]? = some x) (hn : x.name = nm) (hxs : KidsV W S ((n.kids.take i).filter fun k => k.name == nm) xs) (hcs : NodeV W S x cs) (hS : ∀ k, S k → k < w.heap.size) (hf : Fr (fun _ => False) W W2)
    (hb : ∀ k, v.ownBlock = some k → w.heap.size ≤ k) (hg : W2.grownBy w7 v.ownBlock) (hr : w7.ownsRow w.heap.size 37 4 v7 (((n.kids.take i).filter fun k => k.name == nm).length + 1) (xs ++ cs)) : AllRIn S n nm w (i + 1) v7 w7 := by
  have e := all_take (nm := nm) hx
  rw [if_pos hn] at e
  have h7 : Fr (fun k => v.ownBlock = some k) W2 w7 := (Fr.refl _ _).grown hg fun k hk => .inl hk
  refine ⟨⟨xs ++ cs, ?_, ?_⟩, (h.fr.next hf).trans h7 fun k hk => .inr (hb k hk)⟩
  · rw [e, List.length_append]; exact hr
  · rw [e]
    exact KidsV.snoc (NodeV.fr h7 (fun k hk e => by have := hb k e; have := hS k hk; omega) x (NodeV.fr hf (fun _ _ h => h) x hcs)) (KidsV.fr h7 (fun k hk e => by have := hb k e; have := hS k hk; omega) _ (KidsV.fr hf (fun _ _ h => h) _ hxs))
set_option maxRecDepth 100000 in
set_option maxHeartbeats 8000000 in
theorem rall_h {w : World} {S : Nat → Prop} {n : NodeD} {c0 c1 c2 c3 : Value} (hn : NodeV w S n [c0, c1, c2, c3]) (hS : ∀ k, S k → k < w.heap.size) (hk : n.kids.length ≤ 1000000) (nm : Str) :
    Calls Tryz.prog 45 #[.agg #[c0, c1, c2, c3], .string (bs nm)] w (AllPost S (allN n nm) w) := by
  obtain ⟨i0, hi0, hz0, hz1, hz2⟩ := info_parts info37o
  obtain ⟨av, kv, xs, hcs, ha, hkr, hks⟩ := hn.parts
  simp only [List.cons.injEq, and_true] at hcs
  obtain ⟨rfl, rfl, rfl, rfl⟩ := hcs
  obtain ⟨-, a1, p1, rfl, -⟩ := id ha
  obtain ⟨-, a3, p3, rfl, -, -, -, -⟩ := id hkr
  obtain ⟨kn, hkn⟩ : ∃ kn, n.kids.length = kn := ⟨_, rfl⟩
  rw [hkn] at hkr hk ⊢
  have hfw : Fr (fun _ => False) w (w.alloc (.cells #[.string (bs n.name), .slice a1 n.attrs.length p1, .string (bs n.text), .slice a3 kn p3] 37)) := (Fr.refl _ _).alloc _
  have HK := Lib.hid (And.intro (hkr.fr hfw fun _ _ h => h) (KidsV.fr hfw (fun _ _ h => h) n.kids hks))
  have HFW := Lib.hid hfw
  have HS := Lib.hid hS
  have HL := Lib.hid hkn
  have HB := Lib.hid (block_new w (.cells #[.string (bs n.name), .slice a1 n.attrs.length p1, .string (bs n.text), .slice a3 kn p3] 37))
  have HB0 : Hid (AllRIn S n nm (w.alloc (.cells #[.string (bs n.name), .slice a1 n.attrs.length p1, .string (bs n.text), .slice a3 kn p3] 37)) 0 (.slice none 0 0) (w.alloc (.cells #[.string (bs n.name), .slice a1 n.attrs.length p1, .string (bs n.text), .slice a3 kn p3] 37))) := ⟨⟨[], World.ownsRow_nil _ _ _ _, KidsV.nil.2 rfl⟩, Fr.refl _ _⟩
  clear hn ha hkr hks hS hkn hfw
  go_enter Tryz.func45, Tryz.ntmps45
  go_wp2_with fail
  go_loopg [5, 6] kn (fun j v5 v6 w' => ∃ W v, W = w' ∧ v = v5 ∧ ∃ i : Nat, i + j = kn ∧ v6 = .int .i64 i ∧ Hid (AllRIn S n nm (w.alloc (.cells #[.string (bs n.name), .slice a1 n.attrs.length p1, .string (bs n.text), .slice a3 kn p3] 37)) i v W))
  case atStart => exact ⟨_, _, rfl, rfl, 0, by omega, rfl, HB0.out⟩
  case round =>
    obtain ⟨W, v, rfl, rfl, i, hi, rfl, HI⟩ := hrel
    have bk := HI.out.fr.keep HB.out (fun h => h)
    have x3 := cell_of bk (i := 3) (v := .slice a3 kn p3) rfl
    have xl := lt_of_block bk
    clear bk
    by_cases hlt : i < kn
    · obtain ⟨x, hx⟩ : ∃ x, n.kids[i]? = some x := ⟨_, List.getElem?_eq_getElem (by rw [HL.out]; exact hlt)⟩
      have hrw := HK.out.1.fr HI.out.fr fun _ _ h => h
      have hkk := KidsV.fr HI.out.fr (fun _ _ h => h) n.kids HK.out.2
      obtain ⟨g, off, rfl, hc⟩ := hrw.cell (by omega)
      obtain ⟨j1, j2, j3, j4, j5, j6, hxv, q0, q1, q2, q3⟩ := kid_cells hc hkk hx
      have HX := Lib.hid (And.intro hx (And.intro hi hxv))
      clear hx hi hrw hkk hc hxv
      by_cases hnm : x.name = nm
      · have t1 : ((bs x.name).toList == (bs nm).toList) = true := by rw [hnm]; simp
        have HN := Lib.hid hnm
        obtain ⟨xs2, ho2, hk2⟩ := HI.out.row
        have hfl : ((n.kids.take i).filter fun k => k.name == nm).length ≤ kn := Nat.le_trans (List.length_filter_le _ _) (by rw [List.length_take, HL.out]; omega)
        obtain ⟨fl, hfl2⟩ : ∃ fl, ((n.kids.take i).filter fun k => k.name == nm).length = fl := ⟨_, rfl⟩
        rw [hfl2] at hfl
        rw [hfl2] at ho2
        have HO := Lib.hid ho2
        have HK2 := Lib.hid (And.intro hk2 (And.intro hfl2 fun k hk => (ho2.lt k hk).1))
        obtain ⟨bv, cv, rfl⟩ := ownsRow_shape ho2
        have HF1 : Hid (Fr (fun _ => False) W (W.alloc (.cells #[.string (bs x.name), .slice j1 j2 j3, .string (bs x.text), .slice j4 j5 j6] 37))) := (Fr.refl _ _).alloc _
        clear hnm ho2 hk2 hfl2
        go_wp2_with (at_builtin; refine wpList_append_row rfl (.tmp 22) (.tmp 28) 35 rfl (w.alloc (.cells #[.string (bs n.name), .slice a1 n.attrs.length p1, .string (bs n.text), .slice (some ⟨g, off, none⟩) kn p3] 37)).heap.size 37 i0 (.agg #[.string ⟨#[]⟩, .slice none 0 0, .string ⟨#[]⟩, .slice none 0 0]) 4 80 Tryz.underlying35 hi0 hz0 hz1 hz2 rfl (by decide) (.slice bv fl cv) fl xs2 rfl (ownsRow_fr HO.out HF1.out) (fun _ => True) _ 1 [.string (bs x.name), .slice j1 j2 j3, .string (bs x.text), .slice j4 j5 j6] rfl (news_cells (block_new_at (by simp)) _ trivial 1 rfl (by decide)) (by intro u hu; simp at hu; rcases hu with rfl | rfl | rfl | rfl <;> rfl) (by unfold maxLen; omega) (by omega) (by simp; omega) ?_; intro b7 cap7 w7 hown7 hgrow7 hfr7; have HN7 := Lib.hid (HI.out.take HX.out.1 HN.out HK2.out.1 HX.out.2.2 (fun k hk => by have := HS.out k hk; have := HFW.out.size; omega) HF1.out HK2.out.2.2 hgrow7 (by rw [HK2.out.2.1]; exact hown7)); clear hown7 hgrow7 hfr7)
        go_roundg (kn - (i + 1))
        case measure => have := HX.out.2.1; omega
        case rel => exact ⟨_, _, rfl, rfl, i + 1, by have := HX.out.2.1; omega, by go_num, HN7.out⟩
      · have t := str_eq_f hnm
        have t1 := t.1
        have t2 := t.2
        have HN := Lib.hid (HI.out.skip HX.out.1 hnm)
        clear t hnm
        go_wp2_with fail
        go_roundg (kn - (i + 1))
        case measure => have := HX.out.2.1; omega
        case rel => exact ⟨_, _, rfl, rfl, i + 1, by have := HX.out.2.1; omega, by go_num, HN.out⟩
    · have hik : i = kn := by omega
      have htk : n.kids.take i = n.kids := by rw [hik, ← HL.out, List.take_length]
      obtain ⟨xs2, ho2, hk2⟩ := HI.out.row
      rw [htk] at ho2 hk2
      obtain ⟨bv, cv, rfl⟩ := ownsRow_shape ho2
      have HE : Hid (AllPost S (allN n nm) w (.returned (.slice bv (allN n nm).length cv)) W) := ⟨bv, cv, xs2, rfl, (SRow.of_owns ho2).mono fun k hk => ⟨Nat.le_trans HFW.out.size (ho2.lt k hk).1, (ho2.lt k hk).2⟩, hk2, HFW.out.next HI.out.fr⟩
      clear hi hik htk ho2 hk2
      rw [show (n.kids.filter fun k => k.name == nm) = allN n nm from rfl]
      go_wp2_with fail
      go_ret
      exact HE.out
set_option maxRecDepth 100000 in
set_option maxHeartbeats 8000000 in
theorem rattr_at_h {w : World} {S : Nat → Prop} {n : NodeD} {c0 c1 c2 c3 : Value} (hn : NodeV w S n [c0, c1, c2, c3]) (hk : n.attrs.length ≤ 1000000) (nm : Str) :
    Calls Tryz.prog 47 #[.agg #[c0, c1, c2, c3], .string (bs nm)] w (AtPost (attrO n nm) w) := by
  obtain ⟨av, kv, xs, hcs, ha, hkr, hks⟩ := hn.parts
  simp only [List.cons.injEq, and_true] at hcs
  obtain ⟨rfl, rfl, rfl, rfl⟩ := hcs
  obtain ⟨-, a1, p1, rfl, -⟩ := id ha
  obtain ⟨-, a3, p3, rfl, -, -, -, -⟩ := id hkr
  obtain ⟨kn, hkn⟩ : ∃ kn, n.attrs.length = kn := ⟨_, rfl⟩
  rw [hkn] at ha hk ⊢
  have hfw : Fr (fun _ => False) w (w.alloc (.cells #[.string (bs n.name), .slice a1 kn p1, .string (bs n.text), .slice a3 n.kids.length p3] 37)) := (Fr.refl _ _).alloc _
  have HA := Lib.hid (ha.fr hfw fun _ _ h => h)
  have HFW := Lib.hid hfw
  have HL := Lib.hid hkn
  have HB := Lib.hid (block_new w (.cells #[.string (bs n.name), .slice a1 kn p1, .string (bs n.text), .slice a3 n.kids.length p3] 37))
  clear hn ha hkr hks hkn hfw
  go_enter Tryz.func47, Tryz.ntmps47
  go_wp2_with fail
  go_loopg [6] kn (fun j v6 w' => ∃ W, W = w' ∧ ∃ i : Nat, i + j = kn ∧ v6 = .int .i64 i ∧ Hid ((n.attrs.take i).find? (fun a => a.1 == nm) = none ∧ Fr (fun _ => False) (w.alloc (.cells #[.string (bs n.name), .slice a1 kn p1, .string (bs n.text), .slice a3 n.kids.length p3] 37)) W))
  case atStart => exact ⟨_, rfl, 0, by omega, rfl, by simp, Fr.refl _ _⟩
  case round =>
    obtain ⟨W, rfl, i, hi, rfl, HI⟩ := hrel
    have bk := HI.out.2.keep HB.out (fun h => h)
    have x1 := cell_of bk (i := 1) (v := .slice a1 kn p1) rfl
    have xl := lt_of_block bk
    clear bk
    by_cases hlt : i < kn
    · obtain ⟨x, hx⟩ : ∃ x, n.attrs[i]? = some x := ⟨_, List.getElem?_eq_getElem (by rw [HL.out]; exact hlt)⟩
      have hrw := HA.out.fr HI.out.2 fun _ _ h => h
      obtain ⟨g, off, rfl, hc⟩ := hrw.cell (by omega)
      obtain ⟨m0, m1⟩ := acells_at hx
      have q0 := hc _ _ m0
      have q1 := hc _ _ m1
      rw [← Nat.add_assoc] at q1
      have HX := Lib.hid (And.intro hx hi)
      clear hx hi hrw hc m0 m1
      by_cases hnm : x.1 = nm
      · have t1 : ((bs x.1).toList == (bs nm).toList) = true := by rw [hnm]; simp
        have HE : Hid (attrO n nm = some x.2) := by
          show (n.attrs.find? fun a => a.1 == nm).map (·.2) = some x.2
          rw [find_here HI.out.1 HX.out.1 (by simp [hnm])]; rfl
        clear hnm
        go_wp2_with fail
        go_ret2
        exact ⟨by rw [HE.out] <;> rfl, HFW.out.next HI.out.2⟩
      · have t := str_eq_f hnm
        have t1 := t.1
        have t2 := t.2
        have HN := Lib.hid (find_skip HI.out.1 HX.out.1 (by simp [hnm]))
        clear t hnm
        go_wp2_with fail
        go_roundg (kn - (i + 1))
        case measure => have := HX.out.2; omega
        case rel => exact ⟨_, rfl, i + 1, by have := HX.out.2; omega, by go_num, HN.out, HI.out.2⟩
    · have hik : i = kn := by omega
      have htk : n.attrs.take i = n.attrs := by rw [hik, ← HL.out, List.take_length]
      have h1 := HI.out.1
      rw [htk] at h1
      have HE : Hid (attrO n nm = none) := by show (n.attrs.find? fun a => a.1 == nm).map (·.2) = none; rw [h1]; rfl
      clear hi hik htk h1
      go_wp2_with fail
      go_ret2
      exact ⟨by rw [HE.out] <;> rfl, HFW.out.next HI.out.2⟩
/-- Size -/
def RszPost (n : NodeD) (w : World) (e : Ending) (w' : World) : Prop :=
  e = .returned (.tuple #[.int .i64 ((manyN n : Nat) : Int), .int .i64 ((deepN n : Nat) : Int)]) ∧ Fr (fun _ => False) w w'
end Go.Proofs.YtpinjgdnhbogoaaGreatDoor

/- The reference's Squeeze. -/
namespace Go.Proofs.YtpinjgdnhbogoaaGreatDoor
open Go.RowKit Go.Lib

set_option maxHeartbeats 2000000 in
theorem tblank_n {w : World} (n : Nat) : Calls Tryz.prog 92 #[.int .u8 (n : Int)] w fun e w' => e = .returned (.bool (blankN n)) ∧ w = w' := by
  have hcl : n = 9 ∨ n = 10 ∨ n = 13 ∨ n = 32 ∨ (n ≠ 9 ∧ n ≠ 10 ∧ n ≠ 13 ∧ n ≠ 32) := by omega
  rcases hcl with h | h | h | h | h
  all_goals
    rcases Bool.eq_false_or_eq_true (blankN n) with hr | hr <;> (try (exfalso; first | (simp only [blankN, Bool.or_eq_true, decide_eq_true_eq] at hr; omega) | (simp only [blankN, Bool.or_eq_false_iff, decide_eq_false_iff_not] at hr; omega)))
    have HB := Lib.hid hr
    rcases Bool.eq_false_or_eq_true ((n : Int) == 32) with d0 | d0 <;> (try (exfalso; first | (have := beq_iff_eq.1 d0; omega) | (have := beq_eq_false_iff_ne.1 d0; omega)))
    rcases Bool.eq_false_or_eq_true ((n : Int) == 9) with d1 | d1 <;> (try (exfalso; first | (have := beq_iff_eq.1 d1; omega) | (have := beq_eq_false_iff_ne.1 d1; omega)))
    rcases Bool.eq_false_or_eq_true ((n : Int) == 10) with d2 | d2 <;> (try (exfalso; first | (have := beq_iff_eq.1 d2; omega) | (have := beq_eq_false_iff_ne.1 d2; omega)))
    rcases Bool.eq_false_or_eq_true ((n : Int) == 13) with d3 | d3 <;> (try (exfalso; first | (have := beq_iff_eq.1 d3; omega) | (have := beq_eq_false_iff_ne.1 d3; omega)))
    clear hr h
    go_enter Tryz.func92, Tryz.ntmps92
    go_wp2_with fail
    go_ret
    exact ⟨by rw [HB.out] <;> rfl, rfl⟩
theorem tblank_h {w : World} (c : UInt8) : Calls Tryz.prog 92 #[.int .u8 (c.toNat : Int)] w fun e w' => e = .returned (.bool (blankC c)) ∧ w = w' := by
  rw [blank_nat]; exact tblank_n _
def bytesV (l : Str) : List Value := l.map fun c => .int .u8 (c.toNat : Int)
theorem conv_row {w : World} {base cv : Nat} {l : Str} {bv : Option Addr} (h : w.ownsRow base 5 1 (.slice bv l.length cv) l.length (bytesV l)) : Sem.run Tryz.prog (convert 113 9 (.slice bv l.length cv)) w = .ok (.string (bs l)) w := by
  by_cases h0 : 0 < l.length
  · obtain ⟨g, off, hb, hc⟩ := (SRow.of_owns h).cell h0
    subst hb
    exact run_convert_bytes_back _ 113 9 5 ⟨g, off, none⟩ cv l Tryz.underlying113 Tryz.underlying5 Tryz.underlying9 fun j hj => by rw [Addr.add_lit]; exact hc j _ (by simp [bytesV, hj])
  · have e : l = [] := by cases l with | nil => rfl | cons a l => simp at h0
    subst e
    cases bv with
    | none => exact run_convert_nil_bytes _ 113 9 5 cv Tryz.underlying113 Tryz.underlying5 Tryz.underlying9
    | some a => exact run_convert_bytes_back _ 113 9 5 a cv [] Tryz.underlying113 Tryz.underlying5 Tryz.underlying9 fun j hj => by simp at hj
structure SqIn (w : World) (b : Str) (v : Value) (W : World) : Prop where
  row : W.ownsRow w.heap.size 5 1 v b.length (bytesV b)
  fr : Fr (fun _ => False) w W
theorem SqIn.push {w W W2 w7 : World} {b : Str} {v v7 : Value} (h : SqIn w b v W) (c : UInt8) (hf : Fr (fun _ => False) W W2) (hg : W2.grownBy w7 v.ownBlock) (hr : w7.ownsRow w.heap.size 5 1 v7 (b.length + 1) (bytesV b ++ [.int .u8 (c.toNat : Int)])) : SqIn w (b ++ [c]) v7 w7 := by
  have h7 : Fr (fun k => v.ownBlock = some k) W2 w7 := (Fr.refl _ _).grown hg fun k hk => .inl hk
  refine ⟨?_, (h.fr.next hf).trans h7 fun k hk => .inr (h.row.lt k hk).1⟩
  rw [List.length_append]
  have e : bytesV (b ++ [c]) = bytesV b ++ [.int .u8 (c.toNat : Int)] := by simp [bytesV]
  rw [e]; exact hr
theorem info5o : (Tryz.prog.info? 5).map (fun i => (i.zero, i.size, i.bytes)) = some (some (.int .u8 0), 1, 1) := by kernel_rfl
set_option maxRecDepth 100000 in
set_option maxHeartbeats 8000000 in
theorem rsqueeze_h {w : World} (s : Str) (hs : s.length ≤ 1000000) : Calls Tryz.prog 50 #[.string (bs s)] w fun e w' => e = .returned (.string (bs (squeezeL s))) ∧ Fr (fun _ => False) w w' := by
  obtain ⟨i0, hi0, hz0, hz1, hz2⟩ := info_parts info5o
  have hsz : (bs s).size = s.length := rfl
  go_enter Tryz.func50, Tryz.ntmps50
  go_wp2_with fail
  go_loopg [3, 4, 5] s.length (fun j v3 v4 v5 w' => ∃ W v, W = w' ∧ v = v3 ∧ ∃ (i : Nat) (b : Str) (gap : Bool), i + j = s.length ∧ v5 = .int .i64 i ∧ v4 = .bool gap ∧ Hid (SqAt s i b gap ∧ SqIn w b v W))
  case atStart => exact ⟨_, _, rfl, rfl, 0, [], false, by omega, rfl, rfl, SqAt.start s, World.ownsRow_nil _ _ _ _, Fr.refl _ _⟩
  case round =>
    obtain ⟨W, v, rfl, rfl, i, b, gap, hi, rfl, rfl, HI⟩ := hrel
    obtain ⟨bv, cv, rfl⟩ := ownsRow_shape HI.out.2.row
    by_cases hlt : i < s.length
    · have hz : i < (bs s).size := hlt
      have hg := bs_at s i hz
      obtain ⟨c, hc⟩ : ∃ c, s.getD i 0 = c := ⟨_, rfl⟩
      rw [hc] at hg
      have HB := Lib.hid (tblank_h (w := W) c)
      have HK := Lib.hid (And.intro hi (And.intro hlt hc))
      obtain ⟨bl, hbl⟩ : ∃ bl, b.length = bl := ⟨_, rfl⟩
      have hbl2 : bl + gap.toNat ≤ 1000000 := by have := HI.out.1.len; omega
      have HBL := Lib.hid hbl
      rw [hbl]
      cases hb : blankC c with
      | true =>
        have HN := Lib.hid (HI.out.1.blank hlt (by rw [hc]; exact hb))
        have hgt : (!b.isEmpty) = decide (0 < bl) := by
          rw [← hbl]; cases b with | nil => rfl | cons x l => simp
        rw [hgt] at HN
        rw [hb] at HB
        clear hb hc hi hbl hgt
        go_wp2_with fail
        refine Calls.mono HB.out ?_
        rintro e w1 ⟨rfl, rfl⟩
        go_wp2_with fail
        go_roundg (s.length - (i + 1))
        case measure => have := HK.out.1; omega
        case rel => exact ⟨_, _, rfl, by rw [HBL.out], i + 1, b, _, by have := HK.out.1; omega, by go_num, rfl, HN.out, HI.out.2⟩
      | false =>
        rw [hb] at HB
        cases gap with
        | true =>
          have HN := Lib.hid (HI.out.1.gap hlt (by rw [hc]; exact hb))
          rw [hc] at HN
          have HF1 : Hid (Fr (fun _ => False) W (W.alloc (.cells #[.int .u8 32] 5))) := (Fr.refl _ _).alloc _
          have HO := Lib.hid HI.out.2.row
          rw [hbl] at HO
          clear hb hc hi hbl
          go_wp2_with fail
          refine Calls.mono HB.out ?_
          rintro e w1 ⟨rfl, rfl⟩
          go_wp2_with (first
            | (at_builtin; refine wpList_append_row rfl (.tmp 20) (.tmp 21) 113 rfl w.heap.size 5 i0 (.int .u8 0) 1 1 Tryz.underlying113 hi0 hz0 hz1 hz2 rfl (by decide) (.slice bv bl cv) bl (bytesV b) rfl (ownsRow_fr HO.out HF1.out) (fun _ => True) _ 1 [.int .u8 32] rfl (SRow.of_block (block_new_at rfl) rfl (by decide) trivial) (by intro u hu; simp at hu; subst hu; rfl) (by unfold maxLen; simp at hbl2; omega) (by simp at hbl2; omega) (by simp; have := HI.out.2.fr.size; omega) ?_; intro b7 cap7 w7 hown7 hgrow7 hfr7; have HN7 := Lib.hid (HI.out.2.push 32 HF1.out (by rw [HBL.out]; exact hgrow7) (by rw [HBL.out]; exact hown7)); have HL7 := Lib.hid (show (b ++ [32]).length = bl + 1 by rw [List.length_append, HBL.out]; rfl); clear hown7 hgrow7 hfr7; have HF2 : Hid (Fr (fun _ => False) w7 (w7.alloc (.cells #[.int .u8 (c.toNat : Int)] 5))) := (Fr.refl _ _).alloc _)
            | (at_builtin; refine wpList_append_row rfl (.tmp 23) (.tmp 27) 113 rfl w.heap.size 5 i0 (.int .u8 0) 1 1 Tryz.underlying113 hi0 hz0 hz1 hz2 rfl (by decide) (.slice b7 (bl + 1) cap7) (bl + 1) (bytesV (b ++ [32])) rfl (by have h := ownsRow_fr HN7.out.row HF2.out; rw [HL7.out] at h; exact h) (fun _ => True) _ 1 [.int .u8 (c.toNat : Int)] rfl (SRow.of_block (block_new_at rfl) rfl (by decide) trivial) (by intro u hu; simp at hu; subst hu; rfl) (by unfold maxLen; simp at hbl2; omega) (by simp at hbl2; omega) (by simp; have := HN7.out.fr.size; omega) ?_; intro b8 cap8 w8 hown8 hgrow8 hfr8; have HN8 := Lib.hid (HN7.out.push c HF2.out hgrow8 (by rw [HL7.out]; exact hown8)); have HL8 := Lib.hid (show (b ++ [32] ++ [c]).length = bl + 1 + 1 by rw [List.length_append, HL7.out]; rfl); clear hown8 hgrow8 hfr8))
          go_roundg (s.length - (i + 1))
          case measure => have := HK.out.1; omega
          case rel => exact ⟨_, _, rfl, rfl, i + 1, b ++ [32] ++ [c], _, by have := HK.out.1; omega, by go_num, rfl, HN.out, HN8.out⟩
        | false =>
          have HN := Lib.hid (HI.out.1.plain hlt (by rw [hc]; exact hb))
          rw [hc] at HN
          have HF1 : Hid (Fr (fun _ => False) W (W.alloc (.cells #[.int .u8 (c.toNat : Int)] 5))) := (Fr.refl _ _).alloc _
          have HO := Lib.hid HI.out.2.row
          rw [hbl] at HO
          clear hb hc hi hbl
          go_wp2_with fail
          refine Calls.mono HB.out ?_
          rintro e w1 ⟨rfl, rfl⟩
          go_wp2_with (at_builtin; refine wpList_append_row rfl (.tmp 23) (.tmp 27) 113 rfl w.heap.size 5 i0 (.int .u8 0) 1 1 Tryz.underlying113 hi0 hz0 hz1 hz2 rfl (by decide) (.slice bv bl cv) bl (bytesV b) rfl (ownsRow_fr HO.out HF1.out) (fun _ => True) _ 1 [.int .u8 (c.toNat : Int)] rfl (SRow.of_block (block_new_at rfl) rfl (by decide) trivial) (by intro u hu; simp at hu; subst hu; rfl) (by unfold maxLen; simp at hbl2; omega) (by simp at hbl2; omega) (by simp; have := HI.out.2.fr.size; omega) ?_; intro b7 cap7 w7 hown7 hgrow7 hfr7; have HN7 := Lib.hid (HI.out.2.push c HF1.out (by rw [HBL.out]; exact hgrow7) (by rw [HBL.out]; exact hown7)); clear hown7 hgrow7 hfr7)
          go_roundg (s.length - (i + 1))
          case measure => have := HK.out.1; omega
          case rel => exact ⟨_, _, rfl, rfl, i + 1, b ++ [c], _, by have := HK.out.1; omega, by go_num, rfl, HN.out, HN7.out⟩
    · have hik : i = s.length := by omega
      subst hik
      have HE := Lib.hid (HI.out.1.done)
      have hcv := conv_row HI.out.2.row
      clear hi hlt
      go_wp2_with fail
      go_ret
      exact ⟨by rw [HE.out] <;> rfl, HI.out.2.fr⟩
end Go.Proofs.YtpinjgdnhbogoaaGreatDoor
