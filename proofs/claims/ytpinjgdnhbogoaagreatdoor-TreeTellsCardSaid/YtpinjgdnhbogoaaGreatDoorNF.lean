/- The law's copy of a tree: node and as. -/
import Derived.Test.YtpinjgdnhbogoaaGreatDoorN8
import Derived.Test.YtpinjgdnhbogoaaGreatDoorNS
import Derived.Test.YtpinjgdnhbogoaaGreatDoorNE
import Derived.Deep.RegionLaw
import Derived.Deep.RegionHeld3
namespace Go.Proofs.YtpinjgdnhbogoaaGreatDoor
open Go.RowKit Go.Lib

theorem info37 : (Tryz.prog.info? 37).map (fun i => (i.zero, i.size, i.bytes)) = some (some (.agg #[.string ⟨#[]⟩, .slice none 0 0, .string ⟨#[]⟩, .slice none 0 0]), 4, 80) := by kernel_rfl
theorem info95b : (Tryz.prog.info? 95).map (fun i => (i.zero, i.size, i.bytes)) = some (some (.agg #[.string ⟨#[]⟩, .string ⟨#[]⟩]), 2, 32) := by kernel_rfl
theorem ent70 : ∀ args w, (callFunc 70 args).run Tryz.prog w = .ok (.enter 70 args) w := enters_of Tryz.func70 (by kernel_rfl) rfl
def NodePost (lt : TypeId) (lb : Nat) (n : NodeD) (deep : Nat) (left : Int) (w : World) (e : Ending) (w' : World) : Prop :=
  ∃ c0 c1 c2 c3, e = .returned (.agg #[c0, c1, c2, c3]) ∧ NShape c0 c1 c2 c3 ∧ NodeV w' (fun k => w.heap.size ≤ k ∧ k < w'.heap.size) (cpN n deep left).1 [c0, c1, c2, c3] ∧ w'.heap[lb]? = some (.cells #[.int .i64 (cpN n deep left).2] lt (0, 0)) ∧ Fr (fun k => k = lb) w w'
/-- the boxes of the call: the tree itself, and the result -/
def Bx (w W : World) (c : Array Value) : Prop := W.heap[w.heap.size]? = some (.cells c 30 (0, 0)) ∧ W.heap[w.heap.size + 1]? = some (.cells #[.string ⟨#[]⟩, .slice none 0 0, .string ⟨#[]⟩, .slice none 0 0] 37 (0, 0))
theorem Bx.fr {w W W' : World} {c : Array Value} {o : Nat → Prop} (h : Bx w W c) (hf : Fr o W W') (h1 : ¬ o w.heap.size) (h2 : ¬ o (w.heap.size + 1)) : Bx w W' c := ⟨hf.keep h.1 h1, hf.keep h.2 h2⟩
theorem cpA_start {n : NodeD} {lb : Nat} {left : Int} {w : World} {bx : Array Value} (hb : w.heap[lb]? = some (.cells #[.int .i64 left] 3 (0, 0))) :
    CpA 37 95 3 lb (w.heap.size + 1 + 1) n (left - 1) w 0 (.slice none 0 0) ((((w.setCell ⟨lb, 0, none⟩ (.int .i64 (left - 1))).alloc (.cells bx 30)).alloc (.cells #[.string ⟨#[]⟩, .slice none 0 0, .string ⟨#[]⟩, .slice none 0 0] 37)).alloc (.cells #[.string (bs n.name), .slice none 0 0, .string (bs n.text), .slice none 0 0] 37)) ∧
    Bx w ((((w.setCell ⟨lb, 0, none⟩ (.int .i64 (left - 1))).alloc (.cells bx 30)).alloc (.cells #[.string ⟨#[]⟩, .slice none 0 0, .string ⟨#[]⟩, .slice none 0 0] 37)).alloc (.cells #[.string (bs n.name), .slice none 0 0, .string (bs n.text), .slice none 0 0] 37)) bx := by
  have hlt := lt_of_block hb
  refine ⟨{ le := ⟨Nat.zero_le _, Nat.zero_le _⟩, cnt := block_old (block_old (block_old (block_set hb 0 _) _) _) _, node := block_new_at (by simp), row := by rw [List.take_zero]; exact World.ownsRow_nil _ _ _ _, fr := (((fr_set w lb 0 _).alloc _).alloc _).alloc _, pos := ⟨by omega, by simp, hlt, by simp [Value.ownBlock]⟩ }, ?_, ?_⟩
  · exact block_old (block_old (block_new_at (by simp)) _) _
  · exact block_old (block_new_at (by simp)) _
set_option maxRecDepth 100000 in
set_option maxHeartbeats 4000000 in
theorem node_h : ∀ (m deep : Nat), deep < m → deep ≤ 100 → ∀ (n : NodeD) (w : World) (S : Nat → Prop) (c0 c1 c2 c3 : Value) (lb : Nat) (left : Int), NodeV w S n [c0, c1, c2, c3] → (∀ k, S k → k < w.heap.size ∧ k ≠ lb) → w.heap[lb]? = some (.cells #[.int .i64 left] 3 (0, 0)) → -1000000 ≤ left → left ≤ 1000 →
    Calls Tryz.prog 70 #[.agg #[c0, c1, c2, c3], .int .i64 (deep : Int), .pointer (some ⟨lb, 0, none⟩)] w (NodePost 3 lb n deep left w)
  | 0, _, h => by omega
  | m + 1, deep, hm => by
    intro hd n w S c0 c1 c2 c3 lb left hn hS hlb hlo hhi
    obtain ⟨av, kv, xs, hcs, ha, hk, hks⟩ := hn.parts
    simp only [List.cons.injEq, and_true] at hcs
    obtain ⟨rfl, rfl, rfl, rfl⟩ := hcs
    obtain ⟨-, a1, p1, rfl, ha1, ha2, -, -⟩ := id ha
    obtain ⟨-, a3, p3, rfl, hk1, hk2, -, -⟩ := id hk
    have hla : n.attrs.length ≤ maxLen := by omega
    have hlk : n.kids.length ≤ maxLen := by omega
    unfold maxLen at hla hlk
    obtain ⟨i37, hi37, hz37, hs37, hby37⟩ := info_parts info37
    obtain ⟨i95, hi95, hz95, hs95, hby95⟩ := info_parts info95b
    have hst := cpA_start (n := n) (bx := #[.string (bs n.name), .slice a1 n.attrs.length p1, .string (bs n.text), .slice a3 n.kids.length p3]) hlb
    have HST := Lib.hid hst
    have HA := Lib.hid ha
    have HK := Lib.hid (And.intro hk hks)
    have HS := Lib.hid hS
    have HM := Lib.hid hm
    have hIH := Lib.hid (node_h m)
    have x1 := cell_of hlb (i := 0) (v := .int .i64 left) rfl
    have g1 := free_of 0 hlb
    have b1 := lt_of_block hlb
    have b2 : lb < w.heap.size + 1 := by omega
    have b3 : lb < w.heap.size + 1 + 1 := by omega
    clear hn ha hk hks hS hlb hm hst ha1 ha2 hk1 hk2
    go_enter Tryz.func70, Tryz.ntmps70
    go_wp2_with fail
    go_loopg [8] 30 (fun j v8 w' => ∃ W av, W = w' ∧ ∃ i : Nat, i + j = 30 ∧ v8 = .int .i64 i ∧ Hid (CpA 37 95 3 lb (w.heap.size + 1 + 1) n (left - 1) w i av W ∧ Bx w W #[.string (bs n.name), .slice a1 n.attrs.length p1, .string (bs n.text), .slice a3 n.kids.length p3]))
    case atStart => exact ⟨_, _, rfl, 0, rfl, rfl, HST.out⟩
    case round =>
      obtain ⟨W, av, rfl, i, hi, rfl, HI⟩ := hrel
      have y1 := cell_of HI.out.2.1 (i := 1) (v := .slice a1 n.attrs.length p1) rfl
      by_cases hlt : i < n.attrs.length ∧ i < 30
      · obtain ⟨h1, h2⟩ := hlt
        have har := HA.out.fr HI.out.1.fr fun k hk e => by have := HS.out k hk; omega
        obtain ⟨g, off, rfl, hc⟩ := har.cell (by omega)
        obtain ⟨p, hp⟩ : ∃ p, n.attrs[i]? = some p := ⟨_, List.getElem?_eq_getElem h1⟩
        obtain ⟨m0, m1⟩ := acells_at hp
        have q0 := hc _ _ m0
        have q1 := hc _ _ m1
        rw [← Nat.add_assoc] at q1
        obtain ⟨bv, cv, rfl⟩ := ownsRow_shape HI.out.1.row
        have z1 := cell_of HI.out.1.node (i := 1) (v := .slice bv i cv) rfl
        have z2 := free_of 1 HI.out.1.node
        have l1 := lt_of_block HI.out.1.node
        have HX := Lib.hid (And.intro hp hi)
        have hi2 : i ≤ 30 := by omega
        clear har hc hp m0 m1 hi
        go_wp2_with fail
        go_region_law (first
          | (refine step_append_row rfl (.tmp 33) (.tmp 47) 34 rfl (w.heap.size + 2) 95 i95 (.agg #[.string ⟨#[]⟩, .string ⟨#[]⟩]) 2 32 Tryz.underlying34 hi95 hz95 hs95 hby95 rfl (by decide) (.slice bv i cv) i (acells (n.attrs.take i)) rfl (ownsRow_fr HI.out.1.row (show Fr (fun _ => False) W _ by repeat (first | exact Fr.refl _ _ | refine Fr.drew ?_ | refine Fr.alloc ?_ _))) (fun _ => True) _ 1 (acells [p]) rfl (SRow.of_block (e := 95) (f := (0, 0)) (by first | exact block_new _ _ | exact block_new_drew rfl) rfl (by decide) trivial) acells_one (by unfold maxLen; omega) (by omega) (by have := HI.out.1.pos; simp; omega) ?_; intro b7 cap7 w7 hown7 hgrow7 _; obtain ⟨hb7, hA7⟩ := HI.out.1.push (by decide) HX.out.1 h2 (show Fr (fun _ => False) W _ by repeat (first | exact Fr.refl _ _ | refine Fr.drew ?_ | refine Fr.alloc ?_ _)) hgrow7 hown7; have hbx7 : Bx w w7 #[.string (bs n.name), .slice (some ⟨g, off, none⟩) n.attrs.length p1, .string (bs n.text), .slice a3 n.kids.length p3] := (HI.out.2.fr (show Fr (fun _ => False) W _ by repeat (first | exact Fr.refl _ _ | refine Fr.drew ?_ | refine Fr.alloc ?_ _)) (fun h => h) (fun h => h)).fr ((Fr.refl (fun k => Value.ownBlock (.slice bv i cv) = some k) _).grown hgrow7 fun k hk => .inl hk) (own_ne HI.out.1.row HI.out.2.1 (by decide)) (own_ne HI.out.1.row HI.out.2.2 (by decide)); have HA7 := Lib.hid hA7; have HB7 := Lib.hid hbx7; have c7 := cell_of hb7 (i := 1) (v := .slice bv i cv) rfl; have j7 := free_of 1 hb7; have l7 := lt_of_block hb7; clear hown7 hgrow7 hb7 hA7 hbx7)
          | fail)
        all_goals
          go_wp2_with fail
          go_roundg (30 - (i + 1))
          case measure => have := HX.out.2; omega
          case rel => exact ⟨_, _, rfl, i + 1, by have := HX.out.2; omega, by go_num, HA7.out, HB7.out.fr (fr_set _ _ _ _) (by omega) (by omega)⟩
      · have htst : decide (i < n.attrs.length ∧ i < 30) = false := decide_eq_false hlt
        have h0 := HI.out.1.kids deep hlt
        obtain ⟨bv, cv, rfl⟩ := ownsRow_shape HI.out.1.row
        have hbase : w.heap.size + 1 < W.heap.size := lt_of_block HI.out.2.2
        have HC0 : Hid (CpK 37 3 lb (w.heap.size + 1 + 1) W.heap.size n deep (left - 1) w 0 [] (left - 1) (.slice bv i cv) (.slice none 0 0) W ∧ Bx w W #[.string (bs n.name), .slice a1 n.attrs.length p1, .string (bs n.text), .slice a3 n.kids.length p3]) := ⟨h0, HI.out.2⟩
        have hnn : ∃ nk, W.heap.size = nk ∧ w.heap.size + 1 < nk := ⟨_, rfl, hbase⟩
        obtain ⟨nk, hnk, hnk2⟩ := hnn
        rw [hnk] at HC0
        have hlt2 : i < n.attrs.length → ¬ i < 30 := fun a b => hlt ⟨a, b⟩
        have hg1 : ¬ i < n.attrs.length ∨ (i < n.attrs.length ∧ ¬ i < 30) := by
          rcases Nat.lt_or_ge i n.attrs.length with a | a
          · exact .inr ⟨a, hlt2 a⟩
          · exact .inl (by omega)
        have g3 : i < n.attrs.length ∧ ¬ i < 30 → ¬ (i : Int) < 30 := fun h => by omega
        clear htst h0 hnk hbase hlt2 hlt hi
        have hg2 : ¬ i < n.attrs.length ∨ (i < n.attrs.length ∧ ¬ (i : Int) < 30) := hg1.imp id fun h => ⟨h.1, g3 h⟩
        clear hg1 g3
        rcases hg2 with g1 | ⟨g1, g2⟩
        all_goals
          go_wp2_with fail
          go_loopg [9] n.kids.length (fun j v9 w' => ∃ W kv out lft, W = w' ∧ ∃ i2 : Nat, i2 + j = n.kids.length ∧ v9 = .int .i64 i2 ∧ Hid (CpK 37 3 lb (w.heap.size + 1 + 1) nk n deep (left - 1) w i2 out lft (.slice bv i cv) kv W ∧ Bx w W #[.string (bs n.name), .slice a1 n.attrs.length p1, .string (bs n.text), .slice a3 n.kids.length p3]))
          case atStart => exact ⟨_, _, _, _, rfl, 0, by omega, rfl, HC0.out⟩
          case round =>
            obtain ⟨W2, kv, out, lft, rfl, i2, hi2, rfl, HR⟩ := hrel
            have y3 := cell_of HR.out.2.1 (i := 3) (v := .slice a3 n.kids.length p3) rfl
            have u0 := cell_of HR.out.1.cnt (i := 0) (v := .int .i64 lft) rfl
            have u1 := lt_of_block HR.out.1.cnt
            by_cases hlt : i2 < n.kids.length ∧ 0 < deep ∧ 0 < lft
            · obtain ⟨h1, h2, h3⟩ := hlt
              have hfo : ∀ k, S k → ¬ k = lb := fun k hk => (HS.out k hk).2
              have hkr := HK.out.1.fr HR.out.1.fr hfo
              have hkk := KidsV.fr HR.out.1.fr hfo n.kids HK.out.2
              obtain ⟨x, hx⟩ : ∃ x, n.kids[i2]? = some x := ⟨_, List.getElem?_eq_getElem h1⟩
              obtain ⟨g, off, rfl, hc⟩ := hkr.cell (by omega)
              obtain ⟨j1, j2, j3, j4, j5, j6, hxv, q0, q1, q2, q3⟩ := kid_cells hc hkk hx
              obtain ⟨xs2, hx1, hx2⟩ := HR.out.1.kids
              obtain ⟨bk, ck, rfl⟩ := ownsRow_shape hx1
              have HXs := Lib.hid (And.intro hx1 hx2)
              have hlen := HR.out.1.len
              have hpos := HR.out.1.pos
              have hol : out.length ≤ 1000 := by omega
              have hlf : lft ≤ 1000 := by omega
              have z3 := cell_of HR.out.1.node (i := 3) (v := .slice bk out.length ck) rfl
              have z4 := lt_of_block HR.out.1.node
              have hdd : ((deep - 1 : Nat) : Int) = (deep : Int) - 1 := by omega
              have hwd : IntKind.i64.wrap ((deep : Int) - 1) = (deep : Int) - 1 := IntWalk.i64_in _ (by omega)
              have HIH := Lib.hid (fun (W' : World) (hF : Fr (fun _ => False) W2 W') => show Calls Tryz.prog 70 #[.agg #[.string (bs x.name), .slice j1 j2 j3, .string (bs x.text), .slice j4 j5 j6], .int .i64 ((deep : Int) - 1), .pointer (some ⟨lb, 0, none⟩)] W' (NodePost 3 lb x (deep - 1) lft W') by
                rw [← hdd]
                exact hIH.out (deep - 1) (by have := HM.out; omega) (by omega) x W' S _ _ _ _ lb lft (NodeV.fr hF (fun _ _ h => h) x hxv) (fun k hk => ⟨by have := HS.out k hk; have := HR.out.1.fr.size; have := hF.size; omega, hfo k hk⟩) (hF.keep HR.out.1.cnt (fun h => h)) (by omega) hlf)
              have HX := Lib.hid (And.intro hx hi2)
              have HP := Lib.hid hpos
              clear hkr hkk hc hx hxv hx1 hx2 hi2 hdd hfo hlen hpos
              go_wp2_with fail
              go_region_law (first
                | (refine step_call rfl 70 #[.tmp 73, .tmp 75, .tmp 76] #[30, 3, 107] rfl [.agg #[.string (bs x.name), .slice j1 j2 j3, .string (bs x.text), .slice j4 j5 j6], .int .i64 ((deep : Int) - 1), .pointer (some ⟨lb, 0, none⟩)] rfl ent70 _ (HIH.out _ (by repeat (first | exact Fr.refl _ _ | refine Fr.drew ?_))) ?_; rintro e w5 ⟨c0, c1, c2, c3, rfl, hsh, hnv5, hb5, hF5⟩; obtain ⟨s0, b1, n1, p1', s2, b3, n3, p5, rfl, rfl, rfl, rfl⟩ := hsh; have H5F := Lib.hid (show Fr (fun k => k = lb) W2 w5 from hF5.start rfl rfl rfl rfl); have H5 := Lib.hid (And.intro hb5 hnv5); have m35 := H5F.out.cell z3 (by have := HP.out; show ¬ w.heap.size + 1 + 1 = lb; omega); have hnb5 := Nat.lt_of_lt_of_le z4 H5F.out.size; clear hb5 hnv5 hF5; refine ⟨_, rfl, ?_⟩)
                | (refine step_append_at rfl (.tmp 68) (.tmp 78) 35 rfl nk 37 i37 (.agg #[.string ⟨#[]⟩, .slice none 0 0, .string ⟨#[]⟩, .slice none 0 0]) 4 80 Tryz.underlying35 hi37 hz37 hs37 hby37 rfl (by decide) (.slice bk out.length ck) out.length xs2 rfl (row_far HXs.out.1 (H5F.out.trans (show Fr (fun _ => False) w5 _ by repeat (first | exact Fr.refl _ _ | refine Fr.drew ?_ | refine Fr.alloc ?_ _)) fun _ h => h.elim) (by have := HP.out; omega)) ⟨w5.heap.size, 0, none⟩ 1 1 [.string s0, .slice b1 n1 p1', .string s2, .slice b3 n3 p5] rfl rfl (news_at (by first | exact block_new _ _ | exact block_new_drew rfl)) (by intro u hu; simp at hu; rcases hu with rfl | rfl | rfl | rfl <;> rfl) (by unfold maxLen; omega) (by omega) (by have h1 := HP.out; have h2 := H5F.out.size; simp; omega) (by omega) ?_; intro g7 cap7 w7 hown7 hgrow7 hat7; obtain ⟨hb7, hC7⟩ := HR.out.1.kid HX.out.1 h2 h3 HXs.out.1 HXs.out.2 H5F.out H5.out.1 (NodeV.mono (fun k hk => ⟨by have h := hk.1; simp at h; omega, hk.2⟩) _ H5.out.2) (show Fr (fun _ => False) w5 _ by repeat (first | exact Fr.refl _ _ | refine Fr.drew ?_ | refine Fr.alloc ?_ _)) hgrow7 hat7 hown7; have hbx7 : Bx w w7 #[.string (bs n.name), .slice a1 n.attrs.length p1, .string (bs n.text), .slice (some ⟨g, off, none⟩) n.kids.length p3] := ((HR.out.2.fr H5F.out (by have := HP.out; omega) (by have := HP.out; omega)).fr (show Fr (fun _ => False) w5 _ by repeat (first | exact Fr.refl _ _ | refine Fr.drew ?_ | refine Fr.alloc ?_ _)) (fun h => h) (fun h => h)).fr ((Fr.refl (fun k => Value.ownBlock (.slice bk out.length ck) = some k) _).grown hgrow7 fun k hk => .inl hk) (fun e => by have := (HXs.out.1.lt _ e).1; omega) (fun e => by have := (HXs.out.1.lt _ e).1; omega); have HC7 := Lib.hid hC7; have HB7 := Lib.hid hbx7; have c7 := cell_of hb7 (i := 3) (v := .slice bk out.length ck) rfl; have j7 := free_of 3 hb7; have l7 := lt_of_block hb7; clear hown7 hgrow7 hb7 hC7 hbx7 m35)
                | fail)
              all_goals
                go_wp2_with fail
                go_roundg (n.kids.length - (i2 + 1))
                case measure => have := HX.out.2; omega
                case rel => exact ⟨_, _, _, _, rfl, i2 + 1, by have := HX.out.2; omega, by go_num, HC7.out, HB7.out.fr (fr_set _ _ _ _) (by omega) (by omega)⟩
            · have hdn := HR.out.1.done hlt
              have hks : ∃ a n3 c, kv = .slice a n3 c := by obtain ⟨xs2, hx1, _⟩ := HR.out.1.kids; obtain ⟨bk, ck, e⟩ := ownsRow_shape hx1; exact ⟨_, _, _, e⟩
              obtain ⟨bk, ok, ck, rfl⟩ := hks
              have z0 := cell_of HR.out.1.node (i := 0) (v := .string (bs n.name)) rfl
              have z1 := cell_of HR.out.1.node (i := 1) (v := .slice bv i cv) rfl
              have z2 := cell_of HR.out.1.node (i := 2) (v := .string (bs n.text)) rfl
              have z3 := cell_of HR.out.1.node (i := 3) (v := .slice bk ok ck) rfl
              have r0 := cell_of HR.out.2.2 (i := 0) (v := .string ⟨#[]⟩) rfl
              have r1 := cell_of HR.out.2.2 (i := 1) (v := .slice none 0 0) rfl
              have r2 := cell_of HR.out.2.2 (i := 2) (v := .string ⟨#[]⟩) rfl
              have r3 := cell_of HR.out.2.2 (i := 3) (v := .slice none 0 0) rfl
              have t0 := free_of 0 HR.out.2.2
              have t1 := free_of 1 HR.out.2.2
              have t2 := free_of 2 HR.out.2.2
              have t3 := free_of 3 HR.out.2.2
              have hl1 := lt_of_block HR.out.2.2
              have hl2 := lt_of_block HR.out.1.node
              have HD := Lib.hid hdn
              have HP := Lib.hid HR.out.1.pos
              have hg3 : ¬ i2 < n.kids.length ∨ (i2 < n.kids.length ∧ ¬ 0 < deep) ∨ (i2 < n.kids.length ∧ 0 < deep ∧ ¬ 0 < lft) := by
                rcases Nat.lt_or_ge i2 n.kids.length with a | a
                · rcases Nat.lt_or_ge 0 deep with b | b
                  · exact .inr (.inr ⟨a, b, fun c => hlt ⟨a, b, c⟩⟩)
                  · exact .inr (.inl ⟨a, by omega⟩)
                · exact .inl (by omega)
              clear hdn hlt hi2
              rcases hg3 with k1 | ⟨k1, k2⟩ | ⟨k1, k2, k3⟩
              all_goals
                go_wp2_with fail
                have hz := block_set4b (a := .string (bs n.name)) (b := .slice bv i cv) (c := .string (bs n.text)) (d := .slice bk ok ck) HR.out.2.2
                have e0 := cell_of hz (i := 0) (v := .string (bs n.name)) rfl
                have e1 := cell_of hz (i := 1) (v := .slice bv i cv) rfl
                have e2 := cell_of hz (i := 2) (v := .string (bs n.text)) rfl
                have e3 := cell_of hz (i := 3) (v := .slice bk ok ck) rfl
                refine bodyPost_ret (v := .agg #[.string (bs n.name), .slice bv i cv, .string (bs n.text), .slice bk ok ck]) (by simp [results, Tryz.results70, go_sem, e0, e1, e2, e3] <;> rfl) rfl ?_
                have hfs := fr_set4b W2 (w.heap.size + 1) (.string (bs n.name)) (.slice bv i cv) (.string (bs n.text)) (.slice bk ok ck)
                exact ⟨_, _, _, _, rfl, .mk ⟨_, _, _, rfl⟩ ⟨_, _, _, rfl⟩, NodeV.mono (fun k hk => ⟨by omega, Nat.lt_of_lt_of_le hk.2 hfs.size⟩) _ (NodeV.fr hfs (fun k hk e => by omega) _ HD.out.2), by rw [HD.out.1]; exact hfs.keep HR.out.1.cnt (by have := HP.out; omega), HR.out.1.fr.trans hfs fun k e => .inr (by omega)⟩
end Go.Proofs.YtpinjgdnhbogoaaGreatDoor
