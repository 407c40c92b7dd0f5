/- The walk of the law TreeFinds. -/
import Derived.Test.YtpinjgdnhbogoaaGreatDoorNH
import Derived.Test.YtpinjgdnhbogoaaGreatDoorNG
import Derived.Test.YtpinjgdnhbogoaaGreatDoorND
import Derived.Test.YtpinjgdnhbogoaaGreatDoorM0
import Derived.Deep.CutRange
import Derived.Deep.RegionHeld3
namespace Go.Proofs.YtpinjgdnhbogoaaGreatDoor
open Go.RowKit Go.Lib

theorem ent31 : ∀ args w, (callFunc 31 args).run Tryz.prog w = .ok (.enter 31 args) w := enters_of Tryz.func31 (by kernel_rfl) rfl
def KPost (S : Nat → Prop) (h : NodeD) (w : World) (e : Ending) (w' : World) : Prop :=
  ∃ a1 n1 p1 a3 n3 p3, e = .returned (.tuple #[.agg #[.string (bs h.name), .slice a1 n1 p1, .string (bs h.text), .slice a3 n3 p3], .bool true]) ∧ NodeV w' S h [.string (bs h.name), .slice a1 n1 p1, .string (bs h.text), .slice a3 n3 p3] ∧ Fr (fun _ => False) w w'
theorem kid_cons {S : Nat → Prop} {l tl : List NodeD} {h : NodeD} {w : World} {e : Ending} {w' : World} (hl : l = h :: tl) (hp : KidPost S l w e w') : KPost S h w e w' := by
  subst hl
  obtain ⟨a1, n1, p1, a3, n3, p3, h1, h2, h3⟩ := hp
  have hd : decide (0 < (h :: tl).length) = true := decide_eq_true (by simp)
  rw [hd] at h1
  exact ⟨a1, n1, p1, a3, n3, p3, h1, h2, h3⟩
theorem nv_len {w : World} {S : Nat → Prop} {x : NodeD} {s t : ByteArray} {a1 a3 : Option Addr} {n1 p1 n3 p3 : Nat} (h : NodeV w S x [.string s, .slice a1 n1 p1, .string t, .slice a3 n3 p3]) : n3 = x.kids.length := by
  obtain ⟨av, kv, xs, hcs, _, hk, _⟩ := h.parts
  simp only [List.cons.injEq, and_true] at hcs
  obtain ⟨_, a, c, e, _⟩ := hk
  rw [← hcs.2.2.2] at e
  injection e
set_option maxRecDepth 100000 in
set_option maxHeartbeats 8000000 in
theorem treefinds_h {w : World} (hE : Env w) {n : NodeD} {c0 c1 c2 c3 : Value} (hn : NodeV w (fun k => k < w.heap.size) n [c0, c1, c2, c3]) (htx : textN n) : Calls Tryz.prog 4 #[.agg #[c0, c1, c2, c3]] w fun e w' => e = .returned (.bool true) ∧ Fr (fun _ => False) w w' := by
  obtain ⟨av, kv, xs, hcs, ha, hk, hks⟩ := hn.parts
  simp only [List.cons.injEq, and_true] at hcs
  obtain ⟨rfl, rfl, rfl, rfl⟩ := hcs
  obtain ⟨-, a1, p1, rfl, -⟩ := id ha
  obtain ⟨-, a3, p3, rfl, -, -, -, -⟩ := id hk
  have HN := Lib.hid (fun (W : World) (hF : Fr (fun _ => False) (w.alloc (.cells #[.string (bs n.name), .slice a1 n.attrs.length p1, .string (bs n.text), .slice a3 n.kids.length p3] 30)) W) => show NodeV W (fun k => k < w.heap.size) n [.string (bs n.name), .slice a1 n.attrs.length p1, .string (bs n.text), .slice a3 n.kids.length p3] from NodeV.fr (((Fr.refl (fun _ => False) w).alloc _).next hF) (fun _ _ h => h) n hn)
  have HZ := Lib.hid (fun (W : World) (hF : Fr (fun _ => False) (w.alloc (.cells #[.string (bs n.name), .slice a1 n.attrs.length p1, .string (bs n.text), .slice a3 n.kids.length p3] 30)) W) => show w.heap.size < W.heap.size by have h := hF.size; simp at h; omega)
  have HS := Lib.hid (tshown_h (hE.grow ((Fr.refl (fun _ => False) w).alloc (.cells #[.string (bs n.name), .slice a1 n.attrs.length p1, .string (bs n.text), .slice a3 n.kids.length p3] 30))))
  have HB0 : Hid ((w.alloc (.cells #[.string (bs n.name), .slice a1 n.attrs.length p1, .string (bs n.text), .slice a3 n.kids.length p3] 30)).heap[w.heap.size]? = some (.cells #[.string (bs n.name), .slice a1 n.attrs.length p1, .string (bs n.text), .slice a3 n.kids.length p3] 30 (0, 0))) := block_new _ _
  have HAs := Lib.hid (fun (W : World) (hF : Fr (fun _ => False) (w.alloc (.cells #[.string (bs n.name), .slice a1 n.attrs.length p1, .string (bs n.text), .slice a3 n.kids.length p3] 30)) W) => tas_h (HN.out W hF) (fun k hk => Nat.lt_trans hk (HZ.out W hF)))
  have HW0 : Hid (Fr (fun _ => False) w (w.alloc (.cells #[.string (bs n.name), .slice a1 n.attrs.length p1, .string (bs n.text), .slice a3 n.kids.length p3] 30))) := (Fr.refl _ _).alloc _
  obtain ⟨nc, hnc⟩ : ∃ nc, (cpN n 40 300).1 = nc := ⟨_, rfl⟩
  obtain ⟨lf, hlf⟩ : ∃ lf, (cpN n 40 300).2 = lf := ⟨_, rfl⟩
  obtain ⟨ok, hok⟩ : ∃ ok, (sameN n nc && decide (0 < lf)) = ok := ⟨_, rfl⟩
  have HTx := Lib.hid htx
  have HKr := Lib.hid (And.intro hk hks)
  have HC := Lib.hid (And.intro hnc (And.intro hlf hok))
  clear hn ha hk hks hE htx hnc hlf hok
  go_enter Tryz.func4, Tryz.ntmps4
  go_wp2_with fail
  refine Calls.mono HS.out ?_
  rintro e w1 ⟨rfl, hF⟩
  have HF1 := Lib.hid hF
  clear hF
  have bk1 := HF1.out.keep HB0.out (fun h => h)
  have x0 := cell_of bk1 (i := 0) (v := .string (bs n.name)) rfl
  have x1 := cell_of bk1 (i := 1) (v := .slice a1 n.attrs.length p1) rfl
  have x2 := cell_of bk1 (i := 2) (v := .string (bs n.text)) rfl
  have x3 := cell_of bk1 (i := 3) (v := .slice a3 n.kids.length p3) rfl
  have xl := lt_of_block bk1
  clear bk1
  go_wp2_with fail
  refine Calls.mono (HAs.out _ HF1.out) ?_
  rintro e w2 ⟨d0, d1, d2, d3, rfl, ⟨s0, b1, n1, q1, s2, b3, n3, q3, rfl, rfl, rfl, rfl⟩, hnv, hF⟩
  rw [HC.out.1] at hnv
  rw [HC.out.1, HC.out.2.1, HC.out.2.2]
  have HM2 := Lib.hid hnv
  have HF2a := Lib.hid (HF1.out.next hF)
  have HF2 := Lib.hid ((HF1.out.next hF).alloc (.cells #[.string s0, .slice b1 n1 q1, .string s2, .slice b3 n3 q3] 37))
  have HB2 : Hid ((w2.alloc (.cells #[.string s0, .slice b1 n1 q1, .string s2, .slice b3 n3 q3] 37)).heap[w2.heap.size]? = some (.cells #[.string s0, .slice b1 n1 q1, .string s2, .slice b3 n3 q3] 37 (0, 0))) := block_new _ _
  have HM3 := Lib.hid (fun (W : World) (hF : Fr (fun _ => False) (w2.alloc (.cells #[.string s0, .slice b1 n1 q1, .string s2, .slice b3 n3 q3] 37)) W) => NodeV.fr (((Fr.refl (fun _ => False) w2).alloc _).next hF) (fun _ _ h => h) nc HM2.out)
  clear hnv hF
  clear x0 x1 x2 x3 xl
  have bk2 := HF2.out.keep HB0.out (fun h => h)
  have x0 := cell_of bk2 (i := 0) (v := .string (bs n.name)) rfl
  have x1 := cell_of bk2 (i := 1) (v := .slice a1 n.attrs.length p1) rfl
  have x2 := cell_of bk2 (i := 2) (v := .string (bs n.text)) rfl
  have x3 := cell_of bk2 (i := 3) (v := .slice a3 n.kids.length p3) rfl
  have xl := lt_of_block bk2
  clear bk2
  cases ok with
  | false =>
    go_wp2_with fail
    go_ret
    exact ⟨rfl, HW0.out.next HF2.out⟩
  | true =>
    have hsm : sameN n nc = true := by have := HC.out.2.2; rw [Bool.and_eq_true] at this; exact this.1
    have hlf0 : 0 < lf := by have := HC.out.2.2; rw [Bool.and_eq_true] at this; exact of_decide_eq_true this.2
    have hnn : nc = n := ((sameN_iff n nc).1 hsm).symm
    have hmf := cpN_many n 40 300 (HC.out.1.trans hnn)
    rw [HC.out.2.1] at hmf
    have hmany : manyN n ≤ 300 := by omega
    have hdm := deep_many n
    have HFew := Lib.hid hmf.2
    have HNn := Lib.hid hnn
    have HSm := Lib.hid hsm
    clear hsm hlf0 hnn hmf
    have hk300 : n.kids.length ≤ 300 := by have := manyK_len n.kids; have := many_node n; omega
    go_wp2_with fail
    go_loopg [6, 7] n.kids.length (fun j v6 v7 w' => ∃ W, W = w' ∧ ∃ i : Nat, i + j = n.kids.length ∧ v7 = .int .i64 i ∧ v6 = .int .i64 ((seenN n.kids i : Nat) : Int) ∧ Hid (Fr (fun _ => False) (w.alloc (.cells #[.string (bs n.name), .slice a1 n.attrs.length p1, .string (bs n.text), .slice a3 n.kids.length p3] 30)) W))
    case atStart => exact ⟨_, rfl, 0, by omega, rfl, by rw [seen_zero]; rfl, HF2.out⟩
    case round =>
      obtain ⟨W, rfl, i, hi, rfl, rfl, HR⟩ := hrel
      have hsn : seenN n.kids i ≤ 300 := Nat.le_trans List.countP_le_length hk300
      by_cases hlt : i < n.kids.length
      · obtain ⟨y, hy⟩ : ∃ y, n.kids[i]? = some y := ⟨_, List.getElem?_eq_getElem hlt⟩
        obtain ⟨g, off, rfl, hc⟩ := HKr.out.1.cell (by omega)
        have HXc := Lib.hid (And.intro hc HKr.out.2)
        have HY := Lib.hid hy
        have HI := Lib.hid hi
        clear hc hy x0 x1 x2 x3 xl
        have bk1 := (HR.out).keep HB0.out (fun h => h)
        have x0 := cell_of bk1 (i := 0) (v := .string (bs n.name)) rfl
        have x1 := cell_of bk1 (i := 1) (v := .slice a1 n.attrs.length p1) rfl
        have x2 := cell_of bk1 (i := 2) (v := .string (bs n.text)) rfl
        have x3 := cell_of bk1 (i := 3) (v := .slice (some ⟨g, off, none⟩) n.kids.length p3) rfl
        have xl := lt_of_block bk1
        have hc1 : ∀ i u, xs[i]? = some u → W.cell? ⟨g, off + i, none⟩ = some u := fun i u hu => (HR.out).cell ((Fr.refl (fun _ => False) w).alloc (.cells #[.string (bs n.name), .slice a1 n.attrs.length p1, .string (bs n.text), .slice (some ⟨g, off, none⟩) n.kids.length p3] 30) |>.cell (HXc.out.1 i u hu) (fun h => h)) (fun h => h)
        have hkv1 := KidsV.fr (HR.out) (fun _ _ h => h) n.kids (KidsV.fr ((Fr.refl (fun _ => False) w).alloc (.cells #[.string (bs n.name), .slice a1 n.attrs.length p1, .string (bs n.text), .slice (some ⟨g, off, none⟩) n.kids.length p3] 30)) (fun _ _ h => h) n.kids HXc.out.2)
        obtain ⟨y1, y2, y3, y4, y5, y6, hyv1, q0, q1, q2, q3⟩ := kid_cells hc1 hkv1 HY.out
        clear bk1
        go_wp2_with fail
        go_loopg [8, 9] i (fun j v8 v9 wr => ∃ k p b, k + j = i ∧ v9 = .int .i64 (k : Nat) ∧ v8 = .bool b ∧ Hid (b = !((n.kids.take k).any fun z => z.name == y.name)) ∧ wr = W.drewN p)
        case atStart => exact ⟨0, 0, true, by omega, rfl, rfl, by simp [Hid], rfl⟩
        case round =>
          obtain ⟨k, p, b, hki, rfl, rfl, HBb, rfl⟩ := hrel
          by_cases hk : k < i
          · obtain ⟨z, hz⟩ : ∃ z, n.kids[k]? = some z := ⟨_, List.getElem?_eq_getElem (by omega)⟩
            obtain ⟨z1, z2, z3, z4, z5, z6, _, r0, r1, r2, r3⟩ := kid_cells hc1 hkv1 hz
            have HZk := Lib.hid (And.intro hz hki)
            have hkn : k < n.kids.length := by omega
            clear hz hki
            cases b with
            | false =>
              have HNx : Hid (false = !((n.kids.take (k + 1)).any fun z => z.name == y.name)) := by
                show _ = _
                have h := HBb.out
                rw [take_any HZk.out.1]
                cases ha : (n.kids.take k).any fun z => z.name == y.name with
                | true => rfl
                | false => rw [ha] at h; cases h
              go_wp2_with fail
              go_big_quiet (fail)
              go_wp2_with fail
              go_roundg (i - (k + 1))
              case measure => have := HZk.out.2; omega
              case rel => exact ⟨k + 1, _, false, by have := HZk.out.2; omega, by go_num, rfl, HNx, by first | rfl | exact World.drewN_drewN _ _ _⟩
            | true =>
              have ha0 : ((n.kids.take k).any fun z => z.name == y.name) = false := by
                have h := HBb.out
                cases ha : (n.kids.take k).any fun z => z.name == y.name with
                | false => rfl
                | true => rw [ha] at h; cases h
              by_cases hzy : z.name = y.name
              · have t6 : bs z.name = bs y.name := by rw [hzy]
                have HNx : Hid (false = !((n.kids.take (k + 1)).any fun z => z.name == y.name)) := by
                  show _ = _
                  rw [take_any HZk.out.1, hzy]; simp
                clear ha0 hzy
                go_wp2_with fail
                go_big_quiet (fail)
                go_wp2_with fail
                go_roundg (i - (k + 1))
                case measure => have := HZk.out.2; omega
                case rel => exact ⟨k + 1, _, false, by have := HZk.out.2; omega, by go_num, rfl, HNx, by first | rfl | exact World.drewN_drewN _ _ _⟩
              · have t := str_eq_facts hzy
                have t7 := t.1
                have t8 := t.2.1
                have t9 := t.2.2
                have HNx : Hid (true = !((n.kids.take (k + 1)).any fun z => z.name == y.name)) := by
                  show _ = _
                  rw [take_any HZk.out.1, ha0]; simp [hzy]
                clear ha0 hzy t
                go_wp2_with fail
                go_big_quiet (fail)
                go_wp2_with fail
                go_roundg (i - (k + 1))
                case measure => have := HZk.out.2; omega
                case rel => exact ⟨k + 1, _, true, by have := HZk.out.2; omega, by go_num, rfl, HNx, by first | rfl | exact World.drewN_drewN _ _ _⟩
          · have hk5 : k = i := by omega
            subst hk5
            have HRd := Lib.hid (HR.out.drewN p)
            clear hki hc1 hkv1 hyv1 x0 x1 x2 x3 xl q0 q1 q2 q3
            have bkd := (HRd.out).keep HB0.out (fun h => h)
            have x0 := cell_of bkd (i := 0) (v := .string (bs n.name)) rfl
            have x1 := cell_of bkd (i := 1) (v := .slice a1 n.attrs.length p1) rfl
            have x2 := cell_of bkd (i := 2) (v := .string (bs n.text)) rfl
            have x3 := cell_of bkd (i := 3) (v := .slice (some ⟨g, off, none⟩) n.kids.length p3) rfl
            have xl := lt_of_block bkd
            have hcd : ∀ i u, xs[i]? = some u → (W.drewN p).cell? ⟨g, off + i, none⟩ = some u := fun i u hu => (HRd.out).cell ((Fr.refl (fun _ => False) w).alloc (.cells #[.string (bs n.name), .slice a1 n.attrs.length p1, .string (bs n.text), .slice (some ⟨g, off, none⟩) n.kids.length p3] 30) |>.cell (HXc.out.1 i u hu) (fun h => h)) (fun h => h)
            have hkvd := KidsV.fr (HRd.out) (fun _ _ h => h) n.kids (KidsV.fr ((Fr.refl (fun _ => False) w).alloc (.cells #[.string (bs n.name), .slice a1 n.attrs.length p1, .string (bs n.text), .slice (some ⟨g, off, none⟩) n.kids.length p3] 30)) (fun _ _ h => h) n.kids HXc.out.2)
            obtain ⟨y1, y2, y3, y4, y5, y6, hyvd, q0, q1, q2, q3⟩ := kid_cells hcd hkvd HY.out
            clear bkd
            clear hcd hkvd hyvd
            generalize W.drewN p = Wd at *
            have HAll := Lib.hid (fun (W' : World) (hF : Fr (fun _ => False) Wd W') => all_h (HN.out _ (HRd.out.next hF)) (fun k hk => Nat.lt_trans hk (HZ.out _ (HRd.out.next hF))) (by omega) y.name)
            go_wp2_with fail
            go_still_tail 7, (by kernel_rfl)
            go_wp2_with fail
            refine Calls.mono (HAll.out _ ((Fr.refl _ _).drewN 1)) ?_
            rintro e w4 ⟨a4, c4, axs, rfl, har, hav, hF4⟩
            have HR4 := Lib.hid (HRd.out.next hF4.of_start)
            obtain ⟨al, hal⟩ : ∃ al, allN n y.name = al := ⟨_, rfl⟩
            have halp : 0 < al.length := by rw [← hal]; exact all_some HY.out
            rw [hal] at har hav ⊢
            obtain ⟨h, tl, rfl⟩ : ∃ h tl, al = h :: tl := by cases al with | nil => simp at halp | cons h t => exact ⟨h, t, rfl⟩
            have hall : (h :: tl).length ≤ 300 := by rw [← hal]; exact Nat.le_trans (List.length_filter_le _ _) hk300
            obtain ⟨g4, o4, rfl, hc4⟩ := har.cell halp
            have HKid := Lib.hid (fun (W' : World) (hF : Fr (fun _ => False) w4 W') => (kid_h (HN.out _ (HR4.out.next hF)) (fun k hk => Nat.lt_trans hk (HZ.out _ (HR4.out.next hF))) (by omega) y.name).mono fun _ _ hp => kid_cons hal hp)
            have HAl := Lib.hid (And.intro hal (And.intro hc4 hav))
            have HZB := Lib.hid (block_new w4 (.cells zeroNode 30))
            obtain ⟨all, hall2⟩ : ∃ a, (h :: tl).length = a := ⟨_, rfl⟩
            rw [hall2] at hall halp ⊢
            have HLen := Lib.hid hall2
            clear x0 x1 x2 x3 xl q0 q1 q2 q3 har hav hc4 hF4 hal hall2
            have bk4x := (HR4.out).keep HB0.out (fun h => h)
            have x0 := cell_of bk4x (i := 0) (v := .string (bs n.name)) rfl
            have x1 := cell_of bk4x (i := 1) (v := .slice a1 n.attrs.length p1) rfl
            have x2 := cell_of bk4x (i := 2) (v := .string (bs n.text)) rfl
            have x3 := cell_of bk4x (i := 3) (v := .slice (some ⟨g, off, none⟩) n.kids.length p3) rfl
            have xl := lt_of_block bk4x
            have hc4x : ∀ i u, xs[i]? = some u → w4.cell? ⟨g, off + i, none⟩ = some u := fun i u hu => (HR4.out).cell ((Fr.refl (fun _ => False) w).alloc (.cells #[.string (bs n.name), .slice a1 n.attrs.length p1, .string (bs n.text), .slice (some ⟨g, off, none⟩) n.kids.length p3] 30) |>.cell (HXc.out.1 i u hu) (fun h => h)) (fun h => h)
            have hkv4x := KidsV.fr (HR4.out) (fun _ _ h => h) n.kids (KidsV.fr ((Fr.refl (fun _ => False) w).alloc (.cells #[.string (bs n.name), .slice a1 n.attrs.length p1, .string (bs n.text), .slice (some ⟨g, off, none⟩) n.kids.length p3] 30)) (fun _ _ h => h) n.kids HXc.out.2)
            obtain ⟨y1, y2, y3, y4, y5, y6, hyv4x, q0, q1, q2, q3⟩ := kid_cells hc4x hkv4x HY.out
            clear bk4x
            have gl : g < w4.heap.size := World.block_lt_of_cell? w4 _ q0
            clear hc4x hkv4x hyv4x
            go_upto_region 15 with fail
            go_cut [11, 12] from 26 to 113 (fun s11 s12 wx => ∃ kb k1 k2 k3 k4 k6, s11 = .pointer (some ⟨kb, 0, none⟩) ∧ s12 = .bool true ∧ wx.heap[kb]? = some (.cells #[.string (bs h.name), .slice k1 k2 k3, .string (bs h.text), .slice k4 h.kids.length k6] 30 (0, 0)) ∧ Fr (fun _ => False) w4 wx)
            case first =>
              go_region_held3 (fun w' => w'.cell? ⟨w.heap.size, 0, none⟩ = some (.string (bs n.name)) ∧ w'.cell? ⟨w.heap.size, 1, none⟩ = some (.slice a1 n.attrs.length p1) ∧ w'.cell? ⟨w.heap.size, 2, none⟩ = some (.string (bs n.text)) ∧ w'.cell? ⟨w.heap.size, 3, none⟩ = some (.slice (some ⟨g, off, none⟩) n.kids.length p3) ∧ w'.cell? ⟨g, off + k * 4, none⟩ = some (.string (bs y.name)))
                (first | go_keep | (exact ⟨r0, r1, r2, r3, sq⟩) | (exact ⟨cell_set4 r0 (by simp; omega), cell_set4 r1 (by simp; omega), cell_set4 r2 (by simp; omega), cell_set4 r3 (by simp; omega), cell_set4 sq (by simp; omega)⟩) | fail)
                (first
                  | (go_at_call 31; (with_reducible refine Calls.mono (HKid.out _ (by repeat (first | exact Fr.refl _ _ | refine Fr.drew ?_ | refine Fr.alloc ?_ _))) ?_); rintro e w5 ⟨k1, k2, k3, k4, k5, k6, rfl, hkv, hF5⟩; obtain rfl : k5 = h.kids.length := nv_len hkv; have H5 := Lib.hid (show Fr (fun _ => False) w4 w5 by first | exact hF5.start rfl rfl rfl rfl | exact ((Fr.refl _ _).alloc _).next (hF5.start rfl rfl rfl rfl)); have r0 := H5.out.cell x0 (fun h => h); have r1 := H5.out.cell x1 (fun h => h); have r2 := H5.out.cell x2 (fun h => h); have r3 := H5.out.cell x3 (fun h => h); have sq := H5.out.cell q0 (fun h => h); have hs4 := H5.out.size; (try (have hz3 := (show Fr (fun _ => False) (w4.alloc (.cells zeroNode 30)) w5 from hF5.start rfl rfl rfl rfl).keep HZB.out (fun h => h); have HZ3 := Lib.hid hz3; have z0 := cell_of hz3 (i := 0) (v := .string ⟨#[]⟩) rfl; have z1 := cell_of hz3 (i := 1) (v := .slice none 0 0) rfl; have z2 := cell_of hz3 (i := 2) (v := .string ⟨#[]⟩) rfl; have z3 := cell_of hz3 (i := 3) (v := .slice none 0 0) rfl; have u0 := free_of 0 hz3; have u1 := free_of 1 hz3; have u2 := free_of 2 hz3; have u3 := free_of 3 hz3; have ul := lt_of_block hz3; clear hz3)); clear hkv hF5)
                  | fail)
              all_goals
                go_wp2_with fail
                go_meet
                first
                  | exact ⟨_, _, _, _, _, _, rfl, rfl, block_set4b HZ3.out, H5.out.trans (fr_set4b _ _ _ _ _ _) fun k e => .inr (by omega)⟩
                  | exact ⟨_, _, _, _, _, _, rfl, rfl, block_new _ _, H5.out.alloc _⟩
            case rest =>
              obtain ⟨kb, k1, k2, k3, k4, k6, rfl, rfl, hkb, hF5⟩ := hcut
              have HR5 := Lib.hid (HR4.out.next hF5)
              have hc5 : ∀ i u, axs[i]? = some u → wc.cell? ⟨g4, o4 + i, none⟩ = some u := fun i u hu => hF5.cell (HAl.out.2.1 i u hu) (fun h => h)
              have hkv5 := KidsV.fr hF5 (fun _ _ h => h) (h :: tl) HAl.out.2.2
              obtain ⟨l1, l2, l3, l4, l5, l6, hlv, p0, p1', p2, p3'⟩ := kid_cells (i := 0) hc5 hkv5 rfl
              simp only [Nat.zero_mul, Nat.add_zero] at p0 p1' p2 p3'
              obtain rfl : l5 = h.kids.length := nv_len hlv
              have b2 := cell_of hkb (i := 2) (v := .string (bs h.text)) rfl
              have b3' := cell_of hkb (i := 3) (v := .slice k4 h.kids.length k6) rfl
              have hn0 : ((all : Int) == 0) = false := by rw [beq_eq_false_iff_ne]; omega
              have hn1 : ((h.kids.length : Int) != (h.kids.length : Int)) = false := by simp
              have halpi : (0 : Int) < (all : Int) := by omega
              clear x0 x1 x2 x3 xl q0 q1 q2 q3 gl hc5 hkv5 hlv hkb hF5
              have bk5x := (HR5.out).keep HB0.out (fun h => h)
              have x0 := cell_of bk5x (i := 0) (v := .string (bs n.name)) rfl
              have x1 := cell_of bk5x (i := 1) (v := .slice a1 n.attrs.length p1) rfl
              have x2 := cell_of bk5x (i := 2) (v := .string (bs n.text)) rfl
              have x3 := cell_of bk5x (i := 3) (v := .slice (some ⟨g, off, none⟩) n.kids.length p3) rfl
              have xl := lt_of_block bk5x
              have hc5x : ∀ i u, xs[i]? = some u → wc.cell? ⟨g, off + i, none⟩ = some u := fun i u hu => (HR5.out).cell ((Fr.refl (fun _ => False) w).alloc (.cells #[.string (bs n.name), .slice a1 n.attrs.length p1, .string (bs n.text), .slice (some ⟨g, off, none⟩) n.kids.length p3] 30) |>.cell (HXc.out.1 i u hu) (fun h => h)) (fun h => h)
              have hkv5x := KidsV.fr (HR5.out) (fun _ _ h => h) n.kids (KidsV.fr ((Fr.refl (fun _ => False) w).alloc (.cells #[.string (bs n.name), .slice a1 n.attrs.length p1, .string (bs n.text), .slice (some ⟨g, off, none⟩) n.kids.length p3] 30)) (fun _ _ h => h) n.kids HXc.out.2)
              obtain ⟨y1, y2, y3, y4, y5, y6, hyv5x, q0, q1, q2, q3⟩ := kid_cells hc5x hkv5x HY.out
              clear bk5x
              clear hc5x hkv5x hyv5x
              cases b with
              | true =>
                have hany : ((n.kids.take k).any fun z => z.name == y.name) = false := by
                  have h := HBb.out
                  cases ha : (n.kids.take k).any fun z => z.name == y.name with
                  | false => rfl
                  | true => rw [ha] at h; cases h
                have hhy : h = y := by
                  have h2 := all_first HY.out hany
                  have h3 : allN n y.name = h :: tl := HAl.out.1
                  unfold allN at h3
                  rw [h3] at h2
                  exact Option.some.inj h2
                have hsn2 : seenN n.kids (k + 1) = seenN n.kids k + all := by
                  rw [seen_new HY.out hany]
                  have h3 : allN n y.name = h :: tl := HAl.out.1
                  unfold allN at h3
                  rw [h3, HLen.out]
                have HS2 := Lib.hid hsn2
                subst hhy
                clear hany hsn2
                go_wp2_with fail
                go_big_quiet (fail)
                go_wp2_with fail
                go_big_quiet (fail)
                go_wp2_with fail
                go_roundg (n.kids.length - (k + 1))
                case measure => have := HI.out; omega
                case rel => exact ⟨_, rfl, k + 1, by have := HI.out; omega, by go_num, by rw [HS2.out]; go_num, (by first | exact HR5.out.drewN _ | exact (HR5.out.drewN _).drewN _)⟩
              | false =>
                have hany : ((n.kids.take k).any fun z => z.name == y.name) = true := by
                  have h := HBb.out
                  cases ha : (n.kids.take k).any fun z => z.name == y.name with
                  | true => rfl
                  | false => rw [ha] at h; cases h
                have HS2 := Lib.hid (seen_old HY.out hany)
                clear hany
                go_wp2_with fail
                go_big_quiet (fail)
                go_wp2_with fail
                go_roundg (n.kids.length - (k + 1))
                case measure => have := HI.out; omega
                case rel => exact ⟨_, rfl, k + 1, by have := HI.out; omega, by go_num, by rw [HS2.out], HR5.out.drewN _⟩
      · have hik : i = n.kids.length := by omega
        have hbk := HR.out.keep HB0.out (fun h => h)
        have x5 := cell_of hbk (i := 3) (v := .slice a3 n.kids.length p3) rfl
        have hsa : seenN n.kids i = n.kids.length := by rw [hik, seen_all]
        rw [hsa]
        have e1 : ((n.kids.length : Int) == (n.kids.length : Int)) = true := by simp
        clear hi hik hbk hsa x0 x1 x2 x3 xl
        go_wp2_with fail
        go_ret
        exact ⟨rfl, HW0.out.next HR.out⟩
end Go.Proofs.YtpinjgdnhbogoaaGreatDoor
