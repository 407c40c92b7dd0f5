/- feed's Items and Extract: walked. -/
import Derived.Test.YtpinjgdnhbogoaaGreatDoorFW2
import Derived.Test.YtpinjgdnhbogoaaGreatDoorMaps
import Derived.Test.YtpinjgdnhbogoaaGreatDoorFR
namespace Go.Proofs.YtpinjgdnhbogoaaGreatDoor
open Go.RowKit Go.Lib

def entI (x : ItemD) : Value × Value := (.string (bs x.id), .int .i64 1)
theorem ent_key {out : List ItemD} {id : Str} (h : hasI out id = false) : ∀ p ∈ out.map entI, p.1 ≠ .string (bs id) := by
  intro p hp e
  obtain ⟨y, hy, rfl⟩ := List.mem_map.1 hp
  have h1 : bs y.id = bs id := by injection e
  have h2 : hasI out id = true := List.any_eq_true.2 ⟨y, hy, by simpa using bs_inj h1⟩
  rw [h2] at h; cases h
theorem ent_mem {out : List ItemD} {id : Str} (h : hasI out id = true) : (Value.string (bs id), Value.int .i64 1) ∈ out.map entI := by
  obtain ⟨y, hy, e⟩ := List.any_eq_true.1 h
  have e2 : y.id = id := by simpa using e
  exact List.mem_map.2 ⟨y, hy, by unfold entI; rw [e2]⟩
theorem info82 : (Tryz.prog.info? 82).map (fun i => (i.zero, i.size, i.bytes)) = some (some (.agg #[.string ⟨#[]⟩, .string ⟨#[]⟩, .string ⟨#[]⟩]), 3, 48) := by kernel_rfl
/-- items so far: a row of one's own, and the map of what was seen -/
structure ItIn (w : World) (B mb : Nat) (out : List ItemD) (oa : Option Addr) (oc : Nat) (W : World) : Prop where
  row : W.ownsRow B 82 3 (.slice oa out.length oc) out.length (icells out)
  base : w.heap.size ≤ B
  map : MapOf W .string mb (out.map entI)
  fr : Fr (fun _ => False) w W
  low : w.heap.size ≤ mb
  len : out.length ≤ 100
theorem ItIn.fr2 {w W W2 : World} {B mb oc : Nat} {out : List ItemD} {oa : Option Addr} (h : ItIn w B mb out oa oc W) (hf : Fr (fun _ => False) W W2) : ItIn w B mb out oa oc W2 :=
  ⟨ownsRow_fr h.row hf, h.base, h.map.keep (hf.block mb h.map.lt (fun h => h)), h.fr.next hf, h.low, h.len⟩
theorem own_not_map {w : World} {base e size n b : Nat} {v : Value} {xs : List Value} {es : Array MapEntry} {c : Nat} (h : w.ownsRow base e size v n xs) (hb : w.heap[b]? = some (.map es c)) : v.ownBlock ≠ some b := by
  rcases h.2 with ⟨rfl, _⟩ | ⟨g, cap, cur, rfl, _, hg, _⟩
  · simp [Value.ownBlock]
  · intro h2
    simp only [Value.ownBlock, Option.some.injEq] at h2
    subst h2
    rw [hg] at hb
    cases hb
/-- the map has one more, the row is as it was -/
theorem ItIn.seen {w W W2 : World} {B mb oc : Nat} {out : List ItemD} {oa : Option Addr} {M : List (Value × Value)} (h : ItIn w B mb out oa oc W) (hf : Fr (fun k => k = mb) W W2) (_hm : MapOf W2 .string mb M) :
    W2.ownsRow B 82 3 (.slice oa out.length oc) out.length (icells out) ∧ Fr (fun _ => False) w W2 := by
  obtain ⟨es, c, hb⟩ := h.map.block
  refine ⟨ownsRow_keep h.row fun k hk => hf.block k (h.row.lt k hk).2 fun e => own_not_map h.row hb (by rw [hk, e]), h.fr.trans hf fun k e => .inr (by have := h.low; omega)⟩
theorem ItIn.push {w W2 W3 w7 : World} {B mb oc cap : Nat} {out : List ItemD} {oa b : Option Addr} {x : ItemD} (hB : w.heap.size ≤ B) (hlow : w.heap.size ≤ mb) (hl : out.length < 100) (hm : MapOf W2 .string mb (entI x :: out.map entI)) (hr : W2.ownsRow B 82 3 (.slice oa out.length oc) out.length (icells out))
    (hF2 : Fr (fun _ => False) w W2) (hf : Fr (fun _ => False) W2 W3) (hg : W3.grownBy w7 (Value.slice oa out.length oc).ownBlock) (ho : w7.ownsRow B 82 3 (.slice b (out.length + 1) cap) (out.length + 1) (icells out ++ icells [x])) : ItIn w B mb (out ++ [x]) b cap w7 := by
  have e : (out ++ [x]).length = out.length + 1 := by simp
  have hm3 : MapOf W3 .string mb (entI x :: out.map entI) := hm.keep (hf.block mb hm.lt (fun h => h))
  obtain ⟨es, c, hb⟩ := hm3.block
  have hne := own_not_map (ownsRow_fr hr hf) hb
  refine ⟨by rw [e, icells_app]; exact ho, hB, ?_, (hF2.next hf).grown hg fun k hk => .inr (Nat.le_trans hB (hr.lt k hk).1), hlow, by rw [e]; omega⟩
  have h1 : MapOf w7 .string mb (entI x :: out.map entI) := hm3.keep (hg.block mb hm3.lt (fun e => hne e.symm))
  refine h1.perm ?_
  rw [List.map_append]
  exact (List.perm_append_comm (l₁ := [entI x]) (l₂ := out.map entI))
def ItemsPost (o : Option (List ItemD)) (w : World) (e : Ending) (w' : World) : Prop :=
  (match o with
    | none => e = .returned (.tuple #[.slice none 0 0, .bool false])
    | some l => ∃ a c, e = .returned (.tuple #[.slice a l.length c, .bool true]) ∧ w'.ownsRow w.heap.size 82 3 (.slice a l.length c) l.length (icells l)) ∧ Fr (fun _ => False) w w'
theorem items_no {o : Option (List ItemD)} {w w' : World} (h : o = none) (hf : Fr (fun _ => False) w w') : ItemsPost o w (.returned (.tuple #[.slice none 0 0, .bool false])) w' := by subst h; exact ⟨rfl, hf⟩
theorem items_yes {o : Option (List ItemD)} {l : List ItemD} {a : Option Addr} {c n : Nat} {w w' : World} (h : o = some l) (hn : l.length = n) (hr : w'.ownsRow w.heap.size 82 3 (.slice a n c) l.length (icells l)) (hf : Fr (fun _ => False) w w') : ItemsPost o w (.returned (.tuple #[.slice a n c, .bool true])) w' := by
  subst h hn; exact ⟨⟨a, c, rfl, hr⟩, hf⟩
/-- what is read of the kids of a name -/
def gotI (f : NodeD → ItemD) (l : List NodeD) : List ItemD := (l.map f).foldl withL []
theorem got_step {f : NodeD → ItemD} {l : List NodeD} {k : Nat} {x : NodeD} {out : List ItemD} (h : gotI f (l.take k) = out) (hx : l[k]? = some x) : gotI f (l.take (k + 1)) = withL out (f x) := by
  unfold gotI at h ⊢
  rw [List.take_add_one, hx, List.map_append, List.foldl_append, h]; rfl
theorem got_stop {f : NodeD → ItemD} {l : List NodeD} {k : Nat} {out : List ItemD} (h : gotI f (l.take k) = out) (hl : 100 ≤ out.length) : gotI f l = out := by
  unfold gotI at h ⊢
  conv => lhs; rw [← List.take_append_drop k l, List.map_append, List.foldl_append, h]
  exact fold_full _ _ hl
theorem got_rss {n c : NodeD} {l : List NodeD} (h : n.name = nRss) (hc : allN n nChannel = c :: l) : itemsL n = some (gotI rssI (allN c nItem)) := by
  have hc2 : allL n nChannel = c :: l := hc
  unfold itemsL; rw [if_pos h, hc2]; rfl
theorem got_rss0 {n : NodeD} (h : n.name = nRss) (hc : allN n nChannel = []) : itemsL n = none := by
  have hc2 : allL n nChannel = [] := hc
  unfold itemsL; rw [if_pos h, hc2]
theorem got_feed {n : NodeD} (h0 : n.name ≠ nRss) (h : n.name = nFeed) : itemsL n = some (gotI atomI (allN n nEntry)) := by unfold itemsL; rw [if_neg h0, if_pos h]; rfl
theorem got_else {n : NodeD} (h0 : n.name ≠ nRss) (h : n.name ≠ nFeed) : itemsL n = none := by unfold itemsL; rw [if_neg h0, if_neg h]
theorem mapty : Tryz.prog.underlying 181 = some (.map 9 3) := Tryz.underlying181
set_option maxRecDepth 100000 in
set_option maxHeartbeats 16000000 in
theorem items_h {w : World} {S : Nat → Prop} {n : NodeD} {c0 c1 c2 c3 : Value} (hn : NodeV w S n [c0, c1, c2, c3]) (hS : ∀ k, S k → k < w.heap.size) (hz : nszN n ≤ 1000000) :
    Calls Tryz.prog 93 #[.agg #[c0, c1, c2, c3]] w (ItemsPost (itemsL n) w) := by
  obtain ⟨av, kv, xs, hcs, ha, hk, hks⟩ := hn.parts
  simp only [List.cons.injEq, and_true] at hcs
  obtain ⟨rfl, rfl, rfl, rfl⟩ := hcs
  obtain ⟨-, a1, p1, rfl, -⟩ := id ha
  obtain ⟨-, a3, p3, rfl, -, -, -, -⟩ := id hk
  have hmm := @run_makeMap Tryz.prog
  have HB : Hid ((w.alloc (.cells #[.string (bs n.name), .slice a1 n.attrs.length p1, .string (bs n.text), .slice a3 n.kids.length p3] 30)).heap[w.heap.size]? = some (.cells #[.string (bs n.name), .slice a1 n.attrs.length p1, .string (bs n.text), .slice a3 n.kids.length p3] 30 (0, 0))) := block_new _ _
  have HF0 : Hid (Fr (fun _ => False) w (w.alloc (.cells #[.string (bs n.name), .slice a1 n.attrs.length p1, .string (bs n.text), .slice a3 n.kids.length p3] 30))) := (Fr.refl _ _).alloc _
  have HN := Lib.hid (fun (W : World) (hF : Fr (fun _ => False) (w.alloc (.cells #[.string (bs n.name), .slice a1 n.attrs.length p1, .string (bs n.text), .slice a3 n.kids.length p3] 30)) W) => And.intro (NodeV.fr (HF0.out.next hF) (fun _ _ h => h) n hn) (fun k (hk : S k) => Nat.lt_of_lt_of_le (hS k hk) (HF0.out.next hF).size))
  have HS0 := Lib.hid hS
  have HZn := Lib.hid hz
  have x0 := cell_of HB.out (i := 0) (v := .string (bs n.name)) rfl
  have x1 := cell_of HB.out (i := 1) (v := .slice a1 n.attrs.length p1) rfl
  have x2 := cell_of HB.out (i := 2) (v := .string (bs n.text)) rfl
  have x3 := cell_of HB.out (i := 3) (v := .slice a3 n.kids.length p3) rfl
  have xl := lt_of_block HB.out
  clear hn ha hk hks hS hz
  by_cases h1 : n.name = nRss
  · have r1 : ((bs n.name).toList == [114, 115, 115]) = true := by rw [bs_toList, h1]; rfl
    have r2 : decide (bs n.name = ⟨#[114, 115, 115]⟩) = true := decide_eq_true (by rw [h1]; rfl)
    have r3 : ((bs n.name).toList != [114, 115, 115]) = false := by rw [bne, r1]; rfl
    have HKid := Lib.hid (kid_h (HN.out _ (Fr.refl _ _)).1 (HN.out _ (Fr.refl _ _)).2 (Nat.le_trans (nsz_kids n) HZn.out) nChannel)
    cases hc : allN n nChannel with
    | nil =>
      have HE := Lib.hid (got_rss0 h1 hc)
      rw [hc] at HKid
      clear h1 hc
      go_enter Tryz.func93, Tryz.ntmps93
      go_wp2_with fail
      refine Calls.mono HKid.out ?_
      rintro e w2 ⟨k1, k2, k3, k4, k5, k6, rfl, -, hF⟩
      have hd : decide (0 < ([] : List NodeD).length) = false := rfl
      have HF2 := Lib.hid ((HF0.out.next hF).alloc (.cells #[.string (bs (hdN []).name), .slice k1 k2 k3, .string (bs (hdN []).text), .slice k4 k5 k6] 30))
      clear hF x0 x1 x2 x3 xl
      rw [hd]
      go_wp2_with fail
      go_ret2
      exact items_no HE.out HF2.out
    | cons c l =>
      have HIt := Lib.hid (got_rss h1 hc)
      have hcm : c ∈ allL n nChannel := by show c ∈ allN n nChannel; rw [hc]; exact List.mem_cons_self ..
      have HZm := Lib.hid (Nat.le_trans (nsz_all hcm) HZn.out)
      rw [hc] at HKid
      clear h1 hc hcm
      go_enter Tryz.func93, Tryz.ntmps93
      go_wp2_with fail
      refine Calls.mono HKid.out ?_
      rintro e w2 ⟨k1, k2, k3, k4, k5, k6, rfl, hkv, hF⟩
      have hd : decide (0 < (c :: l).length) = true := decide_eq_true (by simp)
      rw [hd]
      obtain ⟨w3, hw3⟩ : ∃ w3, w3 = (w2.alloc (.cells #[.string (bs (hdN (c :: l)).name), .slice k1 k2 k3, .string (bs (hdN (c :: l)).text), .slice k4 k5 k6] 30)).alloc (.map #[] 0) := ⟨_, rfl⟩
      obtain ⟨mb, hmb⟩ : ∃ mb, mb = w2.heap.size + 1 := ⟨_, rfl⟩
      have hF3 : Fr (fun _ => False) w2 w3 := by rw [hw3]; exact ((Fr.refl _ _).alloc _).alloc _
      have HFp := Lib.hid ((HF0.out.next hF).next hF3)
      have HM : Hid (MapOf w3 .string mb []) := by show MapOf _ _ _ _; rw [hw3, hmb, ← World.size_alloc]; exact MapOf.made _ _
      have HLow : Hid (w.heap.size ≤ mb) := by show _ ≤ _; rw [hmb]; exact Nat.le_trans (HF0.out.next hF).size (Nat.le_succ _)
      have HAll := Lib.hid (all_h (n := c) (NodeV.fr hF3 (fun _ _ h => h) c hkv) (fun k hk => Nat.lt_of_lt_of_le (HS0.out k hk) HFp.out.size) (Nat.le_trans (nsz_kids c) HZm.out) nItem)
      have hb2 := block_new w2 (.cells #[.string (bs (hdN (c :: l)).name), .slice k1 k2 k3, .string (bs (hdN (c :: l)).text), .slice k4 k5 k6] 30)
      have v0 := cell_of hb2 (i := 0) (v := .string (bs c.name)) rfl
      have v1 := cell_of hb2 (i := 1) (v := .slice k1 k2 k3) rfl
      have v2 := cell_of hb2 (i := 2) (v := .string (bs c.text)) rfl
      have v3 := cell_of hb2 (i := 3) (v := .slice k4 k5 k6) rfl
      have vl := lt_of_block hb2
      clear hkv hF hF3 hb2 x0 x1 x2 x3 xl
      go_wp2_with fail
      rw [← hw3]
      rw [← hmb]
      clear hw3 hmb v0 v1 v2 v3 vl
      obtain ⟨al, hal⟩ : ∃ al, allN c nItem = al := ⟨_, rfl⟩
      have hall : al.length ≤ 1000000 := by rw [← hal]; exact Nat.le_trans (List.length_filter_le _ _) (Nat.le_trans (nsz_kids c) HZm.out)
      have HZa := Lib.hid (fun x (hx : x ∈ al) => Nat.le_trans (nsz_all (n := c) (nm := nItem) (show x ∈ allL c nItem from by show x ∈ allN c nItem; rw [hal]; exact hx)) HZm.out)
      have HIt2 := Lib.hid (show itemsL n = some (gotI rssI al) by rw [← hal]; exact HIt.out)
      refine Calls.mono HAll.out ?_
      rw [hal]
      clear hal
      rintro e w4 ⟨a4, c4, axs, rfl, har, hav, hF4⟩
      have HF4 := Lib.hid (HFp.out.next hF4)
      have HA := Lib.hid (And.intro har hav)
      have HMb := Lib.hid HM.out.lt
      have HS4 := Lib.hid (fun k (hk : S k) => Nat.lt_of_lt_of_le (HS0.out k hk) HF4.out.size)
      have HMp := Lib.hid (show MapOf w4 .string mb ([] : List (Value × Value)) from HM.out.keep (hF4.block mb HM.out.lt (fun h => h)))
      have H0 : Hid (ItIn w w4.heap.size mb [] none 0 w4) := ⟨World.ownsRow_nil _ _ _ _, HF4.out.size, HMp.out, HF4.out, HLow.out, Nat.zero_le _⟩
      obtain ⟨aln, haln⟩ : ∃ aln, al.length = aln := ⟨_, rfl⟩
      rw [haln] at har hall ⊢
      have HAN := Lib.hid haln
      clear har hav hF4 haln
      go_wp2_with fail
      go_loopg [9, 36] aln (fun j v9 v36 w' => ∃ k out oa oc W, W = w' ∧ v9 = .slice oa (List.length (α := ItemD) out) oc ∧ k + j = aln ∧ v36 = .int .i64 (k : Nat) ∧ Hid (gotI rssI (al.take k) = out ∧ ItIn w w4.heap.size mb out oa oc W ∧ Fr (fun k => k = mb) w4 W))
      case atStart => exact ⟨0, [], none, 0, _, rfl, rfl, by omega, rfl, rfl, H0.out, Fr.refl _ _⟩
      case round =>
        obtain ⟨k, out, oa, oc, W, rfl, rfl, hkj, rfl, HI⟩ := hrel
        have hol := HI.out.2.1.len
        by_cases hlt : k < aln
        · obtain ⟨x, hx⟩ : ∃ x, al[k]? = some x := ⟨_, List.getElem?_eq_getElem (by rw [HAN.out]; exact hlt)⟩
          obtain ⟨g, off, rfl, hc⟩ := (HA.out.1.fr HI.out.2.2 fun i hi e => by have := HMb.out; have := hi.1; omega).cell (by have := HAN.out; omega)
          obtain ⟨y1, y2, y3, y4, y5, y6, hyv, q0, q1, q2, q3⟩ := kid_cells hc (KidsV.fr HI.out.2.2 (fun i hi e => by have := HS0.out i hi; have := HLow.out; omega) al HA.out.2) hx
          have HKj := Lib.hid (And.intro hkj hx)
          have hFb : Fr (fun _ => False) W (W.alloc (.cells #[.string (bs x.name), .slice y1 y2 y3, .string (bs x.text), .slice y4 y5 y6] 30)) := (Fr.refl _ _).alloc _
          have HI2 := Lib.hid (HI.out.2.1.fr2 hFb)
          have HR := Lib.hid (rss_h (NodeV.fr hFb (fun _ _ h => h) x hyv) (fun k hk => Nat.lt_of_lt_of_le (HS4.out k hk) (Nat.le_trans HI.out.2.2.size hFb.size)) (HZa.out x (List.mem_of_getElem? hx)))
          obtain ⟨it, hit⟩ : ∃ it, rssI x = it := ⟨_, rfl⟩
          rw [hit] at HR
          have HFx := Lib.hid hit
          have hbx := block_new W (.cells #[.string (bs x.name), .slice y1 y2 y3, .string (bs x.text), .slice y4 y5 y6] 30)
          have w0 := cell_of hbx (i := 0) (v := .string (bs x.name)) rfl
          have w1' := cell_of hbx (i := 1) (v := .slice y1 y2 y3) rfl
          have w2' := cell_of hbx (i := 2) (v := .string (bs x.text)) rfl
          have w3' := cell_of hbx (i := 3) (v := .slice y4 y5 y6) rfl
          have HNx := Lib.hid (show gotI rssI (al.take (k + 1)) = withL out it by rw [← hit]; exact got_step HI.out.1 hx)
          clear hkj hx hc hyv hFb hit hbx
          go_wp2_with fail
          refine Calls.mono HR.out ?_
          rintro e w5 ⟨rfl, hF5⟩
          have hF6 := hF5.alloc (.cells #[.string (bs it.id), .string (bs it.title), .string (bs it.link)] 82)
          have HI3 := Lib.hid (HI2.out.fr2 hF6)
          have HF46 := Lib.hid ((HI.out.2.2.alloc (.cells #[.string (bs x.name), .slice y1 y2 y3, .string (bs x.text), .slice y4 y5 y6] 30)).trans hF6 fun _ e => e.elim)
          have hmb5 : mb < w5.heap.size := (HI2.out.fr2 hF5).map.lt
          have hbi := block_new w5 (.cells #[.string (bs it.id), .string (bs it.title), .string (bs it.link)] 82)
          have HBi := Lib.hid hbi
          have i0 := cell_of hbi (i := 0) (v := .string (bs it.id)) rfl
          have i1 := cell_of hbi (i := 1) (v := .string (bs it.title)) rfl
          have i2 := cell_of hbi (i := 2) (v := .string (bs it.link)) rfl
          clear q0 q1 q2 q3 w0 w1' w2' w3' hF5 hF6 hbi
          unfold iagg
          by_cases h0 : it.id = []
          · have t1 : ((bs it.id).toList == []) = true := by rw [bs_toList, h0]; rfl
            have t2 : (bs it.id).toList.isEmpty = true := by rw [bs_toList, h0]; rfl
            have HW := Lib.hid (HNx.out.trans (with_none out h0))
            clear h0
            go_wp2_with fail
            go_roundg (aln - (k + 1))
            case measure => have := HKj.out.1; omega
            case rel => exact ⟨k + 1, out, oa, oc, _, rfl, rfl, by have := HKj.out.1; omega, by go_num, HW.out, HI3.out, HF46.out⟩
          have t1 : ((bs it.id).toList == []) = false := by rw [bs_toList]; exact beq_eq_false_iff_ne.2 h0
          have t2 : (bs it.id).toList.isEmpty = false := by rw [bs_toList]; simpa using h0
          have t3 : decide (bs it.id = ⟨#[]⟩) = false := decide_eq_false fun e => h0 (bs_inj e)
          cases hh : hasI out it.id with
          | true =>
            have hlook := HI3.out.map.run_look (P := Tryz.prog) (t := 181) (k := .string (bs it.id)) mapty Tryz.underlying9 trivial (ent_mem hh) false
            have HW := Lib.hid (HNx.out.trans (with_has hh))
            clear h0 hh
            go_wp2_with fail
            go_roundg (aln - (k + 1))
            case measure => have := HKj.out.1; omega
            case rel => exact ⟨k + 1, out, oa, oc, _, rfl, rfl, by have := HKj.out.1; omega, by go_num, HW.out, HI3.out, HF46.out⟩
          | false =>
          have hlook := HI3.out.map.run_none (P := Tryz.prog) (t := 181) (k := .string (bs it.id)) mapty Tryz.underlying9 trivial (ent_key hh) Tryz.zeroValue3 false
          have HKy := Lib.hid (ent_key hh)
          by_cases hfull : out.length = 100
          · have HW := Lib.hid (got_stop HI.out.1 (by omega))
            have t4 : ((out.length : Int) == 100) = true := by rw [hfull]; rfl
            have HFull := Lib.hid hfull
            clear h0 hh hfull
            go_wp2_with fail
            go_ret2
            exact items_yes (HIt2.out.trans (by rw [HW.out])) rfl (ownsRow_base HI3.out.row HI3.out.base) HI3.out.fr
          · have t4 : ((out.length : Int) == 100) = false := by rw [beq_eq_false_iff_ne]; omega
            have hl99 : out.length < 100 := by omega
            have HW := Lib.hid (HNx.out.trans (with_new h0 hl99 hh))
            obtain ⟨i82, hi82, hz82, hs82, hb82⟩ := info_parts info82
            clear h0 hh hfull
            go_wp2_with (first
              | (at_mapUpdate; go_must (refine wpList_map_add (key := .string (bs it.id)) (val := .int .i64 1) rfl _ _ _ 181 rfl 9 3 mapty Tryz.underlying9 rfl rfl rfl HI3.out.map trivial HKy.out ?_; intro w7 hm7 hf7; obtain ⟨hr7, hF7⟩ := HI3.out.seen hf7 hm7; have HX7 := Lib.hid (And.intro hm7 (And.intro hr7 (And.intro hF7 (HF46.out.trans hf7 (fun k e => .inl e))))); have hbi7 := hf7.keep HBi.out (by show ¬ _ = _; omega); have i0 := cell_of hbi7 (i := 0) (v := .string (bs it.id)) rfl; have i1 := cell_of hbi7 (i := 1) (v := .string (bs it.title)) rfl; have i2 := cell_of hbi7 (i := 2) (v := .string (bs it.link)) rfl; have il7 := lt_of_block hbi7; have HF8 : Hid (Fr (fun _ => False) w7 (w7.alloc (.cells #[.string (bs it.id), .string (bs it.title), .string (bs it.link)] 82))) := (Fr.refl _ _).alloc _; clear hm7 hf7 hr7 hF7 hbi7))
              | (at_builtin; refine wpList_append_row rfl (.tmp 61) (.tmp 63) 84 rfl w4.heap.size 82 i82 (.agg #[.string ⟨#[]⟩, .string ⟨#[]⟩, .string ⟨#[]⟩]) 3 48 Tryz.underlying84 hi82 hz82 hs82 hb82 rfl (by decide) (.slice oa out.length oc) out.length (icells out) rfl (ownsRow_fr HX7.out.2.1 HF8.out) (fun _ => True) _ 1 (icells [it]) rfl (SRow.of_block (e := 82) (f := (0, 0)) (block_new _ _) rfl (by decide) trivial) (fun u hu => icells_one u hu) (by unfold maxLen; omega) (by omega) (Nat.le_trans HX7.out.2.2.2.size HF8.out.size) ?_; intro b9 cap9 w9 hown9 hgrow9 _; have HN9 := Lib.hid (ItIn.push HI3.out.base HI3.out.low hl99 HX7.out.1 HX7.out.2.1 HX7.out.2.2.1 HF8.out hgrow9 hown9); have HF9 := Lib.hid ((HX7.out.2.2.2.trans HF8.out (fun _ e => e.elim)).grown hgrow9 (fun k hk => .inr (HX7.out.2.1.lt k hk).1)); clear hown9 hgrow9))
            go_roundg (aln - (k + 1))
            case measure => have := HKj.out.1; omega
            case rel => exact ⟨k + 1, out ++ [it], b9, cap9, _, rfl, by rw [List.length_append]; rfl, by have := HKj.out.1; omega, by go_num, HW.out, HN9.out, HF9.out⟩
        · have hke : k = aln := by omega
          have htk : al.take k = al := by rw [hke, ← HAN.out, List.take_length]
          have HW := Lib.hid (show gotI rssI al = out by have h := HI.out.1; rw [htk] at h; exact h)
          have hke2 := hke.symm
          clear hkj hlt htk hke
          subst hke2
          go_wp2_with fail
          go_ret2
          exact items_yes (HIt2.out.trans (by rw [HW.out])) rfl (ownsRow_base HI.out.2.1.row HI.out.2.1.base) HI.out.2.1.fr
  · have r1 : ((bs n.name).toList == [114, 115, 115]) = false := by rw [bs_toList]; exact beq_eq_false_iff_ne.2 h1
    have r2 : decide (bs n.name = ⟨#[114, 115, 115]⟩) = false := decide_eq_false fun e => h1 (bs_inj e)
    have r3 : ((bs n.name).toList != [114, 115, 115]) = true := by rw [bne, r1]; rfl
    by_cases h2 : n.name = nFeed
    · have q1 : ((bs n.name).toList == [102, 101, 101, 100]) = true := by rw [bs_toList, h2]; rfl
      have q2 : decide (bs n.name = ⟨#[102, 101, 101, 100]⟩) = true := decide_eq_true (by rw [h2]; rfl)
      have q3 : ((bs n.name).toList != [102, 101, 101, 100]) = false := by rw [bne, q1]; rfl
      have HIt := Lib.hid (got_feed h1 h2)
      have HZm := Lib.hid HZn.out
      obtain ⟨w3, hw3⟩ : ∃ w3, w3 = (w.alloc (.cells #[.string (bs n.name), .slice a1 n.attrs.length p1, .string (bs n.text), .slice a3 n.kids.length p3] 30)).alloc (.map #[] 0) := ⟨_, rfl⟩
      obtain ⟨mb, hmb⟩ : ∃ mb, mb = w.heap.size + 1 := ⟨_, rfl⟩
      have hF3 : Fr (fun _ => False) (w.alloc (.cells #[.string (bs n.name), .slice a1 n.attrs.length p1, .string (bs n.text), .slice a3 n.kids.length p3] 30)) w3 := by rw [hw3]; exact (Fr.refl _ _).alloc _
      have HFp := Lib.hid (HF0.out.next hF3)
      have HM : Hid (MapOf w3 .string mb []) := by show MapOf _ _ _ _; rw [hw3, hmb, ← World.size_alloc]; exact MapOf.made _ _
      have HLow : Hid (w.heap.size ≤ mb) := by show _ ≤ _; rw [hmb]; exact Nat.le_succ _
      have HAll := Lib.hid (all_h (HN.out _ hF3).1 (HN.out _ hF3).2 (Nat.le_trans (nsz_kids n) HZm.out) nEntry)
      clear h1 h2 hF3
      go_enter Tryz.func93, Tryz.ntmps93
      go_wp2_with fail
      rw [← hw3]
      rw [← hmb]
      clear hw3 hmb x0 x1 x2 x3 xl
      obtain ⟨al, hal⟩ : ∃ al, allN n nEntry = al := ⟨_, rfl⟩
      have hall : al.length ≤ 1000000 := by rw [← hal]; exact Nat.le_trans (List.length_filter_le _ _) (Nat.le_trans (nsz_kids n) HZm.out)
      have HZa := Lib.hid (fun x (hx : x ∈ al) => Nat.le_trans (nsz_all (n := n) (nm := nEntry) (show x ∈ allL n nEntry from by show x ∈ allN n nEntry; rw [hal]; exact hx)) HZm.out)
      have HIt2 := Lib.hid (show itemsL n = some (gotI atomI al) by rw [← hal]; exact HIt.out)
      refine Calls.mono HAll.out ?_
      rw [hal]
      clear hal
      rintro e w4 ⟨a4, c4, axs, rfl, har, hav, hF4⟩
      have HF4 := Lib.hid (HFp.out.next hF4)
      have HA := Lib.hid (And.intro har hav)
      have HMb := Lib.hid HM.out.lt
      have HS4 := Lib.hid (fun k (hk : S k) => Nat.lt_of_lt_of_le (HS0.out k hk) HF4.out.size)
      have HMp := Lib.hid (show MapOf w4 .string mb ([] : List (Value × Value)) from HM.out.keep (hF4.block mb HM.out.lt (fun h => h)))
      have H0 : Hid (ItIn w w4.heap.size mb [] none 0 w4) := ⟨World.ownsRow_nil _ _ _ _, HF4.out.size, HMp.out, HF4.out, HLow.out, Nat.zero_le _⟩
      obtain ⟨aln, haln⟩ : ∃ aln, al.length = aln := ⟨_, rfl⟩
      rw [haln] at har hall ⊢
      have HAN := Lib.hid haln
      clear har hav hF4 haln
      go_wp2_with fail
      go_loopg [9, 36] aln (fun j v9 v36 w' => ∃ k out oa oc W, W = w' ∧ v9 = .slice oa (List.length (α := ItemD) out) oc ∧ k + j = aln ∧ v36 = .int .i64 (k : Nat) ∧ Hid (gotI atomI (al.take k) = out ∧ ItIn w w4.heap.size mb out oa oc W ∧ Fr (fun k => k = mb) w4 W))
      case atStart => exact ⟨0, [], none, 0, _, rfl, rfl, by omega, rfl, rfl, H0.out, Fr.refl _ _⟩
      case round =>
        obtain ⟨k, out, oa, oc, W, rfl, rfl, hkj, rfl, HI⟩ := hrel
        have hol := HI.out.2.1.len
        by_cases hlt : k < aln
        · obtain ⟨x, hx⟩ : ∃ x, al[k]? = some x := ⟨_, List.getElem?_eq_getElem (by rw [HAN.out]; exact hlt)⟩
          obtain ⟨g, off, rfl, hc⟩ := (HA.out.1.fr HI.out.2.2 fun i hi e => by have := HMb.out; have := hi.1; omega).cell (by have := HAN.out; omega)
          obtain ⟨y1, y2, y3, y4, y5, y6, hyv, q0, q1, q2, q3⟩ := kid_cells hc (KidsV.fr HI.out.2.2 (fun i hi e => by have := HS0.out i hi; have := HLow.out; omega) al HA.out.2) hx
          have HKj := Lib.hid (And.intro hkj hx)
          have hFb : Fr (fun _ => False) W (W.alloc (.cells #[.string (bs x.name), .slice y1 y2 y3, .string (bs x.text), .slice y4 y5 y6] 30)) := (Fr.refl _ _).alloc _
          have HI2 := Lib.hid (HI.out.2.1.fr2 hFb)
          have HR := Lib.hid (atom_h (NodeV.fr hFb (fun _ _ h => h) x hyv) (fun k hk => Nat.lt_of_lt_of_le (HS4.out k hk) (Nat.le_trans HI.out.2.2.size hFb.size)) (HZa.out x (List.mem_of_getElem? hx)))
          obtain ⟨it, hit⟩ : ∃ it, atomI x = it := ⟨_, rfl⟩
          rw [hit] at HR
          have HFx := Lib.hid hit
          have hbx := block_new W (.cells #[.string (bs x.name), .slice y1 y2 y3, .string (bs x.text), .slice y4 y5 y6] 30)
          have w0 := cell_of hbx (i := 0) (v := .string (bs x.name)) rfl
          have w1' := cell_of hbx (i := 1) (v := .slice y1 y2 y3) rfl
          have w2' := cell_of hbx (i := 2) (v := .string (bs x.text)) rfl
          have w3' := cell_of hbx (i := 3) (v := .slice y4 y5 y6) rfl
          have HNx := Lib.hid (show gotI atomI (al.take (k + 1)) = withL out it by rw [← hit]; exact got_step HI.out.1 hx)
          clear hkj hx hc hyv hFb hit hbx
          go_wp2_with fail
          refine Calls.mono HR.out ?_
          rintro e w5 ⟨rfl, hF5⟩
          have hF6 := hF5.alloc (.cells #[.string (bs it.id), .string (bs it.title), .string (bs it.link)] 82)
          have HI3 := Lib.hid (HI2.out.fr2 hF6)
          have HF46 := Lib.hid ((HI.out.2.2.alloc (.cells #[.string (bs x.name), .slice y1 y2 y3, .string (bs x.text), .slice y4 y5 y6] 30)).trans hF6 fun _ e => e.elim)
          have hmb5 : mb < w5.heap.size := (HI2.out.fr2 hF5).map.lt
          have hbi := block_new w5 (.cells #[.string (bs it.id), .string (bs it.title), .string (bs it.link)] 82)
          have HBi := Lib.hid hbi
          have i0 := cell_of hbi (i := 0) (v := .string (bs it.id)) rfl
          have i1 := cell_of hbi (i := 1) (v := .string (bs it.title)) rfl
          have i2 := cell_of hbi (i := 2) (v := .string (bs it.link)) rfl
          clear q0 q1 q2 q3 w0 w1' w2' w3' hF5 hF6 hbi
          unfold iagg
          by_cases h0 : it.id = []
          · have t1 : ((bs it.id).toList == []) = true := by rw [bs_toList, h0]; rfl
            have t2 : (bs it.id).toList.isEmpty = true := by rw [bs_toList, h0]; rfl
            have HW := Lib.hid (HNx.out.trans (with_none out h0))
            clear h0
            go_wp2_with fail
            go_roundg (aln - (k + 1))
            case measure => have := HKj.out.1; omega
            case rel => exact ⟨k + 1, out, oa, oc, _, rfl, rfl, by have := HKj.out.1; omega, by go_num, HW.out, HI3.out, HF46.out⟩
          have t1 : ((bs it.id).toList == []) = false := by rw [bs_toList]; exact beq_eq_false_iff_ne.2 h0
          have t2 : (bs it.id).toList.isEmpty = false := by rw [bs_toList]; simpa using h0
          have t3 : decide (bs it.id = ⟨#[]⟩) = false := decide_eq_false fun e => h0 (bs_inj e)
          cases hh : hasI out it.id with
          | true =>
            have hlook := HI3.out.map.run_look (P := Tryz.prog) (t := 181) (k := .string (bs it.id)) mapty Tryz.underlying9 trivial (ent_mem hh) false
            have HW := Lib.hid (HNx.out.trans (with_has hh))
            clear h0 hh
            go_wp2_with fail
            go_roundg (aln - (k + 1))
            case measure => have := HKj.out.1; omega
            case rel => exact ⟨k + 1, out, oa, oc, _, rfl, rfl, by have := HKj.out.1; omega, by go_num, HW.out, HI3.out, HF46.out⟩
          | false =>
          have hlook := HI3.out.map.run_none (P := Tryz.prog) (t := 181) (k := .string (bs it.id)) mapty Tryz.underlying9 trivial (ent_key hh) Tryz.zeroValue3 false
          have HKy := Lib.hid (ent_key hh)
          by_cases hfull : out.length = 100
          · have HW := Lib.hid (got_stop HI.out.1 (by omega))
            have t4 : ((out.length : Int) == 100) = true := by rw [hfull]; rfl
            have HFull := Lib.hid hfull
            clear h0 hh hfull
            go_wp2_with fail
            go_ret2
            exact items_yes (HIt2.out.trans (by rw [HW.out])) rfl (ownsRow_base HI3.out.row HI3.out.base) HI3.out.fr
          · have t4 : ((out.length : Int) == 100) = false := by rw [beq_eq_false_iff_ne]; omega
            have hl99 : out.length < 100 := by omega
            have HW := Lib.hid (HNx.out.trans (with_new h0 hl99 hh))
            obtain ⟨i82, hi82, hz82, hs82, hb82⟩ := info_parts info82
            clear h0 hh hfull
            go_wp2_with (first
              | (at_mapUpdate; go_must (refine wpList_map_add (key := .string (bs it.id)) (val := .int .i64 1) rfl _ _ _ 181 rfl 9 3 mapty Tryz.underlying9 rfl rfl rfl HI3.out.map trivial HKy.out ?_; intro w7 hm7 hf7; obtain ⟨hr7, hF7⟩ := HI3.out.seen hf7 hm7; have HX7 := Lib.hid (And.intro hm7 (And.intro hr7 (And.intro hF7 (HF46.out.trans hf7 (fun k e => .inl e))))); have hbi7 := hf7.keep HBi.out (by show ¬ _ = _; omega); have i0 := cell_of hbi7 (i := 0) (v := .string (bs it.id)) rfl; have i1 := cell_of hbi7 (i := 1) (v := .string (bs it.title)) rfl; have i2 := cell_of hbi7 (i := 2) (v := .string (bs it.link)) rfl; have il7 := lt_of_block hbi7; have HF8 : Hid (Fr (fun _ => False) w7 (w7.alloc (.cells #[.string (bs it.id), .string (bs it.title), .string (bs it.link)] 82))) := (Fr.refl _ _).alloc _; clear hm7 hf7 hr7 hF7 hbi7))
              | (at_builtin; refine wpList_append_row rfl (.tmp 61) (.tmp 63) 84 rfl w4.heap.size 82 i82 (.agg #[.string ⟨#[]⟩, .string ⟨#[]⟩, .string ⟨#[]⟩]) 3 48 Tryz.underlying84 hi82 hz82 hs82 hb82 rfl (by decide) (.slice oa out.length oc) out.length (icells out) rfl (ownsRow_fr HX7.out.2.1 HF8.out) (fun _ => True) _ 1 (icells [it]) rfl (SRow.of_block (e := 82) (f := (0, 0)) (block_new _ _) rfl (by decide) trivial) (fun u hu => icells_one u hu) (by unfold maxLen; omega) (by omega) (Nat.le_trans HX7.out.2.2.2.size HF8.out.size) ?_; intro b9 cap9 w9 hown9 hgrow9 _; have HN9 := Lib.hid (ItIn.push HI3.out.base HI3.out.low hl99 HX7.out.1 HX7.out.2.1 HX7.out.2.2.1 HF8.out hgrow9 hown9); have HF9 := Lib.hid ((HX7.out.2.2.2.trans HF8.out (fun _ e => e.elim)).grown hgrow9 (fun k hk => .inr (HX7.out.2.1.lt k hk).1)); clear hown9 hgrow9))
            go_roundg (aln - (k + 1))
            case measure => have := HKj.out.1; omega
            case rel => exact ⟨k + 1, out ++ [it], b9, cap9, _, rfl, by rw [List.length_append]; rfl, by have := HKj.out.1; omega, by go_num, HW.out, HN9.out, HF9.out⟩
        · have hke : k = aln := by omega
          have htk : al.take k = al := by rw [hke, ← HAN.out, List.take_length]
          have HW := Lib.hid (show gotI atomI al = out by have h := HI.out.1; rw [htk] at h; exact h)
          have hke2 := hke.symm
          clear hkj hlt htk hke
          subst hke2
          go_wp2_with fail
          go_ret2
          exact items_yes (HIt2.out.trans (by rw [HW.out])) rfl (ownsRow_base HI.out.2.1.row HI.out.2.1.base) HI.out.2.1.fr
    · have q1 : ((bs n.name).toList == [102, 101, 101, 100]) = false := by rw [bs_toList]; exact beq_eq_false_iff_ne.2 h2
      have q2 : decide (bs n.name = ⟨#[102, 101, 101, 100]⟩) = false := decide_eq_false fun e => h2 (bs_inj e)
      have q3 : ((bs n.name).toList != [102, 101, 101, 100]) = true := by rw [bne, q1]; rfl
      have HE := Lib.hid (got_else h1 h2)
      clear h1 h2
      go_enter Tryz.func93, Tryz.ntmps93
      go_wp2_with fail
      go_ret2
      exact items_no HE.out HF0.out
/-- what Extract tells -/
def ExtPost (r : List ItemD × Int) (w : World) (e : Ending) (w' : World) : Prop :=
  ∃ a c, e = .returned (.tuple #[.slice a r.1.length c, .int .i64 r.2]) ∧ w'.ownsRow w.heap.size 82 3 (.slice a r.1.length c) r.1.length (icells r.1) ∧ Fr (fun _ => False) w w'
theorem ext_none {r : List ItemD × Int} {x : Int} {w w' : World} (h : r = ([], x)) (hf : Fr (fun _ => False) w w') : ExtPost r w (.returned (.tuple #[.slice none 0 0, .int .i64 x])) w' := by
  subst h; exact ⟨none, 0, rfl, World.ownsRow_nil _ _ _ _, hf⟩
theorem ext_some {r : List ItemD × Int} {l : List ItemD} {n c : Nat} {a : Option Addr} {w w' : World} (h : r = (l, 0)) (hn : l.length = n) (hr : w'.ownsRow w.heap.size 82 3 (.slice a n c) l.length (icells l)) (hf : Fr (fun _ => False) w w') : ExtPost r w (.returned (.tuple #[.slice a n c, .int .i64 0])) w' := by
  subst h hn; exact ⟨a, c, rfl, hr, hf⟩
theorem ext_err {s : Str} {e : Int} (h : parseL s = .error e) : extractL s = ([], e) := by unfold extractL; rw [h]
theorem ext_bad {s : Str} {n : NodeD} (h : parseL s = .ok n) (hi : itemsL n = none) : extractL s = ([], 8) := by unfold extractL; rw [h]; dsimp only; rw [hi]
theorem ext_ok {s : Str} {n : NodeD} {l : List ItemD} (h : parseL s = .ok n) (hi : itemsL n = some l) : extractL s = (l, 0) := by unfold extractL; rw [h]; dsimp only; rw [hi]
set_option maxRecDepth 100000 in
set_option maxHeartbeats 8000000 in
theorem extract_h {w : World} (hE : Env w) (s : Str) (hs : s.length ≤ 1000000) : Calls Tryz.prog 56 #[.string (bs s)] w (ExtPost (extractL s) w) := by
  have HP := Lib.hid (parse_h hE s hs)
  clear hE
  cases hp : parseL s with
  | error er =>
    have HE := Lib.hid (ext_err hp)
    have hne := parse_ne hp
    have t1 : (er != 0) = true := by rw [bne_iff_ne]; exact hne
    have t2 : (er == 0) = false := beq_eq_false_iff_ne.2 hne
    rw [hp] at HP
    clear hp hne
    go_enter Tryz.func56, Tryz.ntmps56
    go_wp2_with fail
    refine Calls.mono HP.out ?_
    rintro e w1 ⟨c0, c1, c2, c3, rfl, ⟨s0, b1, n1, q1, s2, b3, n3, q3, rfl, rfl, rfl, rfl⟩, hF, -⟩
    have ho : outE (Except.error (α := NodeD) er) = er := rfl
    have HF := Lib.hid (hF.alloc (.cells #[.string s0, .slice b1 n1 q1, .string s2, .slice b3 n3 q3] 30))
    clear hF
    rw [ho]
    go_wp2_with fail
    go_ret2
    exact ext_none HE.out HF.out
  | ok n =>
    have HZ := Lib.hid (parse_nsz hp)
    have HPk := Lib.hid hp
    rw [hp] at HP
    clear hp
    cases hi : itemsL n with
    | none =>
      have HE := Lib.hid (ext_bad HPk.out hi)
      have HIn := Lib.hid hi
      clear hi
      go_enter Tryz.func56, Tryz.ntmps56
      go_wp2_with fail
      refine Calls.mono HP.out ?_
      rintro e w1 ⟨c0, c1, c2, c3, rfl, ⟨s0, b1, n1, q1, s2, b3, n3, q3, rfl, rfl, rfl, rfl⟩, hF, hnv⟩
      have ho : outE (Except.ok (ε := Int) n) = 0 := rfl
      have hFa := (Fr.refl (fun _ => False) w1).alloc (.cells #[.string s0, .slice b1 n1 q1, .string s2, .slice b3 n3 q3] 30)
      have HF := Lib.hid (hF.next hFa)
      have HIt := Lib.hid (items_h (n := n) (NodeV.fr hFa (fun _ _ h => h) n hnv) (fun k hk => Nat.lt_of_lt_of_le hk.2 hFa.size) HZ.out)
      have hb := block_new w1 (.cells #[.string s0, .slice b1 n1 q1, .string s2, .slice b3 n3 q3] 30)
      have v0 := cell_of hb (i := 0) (v := .string s0) rfl
      have v1 := cell_of hb (i := 1) (v := .slice b1 n1 q1) rfl
      have v2 := cell_of hb (i := 2) (v := .string s2) rfl
      have v3 := cell_of hb (i := 3) (v := .slice b3 n3 q3) rfl
      clear hF hnv hFa hb
      rw [ho]
      go_wp2_with fail
      refine Calls.mono HIt.out ?_
      rw [HIn.out]
      rintro e w2 ⟨rfl, hF⟩
      have HF2 := Lib.hid (HF.out.next hF)
      clear hF
      go_wp2_with fail
      go_ret2
      exact ext_none HE.out HF2.out
    | some l =>
      have HE := Lib.hid (ext_ok HPk.out hi)
      have HIn := Lib.hid hi
      clear hi
      go_enter Tryz.func56, Tryz.ntmps56
      go_wp2_with fail
      refine Calls.mono HP.out ?_
      rintro e w1 ⟨c0, c1, c2, c3, rfl, ⟨s0, b1, n1, q1, s2, b3, n3, q3, rfl, rfl, rfl, rfl⟩, hF, hnv⟩
      have ho : outE (Except.ok (ε := Int) n) = 0 := rfl
      have hFa := (Fr.refl (fun _ => False) w1).alloc (.cells #[.string s0, .slice b1 n1 q1, .string s2, .slice b3 n3 q3] 30)
      have HF := Lib.hid (hF.next hFa)
      have HIt := Lib.hid (items_h (n := n) (NodeV.fr hFa (fun _ _ h => h) n hnv) (fun k hk => Nat.lt_of_lt_of_le hk.2 hFa.size) HZ.out)
      have hb := block_new w1 (.cells #[.string s0, .slice b1 n1 q1, .string s2, .slice b3 n3 q3] 30)
      have v0 := cell_of hb (i := 0) (v := .string s0) rfl
      have v1 := cell_of hb (i := 1) (v := .slice b1 n1 q1) rfl
      have v2 := cell_of hb (i := 2) (v := .string s2) rfl
      have v3 := cell_of hb (i := 3) (v := .slice b3 n3 q3) rfl
      clear hF hnv hFa hb
      rw [ho]
      go_wp2_with fail
      refine Calls.mono HIt.out ?_
      rw [HIn.out]
      rintro e w2 ⟨⟨a, c, rfl, hr⟩, hF⟩
      have HF2 := Lib.hid (And.intro (ownsRow_base hr (show w.heap.size ≤ _ from HF.out.size)) (HF.out.next hF))
      clear hF hr
      go_wp2_with fail
      go_ret2
      exact ext_some HE.out rfl HF2.out.1 HF2.out.2
end Go.Proofs.YtpinjgdnhbogoaaGreatDoor
