/- The reference's layer 11: a rune's bytes; a reference. -/
import Derived.Test.YtpinjgdnhbogoaaGreatDoorQ2
namespace Go.Proofs.YtpinjgdnhbogoaaGreatDoor
open Go.RowKit Go.Lib

def rutfV (n : Nat) : Value := .tuple #[.string (bs (if runeOK n then utf8L n else [])), .bool (runeOK n)]
theorem u8c {k : Nat} {z : Int} (h : z = (k : Int)) (hk : k < 256) : Value.int .u8 z = .int .u8 ((UInt8.ofNat k).toNat : Int) := by
  rw [h, UInt8.toNat_ofNat', Nat.mod_eq_of_lt hk]
theorem bytes_conv {w : World} {b : Nat} {vs : Array Value} (cap : Nat) (l : Str) (hw : b = w.heap.size) (hv : vs = (l.map fun c => Value.int .u8 (c.toNat : Int)).toArray) :
    Sem.run Tryz.prog (convert 113 9 (.slice (some ⟨b, 0, none⟩) l.length cap)) (w.alloc (.cells vs 5)) = .ok (.string (bs l)) (w.alloc (.cells vs 5)) := by
  subst hv
  refine run_convert_bytes_back _ 113 9 5 ⟨b, 0, none⟩ cap l Tryz.underlying113 Tryz.underlying5 Tryz.underlying9 fun j hj => ?_
  rw [Addr.add_lit]
  exact cell_of (block_new_at hw) (by simp [hj])
set_option maxRecDepth 100000 in
set_option maxHeartbeats 4000000 in
theorem rutf_h {w : World} (n : Nat) (hn : n ≤ 268435456) : Calls Tryz.prog 147 #[.int .i64 (n : Int)] w fun e w' => e = .returned (rutfV n) ∧ Fr (fun _ => False) w w' := by
  have hcl : n < 1 ∨ (1 ≤ n ∧ n < 128) ∨ (128 ≤ n ∧ n < 2048) ∨ (2048 ≤ n ∧ n < 55296) ∨ (55296 ≤ n ∧ n ≤ 57343) ∨ (57343 < n ∧ n < 65536) ∨ (65536 ≤ n ∧ n ≤ 1114111) ∨ 1114111 < n := by omega
  rcases hcl with h | h | h | h | h | h | h | h
  · have HR := Lib.hid (show rutfV n = .tuple #[.string ⟨#[]⟩, .bool false] by unfold rutfV; rw [show runeOK n = false by unfold runeOK; rw [decide_eq_false (p := 1 ≤ n) (by omega)]; rfl]; rfl)
    have t0 : (n : Int) < 1 := by omega
    go_enter Tryz.func147, Tryz.ntmps147
    go_wp2_with fail
    go_ret2
    exact ⟨by rw [HR.out] <;> rfl, Fr.refl _ _⟩
  · have HR := Lib.hid (show rutfV n = .tuple #[.string (bs [UInt8.ofNat (n)]), .bool true] by unfold rutfV; rw [show runeOK n = true by unfold runeOK; rw [decide_eq_true (p := 1 ≤ n) (by omega), decide_eq_true (p := n ≤ 1114111) (by omega), decide_eq_false (p := 55296 ≤ n) (by omega)]; rfl, show utf8L n = [UInt8.ofNat (n)] by unfold utf8L; rw [if_pos (by omega)]]; rfl)
    have hcv : Sem.run Tryz.prog (convert 113 9 (.slice (some ⟨w.heap.size, 0, none⟩) 1 1)) (w.alloc (.cells #[.int .u8 ((n : Int))] 5)) = .ok (.string (bs [UInt8.ofNat (n)])) (w.alloc (.cells #[.int .u8 ((n : Int))] 5)) := bytes_conv (vs := #[.int .u8 ((n : Int))]) 1 [UInt8.ofNat (n)] rfl (by rw [u8c (z := (n : Int)) (k := n) (by omega) (by omega)]; rfl)
    have t0 : ¬ (n : Int) < 1 := by omega
    have t1 : ¬ (1114111 : Int) < (n : Int) := by omega
    have t2 : ¬ (55296 : Int) ≤ (n : Int) := by omega
    have t3 : (n : Int) < 128 := by omega
    obtain ⟨bt, hbt⟩ : ∃ bt, bs [UInt8.ofNat (n)] = bt := ⟨_, rfl⟩
    rw [hbt] at hcv HR
    clear hbt
    go_enter Tryz.func147, Tryz.ntmps147
    go_wp2_with fail
    go_ret2
    exact ⟨by rw [HR.out] <;> rfl, (Fr.refl _ _).alloc _⟩
  · have HR := Lib.hid (show rutfV n = .tuple #[.string (bs [UInt8.ofNat (192 + n / 64), UInt8.ofNat (128 + n % 64)]), .bool true] by unfold rutfV; rw [show runeOK n = true by unfold runeOK; rw [decide_eq_true (p := 1 ≤ n) (by omega), decide_eq_true (p := n ≤ 1114111) (by omega), decide_eq_false (p := 55296 ≤ n) (by omega)]; rfl, show utf8L n = [UInt8.ofNat (192 + n / 64), UInt8.ofNat (128 + n % 64)] by unfold utf8L; rw [if_neg (by omega), if_pos (by omega)]]; rfl)
    have hcv : Sem.run Tryz.prog (convert 113 9 (.slice (some ⟨w.heap.size, 0, none⟩) 2 2)) (w.alloc (.cells #[.int .u8 (192 + (n : Int) / 64), .int .u8 (128 + (n : Int) % 64)] 5)) = .ok (.string (bs [UInt8.ofNat (192 + n / 64), UInt8.ofNat (128 + n % 64)])) (w.alloc (.cells #[.int .u8 (192 + (n : Int) / 64), .int .u8 (128 + (n : Int) % 64)] 5)) := bytes_conv (vs := #[.int .u8 (192 + (n : Int) / 64), .int .u8 (128 + (n : Int) % 64)]) 2 [UInt8.ofNat (192 + n / 64), UInt8.ofNat (128 + n % 64)] rfl (by rw [u8c (z := 192 + (n : Int) / 64) (k := 192 + n / 64) (by omega) (by omega), u8c (z := 128 + (n : Int) % 64) (k := 128 + n % 64) (by omega) (by omega)]; rfl)
    have t0 : ¬ (n : Int) < 1 := by omega
    have t1 : ¬ (1114111 : Int) < (n : Int) := by omega
    have t2 : ¬ (55296 : Int) ≤ (n : Int) := by omega
    have t3 : ¬ (n : Int) < 128 := by omega
    have t4 : (n : Int) < 2048 := by omega
    obtain ⟨bt, hbt⟩ : ∃ bt, bs [UInt8.ofNat (192 + n / 64), UInt8.ofNat (128 + n % 64)] = bt := ⟨_, rfl⟩
    rw [hbt] at hcv HR
    clear hbt
    go_enter Tryz.func147, Tryz.ntmps147
    go_wp2_with fail
    go_ret2
    exact ⟨by rw [HR.out] <;> rfl, (Fr.refl _ _).alloc _⟩
  · have HR := Lib.hid (show rutfV n = .tuple #[.string (bs [UInt8.ofNat (224 + n / 4096), UInt8.ofNat (128 + n / 64 % 64), UInt8.ofNat (128 + n % 64)]), .bool true] by unfold rutfV; rw [show runeOK n = true by unfold runeOK; rw [decide_eq_true (p := 1 ≤ n) (by omega), decide_eq_true (p := n ≤ 1114111) (by omega), decide_eq_false (p := 55296 ≤ n) (by omega)]; rfl, show utf8L n = [UInt8.ofNat (224 + n / 4096), UInt8.ofNat (128 + n / 64 % 64), UInt8.ofNat (128 + n % 64)] by unfold utf8L; rw [if_neg (by omega), if_neg (by omega), if_pos (by omega)]]; rfl)
    have hcv : Sem.run Tryz.prog (convert 113 9 (.slice (some ⟨w.heap.size, 0, none⟩) 3 3)) (w.alloc (.cells #[.int .u8 (224 + (n : Int) / 4096), .int .u8 (128 + (n : Int) / 64 % 64), .int .u8 (128 + (n : Int) % 64)] 5)) = .ok (.string (bs [UInt8.ofNat (224 + n / 4096), UInt8.ofNat (128 + n / 64 % 64), UInt8.ofNat (128 + n % 64)])) (w.alloc (.cells #[.int .u8 (224 + (n : Int) / 4096), .int .u8 (128 + (n : Int) / 64 % 64), .int .u8 (128 + (n : Int) % 64)] 5)) := bytes_conv (vs := #[.int .u8 (224 + (n : Int) / 4096), .int .u8 (128 + (n : Int) / 64 % 64), .int .u8 (128 + (n : Int) % 64)]) 3 [UInt8.ofNat (224 + n / 4096), UInt8.ofNat (128 + n / 64 % 64), UInt8.ofNat (128 + n % 64)] rfl (by rw [u8c (z := 224 + (n : Int) / 4096) (k := 224 + n / 4096) (by omega) (by omega), u8c (z := 128 + (n : Int) / 64 % 64) (k := 128 + n / 64 % 64) (by omega) (by omega), u8c (z := 128 + (n : Int) % 64) (k := 128 + n % 64) (by omega) (by omega)]; rfl)
    have t0 : ¬ (n : Int) < 1 := by omega
    have t1 : ¬ (1114111 : Int) < (n : Int) := by omega
    have t2 : ¬ (55296 : Int) ≤ (n : Int) := by omega
    have t3 : ¬ (n : Int) < 128 := by omega
    have t4 : ¬ (n : Int) < 2048 := by omega
    have t5 : (n : Int) < 65536 := by omega
    obtain ⟨bt, hbt⟩ : ∃ bt, bs [UInt8.ofNat (224 + n / 4096), UInt8.ofNat (128 + n / 64 % 64), UInt8.ofNat (128 + n % 64)] = bt := ⟨_, rfl⟩
    rw [hbt] at hcv HR
    clear hbt
    go_enter Tryz.func147, Tryz.ntmps147
    go_wp2_with fail
    go_ret2
    exact ⟨by rw [HR.out] <;> rfl, (Fr.refl _ _).alloc _⟩
  · have HR := Lib.hid (show rutfV n = .tuple #[.string ⟨#[]⟩, .bool false] by unfold rutfV; rw [show runeOK n = false by unfold runeOK; rw [decide_eq_true (p := 1 ≤ n) (by omega), decide_eq_true (p := n ≤ 1114111) (by omega), decide_eq_true (p := 55296 ≤ n) (by omega), decide_eq_true (p := n ≤ 57343) (by omega)]; rfl]; rfl)
    have t0 : ¬ (n : Int) < 1 := by omega
    have t1 : ¬ (1114111 : Int) < (n : Int) := by omega
    have t2 : (55296 : Int) ≤ (n : Int) := by omega
    have t3 : (n : Int) ≤ 57343 := by omega
    go_enter Tryz.func147, Tryz.ntmps147
    go_wp2_with fail
    go_ret2
    exact ⟨by rw [HR.out] <;> rfl, Fr.refl _ _⟩
  · have HR := Lib.hid (show rutfV n = .tuple #[.string (bs [UInt8.ofNat (224 + n / 4096), UInt8.ofNat (128 + n / 64 % 64), UInt8.ofNat (128 + n % 64)]), .bool true] by unfold rutfV; rw [show runeOK n = true by unfold runeOK; rw [decide_eq_true (p := 1 ≤ n) (by omega), decide_eq_true (p := n ≤ 1114111) (by omega), decide_eq_true (p := 55296 ≤ n) (by omega), decide_eq_false (p := n ≤ 57343) (by omega)]; rfl, show utf8L n = [UInt8.ofNat (224 + n / 4096), UInt8.ofNat (128 + n / 64 % 64), UInt8.ofNat (128 + n % 64)] by unfold utf8L; rw [if_neg (by omega), if_neg (by omega), if_pos (by omega)]]; rfl)
    have hcv : Sem.run Tryz.prog (convert 113 9 (.slice (some ⟨w.heap.size, 0, none⟩) 3 3)) (w.alloc (.cells #[.int .u8 (224 + (n : Int) / 4096), .int .u8 (128 + (n : Int) / 64 % 64), .int .u8 (128 + (n : Int) % 64)] 5)) = .ok (.string (bs [UInt8.ofNat (224 + n / 4096), UInt8.ofNat (128 + n / 64 % 64), UInt8.ofNat (128 + n % 64)])) (w.alloc (.cells #[.int .u8 (224 + (n : Int) / 4096), .int .u8 (128 + (n : Int) / 64 % 64), .int .u8 (128 + (n : Int) % 64)] 5)) := bytes_conv (vs := #[.int .u8 (224 + (n : Int) / 4096), .int .u8 (128 + (n : Int) / 64 % 64), .int .u8 (128 + (n : Int) % 64)]) 3 [UInt8.ofNat (224 + n / 4096), UInt8.ofNat (128 + n / 64 % 64), UInt8.ofNat (128 + n % 64)] rfl (by rw [u8c (z := 224 + (n : Int) / 4096) (k := 224 + n / 4096) (by omega) (by omega), u8c (z := 128 + (n : Int) / 64 % 64) (k := 128 + n / 64 % 64) (by omega) (by omega), u8c (z := 128 + (n : Int) % 64) (k := 128 + n % 64) (by omega) (by omega)]; rfl)
    have t0 : ¬ (n : Int) < 1 := by omega
    have t1 : ¬ (1114111 : Int) < (n : Int) := by omega
    have t2 : (55296 : Int) ≤ (n : Int) := by omega
    have t3 : ¬ (n : Int) ≤ 57343 := by omega
    have t4 : ¬ (n : Int) < 128 := by omega
    have t5 : ¬ (n : Int) < 2048 := by omega
    have t6 : (n : Int) < 65536 := by omega
    obtain ⟨bt, hbt⟩ : ∃ bt, bs [UInt8.ofNat (224 + n / 4096), UInt8.ofNat (128 + n / 64 % 64), UInt8.ofNat (128 + n % 64)] = bt := ⟨_, rfl⟩
    rw [hbt] at hcv HR
    clear hbt
    go_enter Tryz.func147, Tryz.ntmps147
    go_wp2_with fail
    go_ret2
    exact ⟨by rw [HR.out] <;> rfl, (Fr.refl _ _).alloc _⟩
  · have HR := Lib.hid (show rutfV n = .tuple #[.string (bs [UInt8.ofNat (240 + n / 262144), UInt8.ofNat (128 + n / 4096 % 64), UInt8.ofNat (128 + n / 64 % 64), UInt8.ofNat (128 + n % 64)]), .bool true] by unfold rutfV; rw [show runeOK n = true by unfold runeOK; rw [decide_eq_true (p := 1 ≤ n) (by omega), decide_eq_true (p := n ≤ 1114111) (by omega), decide_eq_true (p := 55296 ≤ n) (by omega), decide_eq_false (p := n ≤ 57343) (by omega)]; rfl, show utf8L n = [UInt8.ofNat (240 + n / 262144), UInt8.ofNat (128 + n / 4096 % 64), UInt8.ofNat (128 + n / 64 % 64), UInt8.ofNat (128 + n % 64)] by unfold utf8L; rw [if_neg (by omega), if_neg (by omega), if_neg (by omega)]]; rfl)
    have hcv : Sem.run Tryz.prog (convert 113 9 (.slice (some ⟨w.heap.size, 0, none⟩) 4 4)) (w.alloc (.cells #[.int .u8 (240 + (n : Int) / 262144), .int .u8 (128 + (n : Int) / 4096 % 64), .int .u8 (128 + (n : Int) / 64 % 64), .int .u8 (128 + (n : Int) % 64)] 5)) = .ok (.string (bs [UInt8.ofNat (240 + n / 262144), UInt8.ofNat (128 + n / 4096 % 64), UInt8.ofNat (128 + n / 64 % 64), UInt8.ofNat (128 + n % 64)])) (w.alloc (.cells #[.int .u8 (240 + (n : Int) / 262144), .int .u8 (128 + (n : Int) / 4096 % 64), .int .u8 (128 + (n : Int) / 64 % 64), .int .u8 (128 + (n : Int) % 64)] 5)) := bytes_conv (vs := #[.int .u8 (240 + (n : Int) / 262144), .int .u8 (128 + (n : Int) / 4096 % 64), .int .u8 (128 + (n : Int) / 64 % 64), .int .u8 (128 + (n : Int) % 64)]) 4 [UInt8.ofNat (240 + n / 262144), UInt8.ofNat (128 + n / 4096 % 64), UInt8.ofNat (128 + n / 64 % 64), UInt8.ofNat (128 + n % 64)] rfl (by rw [u8c (z := 240 + (n : Int) / 262144) (k := 240 + n / 262144) (by omega) (by omega), u8c (z := 128 + (n : Int) / 4096 % 64) (k := 128 + n / 4096 % 64) (by omega) (by omega), u8c (z := 128 + (n : Int) / 64 % 64) (k := 128 + n / 64 % 64) (by omega) (by omega), u8c (z := 128 + (n : Int) % 64) (k := 128 + n % 64) (by omega) (by omega)]; rfl)
    have t0 : ¬ (n : Int) < 1 := by omega
    have t1 : ¬ (1114111 : Int) < (n : Int) := by omega
    have t2 : (55296 : Int) ≤ (n : Int) := by omega
    have t3 : ¬ (n : Int) ≤ 57343 := by omega
    have t4 : ¬ (n : Int) < 128 := by omega
    have t5 : ¬ (n : Int) < 2048 := by omega
    have t6 : ¬ (n : Int) < 65536 := by omega
    obtain ⟨bt, hbt⟩ : ∃ bt, bs [UInt8.ofNat (240 + n / 262144), UInt8.ofNat (128 + n / 4096 % 64), UInt8.ofNat (128 + n / 64 % 64), UInt8.ofNat (128 + n % 64)] = bt := ⟨_, rfl⟩
    rw [hbt] at hcv HR
    clear hbt
    go_enter Tryz.func147, Tryz.ntmps147
    go_wp2_with fail
    go_ret2
    exact ⟨by rw [HR.out] <;> rfl, (Fr.refl _ _).alloc _⟩
  · have HR := Lib.hid (show rutfV n = .tuple #[.string ⟨#[]⟩, .bool false] by unfold rutfV; rw [show runeOK n = false by unfold runeOK; rw [decide_eq_true (p := 1 ≤ n) (by omega), decide_eq_false (p := n ≤ 1114111) (by omega)]; rfl]; rfl)
    have t0 : ¬ (n : Int) < 1 := by omega
    have t1 : (1114111 : Int) < (n : Int) := by omega
    go_enter Tryz.func147, Tryz.ntmps147
    go_wp2_with fail
    go_ret2
    exact ⟨by rw [HR.out] <;> rfl, Fr.refl _ _⟩
/-- what the reference answers to a text that begins with & -/
def rrefV (m : Str) : Value := match refL m with | some (t, left) => .tuple #[.string (bs t), .int .i64 ((1 + (m.length - left.length) : Nat) : Int)] | none => .tuple #[.string ⟨#[]⟩, .int .i64 0]
def nms : List Str := [[38, 97, 109, 112, 59], [38, 108, 116, 59], [38, 103, 116, 59], [38, 113, 117, 111, 116, 59], [38, 97, 112, 111, 115, 59]]
theorem rref_hit {m : Str} {p c : Str} (h : (p, c) ∈ refNames) (hp : (38 :: p).isPrefixOf (38 :: m) = true) : rrefV m = .tuple #[.string (bs c), .int .i64 ((1 + p.length : Nat) : Int)] := by
  have hp2 : p.isPrefixOf m = true := by simpa [List.isPrefixOf] using hp
  have hl := (List.isPrefixOf_iff_prefix.1 hp2).length_le
  unfold rrefV
  rw [ref_named h hp2]
  simp only [List.length_drop]
  rw [show 1 + (m.length - (m.length - p.length)) = 1 + p.length by omega]
theorem find0 (m : Str) : findZ [59] (38 :: m) 0 = match cutL [59] m with | none => -1 | some q => ((1 + q.1.length : Nat) : Int) := by
  unfold findZ
  rw [List.drop_zero, cut1_cons, if_neg (by decide)]
  cases cutL [59] m with
  | none => rfl
  | some q => simp only [Option.map_some, List.length_cons]; rw [show 0 + (q.1.length + 1) = 1 + q.1.length by omega]
/-- none of the names -/
theorem rref_none {m : Str} (h : ∀ q ∈ refNames, ¬ q.1.isPrefixOf m = true) (hc : cutL [59] m = none) : rrefV m = .tuple #[.string ⟨#[]⟩, .int .i64 0] := by
  unfold rrefV; rw [ref_other h, hc]
theorem rref_not35 {m b rest : Str} (h : ∀ q ∈ refNames, ¬ q.1.isPrefixOf m = true) (hc : cutL [59] m = some (b, rest)) (hb : ∀ t, b ≠ 35 :: t) : rrefV m = .tuple #[.string ⟨#[]⟩, .int .i64 0] := by
  have e : refL m = none := by rw [ref_other h, hc]; dsimp only; rw [numRef_no hb]; rfl
  unfold rrefV; rw [e]
def rnumE (base most : Nat) (m ds rest : Str) : Value := if (!ds.isEmpty && numQ base most ds) && runeOK (numV base ds) then .tuple #[.string (bs (utf8L (numV base ds))), .int .i64 ((1 + (m.length - rest.length) : Nat) : Int)] else .tuple #[.string ⟨#[]⟩, .int .i64 0]
theorem rref_numE {base most : Nat} {m ds rest b : Str} (h : ∀ q ∈ refNames, ¬ q.1.isPrefixOf m = true) (hc : cutL [59] m = some (b, rest)) (hb : numRef b = numL base most ds) : rrefV m = rnumE base most m ds rest := by
  unfold rrefV rnumE; rw [ref_other h, hc]; dsimp only; rw [hb, numL_num]
  by_cases hx : (!ds.isEmpty && numQ base most ds && runeOK (numV base ds)) = true
  · rw [if_pos hx, if_pos hx]; rfl
  · rw [if_neg hx, if_neg hx]; rfl
theorem rref_num16 {m ds rest : Str} (h : ∀ q ∈ refNames, ¬ q.1.isPrefixOf m = true) (hc : cutL [59] m = some (35 :: 120 :: ds, rest)) : rrefV m = rnumE 16 6 m ds rest := rref_numE h hc (numRef_16 ds)
theorem rref_num10 {m ds rest : Str} (h : ∀ q ∈ refNames, ¬ q.1.isPrefixOf m = true) (hc : cutL [59] m = some (35 :: ds, rest)) (hx : ∀ t, ds ≠ 120 :: t) : rrefV m = rnumE 10 7 m ds rest := rref_numE h hc (numRef_10 hx)
end Go.Proofs.YtpinjgdnhbogoaaGreatDoor
