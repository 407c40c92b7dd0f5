/- The frame of a law with listed variables, the world's shape kept; what its start gives the walks. -/
import Derived.Test.YtpinjgdnhbogoaaGreatDoorM4
import Derived.Test.YtpinjgdnhbogoaaGreatDoorRows
import Derived.HandedShaped
import Derived.Shelf.Vars
import Derived.Handed
import Derived.LaidMore
import Derived.SevenTiedAt
import Derived.Stop.Joined
namespace Go.Proofs.YtpinjgdnhbogoaaGreatDoor
open Go.RowKit Go.Lib

theorem returns_laid_shaped {H : Type} {enc : TypeId × Value → H} {a : Assume} {C : Checked} {os : Os} {f : FuncId} {fn : Func} {s : ChangeSpec} {conds : List PathCond} {apart fresh handsOn again : Bool} {X : World → Array Value → Prop}
    (hX : ∀ (w w' : World) (args : Array Value), w.heap = w'.heap → X w args → X w' args)
    (own : ownKnob C.prog.godebug = none) (started : os.Started) (noInit : C.prog.inits.idxOf? f = none) (hfn : C.prog.funcs[f]? = some fn)
    (witness : ∃ (w : World) (tape : Tape) (i : Input), w.os = os ∧ (w.forCall tape i).Shaped C.prog ∧ i.vars = [] ∧ Input.okWide C.prog (w.forCall tape i) .any w.heap.size f i ∧
      ((s.pre enc C.prog fn conds apart (w.forCall tape i).memory i.args ∧ X (w.forCall tape i).memory i.args) ∧ sizedMet enc C.prog fn (OpenSpec.ofChange s) apart (w.forCall tape i).memory i.args) ∧ a.holds C.prog (lone (Frame.enter C.prog f i.args .normal) [] (w.forCall tape i)))
    (contract : ∀ (W : World) (base : Nat) (args : Array Value) (ds gs : List (DataW H)) (before : List MemPlace),
      (∀ (j : Nat) t v, fn.params[j]? = some t → args[j]? = some v → Value.okWide C.prog W .any base t v) →
      DataW.Whole enc C.prog fn.params.toList s.vars apart W args.toList ds gs before →
      conds.all (PathCond.test C.prog ⟨fn.params.toList, ds, s.plain.varTypes C.prog, gs⟩) = true →
      X W args → W.ShapedOpen C.prog →
      Calls C.prog f args W fun e W' => ∃ v, e = .returned v ∧ s.post enc C.prog fn apart fresh handsOn again W args v W') :
    ReturnsInHanded a C os f .any (fun w args => (s.pre enc C.prog fn conds apart w args ∧ X w args) ∧ sizedMet enc C.prog fn (OpenSpec.ofChange s) apart w args) (s.post enc C.prog fn apart fresh handsOn again) := by
  refine returnsInHanded_of_calls own started noInit witness ?_
  intro w tape i _ hsh _ hok hpre _
  obtain ⟨_, _, _, fn', hfn', _, _, _, _, hval⟩ := hok
  obtain rfl : fn' = fn := Option.some.inj (hfn'.symm.trans hfn)
  obtain ⟨⟨⟨ds, gs, before, hw, hc⟩, hx⟩, _⟩ := hpre
  refine (contract (w.forCall tape i) w.heap.size i.args ds gs before hval (DataW.Whole.of_heap (w' := w.forCall tape i) (by rfl) hw) hc (hX _ _ _ (by rfl) hx) hsh).mono fun e W' ⟨v, he, hp⟩ => ?_
  subst he
  exact ChangeSpec.post_blind hp
theorem laid_find {P : Program} {w : World} {n : String} {d : DataW Unit} : ∀ {l : List (String × DataW Unit)} {ps : List MemPlace}, DataW.LaidVars P w l ps → (n, d) ∈ l →
    ∃ g t cs fuel p, P.globalNamed n = some g ∧ (P.globals[g]?).map (·.type) = some t ∧ w.var? P n = some cs ∧ DataW.trod (fun _ => ()) P w 0 (fun _ => true) false fuel t cs.toList = some (d, p)
  | [], _, _, hm => by cases hm
  | (n', d') :: r, ps, h, hm => by
    obtain ⟨g, t, cs, fuel, p, q, h1, h2, h3, h4, h5, _⟩ := h
    rcases List.mem_cons.1 hm with e | e
    · cases e; exact ⟨g, t, cs, fuel, p, h1, h2, h3, h4⟩
    · exact laid_find h5 e
theorem trod_iface {P : Program} {w : World} {fuel : Nat} {t : TypeId} {cs : List Value} {s : String} {x : DataW Unit} {p : List MemPlace} (hu : ∃ m, P.underlying t = some (.interface m))
    (h : DataW.trod (fun _ => ()) P w 0 (fun _ => true) false fuel t cs = some (.iface s x, p)) : ∃ u v, cs = [.iface u v] := by
  obtain ⟨m, hu⟩ := hu
  cases fuel with
  | zero => simp [DataW.trod] at h
  | succ f =>
    unfold DataW.trod at h
    rw [hu] at h
    split at h <;> first | exact ⟨_, _, rfl⟩ | (rename_i h1 _; cases h1; done) | simp_all
theorem env_of {W : World} {laid : List (String × DataW Unit)} (hsh : W.ShapedOpen Tryz.prog) (hL : laidMet Tryz.prog laid W)
    (h1 : ("strconv.ErrSyntax", Rows.laid_strconv_ErrSyntax) ∈ laid) (h2 : ("strconv.ErrRange", Rows.laid_strconv_ErrRange) ∈ laid) : Env W := by
  obtain ⟨ps, hv, _, _⟩ := hL
  obtain ⟨g1, t1, cs1, f1, p1, a1, b1, c1, d1⟩ := laid_find hv h1
  obtain ⟨g2, t2, cs2, f2, p2, a2, b2, c2, d2⟩ := laid_find hv h2
  obtain rfl : g1 = 3 := Option.some.inj (a1.symm.trans (by kernel_rfl))
  obtain rfl : g2 = 4 := Option.some.inj (a2.symm.trans (by kernel_rfl))
  obtain rfl : t1 = 122 := Option.some.inj (b1.symm.trans (by kernel_rfl))
  obtain rfl : t2 = 122 := Option.some.inj (b2.symm.trans (by kernel_rfl))
  obtain ⟨u1, v1, e1⟩ := trod_iface ⟨_, Tryz.underlying122⟩ d1
  obtain ⟨u2, v2, e2⟩ := trod_iface ⟨_, Tryz.underlying122⟩ d2
  have k1 : W.cell? ⟨3, 0, none⟩ = cs1[0]? := World.var?_cell a1 c1 0
  have k2 : W.cell? ⟨4, 0, none⟩ = cs2[0]? := World.var?_cell a2 c2 0
  rw [← Array.getElem?_toList, e1] at k1
  rw [← Array.getElem?_toList, e2] at k2
  exact ⟨cell_of_shapedOpen_int (g := 0) (t := 3) (zero := #[.int .i64 0]) (k := .i64) hsh (of_decide_eq_true (by kernel_rfl)) (by kernel_rfl) rfl (by kernel_rfl) (by kernel_rfl) Tryz.underlying3, ⟨u1, v1, k1⟩, ⟨u2, v2, k2⟩⟩
end Go.Proofs.YtpinjgdnhbogoaaGreatDoor

/- Facts of the whole program, which every frame asks. -/
namespace Go.Proofs.YtpinjgdnhbogoaaGreatDoor
open Go.RowKit

theorem own : ownKnob Tryz.prog.godebug = none := by kernel_rfl
theorem laidOut : laidOutB Tryz.prog = true := by kernel_rfl
theorem main_is : Tryz.prog.mainIs = some (true, "b9cd785eaab0d100eff31bfbf35cc6e3d057da008c2e98a76fc5338197485d87".toList) := by kernel_rfl
theorem looks_all : true = Tryz.prog.looks [] := by kernel_rfl
end Go.Proofs.YtpinjgdnhbogoaaGreatDoor
