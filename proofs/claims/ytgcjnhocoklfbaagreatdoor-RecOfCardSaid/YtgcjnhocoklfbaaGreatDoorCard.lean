/- The frame of a tied row: what the listed variables read as, the witness, and the library's variables as the walks ask for them. -/
import Derived.Test.YtgcjnhocoklfbaaGreatDoorRows
import Derived.Test.YtgcjnhocoklfbaaGreatDoorVecN
import Derived.Handed
import Derived.SizedLaws
import Derived.LaidMore
import Derived.LaidSub
import Derived.Lay
import Derived.Lib.LaidTab
import Derived.Shelf.Vars
import Derived.PinnedBridge
namespace Go.XL
open Go.RowKit Go.Shelf
set_option linter.unusedVariables false
theorem returnsInHanded_and_shaped {H : Type} {enc : TypeId × Value → H} {a : Assume} {C : Checked} {os : Os} {f : FuncId} {fn : Func} {s : ChangeSpec} {conds : List PathCond} {apart fresh handsOn again : Bool} {X : World → Array Value → Prop}
    (hX : ∀ (w w' : World) (args : Array Value), w.heap = w'.heap → X w args → X w' args)
    (own : ownKnob C.prog.godebug = none) (started : os.Started) (noInit : C.prog.inits.idxOf? f = none) (hfn : C.prog.funcs[f]? = some fn)
    (witness : ∃ (w : World) (tape : Tape) (i : Input), w.os = os ∧ (w.forCall tape i).Shaped C.prog ∧ i.vars = [] ∧ Input.okWide C.prog (w.forCall tape i) .any w.heap.size f i ∧
      ((s.pre enc C.prog fn conds apart (w.forCall tape i).memory i.args ∧ X (w.forCall tape i).memory i.args) ∧ sizedMet enc C.prog fn (OpenSpec.ofChange s) apart (w.forCall tape i).memory i.args) ∧ a.holds C.prog (lone (Frame.enter C.prog f i.args .normal) [] (w.forCall tape i)))
    (contract : ∀ (W : World) (base : Nat) (args : Array Value) (ds gs : List (DataW H)) (before : List MemPlace),
      (∀ (j : Nat) t v, fn.params[j]? = some t → args[j]? = some v → Value.okWide C.prog W .any base t v) →
      DataW.Whole enc C.prog fn.params.toList s.vars apart W args.toList ds gs before →
      conds.all (PathCond.test C.prog ⟨fn.params.toList, ds, s.plain.varTypes C.prog, gs⟩) = true →
      (DataW.weightsEach C.prog (fn.params.toList ++ s.plain.varTypes C.prog) (ds ++ gs)).all (· ≤ reachBytes) = true → X W args → W.ShapedOpen C.prog →
      a.holds C.prog (lone (Frame.enter C.prog f args .normal) [] W) →
      Calls C.prog f args W fun e W' => ∃ v, e = .returned v ∧ s.post enc C.prog fn apart fresh handsOn again W args v W') :
    ReturnsInHanded a C os f .any (fun w args => (s.pre enc C.prog fn conds apart w args ∧ X w args) ∧ sizedMet enc C.prog fn (OpenSpec.ofChange s) apart w args) (s.post enc C.prog fn apart fresh handsOn again) := by
  refine returnsInHanded_of_calls own started noInit witness ?_
  intro w tape i _ hsh _ hok hpre hholds
  obtain ⟨_, _, _, fn', hfn', _, _, _, _, hval⟩ := hok
  have e : fn' = fn := Option.some.inj (hfn'.symm.trans hfn)
  subst e
  obtain ⟨⟨⟨ds, gs, before, hw, hc⟩, hx⟩, hz⟩ := hpre
  have hw' := DataW.Whole.of_heap (w' := w.forCall tape i) (by rfl) hw
  refine (contract (w.forCall tape i) w.heap.size i.args ds gs before hval hw' hc (hz.weights hw) (hX _ _ _ (by rfl) hx) hsh hholds).mono fun e W' ⟨v, he, hp⟩ => ?_
  subst he
  exact ChangeSpec.post_blind hp
theorem iface_of_head {P : Program} {W : World} {name : String} {nm : String} {d : DataW Unit} {g : Nat} {t : TypeId} {ms : Array (String × TypeId)}
    (hg : P.globalNamed name = some g) (hty : (P.globals[g]?).map (·.type) = some t) (ht : P.underlying t = some (.interface ms)) (h : laidMet P [(name, .iface nm d)] W) : ∃ te pe, W.cell? ⟨g, 0, none⟩ = some (.iface te pe) := by
  obtain ⟨ps, ⟨g', t', cs, fuel, p, q, hg', ht', hvar, hd, _, _⟩, _⟩ := h
  obtain rfl := Option.some.inj (hg.symm.trans hg')
  obtain rfl := Option.some.inj (hty.symm.trans ht')
  obtain ⟨_, u, v, hcs, _, _⟩ := iface_of_trod ht hd
  refine ⟨u, v, ?_⟩
  have := World.var?_cell hg hvar 0
  rw [this]
  have e : cs.toList[0]? = some (.iface u v) := by rw [hcs]; rfl
  simpa using e
end Go.XL
namespace Go.Proofs.YtgcjnhocoklfbaaGreatDoor
open Go.RowKit Go.Shelf Go.XL
set_option linter.unusedVariables false
set_option maxRecDepth 100000 in
theorem gl_of_laid {l : List (String × DataW Unit)} {W : World} (hl : l.all (fun x => x.2.handleName?.isNone) = true)
    (h1 : l.filter (fun x => x.1 == "internal/strconv.uint64pow10") = [("internal/strconv.uint64pow10", Lib.tabData .u64 Lib.pow10Tab)])
    (h2 : l.filter (fun x => x.1 == "strconv.ErrRange") = [("strconv.ErrRange", Rows.laid_strconv_ErrRange)])
    (h : laidMetH Tryz.prog l W) (hs : W.ShapedOpen Tryz.prog) : Gl W := by
  rw [MakeChecks.laidMetH_plain _ _ _ (by rw [Bool.eq_iff_iff] at *; simpa using hl)] at h
  refine ⟨cell_of_shapedOpen_int (g := 0) (t := 3) (zero := #[.int .i64 0]) hs (of_decide_eq_true (by kernel_rfl)) (by kernel_rfl) rfl (by kernel_rfl) (by kernel_rfl) Tryz.underlying3, ?_, ?_⟩
  · have := h.filter (fun x => x.1 == "strconv.ErrRange")
    rw [h2] at this
    exact iface_of_head (g := 5) (t := 88) (by kernel_rfl) (by kernel_rfl) Tryz.underlying88 this
  · have := h.filter (fun x => x.1 == "internal/strconv.uint64pow10")
    rw [h1] at this
    exact Lib.tabIs_of_head (g := 3) (t := 140) (e := 117) (n := 20) (by kernel_rfl) (by kernel_rfl) Tryz.underlying140 Tryz.underlying117 (by kernel_rfl) (by kernel_rfl) this
end Go.Proofs.YtgcjnhocoklfbaaGreatDoor
