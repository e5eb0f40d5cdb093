/- append of a slice of another named type. -/
import Derived.Test.YtdddgfienicaaaaOwn
namespace Go.XL
open Go.RowKit Go.Shelf
set_option linter.unusedVariables false
set_option linter.unusedSimpArgs false
theorem append_ty {P : Program} (t t' ty e e' : TypeId) (ht : P.underlying t = some (.slice e)) (ht' : P.underlying t' = some (.slice e')) (args : Array Value) (w : World) :
    (Builtin.append_ #[t, t'] ty args).run P w = (Builtin.append_ #[t, t] ty args).run P w := by
  have h0 : (#[t, t'] : Array TypeId)[1]? = some t' := rfl
  have h1 : (#[t, t] : Array TypeId)[1]? = some t := rfl
  have h2 : (#[t, t'] : Array TypeId)[0]? = some t := rfl
  have h3 : (#[t, t] : Array TypeId)[0]? = some t := rfl
  unfold Builtin.append_
  simp only [h0, h1, h2, h3]
  cases args[0]? with
  | none => rfl
  | some a =>
    cases args[1]? with
    | none => rfl
    | some b =>
      simp only [Sem.run_bind, run_underlying ht, run_underlying ht', Result.andThen_ok, Sem.run_pure]
      cases a <;> first | rfl | (simp only [Sem.run_bind, Sem.run_pure, run_underlying ht, run_underlying ht', Result.andThen_ok])
theorem wpList_append_all2 {P : Program} (w0 : World) {ops : Array Oper} {rest : List Oper} {o : Oper} {a : Act} {Q : Exit → Act → World → Prop}
    (hg : o.guard = none) (s x : Operand) (t t' : TypeId) (hop : o.op = Op.call { callee := Callee.builtin Builtin.append, args := #[s, x], argTypes := #[t, t'] })
    (e e' : TypeId) (i : TypeInfo) (z : Value) (size bytes : Nat) (h1 : P.underlying t = some (.slice e)) (h1' : P.underlying t' = some (.slice e')) (h2 : P.info? e = some i) (h3 : i.zero = some z) (h4 : i.size = size) (h5 : i.bytes = bytes) (h6 : z.cells.size = size) (h7 : 0 < size)
    (v : Value) (n : Nat) (xs : List Value) (hs : a.eval s = v) (hv : Sl w0 e size v n xs) (src : Value) (m : Nat) (news : List Value) (hx : a.eval x = src) (hr : Rd w0 size src m news) (h1c : ∀ u ∈ news, u.oneCell' = true)
    (b1 : n + m ≤ maxLen) (b2 : (n + m) * bytes ≤ 140737488355328)
    (hK : ∀ ao' cap' w', Sl w' e size (.slice ao' (n + m) cap') (n + m) (xs ++ news) → Fr (fun k => v.ownBlock = some k) w0 w' → (Value.ownBlock (.slice ao' (n + m) cap') = v.ownBlock ∨ ∀ g, Value.ownBlock (.slice ao' (n + m) cap') = some g → w0.heap.size ≤ g) → Kb w0 w' → wpList P ops Q rest (a.put o.dst (.slice ao' (n + m) cap')) w') :
    wpList P ops Q (o :: rest) a w0 := by
  refine wpList_plain hg fun K hK' => ?_
  obtain ⟨v', w', hrun, r1, r2, r3, r4⟩ := run_append_all (P := P) w0 t o.type e i z size bytes h1 h2 h3 h4 h5 h6 h7 v n xs hv src m news hr h1c b1 b2
  rw [← append_ty t t' o.type e e' h1 h1'] at hrun
  obtain ⟨ao', cap', rfl, _, _⟩ := r1.cap
  unfold Oper.wp
  simp [execOp, hop, resolve, invoke, builtin, hs, hx, hrun, Result.andThen]
  exact hK' _ _ (hK ao' cap' w' r1 r2 r3 r4)
end Go.XL
