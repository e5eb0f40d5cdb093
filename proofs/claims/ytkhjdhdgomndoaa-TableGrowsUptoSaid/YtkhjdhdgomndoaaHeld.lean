/- Regions that draw their order, walked an operation at a time in an order of one's own: what reads first, calls one behind the other. -/
import Derived.Test.YtkhjdhdgomndoaaQuiet
namespace Go.XL
open Go.RowKit Go.Shelf
set_option linter.unusedVariables false
set_option linter.unusedSimpArgs false

/-- the post of a region that does not panic -/
abbrev Calm (Q : Exit → Act → World → Prop) : Exit → Act → World → Prop := Exit.then (Q .normal) (fun _ _ _ => False)
theorem Calm.imp {Q : Exit → Act → World → Prop} : ∀ (e : Exit) (a : Act) (w : World), Calm Q e a w → Q e a w := fun e a w h => by
  cases e <;> first | exact h | exact (h : False).elim

variable {P : Program} {l : List Oper} {Q : Exit → Act → World → Prop} {S : World → Prop}

theorem wp_held (S : World → Prop) {id : Nat} {a : Act} {w : World} (hm : P.follows .mixedOrders = true) (hS : S w.drew)
    (h : S w.drew → wpAnyH P .any l.toArray (Calm Q) S l.length (Array.replicate l.length false) a w.drew) : (Code.region id l.toArray true).wp P Q a w :=
  Code.wp_mono Calm.imp (wp_region_held (S := S) hm (by simpa using h hS))

theorem wpIn_held {F : Fence} (hF : Free F) {d : Nat} (S : World → Prop) {id : Nat} {a : Act} {w : World} (hm : P.follows .mixedOrders = true)
    (hnd : l.all (fun o => !isDefer o.op) = true) (hS : S w.drew)
    (h : S w.drew → wpAnyH P .any l.toArray (Calm Q) S l.length (Array.replicate l.length false) a w.drew) : (Code.region id l.toArray true).wpIn F d P Q a w := by
  have hnd' : ∀ (i : Nat) (o : Oper), l.toArray[i]? = some o → isDefer o.op = false := fun i o hi => by
    have := List.all_eq_true.1 hnd o (List.mem_of_getElem? (by simpa using hi))
    simpa using this
  refine wpIn_region_draw fun t => wpOpsIn_mono Calm.imp _ _ _ (wpOpsIn_of_wpOps hF hnd' (by rintro ⟨_, _, h⟩; exact h.elim) _ _ _ ?_)
  simp only [Region.schedule, hm, Bool.true_or, if_true]
  refine wpAny_sound _ t _ a _ ?_
  have := wpAny_of_held _ _ _ _ (h hS)
  simpa using this

/-- what reads is taken: number i -/
theorem held_take (i : Nat) {o : Oper} {v : Value} {fuel : Nat} {listed : Array Bool} {a : Act} {w : World} (ho : l[i]? = some o)
    (hB : (Region.noSelect l.toArray && Region.free .any l.toArray listed i && (Region.ready .any l.toArray listed).contains i) = true) (hy : YieldsIf P l.toArray S o v a) (hS : S w)
    (h : wpAnyH P .any l.toArray (Calm Q) S fuel (listed.setIfInBounds i true) (a.put o.dst v) w) : wpAnyH P .any l.toArray (Calm Q) S (fuel + 1) listed a w := by
  simp only [Bool.and_eq_true] at hB
  exact wpAnyH_take (by simpa using ho) hB.1.1 hB.1.2 hB.2 (fun _ _ _ h => h) hy hS h

/-- what does not only read: the only one that may come up -/
theorem held_call (i : Nat) {o : Oper} {fuel : Nat} {listed : Array Bool} {a : Act} {w : World} (ho : l[i]? = some o) (hr : Region.ready .any l.toArray listed = [i])
    (h : ∀ K' : Act → World → Prop, Shut (∀ a w, S w → (S w → wpAnyH P .any l.toArray (Calm Q) S fuel (listed.setIfInBounds i true) a w) → K' a w) → if Region.wanted o (yielded l.toArray a.tmps) = true then Oper.wp P o a w K' (Calm Q) else K' (a.put o.dst undef) w) :
    wpAnyH P .any l.toArray (Calm Q) S (fuel + 1) listed a w :=
  wpAnyH_ready hr (by simp) (AllReadyH.cons (by simpa using ho) h AllReadyH.nil)

theorem held_done {fuel : Nat} {listed : Array Bool} {a : Act} {w : World} (hr : Region.ready .any l.toArray listed = []) (h : Q .normal a w) : wpAnyH P .any l.toArray (Calm Q) S fuel listed a w :=
  wpAnyH_done (Q := Calm Q) hr h fuel
end Go.XL
