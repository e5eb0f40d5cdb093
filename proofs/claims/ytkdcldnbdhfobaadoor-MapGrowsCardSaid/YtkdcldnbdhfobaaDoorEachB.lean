/- Iterators that tell a list, make blocks of their own and keep one of them between two yields: EachB. -/
import Derived.Test.YtkdcldnbdhfobaaDoorIterD
namespace Go.XL
open Go.RowKit Go.Shelf
set_option linter.unusedVariables false
set_option linter.unusedSimpArgs false
/-- what is still to come, and the block that the iterator leans on -/
abbrev BxSt (α : Type) := List α × Option (Nat × Obj)
def BoxAt {α : Type} (s : BxSt α) (W : World) : Prop := ∀ g o, s.2 = some (g, o) → W.heap[g]? = some o ∧ isBook o = false
theorem BoxAt.none {α : Type} (l : List α) (W : World) : BoxAt (l, none) W := fun g o h => by cases h
theorem BoxAt.bk {α : Type} {s : BxSt α} {W W' : World} {B : Nat} (h : BoxAt s W) (hb : Bk B W W') : BoxAt s W' := fun g o e => ⟨hb.heap (h g o e).1 (h g o e).2, (h g o e).2⟩
theorem BoxAt.fr {α : Type} {s : BxSt α} {W W' : World} {F : Nat → Prop} (h : BoxAt s W) (hb : Fr F W W') (hF : ∀ g o, s.2 = some (g, o) → ¬ F g) : BoxAt s W' := fun g o e => ⟨hb.heap (h g o e).1 (hF g o e), (h g o e).2⟩
theorem BoxAt.lt {α : Type} {s : BxSt α} {W : World} (h : BoxAt s W) {g : Nat} {o : Obj} (e : s.2 = some (g, o)) : g < W.heap.size := (Array.getElem?_eq_some_iff.1 (h g o e).1).1
def BxStep {α : Type} (s : BxSt α) (W : World) (x : α) (s' : BxSt α) (W1 : World) : Prop :=
  s.1 = x :: s'.1 ∧ Fr no W W1 ∧ (s'.2 = s.2 ∨ ∃ g o, s'.2 = some (g, o) ∧ W.heap.size ≤ g ∧ W1.heap[g]? = some o ∧ isBook o = false)
theorem BxStep.box {α : Type} {s s' : BxSt α} {W W1 : World} {x : α} (h : BxStep s W x s' W1) (hb : BoxAt s W) : BoxAt s' W1 := by
  obtain ⟨_, hf, h2 | ⟨g, o, h2, h3, h4, h5⟩⟩ := h
  · intro g o e
    rw [h2] at e
    exact ⟨hf.heap (hb g o e).1 (fun f => f), (hb g o e).2⟩
  · intro g' o' e
    rw [h2] at e
    cases e
    exact ⟨h4, h5⟩
/-- blocks that the iterator leans on come behind B, where it lay there ahead -/
theorem BxStep.ge {α : Type} {s s' : BxSt α} {W W1 : World} {x : α} (h : BxStep s W x s' W1) {B : Nat} (hB : B ≤ W.heap.size) (hs : ∀ g o, s.2 = some (g, o) → B ≤ g) : ∀ g o, s'.2 = some (g, o) → B ≤ g := by
  obtain ⟨_, hf, h2 | ⟨g, o, h2, h3, h4, h5⟩⟩ := h
  · intro g o e
    rw [h2] at e
    exact hs g o e
  · intro g' o' e
    rw [h2] at e
    cases e
    omega
def EachB {α : Type} (F : Fence) (n : Nat) (P : Program) (gf : Nat) (lb : Array Value) (encs : α → Array Value) (Pre : World → Prop) (ls : List α) : Prop :=
  IterC F n P gf lb encs (fun s W => Pre W ∧ BoxAt s W) BxStep (fun s W W' => s.1 = [] ∧ Fr no W W') (ls, none)
end Go.XL
