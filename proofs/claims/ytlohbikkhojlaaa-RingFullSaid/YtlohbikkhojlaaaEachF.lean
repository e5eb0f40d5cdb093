/- Iterators that tell a list and make blocks of their own, on none of which they lean between two yields: EachF. -/
import Derived.Test.YtlohbikkhojlaaaIterD
namespace Go.XL
open Go.RowKit Go.Shelf
set_option linter.unusedVariables false
set_option linter.unusedSimpArgs false
def EachF {α : Type} (F : Fence) (n : Nat) (P : Program) (gf : Nat) (lb : Array Value) (encs : α → Array Value) (Pre : World → Prop) (ls : List α) : Prop :=
  IterC F n P gf lb encs (fun _ => Pre) (fun s W x s' W1 => s = x :: s' ∧ Fr no W W1) (fun s W W' => s = [] ∧ Fr no W W') ls
variable {F : Fence} {n : Nat} {P : Program}
theorem wpIn_eachF {α : Type} {g : Operand} {ps : Array Tmp} {assign body : Code} {Q : Exit → Act → World → Prop} {a : Act} {w : World}
    (hro : F.round = none) (h1 : F.depth.isSome = true → 1 ≤ n) {gf : Nat} {lb : Array Value} (hg : a.eval g = .func (.func gf) #[] lb) (hFg : F.fn gf) (eg : ∀ args w, (callFunc gf args).run P w = .ok (.enter gf args) w)
    {encs : α → Array Value} {Pre : World → Prop} {ls : List α} (hiter : EachF F (n - 1) P gf lb encs Pre ls) (hps : ∀ x, (encs x).size = ps.size)
    (I : List α → World → Prop) (Ix : Code → World → Prop)
    (hI : ∀ s W W', I s W → Bk w.heap.size W W' → I s W') (hIx : ∀ c W W', Ix c W → Bk w.heap.size W W' → Ix c W') (hIf : ∀ s W W', I s W → Fr no W W' → I s W')
    (hPre : ∀ s W, I s W → Pre W) (h0 : I ls w)
    (hround : ∀ (l : Nat) W x s, I (x :: s) W →
      assign.wpIn (F.inRound l) (n - 1 - 1) P (Exit.then (fun a1 Wa => Kb W Wa ∧ ∀ (l : Nat) Wb, Bk w.heap.size Wa Wb → (∃ r, Wb.heap[l]? = some (.loop r)) → body.wpIn (F.inRound l) (n - 1 - 1) P (rpost Wb (I s) Ix) a1 Wb) (fun _ _ _ => False)) { tmps := (ps.zip (encs x)).foldl (fun t (p, v) => t.setIfInBounds p v) a.tmps, defers := [] } W)
    (hdone : ∀ (D : Nat) W, w.heap.size ≤ D → I [] W → W.heap[D]? = some (.deferred (some [])) → Kb w W → Q .normal { a with defers := mark D :: a.defers } W)
    (hstop : ∀ (D : Nat) (c : Code) (W : World), w.heap.size ≤ D → Ix c W → W.heap[D]? = some (.deferred (some [])) → c.wpIn F n P Q { a with defers := mark D :: a.defers } W) :
    (Code.rangeFunc g ps assign body).wpIn F n P Q a w := by
  refine wpIn_range2 hro h1 hg hFg eg hiter hps ?_ ?_ I Ix hI hIx hPre h0 ?_ ?_ hstop
  · rintro s W x s' W1 _ ⟨_, h⟩; exact Kb.of_below h.below
  · rintro s W W' _ ⟨_, h⟩; exact Kb.of_below h.below
  · rintro l s W x s' W1 hi ⟨rfl, h⟩; exact hround l _ _ _ (hIf _ _ _ hi h)
  · rintro D s W2 W' hD hi ⟨rfl, h⟩ _ W'' hb hd hkb
    refine hdone D W'' hD (hI _ _ _ (hIf _ _ _ hi h) hb) hd ⟨Nat.le_trans hkb.size hb.size, fun j o hj ho => ?_⟩
    have hlt := (Array.getElem?_eq_some_iff.1 hj).1
    exact (Fr.block hb j (Nat.lt_of_lt_of_le hlt hkb.size) (fun ⟨h, _⟩ => by omega)).trans (hkb.same j o hj ho)
end Go.XL
