/- Iterators that tell a list and change nothing: EachC, and the rules for a range over them. -/
import Derived.Test.YtlohbikkhojlaaaOwn
import Derived.Test.YtlohbikkhojlaaaQuiet
namespace Go.XL
open Go.RowKit Go.Shelf
set_option linter.unusedVariables false
set_option linter.unusedSimpArgs false

/-- The iterator tells ls, one after the other, and changes nothing, where Pre holds. -/
def EachC {α : Type} (F : Fence) (n : Nat) (P : Program) (gf : Nat) (lb : Array Value) (encs : α → Array Value) (Pre : World → Prop) (ls : List α) : Prop :=
  IterC F n P gf lb encs (fun _ => Pre) (fun s W x s' W1 => s = x :: s' ∧ W = W1) (fun s W W' => s = [] ∧ W = W') ls

theorem bk_trans {B : Nat} {W W' W'' : World} (h : Bk B W W') (h' : Bk B W' W'') : Bk B W W'' := by
  refine Fr.trans h h' (fun i hi ⟨hB, o', ho', hb⟩ => ⟨hB, W.heap[i], by simp [hi], ?_⟩)
  cases hbo : isBook W.heap[i]
  · have := h.heap (k := i) (o := W.heap[i]) (by simp [hi]) hbo
    rw [this] at ho'; cases ho'; rw [hbo] at hb; cases hb
  · rfl

variable {F : Fence} {n : Nat} {P : Program}

/-- wpIn_range with the assignment and the body of a round walked in one -/
theorem wpIn_range2 {σ α : Type} {g : Operand} {ps : Array Tmp} {assign body : Code} {Q : Exit → Act → World → Prop} {a : Act} {w : World}
    (hro : F.round = none) (h1 : F.depth.isSome = true → 1 ≤ n) {gf : Nat} {lb : Array Value} (hg : a.eval g = .func (.func gf) #[] lb) (hFg : F.fn gf) (eg : ∀ args w, (callFunc gf args).run P w = .ok (.enter gf args) w)
    {encs : α → Array Value} {Pre : σ → World → Prop} {Step : σ → World → α → σ → World → Prop} {Done : σ → World → World → Prop} {s0 : σ}
    (hiter : IterC F (n - 1) P gf lb encs Pre Step Done s0) (hps : ∀ x, (encs x).size = ps.size)
    (hstepK : ∀ s W x s' W1, Pre s W → Step s W x s' W1 → Kb W W1) (hdoneK : ∀ s W W', Pre s W → Done s W W' → Kb W W')
    (I : σ → World → Prop) (Ix : Code → World → Prop)
    (hI : ∀ s W W', I s W → Bk w.heap.size W W' → I s W') (hIx : ∀ c W W', Ix c W → Bk w.heap.size W W' → Ix c W')
    (hPre : ∀ s W, I s W → Pre s W) (h0 : I s0 w)
    (hround : ∀ (l : Nat) s W x s' W1, I s W → Step s W x s' W1 →
      assign.wpIn (F.inRound l) (n - 1 - 1) P (Exit.then (fun a1 Wa => Kb W1 Wa ∧ ∀ (l : Nat) Wb, Bk w.heap.size Wa Wb → (∃ r, Wb.heap[l]? = some (.loop r)) → body.wpIn (F.inRound l) (n - 1 - 1) P (rpost Wb (I s') Ix) a1 Wb) (fun _ _ _ => False)) { tmps := (ps.zip (encs x)).foldl (fun t (p, v) => t.setIfInBounds p v) a.tmps, defers := [] } W1)
    (hdone : ∀ (D : Nat) s W2 W', w.heap.size ≤ D → I s W2 → Done s W2 W' → W'.heap[D]? = some (.deferred (some [])) → ∀ W'', Bk w.heap.size W' W'' → W''.heap[D]? = some (.deferred (some [])) → Kb w W' → Q .normal { a with defers := mark D :: a.defers } W'')
    (hstop : ∀ (D : Nat) (c : Code) (W : World), w.heap.size ≤ D → Ix c W → W.heap[D]? = some (.deferred (some [])) → c.wpIn F n P Q { a with defers := mark D :: a.defers } W) :
    (Code.rangeFunc g ps assign body).wpIn F n P Q a w :=
  wpIn_range hro h1 hg hFg eg hiter hps hstepK hdoneK I Ix (fun x s a1 W => ∀ (l : Nat) Wb, Bk w.heap.size W Wb → (∃ r, Wb.heap[l]? = some (.loop r)) → body.wpIn (F.inRound l) (n - 1 - 1) P (rpost Wb (I s) Ix) a1 Wb)
    hI hIx (fun x s a1 W W' h hb l Wb hb2 hl => h l Wb (bk_trans hb hb2) hl) hPre h0 hround (fun l x s a1 Wb hl h => h l Wb (Bk.refl _ _) hl) hdone hstop

theorem wpIn_range_in2 {σ α : Type} {g : Operand} {ps : Array Tmp} {assign body : Code} {Q : Exit → Act → World → Prop} {a : Act} {w : World}
    {l₀ : Nat} (hro : F.round = some l₀) (hl₀ : ∃ r₀, w.heap[l₀]? = some (.loop r₀)) (h1 : F.depth.isSome = true → 1 ≤ n) {gf : Nat} {lb : Array Value} (hg : a.eval g = .func (.func gf) #[] lb) (hFg : F.fn gf) (eg : ∀ args w, (callFunc gf args).run P w = .ok (.enter gf args) w)
    {encs : α → Array Value} {Pre : σ → World → Prop} {Step : σ → World → α → σ → World → Prop} {Done : σ → World → World → Prop} {s0 : σ}
    (hiter : IterC F (n - 1) P gf lb encs Pre Step Done s0) (hps : ∀ x, (encs x).size = ps.size)
    (hstepK : ∀ s W x s' W1, Pre s W → Step s W x s' W1 → Kb W W1) (hdoneK : ∀ s W W', Pre s W → Done s W W' → Kb W W')
    (I : σ → World → Prop) (Ix : Code → World → Prop)
    (hI : ∀ s W W', I s W → Bk w.heap.size W W' → I s W') (hIx : ∀ c W W', Ix c W → Bk w.heap.size W W' → Ix c W')
    (hPre : ∀ s W, I s W → Pre s W) (h0 : I s0 w)
    (hround : ∀ (l : Nat) s W x s' W1, I s W → Step s W x s' W1 →
      assign.wpIn (F.inRound l) (n - 1 - 1) P (Exit.then (fun a1 Wa => Kb W1 Wa ∧ ∀ (l : Nat) Wb, Bk w.heap.size Wa Wb → (∃ r, Wb.heap[l]? = some (.loop r)) → body.wpIn (F.inRound l) (n - 1 - 1) P (rpost Wb (I s') Ix) a1 Wb) (fun _ _ _ => False)) { tmps := (ps.zip (encs x)).foldl (fun t (p, v) => t.setIfInBounds p v) a.tmps, defers := [] } W1)
    (hdone : ∀ s W2 W', I s W2 → Done s W2 W' → ∀ W'', Bk w.heap.size W' W'' → Kb w W'' → Q .normal a W'')
    (hstop : ∀ (c : Code) (W : World), Ix c W → Kb w W → c.wpIn F n P Q a W) :
    (Code.rangeFunc g ps assign body).wpIn F n P Q a w :=
  wpIn_range_in hro hl₀ h1 hg hFg eg hiter hps hstepK hdoneK I Ix (fun x s a1 W => ∀ (l : Nat) Wb, Bk w.heap.size W Wb → (∃ r, Wb.heap[l]? = some (.loop r)) → body.wpIn (F.inRound l) (n - 1 - 1) P (rpost Wb (I s) Ix) a1 Wb)
    hI hIx (fun x s a1 W W' h hb l Wb hb2 hl => h l Wb (bk_trans hb hb2) hl) hPre h0 hround (fun l x s a1 Wb hl h => h l Wb (Bk.refl _ _) hl) hdone hstop

/-- over an iterator that changes nothing -/
theorem wpIn_each {α : Type} {g : Operand} {ps : Array Tmp} {assign body : Code} {Q : Exit → Act → World → Prop} {a : Act} {w : World}
    (hro : F.round = none) (h1 : F.depth.isSome = true → 1 ≤ n) {gf : Nat} {lb : Array Value} (hg : a.eval g = .func (.func gf) #[] lb) (hFg : F.fn gf) (eg : ∀ args w, (callFunc gf args).run P w = .ok (.enter gf args) w)
    {encs : α → Array Value} {Pre : World → Prop} {ls : List α} (hiter : EachC F (n - 1) P gf lb encs Pre ls) (hps : ∀ x, (encs x).size = ps.size)
    (I : List α → World → Prop) (Ix : Code → World → Prop)
    (hI : ∀ s W W', I s W → Bk w.heap.size W W' → I s W') (hIx : ∀ c W W', Ix c W → Bk w.heap.size W W' → Ix c W')
    (hPre : ∀ s W, I s W → Pre W) (h0 : I ls w)
    (hround : ∀ (l : Nat) W x s, I (x :: s) W →
      assign.wpIn (F.inRound l) (n - 1 - 1) P (Exit.then (fun a1 Wa => Kb W Wa ∧ ∀ (l : Nat) Wb, Bk w.heap.size Wa Wb → (∃ r, Wb.heap[l]? = some (.loop r)) → body.wpIn (F.inRound l) (n - 1 - 1) P (rpost Wb (I s) Ix) a1 Wb) (fun _ _ _ => False)) { tmps := (ps.zip (encs x)).foldl (fun t (p, v) => t.setIfInBounds p v) a.tmps, defers := [] } W)
    (hdone : ∀ (D : Nat) W, w.heap.size ≤ D → I [] W → W.heap[D]? = some (.deferred (some [])) → Q .normal { a with defers := mark D :: a.defers } W)
    (hstop : ∀ (D : Nat) (c : Code) (W : World), w.heap.size ≤ D → Ix c W → W.heap[D]? = some (.deferred (some [])) → c.wpIn F n P Q { a with defers := mark D :: a.defers } W) :
    (Code.rangeFunc g ps assign body).wpIn F n P Q a w := by
  refine wpIn_range2 hro h1 hg hFg eg hiter hps ?_ ?_ I Ix hI hIx hPre h0 ?_ ?_ hstop
  · rintro s W x s' W1 _ ⟨_, rfl⟩; exact Kb.refl _
  · rintro s W W' _ ⟨_, rfl⟩; exact Kb.refl _
  · rintro l s W x s' W1 hi ⟨rfl, rfl⟩; exact hround l _ _ _ hi
  · rintro D s W2 W' hD hi ⟨rfl, rfl⟩ _ W'' hb hd _
    exact hdone D W'' hD (hI _ _ _ hi hb) hd

theorem wpIn_each_in {α : Type} {g : Operand} {ps : Array Tmp} {assign body : Code} {Q : Exit → Act → World → Prop} {a : Act} {w : World}
    {l₀ : Nat} (hro : F.round = some l₀) (hl₀ : ∃ r₀, w.heap[l₀]? = some (.loop r₀)) (h1 : F.depth.isSome = true → 1 ≤ n) {gf : Nat} {lb : Array Value} (hg : a.eval g = .func (.func gf) #[] lb) (hFg : F.fn gf) (eg : ∀ args w, (callFunc gf args).run P w = .ok (.enter gf args) w)
    {encs : α → Array Value} {Pre : World → Prop} {ls : List α} (hiter : EachC F (n - 1) P gf lb encs Pre ls) (hps : ∀ x, (encs x).size = ps.size)
    (I : List α → World → Prop) (Ix : Code → World → Prop)
    (hI : ∀ s W W', I s W → Bk w.heap.size W W' → I s W') (hIx : ∀ c W W', Ix c W → Bk w.heap.size W W' → Ix c W')
    (hPre : ∀ s W, I s W → Pre W) (h0 : I ls w)
    (hround : ∀ (l : Nat) W x s, I (x :: s) W →
      assign.wpIn (F.inRound l) (n - 1 - 1) P (Exit.then (fun a1 Wa => Kb W Wa ∧ ∀ (l : Nat) Wb, Bk w.heap.size Wa Wb → (∃ r, Wb.heap[l]? = some (.loop r)) → body.wpIn (F.inRound l) (n - 1 - 1) P (rpost Wb (I s) Ix) a1 Wb) (fun _ _ _ => False)) { tmps := (ps.zip (encs x)).foldl (fun t (p, v) => t.setIfInBounds p v) a.tmps, defers := [] } W)
    (hdone : ∀ W, I [] W → Kb w W → Q .normal a W)
    (hstop : ∀ (c : Code) (W : World), Ix c W → Kb w W → c.wpIn F n P Q a W) :
    (Code.rangeFunc g ps assign body).wpIn F n P Q a w := by
  refine wpIn_range_in2 hro hl₀ h1 hg hFg eg hiter hps ?_ ?_ I Ix hI hIx hPre h0 ?_ ?_ hstop
  · rintro s W x s' W1 _ ⟨_, rfl⟩; exact Kb.refl _
  · rintro s W W' _ ⟨_, rfl⟩; exact Kb.refl _
  · rintro l s W x s' W1 hi ⟨rfl, rfl⟩; exact hround l _ _ _ hi
  · rintro s W2 W' hi ⟨rfl, rfl⟩ W'' hb hkb
    exact hdone W'' (hI _ _ _ hi hb) hkb

/-- marks behind a return -/
theorem leaveOne {fn : Func} {R : Ending → World → Prop} {a : Act} {w : World} (D : Nat) (hd : a.defers = [mark D]) (hD : w.heap[D]? = some (.deferred (some [])))
    (h : ∀ W', Bk D w W' → ∃ v, (results fn a.tmps).run P W' = .ok v W' ∧ R (.returned v) W') : bodyPostM F n P fn R .ret a w :=
  leaveM D [D] (by rw [hd]; rfl) (fun r hr => by simp at hr; subst hr; exact ⟨Nat.le_refl _, hD⟩) (by simp) h
end Go.XL
