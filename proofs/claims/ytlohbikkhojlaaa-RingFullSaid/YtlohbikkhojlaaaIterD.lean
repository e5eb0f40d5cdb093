/- Iterators that tell a list and only draw; marks of several loops in one frame. -/
import Derived.Test.YtlohbikkhojlaaaIter
namespace Go.XL
open Go.RowKit Go.Shelf
set_option linter.unusedVariables false
set_option linter.unusedSimpArgs false

/-- The iterator tells ls, one after the other, and changes nothing but the draws, where Pre holds. -/
def EachD {α : Type} (F : Fence) (n : Nat) (P : Program) (gf : Nat) (lb : Array Value) (encs : α → Array Value) (Pre : World → Prop) (ls : List α) : Prop :=
  IterC F n P gf lb encs (fun _ => Pre) (fun s W x s' W1 => s = x :: s' ∧ ∃ k, W1 = W.drewN k) (fun s W W' => s = [] ∧ ∃ k, W' = W.drewN k) ls

variable {F : Fence} {n : Nat} {P : Program}

theorem wpIn_eachD {α : Type} {g : Operand} {ps : Array Tmp} {assign body : Code} {Q : Exit → Act → World → Prop} {a : Act} {w : World}
    (hro : F.round = none) (h1 : F.depth.isSome = true → 1 ≤ n) {gf : Nat} {lb : Array Value} (hg : a.eval g = .func (.func gf) #[] lb) (hFg : F.fn gf) (eg : ∀ args w, (callFunc gf args).run P w = .ok (.enter gf args) w)
    {encs : α → Array Value} {Pre : World → Prop} {ls : List α} (hiter : EachD F (n - 1) P gf lb encs Pre ls) (hps : ∀ x, (encs x).size = ps.size)
    (I : List α → World → Prop) (Ix : Code → World → Prop)
    (hI : ∀ s W W', I s W → Bk w.heap.size W W' → I s W') (hIx : ∀ c W W', Ix c W → Bk w.heap.size W W' → Ix c W')
    (hPre : ∀ s W, I s W → Pre W) (h0 : I ls w)
    (hround : ∀ (l : Nat) W x s, I (x :: s) W →
      assign.wpIn (F.inRound l) (n - 1 - 1) P (Exit.then (fun a1 Wa => Kb W Wa ∧ ∀ (l : Nat) Wb, Bk w.heap.size Wa Wb → (∃ r, Wb.heap[l]? = some (.loop r)) → body.wpIn (F.inRound l) (n - 1 - 1) P (rpost Wb (I s) Ix) a1 Wb) (fun _ _ _ => False)) { tmps := (ps.zip (encs x)).foldl (fun t (p, v) => t.setIfInBounds p v) a.tmps, defers := [] } W)
    (hdone : ∀ (D : Nat) W, w.heap.size ≤ D → I [] W → W.heap[D]? = some (.deferred (some [])) → Kb w W → Q .normal { a with defers := mark D :: a.defers } W)
    (hstop : ∀ (D : Nat) (c : Code) (W : World), w.heap.size ≤ D → Ix c W → W.heap[D]? = some (.deferred (some [])) → c.wpIn F n P Q { a with defers := mark D :: a.defers } W) :
    (Code.rangeFunc g ps assign body).wpIn F n P Q a w := by
  refine wpIn_range2 hro h1 hg hFg eg hiter hps ?_ ?_ I Ix hI hIx hPre h0 ?_ ?_ hstop
  · rintro s W x s' W1 _ ⟨_, k, rfl⟩; exact Kb.drewN _ _
  · rintro s W W' _ ⟨_, k, rfl⟩; exact Kb.drewN _ _
  · rintro l s W x s' W1 hi ⟨rfl, k, rfl⟩; exact hround l _ _ _ (hI _ _ _ hi (Bk.drewN _ _ _))
  · rintro D s W2 W' hD hi ⟨rfl, k, rfl⟩ _ W'' hb hd hkb
    refine hdone D W'' hD (hI _ _ _ (hI _ _ _ hi (Bk.drewN _ _ _)) hb) hd ⟨Nat.le_trans hkb.size hb.size, fun j o hj ho => ?_⟩
    have hlt := (Array.getElem?_eq_some_iff.1 hj).1
    exact (Fr.block hb j (Nat.lt_of_lt_of_le hlt hkb.size) (fun ⟨h, _⟩ => by omega)).trans (hkb.same j o hj ho)

theorem wpIn_eachD_in {α : Type} {g : Operand} {ps : Array Tmp} {assign body : Code} {Q : Exit → Act → World → Prop} {a : Act} {w : World}
    {l₀ : Nat} (hro : F.round = some l₀) (hl₀ : ∃ r₀, w.heap[l₀]? = some (.loop r₀)) (h1 : F.depth.isSome = true → 1 ≤ n) {gf : Nat} {lb : Array Value} (hg : a.eval g = .func (.func gf) #[] lb) (hFg : F.fn gf) (eg : ∀ args w, (callFunc gf args).run P w = .ok (.enter gf args) w)
    {encs : α → Array Value} {Pre : World → Prop} {ls : List α} (hiter : EachD F (n - 1) P gf lb encs Pre ls) (hps : ∀ x, (encs x).size = ps.size)
    (I : List α → World → Prop) (Ix : Code → World → Prop)
    (hI : ∀ s W W', I s W → Bk w.heap.size W W' → I s W') (hIx : ∀ c W W', Ix c W → Bk w.heap.size W W' → Ix c W')
    (hPre : ∀ s W, I s W → Pre W) (h0 : I ls w)
    (hround : ∀ (l : Nat) W x s, I (x :: s) W →
      assign.wpIn (F.inRound l) (n - 1 - 1) P (Exit.then (fun a1 Wa => Kb W Wa ∧ ∀ (l : Nat) Wb, Bk w.heap.size Wa Wb → (∃ r, Wb.heap[l]? = some (.loop r)) → body.wpIn (F.inRound l) (n - 1 - 1) P (rpost Wb (I s) Ix) a1 Wb) (fun _ _ _ => False)) { tmps := (ps.zip (encs x)).foldl (fun t (p, v) => t.setIfInBounds p v) a.tmps, defers := [] } W)
    (hdone : ∀ W, I [] W → Kb w W → Q .normal a W)
    (hstop : ∀ (c : Code) (W : World), Ix c W → Kb w W → c.wpIn F n P Q a W) :
    (Code.rangeFunc g ps assign body).wpIn F n P Q a w := by
  refine wpIn_range_in2 hro hl₀ h1 hg hFg eg hiter hps ?_ ?_ I Ix hI hIx hPre h0 ?_ ?_ hstop
  · rintro s W x s' W1 _ ⟨_, k, rfl⟩; exact Kb.drewN _ _
  · rintro s W W' _ ⟨_, k, rfl⟩; exact Kb.drewN _ _
  · rintro l s W x s' W1 hi ⟨rfl, k, rfl⟩; exact hround l _ _ _ (hI _ _ _ hi (Bk.drewN _ _ _))
  · rintro s W2 W' hi ⟨rfl, k, rfl⟩ W'' hb hkb
    exact hdone W'' (hI _ _ _ (hI _ _ _ hi (Bk.drewN _ _ _)) hb) hkb

/-- marks that lie where they were laid -/
def Marks (B : Nat) (ds : List Nat) (w : World) : Prop := (∀ r ∈ ds, B ≤ r ∧ w.heap[r]? = some (.deferred (some []))) ∧ ds.Nodup
theorem Marks.nil (B : Nat) (w : World) : Marks B [] w := ⟨by simp, by simp⟩
theorem Marks.lt {B : Nat} {ds : List Nat} {w : World} (h : Marks B ds w) : ∀ r ∈ ds, r < w.heap.size := fun r hr => (Array.getElem?_eq_some_iff.1 (h.1 r hr).2).1
theorem Marks.kb {B : Nat} {ds : List Nat} {w w' : World} (h : Marks B ds w) (hk : Kb w w') : Marks B ds w' := ⟨fun r hr => ⟨(h.1 r hr).1, hk.same r _ (h.1 r hr).2 rfl⟩, h.2⟩
theorem Marks.cons {B D : Nat} {ds : List Nat} {w w' : World} (h : Marks B ds w) (hk : Kb w w') (hD : w.heap.size ≤ D) (hB : B ≤ D) (hd : w'.heap[D]? = some (.deferred (some []))) : Marks B (D :: ds) w' := by
  have hk' := h.kb hk
  refine ⟨fun r hr => ?_, List.nodup_cons.2 ⟨fun hm => by have := h.lt D hm; omega, h.2⟩⟩
  rcases List.mem_cons.1 hr with rfl | hr
  · exact ⟨hB, hd⟩
  · exact hk'.1 r hr
theorem leaveMarks {fn : Func} {R : Ending → World → Prop} {a : Act} {w : World} {B : Nat} {ds : List Nat} (hd : a.defers = ds.map mark) (hm : Marks B ds w)
    (h : ∀ W', Bk B w W' → ∃ v, (results fn a.tmps).run P W' = .ok v W' ∧ R (.returned v) W') : bodyPostM F n P fn R .ret a w := leaveM B ds hd hm.1 hm.2 h
end Go.XL
