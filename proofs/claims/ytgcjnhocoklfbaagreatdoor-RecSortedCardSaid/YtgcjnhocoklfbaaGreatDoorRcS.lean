/- Plain: what RecSorted says of three records. -/
import Derived.Test.YtgcjnhocoklfbaaGreatDoorRc2
import Derived.Test.YtgcjnhocoklfbaaGreatDoorVup
namespace Go.XL
open Go.RowKit Go.Shelf
theorem same_trans {a b c : Rc} (h1 : sameC a b = true) (h2 : sameC b c = true) : sameC a c = true := by
  unfold sameC at *
  simp only [Bool.and_eq_true, decide_eq_true_eq, beq_iff_eq] at *
  obtain ⟨⟨⟨⟨a1, a2⟩, a3, a4⟩, a5⟩, a6⟩ := h1
  obtain ⟨⟨⟨⟨b1, b2⟩, b3, b4⟩, b5⟩, b6⟩ := h2
  rw [vcov_all] at a3 a4 b3 b4
  refine ⟨⟨⟨⟨a1.trans b1, a2.trans b2⟩, ?_, ?_⟩, a5.trans b5⟩, a6.trans b6⟩
  · rw [vcov_all]; intro j; have := a3 j; have := b3 j; omega
  · rw [vcov_all]; intro j; have := a4 j; have := b4 j; omega
theorem before_trans {a b c : Rc} (h1 : beforeC a b = true) (h2 : beforeC b c = true) : beforeC a c = true := by
  unfold beforeC at *
  simp only [decide_eq_true_eq] at *
  omega
theorem before_none {a b : Rc} (h1 : beforeC a b = false) (h2 : beforeC b a = false) : a.s = b.s ∧ a.q = b.q := by
  unfold beforeC at *
  simp only [decide_eq_false_iff_not] at *
  omega
end Go.XL
