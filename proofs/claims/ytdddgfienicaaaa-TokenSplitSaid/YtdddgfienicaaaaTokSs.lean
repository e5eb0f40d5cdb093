/- Plain parts of TokenSplit's walk: pairs that are told one way. -/
import Derived.Test.YtdddgfienicaaaaTokSr
import Derived.Test.YtdddgfienicaaaaTokS
namespace Go.XL
open Go.RowKit Go.Shelf
set_option linter.unusedVariables false
/-- two records of one site and number are told one way -/
def PairTold (x y : Dr) : Prop := x.s = y.s → x.q = y.q → sameR x y = true
theorem told_cov {D : List Dr} (h : ∀ (a b : Nat) (x y : Dr), b < a → D[a]? = some x → D[b]? = some y → PairTold x y) : ∀ d ∈ D, ∀ x ∈ D, x.s = d.s → x.q = d.q → vcov d.dep x.dep = true := by
  intro d hd x hx e1 e2
  obtain ⟨a, ha⟩ := List.mem_iff_getElem?.1 hd
  obtain ⟨b, hb⟩ := List.mem_iff_getElem?.1 hx
  rcases Nat.lt_trichotomy a b with h1 | h1 | h1
  · have := h b a x d h1 hb ha e1 e2
    simp [sameR] at this
    exact this.1.1.2.2
  · subst h1
    rw [ha] at hb
    cases hb
    simp [vcov]
  · have := h a b d x h1 ha hb e1.symm e2.symm
    simp [sameR] at this
    exact this.1.1.2.1
end Go.XL
