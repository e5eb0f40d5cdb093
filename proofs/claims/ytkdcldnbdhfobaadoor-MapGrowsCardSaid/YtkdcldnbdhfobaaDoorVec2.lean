/- Contracts of the package vec: All, Check; and of the reference's vectors. -/
import Derived.Test.YtkdcldnbdhfobaaDoorVec
import Derived.Test.YtkdcldnbdhfobaaDoorIter
namespace Go.XL
open Go.RowKit Go.Shelf
set_option linter.unusedVariables false
set_option linter.unusedSimpArgs false
/-- from k on, each that is not 0, with its place -/
def vallF (xs : List Int) (k : Nat) : List (Nat × Int) := match xs with
  | [] => []
  | x :: r => if x = 0 then vallF r (k + 1) else (k, x) :: vallF r (k + 1)
theorem vallF_zero {xs : List Int} {k : Nat} {j : Nat} (h : xs[k]? = some 0) : vallF (xs.drop k) j = vallF (xs.drop (k + 1)) (j + 1) := by
  obtain ⟨hk, hx⟩ := List.getElem?_eq_some_iff.1 h
  rw [List.drop_eq_getElem_cons hk, hx]; simp [vallF]
theorem vallF_some {xs : List Int} {k : Nat} {j : Nat} {x : Int} (h : xs[k]? = some x) (hx0 : x ≠ 0) : vallF (xs.drop k) j = (j, x) :: vallF (xs.drop (k + 1)) (j + 1) := by
  obtain ⟨hk, hx⟩ := List.getElem?_eq_some_iff.1 h
  rw [List.drop_eq_getElem_cons hk, hx]; simp [vallF, hx0]
/-- what Check says of the numbers -/
def vbad (l : List Int) : Int := match l with
  | [] => 0
  | x :: r => if x < 0 then 1 else if 1048576 < x then 4 else vbad r
theorem vbad_all (xs : List Int) (k : Nat) : vbad ((vallF xs k).map Prod.snd) = vbad xs := by
  induction xs generalizing k with
  | nil => rfl
  | cons x r ih =>
    unfold vallF
    by_cases h : x = 0
    · rw [if_pos h, ih]; subst h; simp [vbad]
    · rw [if_neg h]; simp [vbad, ih]
def vcheck (xs : List Int) (sites : Int) : Int := if sites < 1 then 1 else if 8 < sites then 1 else if sites < xs.length then 4 else vbad xs
end Go.XL
namespace Go.Proofs.YtkdcldnbdhfobaaDoor
open Go.RowKit Go.Shelf Go.XL
set_option linter.unusedVariables false
set_option linter.unusedSimpArgs false
attribute [local go_sem] Oper.semAt_some

def ChX (w : World) (r : Int) (c : Code) (W : World) : Prop :=
  c = .ret ∧ W.heap[w.heap.size]? = some (.cells #[.int .i64 r] 27 (0, 0)) ∧ Fr no w W

end Go.Proofs.YtkdcldnbdhfobaaDoor
