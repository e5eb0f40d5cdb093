/- Contracts of the package vec: Get, With, Join, Meet, Covers, Same. -/
import Derived.Test.YtkdcldnbdhfobaaDoorRows
import Derived.Test.YtkdcldnbdhfobaaDoorOwn
import Derived.Test.YtkdcldnbdhfobaaDoorQuiet
namespace Go.XL
open Go.RowKit Go.Shelf
set_option linter.unusedVariables false
set_option linter.unusedSimpArgs false

/-- one of a vector -/
def vget (xs : List Int) (i : Int) : Int := if 0 ≤ i ∧ i < xs.length then xs[i.toNat]?.getD 0 else 0
/-- a vector with one put -/
def vwith (xs : List Int) (i n : Int) : List Int := if i < 0 ∨ 63 < i then xs else (xs ++ List.replicate (i.toNat + 1 - xs.length) 0).set i.toNat n
/-- place by place -/
def vboth (g : Int → Int → Int) (a b : List Int) : List Int := (List.range (max a.length b.length)).map fun i : Nat => g (vget a i) (vget b i)
def vcov (a b : List Int) : Bool := (List.range (max a.length b.length)).all fun i : Nat => decide (vget b i ≤ vget a i)
theorem vget_nat (xs : List Int) (k : Nat) : vget xs k = xs[k]?.getD 0 := by
  unfold vget
  by_cases h : k < xs.length
  · rw [if_pos ⟨by omega, by omega⟩]; simp
  · rw [if_neg (by omega)]; simp [List.getElem?_eq_none (by omega : xs.length ≤ k)]
/-- v is a slice of the numbers xs -/
abbrev IntsAt (w : World) (v : Value) (xs : List Int) : Prop := Rd w 1 v xs.length (xs.map (Value.int .i64))
/-- .. made since w -/
abbrev Made (E : TypeId) (w w' : World) (v : Value) (xs : List Int) : Prop := Ow w w' E 1 v xs.length (xs.map (Value.int .i64))
end Go.XL
namespace Go.Proofs.YtkdcldnbdhfobaaDoor
open Go.RowKit Go.Shelf Go.XL
set_option linter.unusedVariables false
set_option linter.unusedSimpArgs false
attribute [local go_sem] Oper.semAt_some
theorem Tryd.info3 : (Tryd.prog.info? 3).map (fun i => (i.zero, i.size, i.bytes)) = some (some (.int .i64 0), 1, 8) := by kernel_rfl

/-- With's slice: the vector, and noughts behind it -/
def WithI (w wr : World) (v : Value) (xs : List Int) (n k : Nat) : Prop := ∃ m : Nat, n = xs.length + m ∧ (m = 0 ∨ n ≤ k + 1) ∧ Ow w wr 3 1 v n ((xs ++ List.replicate m 0).map (Value.int .i64))

/-- up to i the one covers the other -/
def covTo (a b : List Int) (i : Nat) : Prop := ∀ j : Nat, j < i → vget b j ≤ vget a j
theorem vcov_iff (a b : List Int) : vcov a b = true ↔ covTo a b (max a.length b.length) := by
  unfold vcov covTo; rw [List.all_eq_true]; simp

end Go.Proofs.YtkdcldnbdhfobaaDoor
