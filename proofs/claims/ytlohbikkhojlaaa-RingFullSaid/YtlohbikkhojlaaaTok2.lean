/- Package token: what Admit gives. -/
import Derived.Test.YtlohbikkhojlaaaTok1
namespace Go.XL
open Go.RowKit Go.Shelf
set_option linter.unusedVariables false
/-- an own draft gets the next number -/
def dfix (own : Int) (seen : List Int) (d : Dr) : Dr := if d.s = own then { d with q := vget seen own + 1 } else d
/-- the first one that p holds of -/
def afirst (p : Dr → Bool) : List Dr → Nat → Option (Nat × Dr)
  | [], _ => none
  | x :: r, k => if p x = true then some (k, x) else afirst p r (k + 1)
/-- the next position, what is seen, who is left, who was given one -/
structure AS where
  next : Int
  seen : List Int
  left : List Dr
  out : List (Int × Dr)
def astep (own : Int) (a : AS) (i : Nat) (d : Dr) : AS := ⟨a.next + 1, vwith a.seen d.s (dfix own a.seen d).q, a.left.eraseIdx i, a.out ++ [(a.next, dfix own a.seen d)]⟩
def ago (own : Int) : Nat → AS → AS
  | 0, a => a
  | n + 1, a => match afirst (dmay own a.seen) a.left 0 with
    | none => a
    | some (i, d) => ago own n (astep own a i d)
/-- who waits on -/
def alate (own : Int) (seen : List Int) : List Dr → List Dr → List Dr
  | [], acc => acc
  | d :: r, acc => alate own seen r (if dgone own seen d acc = true then acc else acc ++ [d])
theorem afirst_some {p : Dr → Bool} {l : List Dr} {i : Nat} {d : Dr} (h : l[i]? = some d) : afirst p (l.drop i) i = if p d = true then some (i, d) else afirst p (l.drop (i + 1)) (i + 1) := by
  obtain ⟨hk, hx⟩ := List.getElem?_eq_some_iff.1 h
  rw [List.drop_eq_getElem_cons hk, hx]
  rfl
theorem afirst_end {p : Dr → Bool} {l : List Dr} {i : Nat} (h : l.length ≤ i) : afirst p (l.drop i) i = none := by
  rw [List.drop_eq_nil_of_le h]; rfl
theorem ago_none {own : Int} {a : AS} (h : afirst (dmay own a.seen) a.left 0 = none) (n : Nat) : ago own n a = a := by
  cases n with
  | zero => rfl
  | succ n => rw [ago, h]
theorem ago_some {own : Int} {a : AS} {i : Nat} {d : Dr} (h : afirst (dmay own a.seen) a.left 0 = some (i, d)) (n : Nat) : ago own (n + 1) a = ago own n (astep own a i d) := by
  rw [ago, h]
/-- slots' cells -/
def slCells (l : List (Int × Dr)) : List Value := l.flatMap fun x => .int .i64 x.1 :: x.2.cs
theorem slCells_len (l : List (Int × Dr)) : (slCells l).length = l.length * 7 := by
  induction l with
  | nil => rfl
  | cons x r ih => simp only [slCells, List.flatMap_cons, List.length_append, List.length_cons, Dr.cs, List.length_nil] at *; omega
theorem drCells_append (a b : List Dr) : drCells (a ++ b) = drCells a ++ drCells b := by simp [drCells]
theorem slCells_append (a b : List (Int × Dr)) : slCells (a ++ b) = slCells a ++ slCells b := by simp [slCells]
theorem drCells_take (l : List Dr) (i : Nat) : (drCells l).take (i * 6) = drCells (l.take i) := by
  induction l generalizing i with
  | nil => simp [drCells]
  | cons x r ih =>
    cases i with
    | zero => simp [drCells]
    | succ i =>
      have := ih i
      simp only [drCells, List.flatMap_cons, List.take_succ_cons] at *
      rw [List.take_append, ← this, show x.cs.length = 6 from rfl, List.take_of_length_le (by show 6 ≤ (i + 1) * 6; omega), show (i + 1) * 6 - 6 = i * 6 by omega]
theorem drCells_drop (l : List Dr) (i : Nat) : (drCells l).drop (i * 6) = drCells (l.drop i) := by
  induction l generalizing i with
  | nil => simp [drCells]
  | cons x r ih =>
    cases i with
    | zero => simp [drCells]
    | succ i =>
      have := ih i
      simp only [drCells, List.flatMap_cons, List.drop_succ_cons] at *
      rw [List.drop_append, ← this, show x.cs.length = 6 from rfl, List.drop_eq_nil_of_le (by show 6 ≤ (i + 1) * 6; omega), show (i + 1) * 6 - 6 = i * 6 by omega, List.nil_append]
theorem drCells_erase (l : List Dr) (i : Nat) : (drCells l).take (i * 6) ++ (drCells l).drop ((i + 1) * 6) = drCells (l.eraseIdx i) := by
  rw [drCells_take, drCells_drop, List.eraseIdx_eq_take_drop_succ, drCells_append]
end Go.XL
