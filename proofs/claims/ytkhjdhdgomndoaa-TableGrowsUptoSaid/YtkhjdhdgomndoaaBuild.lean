/- A slice of slices of numbers that is being built. -/
import Derived.Test.YtkhjdhdgomndoaaOwn
namespace Go.XL
open Go.RowKit Go.Shelf
set_option linter.unusedVariables false
set_option linter.unusedSimpArgs false
/-- a slice of slices of numbers that is being built since w0: no row lies in the block of the slice itself -/
structure TBuild (w0 w : World) (E : TypeId) (v : Value) (n : Nat) (vs : List Value) (t : List (List Int)) : Prop where
  own : Ow w0 w E 1 v n vs
  len : t.length = n
  rows : ∀ (i : Nat) (u : Value) (xs : List Int), vs[i]? = some u → t[i]? = some xs → RdX (fun g => v.ownBlock = some g) w 1 u xs.length (xs.map (Value.int .i64))
theorem TBuild.nil {w0 w : World} (h : Fr no w0 w) (E : TypeId) : TBuild w0 w E (.slice none 0 0) 0 [] [] := ⟨Ow.nil h E 1, rfl, fun i u xs h => by simp at h⟩
theorem TBuild.step {w0 w w' : World} {E : TypeId} {v : Value} {n : Nat} {vs : List Value} {t : List (List Int)} (h : TBuild w0 w E v n vs t) (hf : Fr no w w') : TBuild w0 w' E v n vs t :=
  ⟨h.own.step hf, h.len, fun i u xs h1 h2 => (h.rows i u xs h1 h2).fr hf (fun _ _ f => f.elim)⟩
theorem TBuild.app {w0 w w' : World} {E : TypeId} {v v' : Value} {n : Nat} {vs : List Value} {t : List (List Int)} {u : Value} {xs : List Int} (h : TBuild w0 w E v n vs t) (hu : RdX (fun g => v.ownBlock = some g) w 1 u xs.length (xs.map (Value.int .i64)))
    (hs : Sl w' E 1 v' (n + 1) (vs ++ [u])) (hf : Fr (fun k => v.ownBlock = some k) w w') (ho : v'.ownBlock = v.ownBlock ∨ ∀ g, v'.ownBlock = some g → w.heap.size ≤ g) : TBuild w0 w' E v' (n + 1) (vs ++ [u]) (t ++ [xs]) := by
  have key : ∀ (u : Value) (xs : List Int), RdX (fun g => v.ownBlock = some g) w 1 u xs.length (xs.map (Value.int .i64)) → RdX (fun g => v'.ownBlock = some g) w' 1 u xs.length (xs.map (Value.int .i64)) := by
    intro u xs hx
    refine ⟨(hx.fr hf (fun _ _ e => e)).rd, fun h0 g hg e => ?_⟩
    rcases ho with e1 | e1
    · exact hx.2 h0 g hg (by rw [← e1]; exact e)
    · have := e1 g e
      have h1 := (hx.rd.x (X := fun g => w.heap.size ≤ g) (by decide) (fun g h => h)).2 h0 g hg
      omega
  have hvl : vs.length = n := by have := h.own.sl.1; omega
  refine ⟨h.own.app hs hf ho, by simp [h.len], fun i u' xs' h1 h2 => ?_⟩
  by_cases hi : i < n
  · rw [List.getElem?_append_left (by omega)] at h1
    rw [List.getElem?_append_left (by rw [h.len]; exact hi)] at h2
    exact key _ _ (h.rows i u' xs' h1 h2)
  · rw [List.getElem?_append_right (by omega)] at h1
    rw [List.getElem?_append_right (by rw [h.len]; omega)] at h2
    obtain ⟨hi2, _⟩ := List.getElem?_eq_some_iff.1 h1
    have e : i - vs.length = 0 := by simp at hi2; omega
    rw [e] at h1
    rw [h.len, ← hvl, e] at h2
    simp at h1 h2
    subst h1; subst h2
    exact key _ _ hu
end Go.XL
