/- Arguments opened: a slice of whatever elements as rows of cells. -/
import Derived.Test.YtlohbikkhojlaaaSl
import Derived.ProofKit
import Derived.OpenShut
import Derived.ShutString
import Derived.ChangeOld
import Derived.Below
import Derived.Deep.Slices
namespace Go.XL
open Go.RowKit Go.Shelf Go.ChangeShapes Go.WideShapes Go.ChangeAt
set_option linter.unusedVariables false
set_option linter.unusedSimpArgs false

theorem cells_some {w : World} {base : Nat} {a : Addr} {n : Nat} {cs : List Value} (h : w.cells? base a n = some cs) : cs.length = n ∧ ∀ j u, cs[j]? = some u → w.cell? (a.add j) = some u := by
  unfold World.cells? at h
  split at h
  · have key : ∀ (l : List Nat) (cs : List Value), l.mapM (fun i => w.cell? (a.add i)) = some cs → cs.length = l.length ∧ ∀ (j : Nat) (u : Value), cs[j]? = some u → ∃ i : Nat, l[j]? = some i ∧ w.cell? (a.add i) = some u := by
      intro l
      induction l with
      | nil => intro cs h; simp at h; subst h; simp
      | cons i l ih =>
        intro cs h
        simp only [List.mapM_cons, Option.bind_eq_bind, Option.bind_eq_some_iff, Option.pure_def, Option.some.injEq] at h
        obtain ⟨u, hu, cs', hcs', rfl⟩ := h
        obtain ⟨h1, h2⟩ := ih cs' hcs'
        refine ⟨by simp [h1], fun j v hj => ?_⟩
        cases j with
        | zero => simp at hj; subst hj; exact ⟨i, rfl, hu⟩
        | succ j => simpa using h2 j v (by simpa using hj)
    obtain ⟨h1, h2⟩ := key _ _ h
    refine ⟨by simpa using h1, fun j u hj => ?_⟩
    obtain ⟨i, hi, hc⟩ := h2 j u hj
    have hlt := (List.getElem?_eq_some_iff.1 hi).1
    simp at hlt
    simp [hlt] at hi
    subst hi
    exact hc
  · cases h

theorem flatten_get {α : Type} (size : Nat) : ∀ (rows : List (List α)), (∀ r ∈ rows, r.length = size) → ∀ (i j : Nat) (r : List α), rows[i]? = some r → j < size → rows.flatten[i * size + j]? = r[j]? := by
  intro rows
  induction rows with
  | nil => intro _ i j r h; simp at h
  | cons r0 rows ih =>
    intro hl i j r h hj
    have h0 := hl r0 (by simp)
    cases i with
    | zero =>
      simp at h; subst h
      rw [List.flatten_cons, List.getElem?_append_left (by omega)]; simp
    | succ i =>
      rw [List.flatten_cons, List.getElem?_append_right (by rw [h0, Nat.add_mul]; omega), h0]
      rw [show (i + 1) * size + j - size = i * size + j by rw [Nat.add_mul]; omega]
      exact ih (fun r hr => hl r (by simp [hr])) i j r (by simpa using h) hj

theorem flatten_len {α : Type} (size : Nat) : ∀ (rows : List (List α)), (∀ r ∈ rows, r.length = size) → rows.flatten.length = rows.length * size := by
  intro rows
  induction rows with
  | nil => intro _; simp
  | cons r0 rows ih =>
    intro h
    rw [List.flatten_cons, List.length_append, ih (fun r hr => h r (by simp [hr])), h r0 (by simp), List.length_cons, Nat.add_mul]
    omega

theorem addr_add_add (a : Addr) (i j : Nat) : (a.add i).add j = a.add (i + j) := Go.Deep.add_add a i j

/-- a slice, opened: its elements' cells as rows -/
theorem open_rows {H : Type} {enc : TypeId × Value → H} {P : Program} {w : World} {base : Nat} {spare : Nat → Bool} {held : Bool} {t e : TypeId} {fuel : Nat} {cs : List Value} {x : DataW H × List MemPlace} {size : Nat}
    (ht : P.underlying t = some (.slice e)) (hce : P.cellsOf e = size) (hs : 0 < size) (h : DataW.trod enc P w base spare held fuel t cs = some x) :
    ∃ (v : Value) (rows : List (List Value)), cs = [v] ∧ Rd w size v rows.length rows.flatten ∧ (∀ r ∈ rows, r.length = size ∧ ∃ n y, DataW.trod enc P w base spare held n e r = some y) := by
  rcases Go.Deep.open_slice ht h with ⟨rfl, _⟩ | ⟨a, len, cap, m, n, D, Pl, rfl, hb, hl, hm, hmm, _, hx⟩
  · exact ⟨_, [], rfl, ⟨by simp, none, 0, rfl, Nat.le_refl _, by simp [maxLen], fun _ => rfl, fun h => absurd h (Nat.lt_irrefl _)⟩, by simp⟩
  · have hlm : len ≤ m := by rw [hmm]; split <;> omega
    rw [hce] at hx
    have hex : ∀ i, i < len → ∃ r : List Value, (r.length = size ∧ ∃ y, DataW.trod enc P w base spare held n e r = some y) ∧ ∀ j u, r[j]? = some u → w.cell? (a.add (i * size + j)) = some u := fun i hi => by
      obtain ⟨r, hr, hd⟩ := hx i (by omega)
      obtain ⟨h1, h2⟩ := cells_some hr
      exact ⟨r, ⟨h1, _, hd⟩, fun j u hj => by rw [← addr_add_add]; exact h2 j u hj⟩
    obtain ⟨f, hf⟩ := Go.Deep.choose_lt hex
    have hrl : ((List.range len).map f).length = len := by simp
    have hall : ∀ r ∈ (List.range len).map f, r.length = size := fun r hr => by
      simp at hr
      obtain ⟨i, hi, rfl⟩ := hr
      exact (hf i hi).1.1
    refine ⟨_, (List.range len).map f, rfl, ⟨?_, some a, cap, by rw [hrl], by rw [hrl]; exact hl, hm, by simp, fun h0 => ?_⟩, fun r hr => ?_⟩
    · rw [flatten_len size _ hall]
    · rw [hrl] at h0
      obtain ⟨b, off, spot⟩ := a
      have hne : (f 0)[0]? = some ((f 0)[0]'(by rw [(hf 0 h0).1.1]; exact hs)) := by simp
      have hspot : spot = none := by
        have := (hf 0 h0).2 0 _ hne
        simpa [Addr.add] using World.cell?_spot this
      subst hspot
      refine ⟨b, off, rfl, fun j u hj => ?_⟩
      have hjl := (List.getElem?_eq_some_iff.1 hj).1
      rw [flatten_len size _ hall, hrl] at hjl
      have hi : j / size < len := Nat.div_lt_of_lt_mul (by rw [Nat.mul_comm]; exact hjl)
      have hm' : j % size < size := Nat.mod_lt _ hs
      have e : j / size * size + j % size = j := Nat.div_add_mod' j size
      have hg : ((List.range len).map f)[j / size]? = some (f (j / size)) := by simp [hi]
      have := flatten_get size _ hall (j / size) (j % size) _ hg hm'
      rw [e, hj] at this
      have h2 := (hf (j / size) hi).2 (j % size) u this.symm
      rwa [e, Addr.add_lit] at h2
    · simp at hr
      obtain ⟨i, hi, rfl⟩ := hr
      exact ⟨(hf i hi).1.1, n, (hf i hi).1.2⟩
end Go.XL
