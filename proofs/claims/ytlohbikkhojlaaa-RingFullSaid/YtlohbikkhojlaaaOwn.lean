/- Slices made since a world (Ow): append onto them, an element of them written. -/
import Derived.Test.YtlohbikkhojlaaaSl
namespace Go.XL
open Go.RowKit Go.Shelf
set_option linter.unusedVariables false
set_option linter.unusedSimpArgs false

/-- v is a slice of n elements made since w0, and w0 lies as it lay -/
structure Ow (w0 w : World) (E : TypeId) (size : Nat) (v : Value) (n : Nat) (cs : List Value) : Prop where
  sl : Sl w E size v n cs
  fr : Fr no w0 w
  fresh : ∀ g, v.ownBlock = some g → w0.heap.size ≤ g

/-- a slice's length -/
def vlen : Value → Nat | .slice _ n _ => n | _ => 0

theorem Ow.nil {w0 w : World} (h : Fr no w0 w) (E : TypeId) (size : Nat) : Ow w0 w E size (.slice none 0 0) 0 [] := ⟨Sl.nil _ _ _, h, by simp [Value.ownBlock]⟩
theorem Ow.rd {w0 w : World} {E : TypeId} {size : Nat} {v : Value} {n : Nat} {cs : List Value} (h : Ow w0 w E size v n cs) : Rd w size v n cs := h.sl.rd
theorem Ow.base {w0 w1 w : World} {E : TypeId} {size : Nat} {v : Value} {n : Nat} {cs : List Value} (h : Ow w1 w E size v n cs) (h0 : Fr no w0 w1) : Ow w0 w E size v n cs :=
  ⟨h.sl, h0.trans' h.fr, fun g hg => Nat.le_trans h0.size (h.fresh g hg)⟩
theorem Ow.step {w0 w w' : World} {E : TypeId} {size : Nat} {v : Value} {n : Nat} {cs : List Value} (h : Ow w0 w E size v n cs) (hf : Fr no w w') : Ow w0 w' E size v n cs :=
  ⟨h.sl.fr hf (fun _ _ f => f), h.fr.trans' hf, h.fresh⟩
theorem Ow.step' {F : Nat → Prop} {w0 w w' : World} {E : TypeId} {size : Nat} {v : Value} {n : Nat} {cs : List Value} (h : Ow w0 w E size v n cs) (hf : Fr F w w') (hF : ∀ g, F g → w0.heap.size ≤ g ∧ v.ownBlock ≠ some g) : Ow w0 w' E size v n cs :=
  ⟨h.sl.fr hf (fun g hg e => (hF g e).2 hg), h.fr.trans hf (fun i hi e => by have := (hF i e).1; omega), h.fresh⟩
/-- append -/
theorem Ow.app {w0 w w' : World} {E : TypeId} {size : Nat} {v v' : Value} {n n' : Nat} {cs cs' : List Value} (h : Ow w0 w E size v n cs) (hs : Sl w' E size v' n' cs') (hf : Fr (fun k => v.ownBlock = some k) w w')
    (ho : v'.ownBlock = v.ownBlock ∨ ∀ g, v'.ownBlock = some g → w.heap.size ≤ g) : Ow w0 w' E size v' n' cs' := by
  refine ⟨hs, h.fr.trans hf (fun i hi e => by have := h.fresh i e; omega), fun g hg => ?_⟩
  rcases ho with e | e
  · exact h.fresh g (by rw [← e]; exact hg)
  · have := e g hg; have := h.fr.size; omega
theorem Ow.cap {w0 w : World} {E : TypeId} {size : Nat} {v : Value} {n : Nat} {cs : List Value} (h : Ow w0 w E size v n cs) : ∃ ao cap, v = .slice ao n cap ∧ n ≤ cap ∧ cap ≤ 9223372036854775807 := h.sl.cap
/-- an element written -/
theorem Ow.set {w0 w : World} {E : TypeId} {g off n cap : Nat} {cs : List Value} (h : Ow w0 w E 1 (.slice (some ⟨g, off, none⟩) n cap) n cs) (k : Nat) (hk : k < n) (x : Value) :
    Ow w0 (w.setCell ⟨g, off + k, none⟩ x) E 1 (.slice (some ⟨g, off, none⟩) n cap) n (cs.set k x) := by
  obtain ⟨hsl, hfr, hfs⟩ := h
  have hg0 := hfs g rfl
  obtain ⟨hl, ao, cap', he, hn, hm, hz, hc⟩ := hsl
  cases he
  obtain ⟨g', off', ds, he, hg, hs, hx⟩ := hc (by omega)
  cases he
  refine ⟨⟨by simpa using hl, _, cap, rfl, hn, hm, ⟨hz.1, fun a ha => by have := hz.2 a ha; simpa [World.setCell] using this⟩, fun _ => ⟨g, off, _, rfl, heap_setC x hg, by simpa using hs, fun j u hj => ?_⟩⟩, ?_, hfs⟩
  · rw [List.getElem?_set] at hj
    split at hj
    · rename_i e; subst e
      split at hj
      · cases hj; rw [Array.getElem?_setIfInBounds_self]; simp; omega
      · cases hj
    · rw [Array.getElem?_setIfInBounds_ne (by omega)]; exact hx j u hj
  · exact hfr.trans ((Fr.refl (fun i => i = g) w).setCell (p := ⟨g, off + k, none⟩) (fun _ => rfl) x) (fun i hi e => by omega)
/-- the cells of an owned slice, to be written -/
theorem Ow.form {w0 w : World} {E : TypeId} {size : Nat} {v : Value} {n : Nat} {cs : List Value} (h : Ow w0 w E size v n cs) (h0 : 0 < n) :
    ∃ g off cap, v = .slice (some ⟨g, off, none⟩) n cap ∧ n ≤ cap ∧ cap ≤ 9223372036854775807 ∧ w0.heap.size ≤ g ∧ (∀ j u, cs[j]? = some u → w.cell? ⟨g, off + j, none⟩ = some u) ∧ ∀ j, w.frozen? ⟨g, j, none⟩ = false := by
  obtain ⟨g, off, cap, ds, rfl, h1, h2, h3, h4, h5⟩ := h.sl.form h0
  exact ⟨g, off, cap, rfl, h1, h2, h.fresh g rfl, fun j u hj => cell_of_block h3 (h5 j u hj), fun j => frozen_of_block h3⟩
/-- to be read, and apart from the blocks X -/
def RdX (X : Nat → Prop) (w : World) (size : Nat) (v : Value) (n : Nat) (xs : List Value) : Prop := Rd w size v n xs ∧ (0 < n → ∀ g, v.ownBlock = some g → ¬ X g)
theorem RdX.rd {X : Nat → Prop} {w : World} {size : Nat} {v : Value} {n : Nat} {xs : List Value} (h : RdX X w size v n xs) : Rd w size v n xs := h.1
theorem RdX.fr {X F : Nat → Prop} {w w' : World} {size : Nat} {v : Value} {n : Nat} {xs : List Value} (h : RdX X w size v n xs) (hf : Fr F w w') (hF : ∀ g, g < w.heap.size → F g → X g) : RdX X w' size v n xs := by
  refine ⟨?_, h.2⟩
  obtain ⟨⟨hl, ao, cap, rfl, hn, hm, hz, hc⟩, hX⟩ := h
  refine ⟨hl, ao, cap, rfl, hn, hm, hz, fun h0 => ?_⟩
  obtain ⟨g, off, rfl, hx⟩ := hc h0
  exact ⟨g, off, rfl, fun j u hj => hf.cell (hx j u hj) (fun e => hX h0 g rfl (hF g (World.block_lt_of_cell? w _ (hx j u hj)) e))⟩
theorem RdX.bk {X : Nat → Prop} {B : Nat} {w w' : World} {size : Nat} {v : Value} {n : Nat} {xs : List Value} (h : RdX X w size v n xs) (hf : Bk B w w') : RdX X w' size v n xs := ⟨h.1.bk hf, h.2⟩
theorem Rd.x {X : Nat → Prop} {w : World} {size : Nat} {v : Value} {n : Nat} {xs : List Value} (h : Rd w size v n xs) (hs : 0 < size) (hX : ∀ g, X g → w.heap.size ≤ g) : RdX X w size v n xs := by
  refine ⟨h, fun h0 g hg e => ?_⟩
  have hl := h.1
  obtain ⟨g', off, cap, rfl, _, _, hc⟩ := h.form h0
  simp [Value.ownBlock] at hg
  subst hg
  have h1 : 0 < xs.length := by rw [hl]; exact Nat.mul_pos h0 hs
  have := World.block_lt_of_cell? w _ (hc 0 xs[0] (by simp [h1]))
  have := hX _ e
  simp at *
  omega
theorem Ow.rdx {X : Nat → Prop} {w0 w : World} {E : TypeId} {size : Nat} {v : Value} {n : Nat} {cs : List Value} (h : Ow w0 w E size v n cs) (hX : ∀ g, X g → g < w0.heap.size) : RdX X w size v n cs :=
  ⟨h.rd, fun _ g hg e => by have := h.fresh g hg; have := hX g e; omega⟩
/-- what a slice has is one thing -/
theorem Rd.cells_eq {w : World} {size : Nat} {v : Value} {n : Nat} {xs ys : List Value} (h : Rd w size v n xs) (h' : Rd w size v n ys) : xs = ys := by
  have hl := h.1
  have hl' := h'.1
  by_cases h0 : 0 < n
  · obtain ⟨g, off, cap, rfl, _, _, hc⟩ := h.form h0
    obtain ⟨g', off', cap', he, _, _, hc'⟩ := h'.form h0
    cases he
    apply List.ext_getElem (by omega)
    intro i h1 h2
    have e1 := hc i xs[i] (by simp [h1])
    have e2 := hc' i ys[i] (by simp [h2])
    rw [e1] at e2
    exact Option.some.inj e2
  · obtain rfl : n = 0 := by omega
    rw [List.eq_nil_of_length_eq_zero (by omega : xs.length = 0), List.eq_nil_of_length_eq_zero (by omega : ys.length = 0)]
/-- a literal -/
theorem rd_lit (w : World) (E : TypeId) (cs : List Value) (h : cs.length ≤ 1000000) : Rd (w.alloc (.cells cs.toArray E)) 1 (.slice (some ⟨w.heap.size, 0, none⟩) cs.length cs.length) cs.length cs := by
  refine ⟨by simp, _, cs.length, rfl, Nat.le_refl _, by unfold maxLen; omega, by simp, fun h0 => ⟨w.heap.size, 0, rfl, fun j u hj => ?_⟩⟩
  exact cell_of_block (World.alloc_heap_new w (.cells cs.toArray E)) (by simpa using hj)
/-- an empty literal -/
theorem ow_empty (w : World) (E : TypeId) (size : Nat) : Ow w (w.alloc (.cells #[] E)) E size (.slice (some ⟨w.heap.size, 0, none⟩) 0 0) 0 [] :=
  ⟨⟨by simp, _, 0, rfl, Nat.le_refl _, by simp [maxLen], ⟨by simp, fun a h => by cases h; simp⟩, fun h => absurd h (Nat.lt_irrefl _)⟩, (Fr.refl _ w).alloc _, fun g hg => by simp [Value.ownBlock] at hg; omega⟩
/-- append one number onto a made slice -/
theorem Ow.app1 {w0 w w' : World} {v v' : Value} {xs : List Int} {x : Int} {E : TypeId} (h : Ow w0 w E 1 v xs.length (xs.map (Value.int .i64))) (hs : Sl w' E 1 v' (xs.length + 1) (xs.map (Value.int .i64) ++ [.int .i64 x])) (hf : Fr (fun k => v.ownBlock = some k) w w')
    (ho : v'.ownBlock = v.ownBlock ∨ ∀ g, v'.ownBlock = some g → w.heap.size ≤ g) : Ow w0 w' E 1 v' (xs ++ [x]).length ((xs ++ [x]).map (Value.int .i64)) := by
  have := h.app (n' := xs.length + 1) (cs' := (xs ++ [x]).map (Value.int .i64)) (by simpa using hs) hf ho
  simpa using this

end Go.XL
