/- One element cut out: append(append([]T{}, m[:p]...), m[p+1:]...). -/
import Derived.Test.YtbjipgignnaomaaDel
namespace Go.XL
open Go.RowKit Go.Shelf
set_option linter.unusedVariables false
set_option linter.unusedSimpArgs false

theorem Sl.cutTo {w : World} {E : TypeId} {size : Nat} {ao : Option Addr} {n cap : Nat} {xs : List Value} (h : Sl w E size (.slice ao n cap) n xs) {k : Nat} (hk : k ≤ n) : Sl w E size (.slice ao k cap) k (xs.take (k * size)) := by
  obtain ⟨hl, ao', cap', he, hn, hm, hz, hc⟩ := h
  cases he
  refine ⟨by rw [List.length_take, hl]; exact Nat.min_eq_left (Nat.mul_le_mul_right _ hk), _, cap, rfl, by omega, hm, hz, fun h0 => ?_⟩
  obtain ⟨g, off, cs, rfl, hg, hs, hx⟩ := hc h0
  refine ⟨g, off, cs, rfl, hg, hs, fun j u hj => ?_⟩
  rw [List.getElem?_take] at hj
  split at hj
  · exact hx j u hj
  · cases hj

/-- the two appends, one after the other -/
theorem run_cutOut {P : Program} (w : World) (t e : TypeId) (i0 : TypeInfo) (z : Value) (bytes : Nat) (ht : P.underlying t = some (.slice e)) (hi : P.info? e = some i0) (hz0 : i0.zero = some z) (hz1 : i0.size = 1) (hz2 : i0.bytes = bytes) (hzs : z.cells.size = 1)
    (ao : Option Addr) (n cap p : Nat) (xs : List Value) (hv : Sl w e 1 (.slice ao n cap) n xs) (hx1 : ∀ u ∈ xs, u.oneCell' = true) (hp : p < n) (hn : n * bytes ≤ 140737488355328) (ao2 : Option Addr) (h2 : cutFrom 1 (.slice ao n cap) (p + 1) = .slice ao2 (n - (p + 1)) (cap - (p + 1))) (ty1 ty2 : TypeId) :
    ∃ b1 c1 b2 c2 w2 w3, (Builtin.append_ #[t, t] ty1 #[.slice (some ⟨w.heap.size, 0, none⟩) 0 0, .slice ao p cap]).run P (w.alloc (.cells #[] e)) = .ok (.slice b1 p c1) w2 ∧
      (Builtin.append_ #[t, t] ty2 #[.slice b1 p c1, .slice ao2 (n - (p + 1)) (cap - (p + 1))]).run P w2 = .ok (.slice b2 (n - 1) c2) w3 ∧ Ow w w3 e 1 (.slice b2 (n - 1) c2) (n - 1) (xs.eraseIdx p) := by
  have hl : xs.length = n := by simpa using hv.1
  have hf : Fr no w (w.alloc (.cells #[] e)) := (Fr.refl _ w).alloc _
  have hE := ow_empty w e 1
  have hv1 := (hv.cutTo (k := p) (by omega)).fr hf (fun _ _ f => f)
  obtain ⟨v1, w2, r1, s1, f1, o1, _⟩ := run_append_all (P := P) (w.alloc (.cells #[] e)) t ty1 e i0 z 1 bytes ht hi hz0 hz1 hz2 hzs (by decide) _ 0 [] hE.sl _ p _ hv1.rd (fun u hu => hx1 u (List.mem_of_mem_take hu)) (by have := hv.cap; obtain ⟨_, _, e, h1, h2⟩ := this; cases e; unfold maxLen; omega) (by
    have := Nat.mul_le_mul_right bytes (show 0 + p ≤ n by omega); omega)
  have hO := hE.app s1 f1 o1
  obtain ⟨b1, c1, rfl, _, _⟩ := hO.cap
  have hv2 := hv.cutFrom (k := p + 1) (by omega)
  rw [h2] at hv2
  have hv2 := hv2.fr hO.fr (fun _ _ f => f)
  obtain ⟨v2, w3, r2, s2, f2, o2, _⟩ := run_append_all (P := P) w2 t ty2 e i0 z 1 bytes ht hi hz0 hz1 hz2 hzs (by decide) _ (0 + p) _ hO.sl _ (n - (p + 1)) _ hv2.rd (fun u hu => hx1 u (List.mem_of_mem_drop hu)) (by have := hv.cap; obtain ⟨_, _, e, h1, h2⟩ := this; cases e; unfold maxLen; omega) (by
    have := Nat.mul_le_mul_right bytes (show 0 + p + (n - (p + 1)) ≤ n by omega); omega)
  have hO2 := hO.app s2 f2 o2
  obtain ⟨b2, c2, rfl, _, _⟩ := hO2.cap
  have e1 : 0 + p = p := by omega
  have e2 : 0 + p + (n - (p + 1)) = n - 1 := by omega
  rw [e2] at r2 hO2
  rw [e1] at r1 r2
  refine ⟨b1, c1, b2, c2, w2, w3, r1, r2, ?_⟩
  have e3 : [] ++ xs.take (p * 1) ++ xs.drop ((p + 1) * 1) = xs.eraseIdx p := by rw [List.eraseIdx_eq_take_drop_succ]; simp
  rw [e3] at hO2
  exact hO2
end Go.XL
