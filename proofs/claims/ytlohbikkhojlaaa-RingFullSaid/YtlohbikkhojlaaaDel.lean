/- A front and a rest of one slice put together in place, what is left cleared: what slices.Delete does. -/
import Derived.Test.YtlohbikkhojlaaaOwn
namespace Go.XL
open Go.RowKit Go.Shelf
set_option linter.unusedVariables false
set_option linter.unusedSimpArgs false

/-- s[lo:hi] -/
theorem run_cut {P : Program} (t e : TypeId) (i : TypeInfo) (size : Nat) (ht : P.underlying t = some (.slice e)) (hi : P.info? e = some i) (hsz : i.size = size) (a : Addr) (n cap lo hi' : Nat) (h1 : lo ≤ hi') (h2 : hi' ≤ cap) :
    (∀ w, (Instr.slice t (.slice (some a) n cap) (some (.int .i64 lo)) (some (.int .i64 hi')) none).run P w = .ok (.slice (if cap = lo then some a else some (a.add (lo * size))) (hi' - lo) (cap - lo)) w) := by
  subst hsz
  intro w
  simp [Instr.slice, run_underlying ht, Instr.sliceBounds, Instr.sliceBound, asIntOf, h1, h2, sizeOf, typeInfo, hi]
/-- s[:hi] -/
theorem run_cutTo {P : Program} (t e : TypeId) (i : TypeInfo) (size : Nat) (ht : P.underlying t = some (.slice e)) (hi : P.info? e = some i) (hsz : i.size = size) (a : Addr) (n cap hi' : Nat) (h2 : hi' ≤ cap) :
    (∀ w, (Instr.slice t (.slice (some a) n cap) none (some (.int .i64 hi')) none).run P w = .ok (.slice (some a) hi' cap) w) := by
  subst hsz
  intro w
  simp [Instr.slice, run_underlying ht, Instr.sliceBounds, Instr.sliceBound, asIntOf, h2, sizeOf, typeInfo, hi]
  by_cases hc : cap = 0
  · simp [hc]
  · have : a.add 0 = a := by simp [Addr.add]
    simp [this]

/-- append(s[:i], s[j:]...) -/
theorem run_del {P : Program} (w : World) (t e : TypeId) (i0 : TypeInfo) (size : Nat) (ht : P.underlying t = some (.slice e)) (hi : P.info? e = some i0) (hsz : i0.size = size) (hs : 0 < size)
    (g off n cap i j : Nat) (xs : List Value) (hv : Sl w e size (.slice (some ⟨g, off, none⟩) n cap) n xs) (hx1 : ∀ u ∈ xs, u.oneCell' = true) (hij : i ≤ j) (hjn : j ≤ n) (hn0 : 0 < n) (ao : Option Addr) (hao : ao = if cap = j then some ⟨g, off, none⟩ else some ((⟨g, off, none⟩ : Addr).add (j * size))) :
    ∃ w', (∀ ty, (Builtin.append_ #[t, t] ty #[.slice (some ⟨g, off, none⟩) i cap, .slice ao (n - j) (cap - j)]).run P w = .ok (.slice (some ⟨g, off, none⟩) (i + (n - j)) cap) w') ∧
      Sl w' e size (.slice (some ⟨g, off, none⟩) (i + (n - j)) cap) (i + (n - j)) (xs.take (i * size) ++ xs.drop (j * size)) ∧ Fr (fun k => k = g) w w' := by
  subst hsz
  obtain ⟨g', off', cap', cs, he, hcap, hm, hg, hsz, hx⟩ := hv.form hn0
  cases he
  have hl := hv.1
  have hjl : j * i0.size ≤ n * i0.size := Nat.mul_le_mul_right _ hjn
  have hil : i * i0.size ≤ j * i0.size := Nat.mul_le_mul_right _ hij
  have hcl : n * i0.size ≤ cap * i0.size := Nat.mul_le_mul_right _ hcap
  have hfl := (Array.getElem?_eq_some_iff.1 hg).1
  have fin : ∀ (w' : World) (cs' : Array Value), w'.heap[g]? = some (.cells cs' e (0, 0)) → cs'.size = cs.size → (∀ k u, (xs.take (i * i0.size) ++ xs.drop (j * i0.size))[k]? = some u → cs'[off + k]? = some u) →
      Sl w' e i0.size (.slice (some ⟨g, off, none⟩) (i + (n - j)) cap) (i + (n - j)) (xs.take (i * i0.size) ++ xs.drop (j * i0.size)) := fun w' cs' h1 h2 h3 => by
    refine ⟨?_, _, cap, rfl, by omega, by unfold maxLen; omega, ⟨by simp, fun a ha => by cases ha; exact (Array.getElem?_eq_some_iff.1 h1).1⟩, fun _ => ⟨g, off, cs', rfl, h1, by omega, h3⟩⟩
    rw [List.length_append, List.length_take, List.length_drop, hl, Nat.add_mul, Nat.sub_mul]
    omega
  by_cases hz : n - j = 0
  · obtain rfl : j = n := by omega
    rw [hz]
    refine ⟨w, fun ty => run_append_zero w t ty e i0 ht hi _ _ _ (by omega) _ _, ?_, Fr.refl _ _⟩
    have := fin w cs hg rfl (fun k u hk => ?_)
    · rw [hz] at this; exact this
    · rw [List.drop_eq_nil_of_le (by omega), List.append_nil, List.getElem?_take] at hk
      split at hk
      · exact hx k u hk
      · cases hk
  · have hcj : ¬ cap = j := by omega
    rw [if_neg hcj, Addr.add_lit] at hao
    subst hao
    have hnl : (xs.drop (j * i0.size)).length = (n - j) * i0.size := by rw [List.length_drop, hl, Nat.sub_mul]
    have hb1 : off + i * i0.size + (n - j) * i0.size ≤ cs.size := by
      have e1 : (n - j) * i0.size = n * i0.size - j * i0.size := Nat.sub_mul _ _ _
      omega
    have hrun := fun ty => run_append_room_cells (P := P) (w := w) t ty e i0 ht hi g off i cap ⟨g, off + j * i0.size, none⟩ (n - j) (cap - j) (xs.drop (j * i0.size)) hnl
      (fun k u hk => by rw [Addr.add_lit, Nat.add_assoc]; rw [List.getElem?_drop] at hk; exact cell_of_block hg (hx _ u hk)) (fun u hu => hx1 u (List.mem_of_mem_drop hu)) (by omega)
      (fun k hk => by rw [World.cell?]; simp only [hg]; simp [show off + i * i0.size + k < cs.size by omega]) (fun k hk => frozen_of_block hg)
    obtain ⟨cs', h1', h2', h3', h4', h5'⟩ := setCells_heap w g (off + i * i0.size) cs e (0, 0) (xs.drop (j * i0.size)) hg (by omega)
    refine ⟨_, hrun, fin _ cs' h1' h2' (fun k u hk => ?_), setCells_fr w g _ _⟩
    have htl : (xs.take (i * i0.size)).length = i * i0.size := by rw [List.length_take, hl]; omega
    by_cases hki : k < i * i0.size
    · rw [List.getElem?_append_left (by omega), List.getElem?_take, if_pos hki] at hk
      rw [h3' _ (by omega)]
      exact hx k u hk
    · rw [List.getElem?_append_right (by omega), htl] at hk
      have := h4' _ u hk
      rw [show off + i * i0.size + (k - i * i0.size) = off + k by omega] at this
      exact this

theorem zeroCells_spec (z : Array Value) (m : Nat) (hs : 0 < z.size) (h1 : ∀ u ∈ z.toList, u.oneCell' = true) : (Builtin.zeroCells z m).toList.length = m * z.size ∧ ∀ u ∈ (Builtin.zeroCells z m).toList, u.oneCell' = true := by
  refine ⟨by simp [Builtin.zeroCells], fun u hu => ?_⟩
  simp only [Builtin.zeroCells, Array.toList_map, List.mem_map] at hu
  obtain ⟨i, _, rfl⟩ := hu
  have hlt : i % z.size < z.size := Nat.mod_lt _ hs
  rw [getElem!_pos z _ hlt]
  exact h1 _ (by simp)

/-- clear, behind what is kept -/
theorem run_clear {P : Program} (w : World) (t e : TypeId) (z : Value) (size : Nat) (ht : P.underlying t = some (.slice e)) (hz : ∀ w, (zeroValue e).run P w = .ok z w) (hzs : z.cells.size = size) (hs : 0 < size) (h1 : ∀ u ∈ z.cells.toList, u.oneCell' = true)
    (g off n cap m c : Nat) (xs : List Value) (hv : Sl w e size (.slice (some ⟨g, off, none⟩) n cap) n xs) (hnm : n + m ≤ cap) (hm0 : 0 < m) :
    ∃ w', (∀ ty, (Builtin.clear_ #[t] ty #[.slice (some ⟨g, off + n * size, none⟩) m c]).run P w = .ok (.tuple #[]) w') ∧ Sl w' e size (.slice (some ⟨g, off, none⟩) n cap) n xs ∧ Fr (fun k => k = g) w w' := by
  subst hzs
  obtain ⟨hl, ao, cap', he, hcap, hm, hz0, hc⟩ := hv
  obtain ⟨g', off', cs, he2, hg, hsz, hx⟩ := hc (by cases he; omega)
  subst he2
  cases he
  obtain ⟨q1, q2⟩ := zeroCells_spec z.cells m hs h1
  have hb : off + n * z.cells.size + m * z.cells.size ≤ cs.size := by
    have := Nat.mul_le_mul_right z.cells.size hnm
    rw [Nat.add_mul] at this
    omega
  have hst := run_storeCells_cells (P := P) g (off + n * z.cells.size) (Builtin.zeroCells z.cells m).toList 0 w
    (fun k hk => by rw [q1] at hk; rw [World.cell?]; simp only [hg, Nat.add_zero]; simp [show off + n * z.cells.size + k < cs.size by omega]) (fun k hk => frozen_of_block hg) q2
  simp only [Nat.add_zero] at hst
  obtain ⟨cs', h1', h2', h3', h4', h5'⟩ := setCells_heap w g (off + n * z.cells.size) cs e (0, 0) (Builtin.zeroCells z.cells m).toList hg (by rw [q1]; omega)
  refine ⟨w.setCells g (off + n * z.cells.size) (Builtin.zeroCells z.cells m).toList, ?_, ⟨hl, _, cap, rfl, hcap, hm, ⟨hz0.1, fun a ha => by cases ha; exact (Array.getElem?_eq_some_iff.1 h1').1⟩, fun _ => ⟨g, off, cs', rfl, h1', by omega, fun k u hk => ?_⟩⟩, setCells_fr w g _ _⟩
  · intro ty
    obtain ⟨m, rfl⟩ : ∃ k, m = k + 1 := ⟨m - 1, by omega⟩
    simp [Builtin.clear_, run_underlying ht, hz, hst]
  · have hki := (List.getElem?_eq_some_iff.1 hk).1
    rw [h3' _ (by omega)]
    exact hx k u hk
end Go.XL
