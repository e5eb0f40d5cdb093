/- Slices that are owned (Sl) or only read (Rd), by their cells; what append does to an owned one, whether it grows or not. -/
import Derived.Test.YtlohbikkhojlaaaLib
namespace Go.XL
open Go.RowKit Go.Shelf
set_option linter.unusedVariables false
set_option linter.unusedSimpArgs false

/-- v is a slice of n elements of type E (size cells each), whose cells are xs; what lies behind it up to its capacity may be written. -/
def Sl (w : World) (E : TypeId) (size : Nat) (v : Value) (n : Nat) (xs : List Value) : Prop :=
  xs.length = n * size ∧ ∃ (ao : Option Addr) (cap : Nat), v = .slice ao n cap ∧ n ≤ cap ∧ cap ≤ maxLen ∧ ((ao = none → cap = 0) ∧ ∀ a, ao = some a → a.block < w.heap.size) ∧
    (0 < cap → ∃ (g off : Nat) (cs : Array Value), ao = some ⟨g, off, none⟩ ∧ w.heap[g]? = some (.cells cs E (0, 0)) ∧ off + cap * size ≤ cs.size ∧ ∀ j u, xs[j]? = some u → cs[off + j]? = some u)

/-- v is a slice of n elements whose cells are xs: to be read. -/
def Rd (w : World) (size : Nat) (v : Value) (n : Nat) (xs : List Value) : Prop :=
  xs.length = n * size ∧ ∃ (ao : Option Addr) (cap : Nat), v = .slice ao n cap ∧ n ≤ cap ∧ cap ≤ maxLen ∧ (ao = none → cap = 0) ∧
    (0 < n → ∃ (g off : Nat), ao = some ⟨g, off, none⟩ ∧ ∀ j u, xs[j]? = some u → w.cell? ⟨g, off + j, none⟩ = some u)

theorem Sl.nil (w : World) (E : TypeId) (size : Nat) : Sl w E size (.slice none 0 0) 0 [] :=
  ⟨by simp, none, 0, rfl, Nat.le_refl _, by simp [maxLen], ⟨fun _ => rfl, fun a h => by cases h⟩, fun h => absurd h (Nat.lt_irrefl _)⟩

theorem Sl.rd {w : World} {E : TypeId} {size : Nat} {v : Value} {n : Nat} {xs : List Value} (h : Sl w E size v n xs) : Rd w size v n xs := by
  obtain ⟨hl, ao, cap, rfl, hn, hm, hz, hc⟩ := h
  refine ⟨hl, ao, cap, rfl, hn, hm, hz.1, fun h0 => ?_⟩
  obtain ⟨g, off, cs, rfl, hg, hs, hx⟩ := hc (by omega)
  exact ⟨g, off, rfl, fun j u hj => by rw [World.cell?]; simp only [hg]; exact hx j u hj⟩

theorem Sl.keep {w w' : World} {E : TypeId} {size : Nat} {v : Value} {n : Nat} {xs : List Value} (h : Sl w E size v n xs)
    (hw : ∀ g o, v.ownBlock = some g → w.heap[g]? = some o → isBook o = false → w'.heap[g]? = some o) (hsz : w.heap.size ≤ w'.heap.size) : Sl w' E size v n xs := by
  obtain ⟨hl, ao, cap, rfl, hn, hm, hz, hc⟩ := h
  refine ⟨hl, ao, cap, rfl, hn, hm, ⟨hz.1, fun a ha => Nat.lt_of_lt_of_le (hz.2 a ha) hsz⟩, fun h0 => ?_⟩
  obtain ⟨g, off, cs, rfl, hg, hs, hx⟩ := hc h0
  exact ⟨g, off, cs, rfl, hw g _ rfl hg rfl, hs, hx⟩

theorem Sl.fr {F : Nat → Prop} {w w' : World} {E : TypeId} {size : Nat} {v : Value} {n : Nat} {xs : List Value} (h : Sl w E size v n xs) (hf : Fr F w w')
    (hF : ∀ g, v.ownBlock = some g → ¬ F g) : Sl w' E size v n xs := h.keep (fun g o hg ho _ => hf.heap ho (hF g hg)) hf.size

theorem Sl.bk {B : Nat} {w w' : World} {E : TypeId} {size : Nat} {v : Value} {n : Nat} {xs : List Value} (h : Sl w E size v n xs) (hf : Bk B w w') : Sl w' E size v n xs :=
  h.keep (fun _ _ _ ho hb => hf.heap ho hb) hf.size

theorem Sl.lt {w : World} {E : TypeId} {size : Nat} {v : Value} {n : Nat} {xs : List Value} (h : Sl w E size v n xs) : ∀ g, v.ownBlock = some g → g < w.heap.size := by
  obtain ⟨hl, ao, cap, rfl, hn, hm, hz, hc⟩ := h
  intro g hg
  cases ao with
  | none => simp [Value.ownBlock] at hg
  | some a => simp [Value.ownBlock] at hg; subst hg; exact hz.2 a rfl

theorem Rd.fr {F : Nat → Prop} {w w' : World} {size : Nat} {v : Value} {n : Nat} {xs : List Value} (h : Rd w size v n xs) (hf : Fr F w w')
    (hF : ∀ g, v.ownBlock = some g → g < w.heap.size → ¬ F g) : Rd w' size v n xs := by
  obtain ⟨hl, ao, cap, rfl, hn, hm, hz, hc⟩ := h
  refine ⟨hl, ao, cap, rfl, hn, hm, hz, fun h0 => ?_⟩
  obtain ⟨g, off, rfl, hx⟩ := hc h0
  exact ⟨g, off, rfl, fun j u hj => hf.cell (hx j u hj) (hF g rfl (World.block_lt_of_cell? w _ (hx j u hj)))⟩

theorem Rd.bk {B : Nat} {w w' : World} {size : Nat} {v : Value} {n : Nat} {xs : List Value} (h : Rd w size v n xs) (hf : Bk B w w') : Rd w' size v n xs := by
  obtain ⟨hl, ao, cap, rfl, hn, hm, hz, hc⟩ := h
  refine ⟨hl, ao, cap, rfl, hn, hm, hz, fun h0 => ?_⟩
  obtain ⟨g, off, rfl, hx⟩ := hc h0
  exact ⟨g, off, rfl, fun j u hj => hf.cell (hx j u hj)⟩

theorem Sl.cap {w : World} {E : TypeId} {size : Nat} {v : Value} {n : Nat} {xs : List Value} (h : Sl w E size v n xs) : ∃ ao cap, v = .slice ao n cap ∧ n ≤ cap ∧ cap ≤ 9223372036854775807 := by
  obtain ⟨_, ao, cap, rfl, hn, hm, _⟩ := h
  exact ⟨ao, cap, rfl, hn, by simpa [maxLen] using hm⟩
theorem Rd.cap {w : World} {size : Nat} {v : Value} {n : Nat} {xs : List Value} (h : Rd w size v n xs) : ∃ ao cap, v = .slice ao n cap ∧ n ≤ cap ∧ cap ≤ 9223372036854775807 := by
  obtain ⟨_, ao, cap, rfl, hn, hm, _⟩ := h
  exact ⟨ao, cap, rfl, hn, by simpa [maxLen] using hm⟩

/-- a slice with elements has a block of cells -/
theorem Rd.form {w : World} {size : Nat} {v : Value} {n : Nat} {xs : List Value} (h : Rd w size v n xs) (h0 : 0 < n) :
    ∃ g off cap, v = .slice (some ⟨g, off, none⟩) n cap ∧ n ≤ cap ∧ cap ≤ 9223372036854775807 ∧ ∀ j u, xs[j]? = some u → w.cell? ⟨g, off + j, none⟩ = some u := by
  obtain ⟨hl, ao, cap, rfl, hn, hm, hz, hc⟩ := h
  obtain ⟨g, off, rfl, hx⟩ := hc h0
  exact ⟨g, off, cap, rfl, hn, by simpa [maxLen] using hm, hx⟩
theorem Sl.form {w : World} {E : TypeId} {size : Nat} {v : Value} {n : Nat} {xs : List Value} (h : Sl w E size v n xs) (h0 : 0 < n) :
    ∃ g off cap cs, v = .slice (some ⟨g, off, none⟩) n cap ∧ n ≤ cap ∧ cap ≤ 9223372036854775807 ∧ w.heap[g]? = some (.cells cs E (0, 0)) ∧ off + cap * size ≤ cs.size ∧ (∀ j u, xs[j]? = some u → cs[off + j]? = some u) := by
  obtain ⟨hl, ao, cap, rfl, hn, hm, hz, hc⟩ := h
  obtain ⟨g, off, cs, rfl, hg, hs, hx⟩ := hc (by omega)
  exact ⟨g, off, cap, cs, rfl, hn, by simpa [maxLen] using hm, hg, hs, hx⟩

/-- the cell of an element -/
theorem cell_of_block {w : World} {g j : Nat} {cs : Array Value} {E : TypeId} {fz : Nat × Nat} (hg : w.heap[g]? = some (.cells cs E fz)) {u : Value} (h : cs[j]? = some u) : w.cell? ⟨g, j, none⟩ = some u := by
  rw [World.cell?]; simp only [hg]; exact h
theorem frozen_of_block {w : World} {g j : Nat} {cs : Array Value} {E : TypeId} (hg : w.heap[g]? = some (.cells cs E (0, 0))) : w.frozen? ⟨g, j, none⟩ = false := by
  rw [World.frozen?]; simp [hg]

theorem heap_setC {w : World} {g j : Nat} {cs : Array Value} {E : TypeId} {fz : Nat × Nat} (x : Value) (hg : w.heap[g]? = some (.cells cs E fz)) : (w.setCell ⟨g, j, none⟩ x).heap[g]? = some (.cells (cs.setIfInBounds j x) E fz) := by
  obtain ⟨hlt, hk'⟩ := Array.getElem?_eq_some_iff.1 hg
  show (w.heap.modify g _)[g]? = _
  rw [Array.getElem?_eq_getElem (by rw [Array.size_modify]; exact hlt), Array.getElem_modify_self, hk']
  simp

theorem Sl.of_ownsRow {w : World} {base : Nat} {E : TypeId} {size : Nat} {v : Value} {n : Nat} {xs : List Value} (h : w.ownsRow base E size v n xs) : Sl w E size v n xs := by
  obtain ⟨hl, h⟩ := h
  refine ⟨hl, ?_⟩
  rcases h with ⟨rfl, rfl⟩ | ⟨g, cap, cur, rfl, _, hg, hn, hm, hs, ht⟩
  · exact ⟨none, 0, rfl, Nat.le_refl _, by simp [maxLen], ⟨fun _ => rfl, fun a h => by cases h⟩, fun h => absurd h (Nat.lt_irrefl _)⟩
  · refine ⟨_, cap, rfl, hn, hm, ⟨by simp, fun a h => by cases h; exact (Array.getElem?_eq_some_iff.1 hg).1⟩, fun _ => ⟨g, 0, cur, rfl, hg, by omega, fun j u hj => ?_⟩⟩
    rw [← ht, List.getElem?_take] at hj
    split at hj
    · simpa using hj
    · cases hj

theorem ownsRow_fresh {w : World} {base : Nat} {E : TypeId} {size : Nat} {v : Value} {n : Nat} {xs : List Value} (h : w.ownsRow base E size v n xs) : ∀ g, v.ownBlock = some g → base ≤ g := fun g hg => (h.lt g hg).1

/-- a world's block of cells, its cells written from k on -/
theorem setCells_heap (w : World) (g k : Nat) (cs : Array Value) (E : TypeId) (fz : Nat × Nat) (news : List Value) (hg : w.heap[g]? = some (.cells cs E fz)) (hk : k + news.length ≤ cs.size) :
    ∃ cs' : Array Value, (w.setCells g k news).heap[g]? = some (.cells cs' E fz) ∧ cs'.size = cs.size ∧ (∀ j, j < k → cs'[j]? = cs[j]?) ∧ (∀ j u, news[j]? = some u → cs'[k + j]? = some u) ∧ (∀ j, k + news.length ≤ j → cs'[j]? = cs[j]?) := by
  induction news generalizing w k cs with
  | nil => exact ⟨cs, by simpa [World.setCells] using hg, rfl, fun _ _ => rfl, fun j u h => by simp at h, fun _ _ => rfl⟩
  | cons x rest ih =>
    have hs : (w.setCell ⟨g, k, none⟩ x).heap[g]? = some (.cells (cs.setIfInBounds k x) E fz) := heap_setC x hg
    obtain ⟨cs', h1, h2, h3, h4, h5⟩ := ih (w.setCell ⟨g, k, none⟩ x) (k + 1) (cs.setIfInBounds k x) hs (by simp at hk ⊢; omega)
    refine ⟨cs', h1, by simpa using h2, fun j hj => ?_, fun j u hj => ?_, fun j hj => ?_⟩
    · rw [h3 j (by omega), Array.getElem?_setIfInBounds_ne (by omega)]
    · cases j with
      | zero =>
        simp at hj; subst hj
        rw [Nat.add_zero, h3 k (by omega)]
        simp at hk
        simp [show k < cs.size by omega]
      | succ j => rw [show k + (j + 1) = k + 1 + j by omega]; exact h4 j u (by simpa using hj)
    · simp at hj
      rw [h5 j (by omega), Array.getElem?_setIfInBounds_ne (by omega)]

theorem setCells_fr (w : World) (g k : Nat) (news : List Value) : Fr (fun i => i = g) w (w.setCells g k news) := by
  induction news generalizing w k with
  | nil => exact Fr.refl _ _
  | cons x rest ih => exact ((Fr.refl (fun i => i = g) w).setCell (p := ⟨g, k, none⟩) (fun _ => rfl) x).trans' (ih (w.setCell ⟨g, k, none⟩ x) (k + 1))

/-- **append onto an owned slice: with room, or into a new row.** -/
theorem run_append_sl {P : Program} (w : World) (t ty e : TypeId) (i : TypeInfo) (z : Value) (size bytes : Nat) (ht : P.underlying t = some (.slice e)) (hi : P.info? e = some i) (hz : i.zero = some z)
    (hsize : i.size = size) (hby : i.bytes = bytes) (hzs : z.cells.size = size) (hsz : 0 < size)
    (v : Value) (n : Nat) (xs : List Value) (hv : Sl w e size v n xs)
    (a : Addr) (m c : Nat) (hm0 : 0 < m) (news : List Value) (hl : news.length = m * size) (hnews : ∀ j u, news[j]? = some u → w.cell? (a.add j) = some u) (h1 : ∀ u ∈ news, u.oneCell' = true)
    (h63 : n + m ≤ maxLen) (hbytes : (n + m) * bytes ≤ 140737488355328) :
    ∃ v' w', (Builtin.append_ #[t, t] ty #[v, .slice (some a) m c]).run P w = .ok v' w' ∧ Sl w' e size v' (n + m) (xs ++ news) ∧ Fr (fun k => v.ownBlock = some k) w w' ∧
      (v'.ownBlock = v.ownBlock ∨ ∀ g, v'.ownBlock = some g → w.heap.size ≤ g) ∧ Kb w w' := by
  obtain ⟨hlx, ao, cap, rfl, hn, hm, hnone, hc⟩ := hv
  by_cases hr : n + m ≤ cap
  · obtain ⟨g, off, cs, rfl, hg, hs, hx⟩ := hc (by omega)
    subst hsize
    have hfit : off + n * i.size + news.length ≤ cs.size := by
      have := Nat.mul_le_mul_right i.size hr
      rw [Nat.add_mul] at this
      omega
    have hrun := run_append_room_cells (P := P) w t ty e i ht hi g off n cap a m c news hl hnews h1 hr
      (fun j hj => by rw [World.cell?]; simp only [hg]; simp [show off + n * i.size + j < cs.size by omega]) (fun j hj => frozen_of_block hg)
    obtain ⟨cs', h1', h2', h3', h4', h5'⟩ := setCells_heap w g (off + n * i.size) cs e (0, 0) news hg hfit
    have hfr := setCells_fr w g (off + n * i.size) news
    refine ⟨_, _, hrun, ⟨by rw [List.length_append, hlx, hl, Nat.add_mul], _, cap, rfl, hr, hm, ⟨by simp, fun a h => by cases h; exact (Array.getElem?_eq_some_iff.1 h1').1⟩, fun _ => ⟨g, off, cs', rfl, h1', by omega, fun j u hj => ?_⟩⟩, hfr.mono (fun k _ h => by simp [Value.ownBlock, h]), .inl rfl,
      hfr.kb (fun k _ h => by subst h; exact ⟨_, hg, rfl⟩)⟩
    by_cases hj' : j < xs.length
    · rw [List.getElem?_append_left hj'] at hj
      rw [h3' _ (by omega)]
      exact hx j u hj
    · rw [List.getElem?_append_right (by omega)] at hj
      have := h4' _ u hj
      rw [show off + n * i.size + (j - xs.length) = off + j by omega] at this
      exact this
  · have key : ∀ v' w', w'.ownsRow w.heap.size e size v' (n + m) (xs ++ news) → w.grownBy w' none → Sl w' e size v' (n + m) (xs ++ news) ∧ Fr (fun k => Value.ownBlock (.slice ao n cap) = some k) w w' ∧
        (v'.ownBlock = Value.ownBlock (.slice ao n cap) ∨ ∀ g, v'.ownBlock = some g → w.heap.size ≤ g) ∧ Kb w w' := fun v' w' ho hgr => by
      have hfr := (Fr.refl no w).grown hgr (fun k hk => by cases hk)
      exact ⟨Sl.of_ownsRow ho, hfr.mono (fun _ _ f => f.elim), .inr (ownsRow_fresh ho), hfr.kb (fun _ _ f => f.elim)⟩
    cases ao with
    | some b =>
      have holds : ∀ j u, xs[j]? = some u → w.cell? (b.add j) = some u := by
        intro j u hj
        by_cases h0 : 0 < cap
        · obtain ⟨g, off, cs, hb, hg, hs, hx⟩ := hc h0
          cases hb
          rw [Addr.add_lit]
          exact cell_of_block hg (hx j u hj)
        · obtain rfl : n = 0 := by omega
          have : xs = [] := List.eq_nil_of_length_eq_zero (by simpa using hlx)
          subst this; simp at hj
      obtain ⟨v', w', hrun, r1, r2⟩ := run_append_arg_grows (P := P) w t ty e i z size bytes ht hi hz hsize hby hzs hsz b n cap xs hlx holds a m c news hl hnews (by omega) h63 hbytes
      exact ⟨v', w', hrun, key v' w' r1 r2⟩
    | none =>
      obtain rfl := hnone.1 rfl
      obtain rfl : n = 0 := by omega
      obtain rfl : xs = [] := List.eq_nil_of_length_eq_zero (by simpa using hlx)
      obtain ⟨v', w', hrun, r1, r2, _⟩ := run_append_own (P := P) w w.heap.size t ty e i z size bytes ht hi hz hsize hby hzs hsz (.slice none 0 0) 0 [] (World.ownsRow_nil w _ e size) a m c news hl hnews h1 h63 hbytes (Nat.le_refl _)
      exact ⟨v', w', hrun, key v' w' r1 r2⟩

/-- nothing is appended -/
theorem run_append_zero {P : Program} (w : World) (t ty e : TypeId) (i : TypeInfo) (ht : P.underlying t = some (.slice e)) (hi : P.info? e = some i)
    (ao : Option Addr) (n cap : Nat) (hn : n ≤ cap) (bo : Option Addr) (c : Nat) :
    (Builtin.append_ #[t, t] ty #[.slice ao n cap, .slice bo 0 c]).run P w = .ok (.slice ao n cap) w := by
  have hf : (Builtin.firstCells i.size 0 (.slice bo 0 c)).run P w = .ok #[] w := by
    cases bo <;> simp [Builtin.firstCells, loadCells, loadCellsFrom]
  cases ao <;> simp [Builtin.append_, run_underlying ht, sizeOf, typeInfo, hi, Builtin.lenOf, hn, hf, storeCells]

/-- **append(v, src...): src read, v owned.** -/
theorem run_append_all {P : Program} (w : World) (t ty e : TypeId) (i : TypeInfo) (z : Value) (size bytes : Nat) (ht : P.underlying t = some (.slice e)) (hi : P.info? e = some i) (hz : i.zero = some z)
    (hsize : i.size = size) (hby : i.bytes = bytes) (hzs : z.cells.size = size) (hsz : 0 < size)
    (v : Value) (n : Nat) (xs : List Value) (hv : Sl w e size v n xs)
    (src : Value) (m : Nat) (news : List Value) (hr : Rd w size src m news) (h1 : ∀ u ∈ news, u.oneCell' = true)
    (h63 : n + m ≤ maxLen) (hbytes : (n + m) * bytes ≤ 140737488355328) :
    ∃ v' w', (Builtin.append_ #[t, t] ty #[v, src]).run P w = .ok v' w' ∧ Sl w' e size v' (n + m) (xs ++ news) ∧ Fr (fun k => v.ownBlock = some k) w w' ∧
      (v'.ownBlock = v.ownBlock ∨ ∀ g, v'.ownBlock = some g → w.heap.size ≤ g) ∧ Kb w w' := by
  by_cases hm : m = 0
  · subst hm
    obtain ⟨hl, bo, c, rfl, _, _, _, _⟩ := hr
    obtain rfl : news = [] := List.eq_nil_of_length_eq_zero (by simpa using hl)
    obtain ⟨ao, cap, rfl, hn, _⟩ := hv.cap
    exact ⟨_, w, run_append_zero (P := P) w t ty e i ht hi ao n cap hn bo c, by simpa using hv, Fr.refl _ _, .inl rfl, Kb.refl _⟩
  · obtain ⟨g, off, c, rfl, _, _, hx⟩ := hr.form (by omega)
    exact run_append_sl (P := P) w t ty e i z size bytes ht hi hz hsize hby hzs hsz v n xs hv ⟨g, off, none⟩ m c (by omega) news hr.1 (fun j u hj => by rw [Addr.add_lit]; exact hx j u hj) h1 h63 hbytes

/-- append(v, x): x lies in a new block of its own. -/
theorem run_append_one {P : Program} (w : World) (t ty e : TypeId) (i : TypeInfo) (z : Value) (bytes : Nat) (ht : P.underlying t = some (.slice e)) (hi : P.info? e = some i) (hz : i.zero = some z)
    (hsize : i.size = 1) (hby : i.bytes = bytes) (hzs : z.cells.size = 1)
    (v : Value) (n : Nat) (xs : List Value) (hv : Sl w e 1 v n xs) (x : Value) (h1 : x.oneCell' = true)
    (h63 : n + 1 ≤ maxLen) (hbytes : (n + 1) * bytes ≤ 140737488355328) (e' : TypeId) :
    ∃ v' w', (Builtin.append_ #[t, t] ty #[v, .slice (some ⟨w.heap.size, 0, none⟩) 1 1]).run P (w.alloc (.cells #[x] e')) = .ok v' w' ∧ Sl w' e 1 v' (n + 1) (xs ++ [x]) ∧ Fr (fun k => v.ownBlock = some k) w w' ∧
      (v'.ownBlock = v.ownBlock ∨ ∀ g, v'.ownBlock = some g → w.heap.size ≤ g) ∧ Kb w w' := by
  have hf0 : Fr no w (w.alloc (.cells #[x] e')) := (Fr.refl _ w).alloc _
  obtain ⟨v', w', hrun, h2, h3, h4, h5⟩ := run_append_sl (P := P) (w.alloc (.cells #[x] e')) t ty e i z 1 bytes ht hi hz hsize hby hzs (by omega) v n xs (hv.fr hf0 (fun _ _ f => f)) ⟨w.heap.size, 0, none⟩ 1 1 (by omega) [x] rfl
    (cell_one_new _ _ _) (by simpa using h1) h63 hbytes
  refine ⟨v', w', hrun, h2, (hf0.mono (fun _ _ f => f.elim)).trans' h3, ?_, (Kb.alloc _ _).trans h5⟩
  rcases h4 with h | h
  · exact .inl h
  · refine .inr (fun g hg => ?_)
    have := h g hg
    simp at this
    omega

/-- v[k:] -/
def cutFrom (size : Nat) : Value → Nat → Value
  | .slice ao n cap, k => .slice (if cap = k then ao else ao.map (·.add (k * size))) (n - k) (cap - k)
  | v, _ => v

theorem addr_add_block (a : Addr) (n : Nat) : (a.add n).block = a.block := by unfold Addr.add; split <;> rfl

theorem Sl.cutFrom {w : World} {E : TypeId} {size : Nat} {v : Value} {n : Nat} {xs : List Value} (h : Sl w E size v n xs) {k : Nat} (hk : k ≤ n) :
    Sl w E size (cutFrom size v k) (n - k) (xs.drop (k * size)) := by
  obtain ⟨hl, ao, cap, rfl, hn, hm, hz, hc⟩ := h
  have h2 : (n - k) * size = n * size - k * size := Nat.sub_mul _ _ _
  refine ⟨by rw [List.length_drop, hl, h2], _, cap - k, rfl, by omega, by omega, ⟨fun h => ?_, fun a h => ?_⟩, fun h0 => ?_⟩
  · split at h
    · omega
    · cases ao with
      | none => have := hz.1 rfl; omega
      | some _ => simp at h
  · split at h
    · exact hz.2 a h
    · cases ao with
      | none => simp at h
      | some b =>
        simp at h
        subst h
        have := hz.2 b rfl
        rwa [addr_add_block]
  · obtain ⟨g, off, cs, rfl, hg, hs, hx⟩ := hc (by omega)
    rw [if_neg (by omega)]
    have e1 : cap * size = (cap - k) * size + k * size := by rw [← Nat.add_mul, Nat.sub_add_cancel (Nat.le_trans hk hn)]
    have hs' : off + k * size + (cap - k) * size ≤ cs.size := by rw [Nat.add_assoc, Nat.add_comm (k * size), ← e1]; exact hs
    refine ⟨g, off + k * size, cs, by simp [Addr.add_lit], hg, hs', fun j u hj => ?_⟩
    rw [List.getElem?_drop] at hj
    have := hx _ u hj
    rwa [← Nat.add_assoc] at this

/-- v[k:], run: the new slice under one name -/
theorem run_cutFrom {P : Program} (t e : TypeId) (i : TypeInfo) (size : Nat) (ht : P.underlying t = some (.slice e)) (hi : P.info? e = some i) (hsz : i.size = size) (kd : IntKind) (ao : Option Addr) (n cap k : Nat) (hk : k ≤ n) (ki : Int) (hki : ki = k) :
    ∃ ao', cutFrom size (.slice ao n cap) k = .slice ao' (n - k) (cap - k) ∧ (∀ w, (Instr.sliceAt t (.slice ao n cap) (some (.int kd ki)) none none).run P w = .ok (.slice ao' (n - k) (cap - k)) w) ∧
      ∀ w, (Instr.slice t (.slice ao n cap) (some (.int kd ki)) none none).run P w = .ok (.slice ao' (n - k) (cap - k)) w := by
  subst hsz
  have key : ∀ w, (Instr.slice t (.slice ao n cap) (some (.int kd ki)) none none).run P w = .ok (.slice (if cap = k then ao else ao.map (·.add (k * i.size))) (n - k) (cap - k)) w := by
    intro w
    subst hki
    simp [Instr.slice, run_underlying ht, Instr.sliceBounds, Instr.sliceBound, asIntOf, hk, sizeOf, typeInfo, hi]
  exact ⟨_, rfl, fun w => by simp only [Instr.sliceAt, Sem.run_bind, run_underlying ht, Result.andThen_ok]; exact key w, key⟩

theorem ownBlock_cutFrom (size : Nat) (v : Value) (k : Nat) : (cutFrom size v k).ownBlock = v.ownBlock := by
  cases v <;> simp [cutFrom, Value.ownBlock]
  rename_i ao n cap
  cases ao with
  | none => simp [Value.ownBlock]
  | some a =>
    by_cases h : cap = k
    · simp [h, Value.ownBlock]
    · simp [h, Value.ownBlock, Addr.add]
      split <;> rfl

/-! ### for the walk -/
theorem wpList_append_one {P : Program} (w0 : World) (u : Value) (e' : TypeId) {ops : Array Oper} {rest : List Oper} {o : Oper} {a : Act} {Q : Exit → Act → World → Prop}
    (hg : o.guard = none) (s x : Operand) (t : TypeId) (hop : o.op = Op.call { callee := Callee.builtin Builtin.append, args := #[s, x], argTypes := #[t, t] })
    (e : TypeId) (i : TypeInfo) (z : Value) (bytes : Nat) (h1 : P.underlying t = some (.slice e)) (h2 : P.info? e = some i) (h3 : i.zero = some z) (h4 : i.size = 1) (h5 : i.bytes = bytes) (h6 : z.cells.size = 1)
    (v : Value) (n : Nat) (xs : List Value) (hs : a.eval s = v) (hv : Sl w0 e 1 v n xs) (hx : a.eval x = .slice (some ⟨w0.heap.size, 0, none⟩) 1 1) (h1c : u.oneCell' = true)
    (b1 : n + 1 ≤ maxLen) (b2 : (n + 1) * bytes ≤ 140737488355328)
    (hK : ∀ ao' cap' w', Sl w' e 1 (.slice ao' (n + 1) cap') (n + 1) (xs ++ [u]) → Fr (fun k => v.ownBlock = some k) w0 w' → (Value.ownBlock (.slice ao' (n + 1) cap') = v.ownBlock ∨ ∀ g, Value.ownBlock (.slice ao' (n + 1) cap') = some g → w0.heap.size ≤ g) → Kb w0 w' → wpList P ops Q rest (a.put o.dst (.slice ao' (n + 1) cap')) w') :
    wpList P ops Q (o :: rest) a (w0.alloc (.cells #[u] e')) := by
  refine wpList_plain hg fun K hK' => ?_
  obtain ⟨v', w', hrun, r1, r2, r3, r4⟩ := run_append_one (P := P) w0 t o.type e i z bytes h1 h2 h3 h4 h5 h6 v n xs hv u h1c b1 b2 e'
  obtain ⟨ao', cap', rfl, _, _⟩ := r1.cap
  unfold Oper.wp
  simp [execOp, hop, resolve, invoke, builtin, hs, hx, hrun, Result.andThen]
  exact hK' _ _ (hK ao' cap' w' r1 r2 r3 r4)
theorem wpListIn_append_one {F : Fence} {d : Nat} {P : Program} (w0 : World) (u : Value) (e' : TypeId) {ops : Array Oper} {rest : List Oper} {o : Oper} {a : Act} {Q : Exit → Act → World → Prop}
    (hg : o.guard = none) (s x : Operand) (t : TypeId) (hop : o.op = Op.call { callee := Callee.builtin Builtin.append, args := #[s, x], argTypes := #[t, t] })
    (e : TypeId) (i : TypeInfo) (z : Value) (bytes : Nat) (h1 : P.underlying t = some (.slice e)) (h2 : P.info? e = some i) (h3 : i.zero = some z) (h4 : i.size = 1) (h5 : i.bytes = bytes) (h6 : z.cells.size = 1)
    (v : Value) (n : Nat) (xs : List Value) (hs : a.eval s = v) (hv : Sl w0 e 1 v n xs) (hx : a.eval x = .slice (some ⟨w0.heap.size, 0, none⟩) 1 1) (h1c : u.oneCell' = true)
    (b1 : n + 1 ≤ maxLen) (b2 : (n + 1) * bytes ≤ 140737488355328)
    (hK : ∀ ao' cap' w', Sl w' e 1 (.slice ao' (n + 1) cap') (n + 1) (xs ++ [u]) → Fr (fun k => v.ownBlock = some k) w0 w' → (Value.ownBlock (.slice ao' (n + 1) cap') = v.ownBlock ∨ ∀ g, Value.ownBlock (.slice ao' (n + 1) cap') = some g → w0.heap.size ≤ g) → Kb w0 w' → wpListIn F d P ops Q rest (a.put o.dst (.slice ao' (n + 1) cap')) w') :
    wpListIn F d P ops Q (o :: rest) a (w0.alloc (.cells #[u] e')) := by
  refine wpListIn_plain hg fun K hK' => ?_
  obtain ⟨v', w', hrun, r1, r2, r3, r4⟩ := run_append_one (P := P) w0 t o.type e i z bytes h1 h2 h3 h4 h5 h6 v n xs hv u h1c b1 b2 e'
  obtain ⟨ao', cap', rfl, _, _⟩ := r1.cap
  unfold Oper.wpIn
  refine ⟨?_, ?_⟩
  · simp [Oper.about, hop, resolve, Target.leads, Sem.run_pure]
  · rw [Oper.semAt_plain F _ _ (by rw [hop]; intro c hc'; cases hc')]
    simp [execOp, hop, resolve, invoke, builtin, hs, hx, hrun, Result.andThen]
    exact hK' _ _ (hK ao' cap' w' r1 r2 r3 r4)
theorem wpList_append_all {P : Program} (w0 : World) {ops : Array Oper} {rest : List Oper} {o : Oper} {a : Act} {Q : Exit → Act → World → Prop}
    (hg : o.guard = none) (s x : Operand) (t : TypeId) (hop : o.op = Op.call { callee := Callee.builtin Builtin.append, args := #[s, x], argTypes := #[t, t] })
    (e : TypeId) (i : TypeInfo) (z : Value) (size bytes : Nat) (h1 : P.underlying t = some (.slice e)) (h2 : P.info? e = some i) (h3 : i.zero = some z) (h4 : i.size = size) (h5 : i.bytes = bytes) (h6 : z.cells.size = size) (h7 : 0 < size)
    (v : Value) (n : Nat) (xs : List Value) (hs : a.eval s = v) (hv : Sl w0 e size v n xs) (src : Value) (m : Nat) (news : List Value) (hx : a.eval x = src) (hr : Rd w0 size src m news) (h1c : ∀ u ∈ news, u.oneCell' = true)
    (b1 : n + m ≤ maxLen) (b2 : (n + m) * bytes ≤ 140737488355328)
    (hK : ∀ ao' cap' w', Sl w' e size (.slice ao' (n + m) cap') (n + m) (xs ++ news) → Fr (fun k => v.ownBlock = some k) w0 w' → (Value.ownBlock (.slice ao' (n + m) cap') = v.ownBlock ∨ ∀ g, Value.ownBlock (.slice ao' (n + m) cap') = some g → w0.heap.size ≤ g) → Kb w0 w' → wpList P ops Q rest (a.put o.dst (.slice ao' (n + m) cap')) w') :
    wpList P ops Q (o :: rest) a w0 := by
  refine wpList_plain hg fun K hK' => ?_
  obtain ⟨v', w', hrun, r1, r2, r3, r4⟩ := run_append_all (P := P) w0 t o.type e i z size bytes h1 h2 h3 h4 h5 h6 h7 v n xs hv src m news hr h1c b1 b2
  obtain ⟨ao', cap', rfl, _, _⟩ := r1.cap
  unfold Oper.wp
  simp [execOp, hop, resolve, invoke, builtin, hs, hx, hrun, Result.andThen]
  exact hK' _ _ (hK ao' cap' w' r1 r2 r3 r4)
theorem wpListIn_append_all {F : Fence} {d : Nat} {P : Program} (w0 : World) {ops : Array Oper} {rest : List Oper} {o : Oper} {a : Act} {Q : Exit → Act → World → Prop}
    (hg : o.guard = none) (s x : Operand) (t : TypeId) (hop : o.op = Op.call { callee := Callee.builtin Builtin.append, args := #[s, x], argTypes := #[t, t] })
    (e : TypeId) (i : TypeInfo) (z : Value) (size bytes : Nat) (h1 : P.underlying t = some (.slice e)) (h2 : P.info? e = some i) (h3 : i.zero = some z) (h4 : i.size = size) (h5 : i.bytes = bytes) (h6 : z.cells.size = size) (h7 : 0 < size)
    (v : Value) (n : Nat) (xs : List Value) (hs : a.eval s = v) (hv : Sl w0 e size v n xs) (src : Value) (m : Nat) (news : List Value) (hx : a.eval x = src) (hr : Rd w0 size src m news) (h1c : ∀ u ∈ news, u.oneCell' = true)
    (b1 : n + m ≤ maxLen) (b2 : (n + m) * bytes ≤ 140737488355328)
    (hK : ∀ ao' cap' w', Sl w' e size (.slice ao' (n + m) cap') (n + m) (xs ++ news) → Fr (fun k => v.ownBlock = some k) w0 w' → (Value.ownBlock (.slice ao' (n + m) cap') = v.ownBlock ∨ ∀ g, Value.ownBlock (.slice ao' (n + m) cap') = some g → w0.heap.size ≤ g) → Kb w0 w' → wpListIn F d P ops Q rest (a.put o.dst (.slice ao' (n + m) cap')) w') :
    wpListIn F d P ops Q (o :: rest) a w0 := by
  refine wpListIn_plain hg fun K hK' => ?_
  obtain ⟨v', w', hrun, r1, r2, r3, r4⟩ := run_append_all (P := P) w0 t o.type e i z size bytes h1 h2 h3 h4 h5 h6 h7 v n xs hv src m news hr h1c b1 b2
  obtain ⟨ao', cap', rfl, _, _⟩ := r1.cap
  unfold Oper.wpIn
  refine ⟨?_, ?_⟩
  · simp [Oper.about, hop, resolve, Target.leads, Sem.run_pure]
  · rw [Oper.semAt_plain F _ _ (by rw [hop]; intro c hc'; cases hc')]
    simp [execOp, hop, resolve, invoke, builtin, hs, hx, hrun, Result.andThen]
    exact hK' _ _ (hK ao' cap' w' r1 r2 r3 r4)
end Go.XL
