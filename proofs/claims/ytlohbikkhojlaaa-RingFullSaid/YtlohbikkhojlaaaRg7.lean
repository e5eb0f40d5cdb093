/- Package ring: Resize. -/
import Derived.Test.YtlohbikkhojlaaaRg6
import Derived.Laws.IdiomCopy
namespace Go.XL
open Go.RowKit Go.Shelf
set_option linter.unusedVariables false
set_option linter.unusedSimpArgs false
/-- queues moved into others -/
theorem RgAt.resize {RT QT DT : TypeId} {w w7 w9 : World} {p g N at' : Nat} {r : Rg} {qs' : List (List Dr)} {qv sv lv : Value} {vs vs' : List Value} (h : RgAt RT QT DT w p r qv sv lv vs) (hg : w.heap.size ≤ g) (f7 : Fr no w w7)
    (sl7 : Sl w7 QT 1 (.slice (some ⟨g, 0, none⟩) N N) N vs') (hN : qs'.length = N)
    (q7 : ∀ (i : Nat) (v : Value) (l : List Dr), vs'[i]? = some v → qs'[i]? = some l → Sl w7 DT 6 v l.length (drCells l))
    (hX : ∀ v ∈ vs', ∀ k, v.ownBlock = some k → (∃ u ∈ vs, u.ownBlock = some k) ∨ (w.heap.size ≤ k ∧ k ≠ g))
    (h3 : ∀ (i j : Nat) (v u : Value), i ≠ j → vs'[i]? = some v → vs'[j]? = some u → ∀ k, v.ownBlock = some k → u.ownBlock ≠ some k)
    (hd : ∀ l ∈ qs', ∀ d ∈ l, ∃ l' ∈ r.qs, d ∈ l') (f9 : Fr (fun i => i = p) w7 w9)
    (hb9 : w9.heap[p]? = some (.cells #[.int .i64 r.room, .slice (some ⟨g, 0, none⟩) N N, .int .i64 (at' : Int), .int .i64 r.own, .int .i64 r.next, sv, lv] RT (0, 0))) :
    RgAt RT QT DT w9 p { r with qs := qs', at_ := at' } (.slice (some ⟨g, 0, none⟩) N N) sv lv vs' ∧ Fr (RgOwn p qv vs) w w9 ∧ (∀ k, RgOwn p (.slice (some ⟨g, 0, none⟩) N N) vs' k → RgOwn p qv vs k ∨ w.heap.size ≤ k) := by
  have hp := h.lt p (.inl rfl)
  have hgp : g ≠ p := by omega
  have hown : ∀ k, RgOwn p (.slice (some ⟨g, 0, none⟩) N N) vs' k → RgOwn p qv vs k ∨ w.heap.size ≤ k := by
    rintro k (e | e | ⟨u, hu, e⟩)
    · exact .inl (.inl e)
    · simp [Value.ownBlock] at e; exact .inr (by omega)
    · rcases hX u hu k e with ⟨x, hx, e2⟩ | e2
      · exact .inl (.inr (.inr ⟨x, hx, e2⟩))
      · exact .inr e2.1
  have hfr : Fr (RgOwn p qv vs) w w9 := (f7.mono (fun _ _ f => f.elim)).trans' (f9.mono (fun k _ e => .inl e))
  have hvp : ∀ v ∈ vs', v.ownBlock ≠ some p := fun v hv e => by
    rcases hX v hv p e with ⟨u, hu, e2⟩ | e2
    · obtain ⟨j, hj⟩ := List.getElem?_of_mem hu
      exact (h.ap2 j u hj).1 e2
    · omega
  have key : ∀ {size : Nat} {u : Value} {n : Nat} {xs : List Value}, 0 < size → RdX (RgOwn p qv vs) w size u n xs → RdX (RgOwn p (.slice (some ⟨g, 0, none⟩) N N) vs') w9 size u n xs := fun hz hx => by
    refine RdX.anti (X := fun k => RgOwn p qv vs k ∨ w.heap.size ≤ k) ?_ hown
    exact (hx.new hz).fr hfr (fun k _ e => .inl e)
  refine ⟨⟨hb9, ?_, ?_, ?_, ?_, h3, key (by decide) h.seen, key (by decide) h.late, ?_⟩, hfr, hown⟩
  · show Sl w9 QT 1 _ qs'.length vs'
    rw [hN]
    exact sl7.fr f9 (fun k hk e => by simp [Value.ownBlock] at hk; omega)
  · intro i v l hv hl
    exact (q7 i v l hv hl).fr f9 (fun k hk e => hvp v (List.mem_of_getElem? hv) (by rw [hk, e]))
  · simp [Value.ownBlock]; exact hgp
  · intro i v hv
    refine ⟨hvp v (List.mem_of_getElem? hv), fun k hk e => ?_⟩
    simp [Value.ownBlock] at hk
    subst hk
    rcases hX v (List.mem_of_getElem? hv) g e with ⟨u, hu, e2⟩ | e2
    · have := h.lt g (.inr (.inr ⟨u, hu, e2⟩)); omega
    · exact e2.2 rfl
  · rintro d (hx | ⟨l, hl, hx⟩)
    · exact key (by decide) (h.dep d (.inl hx))
    · obtain ⟨l', hl', hx'⟩ := hd l hl d hx
      exact key (by decide) (h.dep d (.inr ⟨l', hl', hx'⟩))
/-- copy of a row of slices into a made one -/
theorem copy_rows {P : Program} {w : World} {g N n cq : Nat} {qo : Option Addr} {vs : List Value} {QT ST : TypeId} {C : Nat} (hu : P.underlying ST = some (.slice QT)) (hs : (P.info? QT).map (·.size) = some 1) (ty : TypeId)
    (h0 : Sl w QT 1 (.slice (some ⟨g, 0, none⟩) N N) N (List.replicate N (.slice none 0 0))) (hN : 0 < N) (hq : Rd w 1 (.slice qo n cq) n vs) (hn : 0 < n) (h1 : ∀ v ∈ vs, v.oneCell' = true) (hb : (Value.slice qo n cq).ownBlock ≠ some g) :
    ∃ w', (Builtin.copy_ #[ST, ST] ty #[.slice (some ⟨g, 0, none⟩) N N, .slice qo n cq]).run P w = .ok (goInt (Nat.min n N)) w' ∧ Sl w' QT 1 (.slice (some ⟨g, 0, none⟩) N N) N (vs.take N ++ List.replicate (N - n) (.slice none 0 0)) ∧ Fr (fun i => i = g) w w' := by
  have hvl : vs.length = n := by have := hq.1; omega
  obtain ⟨gq, oq, cq', he, _, _, hx⟩ := hq.form hn
  cases he
  obtain ⟨g', o', c', cs, he, _, _, hgh, hsz, hcs⟩ := h0.form hN
  cases he
  have hmin : Nat.min n N = min n N := rfl
  have hlen : (vs.take (min n N)).length = Nat.min n N := by rw [List.length_take, hmin]; omega
  have hz : ∀ j, j < N → cs[j]? = some (.slice none 0 0) := fun j hj => by
    have := hcs j (.slice none 0 0) (by rw [List.getElem?_replicate]; simp [hj])
    simpa using this
  have hrun := run_copy_cells (P := P) w ST ST ty QT g 0 N N ⟨gq, oq, none⟩ n cq (vs.take (min n N)) hu hs hlen
    (fun j v hj => by
      have hj' : j < min n N := by have := (List.getElem?_eq_some_iff.1 hj).1; rw [List.length_take] at this; omega
      rw [List.getElem?_take_of_lt hj'] at hj
      have e : (⟨gq, oq, none⟩ : Addr).add j = ⟨gq, oq + j, none⟩ := by unfold Addr.add; split <;> simp_all
      rw [e]
      exact hx j v hj)
    (fun j hj => by
      rw [hlen, hmin] at hj
      rw [Nat.zero_add, cell_of_block hgh (hz j (by omega))]; rfl)
    (fun j hj => frozen_of_block hgh) (fun v hv => h1 v (List.mem_of_mem_take hv))
  rw [hlen] at hrun
  obtain ⟨cs', k1, k2, k3, k4, k5⟩ := setCells_heap w g 0 cs QT (0, 0) (vs.take (min n N)) hgh (by rw [hlen, hmin]; omega)
  refine ⟨_, hrun, ⟨by simp [hvl]; omega, _, N, rfl, Nat.le_refl _, by obtain ⟨_, ao, cap, e, _, hm, _⟩ := h0; cases e; exact hm, ⟨(fun e => by cases e), fun a ha => by cases ha; exact (Array.getElem?_eq_some_iff.1 k1).1⟩, fun _ => ⟨g, 0, cs', rfl, k1, by rw [k2]; exact hsz, fun j u hj => ?_⟩⟩, setCells_fr w g 0 _⟩
  rw [Nat.zero_add]
  by_cases hjn : j < min n N
  · rw [List.getElem?_append_left (by rw [List.length_take]; omega), List.getElem?_take_of_lt (by omega)] at hj
    have := k4 j u (by rw [List.getElem?_take_of_lt hjn]; exact hj)
    simpa using this
  · have hjl := (List.getElem?_eq_some_iff.1 hj).1
    rw [List.length_append, List.length_take, List.length_replicate] at hjl
    rw [List.getElem?_append_right (by rw [List.length_take]; omega), List.getElem?_replicate] at hj
    split at hj
    · cases hj
      rw [k5 j (by rw [hlen, hmin]; omega)]
      exact hz j (by omega)
    · cases hj
def rresize (r : Rg) (N : Nat) : Rg := { r with
  qs := if N < r.qs.length then (r.qs.take N).set 0 ((r.qs[0]?.getD []) ++ (r.qs.drop N).flatten) else r.qs ++ List.replicate (N - r.qs.length) []
  at_ := if N ≤ r.at_ then 0 else r.at_ }
structure RzF (QT DT : TypeId) (w w7 : World) (g N : Nat) (r : Rg) (vs vs' : List Value) (qs' : List (List Dr)) : Prop where
  f7 : Fr no w w7
  sl7 : Sl w7 QT 1 (.slice (some ⟨g, 0, none⟩) N N) N vs'
  hN : qs'.length = N
  q7 : ∀ (i : Nat) (v : Value) (l : List Dr), vs'[i]? = some v → qs'[i]? = some l → Sl w7 DT 6 v l.length (drCells l)
  hX : ∀ v ∈ vs', ∀ k, v.ownBlock = some k → (∃ u ∈ vs, u.ownBlock = some k) ∨ (w.heap.size ≤ k ∧ k ≠ g)
  h3 : ∀ (i j : Nat) (v u : Value), i ≠ j → vs'[i]? = some v → vs'[j]? = some u → ∀ k, v.ownBlock = some k → u.ownBlock ≠ some k
  hd : ∀ l ∈ qs', ∀ d ∈ l, ∃ l' ∈ r.qs, d ∈ l'
theorem rz_less {RT QT DT : TypeId} {w w7 : World} {p g N n m A B : Nat} {r : Rg} {qv sv lv v6 : Value} {vs : List Value} {l0 : List Dr} (h : RgAt RT QT DT w p r qv sv lv vs) (hn : r.qs.length = n) (hlt : N < n) (hN1 : 1 ≤ N) (hl0 : r.qs[0]? = some l0) (hm : l0.length = m) (hA : (r.qs.drop N).flatten.length = A)
    (f7 : Fr no w w7) (hB : w.heap.size ≤ B) (hgB : g < B) (h7 : Sl w7 QT 1 (.slice (some ⟨g, 0, none⟩) N N) N ((vs.take N ++ List.replicate (N - n) (Value.slice none 0 0)).set 0 v6))
    (h6 : Sl w7 DT 6 v6 (m + A) (drCells (l0 ++ (r.qs.drop N).flatten))) (ho6 : ∀ k, v6.ownBlock = some k → B ≤ k) :
    RzF QT DT w w7 g N r vs ((vs.take N).set 0 v6) ((r.qs.take N).set 0 (l0 ++ (r.qs.drop N).flatten)) := by
  rw [show N - n = 0 by omega, List.replicate_zero, List.append_nil] at h7
  have hvl := h.vlen
  have old : ∀ (i : Nat) (v : Value), (vs.take N)[i]? = some v → vs[i]? = some v := fun i v hv => by
    have hi := (List.getElem?_eq_some_iff.1 hv).1
    rw [List.length_take] at hi
    rwa [List.getElem?_take_of_lt (by omega)] at hv
  have hlo : ∀ (i : Nat) (v : Value) (k : Nat), vs[i]? = some v → v.ownBlock = some k → k < w.heap.size := fun i v k hv e => h.lt k (.inr (.inr ⟨v, List.mem_of_getElem? hv, e⟩))
  have ht : 0 < (vs.take N).length := by rw [List.length_take]; omega
  have hq : 0 < (r.qs.take N).length := by rw [List.length_take]; omega
  refine ⟨f7, h7, by rw [List.length_set, List.length_take]; omega, ?_, ?_, ?_, ?_⟩
  · intro i v l hv hl
    rw [List.getElem?_set] at hv hl
    by_cases hi : 0 = i
    · subst hi
      rw [if_pos rfl, if_pos ht] at hv
      rw [if_pos rfl, if_pos hq] at hl
      cases hv; cases hl
      rw [List.length_append, hm, hA]
      exact h6
    · rw [if_neg hi] at hv hl
      have hil := (List.getElem?_eq_some_iff.1 hl).1
      rw [List.length_take] at hil
      rw [List.getElem?_take_of_lt (by omega)] at hl
      exact (h.q i v l (old i v hv) hl).fr f7 (fun _ _ f => f)
  · intro v hv k e
    rcases List.mem_or_eq_of_mem_set hv with hv | rfl
    · exact .inl ⟨v, List.mem_of_mem_take hv, e⟩
    · have := ho6 k e; exact .inr ⟨by omega, by omega⟩
  · intro i j v u hij hv hu k e e2
    rw [List.getElem?_set] at hv hu
    by_cases hi : 0 = i
    · subst hi
      rw [if_pos rfl, if_pos ht] at hv
      rw [if_neg hij] at hu
      cases hv
      have := ho6 k e
      have := hlo j u k (old j u hu) e2
      omega
    · rw [if_neg hi] at hv
      by_cases hj : 0 = j
      · subst hj
        rw [if_pos rfl, if_pos ht] at hu
        cases hu
        have := ho6 k e2
        have := hlo i v k (old i v hv) e
        omega
      · rw [if_neg hj] at hu
        exact h.ap3 i j v u hij (old i v hv) (old j u hu) k e e2
  · intro l hl d hd
    rcases List.mem_or_eq_of_mem_set hl with hl | rfl
    · exact ⟨l, List.mem_of_mem_take hl, hd⟩
    · rcases List.mem_append.1 hd with hd | hd
      · exact ⟨l0, List.mem_of_getElem? hl0, hd⟩
      · obtain ⟨l', hl', hd'⟩ := List.mem_flatten.1 hd
        exact ⟨l', List.mem_of_mem_drop hl', hd'⟩
theorem rz_more {RT QT DT : TypeId} {w w7 : World} {p g N n : Nat} {r : Rg} {qv sv lv : Value} {vs : List Value} (h : RgAt RT QT DT w p r qv sv lv vs) (hn : r.qs.length = n) (hlt : ¬ N < n)
    (f7 : Fr no w w7) (h7 : Sl w7 QT 1 (.slice (some ⟨g, 0, none⟩) N N) N (vs.take N ++ List.replicate (N - n) (Value.slice none 0 0))) :
    RzF QT DT w w7 g N r vs (vs ++ List.replicate (N - n) (Value.slice none 0 0)) (r.qs ++ List.replicate (N - n) []) := by
  have hvl := h.vlen
  rw [List.take_of_length_le (by omega)] at h7
  have split : ∀ (i : Nat) (v : Value), (vs ++ List.replicate (N - n) (Value.slice none 0 0))[i]? = some v → (i < n ∧ vs[i]? = some v) ∨ (n ≤ i ∧ v = Value.slice none 0 0) := fun i v hv => by
    by_cases hi : i < n
    · rw [List.getElem?_append_left (by omega)] at hv; exact .inl ⟨hi, hv⟩
    · rw [List.getElem?_append_right (by omega)] at hv
      exact .inr ⟨by omega, List.eq_of_mem_replicate (List.mem_of_getElem? hv)⟩
  refine ⟨f7, h7, by rw [List.length_append, List.length_replicate]; omega, ?_, ?_, ?_, ?_⟩
  · intro i v l hv hl
    rcases split i v hv with ⟨hi, hv⟩ | ⟨hi, rfl⟩
    · rw [List.getElem?_append_left (by omega)] at hl
      exact (h.q i v l hv hl).fr f7 (fun _ _ f => f)
    · rw [List.getElem?_append_right (by omega)] at hl
      have := List.eq_of_mem_replicate (List.mem_of_getElem? hl)
      subst this
      simpa [drCells] using Sl.nil _ _ _
  · intro v hv k e
    rcases List.mem_append.1 hv with hv | hv
    · exact .inl ⟨v, hv, e⟩
    · have := List.eq_of_mem_replicate hv
      subst this
      simp [Value.ownBlock] at e
  · intro i j v u hij hv hu k e e2
    rcases split i v hv with ⟨hi, hv⟩ | ⟨hi, rfl⟩
    · rcases split j u hu with ⟨hj, hu⟩ | ⟨hj, rfl⟩
      · exact h.ap3 i j v u hij hv hu k e e2
      · simp [Value.ownBlock] at e2
    · simp [Value.ownBlock] at e
  · intro l hl d hd
    rcases List.mem_append.1 hl with hl | hl
    · exact ⟨l, hl, hd⟩
    · have := List.eq_of_mem_replicate hl
      subst this
      cases hd
end Go.XL
