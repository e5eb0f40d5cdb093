/- Rings in memory. -/
import Derived.Test.YtlohbikkhojlaaaTok3
namespace Go.XL
open Go.RowKit Go.Shelf
set_option linter.unusedVariables false
set_option linter.unusedSimpArgs false
/-- a ring: its queues' room, the queues, where the token is, what the token has -/
structure Rg where
  room : Int
  qs : List (List Dr)
  at_ : Nat
  own : Int
  next : Int
  seen : List Int
  late : List Dr
/-- the blocks that are a ring's own -/
def RgOwn (p : Nat) (qv : Value) (vs : List Value) (g : Nat) : Prop := g = p ∨ qv.ownBlock = some g ∨ ∃ v ∈ vs, v.ownBlock = some g
structure RgAt (RT QT DT : TypeId) (w : World) (p : Nat) (r : Rg) (qv sv lv : Value) (vs : List Value) : Prop where
  cell : w.heap[p]? = some (.cells #[.int .i64 r.room, qv, .int .i64 (r.at_ : Int), .int .i64 r.own, .int .i64 r.next, sv, lv] RT (0, 0))
  qsl : Sl w QT 1 qv r.qs.length vs
  q : ∀ (i : Nat) (v : Value) (l : List Dr), vs[i]? = some v → r.qs[i]? = some l → Sl w DT 6 v l.length (drCells l)
  ap1 : qv.ownBlock ≠ some p
  ap2 : ∀ (i : Nat) (v : Value), vs[i]? = some v → v.ownBlock ≠ some p ∧ ∀ g, qv.ownBlock = some g → v.ownBlock ≠ some g
  ap3 : ∀ (i j : Nat) (v u : Value), i ≠ j → vs[i]? = some v → vs[j]? = some u → ∀ g, v.ownBlock = some g → u.ownBlock ≠ some g
  seen : RdX (RgOwn p qv vs) w 1 sv r.seen.length (r.seen.map (Value.int .i64))
  late : RdX (RgOwn p qv vs) w 6 lv r.late.length (drCells r.late)
  dep : ∀ d : Dr, (d ∈ r.late ∨ ∃ l ∈ r.qs, d ∈ l) → RdX (RgOwn p qv vs) w 1 d.dv d.dep.length (d.dep.map (Value.int .i64))
theorem RdX.anti {X X' : Nat → Prop} {w : World} {size : Nat} {v : Value} {n : Nat} {xs : List Value} (h : RdX X w size v n xs) (hX : ∀ g, X' g → X g) : RdX X' w size v n xs := ⟨h.1, fun h0 g hg e => h.2 h0 g hg (hX g e)⟩
theorem RdX.new {X : Nat → Prop} {w : World} {size : Nat} {v : Value} {n : Nat} {xs : List Value} (h : RdX X w size v n xs) (hs : 0 < size) : RdX (fun g => X g ∨ w.heap.size ≤ g) w size v n xs := h.grow hs (fun g e => e)
theorem Sl.set {w : World} {E : TypeId} {g off n cap : Nat} {cs : List Value} (hsl : Sl w E 1 (.slice (some ⟨g, off, none⟩) n cap) n cs) (k : Nat) (hk : k < n) (x : Value) :
    Sl (w.setCell ⟨g, off + k, none⟩ x) E 1 (.slice (some ⟨g, off, none⟩) n cap) n (cs.set k x) := by
  obtain ⟨hl, ao, cap', he, hn, hm, hz, hc⟩ := hsl
  cases he
  obtain ⟨g', off', ds, he, hg, hs, hx⟩ := hc (by omega)
  cases he
  refine ⟨by simpa using hl, _, cap, rfl, hn, hm, ⟨hz.1, fun a ha => by have := hz.2 a ha; simpa [World.setCell] using this⟩, fun _ => ⟨g, off, _, rfl, heap_setC x hg, by simpa using hs, fun j u hj => ?_⟩⟩
  rw [List.getElem?_set] at hj
  split at hj
  · rename_i e; subst e
    split at hj
    · cases hj; rw [Array.getElem?_setIfInBounds_self]; simp; omega
    · cases hj
  · rw [Array.getElem?_setIfInBounds_ne (by omega)]; exact hx j u hj
theorem fr_set (w : World) (g k : Nat) (x : Value) : Fr (fun i => i = g) w (w.setCell ⟨g, k, none⟩ x) := (Fr.refl (fun i => i = g) w).setCell (p := ⟨g, k, none⟩) (fun _ => rfl) x
section
variable {RT QT DT : TypeId} {w w' : World} {p : Nat} {r : Rg} {qv sv lv : Value} {vs : List Value}
theorem RgAt.vlen (h : RgAt RT QT DT w p r qv sv lv vs) : vs.length = r.qs.length := by have := h.qsl.1; omega
theorem RgAt.lt (h : RgAt RT QT DT w p r qv sv lv vs) : ∀ g, RgOwn p qv vs g → g < w.heap.size := by
  rintro g (rfl | e | ⟨v, hv, e⟩)
  · exact (Array.getElem?_eq_some_iff.1 h.cell).1
  · exact h.qsl.lt g e
  · obtain ⟨i, hi⟩ := List.getElem?_of_mem hv
    have hl : i < r.qs.length := by rw [← h.vlen]; exact (List.getElem?_eq_some_iff.1 hi).1
    exact (h.q i v r.qs[i] hi (by simp [hl])).lt g e
theorem RgAt.fr0 (h : RgAt RT QT DT w p r qv sv lv vs) (hf : Fr no w w') : RgAt RT QT DT w' p r qv sv lv vs :=
  ⟨hf.heap h.cell (fun f => f), h.qsl.fr hf (fun _ _ f => f), fun i v l h1 h2 => (h.q i v l h1 h2).fr hf (fun _ _ f => f), h.ap1, h.ap2, h.ap3, h.seen.fr hf (fun _ _ f => f.elim), h.late.fr hf (fun _ _ f => f.elim), fun d hd => (h.dep d hd).fr hf (fun _ _ f => f.elim)⟩
theorem RgAt.bk {B : Nat} (h : RgAt RT QT DT w p r qv sv lv vs) (hf : Bk B w w') : RgAt RT QT DT w' p r qv sv lv vs :=
  ⟨hf.heap h.cell rfl, h.qsl.bk hf, fun i v l h1 h2 => (h.q i v l h1 h2).bk hf, h.ap1, h.ap2, h.ap3, h.seen.bk hf, h.late.bk hf, fun d hd => (h.dep d hd).bk hf⟩
theorem RgAt.drok (h : RgAt RT QT DT w p r qv sv lv vs) {d : Dr} (hd : d ∈ r.late ∨ ∃ l ∈ r.qs, d ∈ l) : DrOk w d := (h.dep d hd).rd
/-- a draft more in a queue -/
theorem RgAt.put {w1 : World} {o : Obj} {gq oq cq i : Nat} {v v' : Value} {l : List Dr} {d : Dr} (h : RgAt RT QT DT w p r (.slice (some ⟨gq, oq, none⟩) r.qs.length cq) sv lv vs) (hv : vs[i]? = some v) (hl : r.qs[i]? = some l)
    (hd : RdX (RgOwn p (.slice (some ⟨gq, oq, none⟩) r.qs.length cq) vs) w 1 d.dv d.dep.length (d.dep.map (Value.int .i64)))
    (hs : Sl w1 DT 6 v' (l.length + 1) (drCells l ++ d.cs)) (hf : Fr (fun k => v.ownBlock = some k) (w.alloc o) w1) (hor : v'.ownBlock = v.ownBlock ∨ ∀ g, v'.ownBlock = some g → (w.alloc o).heap.size ≤ g) :
    RgAt RT QT DT (w1.setCell ⟨gq, oq + i, none⟩ v') p { r with qs := r.qs.set i (l ++ [d]) } (.slice (some ⟨gq, oq, none⟩) r.qs.length cq) sv lv (vs.set i v') ∧ Fr (RgOwn p (.slice (some ⟨gq, oq, none⟩) r.qs.length cq) vs) w (w1.setCell ⟨gq, oq + i, none⟩ v') := by
  have hvm := List.mem_of_getElem? hv
  have hil : i < vs.length := (List.getElem?_eq_some_iff.1 hv).1
  have hiq : i < r.qs.length := (List.getElem?_eq_some_iff.1 hl).1
  have f1 : Fr no w (w.alloc o) := (Fr.refl no w).alloc o
  have h1 := h.fr0 f1
  have f3 := fr_set w1 gq (oq + i) v'
  have hqb : Value.ownBlock (.slice (some ⟨gq, oq, none⟩) r.qs.length cq) = some gq := rfl
  have hvq : v.ownBlock ≠ some gq := (h.ap2 i v hv).2 gq hqb
  have hvp : v.ownBlock ≠ some p := (h.ap2 i v hv).1
  have hpq : p ≠ gq := fun e => h.ap1 (by rw [hqb, e])
  have hlt1 : ∀ g, RgOwn p (.slice (some ⟨gq, oq, none⟩) r.qs.length cq) vs g → g < (w.alloc o).heap.size := h1.lt
  have hgq : gq < (w.alloc o).heap.size := hlt1 gq (.inr (.inl hqb))
  have hpl : p < (w.alloc o).heap.size := hlt1 p (.inl rfl)
  have hv'q : v'.ownBlock ≠ some gq := fun e => by
    rcases hor with e1 | e1
    · exact hvq (e1 ▸ e)
    · have := e1 gq e; omega
  have hv'p : v'.ownBlock ≠ some p := fun e => by
    rcases hor with e1 | e1
    · exact hvp (e1 ▸ e)
    · have := e1 p e; omega
  have hfr : Fr (RgOwn p (.slice (some ⟨gq, oq, none⟩) r.qs.length cq) vs) w (w1.setCell ⟨gq, oq + i, none⟩ v') :=
    ((f1.mono (fun k _ e => e.elim)).trans (hf.mono (fun k _ e => .inr (.inr ⟨v, hvm, e⟩))) (fun k _ e => e)).trans (f3.mono (fun k _ e => .inr (.inl (by rw [e]; exact hqb)))) (fun k _ e => e)
  have hX : ∀ g, RgOwn p (.slice (some ⟨gq, oq, none⟩) r.qs.length cq) (vs.set i v') g → RgOwn p (.slice (some ⟨gq, oq, none⟩) r.qs.length cq) vs g ∨ w.heap.size ≤ g := by
    rintro g (e | e | ⟨u, hu, e⟩)
    · exact .inl (.inl e)
    · exact .inl (.inr (.inl e))
    · rcases List.mem_or_eq_of_mem_set hu with hu | rfl
      · exact .inl (.inr (.inr ⟨u, hu, e⟩))
      · rcases hor with e1 | e1
        · exact .inl (.inr (.inr ⟨v, hvm, e1 ▸ e⟩))
        · have := e1 g e; simp at this; exact .inr (by omega)
  have key : ∀ {size : Nat} {u : Value} {n : Nat} {xs : List Value}, 0 < size → RdX (RgOwn p (.slice (some ⟨gq, oq, none⟩) r.qs.length cq) vs) w size u n xs → RdX (RgOwn p (.slice (some ⟨gq, oq, none⟩) r.qs.length cq) (vs.set i v')) (w1.setCell ⟨gq, oq + i, none⟩ v') size u n xs := fun hz hx => by
    refine RdX.anti (X := fun g => RgOwn p (.slice (some ⟨gq, oq, none⟩) r.qs.length cq) vs g ∨ w.heap.size ≤ g) ?_ hX
    exact (hx.new hz).fr hfr (fun g _ e => .inl e)
  refine ⟨⟨?_, ?_, ?_, ?_, ?_, ?_, key (by decide) h.seen, key (by decide) h.late, fun x hx => ?_⟩, hfr⟩
  · exact f3.heap (hf.heap h1.cell hvp) hpq
  · have := (h1.qsl.fr hf (fun g hg e => by rw [hqb] at hg; exact hvq (by rw [hg]; exact e))).set i hiq v'
    simpa using this
  · intro j u k hu hk
    rw [List.getElem?_set] at hu hk
    by_cases hij : i = j
    · subst hij
      rw [if_pos rfl, if_pos hil] at hu
      rw [if_pos rfl, if_pos hiq] at hk
      cases hu; cases hk
      have := hs.fr f3 (fun g hg e => hv'q (by rw [hg, e]))
      simpa [drCells_append, drCells] using this
    · rw [if_neg hij] at hu hk
      exact ((h1.q j u k hu hk).fr hf (fun g hg e => h.ap3 i j v u hij hv hu g e hg)).fr f3 (fun g hg e => (h.ap2 j u hu).2 gq hqb (by rw [hg, e]))
  · exact h.ap1
  · intro j u hu
    rw [List.getElem?_set] at hu
    by_cases hij : i = j
    · subst hij
      rw [if_pos rfl, if_pos hil] at hu
      cases hu
      exact ⟨hv'p, fun g hg => by rw [hqb] at hg; cases hg; exact hv'q⟩
    · rw [if_neg hij] at hu
      exact h.ap2 j u hu
  · intro j k a b hjk ha hb g hg e
    rw [List.getElem?_set] at ha hb
    have old : ∀ (m : Nat) (u : Value), i ≠ m → vs[m]? = some u → ∀ g, v'.ownBlock = some g → u.ownBlock ≠ some g := fun m u hm hu g hg e => by
      rcases hor with e1 | e1
      · exact h.ap3 i m v u hm hv hu g (e1 ▸ hg) e
      · have := e1 g hg
        have := hlt1 g (.inr (.inr ⟨u, List.mem_of_getElem? hu, e⟩))
        omega
    by_cases hij : i = j
    · subst hij
      rw [if_pos rfl, if_pos hil] at ha
      rw [if_neg hjk] at hb
      cases ha
      exact old k b hjk hb g hg e
    · rw [if_neg hij] at ha
      by_cases hik : i = k
      · subst hik
        rw [if_pos rfl, if_pos hil] at hb
        cases hb
        exact old j a hij ha g e hg
      · rw [if_neg hik] at hb
        exact h.ap3 j k a b hjk ha hb g hg e
  · rcases hx with hx | ⟨k, hk, hx⟩
    · exact key (by decide) (h.dep x (.inl hx))
    · rcases List.mem_or_eq_of_mem_set hk with hk | rfl
      · exact key (by decide) (h.dep x (.inr ⟨k, hk, hx⟩))
      · rcases List.mem_append.1 hx with hx | hx
        · exact key (by decide) (h.dep x (.inr ⟨l, List.mem_of_getElem? hl, hx⟩))
        · simp at hx; subst hx; exact key (by decide) hd
end
end Go.XL
