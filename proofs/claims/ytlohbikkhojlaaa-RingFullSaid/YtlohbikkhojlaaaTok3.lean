/- Package token: Admit. -/
import Derived.Test.YtlohbikkhojlaaaTok2
namespace Go.XL
open Go.RowKit Go.Shelf
set_option linter.unusedVariables false
theorem drCells_one {w : World} {l : List Dr} (h : ∀ d ∈ l, DrOk w d) : ∀ u ∈ drCells l, u.oneCell' = true := by
  intro u hu
  obtain ⟨d, hd, hu⟩ := List.mem_flatMap.1 hu
  obtain ⟨ao, cap, hv, _, _⟩ := Rd.cap (h d hd)
  simp only [Dr.cs, List.mem_cons, List.not_mem_nil, or_false] at hu
  rcases hu with rfl | rfl | rfl | rfl | rfl | rfl <;> first | rfl | (rw [hv]; rfl)
theorem RdX.fr0' {X : Nat → Prop} {w w' : World} {size : Nat} {v : Value} {n : Nat} {xs : List Value} (h : RdX X w size v n xs) (hf : Fr no w w') : RdX X w' size v n xs := h.fr hf (fun _ _ f => f.elim)
/-- Admit's memory between two rounds: b the token's block, b + 1 the result's -/
structure AdI (TT TD TS : TypeId) (w wr : World) (own : Int) (sv0 : Value) (a : AS) (sv lv ov lv0 : Value) : Prop where
  tk : wr.heap[w.heap.size]? = some (.cells #[.int .i64 own, .int .i64 a.next, sv, lv0] TT (0, 0))
  res : wr.heap[w.heap.size + 1]? = some (.cells #[.int .i64 0, .int .i64 0, .slice none 0 0, .slice none 0 0] TT (0, 0))
  seen : RdX (fun g => lv.ownBlock = some g ∨ ov.ownBlock = some g ∨ g = w.heap.size ∨ g = w.heap.size + 1) wr 1 sv a.seen.length (a.seen.map (Value.int .i64))
  left : Sl wr TD 6 lv a.left.length (drCells a.left)
  out : Sl wr TS 7 ov a.out.length (slCells a.out)
  ap : ∀ g, lv.ownBlock = some g → ov.ownBlock ≠ some g
  lvb : ∀ g, lv.ownBlock = some g → w.heap.size + 2 ≤ g
  ovb : ∀ g, ov.ownBlock = some g → w.heap.size + 2 ≤ g
  fr : Fr no w wr
  svo : sv = sv0 ∨ ∀ g, sv.ownBlock = some g → w.heap.size ≤ g
theorem AdI.fr0 {TT TD TS : TypeId} {w wr w' : World} {own : Int} {sv0 : Value} {a : AS} {sv lv ov lv0 : Value} (h : AdI TT TD TS w wr own sv0 a sv lv ov lv0) (hf : Fr no wr w') : AdI TT TD TS w w' own sv0 a sv lv ov lv0 :=
  ⟨hf.heap h.tk (fun f => f), hf.heap h.res (fun f => f), h.seen.fr0' hf, h.left.fr hf (fun _ _ f => f), h.out.fr hf (fun _ _ f => f), h.ap, h.lvb, h.ovb, h.fr.trans' hf, h.svo⟩
theorem AdI.app {TT TD TS : TypeId} {w wr w' : World} {own : Int} {sv0 : Value} {a : AS} {sv lv ov ov' lv0 : Value} {x : Int × Dr} {o : Obj} (h : AdI TT TD TS w wr own sv0 a sv lv ov lv0)
    (hs : Sl w' TS 7 ov' (a.out.length + 1) (slCells a.out ++ (.int .i64 x.1 :: x.2.cs))) (hf : Fr (fun k => ov.ownBlock = some k) (wr.alloc o) w') (hor : ov'.ownBlock = ov.ownBlock ∨ ∀ g, ov'.ownBlock = some g → (wr.alloc o).heap.size ≤ g) :
    AdI TT TD TS w w' own sv0 { a with out := a.out ++ [x] } sv lv ov' lv0 := by
  have h1 := h.fr0 ((Fr.refl no wr).alloc o)
  have hT := h1.tk
  have hlt := (Array.getElem?_eq_some_iff.1 hT).1
  have hlr := (Array.getElem?_eq_some_iff.1 h1.res).1
  have hne : ∀ k, k < w.heap.size + 2 → ¬ ov.ownBlock = some k := fun k hk e => by have := h.ovb k e; omega
  have hnew : ∀ g, ov'.ownBlock = some g → ov.ownBlock = some g ∨ (wr.alloc o).heap.size ≤ g := fun g hg => hor.elim (fun e => .inl (e ▸ hg)) (fun e => .inr (e g hg))
  refine ⟨hf.heap hT (hne _ (by omega)), hf.heap h1.res (hne _ (by omega)), ?_, h1.left.fr hf (fun g hg e => h.ap g hg e), ?_, fun g hg e => ?_, h.lvb, fun g hg => ?_, h1.fr.trans hf (fun i hi e => hne i (by omega) e), h.svo⟩
  · refine ⟨(h1.seen.fr hf (fun g _ e => .inr (.inl e))).rd, fun h0 g hg e => ?_⟩
    rcases e with e | e | e
    · exact h1.seen.2 h0 g hg (.inl e)
    · rcases hnew g e with e | e
      · exact h1.seen.2 h0 g hg (.inr (.inl e))
      · obtain ⟨g', off, cap, rfl, _, _, hc⟩ := h1.seen.rd.form h0
        have h3 : 0 < a.seen.length := h0
        have h2 := World.block_lt_of_cell? _ _ (hc 0 (.int .i64 a.seen[0]) (by simp [h3]))
        simp [Value.ownBlock] at hg h2 e
        omega
    · exact h1.seen.2 h0 g hg (.inr (.inr e))
  · rw [List.length_append, slCells_append]
    simpa [slCells] using hs
  · rcases hnew g e with e | e
    · exact h.ap g hg e
    · have := h1.left.lt g hg; omega
  · rcases hnew g hg with e | e
    · exact h.ovb g e
    · omega
theorem AdI.setNext {TT TD TS : TypeId} {w wr : World} {own : Int} {sv0 : Value} {a : AS} {sv lv ov lv0 : Value} (h : AdI TT TD TS w wr own sv0 a sv lv ov lv0) (x : Int) :
    AdI TT TD TS w (wr.setCell ⟨w.heap.size, 1, none⟩ (.int .i64 x)) own sv0 { a with next := x } sv lv ov lv0 := by
  have hf : Fr (fun i => i = w.heap.size) wr (wr.setCell ⟨w.heap.size, 1, none⟩ (.int .i64 x)) := (Fr.refl (fun i => i = w.heap.size) wr).setCell (p := ⟨w.heap.size, 1, none⟩) (fun _ => rfl) _
  exact ⟨by simpa using heap_setC (j := 1) (.int .i64 x) h.tk, hf.heap h.res (by omega), h.seen.fr hf (fun g _ e => .inr (.inr (.inl e))), h.left.fr hf (fun g hg e => by have := h.lvb g hg; omega),
    h.out.fr hf (fun g hg e => by have := h.ovb g hg; omega), h.ap, h.lvb, h.ovb, h.fr.trans hf (fun i hi e => by omega), h.svo⟩
theorem AdI.setSeen {TT TD TS E : TypeId} {w wr wr' : World} {own : Int} {sv0 : Value} {a : AS} {sv sv' lv ov lv0 : Value} {seen' : List Int} (h : AdI TT TD TS w wr own sv0 a sv lv ov lv0) (hs : Ow wr wr' E 1 sv' seen'.length (seen'.map (Value.int .i64))) :
    AdI TT TD TS w (wr'.setCell ⟨w.heap.size, 2, none⟩ sv') own sv0 { a with seen := seen' } sv' lv ov lv0 := by
  have h1 := h.fr0 hs.fr
  have hlt := (Array.getElem?_eq_some_iff.1 h.tk).1
  have hlr := (Array.getElem?_eq_some_iff.1 h.res).1
  have hf : Fr (fun i => i = w.heap.size) wr' (wr'.setCell ⟨w.heap.size, 2, none⟩ sv') := (Fr.refl (fun i => i = w.heap.size) wr').setCell (p := ⟨w.heap.size, 2, none⟩) (fun _ => rfl) _
  have hx : RdX (fun g => lv.ownBlock = some g ∨ ov.ownBlock = some g ∨ g = w.heap.size ∨ g = w.heap.size + 1) wr' 1 sv' seen'.length (seen'.map (Value.int .i64)) := hs.rdx (fun g e => by
    rcases e with e | e | e
    · exact h.left.lt g e
    · exact h.out.lt g e
    · omega)
  exact ⟨by simpa using heap_setC (j := 2) sv' h1.tk, hf.heap h1.res (by omega), hx.fr hf (fun g _ e => .inr (.inr (.inl e))), h1.left.fr hf (fun g hg e => by have := h.lvb g hg; omega),
    h1.out.fr hf (fun g hg e => by have := h.ovb g hg; omega), h.ap, h.lvb, h.ovb, h1.fr.trans hf (fun i hi e => by omega), .inr (fun g hg => Nat.le_trans h.fr.size (hs.fresh g hg))⟩
theorem AdI.del {TT TD TS : TypeId} {w wr w' : World} {own : Int} {sv0 : Value} {a : AS} {sv lv lv' ov lv0 : Value} {left' : List Dr} (h : AdI TT TD TS w wr own sv0 a sv lv ov lv0)
    (hs : Sl w' TD 6 lv' left'.length (drCells left')) (hf : Fr (fun k => lv.ownBlock = some k) wr w') (hb : lv'.ownBlock = lv.ownBlock) : AdI TT TD TS w w' own sv0 { a with left := left' } sv lv' ov lv0 := by
  have hne : ∀ k, k < w.heap.size + 2 → ¬ lv.ownBlock = some k := fun k hk e => by have := h.lvb k e; omega
  exact ⟨hf.heap h.tk (hne _ (by omega)), hf.heap h.res (hne _ (by omega)), by rw [hb]; exact h.seen.fr hf (fun g _ e => .inl e), hs, h.out.fr hf (fun g hg e => h.ap g e hg), by rw [hb]; exact h.ap, by rw [hb]; exact h.lvb, h.ovb, h.fr.trans hf (fun i hi e => hne i (by omega) e), h.svo⟩
theorem RdX.grow {X X' : Nat → Prop} {w : World} {size : Nat} {v : Value} {n : Nat} {xs : List Value} (h : RdX X w size v n xs) (hs : 0 < size) (hX : ∀ g, X' g → X g ∨ w.heap.size ≤ g) : RdX X' w size v n xs := by
  refine ⟨h.1, fun h0 g hg e => ?_⟩
  rcases hX g e with e | e
  · exact h.2 h0 g hg e
  · have hl := h.1.1
    obtain ⟨g', off, cap, rfl, _, _, hc⟩ := h.rd.form h0
    have h1 : 0 < xs.length := by rw [hl]; exact Nat.mul_pos h0 hs
    have h2 := World.block_lt_of_cell? _ _ (hc 0 xs[0] (by simp [h1]))
    simp [Value.ownBlock] at hg h2
    omega
/-- Admit's memory while those who wait on are told -/
structure LtI (TT TD TS : TypeId) (w wr : World) (own : Int) (sv0 : Value) (a : AS) (sv lv ov tv : Value) (acc : List Dr) : Prop where
  tk : wr.heap[w.heap.size]? = some (.cells #[.int .i64 own, .int .i64 a.next, sv, tv] TT (0, 0))
  res : wr.heap[w.heap.size + 1]? = some (.cells #[.int .i64 0, .int .i64 0, .slice none 0 0, .slice none 0 0] TT (0, 0))
  seen : RdX (fun g => tv.ownBlock = some g ∨ g = w.heap.size ∨ g = w.heap.size + 1) wr 1 sv a.seen.length (a.seen.map (Value.int .i64))
  left : RdX (fun g => tv.ownBlock = some g ∨ g = w.heap.size ∨ g = w.heap.size + 1) wr 6 lv a.left.length (drCells a.left)
  out : RdX (fun g => tv.ownBlock = some g ∨ g = w.heap.size ∨ g = w.heap.size + 1) wr 7 ov a.out.length (slCells a.out)
  acc : Sl wr TD 6 tv acc.length (drCells acc)
  tvb : ∀ g, tv.ownBlock = some g → w.heap.size + 2 ≤ g
  fr : Fr no w wr
  ovb : ∀ g, ov.ownBlock = some g → w.heap.size + 2 ≤ g
  svo : sv = sv0 ∨ ∀ g, sv.ownBlock = some g → w.heap.size ≤ g
theorem LtI.fr0 {TT TD TS : TypeId} {w wr w' : World} {own : Int} {sv0 : Value} {a : AS} {sv lv ov tv : Value} {acc : List Dr} (h : LtI TT TD TS w wr own sv0 a sv lv ov tv acc) (hf : Fr no wr w') : LtI TT TD TS w w' own sv0 a sv lv ov tv acc :=
  ⟨hf.heap h.tk (fun f => f), hf.heap h.res (fun f => f), h.seen.fr0' hf, h.left.fr0' hf, h.out.fr0' hf, h.acc.fr hf (fun _ _ f => f), h.tvb, h.fr.trans' hf, h.ovb, h.svo⟩
theorem AdI.ends {TT TD TS : TypeId} {w wr : World} {own : Int} {sv0 : Value} {a : AS} {sv lv ov lv0 : Value} (h : AdI TT TD TS w wr own sv0 a sv lv ov lv0) :
    LtI TT TD TS w (wr.setCell ⟨w.heap.size, 3, none⟩ (.slice none 0 0)) own sv0 a sv lv ov (.slice none 0 0) [] := by
  have hf : Fr (fun i => i = w.heap.size) wr (wr.setCell ⟨w.heap.size, 3, none⟩ (.slice none 0 0)) := (Fr.refl (fun i => i = w.heap.size) wr).setCell (p := ⟨w.heap.size, 3, none⟩) (fun _ => rfl) _
  have hX : ∀ g, (Value.ownBlock (.slice none 0 0) = some g ∨ g = w.heap.size ∨ g = w.heap.size + 1) → g = w.heap.size ∨ g = w.heap.size + 1 := fun g e => e.elim (fun e => by simp [Value.ownBlock] at e) (fun e => e)
  refine ⟨by simpa using heap_setC (j := 3) (.slice none 0 0) h.tk, hf.heap h.res (by omega), ?_, ?_, ?_, by simpa [drCells] using Sl.nil _ _ _, fun g e => by simp [Value.ownBlock] at e, h.fr.trans hf (fun i hi e => by omega), h.ovb, h.svo⟩
  · exact RdX.fr (h.seen.grow (by decide) (fun g e => .inl (.inr (.inr (hX g e))))) hf (fun g _ e => .inr (.inl e))
  · exact RdX.fr (X := fun g => Value.ownBlock (.slice none 0 0) = some g ∨ g = w.heap.size ∨ g = w.heap.size + 1) ⟨h.left.rd, fun _ g hg e => by have := h.lvb g hg; have := hX g e; omega⟩ hf (fun g _ e => .inr (.inl e))
  · exact RdX.fr (X := fun g => Value.ownBlock (.slice none 0 0) = some g ∨ g = w.heap.size ∨ g = w.heap.size + 1) ⟨h.out.rd, fun _ g hg e => by have := h.ovb g hg; have := hX g e; omega⟩ hf (fun g _ e => .inr (.inl e))
theorem LtI.app {TT TD TS : TypeId} {w wr w' : World} {own : Int} {sv0 : Value} {a : AS} {sv lv ov tv tv' : Value} {acc : List Dr} {x : Dr} {o : Obj} (h : LtI TT TD TS w wr own sv0 a sv lv ov tv acc)
    (hs : Sl w' TD 6 tv' (acc.length + 1) (drCells acc ++ x.cs)) (hf : Fr (fun k => tv.ownBlock = some k) (wr.alloc o) w') (hor : tv'.ownBlock = tv.ownBlock ∨ ∀ g, tv'.ownBlock = some g → (wr.alloc o).heap.size ≤ g) :
    LtI TT TD TS w (w'.setCell ⟨w.heap.size, 3, none⟩ tv') own sv0 a sv lv ov tv' (acc ++ [x]) := by
  have h1 := h.fr0 ((Fr.refl no wr).alloc o)
  have hne : ∀ k, k < w.heap.size + 2 → ¬ tv.ownBlock = some k := fun k hk e => by have := h.tvb k e; omega
  have hnew : ∀ g, tv'.ownBlock = some g → tv.ownBlock = some g ∨ (wr.alloc o).heap.size ≤ g := fun g hg => hor.elim (fun e => .inl (e ▸ hg)) (fun e => .inr (e g hg))
  have hlr := (Array.getElem?_eq_some_iff.1 h1.res).1
  have hX : ∀ g, (tv'.ownBlock = some g ∨ g = w.heap.size ∨ g = w.heap.size + 1) → (tv.ownBlock = some g ∨ g = w.heap.size ∨ g = w.heap.size + 1) ∨ (wr.alloc o).heap.size ≤ g := fun g e => e.elim (fun e => (hnew g e).elim (fun e => .inl (.inl e)) .inr) (fun e => .inl (.inr e))
  have hb' : ∀ g, tv'.ownBlock = some g → w.heap.size + 2 ≤ g := fun g e => (hnew g e).elim (h.tvb g) (fun e => by omega)
  have hst : Fr (fun i => i = w.heap.size) w' (w'.setCell ⟨w.heap.size, 3, none⟩ tv') := (Fr.refl (fun i => i = w.heap.size) w').setCell (p := ⟨w.heap.size, 3, none⟩) (fun _ => rfl) _
  have key : ∀ {size : Nat} {v : Value} {n : Nat} {xs : List Value}, 0 < size → RdX (fun g => tv.ownBlock = some g ∨ g = w.heap.size ∨ g = w.heap.size + 1) (wr.alloc o) size v n xs → RdX (fun g => tv'.ownBlock = some g ∨ g = w.heap.size ∨ g = w.heap.size + 1) (w'.setCell ⟨w.heap.size, 3, none⟩ tv') size v n xs :=
    fun hs h2 => RdX.fr (X := fun g => tv'.ownBlock = some g ∨ g = w.heap.size ∨ g = w.heap.size + 1) ⟨(h2.fr hf (fun g _ e => .inl e)).1, (h2.grow hs hX).2⟩ hst (fun g _ e => .inr (.inl e))
  refine ⟨by simpa using heap_setC (j := 3) tv' (hf.heap h1.tk (hne _ (by omega))), hst.heap (hf.heap h1.res (hne _ (by omega))) (by omega), key (by decide) h1.seen, key (by decide) h1.left, key (by decide) h1.out, ?_, hb',
    (h1.fr.trans hf (fun i hi e => hne i (by omega) e)).trans hst (fun i hi e => by omega), h.ovb, h.svo⟩
  have := hs.fr hst (fun g hg e => by have := hb' g hg; omega)
  rw [List.length_append, drCells_append]
  simpa [drCells] using this
theorem alate_mem {own : Int} {seen : List Int} : ∀ (l acc : List Dr) (x : Dr), x ∈ alate own seen l acc → x ∈ l ∨ x ∈ acc := by
  intro l
  induction l with
  | nil => exact fun acc x h => .inr h
  | cons d r ih =>
    intro acc x h
    rcases ih _ x h with h | h
    · exact .inl (List.mem_cons_of_mem _ h)
    · split at h
      · exact .inr h
      · rcases List.mem_append.1 h with h | h
        · exact .inr h
        · exact .inl (by simp at h; simp [h])
theorem alate_len {own : Int} {seen : List Int} : ∀ (l acc : List Dr), (alate own seen l acc).length ≤ l.length + acc.length := by
  intro l
  induction l with
  | nil => intro acc; simp [alate]
  | cons d r ih =>
    intro acc
    have := ih (if dgone own seen d acc = true then acc else acc ++ [d])
    rw [alate]
    split at this
    · rename_i h; rw [if_pos h]; simp; omega
    · rename_i h; rw [if_neg h]; simp at this ⊢; omega
theorem alate_drop {own : Int} {seen : List Int} {l : List Dr} {k : Nat} {d : Dr} (h : l[k]? = some d) (acc : List Dr) : alate own seen (l.drop k) acc = alate own seen (l.drop (k + 1)) (if dgone own seen d acc = true then acc else acc ++ [d]) := by
  obtain ⟨hk, hx⟩ := List.getElem?_eq_some_iff.1 h
  rw [List.drop_eq_getElem_cons hk, hx]
  rfl
/-- a literal of one element -/
theorem rd_lit1 (w : World) (E : TypeId) (cs : List Value) : Rd (w.alloc (.cells cs.toArray E)) cs.length (.slice (some ⟨w.heap.size, 0, none⟩) 1 1) 1 cs := by
  refine ⟨by simp, _, 1, rfl, Nat.le_refl _, by simp [maxLen], by simp, fun h0 => ⟨w.heap.size, 0, rfl, fun j u hj => ?_⟩⟩
  exact cell_of_block (World.alloc_heap_new w (.cells cs.toArray E)) (by simpa using hj)
/-- numbers, drafts between two rounds -/
structure AdP (w : World) (n : Nat) (next : Int) (a : AS) : Prop where
  cnt : a.left.length + a.out.length = n
  nx : a.next = next + a.out.length
  sk : SeenOk a.seen
  sl : a.seen.length ≤ 1000
  lk : ∀ d ∈ a.left, DrOk w d ∧ 0 ≤ d.q ∧ d.q ≤ 1048576
  ok : ∀ x ∈ a.out, DrOk w x.2
theorem vwith_ok {l : List Int} {i x : Int} (h : SeenOk l) (hx : 0 ≤ x ∧ x ≤ 1048576) : SeenOk (vwith l i x) := by
  unfold vwith
  split
  · exact h
  · intro y hy
    rcases List.mem_or_eq_of_mem_set hy with hy | rfl
    · rcases List.mem_append.1 hy with hy | hy
      · exact h y hy
      · rw [List.mem_replicate] at hy; omega
    · exact hx
theorem vwith_len {l : List Int} {i x : Int} (h : l.length ≤ 1000) : (vwith l i x).length ≤ 1000 := by
  unfold vwith
  split
  · exact h
  · simp; omega
theorem dfix_q {own : Int} {seen : List Int} {d : Dr} (hs : SeenOk seen) (hm : dmay own seen d = true) (hq : 0 ≤ d.q ∧ d.q ≤ 1048576) : 0 ≤ (dfix own seen d).q ∧ (dfix own seen d).q ≤ 1048576 := by
  unfold dfix
  have := vget_ok hs own
  split
  · rename_i h
    unfold dmay at hm
    rw [if_pos h] at hm
    simp at hm
    rw [h] at hm
    dsimp only
    omega
  · exact hq
theorem AdP.step {w : World} {n : Nat} {next own : Int} {a : AS} {i : Nat} {d : Dr} (h : AdP w n next a) (hi : a.left[i]? = some d) (hm : dmay own a.seen d = true) : AdP w n next (astep own a i d) := by
  have hlt := (List.getElem?_eq_some_iff.1 hi).1
  have hd := h.lk d (List.mem_of_getElem? hi)
  refine ⟨?_, ?_, vwith_ok h.sk (dfix_q h.sk hm hd.2), vwith_len h.sl, fun x hx => h.lk x (List.mem_of_mem_eraseIdx hx), fun x hx => ?_⟩
  · have := h.cnt; simp only [astep, List.length_append, List.length_eraseIdx_of_lt hlt, List.length_cons, List.length_nil]; omega
  · have := h.nx; simp only [astep, List.length_append, List.length_cons, List.length_nil]; omega
  · rcases List.mem_append.1 hx with hx | hx
    · exact h.ok x hx
    · simp at hx
      subst hx
      unfold dfix
      dsimp only
      split
      · exact hd.1
      · exact hd.1
/-- what Admit gives -/
structure AdR (w w' : World) (own next : Int) (n : Nat) (R : AS) (sv0 sv tv ov : Value) : Prop where
  seen : IntsAt w' sv R.seen
  late : DrsAt w' tv (alate own R.seen R.left [])
  out : Rd w' 7 ov R.out.length (slCells R.out)
  p : AdP w n next R
  fr : Fr no w w'
  svo : sv = sv0 ∨ ∀ g, sv.ownBlock = some g → w.heap.size ≤ g
  tvo : ∀ g, tv.ownBlock = some g → w.heap.size ≤ g
  ovo : ∀ g, ov.ownBlock = some g → w.heap.size ≤ g
end Go.XL
namespace Go.Proofs.Ytlohbikkhojlaaa
open Go.RowKit Go.Shelf Go.XL
set_option linter.unusedVariables false
set_option linter.unusedSimpArgs false
attribute [local go_sem] Oper.semAt_some
abbrev LtT := LtI 43 34 40
abbrev AdT := AdI 43 34 40

set_option maxRecDepth 100000 in
set_option maxHeartbeats 4000000 in
theorem tAdmit (own next : Int) (sv v0 v1 : Value) (seen : List Int) (late l : List Dr) (w : World) (hs : IntsAt w sv seen) (ho : SeenOk seen) (h0 : DrsAt w v0 late) (h1 : DrsAt w v1 l) (hd : ∀ d ∈ late ++ l, DrOk w d) (hq : ∀ d ∈ late ++ l, 0 ≤ d.q ∧ d.q ≤ 1048576)
    (hn : late.length + l.length ≤ 1000) (hsl : seen.length ≤ 1000) (hnx0 : 0 ≤ next) (hnx : next ≤ 1099511627776) :
    Calls Try.prog 30 #[tkV own next sv v0, v1] w fun e w' => ∃ sv' tv' ov', e = .returned (.tuple #[tkV own (ago own (late.length + l.length) ⟨next, seen, late ++ l, []⟩).next sv' tv', ov']) ∧ AdR w w' own next (late.length + l.length) (ago own (late.length + l.length) ⟨next, seen, late ++ l, []⟩) sv sv' tv' ov' := by
  obtain ⟨so, sc, rfl, _, _⟩ := hs.cap
  obtain ⟨a0, c0, rfl, _, _⟩ := h0.cap
  obtain ⟨a1, c1, rfl, _, _⟩ := h1.cap
  have hf2 : Fr no w ((w.alloc (.cells #[.int .i64 own, .int .i64 next, .slice so seen.length sc, .slice a0 late.length c0] 43)).alloc (.cells #[.int .i64 0, .int .i64 0, .slice none 0 0, .slice none 0 0] 43)) := ((Fr.refl no w).alloc _).alloc _
  have hone : ∀ u ∈ drCells late, u.oneCell' = true := drCells_one (fun d h => hd d (by simp [h]))
  have hcl := clone_drafts _ _ _ _ (Rd.fr h0 hf2 (fun _ _ _ f => f)) hone (by omega)
  have Hcl := Lib.hid hcl
  have Hs := Lib.hid hs
  have H1 : Hid (Rd w 6 (.slice a1 l.length c1) l.length (drCells l)) := Lib.hid h1
  have Hd := Lib.hid hd
  have Hq := Lib.hid hq
  have HF2 := Lib.hid hf2
  clear hcl hs h0 h1 hd hq hf2 hone
  unfold tkV
  go_enter Try.func30, Try.ntmps30
  go_wp2_with fail
  go_step3
  go_wp2_with fail
  refine Hcl.out.mono ?_
  rintro e w2 ⟨ao2, cap2, rfl, hO⟩
  have HO := Lib.hid hO
  obtain ⟨i0, hi0, hz0', hz1', hz2'⟩ := info_parts (show (Try.prog.info? 34).map (fun i => (i.zero, i.size, i.bytes)) = some (some (.agg #[.int .i64 0, .int .i64 0, .int .i64 0, .slice none 0 0, .string ByteArray.empty, .string ByteArray.empty]), 6, 80) by kernel_rfl)
  have hone : ∀ u ∈ drCells l, u.oneCell' = true := drCells_one (fun d h => Hd.out d (by simp [h]))
  have Hone := Lib.hid hone
  clear hO Hcl hone
  generalize hn0 : late.length = n0 at *
  generalize hn1 : l.length = n1 at *
  have Hn0 := Lib.hid hn0
  have Hn1 := Lib.hid hn1
  clear hn0 hn1
  go_wp2_with (at_builtin; refine wpList_append_all w2 rfl _ _ 41 rfl 34 i0 _ 6 80 Try.underlying41 hi0 hz0' hz1' hz2' rfl (by decide) _ _ _ rfl HO.out.sl _ _ _ rfl (H1.out.fr (HF2.out.trans' HO.out.fr) (fun _ _ _ f => f)) Hone.out (by unfold maxLen; omega) (by omega) ?_)
  intro ao3 cap3 w3 hs3 hf3 ho3 _
  have hO3 := HO.out.app hs3 hf3 ho3
  have hI : AdT w w3 own (.slice so seen.length sc) ⟨next, seen, late ++ l, []⟩ (.slice so seen.length sc) (.slice ao3 (n0 + n1) cap3) (.slice none 0 0) (.slice a0 n0 c0) := by
    have hfr : Fr no w w3 := HF2.out.trans' hO3.fr
    have hb : ∀ (A B : Obj) (o : Obj) (k : Nat), Fr no ((w.alloc A).alloc B) w3 → ((w.alloc A).alloc B).heap[k]? = some o → w3.heap[k]? = some o := fun A B o k hf h => hf.heap h (fun f => f)
    refine ⟨hb _ _ _ _ hO3.fr (by simp only [alloc_get, World.size_alloc, Nat.add_assoc]; simp), hb _ _ _ _ hO3.fr (by simp only [alloc_get, World.size_alloc, Nat.add_assoc]; simp), ?_, ?_, ?_, ?_, ?_, ?_, hfr, .inl rfl⟩
    · exact (Hs.out.x (by decide) (fun g hg => by
        rcases hg with e | e | e
        · have := hO3.fresh g e; simp at this; omega
        · simp [Value.ownBlock] at e
        · omega)).fr0' hfr
    · rw [List.length_append, Hn0.out, Hn1.out, drCells_append]; exact hs3
    · simpa [slCells] using Sl.nil _ _ _
    · intro g _ e; simp [Value.ownBlock] at e
    · intro g hg; have := hO3.fresh g hg; simp at this; omega
    · intro g e; simp [Value.ownBlock] at e
  have HI := Lib.hid hI
  have hP : AdP w (n0 + n1) next ⟨next, seen, late ++ l, []⟩ := ⟨by rw [List.length_append, Hn0.out, Hn1.out]; rfl, by simp, ho, hsl, fun d h => ⟨Hd.out d h, Hq.out d h⟩, fun x h => by simp at h⟩
  have HP := Lib.hid hP
  have hR : ∃ R, ago own (n0 + n1) ⟨next, seen, late ++ l, []⟩ = R := ⟨_, rfl⟩
  obtain ⟨R, hR⟩ := hR
  have HR := Lib.hid hR
  clear hs3 hf3 ho3 hO3 hI HO hi0 hz0' hz1' hz2' Hone hP hR
  go_wp2_with fail
  go_step3
  go_wp2_with fail
  go_loopw [6, 7] (fun lv ov wr => ∃ (a : AS) (sv : Value) (lo : Option Addr) (lc : Nat) (oo : Option Addr) (oc : Nat), lv = .slice lo a.left.length lc ∧ ov = .slice oo a.out.length oc ∧ Hid (AdT w wr own (.slice so seen.length sc) a sv lv ov (.slice a0 n0 c0)) ∧ Hid (AdP w (n0 + n1) next a) ∧ Hid (ago own a.left.length a = R)) (fun lv _ _ => vlen lv)
  case atStart =>
    refine ⟨_, _, ao3, cap3, none, 0, ?_, rfl, HI, HP, ?_⟩
    · rw [List.length_append, Hn0.out, Hn1.out]
    · rw [List.length_append, Hn0.out, Hn1.out]; exact HR
  case round =>
    obtain ⟨a, sv, lo, lc, oo, oc, rfl, rfl, hA, hB, hC⟩ := hrel
    generalize wr = W at *
    obtain ⟨so2, sc2, hsv, hsc1, hsc2⟩ := hA.out.seen.rd.cap
    obtain ⟨_, _, hlv, hlc1, hlc2⟩ := hA.out.left.cap
    cases hlv
    obtain ⟨_, _, hov, hoc1, hoc2⟩ := hA.out.out.cap
    cases hov
    subst hsv
    go_wp2_with fail
    go_loopw [6, 7, 19] (fun lv ov iv wr => ∃ i : Nat, i ≤ a.left.length ∧ lv = .slice lo a.left.length lc ∧ ov = .slice oo a.out.length oc ∧ iv = .int .i64 i ∧ Hid (AdT w wr own (.slice so seen.length sc) a (.slice so2 a.seen.length sc2) (.slice lo a.left.length lc) (.slice oo a.out.length oc) (.slice a0 n0 c0)) ∧ Hid (afirst (dmay own a.seen) a.left 0 = afirst (dmay own a.seen) (a.left.drop i) i)) (fun _ _ iv _ => a.left.length - (intOf iv).toNat)
    case atStart => exact ⟨0, Nat.zero_le _, rfl, rfl, rfl, hA, Lib.hid rfl⟩
    clear hA
    case round =>
      obtain ⟨i, hi, rfl, rfl, rfl, hA, hF⟩ := hrel
      generalize wr = U at *
      by_cases hlt : i < a.left.length
      · obtain ⟨d, hdk⟩ : ∃ x, a.left[i]? = some x := ⟨a.left[i], by simp [hlt]⟩
        obtain ⟨hdo, hdq0, hdq1⟩ := hB.out.lk d (List.mem_of_getElem? hdk)
        obtain ⟨g, off, c', he, e0, e1, e2, e3, e4, e5⟩ := drs_cells hA.out.left.rd hdk
        cases he
        have t0 : U.cell? ⟨w.heap.size, 0, none⟩ = some (.int .i64 own) := cell_of_block hA.out.tk rfl
        have t1 : U.cell? ⟨w.heap.size, 1, none⟩ = some (.int .i64 a.next) := cell_of_block hA.out.tk rfl
        have t2 : U.cell? ⟨w.heap.size, 2, none⟩ = some (.slice so2 a.seen.length sc2) := cell_of_block hA.out.tk rfl
        have t3 : U.cell? ⟨w.heap.size, 3, none⟩ = some (.slice a0 n0 c0) := cell_of_block hA.out.tk rfl
        have htb : w.heap.size < U.heap.size := (Array.getElem?_eq_some_iff.1 hA.out.tk).1
        have hmay := fun (U' : World) (hf : Fr no U U') => tMay own a.next (.slice so2 a.seen.length sc2) (.slice a0 n0 c0) a.seen d U' (hA.out.seen.rd.fr hf (fun _ _ _ f => f)) (Rd.fr hdo (hA.out.fr.trans' hf) (fun _ _ _ f => f)) hB.out.sk
        obtain ⟨dt, ds, dq, dv, dep, dk, dx⟩ := d
        obtain ⟨dO, dc, hdv, _, _⟩ := Rd.cap hdo
        dsimp only at *
        subst hdv
        unfold tkV Dr.v at hmay
        dsimp only at hmay
        have Hmay := Lib.hid hmay
        have Hdk := Lib.hid hdk
        have Hdo := Lib.hid hdo
        clear hmay hdk hdo
        go_wp2_with fail
        have hfa : Fr no U (U.alloc (.cells #[.int .i64 dt, .int .i64 ds, .int .i64 dq, .slice dO dep.length dc, .string dk, .string dx] 34)) := (Fr.refl no U).alloc _
        have hba : (U.alloc (.cells #[.int .i64 dt, .int .i64 ds, .int .i64 dq, .slice dO dep.length dc, .string dk, .string dx] 34)).heap[U.heap.size]? = some (.cells #[.int .i64 dt, .int .i64 ds, .int .i64 dq, .slice dO dep.length dc, .string dk, .string dx] 34 (0, 0)) := World.alloc_heap_new U _
        refine (Hmay.out _ hfa).mono ?_
        rintro e w4 ⟨rfl, hf4⟩
        have hb4 := hf4.heap hba (fun f => f)
        have A4 := Lib.hid (hA.out.fr0 (hfa.trans' hf4))
        have hF2 := hF.out.trans (afirst_some Hdk.out)
        have HU := hA
        have HFU := Lib.hid (hfa.trans' hf4)
        have hT4 := A4.out.tk
        clear hf4 hfa hba Hmay hA hF t0 t1 t2 t3 e0 e1 e2 e3 e4 e5
        cases hm : dmay own a.seen ⟨dt, ds, dq, .slice dO dep.length dc, dep, dk, dx⟩
        · rw [hm, if_neg (by decide)] at hF2
          have HF2' := Lib.hid hF2
          clear hF2 hm hb4
          go_wp2
          go_roundw
          case rel => exact ⟨i + 1, by omega, rfl, rfl, by go_num, A4, HF2'⟩
          case measure => simp [intOf]; omega
        · rw [hm, if_pos rfl] at hF2
          have HF2' := Lib.hid hF2
          have Hm := Lib.hid hm
          clear hF2 hm
          have t0 : w4.cell? ⟨w.heap.size, 0, none⟩ = some (.int .i64 own) := cell_of_block hT4 rfl
          have t1 : w4.cell? ⟨w.heap.size, 1, none⟩ = some (.int .i64 a.next) := cell_of_block hT4 rfl
          have t2 : w4.cell? ⟨w.heap.size, 2, none⟩ = some (.slice so2 a.seen.length sc2) := cell_of_block hT4 rfl
          have d0 : w4.cell? ⟨U.heap.size, 0, none⟩ = some (.int .i64 dt) := cell_of_block hb4 rfl
          have d1 : w4.cell? ⟨U.heap.size, 1, none⟩ = some (.int .i64 ds) := cell_of_block hb4 rfl
          have d2 : w4.cell? ⟨U.heap.size, 2, none⟩ = some (.int .i64 dq) := cell_of_block hb4 rfl
          have g2 : w4.frozen? ⟨U.heap.size, 2, none⟩ = false := frozen_of_block hb4
          have hg := vget_ok hB.out.sk own
          have hget := vec_get (.slice so2 a.seen.length sc2) a.seen own w4 A4.out.seen.rd
          obtain ⟨G, hG⟩ : ∃ G, vget a.seen own = G := ⟨_, rfl⟩
          rw [hG] at hg hget
          have hadd : IntKind.i64.wrap (G + 1) = G + 1 := IntWalk.i64_in _ (by omega)
          have Hget := Lib.hid hget
          have Hb4 := Lib.hid hb4
          clear hget hb4 hT4
          by_cases hso : ds = own
          · have hso2 := hso.symm
            clear hso
            subst hso2
            obtain ⟨Q, hQ⟩ : ∃ Q, G + 1 = Q := ⟨_, rfl⟩
            obtain ⟨w5, hw5⟩ : ∃ w5, w4.setCell ⟨U.heap.size, 2, none⟩ (.int .i64 Q) = w5 := ⟨_, rfl⟩
            rw [hQ] at hadd
            have hfx : dfix own a.seen ⟨dt, own, dq, .slice dO dep.length dc, dep, dk, dx⟩ = ⟨dt, own, Q, .slice dO dep.length dc, dep, dk, dx⟩ := by unfold dfix; dsimp only; rw [if_pos rfl, hG, hQ]
            have hf5 : Fr (fun i => i = U.heap.size) w4 w5 := by rw [← hw5]; exact (Fr.refl (fun i => i = U.heap.size) w4).setCell (p := ⟨U.heap.size, 2, none⟩) (fun _ => rfl) _
            have F5 := Lib.hid (Fr.trans HFU.out hf5 (fun i hi e => by omega))
            have B5 : Hid (w5.heap[U.heap.size]? = some (.cells #[.int .i64 dt, .int .i64 own, .int .i64 Q, .slice dO dep.length dc, .string dk, .string dx] 34 (0, 0))) := by
              rw [← hw5]; exact Lib.hid (by simpa using heap_setC (j := 2) (.int .i64 Q) Hb4.out)
            have Hfx := Lib.hid hfx
            clear hfx hf5 hG
            go_wp2_with fail
            refine (show Calls _ _ #[.slice so2 a.seen.length sc2, .int .i64 own] w4 _ from Hget.out).mono ?_
            rintro e w' ⟨rfl, rfl⟩
            have A5 := Lib.hid (HU.out.fr0 F5.out)
            have s0 : w5.cell? ⟨w.heap.size, 0, none⟩ = some (.int .i64 own) := cell_of_block A5.out.tk rfl
            have s1 : w5.cell? ⟨w.heap.size, 1, none⟩ = some (.int .i64 a.next) := cell_of_block A5.out.tk rfl
            have s2 : w5.cell? ⟨w.heap.size, 2, none⟩ = some (.slice so2 a.seen.length sc2) := cell_of_block A5.out.tk rfl
            have m0 : w5.cell? ⟨U.heap.size, 0, none⟩ = some (.int .i64 dt) := cell_of_block B5.out rfl
            have m1 : w5.cell? ⟨U.heap.size, 1, none⟩ = some (.int .i64 own) := cell_of_block B5.out rfl
            have m2 : w5.cell? ⟨U.heap.size, 2, none⟩ = some (.int .i64 Q) := cell_of_block B5.out rfl
            have m3 : w5.cell? ⟨U.heap.size, 3, none⟩ = some (.slice dO dep.length dc) := cell_of_block B5.out rfl
            have m4 : w5.cell? ⟨U.heap.size, 4, none⟩ = some (.string dk) := cell_of_block B5.out rfl
            have m5 : w5.cell? ⟨U.heap.size, 5, none⟩ = some (.string dx) := cell_of_block B5.out rfl
            obtain ⟨j0, hj0, jz0, jz1, jz2⟩ := info_parts (show (Try.prog.info? 40).map (fun i => (i.zero, i.size, i.bytes)) = some (some (.agg #[.int .i64 0, .int .i64 0, .int .i64 0, .int .i64 0, .slice none 0 0, .string ByteArray.empty, .string ByteArray.empty]), 7, 88) by kernel_rfl)
            have hlit := rd_lit1 w5 40 [.int .i64 a.next, .int .i64 dt, .int .i64 own, .int .i64 Q, .slice dO dep.length dc, .string dk, .string dx]
            have Hlit := Lib.hid hlit
            have Hlf : Hid (Fr no w5 (w5.alloc (.cells #[.int .i64 a.next, .int .i64 dt, .int .i64 own, .int .i64 Q, .slice dO dep.length dc, .string dk, .string dx] 40))) := Lib.hid ((Fr.refl no w5).alloc _)
            have hocnt : a.out.length ≤ 1000 := by have := hB.out.cnt; omega
            clear hlit
            go_wp2_with (at_builtin; refine wpList_append_all (w5.alloc (.cells #[.int .i64 a.next, .int .i64 dt, .int .i64 own, .int .i64 Q, .slice dO dep.length dc, .string dk, .string dx] 40)) rfl _ _ 37 rfl 40 j0 _ 7 88 Try.underlying37 hj0 jz0 jz1 jz2 rfl (by decide) _ _ _ rfl (A5.out.out.fr Hlf.out (fun _ _ f => f)) _ _ _ rfl Hlit.out (by simp [Value.oneCell']) (by unfold maxLen; omega) (by omega) ?_)
            intro ao6 cap6 w6 hs6 hf6 ho6 _
            have A6 := Lib.hid (AdI.app (x := (a.next, ⟨dt, own, Q, .slice dO dep.length dc, dep, dk, dx⟩)) A5.out hs6 hf6 (by simpa using ho6))
            have B6 : Hid (w6.heap[U.heap.size]? = some (.cells #[.int .i64 dt, .int .i64 own, .int .i64 Q, .slice dO dep.length dc, .string dk, .string dx] 34 (0, 0))) :=
              Lib.hid (hf6.heap (Hlf.out.heap B5.out (fun f => f)) (fun e => by have := HU.out.out.lt _ e; omega))
            obtain ⟨N1, hN1⟩ : ∃ N1, a.next + 1 = N1 := ⟨_, rfl⟩
            have hnadd : IntKind.i64.wrap (a.next + 1) = N1 := by rw [← hN1]; exact IntWalk.i64_in _ (by have := hB.out.nx; omega)
            obtain ⟨w7, hw7⟩ : ∃ w7, w6.setCell ⟨w.heap.size, 1, none⟩ (.int .i64 N1) = w7 := ⟨_, rfl⟩
            have A7 : Hid (AdT w w7 own (.slice so seen.length sc) ⟨N1, a.seen, a.left, a.out ++ [(a.next, ⟨dt, own, Q, .slice dO dep.length dc, dep, dk, dx⟩)]⟩ (.slice so2 a.seen.length sc2) (.slice (some ⟨g, off, none⟩) a.left.length lc) (.slice ao6 (a.out.length + 1) cap6) (.slice a0 n0 c0)) := by
              rw [← hw7]; exact Lib.hid (A6.out.setNext N1)
            have B7 : Hid (w7.heap[U.heap.size]? = some (.cells #[.int .i64 dt, .int .i64 own, .int .i64 Q, .slice dO dep.length dc, .string dk, .string dx] 34 (0, 0))) := by
              rw [← hw7]; exact Lib.hid (((Fr.refl (fun i => i = w.heap.size) w6).setCell (p := ⟨w.heap.size, 1, none⟩) (fun _ => rfl) _).heap B6.out (by omega))
            have c6 : w6.cell? ⟨w.heap.size, 1, none⟩ = some (.int .i64 a.next) := cell_of_block A6.out.tk rfl
            have z6 : w6.frozen? ⟨w.heap.size, 1, none⟩ = false := frozen_of_block A6.out.tk
            have hnadd2 : wrap64 (a.next + 1) = N1 := by rw [← hN1]; unfold wrap64; have := hB.out.nx; omega
            have HN1 := Lib.hid hN1
            clear hs6 hf6 ho6 Hlit Hlf s0 s1 s2 m0 m1 m2 m3 m4 m5 hj0 jz0 jz1 jz2 A6 B6 hN1 A5 B5 F5
            have t2 : w7.cell? ⟨w.heap.size, 2, none⟩ = some (.slice so2 a.seen.length sc2) := cell_of_block A7.out.tk rfl
            have m1 : w7.cell? ⟨U.heap.size, 1, none⟩ = some (.int .i64 own) := cell_of_block B7.out rfl
            have m2 : w7.cell? ⟨U.heap.size, 2, none⟩ = some (.int .i64 Q) := cell_of_block B7.out rfl
            have hwith := vec_with (.slice so2 a.seen.length sc2) a.seen own Q w7 A7.out.seen.rd (by have := hB.out.sl; omega)
            have Hwith := Lib.hid hwith
            clear hwith
            go_wp2_with fail
            refine Hwith.out.mono ?_
            rintro e w8 ⟨v8, rfl, hm8⟩
            obtain ⟨so8, sc8, rfl, _, _⟩ := hm8.cap
            obtain ⟨w9, hw9⟩ : ∃ w9, w8.setCell ⟨w.heap.size, 2, none⟩ (.slice so8 (vwith a.seen own Q).length sc8) = w9 := ⟨_, rfl⟩
            have A9 : Hid (AdT w w9 own (.slice so seen.length sc) ⟨N1, vwith a.seen own Q, a.left, a.out ++ [(a.next, ⟨dt, own, Q, .slice dO dep.length dc, dep, dk, dx⟩)]⟩ (.slice so8 (vwith a.seen own Q).length sc8) (.slice (some ⟨g, off, none⟩) a.left.length lc) (.slice ao6 (a.out.length + 1) cap6) (.slice a0 n0 c0)) := by
              rw [← hw9]; exact Lib.hid (A7.out.setSeen hm8)
            have c8 : w8.cell? ⟨w.heap.size, 2, none⟩ = some (.slice so2 a.seen.length sc2) := cell_of_block (hm8.fr.heap A7.out.tk (fun f => f)) rfl
            have z8 : w8.frozen? ⟨w.heap.size, 2, none⟩ = false := frozen_of_block (hm8.fr.heap A7.out.tk (fun f => f))
            have hdel := delete_drafts g off a.left.length lc i (i + 1) (drCells a.left) w9 A9.out.left (drCells_one (fun d hd => (hB.out.lk d hd).1)) (by omega) (by omega)
            rw [show i + (a.left.length - (i + 1)) = (a.left.eraseIdx i).length by rw [List.length_eraseIdx_of_lt hlt]; omega, drCells_erase, show (((i + 1 : Nat)) : Int) = (i : Int) + 1 by omega] at hdel
            have Hdel := Lib.hid hdel
            generalize hel : (a.left.eraseIdx i).length = el at *
            have Hel := Lib.hid hel
            generalize hvl : (vwith a.seen own Q).length = vl at *
            have Hvl := Lib.hid hvl
            clear hw7 c6 z6 hnadd hnadd2 t2 m1 m2 hm8 A7 B7 Hwith hdel hel hvl
            go_wp2_with fail
            refine (show Calls _ _ #[.slice (some ⟨g, off, none⟩) a.left.length lc, .int .i64 i, .int .i64 ((i : Int) + 1)] w9 _ from Hdel.out).mono ?_
            rintro e w10 ⟨rfl, hs10, hf10⟩
            have A10 : Hid (AdT w w10 own (.slice so seen.length sc) ⟨N1, vwith a.seen own Q, a.left.eraseIdx i, a.out ++ [(a.next, ⟨dt, own, Q, .slice dO dep.length dc, dep, dk, dx⟩)]⟩ (.slice so8 vl sc8) (.slice (some ⟨g, off, none⟩) el lc) (.slice ao6 (a.out.length + 1) cap6) (.slice a0 n0 c0)) :=
              Lib.hid (A9.out.del (left' := a.left.eraseIdx i) (by rw [Hel.out]; exact hs10) (hf10.mono (fun k _ e => by simp [Value.ownBlock, e])) rfl)
            have hst : astep own a i ⟨dt, own, dq, .slice dO dep.length dc, dep, dk, dx⟩ = ⟨N1, vwith a.seen own Q, a.left.eraseIdx i, a.out ++ [(a.next, ⟨dt, own, Q, .slice dO dep.length dc, dep, dk, dx⟩)]⟩ := by
              unfold astep; rw [Hfx.out]; dsimp only; rw [HN1.out]
            have hP10 := hB.out.step Hdk.out Hm.out
            have hC10 := hC.out
            rw [← show (a.left.eraseIdx i).length + 1 = a.left.length by rw [List.length_eraseIdx_of_lt hlt]; omega, ago_some HF2'.out, hst] at hC10
            rw [hst] at hP10
            have HP10 := Lib.hid hP10
            have HC10 := Lib.hid hC10
            clear hs10 hf10 hst hP10 hC10 Hdel A9 c8 z8 hw9
            go_wp2_with fail
            go_roundw
            case rel =>
              refine ⟨_, .slice so8 vl sc8, some ⟨g, off, none⟩, lc, ao6, cap6, ?_, ?_, A10, HP10, HC10⟩
              · rw [Hel.out]
              · simp
            case measure => simp [vlen]; have := List.length_eraseIdx_of_lt hlt; have := Hel.out; omega
          · have hfx : dfix own a.seen ⟨dt, ds, dq, .slice dO dep.length dc, dep, dk, dx⟩ = ⟨dt, ds, dq, .slice dO dep.length dc, dep, dk, dx⟩ := by unfold dfix; rw [if_neg hso]
            have Hfx := Lib.hid hfx
            have F5 := HFU
            have B5 := Hb4
            clear hfx hG hadd Hget
            generalize w4 = w5 at *
            have A5 := Lib.hid (HU.out.fr0 F5.out)
            have s0 : w5.cell? ⟨w.heap.size, 0, none⟩ = some (.int .i64 own) := cell_of_block A5.out.tk rfl
            have s1 : w5.cell? ⟨w.heap.size, 1, none⟩ = some (.int .i64 a.next) := cell_of_block A5.out.tk rfl
            have s2 : w5.cell? ⟨w.heap.size, 2, none⟩ = some (.slice so2 a.seen.length sc2) := cell_of_block A5.out.tk rfl
            have m0 : w5.cell? ⟨U.heap.size, 0, none⟩ = some (.int .i64 dt) := cell_of_block B5.out rfl
            have m1 : w5.cell? ⟨U.heap.size, 1, none⟩ = some (.int .i64 ds) := cell_of_block B5.out rfl
            have m2 : w5.cell? ⟨U.heap.size, 2, none⟩ = some (.int .i64 dq) := cell_of_block B5.out rfl
            have m3 : w5.cell? ⟨U.heap.size, 3, none⟩ = some (.slice dO dep.length dc) := cell_of_block B5.out rfl
            have m4 : w5.cell? ⟨U.heap.size, 4, none⟩ = some (.string dk) := cell_of_block B5.out rfl
            have m5 : w5.cell? ⟨U.heap.size, 5, none⟩ = some (.string dx) := cell_of_block B5.out rfl
            obtain ⟨j0, hj0, jz0, jz1, jz2⟩ := info_parts (show (Try.prog.info? 40).map (fun i => (i.zero, i.size, i.bytes)) = some (some (.agg #[.int .i64 0, .int .i64 0, .int .i64 0, .int .i64 0, .slice none 0 0, .string ByteArray.empty, .string ByteArray.empty]), 7, 88) by kernel_rfl)
            have hlit := rd_lit1 w5 40 [.int .i64 a.next, .int .i64 dt, .int .i64 ds, .int .i64 dq, .slice dO dep.length dc, .string dk, .string dx]
            have Hlit := Lib.hid hlit
            have Hlf : Hid (Fr no w5 (w5.alloc (.cells #[.int .i64 a.next, .int .i64 dt, .int .i64 ds, .int .i64 dq, .slice dO dep.length dc, .string dk, .string dx] 40))) := Lib.hid ((Fr.refl no w5).alloc _)
            have hocnt : a.out.length ≤ 1000 := by have := hB.out.cnt; omega
            clear hlit
            go_wp2_with (at_builtin; refine wpList_append_all (w5.alloc (.cells #[.int .i64 a.next, .int .i64 dt, .int .i64 ds, .int .i64 dq, .slice dO dep.length dc, .string dk, .string dx] 40)) rfl _ _ 37 rfl 40 j0 _ 7 88 Try.underlying37 hj0 jz0 jz1 jz2 rfl (by decide) _ _ _ rfl (A5.out.out.fr Hlf.out (fun _ _ f => f)) _ _ _ rfl Hlit.out (by simp [Value.oneCell']) (by unfold maxLen; omega) (by omega) ?_)
            intro ao6 cap6 w6 hs6 hf6 ho6 _
            have A6 := Lib.hid (AdI.app (x := (a.next, ⟨dt, ds, dq, .slice dO dep.length dc, dep, dk, dx⟩)) A5.out hs6 hf6 (by simpa using ho6))
            have B6 : Hid (w6.heap[U.heap.size]? = some (.cells #[.int .i64 dt, .int .i64 ds, .int .i64 dq, .slice dO dep.length dc, .string dk, .string dx] 34 (0, 0))) :=
              Lib.hid (hf6.heap (Hlf.out.heap B5.out (fun f => f)) (fun e => by have := HU.out.out.lt _ e; omega))
            obtain ⟨N1, hN1⟩ : ∃ N1, a.next + 1 = N1 := ⟨_, rfl⟩
            have hnadd : IntKind.i64.wrap (a.next + 1) = N1 := by rw [← hN1]; exact IntWalk.i64_in _ (by have := hB.out.nx; omega)
            obtain ⟨w7, hw7⟩ : ∃ w7, w6.setCell ⟨w.heap.size, 1, none⟩ (.int .i64 N1) = w7 := ⟨_, rfl⟩
            have A7 : Hid (AdT w w7 own (.slice so seen.length sc) ⟨N1, a.seen, a.left, a.out ++ [(a.next, ⟨dt, ds, dq, .slice dO dep.length dc, dep, dk, dx⟩)]⟩ (.slice so2 a.seen.length sc2) (.slice (some ⟨g, off, none⟩) a.left.length lc) (.slice ao6 (a.out.length + 1) cap6) (.slice a0 n0 c0)) := by
              rw [← hw7]; exact Lib.hid (A6.out.setNext N1)
            have B7 : Hid (w7.heap[U.heap.size]? = some (.cells #[.int .i64 dt, .int .i64 ds, .int .i64 dq, .slice dO dep.length dc, .string dk, .string dx] 34 (0, 0))) := by
              rw [← hw7]; exact Lib.hid (((Fr.refl (fun i => i = w.heap.size) w6).setCell (p := ⟨w.heap.size, 1, none⟩) (fun _ => rfl) _).heap B6.out (by omega))
            have c6 : w6.cell? ⟨w.heap.size, 1, none⟩ = some (.int .i64 a.next) := cell_of_block A6.out.tk rfl
            have z6 : w6.frozen? ⟨w.heap.size, 1, none⟩ = false := frozen_of_block A6.out.tk
            have hnadd2 : wrap64 (a.next + 1) = N1 := by rw [← hN1]; unfold wrap64; have := hB.out.nx; omega
            have HN1 := Lib.hid hN1
            clear hs6 hf6 ho6 Hlit Hlf s0 s1 s2 m0 m1 m2 m3 m4 m5 hj0 jz0 jz1 jz2 A6 B6 hN1 A5 B5 F5
            have t2 : w7.cell? ⟨w.heap.size, 2, none⟩ = some (.slice so2 a.seen.length sc2) := cell_of_block A7.out.tk rfl
            have m1 : w7.cell? ⟨U.heap.size, 1, none⟩ = some (.int .i64 ds) := cell_of_block B7.out rfl
            have m2 : w7.cell? ⟨U.heap.size, 2, none⟩ = some (.int .i64 dq) := cell_of_block B7.out rfl
            have hwith := vec_with (.slice so2 a.seen.length sc2) a.seen ds dq w7 A7.out.seen.rd (by have := hB.out.sl; omega)
            have Hwith := Lib.hid hwith
            clear hwith
            go_wp2_with fail
            refine Hwith.out.mono ?_
            rintro e w8 ⟨v8, rfl, hm8⟩
            obtain ⟨so8, sc8, rfl, _, _⟩ := hm8.cap
            obtain ⟨w9, hw9⟩ : ∃ w9, w8.setCell ⟨w.heap.size, 2, none⟩ (.slice so8 (vwith a.seen ds dq).length sc8) = w9 := ⟨_, rfl⟩
            have A9 : Hid (AdT w w9 own (.slice so seen.length sc) ⟨N1, vwith a.seen ds dq, a.left, a.out ++ [(a.next, ⟨dt, ds, dq, .slice dO dep.length dc, dep, dk, dx⟩)]⟩ (.slice so8 (vwith a.seen ds dq).length sc8) (.slice (some ⟨g, off, none⟩) a.left.length lc) (.slice ao6 (a.out.length + 1) cap6) (.slice a0 n0 c0)) := by
              rw [← hw9]; exact Lib.hid (A7.out.setSeen hm8)
            have c8 : w8.cell? ⟨w.heap.size, 2, none⟩ = some (.slice so2 a.seen.length sc2) := cell_of_block (hm8.fr.heap A7.out.tk (fun f => f)) rfl
            have z8 : w8.frozen? ⟨w.heap.size, 2, none⟩ = false := frozen_of_block (hm8.fr.heap A7.out.tk (fun f => f))
            have hdel := delete_drafts g off a.left.length lc i (i + 1) (drCells a.left) w9 A9.out.left (drCells_one (fun d hd => (hB.out.lk d hd).1)) (by omega) (by omega)
            rw [show i + (a.left.length - (i + 1)) = (a.left.eraseIdx i).length by rw [List.length_eraseIdx_of_lt hlt]; omega, drCells_erase, show (((i + 1 : Nat)) : Int) = (i : Int) + 1 by omega] at hdel
            have Hdel := Lib.hid hdel
            generalize hel : (a.left.eraseIdx i).length = el at *
            have Hel := Lib.hid hel
            generalize hvl : (vwith a.seen ds dq).length = vl at *
            have Hvl := Lib.hid hvl
            clear hw7 c6 z6 hnadd hnadd2 t2 m1 m2 hm8 A7 B7 Hwith hdel hel hvl
            go_wp2_with fail
            refine (show Calls _ _ #[.slice (some ⟨g, off, none⟩) a.left.length lc, .int .i64 i, .int .i64 ((i : Int) + 1)] w9 _ from Hdel.out).mono ?_
            rintro e w10 ⟨rfl, hs10, hf10⟩
            have A10 : Hid (AdT w w10 own (.slice so seen.length sc) ⟨N1, vwith a.seen ds dq, a.left.eraseIdx i, a.out ++ [(a.next, ⟨dt, ds, dq, .slice dO dep.length dc, dep, dk, dx⟩)]⟩ (.slice so8 vl sc8) (.slice (some ⟨g, off, none⟩) el lc) (.slice ao6 (a.out.length + 1) cap6) (.slice a0 n0 c0)) :=
              Lib.hid (A9.out.del (left' := a.left.eraseIdx i) (by rw [Hel.out]; exact hs10) (hf10.mono (fun k _ e => by simp [Value.ownBlock, e])) rfl)
            have hst : astep own a i ⟨dt, ds, dq, .slice dO dep.length dc, dep, dk, dx⟩ = ⟨N1, vwith a.seen ds dq, a.left.eraseIdx i, a.out ++ [(a.next, ⟨dt, ds, dq, .slice dO dep.length dc, dep, dk, dx⟩)]⟩ := by
              unfold astep; rw [Hfx.out]; dsimp only; rw [HN1.out]
            have hP10 := hB.out.step Hdk.out Hm.out
            have hC10 := hC.out
            rw [← show (a.left.eraseIdx i).length + 1 = a.left.length by rw [List.length_eraseIdx_of_lt hlt]; omega, ago_some HF2'.out, hst] at hC10
            rw [hst] at hP10
            have HP10 := Lib.hid hP10
            have HC10 := Lib.hid hC10
            clear hs10 hf10 hst hP10 hC10 Hdel A9 c8 z8 hw9
            go_wp2_with fail
            go_roundw
            case rel =>
              refine ⟨_, .slice so8 vl sc8, some ⟨g, off, none⟩, lc, ao6, cap6, ?_, ?_, A10, HP10, HC10⟩
              · rw [Hel.out]
              · simp
            case measure => simp [vlen]; have := List.length_eraseIdx_of_lt hlt; have := Hel.out; omega
      · obtain rfl : i = a.left.length := by omega
        have hnone := hF.out.trans (afirst_end (Nat.le_refl _))
        have haR := (ago_none hnone a.left.length).symm.trans hC.out
        subst haR
        obtain ⟨w5, hw5⟩ : ∃ w5, U.setCell ⟨w.heap.size, 3, none⟩ (.slice none 0 0) = w5 := ⟨_, rfl⟩
        have L5 : Hid (LtT w w5 own (.slice so seen.length sc) a (.slice so2 a.seen.length sc2) (.slice lo a.left.length lc) (.slice oo a.out.length oc) (.slice none 0 0) []) := by rw [← hw5]; exact Lib.hid hA.out.ends
        have u3 : U.cell? ⟨w.heap.size, 3, none⟩ = some (.slice a0 n0 c0) := cell_of_block hA.out.tk rfl
        have z3 : U.frozen? ⟨w.heap.size, 3, none⟩ = false := frozen_of_block hA.out.tk
        have hlcnt : a.left.length ≤ 1000 := by have := hB.out.cnt; omega
        clear hA hF hC hnone
        go_wp2_with fail
        go_loopw [72] (fun iv wr => ∃ (k : Nat) (acc : List Dr) (tb : Option Addr) (tc : Nat), k ≤ a.left.length ∧ iv = .int .i64 k ∧ acc.length ≤ k ∧ Hid (LtT w wr own (.slice so seen.length sc) a (.slice so2 a.seen.length sc2) (.slice lo a.left.length lc) (.slice oo a.out.length oc) (.slice tb acc.length tc) acc) ∧ Hid (∀ x ∈ acc, x ∈ a.left) ∧ Hid (alate own a.seen a.left [] = alate own a.seen (a.left.drop k) acc)) (fun iv _ => a.left.length - (intOf iv).toNat)
        case atStart => exact ⟨0, [], none, 0, Nat.zero_le _, rfl, Nat.le_refl _, L5, Lib.hid (fun x h => by simp at h), Lib.hid rfl⟩
        clear L5 hw5 u3 z3
        case round =>
          obtain ⟨k, acc, tb, tc, hk, rfl, hak, hL, hM, hE⟩ := hrel
          generalize wr = V at *
          by_cases hlt : k < a.left.length
          · obtain ⟨d, hdk⟩ : ∃ x, a.left[k]? = some x := ⟨a.left[k], by simp [hlt]⟩
            obtain ⟨hdo, hdq0, hdq1⟩ := hB.out.lk d (List.mem_of_getElem? hdk)
            obtain ⟨g, off, c', he, e0, e1, e2, e3, e4, e5⟩ := drs_cells hL.out.left.rd hdk
            cases he
            have t0 : V.cell? ⟨w.heap.size, 0, none⟩ = some (.int .i64 own) := cell_of_block hL.out.tk rfl
            have t1 : V.cell? ⟨w.heap.size, 1, none⟩ = some (.int .i64 a.next) := cell_of_block hL.out.tk rfl
            have t2 : V.cell? ⟨w.heap.size, 2, none⟩ = some (.slice so2 a.seen.length sc2) := cell_of_block hL.out.tk rfl
            have t3 : V.cell? ⟨w.heap.size, 3, none⟩ = some (.slice tb acc.length tc) := cell_of_block hL.out.tk rfl
            have htb : w.heap.size < V.heap.size := (Array.getElem?_eq_some_iff.1 hL.out.tk).1
            have hgone := fun (V' : World) (hf : Fr no V V') => tGone own a.next (.slice so2 a.seen.length sc2) (.slice tb acc.length tc) a.seen d (.slice tb acc.length tc) acc V' (hL.out.seen.rd.fr hf (fun _ _ _ f => f)) (Rd.fr hdo (hL.out.fr.trans' hf) (fun _ _ _ f => f)) (hL.out.acc.rd.fr hf (fun _ _ _ f => f))
            have hacc1 : acc.length ≤ 1000 := by omega
            have hE2 := hE.out.trans (alate_drop hdk acc)
            have hmem : ∀ x ∈ acc ++ [d], x ∈ a.left := fun x h => by
              rcases List.mem_append.1 h with h | h
              · exact hM.out x h
              · simp at h; subst h; exact List.mem_of_getElem? hdk
            have Hmem := Lib.hid hmem
            obtain ⟨dt, ds, dq, dv, dep, dk, dx⟩ := d
            obtain ⟨dO, dc, hdv, _, _⟩ := Rd.cap hdo
            dsimp only at *
            subst hdv
            unfold tkV Dr.v at hgone
            dsimp only at hgone
            have Hgone := Lib.hid hgone
            have HE2 := Lib.hid hE2
            clear hgone hdk hdo hE2 hE hmem
            go_wp2_with fail
            have hfa : Fr no V (V.alloc (.cells #[.int .i64 dt, .int .i64 ds, .int .i64 dq, .slice dO dep.length dc, .string dk, .string dx] 34)) := (Fr.refl no V).alloc _
            have hba : (V.alloc (.cells #[.int .i64 dt, .int .i64 ds, .int .i64 dq, .slice dO dep.length dc, .string dk, .string dx] 34)).heap[V.heap.size]? = some (.cells #[.int .i64 dt, .int .i64 ds, .int .i64 dq, .slice dO dep.length dc, .string dk, .string dx] 34 (0, 0)) := World.alloc_heap_new V _
            refine (Hgone.out _ hfa).mono ?_
            rintro e w4 ⟨rfl, hf4⟩
            have hb4 := hf4.heap hba (fun f => f)
            have L4 := Lib.hid (hL.out.fr0 (hfa.trans' hf4))
            have B4 := Lib.hid hb4
            clear hf4 hfa hba hb4 Hgone hL t0 t1 t2 t3 e0 e1 e2 e3 e4 e5
            cases hm : dgone own a.seen ⟨dt, ds, dq, .slice dO dep.length dc, dep, dk, dx⟩ acc
            · rw [hm, if_neg (by decide)] at HE2
              clear hm
              have t3 : w4.cell? ⟨w.heap.size, 3, none⟩ = some (.slice tb acc.length tc) := cell_of_block L4.out.tk rfl
              have m0 : w4.cell? ⟨V.heap.size, 0, none⟩ = some (.int .i64 dt) := cell_of_block B4.out rfl
              have m1 : w4.cell? ⟨V.heap.size, 1, none⟩ = some (.int .i64 ds) := cell_of_block B4.out rfl
              have m2 : w4.cell? ⟨V.heap.size, 2, none⟩ = some (.int .i64 dq) := cell_of_block B4.out rfl
              have m3 : w4.cell? ⟨V.heap.size, 3, none⟩ = some (.slice dO dep.length dc) := cell_of_block B4.out rfl
              have m4 : w4.cell? ⟨V.heap.size, 4, none⟩ = some (.string dk) := cell_of_block B4.out rfl
              have m5 : w4.cell? ⟨V.heap.size, 5, none⟩ = some (.string dx) := cell_of_block B4.out rfl
              obtain ⟨j0, hj0, jz0, jz1, jz2⟩ := info_parts (show (Try.prog.info? 34).map (fun i => (i.zero, i.size, i.bytes)) = some (some (.agg #[.int .i64 0, .int .i64 0, .int .i64 0, .slice none 0 0, .string ByteArray.empty, .string ByteArray.empty]), 6, 80) by kernel_rfl)
              have hlit := rd_lit1 w4 34 [.int .i64 dt, .int .i64 ds, .int .i64 dq, .slice dO dep.length dc, .string dk, .string dx]
              have Hlit := Lib.hid hlit
              have Hlf : Hid (Fr no w4 (w4.alloc (.cells #[.int .i64 dt, .int .i64 ds, .int .i64 dq, .slice dO dep.length dc, .string dk, .string dx] 34))) := Lib.hid ((Fr.refl no w4).alloc _)
              have htl : w4.heap.size + 1 = (w4.alloc (.cells #[.int .i64 dt, .int .i64 ds, .int .i64 dq, .slice dO dep.length dc, .string dk, .string dx] 34)).heap.size := by simp
              have Htl := Lib.hid htl
              clear hlit htl
              go_wp2_with (at_builtin; refine wpList_append_all (w4.alloc (.cells #[.int .i64 dt, .int .i64 ds, .int .i64 dq, .slice dO dep.length dc, .string dk, .string dx] 34)) rfl _ _ 41 rfl 34 j0 _ 6 80 Try.underlying41 hj0 jz0 jz1 jz2 rfl (by decide) _ _ _ rfl (L4.out.acc.fr Hlf.out (fun _ _ f => f)) _ _ _ rfl Hlit.out (by simp [Value.oneCell']) (by unfold maxLen; omega) (by omega) ?_)
              intro ao6 cap6 w6 hs6 hf6 ho6 _
              obtain ⟨w7, hw7⟩ : ∃ w7, w6.setCell ⟨w.heap.size, 3, none⟩ (.slice ao6 (acc.length + 1) cap6) = w7 := ⟨_, rfl⟩
              have L7 : Hid (LtT w w7 own (.slice so seen.length sc) a (.slice so2 a.seen.length sc2) (.slice (some ⟨g, off, none⟩) a.left.length lc) (.slice oo a.out.length oc) (.slice ao6 (acc.length + 1) cap6) (acc ++ [⟨dt, ds, dq, .slice dO dep.length dc, dep, dk, dx⟩])) := by
                rw [← hw7]; exact Lib.hid (LtI.app (x := ⟨dt, ds, dq, .slice dO dep.length dc, dep, dk, dx⟩) L4.out hs6 hf6 (by simpa using ho6))
              have hne : ¬ (Value.slice tb acc.length tc).ownBlock = some w.heap.size := fun e => by have := L4.out.tvb _ e; omega
              have c6 : w6.cell? ⟨w.heap.size, 3, none⟩ = some (.slice tb acc.length tc) := cell_of_block (hf6.heap (Hlf.out.heap L4.out.tk (fun f => f)) hne) rfl
              have z6 : w6.frozen? ⟨w.heap.size, 3, none⟩ = false := frozen_of_block (hf6.heap (Hlf.out.heap L4.out.tk (fun f => f)) hne)
              clear hs6 hf6 ho6 Hlit Hlf Htl t3 m0 m1 m2 m3 m4 m5 hj0 jz0 jz1 jz2 L4 B4 hne
              go_wp2
              go_roundw
              case rel => exact ⟨k + 1, acc ++ [⟨dt, ds, dq, .slice dO dep.length dc, dep, dk, dx⟩], ao6, cap6, by omega, by go_num, by simp; omega, by simpa using L7, Hmem, HE2⟩
              case measure => simp [intOf]; omega
            · rw [hm, if_pos rfl] at HE2
              clear hm B4
              go_wp2
              go_roundw
              case rel => exact ⟨k + 1, acc, tb, tc, by omega, by go_num, by omega, L4, hM, HE2⟩
              case measure => simp [intOf]; omega
          · obtain rfl : k = a.left.length := by omega
            have hE2 := hE.out
            rw [List.drop_eq_nil_of_le (Nat.le_refl _), alate] at hE2
            have HE2 := Lib.hid hE2
            have t0 : V.cell? ⟨w.heap.size, 0, none⟩ = some (.int .i64 own) := cell_of_block hL.out.tk rfl
            have t1 : V.cell? ⟨w.heap.size, 1, none⟩ = some (.int .i64 a.next) := cell_of_block hL.out.tk rfl
            have t2 : V.cell? ⟨w.heap.size, 2, none⟩ = some (.slice so2 a.seen.length sc2) := cell_of_block hL.out.tk rfl
            have t3 : V.cell? ⟨w.heap.size, 3, none⟩ = some (.slice tb acc.length tc) := cell_of_block hL.out.tk rfl
            clear hE hE2
            obtain ⟨W1, hW1⟩ : ∃ W1, V.setCell ⟨w.heap.size + 1, 0, none⟩ (.int .i64 own) = W1 := ⟨_, rfl⟩
            obtain ⟨W2, hW2⟩ : ∃ W2, W1.setCell ⟨w.heap.size + 1, 1, none⟩ (.int .i64 a.next) = W2 := ⟨_, rfl⟩
            obtain ⟨W3, hW3⟩ : ∃ W3, W2.setCell ⟨w.heap.size + 1, 2, none⟩ (.slice so2 a.seen.length sc2) = W3 := ⟨_, rfl⟩
            obtain ⟨W4, hW4⟩ : ∃ W4, W3.setCell ⟨w.heap.size + 1, 3, none⟩ (.slice tb acc.length tc) = W4 := ⟨_, rfl⟩
            have r0 := hL.out.res
            have r1 : W1.heap[w.heap.size + 1]? = some (.cells #[.int .i64 own, .int .i64 0, .slice none 0 0, .slice none 0 0] 43 (0, 0)) := by rw [← hW1]; simpa using heap_setC (j := 0) (.int .i64 own) r0
            have r2 : W2.heap[w.heap.size + 1]? = some (.cells #[.int .i64 own, .int .i64 a.next, .slice none 0 0, .slice none 0 0] 43 (0, 0)) := by rw [← hW2]; simpa using heap_setC (j := 1) (.int .i64 a.next) r1
            have r3 : W3.heap[w.heap.size + 1]? = some (.cells #[.int .i64 own, .int .i64 a.next, .slice so2 a.seen.length sc2, .slice none 0 0] 43 (0, 0)) := by rw [← hW3]; simpa using heap_setC (j := 2) (.slice so2 a.seen.length sc2) r2
            have r4 : W4.heap[w.heap.size + 1]? = some (.cells #[.int .i64 own, .int .i64 a.next, .slice so2 a.seen.length sc2, .slice tb acc.length tc] 43 (0, 0)) := by rw [← hW4]; simpa using heap_setC (j := 3) (.slice tb acc.length tc) r3
            have F : ∀ (X Y : World) (j : Nat) (v : Value), X.setCell ⟨w.heap.size + 1, j, none⟩ v = Y → Fr (fun i => i = w.heap.size + 1) X Y := fun X Y j v h => by rw [← h]; exact (Fr.refl (fun i => i = w.heap.size + 1) X).setCell (p := ⟨w.heap.size + 1, j, none⟩) (fun _ => rfl) _
            have hF4 : Fr (fun i => i = w.heap.size + 1) V W4 := ((F _ _ _ _ hW1).trans' (F _ _ _ _ hW2)).trans' ((F _ _ _ _ hW3).trans' (F _ _ _ _ hW4))
            have HF4 := Lib.hid hF4
            have p0 : V.cell? ⟨w.heap.size + 1, 0, none⟩ = some (.int .i64 0) := cell_of_block r0 rfl
            have p1 : W1.cell? ⟨w.heap.size + 1, 1, none⟩ = some (.int .i64 0) := cell_of_block r1 rfl
            have p2 : W2.cell? ⟨w.heap.size + 1, 2, none⟩ = some (.slice none 0 0) := cell_of_block r2 rfl
            have p3 : W3.cell? ⟨w.heap.size + 1, 3, none⟩ = some (.slice none 0 0) := cell_of_block r3 rfl
            have q0 : V.frozen? ⟨w.heap.size + 1, 0, none⟩ = false := frozen_of_block r0
            have q1 : W1.frozen? ⟨w.heap.size + 1, 1, none⟩ = false := frozen_of_block r1
            have q2 : W2.frozen? ⟨w.heap.size + 1, 2, none⟩ = false := frozen_of_block r2
            have q3 : W3.frozen? ⟨w.heap.size + 1, 3, none⟩ = false := frozen_of_block r3
            have y0 : W4.cell? ⟨w.heap.size + 1, 0, none⟩ = some (.int .i64 own) := cell_of_block r4 rfl
            have y1 : W4.cell? ⟨w.heap.size + 1, 1, none⟩ = some (.int .i64 a.next) := cell_of_block r4 rfl
            have y2 : W4.cell? ⟨w.heap.size + 1, 2, none⟩ = some (.slice so2 a.seen.length sc2) := cell_of_block r4 rfl
            have y3 : W4.cell? ⟨w.heap.size + 1, 3, none⟩ = some (.slice tb acc.length tc) := cell_of_block r4 rfl
            clear r0 r1 r2 r3 r4 F hF4
            go_wp2
            simp only [Exit.noGoto]
            refine bodyPost_ret (v := .tuple #[.agg #[.int .i64 own, .int .i64 a.next, .slice so2 a.seen.length sc2, .slice tb acc.length tc], .slice oo a.out.length oc]) ?_ ?_ ?_
            rotate_left
            · rfl
            rotate_left
            · simp [results, Try.results30, go_sem, y0, y1, y2, y3]
            rw [Hn0.out, Hn1.out, HR.out]
            refine ⟨_, _, _, rfl, ⟨(hL.out.seen.fr HF4.out (fun g _ e => .inr (.inr e))).rd, ?_, (hL.out.out.fr HF4.out (fun g _ e => .inr (.inr e))).rd, hB.out, hL.out.fr.trans HF4.out (fun i hi e => by omega), hL.out.svo, fun g hg => by have := hL.out.tvb g hg; omega, fun g hg => by have := hL.out.ovb g hg; omega⟩⟩
            rw [HE2.out]
            exact (hL.out.acc.fr HF4.out (fun g hg e => by have := hL.out.tvb g hg; omega)).rd
end Go.Proofs.Ytlohbikkhojlaaa
