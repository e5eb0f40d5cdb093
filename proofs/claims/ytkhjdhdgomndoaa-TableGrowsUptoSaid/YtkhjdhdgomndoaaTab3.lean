/- The contract of aware.All. -/
import Derived.Test.YtkhjdhdgomndoaaTab2
namespace Go.Proofs.Ytkhjdhdgomndoaa
open Go.RowKit Go.Shelf Go.XL
set_option linter.unusedVariables false
set_option linter.unusedSimpArgs false
attribute [local go_sem] Oper.semAt_some

/-- what holds between two rounds of All: w + 0 (out), w + 1 (Rows' t) -/
def TaI (w : World) (v : Value) (vs : List Value) (t : List (List Int)) (r : List Int) (s : List (Nat × Value)) (W : World) : Prop :=
  ∃ (k : Nat) (bo : Option Addr) (bc : Nat) (cur : List Int), s = enumF (vs.drop k) k ∧ tall cur k (t.drop k) = r ∧ W.heap[w.heap.size]? = some (.cells #[.slice bo cur.length bc] 34 (0, 0)) ∧ RdX (fun g => g = w.heap.size) W 1 (.slice bo cur.length bc) cur.length (cur.map (Value.int .i64)) ∧ cur.length ≤ 1000000 ∧
    W.heap[w.heap.size + 1]? = some (.cells #[v] 25 (0, 0)) ∧ Fr no w W

set_option maxRecDepth 10000 in
set_option maxHeartbeats 1000000 in
theorem tab_all (v : Value) (t : List (List Int)) (w : World) (h : Tab w v t) (hst : Shorts t) :
    Calls Try.prog 15 #[v] w fun e w' => ∃ ao cap, e = .returned (.slice ao (tall [] 0 t).length cap) ∧ IntsAt w' (.slice ao (tall [] 0 t).length cap) (tall [] 0 t) ∧ Fr no w w' := by
  obtain ⟨vs, h⟩ := h
  obtain ⟨ao, cap, rfl, hcap, hmx⟩ := h.rd.cap
  have H := Lib.hid h
  have Hst := Lib.hid hst
  clear h hst
  generalize hn : t.length = n at *
  have Hn := Lib.hid hn
  clear hn
  refine calls_of_in (n := 4) free_wide (callsIn_of_wp_marks Try.func15 rfl trivial (wpIn_wide.2 ?_) rfl)
  simp only [Try.ntmps15, List.size_toArray, List.length_cons, List.length_nil, Nat.reduceAdd, Nat.reduceSub, Array.replicate_succ, Array.replicate_zero, List.push_toArray, List.append_toArray, List.nil_append, List.cons_append]
  have hal := rows_any ao n cap (w.alloc (.cells #[.slice none 0 0] 34))
  go_wp2_with fail
  refine hal.mono ?_
  rintro e w2 ⟨rfl, hw2⟩
  have hsz : (w.alloc (.cells #[.slice none 0 0] 34)).heap.size = w.heap.size + 1 := by simp
  rw [hsz]
  clear hal hsz
  have hf2 : Fr no w w2 := by rw [← hw2]; exact ((Fr.refl no w).alloc _).alloc _
  have hI0 : TaI w (.slice ao n cap) vs t (tall [] 0 t) (enumF vs 0) w2 := by
    refine ⟨0, none, 0, [], rfl, rfl, ?_, ⟨Rd.zero _ _, fun h => absurd h (Nat.lt_irrefl _)⟩, by simp, ?_, hf2⟩ <;> rw [← hw2]
    · simp only [alloc_get, World.size_alloc, Nat.add_assoc]; simp
    · simp only [alloc_get, World.size_alloc, Nat.add_assoc]; simp
  have hs2 : w.heap.size + 2 = w2.heap.size := by rw [← hw2]; simp
  have HI0 := Lib.hid hI0
  clear hw2 hI0 hf2
  have hIbk : ∀ s W W', TaI w (.slice ao n cap) vs t (tall [] 0 t) s W → Bk w2.heap.size W W' → TaI w (.slice ao n cap) vs t (tall [] 0 t) s W' := by
    rintro s W W' ⟨k, bo, bc, cur, a1, a2, a3, a4, a5, a6, a7⟩ hb
    exact ⟨k, bo, bc, cur, a1, a2, hb.heap a3 rfl, a4.bk hb, a5, hb.heap a6 rfl, hb.fr a7 (by omega)⟩
  go_wp2
  refine (wpIn_wide (n := 3)).1 ?_
  refine wpIn_each (ls := enumF vs 0) rfl (by intro h; cases h) (gf := 31) (lb := #[.pointer (some ⟨w.heap.size + 1, 0, none⟩)]) rfl trivial (enters_of Try.func31 (by kernel_rfl) rfl)
    (rows_iter (w.heap.size + 1) n (.slice ao n cap) vs) (fun _ => rfl) (TaI w (.slice ao n cap) vs t (tall [] 0 t)) (fun _ _ => False)
    hIbk (fun _ _ _ f _ => f) ?hPre HI0.out ?round ?done (fun _ _ _ _ f => f.elim)
  case hPre => exact fun s W ⟨k, bo, bc, cur, a1, a2, a3, a4, a5, a6, a7⟩ => ⟨cell_of_block a6 rfl, by have := (H.out.fr a7).rd; rwa [Hn.out] at this⟩
  case round =>
    rintro l W x s h
    gi_wp2
    refine ⟨Kb.refl _, fun l W' hb hl => ?_⟩
    obtain ⟨k, bo, bc, cur, g1, g2, g3, g4, g5, g6, g7⟩ := hIbk _ _ _ h hb
    clear hb h hIbk
    have hszW : w.heap.size + 2 ≤ W'.heap.size := (Array.getElem?_eq_some_iff.1 g6).1
    obtain ⟨r, hr, rfl, rfl⟩ := enumF_cons g1.symm
    have hkl : k < t.length := by rw [← H.out.len]; exact (List.getElem?_eq_some_iff.1 hr).1
    obtain ⟨r', xs, hr', hx, hrow⟩ := H.out.get hkl
    rw [hr] at hr'
    cases hr'
    have hxl : xs.length ≤ 1000000 := Hst.out.2 xs (List.mem_of_getElem? hx)
    rw [tall_drop hx] at g2
    have hrow' : RdX (fun g => g = w.heap.size) W' 1 r xs.length (xs.map (Value.int .i64)) := (hrow.x (by decide) (fun g e => Nat.le_of_eq e.symm)).fr g7 (fun _ _ f => f.elim)
    have c3 : W'.cell? ⟨w.heap.size, 0, none⟩ = some (.slice bo cur.length bc) := cell_of_block g3 rfl
    have f3 : W'.frozen? ⟨w.heap.size, 0, none⟩ = false := frozen_of_block g3
    obtain ⟨ro, rcap, rfl, _, _⟩ := hrow.cap
    have Hrow := Lib.hid hrow'
    have Hkl := Lib.hid hkl
    have Hsz := Lib.hid hszW
    have G1 := Lib.hid g1
    have G2 := Lib.hid g2
    have G3 := Lib.hid g3
    have G4 := Lib.hid g4
    have G5 := Lib.hid g5
    have G6 := Lib.hid g6
    have G7 := Lib.hid g7
    clear g1 g2 g3 g4 g5 g6 g7 hr hx hrow hrow' hkl hszW
    have fin : ∀ (W0 w4 : World) (ys : List Int) (v4 : Value), Fr (fun g => g = w.heap.size) W' W0 → ys.length ≤ 1000000 → W0.heap[w.heap.size]? = some (.cells #[.slice bo cur.length bc] 34 (0, 0)) ∨ W0.heap[w.heap.size]? = some (.cells #[.slice ro xs.length rcap] 34 (0, 0)) →
        Made 3 W0 w4 v4 ys → tall ys (k + 1) (t.drop (k + 1)) = tall [] 0 t → Kb W' (w4.setCell ⟨w.heap.size, 0, none⟩ v4) ∧ TaI w (.slice ao n cap) vs t (tall [] 0 t) (enumF (vs.drop (k + 1)) (k + 1)) (w4.setCell ⟨w.heap.size, 0, none⟩ v4) := by
      intro W0 w4 ys v4 h0 hy hc hM hr
      obtain ⟨bo4, bc4, rfl, _, _⟩ := hM.cap
      have hs : Fr (fun g => g = w.heap.size) w4 (w4.setCell ⟨w.heap.size, 0, none⟩ (.slice bo4 ys.length bc4)) := (Fr.refl (fun g => g = w.heap.size) w4).setCell (p := ⟨w.heap.size, 0, none⟩) (fun _ => rfl) _
      have hall : Fr (fun g => g = w.heap.size) W' (w4.setCell ⟨w.heap.size, 0, none⟩ (.slice bo4 ys.length bc4)) := (h0.trans (hM.fr) (fun _ _ f => f.elim)).trans' hs
      have hsz0 := h0.size
      refine ⟨hall.kb (fun i hi e => by subst e; exact ⟨_, G3.out, rfl⟩), k + 1, bo4, bc4, ys, rfl, hr, ?_, (hM.rdx (fun g e => by have := Hsz.out; omega)).fr hs (fun g _ e => e), hy, hall.heap G6.out (by omega), G7.out.trans hall (fun i hi e => by omega)⟩
      rcases hc with hc | hc
      · exact heap_setC _ (hM.fr.heap hc (fun f => f))
      · exact heap_setC _ (hM.fr.heap hc (fun f => f))
    have Hfin := Lib.hid fin
    clear fin
    by_cases hk0 : k = 0
    · subst hk0
      have s3 := heap_setC (j := 0) (.slice ro xs.length rcap) G3.out
      have hs0 : Fr (fun g => g = w.heap.size) W' (W'.setCell ⟨w.heap.size, 0, none⟩ (.slice ro xs.length rcap)) := (Fr.refl (fun g => g = w.heap.size) W').setCell (p := ⟨w.heap.size, 0, none⟩) (fun _ => rfl) _
      have hr0 := (Hrow.out.fr hs0 (fun g _ e => e)).rd
      have hm := (free_round free_wide l).calls (n := 0) (vec_meet (.slice ro xs.length rcap) (.slice ro xs.length rcap) xs xs _ hr0 hr0 hxl hxl)
      have c0' : (W'.setCell ⟨w.heap.size, 0, none⟩ (.slice ro xs.length rcap)).cell? ⟨w.heap.size, 0, none⟩ = some (.slice ro xs.length rcap) := cell_of_block s3 rfl
      generalize hW0 : W'.setCell ⟨w.heap.size, 0, none⟩ (.slice ro xs.length rcap) = W0 at *
      have S3 := Lib.hid s3
      have Hs0 := Lib.hid hs0
      clear s3 hs0 hr0
      gi_wp2
      refine ⟨trivial, hm.mono ?_⟩
      rintro e w4 ⟨v4, rfl, hM⟩
      have hF := Hfin.out W0 w4 (vboth min xs xs) v4 Hs0.out (by rw [vboth_len]; omega) (.inr S3.out) hM (by have := G2.out; simpa using this)
      have c4 : w4.cell? ⟨w.heap.size, 0, none⟩ = some (.slice ro xs.length rcap) := hM.fr.cell c0' (fun f => f)
      have f4 : w4.frozen? ⟨w.heap.size, 0, none⟩ = false := frozen_of_block (hM.fr.heap S3.out (fun f => f))
      obtain ⟨bo4, bc4, rfl, _, _⟩ := hM.cap
      have HF := Lib.hid hF
      clear hF hM hm c0'
      gi_wp2
      exact HF.out
    · have hm := (free_round free_wide l).calls (n := 0) (vec_meet (.slice bo cur.length bc) (.slice ro xs.length rcap) cur xs W' G4.out.rd Hrow.out.rd G5.out hxl)
      gi_wp2
      refine ⟨trivial, hm.mono ?_⟩
      rintro e w4 ⟨v4, rfl, hM⟩
      have hF := Hfin.out W' w4 (vboth min cur xs) v4 (Fr.refl _ _) (by rw [vboth_len]; have := G5.out; omega) (.inl G3.out) hM (by have := G2.out; rwa [if_neg hk0] at this)
      have c4 : w4.cell? ⟨w.heap.size, 0, none⟩ = some (.slice bo cur.length bc) := hM.fr.cell c3 (fun f => f)
      have f4 : w4.frozen? ⟨w.heap.size, 0, none⟩ = false := frozen_of_block (hM.fr.heap G3.out (fun f => f))
      obtain ⟨bo4, bc4, rfl, _, _⟩ := hM.cap
      have HF := Lib.hid hF
      clear hF hM hm c3 f3
      gi_wp2
      exact HF.out
  case done =>
    rintro D W hD h hd
    obtain ⟨k, bo, bc, cur, g1, g2, g3, g4, g5, g6, g7⟩ := h
    have hkl := enumF_nil g1.symm
    rw [List.drop_eq_nil_of_le (by rw [← H.out.len]; exact hkl)] at g2
    have e2 : cur = tall [] 0 t := g2
    have c3 : W.cell? ⟨w.heap.size, 0, none⟩ = some (.slice bo cur.length bc) := cell_of_block g3 rfl
    have E2 := Lib.hid e2
    have G4 := Lib.hid g4
    have G7 := Lib.hid g7
    have Hd := Lib.hid hd
    clear g1 g2 g3 g4 g5 g6 g7 hd hIbk hkl e2
    go_wp2
    refine leaveOne D rfl Hd.out (fun Wf hbf => ?_)
    rw [← E2.out]
    exact ⟨.slice bo cur.length bc, by simp [results, Try.results15, go_sem], bo, bc, rfl, (G4.out.bk hbf).rd, hbf.fr G7.out (by omega)⟩
end Go.Proofs.Ytkhjdhdgomndoaa
