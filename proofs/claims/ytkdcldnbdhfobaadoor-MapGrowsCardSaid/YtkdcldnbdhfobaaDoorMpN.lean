/- The law's Nums, over an iterator that makes blocks of its own. -/
import Derived.Test.YtkdcldnbdhfobaaDoorProg
import Derived.Test.YtkdcldnbdhfobaaDoorEachB
import Derived.Test.YtkdcldnbdhfobaaDoorOwn
import Derived.OwnWalkIn
namespace Go.Proofs.YtkdcldnbdhfobaaDoor
open Go.RowKit Go.Shelf Go.XL
set_option linter.unusedVariables false
set_option linter.unusedSimpArgs false
attribute [local go_sem] Oper.semAt_some
abbrev encN (x : Int) : Array Value := #[.int .i64 x]
/-- what holds between two rounds of Nums: w + 0 (most), + 1, + 2 (the results), + 3 (out) -/
def NuI (w : World) (ls : List Int) (most : Int) (s : BxSt Int) (W : World) : Prop :=
  ∃ (done : List Int) (ao : Option Addr) (ac : Nat), ls = done ++ s.1 ∧ W.heap[w.heap.size]? = some (.cells #[.int .i64 most] 3 (0, 0)) ∧
    W.heap[w.heap.size + 1]? = some (.cells #[.slice none 0 0] 49 (0, 0)) ∧ W.heap[w.heap.size + 2]? = some (.cells #[.bool false] 4 (0, 0)) ∧
    W.heap[w.heap.size + 3]? = some (.cells #[.slice ao done.length ac] 49 (0, 0)) ∧
    Sl W 3 1 (.slice ao done.length ac) done.length (done.map (Value.int .i64)) ∧
    (∀ g, Value.ownBlock (.slice ao done.length ac) = some g → w.heap.size + 4 ≤ g) ∧ Fr no w W ∧ BoxAt s W ∧
    (∀ g o, s.2 = some (g, o) → w.heap.size + 4 ≤ g ∧ Value.ownBlock (.slice ao done.length ac) ≠ some g)
theorem NuI.fr {w : World} {ls : List Int} {most : Int} {s : BxSt Int} {W W' : World} (h : NuI w ls most s W) (hf : Fr no W W') : NuI w ls most s W' := by
  obtain ⟨done, ao, ac, a1, a2, a3, a4, a5, a6, a7, a8, a9, a10⟩ := h
  exact ⟨done, ao, ac, a1, hf.heap a2 (fun f => f), hf.heap a3 (fun f => f), hf.heap a4 (fun f => f), hf.heap a5 (fun f => f), a6.fr hf (fun _ _ f => f), a7, a8.trans' hf, a9.fr hf (fun _ _ _ f => f), a10⟩
theorem nums_res (tmps : Array Value) (c1 c2 : Nat) (w : World) (v1 v2 : Value) (h1 : tmps[4]? = some (.pointer (some ⟨c1, 0, none⟩))) (h2 : tmps[5]? = some (.pointer (some ⟨c2, 0, none⟩)))
    (g1 : w.cell? ⟨c1, 0, none⟩ = some v1) (g2 : w.cell? ⟨c2, 0, none⟩ = some v2) : (results Tryd.f21 tmps).run Tryd.prog w = .ok (.tuple #[v1, v2]) w := by
  simp [results, Tryd.results21, go_sem, h1, h2, g1, g2]
set_option maxRecDepth 10000 in
set_option maxHeartbeats 2000000 in
theorem law_nums {gf : Nat} {lb : Array Value} {Pre : World → Prop} (ls : List Int) (most : Int) (w : World) (hnn : ∀ w, (binOp .eql 53 (.func (.func gf) #[] lb) .nilFunc).run Tryd.prog w = .ok (.bool false) w)
    (eg : ∀ args w, (callFunc gf args).run Tryd.prog w = .ok (.enter gf args) w) (hiter : EachB Fence.wide 2 Tryd.prog gf lb encN Pre ls) (hPre : ∀ W, Fr no w W → Pre W) (hlen : (ls.length : Int) ≤ most) (hm : most ≤ 1000) :
    Calls Tryd.prog 21 #[.func (.func gf) #[] lb, .int .i64 most] w fun e w' => ∃ ao ac, e = .returned (.tuple #[.slice ao ls.length ac, .bool true]) ∧ Ow w w' 3 1 (.slice ao ls.length ac) ls.length (ls.map (Value.int .i64)) := by
  have Hiter := Lib.hid hiter
  have HPre := Lib.hid hPre
  have Heg := Lib.hid eg
  clear hiter hPre eg
  refine calls_of_in (n := 4) free_wide (callsIn_of_wp_marks Tryd.func21 rfl trivial (wpIn_wide.2 ?_) rfl)
  simp only [Tryd.ntmps21, List.size_toArray, List.length_cons, List.length_nil, Nat.reduceAdd, Nat.reduceSub, Array.replicate_succ, Array.replicate_zero, List.push_toArray, List.append_toArray, List.nil_append, List.cons_append]
  go_wp2
  clear hnn
  refine wp_name ?_
  intro w2 hw2
  have hf2 : Fr no w w2 := by rw [hw2]; exact ((((Fr.refl no w).alloc _).alloc _).alloc _).alloc _
  have hI0 : NuI w ls most (ls, none) w2 := by
    refine ⟨[], none, 0, rfl, ?_, ?_, ?_, ?_, by simpa using Sl.nil _ _ _, by simp [Value.ownBlock], hf2, BoxAt.none _ _, fun g o h => by cases h⟩ <;> rw [hw2] <;> simp only [alloc_get, World.size_alloc, Nat.add_assoc] <;> simp
  have hs2 : w.heap.size + 4 = w2.heap.size := by rw [hw2]; simp
  have HI0 := Lib.hid hI0
  clear hw2 hI0 hf2
  have hIbk : ∀ s W W', NuI w ls most s W → Bk w2.heap.size W W' → NuI w ls most s W' := by
    rintro s W W' ⟨done, ao, ac, a1, a2, a3, a4, a5, a6, a7, a8, a9, a10⟩ hb
    exact ⟨done, ao, ac, a1, hb.heap a2 rfl, hb.heap a3 rfl, hb.heap a4 rfl, hb.heap a5 rfl, a6.bk hb, a7, hb.fr a8 (by omega), a9.bk hb, a10⟩
  refine (wpIn_wide (n := 3)).1 ?_
  refine wpIn_range2 rfl (by intro h; cases h) (gf := gf) (lb := lb) rfl trivial Heg.out
    Hiter.out (fun _ => rfl) ?kst ?kdn (NuI w ls most) (fun _ _ => False)
    hIbk (fun _ _ _ f _ => f) ?hPre HI0.out ?round ?done (fun _ _ _ _ f => f.elim)
  case kst => rintro s W x s' W1 _ h; exact Kb.of_below h.2.1.below
  case kdn => rintro s W W' _ h; exact Kb.of_below h.2.below
  case hPre =>
    rintro s W ⟨done, ao, ac, a1, a2, a3, a4, a5, a6, a7, a8, a9, a10⟩
    exact ⟨HPre.out W a8, a9⟩
  case round =>
    rintro l s W x s' W1 h hst
    have hge := hst.ge (B := w.heap.size + 4) (by obtain ⟨_, _, _, _, _, _, _, a5, _⟩ := h; have := (Array.getElem?_eq_some_iff.1 a5).1; omega) (fun g o e => by obtain ⟨_, _, _, _, _, _, _, _, _, _, _, _, a10⟩ := h; exact (a10 g o e).1)
    have hb1 := hst.box (by obtain ⟨_, _, _, _, _, _, _, _, _, _, _, a9, _⟩ := h; exact a9)
    have hne1 : ∀ g o, s'.2 = some (g, o) → ∀ g', g' < W.heap.size → (∀ o', s.2 ≠ some (g', o')) → g ≠ g' := fun g o e g' hg' hne => by
      obtain ⟨_, _, e2 | ⟨g2, o2, e2, e3, _⟩⟩ := hst
      · rw [e2] at e
        rintro rfl
        exact hne _ e
      · rw [e2] at e
        cases e
        omega
    have h1 : NuI w ls most (x :: s'.1, s'.2) W1 := by
      obtain ⟨done, ao, ac, a1, a2, a3, a4, a5, a6, a7, a8, a9, a10⟩ := h
      have hf := hst.2.1
      refine ⟨done, ao, ac, by rw [a1, hst.1], hf.heap a2 (fun f => f), hf.heap a3 (fun f => f), hf.heap a4 (fun f => f), hf.heap a5 (fun f => f), a6.fr hf (fun _ _ f => f), a7, a8.trans' hf, hb1, fun g o e => ⟨hge g o e, fun e2 => ?_⟩⟩
      exact hne1 g o e g (a6.lt g e2) (fun o' e3 => (a10 g o' e3).2 e2) rfl
    clear h hst hge hb1 hne1
    obtain ⟨sl, sb⟩ := s'
    dsimp only at h1
    gi_wp2
    refine ⟨Kb.refl _, fun l W' hb hl => ?_⟩
    obtain ⟨done, ao, ac, g1, g2, g3, g4, g5, g6, g7, g8, g9, g10⟩ := hIbk _ _ _ h1 hb
    clear hb h1 hIbk
    have hkm : (done.length : Int) < most := by have := congrArg List.length g1; simp at this; omega
    have hk1 : done.length ≤ 1000 := by omega
    generalize hk : done.length = k at *
    have Hk := Lib.hid hk
    clear hk
    have c0 : W'.cell? ⟨w.heap.size, 0, none⟩ = some (.int .i64 most) := cell_of_block g2 rfl
    have c4 : W'.cell? ⟨w.heap.size + 1 + 1 + 1, 0, none⟩ = some (.slice ao k ac) := cell_of_block g5 rfl
    obtain ⟨i0, hi, hz0, hz1, hz2⟩ := info_parts (show (Tryd.prog.info? 3).map (fun i => (i.zero, i.size, i.bytes)) = some (some (.int .i64 0), 1, 8) by kernel_rfl)
    have G1 := Lib.hid g1
    have G2 := Lib.hid g2
    have G3 := Lib.hid g3
    have G4 := Lib.hid g4
    have G5 := Lib.hid g5
    have G6 := Lib.hid g6
    have G7 := Lib.hid g7
    have G8 := Lib.hid g8
    have G9 := Lib.hid g9
    have G10 := Lib.hid g10
    clear g1 g2 g3 g4 g5 g6 g7 g8 g9 g10
    gi_wp2_with (gi_at_builtin; refine wpListIn_append_one W' (.int .i64 x) 3 rfl _ _ 49 rfl 3 i0 (.int .i64 0) 8 Tryd.underlying49 hi hz0 hz1 hz2 rfl _ k _ rfl G6.out rfl rfl (by unfold maxLen; omega) (by omega) ?_)
    intro ao' ac' w' hs' hfr hor hkb
    have hn' : ∀ j, j < w.heap.size + 4 → ¬ Value.ownBlock (.slice ao k ac) = some j := fun j hj e => by have := G7.out j e; omega
    have b2 := hfr.heap G2.out (hn' _ (by omega))
    have b3 := hfr.heap G3.out (hn' _ (by omega))
    have b4 := hfr.heap G4.out (hn' _ (by omega))
    have b5 := hfr.heap G5.out (hn' _ (by omega))
    have b9 := G9.out.fr hfr (fun g o e h2 => (G10.out g o e).2 h2)
    have hlt6 := (Array.getElem?_eq_some_iff.1 G5.out).1
    have hfresh : ∀ g, Value.ownBlock (.slice ao' (k + 1) ac') = some g → w.heap.size + 4 ≤ g := fun g hg => by
      rcases hor with e | e
      · exact G7.out g (by rw [← e]; exact hg)
      · have h1 := e g hg; omega
    have hbx : ∀ g o, sb = some (g, o) → w.heap.size + 4 ≤ g ∧ Value.ownBlock (.slice ao' (k + 1) ac') ≠ some g := fun g o e => ⟨(G10.out g o e).1, fun h2 => by
      rcases hor with e3 | e3
      · exact (G10.out g o e).2 (by rw [← e3]; exact h2)
      · have h3 := e3 g h2
        have := G9.out.lt (s := (x :: sl, sb)) e
        omega⟩
    have c4' : w'.cell? ⟨w.heap.size + 1 + 1 + 1, 0, none⟩ = some (.slice ao k ac) := cell_of_block b5 rfl
    have f4' : w'.frozen? ⟨w.heap.size + 1 + 1 + 1, 0, none⟩ = false := frozen_of_block b5
    have hf1 : Fr (fun i => i = w.heap.size + 3) w' (w'.setCell ⟨w.heap.size + 3, 0, none⟩ (.slice ao' (k + 1) ac')) := (Fr.refl (fun i => i = w.heap.size + 3) w').setCell (p := ⟨w.heap.size + 3, 0, none⟩) (fun _ => rfl) _
    have hfin : Hid (Kb W' (w'.setCell ⟨w.heap.size + 3, 0, none⟩ (.slice ao' (k + 1) ac')) ∧ NuI w ls most (sl, sb) (w'.setCell ⟨w.heap.size + 3, 0, none⟩ (.slice ao' (k + 1) ac'))) := by
      have hl : (done ++ [x]).length = k + 1 := by simp [Hk.out]
      refine Lib.hid ⟨hkb.trans (Kb.setCell _ _ _), done ++ [x], ao', ac', by rw [G1.out]; simp, ?_⟩
      rw [hl]
      refine ⟨hf1.heap b2 (by omega), hf1.heap b3 (by omega), hf1.heap b4 (by omega), heap_setC (j := 0) _ b5, ?_, hfresh, (G8.out.trans hfr (fun i hi e => hn' i (by omega) e)).trans hf1 (fun i hi e => by omega), ?_, hbx⟩
      · have := hs'.fr hf1 (fun g hg e => by have := hfresh g hg; omega)
        simpa using this
      · exact BoxAt.fr (s := (sl, sb)) (fun g o e => b9 g o e) hf1 (fun g o e h2 => by have := (hbx g o e).1; omega)
    clear hs' hfr hor hkb hn' b2 b3 b4 b5 b9 hlt6 hfresh hf1 c4 c0 hbx hi hz0 hz1 hz2
    gi_wp2
    exact hfin.out
  case done =>
    rintro D s W2 W hD hI hdn hd W'' hb hd2 hkb
    have hI2 := hIbk _ _ _ (hI.fr hdn.2) hb
    obtain ⟨done, ao, ac, g1, g2, g3, g4, g5, g6, g7, g8, g9, g10⟩ := hI2
    rw [hdn.1, List.append_nil] at g1
    subst g1
    have c4 : W''.cell? ⟨w.heap.size + 1 + 1 + 1, 0, none⟩ = some (.slice ao ls.length ac) := cell_of_block g5 rfl
    have G3 := Lib.hid g3
    have G4 := Lib.hid g4
    have G6 := Lib.hid g6
    have G7 := Lib.hid g7
    have G8 := Lib.hid g8
    have Hd := Lib.hid hd2
    have d3 : W''.cell? ⟨w.heap.size + 1, 0, none⟩ = some (.slice none 0 0) := cell_of_block g3 rfl
    have e3 : W''.frozen? ⟨w.heap.size + 1, 0, none⟩ = false := frozen_of_block g3
    have k1 : Fr (fun i => i = w.heap.size + 1) W'' (W''.setCell ⟨w.heap.size + 1, 0, none⟩ (.slice ao ls.length ac)) := (Fr.refl (fun i => i = w.heap.size + 1) W'').setCell (p := ⟨w.heap.size + 1, 0, none⟩) (fun _ => rfl) _
    have s1 := heap_setC (j := 0) (.slice ao ls.length ac) g3
    have s2 := k1.heap g4 (by omega)
    have hd1 := k1.heap hd2 (by omega)
    have m8 := g6.fr k1 (fun g hg e => by have := g7 g hg; omega)
    have m12 := g8.trans k1 (fun i hi e => by omega)
    have d4 : (W''.setCell ⟨w.heap.size + 1, 0, none⟩ (.slice ao ls.length ac)).cell? ⟨w.heap.size + 1 + 1, 0, none⟩ = some (.bool false) := cell_of_block s2 rfl
    have e4 : (W''.setCell ⟨w.heap.size + 1, 0, none⟩ (.slice ao ls.length ac)).frozen? ⟨w.heap.size + 1 + 1, 0, none⟩ = false := frozen_of_block s2
    have S1 := Lib.hid s1
    have S2 := Lib.hid s2
    have HD1 := Lib.hid hd1
    have M8 := Lib.hid m8
    have M12 := Lib.hid m12
    clear g2 g3 g4 g5 g6 g7 g8 g9 g10 hd hd2 hIbk hkb HI0 hb hI hdn k1 s1 s2 hd1 m8 m12 G8 G3 G4 G6
    go_wp2
    have k2 : Fr (fun i => i = w.heap.size + 1 + 1) (W''.setCell ⟨w.heap.size + 1, 0, none⟩ (.slice ao ls.length ac)) ((W''.setCell ⟨w.heap.size + 1, 0, none⟩ (.slice ao ls.length ac)).setCell ⟨w.heap.size + 1 + 1, 0, none⟩ (.bool true)) := (Fr.refl (fun i => i = w.heap.size + 1 + 1) _).setCell (p := ⟨w.heap.size + 1 + 1, 0, none⟩) (fun _ => rfl) _
    have r1 := k2.heap S1.out (by omega)
    have r2 := heap_setC (j := 0) (.bool true) S2.out
    have r3 := k2.heap HD1.out (by omega)
    have r4 := M8.out.fr k2 (fun g hg e => by have := G7.out g hg; omega)
    have r5 := M12.out.trans k2 (fun i hi e => by omega)
    refine leaveOne D rfl r3 (fun Wf hbf => ?_)
    exact ⟨_, nums_res _ (w.heap.size + 1) (w.heap.size + 1 + 1) _ _ _ rfl rfl (cell_of_block (hbf.heap r1 rfl) rfl) (cell_of_block (hbf.heap r2 rfl) rfl), ao, ac, rfl, r4.bk hbf, hbf.fr r5 (by omega), fun g hg => by have := G7.out g hg; omega⟩
end Go.Proofs.YtkdcldnbdhfobaaDoor
