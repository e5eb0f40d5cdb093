/- Contracts of the laws' own words for tables: Rows, Ints, known. -/
import Derived.Test.YtkhjdhdgomndoaaTab3
namespace Go.Proofs.Ytkhjdhdgomndoaa
open Go.RowKit Go.Shelf Go.XL
set_option linter.unusedVariables false
set_option linter.unusedSimpArgs false
attribute [local go_sem] Oper.semAt_some
theorem Try.info33 : (Try.prog.info? 33).map (fun i => (i.zero, i.size, i.bytes)) = some (some (.slice none 0 0), 1, 24) := by kernel_rfl

theorem law_ints (v1 v2 : Value) (a b : List Int) (w : World) (h1 : IntsAt w v1 a) (h2 : IntsAt w v2 b) :
    Calls Try.prog 23 #[v1, v2] w fun e w' => e = .returned (.bool (decide (a = b))) ∧ Fr no w w' := by
  obtain ⟨ao1, cap1, rfl, hc1, hm1⟩ := h1.cap
  obtain ⟨ao2, cap2, rfl, hc2, hm2⟩ := h2.cap
  by_cases hne : a.length = b.length
  · have H1 := Lib.hid h1
    have H2 := Lib.hid h2
    clear h1 h2
    generalize ha : a.length = n at *
    generalize hb : b.length = m at *
    subst hne
    have Ha := Lib.hid ha
    have Hb := Lib.hid hb
    clear ha hb
    go_enter Try.func23, Try.ntmps23
    go_wp2_with fail
    go_loopw [5] (fun jv wr => ∃ (j : Nat), j ≤ n ∧ jv = .int .i64 j ∧ Hid (∀ i : Nat, i < j → a[i]? = b[i]?) ∧ Hid (Fr no w wr)) (fun jv _ => n - (intOf jv).toNat)
    case atStart => exact ⟨0, Nat.zero_le _, rfl, Lib.hid (fun j h => by omega), Lib.hid (Fr.refl _ _)⟩
    case round =>
      obtain ⟨j, hj, rfl, hC, hF⟩ := hrel
      by_cases hlt : j < n
      · have hl1 : j < a.length := by rw [Ha.out]; exact hlt
        have hl2 : j < b.length := by rw [Hb.out]; exact hlt
        have hf1 := (H1.out.fr hF.out (fun _ _ _ f => f)).form (by omega)
        have hf2 := (H2.out.fr hF.out (fun _ _ _ f => f)).form (by omega)
        rw [Ha.out] at hf1
        rw [Hb.out] at hf2
        obtain ⟨g, off, c', he, _, _, hx⟩ := hf1
        obtain ⟨g2, off2, c2', he2, _, _, hx2⟩ := hf2
        cases he
        cases he2
        obtain ⟨x, hxk⟩ : ∃ x, a[j]? = some x := ⟨a[j], by simp [hl1]⟩
        obtain ⟨y, hyk⟩ : ∃ y, b[j]? = some y := ⟨b[j], by simp [hl2]⟩
        have hc1' : wr.cell? ⟨g, off + j, none⟩ = some (.int .i64 x) := hx j _ (by simp [hxk])
        have hc2' : wr.cell? ⟨g2, off2 + j, none⟩ = some (.int .i64 y) := hx2 j _ (by simp [hyk])
        have Hxk := Lib.hid hxk
        have Hyk := Lib.hid hyk
        clear hx hx2 hl1 hl2 hxk hyk
        go_wp2
        go_quiet (fail)
        by_cases hxy : x = y
        · subst hxy
          go_wp2
          go_roundw
          case rel => exact ⟨j + 1, by omega, by go_num, Lib.hid (fun t ht => by rcases Nat.lt_succ_iff_lt_or_eq.1 ht with h | rfl <;> first | exact hC.out t h | rw [Hxk.out, Hyk.out]), Lib.hid (hF.out.drewN _)⟩
          case measure => simp [intOf]; omega
        · go_wp2
          go_ret
          have e1 : decide (a = b) = false := by
            rw [decide_eq_false_iff_not]; intro e
            have e1 := Hxk.out; rw [e, Hyk.out] at e1; exact hxy (by cases e1; rfl)
          rw [e1]
          exact ⟨rfl, hF.out.drewN _⟩
      · obtain rfl : j = n := by omega
        go_wp2
        go_ret
        have e1 : decide (a = b) = true := by
          rw [decide_eq_true_iff]
          apply List.ext_getElem?
          intro i
          by_cases hi : i < j
          · exact hC.out i hi
          · rw [List.getElem?_eq_none (by rw [Ha.out]; omega), List.getElem?_eq_none (by rw [Hb.out]; omega)]
        rw [e1]
        exact ⟨rfl, hF.out⟩
  · have e1 : decide (a = b) = false := by rw [decide_eq_false_iff_not]; intro e; exact hne (by rw [e])
    rw [e1]
    clear h1 h2 e1
    have hne' : ¬ (a.length : Int) = b.length := by omega
    go_enter Try.func23, Try.ntmps23
    go_wp2
    go_ret
    exact ⟨rfl, Fr.refl _ _⟩

theorem rows_not_nil (x : Addr) (w : World) : (binOp .eql 54 (.func (.func 31) #[] #[.pointer (some x)]) .nilFunc).run Try.prog w = .ok (.bool false) w := by kernel_rfl
theorem lrows_res (tmps : Array Value) (c1 c2 : Nat) (w : World) (v1 v2 : Value) (h1 : tmps[4]? = some (.pointer (some ⟨c1, 0, none⟩))) (h2 : tmps[5]? = some (.pointer (some ⟨c2, 0, none⟩)))
    (g1 : w.cell? ⟨c1, 0, none⟩ = some v1) (g2 : w.cell? ⟨c2, 0, none⟩ = some v2) : (results Try.f21 tmps).run Try.prog w = .ok (.tuple #[v1, v2]) w := by
  simp [results, Try.results21, go_sem, h1, h2, g1, g2]

/-- what holds between two rounds of Rows: w + 0 (most), + 1, + 2 (the results), + 3 (out) -/
def LrI (w : World) (c : Nat) (v : Value) (vs : List Value) (n : Nat) (most : Int) (s : List (Nat × Value)) (W : World) : Prop :=
  ∃ (k : Nat) (bo : Option Addr) (bc : Nat), s = enumF (vs.drop k) k ∧ k ≤ n ∧ W.heap[w.heap.size]? = some (.cells #[.int .i64 most] 3 (0, 0)) ∧ W.heap[w.heap.size + 1]? = some (.cells #[.slice none 0 0] 50 (0, 0)) ∧ W.heap[w.heap.size + 2]? = some (.cells #[.bool false] 4 (0, 0)) ∧
    W.heap[w.heap.size + 3]? = some (.cells #[.slice bo k bc] 50 (0, 0)) ∧ Sl W 33 1 (.slice bo k bc) k (vs.take k) ∧ (∀ g, Value.ownBlock (.slice bo k bc) = some g → w.heap.size + 4 ≤ g) ∧ Fr no w W

set_option maxRecDepth 10000 in
set_option maxHeartbeats 1000000 in
theorem law_rows (c : Nat) (ao : Option Addr) (cap n : Nat) (vs : List Value) (most : Int) (w : World) (hc : w.cell? ⟨c, 0, none⟩ = some (.slice ao n cap)) (hv : Rd w 1 (.slice ao n cap) n vs) (hu : ∀ u ∈ vs, ∃ ao n cap, u = .slice ao n cap) (hn : (n : Int) ≤ most) (hm : most ≤ 1000) :
    Calls Try.prog 21 #[.func (.func 31) #[] #[.pointer (some ⟨c, 0, none⟩)], .int .i64 most] w fun e w' => ∃ bo bc, e = .returned (.tuple #[.slice bo n bc, .bool true]) ∧ Fr no w w' := by
  have hvl := hv.1
  rw [Nat.mul_one] at hvl
  have H := Lib.hid hv
  have Hc := Lib.hid hc
  have Hu := Lib.hid hu
  have Hl := Lib.hid hvl
  clear hv hc hu hvl
  refine calls_of_in (n := 4) free_wide (callsIn_of_wp_marks Try.func21 rfl trivial (wpIn_wide.2 ?_) rfl)
  simp only [Try.ntmps21, List.size_toArray, List.length_cons, List.length_nil, Nat.reduceAdd, Nat.reduceSub, Array.replicate_succ, Array.replicate_zero, List.push_toArray, List.append_toArray, List.nil_append, List.cons_append]
  have hnn := rows_not_nil
  go_wp2
  clear hnn
  refine wp_name ?_
  intro w2 hw2
  have hf2 : Fr no w w2 := by rw [hw2]; exact ((((Fr.refl no w).alloc _).alloc _).alloc _).alloc _
  have hI0 : LrI w c (.slice ao n cap) vs n most (enumF vs 0) w2 := by
    refine ⟨0, none, 0, rfl, Nat.zero_le _, ?_, ?_, ?_, ?_, by simpa using Sl.nil _ _ _, by simp [Value.ownBlock], hf2⟩ <;> rw [hw2]
    · simp only [alloc_get, World.size_alloc, Nat.add_assoc]; simp
    · simp only [alloc_get, World.size_alloc, Nat.add_assoc]; simp
    · simp only [alloc_get, World.size_alloc, Nat.add_assoc]; simp
    · simp only [alloc_get, World.size_alloc, Nat.add_assoc]; simp
  have hs2 : w.heap.size + 4 = w2.heap.size := by rw [hw2]; simp
  have HI0 := Lib.hid hI0
  clear hw2 hI0 hf2
  have hIbk : ∀ s W W', LrI w c (.slice ao n cap) vs n most s W → Bk w2.heap.size W W' → LrI w c (.slice ao n cap) vs n most s W' := by
    rintro s W W' ⟨k, bo, bc, a1, a2, a3, a4, a5, a6, a7, a8, a9⟩ hb
    exact ⟨k, bo, bc, a1, a2, hb.heap a3 rfl, hb.heap a4 rfl, hb.heap a5 rfl, hb.heap a6 rfl, a7.bk hb, a8, hb.fr a9 (by omega)⟩
  refine (wpIn_wide (n := 3)).1 ?_
  refine wpIn_each (ls := enumF vs 0) rfl (by intro h; cases h) (gf := 31) (lb := #[.pointer (some ⟨c, 0, none⟩)]) rfl trivial (enters_of Try.func31 (by kernel_rfl) rfl)
    (rows_iter c n (.slice ao n cap) vs) (fun _ => rfl) (LrI w c (.slice ao n cap) vs n most) (fun _ _ => False)
    hIbk (fun _ _ _ f _ => f) ?hPre HI0.out ?round ?done (fun _ _ _ _ f => f.elim)
  case hPre => exact fun s W ⟨k, bo, bc, a1, a2, a3, a4, a5, a6, a7, a8, a9⟩ => ⟨a9.cell Hc.out (fun f => f), H.out.fr a9 (fun _ _ _ f => f)⟩
  case round =>
    rintro l W x s h
    gi_wp2
    refine ⟨Kb.refl _, fun l W' hb hl => ?_⟩
    obtain ⟨k, bo, bc, g1, g2, g3, g4, g5, g6, g7, g8, g9⟩ := hIbk _ _ _ h hb
    clear hb h hIbk
    obtain ⟨u, hr, rfl, rfl⟩ := enumF_cons g1.symm
    have hkl : k < n := by rw [← Hl.out]; exact (List.getElem?_eq_some_iff.1 hr).1
    obtain ⟨uo, un, ucap, rfl⟩ := Hu.out u (List.mem_of_getElem? hr)
    have c0 : W'.cell? ⟨w.heap.size, 0, none⟩ = some (.int .i64 most) := cell_of_block g3 rfl
    have c3 : W'.cell? ⟨w.heap.size + 1 + 1 + 1, 0, none⟩ = some (.slice bo k bc) := cell_of_block g6 rfl
    obtain ⟨i0, hi, hz0, hz1, hz2⟩ := info_parts Try.info33
    have Hr := Lib.hid hr
    have G1 := Lib.hid g1
    have G3 := Lib.hid g3
    have G4 := Lib.hid g4
    have G5 := Lib.hid g5
    have G6 := Lib.hid g6
    have G7 := Lib.hid g7
    have G8 := Lib.hid g8
    have G9 := Lib.hid g9
    clear g1 g3 g4 g5 g6 g7 g8 g9 hr
    have hkm : (k : Int) < most := by omega
    gi_wp2_with (gi_at_builtin; refine wpListIn_append_one W' (.slice uo un ucap) 33 rfl _ _ 50 rfl 33 i0 (.slice none 0 0) 24 Try.underlying50 hi hz0 hz1 hz2 rfl _ k _ rfl G7.out rfl rfl (by unfold maxLen; omega) (by omega) ?_)
    intro ao' cap' w' hs' hfr hor hkb
    have hn' : ∀ j, j < w.heap.size + 4 → ¬ Value.ownBlock (.slice bo k bc) = some j := fun j hj e => by have := G8.out j e; omega
    have b6 := hfr.heap G6.out (hn' _ (by omega))
    have c3' : w'.cell? ⟨w.heap.size + 1 + 1 + 1, 0, none⟩ = some (.slice bo k bc) := cell_of_block b6 rfl
    have f3' : w'.frozen? ⟨w.heap.size + 1 + 1 + 1, 0, none⟩ = false := frozen_of_block b6
    have hfresh : ∀ g, Value.ownBlock (.slice ao' (k + 1) cap') = some g → w.heap.size + 4 ≤ g := fun g hg => by
      rcases hor with e | e
      · exact G8.out g (by rw [← e]; exact hg)
      · have := e g hg; have := (Array.getElem?_eq_some_iff.1 G6.out).1; omega
    have Hs' := Lib.hid hs'
    have Hfr := Lib.hid hfr
    have Hn' := Lib.hid hn'
    have Hfresh := Lib.hid hfresh
    have Hkb := Lib.hid hkb
    have B6 := Lib.hid b6
    clear hs' hfr hor hkb hn' b6 hi hz0 hz1 hz2 hfresh c3
    gi_wp2
    have hf : Fr (fun i => i = w.heap.size + 3) w' (w'.setCell ⟨w.heap.size + 3, 0, none⟩ (.slice ao' (k + 1) cap')) := (Fr.refl (fun i => i = w.heap.size + 3) w').setCell (p := ⟨w.heap.size + 3, 0, none⟩) (fun _ => rfl) _
    refine ⟨Hkb.out.trans (Kb.setCell _ _ _), k + 1, ao', cap', rfl, by omega, hf.heap (Hfr.out.heap G3.out (Hn'.out _ (by omega))) (by omega), hf.heap (Hfr.out.heap G4.out (Hn'.out _ (by omega))) (by omega), hf.heap (Hfr.out.heap G5.out (Hn'.out _ (by omega))) (by omega), heap_setC _ B6.out, ?_, Hfresh.out, (G9.out.trans Hfr.out (fun i hi e => Hn'.out i (by omega) e)).trans hf (fun i hi e => by omega)⟩
    have e : vs.take (k + 1) = vs.take k ++ [.slice uo un ucap] := by rw [List.take_add_one, Hr.out]; rfl
    rw [e]
    exact Hs'.out.fr hf (fun g hg e => by have := Hfresh.out g hg; omega)
  case done =>
    rintro D W hD h hd
    obtain ⟨k, bo, bc, g1, g2, g3, g4, g5, g6, g7, g8, g9⟩ := h
    have hkl := enumF_nil g1.symm
    obtain rfl : k = n := by have := Hl.out; omega
    have c3 : W.cell? ⟨w.heap.size + 1 + 1 + 1, 0, none⟩ = some (.slice bo k bc) := cell_of_block g6 rfl
    have c1 : W.cell? ⟨w.heap.size + 1, 0, none⟩ = some (.slice none 0 0) := cell_of_block g4 rfl
    have f1 : W.frozen? ⟨w.heap.size + 1, 0, none⟩ = false := frozen_of_block g4
    have c2 : W.cell? ⟨w.heap.size + 1 + 1, 0, none⟩ = some (.bool false) := cell_of_block g5 rfl
    have f2 : W.frozen? ⟨w.heap.size + 1 + 1, 0, none⟩ = false := frozen_of_block g5
    have G4 := Lib.hid g4
    have G5 := Lib.hid g5
    have G9 := Lib.hid g9
    have Hd := Lib.hid hd
    clear g1 g2 g3 g4 g5 g6 g7 g8 g9 hd hIbk hkl
    go_wp2
    have k1 : Fr (fun i => i = w.heap.size + 1) W (W.setCell ⟨w.heap.size + 1, 0, none⟩ (.slice bo k bc)) := (Fr.refl (fun i => i = w.heap.size + 1) W).setCell (p := ⟨w.heap.size + 1, 0, none⟩) (fun _ => rfl) _
    have s1 := heap_setC (j := 0) (.slice bo k bc) G4.out
    have s2 := k1.heap G5.out (by omega)
    have hdd := k1.heap Hd.out (by omega)
    generalize W.setCell ⟨w.heap.size + 1, 0, none⟩ (.slice bo k bc) = W2 at *
    have k2 : Fr (fun i => i = w.heap.size + 1 + 1) W2 (W2.setCell ⟨w.heap.size + 1 + 1, 0, none⟩ (.bool true)) := (Fr.refl (fun i => i = w.heap.size + 1 + 1) _).setCell (p := ⟨w.heap.size + 1 + 1, 0, none⟩) (fun _ => rfl) _
    have s3 := k2.heap s1 (by omega)
    have s4 := heap_setC (j := 0) (.bool true) s2
    have hd3 := k2.heap hdd (by omega)
    have hfin : Fr no w (W2.setCell ⟨w.heap.size + 1 + 1, 0, none⟩ (.bool true)) := (G9.out.trans k1 (fun i hi e => by omega)).trans k2 (fun i hi e => by omega)
    refine leaveOne D rfl hd3 (fun Wf hbf => ?_)
    exact ⟨_, lrows_res _ (w.heap.size + 1) (w.heap.size + 1 + 1) _ _ _ rfl rfl (cell_of_block (hbf.heap s3 rfl) rfl) (cell_of_block (hbf.heap s4 rfl) rfl), bo, bc, rfl, hbf.fr hfin (by omega)⟩
end Go.Proofs.Ytkhjdhdgomndoaa
