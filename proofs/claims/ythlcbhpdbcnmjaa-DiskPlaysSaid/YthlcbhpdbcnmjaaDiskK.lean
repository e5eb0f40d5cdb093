/- The laws' Lines and SameLines. -/
import Derived.Test.YthlcbhpdbcnmjaaDisk
namespace Go.Proofs.Ythlcbhpdbcnmjaa
open Go.RowKit Go.Shelf Go.XL
set_option linter.unusedVariables false
set_option linter.unusedSimpArgs false
attribute [local go_sem] Oper.semAt_some

abbrev encL (x : Nat × ByteArray) : Array Value := #[.int .i64 x.1, .string x.2]

/-- what holds between two rounds of Lines: w + 0 (most), + 1, + 2 (the results), + 3 (out) -/
def LnI (w : World) (ls : List ByteArray) (most : Int) (s : List (Nat × ByteArray)) (W : World) : Prop :=
  ∃ (k : Nat) (ao : Option Addr) (ac : Nat), s = enumG (ls.drop k) k ∧ k ≤ ls.length ∧ W.heap[w.heap.size]? = some (.cells #[.int .i64 most] 3 (0, 0)) ∧
    W.heap[w.heap.size + 1]? = some (.cells #[.slice none 0 0] 40 (0, 0)) ∧ W.heap[w.heap.size + 2]? = some (.cells #[.bool false] 4 (0, 0)) ∧
    W.heap[w.heap.size + 3]? = some (.cells #[.slice ao k ac] 40 (0, 0)) ∧
    Sl W 9 1 (.slice ao k ac) k ((ls.take k).map Value.string) ∧
    (∀ g, Value.ownBlock (.slice ao k ac) = some g → w.heap.size + 4 ≤ g) ∧ Fr no w W

theorem lines_res (tmps : Array Value) (c1 c2 : Nat) (w : World) (v1 v2 : Value) (h1 : tmps[4]? = some (.pointer (some ⟨c1, 0, none⟩))) (h2 : tmps[5]? = some (.pointer (some ⟨c2, 0, none⟩)))
    (g1 : w.cell? ⟨c1, 0, none⟩ = some v1) (g2 : w.cell? ⟨c2, 0, none⟩ = some v2) : (results Try.f21 tmps).run Try.prog w = .ok (.tuple #[v1, v2]) w := by
  simp [results, Try.results21, go_sem, h1, h2, g1, g2]

set_option maxRecDepth 10000 in
set_option maxHeartbeats 2000000 in
theorem law_lines {gf : Nat} {lb : Array Value} {Pre : World → Prop} (ls : List ByteArray) (most : Int) (w : World) (hnn : ∀ w, (binOp .eql 44 (.func (.func gf) #[] lb) .nilFunc).run Try.prog w = .ok (.bool false) w)
    (eg : ∀ args w, (callFunc gf args).run Try.prog w = .ok (.enter gf args) w) (hiter : EachC Fence.wide 2 Try.prog gf lb encL Pre (enumG ls 0)) (hPre : ∀ W, Fr no w W → Pre W) (hlen : (ls.length : Int) ≤ most) (hm : most ≤ 1000) :
    Calls Try.prog 21 #[.func (.func gf) #[] lb, .int .i64 most] w fun e w' => ∃ ao ac, e = .returned (.tuple #[.slice ao ls.length ac, .bool true]) ∧ Rd w' 1 (.slice ao ls.length ac) ls.length (ls.map Value.string) ∧ Fr no w w' ∧ ∀ g, Value.ownBlock (.slice ao ls.length ac) = some g → w.heap.size ≤ g := by
  have Hiter := Lib.hid hiter
  have HPre := Lib.hid hPre
  have Heg := Lib.hid eg
  clear hiter hPre eg
  refine calls_of_in (n := 4) free_wide (callsIn_of_wp_marks Try.func21 rfl trivial (wpIn_wide.2 ?_) rfl)
  simp only [Try.ntmps21, List.size_toArray, List.length_cons, List.length_nil, Nat.reduceAdd, Nat.reduceSub, Array.replicate_succ, Array.replicate_zero, List.push_toArray, List.append_toArray, List.nil_append, List.cons_append]
  go_wp2
  clear hnn
  refine wp_name ?_
  intro w2 hw2
  have hf2 : Fr no w w2 := by rw [hw2]; exact ((((Fr.refl no w).alloc _).alloc _).alloc _).alloc _
  have hI0 : LnI w ls most (enumG ls 0) w2 := by
    refine ⟨0, none, 0, rfl, Nat.zero_le _, ?_, ?_, ?_, ?_, by simpa using Sl.nil _ _ _, by simp [Value.ownBlock], hf2⟩ <;> rw [hw2] <;> simp only [alloc_get, World.size_alloc, Nat.add_assoc] <;> simp
  have hs2 : w.heap.size + 4 = w2.heap.size := by rw [hw2]; simp
  have HI0 := Lib.hid hI0
  clear hw2 hI0 hf2
  have hIbk : ∀ s W W', LnI w ls most s W → Bk w2.heap.size W W' → LnI w ls most s W' := by
    rintro s W W' ⟨k, ao, ac, a0, a1, a2, a3, a4, a5, a6, a7, a8⟩ hb
    exact ⟨k, ao, ac, a0, a1, hb.heap a2 rfl, hb.heap a3 rfl, hb.heap a4 rfl, hb.heap a5 rfl, a6.bk hb, a7, hb.fr a8 (by omega)⟩
  refine (wpIn_wide (n := 3)).1 ?_
  refine wpIn_each (ls := enumG ls 0) rfl (by intro h; cases h) (gf := gf) (lb := lb) rfl trivial Heg.out
    Hiter.out (fun _ => rfl) (LnI w ls most) (fun _ _ => False)
    hIbk (fun _ _ _ f _ => f) ?hPre HI0.out ?round ?done (fun _ _ _ _ f => f.elim)
  case hPre =>
    rintro s W ⟨k, ao, ac, a0, a1, a2, a3, a4, a5, a6, a7, a8⟩
    exact HPre.out W a8
  case round =>
    rintro l W x s h
    gi_wp2
    refine ⟨Kb.refl _, fun l W' hb hl => ?_⟩
    obtain ⟨k, ao, ac, g0, g1, g2, g3, g4, g5, g6, g7, g8⟩ := hIbk _ _ _ h hb
    clear hb h hIbk
    obtain ⟨u, hu, rfl, rfl⟩ := enumG_cons g0.symm
    have hkl := (List.getElem?_eq_some_iff.1 hu).1
    have hkm : (k : Int) < most := by omega
    have hk1 : k ≤ 1000 := by omega
    have htk : (ls.take (k + 1)).map Value.string = (ls.take k).map Value.string ++ [.string u] := by rw [List.take_add_one, hu]; simp
    have c0 : W'.cell? ⟨w.heap.size, 0, none⟩ = some (.int .i64 most) := cell_of_block g2 rfl
    have c3 : W'.cell? ⟨w.heap.size + 1 + 1 + 1, 0, none⟩ = some (.slice ao k ac) := cell_of_block g5 rfl
    obtain ⟨i0, hi, hz0, hz1, hz2⟩ := info_parts (show (Try.prog.info? 9).map (fun i => (i.zero, i.size, i.bytes)) = some (some (.string ByteArray.empty), 1, 16) by kernel_rfl)
    have G2 := Lib.hid g2
    have G3 := Lib.hid g3
    have G4 := Lib.hid g4
    have G5 := Lib.hid g5
    have G6 := Lib.hid g6
    have G7 := Lib.hid g7
    have G8 := Lib.hid g8
    have Htk := Lib.hid htk
    have Hkl := Lib.hid hkl
    clear g0 g1 g2 g3 g4 g5 g6 g7 g8 hu htk hkl
    gi_wp2_with (gi_at_builtin; refine wpListIn_append_one W' (.string u) 9 rfl _ _ 40 rfl 9 i0 (.string ByteArray.empty) 16 Try.underlying40 hi hz0 hz1 hz2 rfl _ k _ rfl G6.out rfl rfl (by unfold maxLen; omega) (by omega) ?_)
    intro ao' ac' w' hs' hfr hor hkb
    have hn' : ∀ j, j < w.heap.size + 4 → ¬ Value.ownBlock (.slice ao k ac) = some j := fun j hj e => by have := G7.out j e; omega
    have b2 := hfr.heap G2.out (hn' _ (by omega))
    have b3 := hfr.heap G3.out (hn' _ (by omega))
    have b4 := hfr.heap G4.out (hn' _ (by omega))
    have b5 := hfr.heap G5.out (hn' _ (by omega))
    have hlt5 := (Array.getElem?_eq_some_iff.1 G5.out).1
    have hfresh : ∀ g, Value.ownBlock (.slice ao' (k + 1) ac') = some g → w.heap.size + 4 ≤ g := fun g hg => by
      rcases hor with e | e
      · exact G7.out g (by rw [← e]; exact hg)
      · have h1 := e g hg; omega
    have c3' : w'.cell? ⟨w.heap.size + 1 + 1 + 1, 0, none⟩ = some (.slice ao k ac) := cell_of_block b5 rfl
    have f3' : w'.frozen? ⟨w.heap.size + 1 + 1 + 1, 0, none⟩ = false := frozen_of_block b5
    have hf1 : Fr (fun i => i = w.heap.size + 3) w' (w'.setCell ⟨w.heap.size + 3, 0, none⟩ (.slice ao' (k + 1) ac')) := (Fr.refl (fun i => i = w.heap.size + 3) w').setCell (p := ⟨w.heap.size + 3, 0, none⟩) (fun _ => rfl) _
    have hfin : Hid (Kb W' (w'.setCell ⟨w.heap.size + 3, 0, none⟩ (.slice ao' (k + 1) ac')) ∧ LnI w ls most (enumG (ls.drop (k + 1)) (k + 1)) (w'.setCell ⟨w.heap.size + 3, 0, none⟩ (.slice ao' (k + 1) ac'))) := by
      refine Lib.hid ⟨hkb.trans (Kb.setCell _ _ _), k + 1, ao', ac', rfl, Hkl.out, hf1.heap b2 (by omega), hf1.heap b3 (by omega), hf1.heap b4 (by omega), heap_setC (j := 0) _ b5, ?_, hfresh, (G8.out.trans hfr (fun i hi e => hn' i (by omega) e)).trans hf1 (fun i hi e => by omega)⟩
      rw [Htk.out]
      have := hs'.fr hf1 (fun g hg e => by have := hfresh g hg; omega)
      simpa using this
    clear hs' hfr hor hkb hn' b2 b3 b4 b5 hlt5 hfresh hf1 c0 c3 hi hz0 hz1 hz2
    gi_wp2
    exact hfin.out
  case done =>
    rintro D W hD ⟨k, ao, ac, g0, g1, g2, g3, g4, g5, g6, g7, g8⟩ hd
    have hk := enumG_nil g0.symm
    obtain rfl : k = ls.length := by omega
    rw [List.take_of_length_le (Nat.le_refl _)] at g6
    have c3 : W.cell? ⟨w.heap.size + 1 + 1 + 1, 0, none⟩ = some (.slice ao ls.length ac) := cell_of_block g5 rfl
    have d1 : W.cell? ⟨w.heap.size + 1, 0, none⟩ = some (.slice none 0 0) := cell_of_block g3 rfl
    have e1 : W.frozen? ⟨w.heap.size + 1, 0, none⟩ = false := frozen_of_block g3
    have d2 : W.cell? ⟨w.heap.size + 1 + 1, 0, none⟩ = some (.bool false) := cell_of_block g4 rfl
    have e2 : W.frozen? ⟨w.heap.size + 1 + 1, 0, none⟩ = false := frozen_of_block g4
    have k1 : Fr (fun i => i = w.heap.size + 1) W (W.setCell ⟨w.heap.size + 1, 0, none⟩ (.slice ao ls.length ac)) := (Fr.refl (fun i => i = w.heap.size + 1) W).setCell (p := ⟨w.heap.size + 1, 0, none⟩) (fun _ => rfl) _
    have k2 : Fr (fun i => i = w.heap.size + 1 + 1) (W.setCell ⟨w.heap.size + 1, 0, none⟩ (.slice ao ls.length ac)) ((W.setCell ⟨w.heap.size + 1, 0, none⟩ (.slice ao ls.length ac)).setCell ⟨w.heap.size + 1 + 1, 0, none⟩ (.bool true)) := (Fr.refl (fun i => i = w.heap.size + 1 + 1) _).setCell (p := ⟨w.heap.size + 1 + 1, 0, none⟩) (fun _ => rfl) _
    have S1 := Lib.hid (k2.heap (heap_setC (j := 0) (.slice ao ls.length ac) g3) (by omega))
    have S2 := Lib.hid (heap_setC (j := 0) (.bool true) (k1.heap g4 (by omega)))
    have HD1 := Lib.hid (k2.heap (k1.heap hd (by omega)) (by omega))
    have M6 := Lib.hid ((g6.fr k1 (fun g hg e => by have := g7 g hg; omega)).fr k2 (fun g hg e => by have := g7 g hg; omega))
    have M8 := Lib.hid ((g8.trans k1 (fun i hi e => by omega)).trans k2 (fun i hi e => by omega))
    have G7 := Lib.hid g7
    clear g0 g1 g2 g3 g4 g5 g6 g7 g8 hd hIbk HI0 k1 k2 hk
    go_wp2
    refine leaveOne D rfl HD1.out (fun Wf hbf => ?_)
    exact ⟨_, lines_res _ (w.heap.size + 1) (w.heap.size + 1 + 1) _ _ _ rfl rfl (cell_of_block (hbf.heap S1.out rfl) rfl) (cell_of_block (hbf.heap S2.out rfl) rfl), ao, ac, rfl, (M6.out.bk hbf).rd, hbf.fr M8.out (by omega), fun g hg => by have := G7.out g hg; omega⟩

theorem law_same (v1 v2 : Value) (a b : List ByteArray) (w : World) (h1 : Rd w 1 v1 a.length (a.map Value.string)) (h2 : Rd w 1 v2 b.length (b.map Value.string)) :
    Calls Try.prog 23 #[v1, v2] w fun e w' => e = .returned (.bool (decide (a = b))) ∧ Fr no w w' := by
  obtain ⟨ao1, cap1, rfl, hc1, hm1⟩ := h1.cap
  obtain ⟨ao2, cap2, rfl, hc2, hm2⟩ := h2.cap
  by_cases hne : a.length = b.length
  · have H1 := Lib.hid h1
    have H2 := Lib.hid h2
    clear h1 h2
    generalize ha : a.length = n at *
    generalize hb : b.length = m at *
    subst hne
    have Ha := Lib.hid ha
    have Hb := Lib.hid hb
    clear ha hb
    go_enter Try.func23, Try.ntmps23
    go_wp2_with fail
    go_loopw [5] (fun jv wr => ∃ (j : Nat), j ≤ n ∧ jv = .int .i64 j ∧ Hid (∀ i : Nat, i < j → a[i]? = b[i]?) ∧ Hid (Fr no w wr)) (fun jv _ => n - (intOf jv).toNat)
    case atStart => exact ⟨0, Nat.zero_le _, rfl, Lib.hid (fun j h => by omega), Lib.hid (Fr.refl _ _)⟩
    case round =>
      obtain ⟨j, hj, rfl, hC, hF⟩ := hrel
      by_cases hlt : j < n
      · have hl1 : j < a.length := by rw [Ha.out]; exact hlt
        have hl2 : j < b.length := by rw [Hb.out]; exact hlt
        have hf1 := (H1.out.fr hF.out (fun _ _ _ f => f)).form (by omega)
        have hf2 := (H2.out.fr hF.out (fun _ _ _ f => f)).form (by omega)
        obtain ⟨g, off, c', he, _, _, hx⟩ := hf1
        obtain ⟨g2, off2, c2', he2, _, _, hx2⟩ := hf2
        cases he
        cases he2
        obtain ⟨x, hxk⟩ : ∃ x, a[j]? = some x := ⟨a[j], by simp [hl1]⟩
        obtain ⟨y, hyk⟩ : ∃ y, b[j]? = some y := ⟨b[j], by simp [hl2]⟩
        have hc1' : wr.cell? ⟨g, off + j, none⟩ = some (.string x) := hx j _ (by simp [hxk])
        have hc2' : wr.cell? ⟨g2, off2 + j, none⟩ = some (.string y) := hx2 j _ (by simp [hyk])
        have Hxk := Lib.hid hxk
        have Hyk := Lib.hid hyk
        clear hx hx2 hl1 hl2 hxk hyk
        by_cases hxy : x = y
        · subst hxy
          have hq : (x.toList == x.toList) = true := by simp
          go_wp2
          go_quiet (fail)
          go_wp2
          go_roundw
          case rel => exact ⟨j + 1, by omega, by go_num, Lib.hid (fun t ht => by rcases Nat.lt_succ_iff_lt_or_eq.1 ht with h | rfl <;> first | exact hC.out t h | rw [Hxk.out, Hyk.out]), Lib.hid (hF.out.drewN _)⟩
          case measure => simp [intOf]; omega
        · have hq : (x.toList == y.toList) = false := by
            rw [beq_eq_false_iff_ne]
            intro h
            rw [ByteArray.toList_eq, ByteArray.toList_eq] at h
            exact hxy (ByteArray.ext (Array.ext' h))
          go_wp2
          go_quiet (fail)
          go_wp2
          go_ret
          have e1 : decide (a = b) = false := by
            rw [decide_eq_false_iff_not]; intro e
            have e1 := Hxk.out; rw [e, Hyk.out] at e1; exact hxy (by cases e1; rfl)
          rw [e1]
          exact ⟨rfl, hF.out.drewN _⟩
      · obtain rfl : j = n := by omega
        go_wp2
        go_ret
        have e1 : decide (a = b) = true := by
          rw [decide_eq_true_iff]
          apply List.ext_getElem?
          intro i
          by_cases hi : i < j
          · exact hC.out i hi
          · rw [List.getElem?_eq_none (by rw [Ha.out]; omega), List.getElem?_eq_none (by rw [Hb.out]; omega)]
        rw [e1]
        exact ⟨rfl, hF.out⟩
  · have e1 : decide (a = b) = false := by rw [decide_eq_false_iff_not]; intro e; exact hne (by rw [e])
    rw [e1]
    clear h1 h2 e1
    have hne' : ¬ (a.length : Int) = b.length := by omega
    go_enter Try.func23, Try.ntmps23
    go_wp2
    go_ret
    exact ⟨rfl, Fr.refl _ _⟩
end Go.Proofs.Ythlcbhpdbcnmjaa
