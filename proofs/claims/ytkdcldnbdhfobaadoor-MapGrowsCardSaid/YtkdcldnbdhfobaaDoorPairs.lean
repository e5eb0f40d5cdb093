/- The laws' Pairs and Ints. -/
import Derived.Test.YtkdcldnbdhfobaaDoorProg
import Derived.Test.YtkdcldnbdhfobaaDoorIterD
import Derived.Test.YtkdcldnbdhfobaaDoorHeld
import Derived.Test.YtkdcldnbdhfobaaDoorOwn
import Derived.OwnWalkIn
namespace Go.Proofs.YtkdcldnbdhfobaaDoor
open Go.RowKit Go.Shelf Go.XL
set_option linter.unusedVariables false
set_option linter.unusedSimpArgs false
attribute [local go_sem] Oper.semAt_some

abbrev encP (x : Nat × Int) : Array Value := #[.int .i64 x.1, .int .i64 x.2]
abbrev fstI (x : Nat × Int) : Int := x.1

/-- what holds between two rounds of Pairs: w + 0 (most), + 1 .. + 3 (the results), + 4, + 5 (a, b) -/
def PrI (w : World) (ls : List (Nat × Int)) (most : Int) (s : List (Nat × Int)) (W : World) : Prop :=
  ∃ (done : List (Nat × Int)) (ao : Option Addr) (ac : Nat) (bo : Option Addr) (bc : Nat), ls = done ++ s ∧ W.heap[w.heap.size]? = some (.cells #[.int .i64 most] 3 (0, 0)) ∧
    W.heap[w.heap.size + 1]? = some (.cells #[.slice none 0 0] 49 (0, 0)) ∧ W.heap[w.heap.size + 2]? = some (.cells #[.slice none 0 0] 49 (0, 0)) ∧ W.heap[w.heap.size + 3]? = some (.cells #[.bool false] 4 (0, 0)) ∧
    W.heap[w.heap.size + 4]? = some (.cells #[.slice ao done.length ac] 49 (0, 0)) ∧ W.heap[w.heap.size + 5]? = some (.cells #[.slice bo done.length bc] 49 (0, 0)) ∧
    Sl W 3 1 (.slice ao done.length ac) done.length ((done.map fstI).map (Value.int .i64)) ∧ Sl W 3 1 (.slice bo done.length bc) done.length ((done.map (·.2)).map (Value.int .i64)) ∧
    (∀ g, Value.ownBlock (.slice ao done.length ac) = some g → w.heap.size + 6 ≤ g ∧ Value.ownBlock (.slice bo done.length bc) ≠ some g) ∧ (∀ g, Value.ownBlock (.slice bo done.length bc) = some g → w.heap.size + 6 ≤ g) ∧ Fr no w W

theorem law_ints (v1 v2 : Value) (a b : List Int) (w : World) (h1 : Rd w 1 v1 a.length (a.map (Value.int .i64))) (h2 : Rd w 1 v2 b.length (b.map (Value.int .i64))) :
    Calls Tryd.prog 23 #[v1, v2] w fun e w' => e = .returned (.bool (decide (a = b))) ∧ Fr no w w' := by
  obtain ⟨ao1, cap1, rfl, hc1, hm1⟩ := h1.cap
  obtain ⟨ao2, cap2, rfl, hc2, hm2⟩ := h2.cap
  by_cases hne : a.length = b.length
  · have H1 := Lib.hid h1
    have H2 := Lib.hid h2
    clear h1 h2
    generalize ha : a.length = n at *
    generalize hb : b.length = m at *
    subst hne
    have Ha := Lib.hid ha
    have Hb := Lib.hid hb
    clear ha hb
    go_enter Tryd.func23, Tryd.ntmps23
    go_wp2_with fail
    go_loopw [5] (fun jv wr => ∃ (j : Nat), j ≤ n ∧ jv = .int .i64 j ∧ Hid (∀ i : Nat, i < j → a[i]? = b[i]?) ∧ Hid (Fr no w wr)) (fun jv _ => n - (intOf jv).toNat)
    case atStart => exact ⟨0, Nat.zero_le _, rfl, Lib.hid (fun j h => by omega), Lib.hid (Fr.refl _ _)⟩
    case round =>
      obtain ⟨j, hj, rfl, hC, hF⟩ := hrel
      by_cases hlt : j < n
      · have hl1 : j < a.length := by rw [Ha.out]; exact hlt
        have hl2 : j < b.length := by rw [Hb.out]; exact hlt
        have hf1 := (H1.out.fr hF.out (fun _ _ _ f => f)).form (by omega)
        have hf2 := (H2.out.fr hF.out (fun _ _ _ f => f)).form (by omega)
        obtain ⟨g, off, c', he, _, _, hx⟩ := hf1
        obtain ⟨g2, off2, c2', he2, _, _, hx2⟩ := hf2
        cases he
        cases he2
        obtain ⟨x, hxk⟩ : ∃ x, a[j]? = some x := ⟨a[j], by simp [hl1]⟩
        obtain ⟨y, hyk⟩ : ∃ y, b[j]? = some y := ⟨b[j], by simp [hl2]⟩
        have hc1' : wr.cell? ⟨g, off + j, none⟩ = some (.int .i64 x) := hx j _ (by simp [hxk])
        have hc2' : wr.cell? ⟨g2, off2 + j, none⟩ = some (.int .i64 y) := hx2 j _ (by simp [hyk])
        have Hxk := Lib.hid hxk
        have Hyk := Lib.hid hyk
        clear hx hx2 hl1 hl2 hxk hyk
        go_wp2
        go_quiet (fail)
        by_cases hxy : x = y
        · subst hxy
          go_wp2
          go_roundw
          case rel => exact ⟨j + 1, by omega, by go_num, Lib.hid (fun t ht => by rcases Nat.lt_succ_iff_lt_or_eq.1 ht with h | rfl <;> first | exact hC.out t h | rw [Hxk.out, Hyk.out]), Lib.hid (hF.out.drewN _)⟩
          case measure => simp [intOf]; omega
        · go_wp2
          go_ret
          have e1 : decide (a = b) = false := by
            rw [decide_eq_false_iff_not]; intro e
            have e1 := Hxk.out; rw [e, Hyk.out] at e1; exact hxy (by cases e1; rfl)
          rw [e1]
          exact ⟨rfl, hF.out.drewN _⟩
      · obtain rfl : j = n := by omega
        go_wp2
        go_ret
        have e1 : decide (a = b) = true := by
          rw [decide_eq_true_iff]
          apply List.ext_getElem?
          intro i
          by_cases hi : i < j
          · exact hC.out i hi
          · rw [List.getElem?_eq_none (by rw [Ha.out]; omega), List.getElem?_eq_none (by rw [Hb.out]; omega)]
        rw [e1]
        exact ⟨rfl, hF.out⟩
  · have e1 : decide (a = b) = false := by rw [decide_eq_false_iff_not]; intro e; exact hne (by rw [e])
    rw [e1]
    clear h1 h2 e1
    have hne' : ¬ (a.length : Int) = b.length := by omega
    go_enter Tryd.func23, Tryd.ntmps23
    go_wp2
    go_ret
    exact ⟨rfl, Fr.refl _ _⟩

end Go.Proofs.YtkdcldnbdhfobaaDoor
