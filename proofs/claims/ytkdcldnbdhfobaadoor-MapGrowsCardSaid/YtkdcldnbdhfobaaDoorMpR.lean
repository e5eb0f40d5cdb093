/- The reference's maps: CheckMap. -/
import Derived.Test.YtkdcldnbdhfobaaDoorMp1
namespace Go.Proofs.YtkdcldnbdhfobaaDoor
open Go.RowKit Go.Shelf Go.XL
set_option linter.unusedVariables false
set_option linter.unusedSimpArgs false
attribute [local go_sem] Oper.semAt_some
set_option maxRecDepth 100000 in
set_option maxHeartbeats 8000000 in
theorem ref_checkmap (v : Value) (m : Mp) (w : World) (h : MpAt w v m) :
    Calls Tryd.prog 15 #[v] w fun e w' => e = .returned (.int .i64 (mcheck m)) ∧ Fr no w w' := by
  obtain ⟨ao, cap, rfl, hcap, hmx⟩ := h.cap
  have H := Lib.hid h
  clear h
  by_cases hz : m = []
  · subst hz
    have e0 : mcheck [] = 1 := rfl
    rw [e0]
    simp only [List.length_nil] at hcap ⊢
    go_enter Tryd.func15, Tryd.ntmps15
    go_wp2
    go_ret
    exact ⟨rfl, Fr.refl _ _⟩
  · have e0 : mcheck m = mgo true 0 m := by unfold mcheck; rw [if_neg hz]
    have hpos : m.length ≠ 0 := fun e => hz (List.eq_nil_of_length_eq_zero e)
    rw [e0]
    obtain ⟨r, hr⟩ : ∃ r, mgo true 0 m = r := ⟨_, rfl⟩
    rw [hr]
    have Hr := Lib.hid hr
    clear hr e0 hz
    generalize hn : m.length = n at *
    have Hn := Lib.hid hn
    clear hn
    have hpos2 : ¬ (n : Int) = 0 := by omega
    go_enter Tryd.func15, Tryd.ntmps15
    go_wp2_with fail
    have hb0 : ((n : Int) == 0) = false := by rw [beq_eq_false_iff_ne]; exact hpos2
    simp only [hb0]
    go_loopw [3] (fun iv wr => ∃ (k : Nat), k ≤ n ∧ iv = .int .i64 k ∧ Hid (∃ last : Int, (k = 0 ∧ last = 0 ∨ ∃ k' y, k = k' + 1 ∧ m[k']? = some y ∧ last = y.1) ∧ mgo (decide (k = 0)) last (m.drop k) = r) ∧ Hid (Fr no w wr)) (fun iv _ => n - (intOf iv).toNat)
    case atStart => exact ⟨0, Nat.zero_le _, rfl, Lib.hid ⟨0, .inl ⟨rfl, rfl⟩, Hr.out⟩, Lib.hid (Fr.refl _ _)⟩
    case round =>
      obtain ⟨k, hk, rfl, hR, hF⟩ := hrel
      generalize wr = W at *
      by_cases hlt : k < n
      · obtain ⟨x, hxk⟩ : ∃ x, m[k]? = some x := ⟨m[k]'(by rw [Hn.out]; exact hlt), by simp⟩
        have HW : MpAt W (.slice ao n cap) m := by have := H.out.fr hF.out (fun _ _ _ f => f); rw [Hn.out] at this; unfold MpAt; rw [Hn.out]; exact this
        obtain ⟨g, off, c', he, h0, h1⟩ := mp_cells HW hxk
        rw [Hn.out] at he
        cases he
        obtain ⟨last, hw, hd⟩ := hR.out
        have hd2 := mgo_drop hxk (decide (k = 0)) last
        rw [hd] at hd2
        rcases hw with ⟨rfl, rfl⟩ | ⟨k', y, rfl, hy, rfl⟩
        · obtain ⟨f, c⟩ := x
          dsimp only at h0 h1 hd2
          simp only [Nat.zero_mul, Nat.add_zero] at h0 h1
          have g0 : ((0 : Int) == 0) = true := rfl
          by_cases q1 : f = 0
          · subst q1
            have g1 : ((0 : Int) != 0) = false := rfl
            have g2 : decide ((0 : Int) < 0) = false := rfl
            by_cases q2 : c < 1
            · have g3 : decide (c < 1) = true := decide_eq_true q2
              have Hd : Hid (r = 1) := Lib.hid (by rw [hd2]; exact if_pos (by simp; omega))
              clear hd2 hd hR hxk HW
              go_wp2
              go_quiet (fail)
              go_wp2
              go_ret
              exact ⟨by rw [Hd.out]; rfl, hF.out.drewN _⟩
            · have g3 : decide (c < 1) = false := decide_eq_false q2
              by_cases q3 : 8 < c
              · have g4 : decide (8 < c) = true := decide_eq_true q3
                have Hd : Hid (r = 1) := Lib.hid (by rw [hd2]; exact if_pos (by simp; omega))
                clear hd2 hd hR hxk HW
                go_wp2
                go_quiet (fail)
                go_wp2
                go_ret
                exact ⟨by rw [Hd.out]; rfl, hF.out.drewN _⟩
              · have g4 : decide (8 < c) = false := decide_eq_false q3
                have Hd : Hid (∃ last : Int, (0 + 1 = 0 ∧ last = 0 ∨ ∃ j z, 0 + 1 = j + 1 ∧ m[j]? = some z ∧ last = z.1) ∧ mgo (decide (0 + 1 = 0)) last (m.drop (0 + 1)) = r) := Lib.hid ⟨0, .inr ⟨_, _, rfl, hxk, rfl⟩, by rw [decide_eq_false (by omega), hd2]; exact (if_neg (by simp; omega)).symm⟩
                clear hd2 hd hR hxk HW
                go_wp2
                go_quiet (fail)
                go_wp2
                go_roundw
                case rel => exact ⟨0 + 1, by omega, by go_num, Hd, Lib.hid (hF.out.drewN _)⟩
                case measure => simp [intOf]; omega
          · have g1 : (f != 0) = true := by rw [bne_iff_ne]; exact q1
            have Hd : Hid (r = 1) := Lib.hid (by rw [hd2]; exact if_pos (by simp; omega))
            clear hd2 hd hR hxk HW
            go_wp2
            go_quiet (fail)
            go_wp2
            go_ret
            exact ⟨by rw [Hd.out]; rfl, hF.out.drewN _⟩
        · obtain ⟨f, c⟩ := x
          obtain ⟨pf, pc⟩ := y
          dsimp only at h0 h1 hd2
          obtain ⟨g2', off2, c2, he2, y0, y1⟩ := mp_cells HW hy
          rw [Hn.out] at he2
          cases he2
          dsimp only at y0 y1
          have g0 : ((k' : Int) + 1 == 0) = false := by rw [beq_eq_false_iff_ne]; omega
          have g1 : decide ((0 : Int) < (k' : Int) + 1) = true := decide_eq_true (by omega)
          have gk : ¬ (k' : Int) + 1 = 0 := by omega
          by_cases q1 : f < pf
          · have g2 : decide (f < pf) = true := decide_eq_true q1
            have Hd : Hid (r = 1) := Lib.hid (by rw [hd2]; exact if_pos (by omega))
            clear hd2 hd hR hxk HW
            go_wp2
            go_quiet (fail)
            go_wp2
            go_ret
            exact ⟨by rw [Hd.out]; rfl, hF.out.drewN _⟩
          · have g2 : decide (f < pf) = false := decide_eq_false q1
            by_cases q2 : c < 1
            · have g3 : decide (c < 1) = true := decide_eq_true q2
              have Hd : Hid (r = 1) := Lib.hid (by rw [hd2]; exact if_pos (by omega))
              clear hd2 hd hR hxk HW
              go_wp2
              go_quiet (fail)
              go_wp2
              go_ret
              exact ⟨by rw [Hd.out]; rfl, hF.out.drewN _⟩
            · have g3 : decide (c < 1) = false := decide_eq_false q2
              by_cases q3 : 8 < c
              · have g4 : decide (8 < c) = true := decide_eq_true q3
                have Hd : Hid (r = 1) := Lib.hid (by rw [hd2]; exact if_pos (by omega))
                clear hd2 hd hR hxk HW
                go_wp2
                go_quiet (fail)
                go_wp2
                go_ret
                exact ⟨by rw [Hd.out]; rfl, hF.out.drewN _⟩
              · have g4 : decide (8 < c) = false := decide_eq_false q3
                have Hd : Hid (∃ last : Int, ((k' + 1) + 1 = 0 ∧ last = 0 ∨ ∃ j z, (k' + 1) + 1 = j + 1 ∧ m[j]? = some z ∧ last = z.1) ∧ mgo (decide ((k' + 1) + 1 = 0)) last (m.drop ((k' + 1) + 1)) = r) := Lib.hid ⟨f, .inr ⟨_, _, rfl, hxk, rfl⟩, by rw [decide_eq_false (by omega), hd2]; exact (if_neg (by simp; omega)).symm⟩
                clear hd2 hd hR hxk HW
                go_wp2
                go_quiet (fail)
                go_wp2
                go_roundw
                case rel => exact ⟨(k' + 1) + 1, by omega, by go_num, Hd, Lib.hid (hF.out.drewN _)⟩
                case measure => simp [intOf]; omega
      · have hkn : k = n := by omega
        obtain ⟨last, hw, hd⟩ := hR.out
        have e1 : r = 0 := by rw [← hd, List.drop_eq_nil_of_le (by rw [Hn.out]; omega)]; rfl
        have E1 := Lib.hid e1
        clear e1 hw hd hR
        go_wp2
        go_ret
        exact ⟨by rw [E1.out]; rfl, hF.out⟩
end Go.Proofs.YtkdcldnbdhfobaaDoor
