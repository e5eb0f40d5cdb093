/- Contracts of the reference's vectors: With, Join, Meet, CheckVec. -/
import Derived.Test.YtgcjnhocoklfbaaGreatDoorRefVec
import Derived.Test.YtgcjnhocoklfbaaGreatDoorVec2
namespace Go.Proofs.YtgcjnhocoklfbaaGreatDoor
open Go.RowKit Go.Shelf Go.XL
set_option linter.unusedVariables false
set_option linter.unusedSimpArgs false
attribute [local go_sem] Oper.semAt_some
theorem vbad_drop (xs : List Int) (j : Nat) (x : Int) (h : xs[j]? = some x) : vbad (xs.drop j) = if x < 0 then 1 else if 1048576 < x then 4 else vbad (xs.drop (j + 1)) := by
  obtain ⟨hk, hx⟩ := List.getElem?_eq_some_iff.1 h
  rw [List.drop_eq_getElem_cons hk, hx]; rfl
set_option maxRecDepth 100000 in
set_option maxHeartbeats 2000000 in
theorem ref_check (v : Value) (xs : List Int) (sites : Int) (w : World) (h : IntsAt w v xs) :
    Calls Tryz.prog 25 #[v, .int .i64 sites] w fun e w' => e = .returned (.int .i64 (vcheck xs sites)) ∧ w = w' := by
  obtain ⟨ao, cap, rfl, hcap, hmx⟩ := h.cap
  have H : Hid (Rd w 1 (.slice ao xs.length cap) xs.length (xs.map (Value.int .i64))) := Lib.hid h
  clear h
  by_cases h1 : sites < 1
  · have e1 : vcheck xs sites = 1 := by unfold vcheck; rw [if_pos h1]
    rw [e1]
    generalize xs.length = n at *
    go_enter Tryz.func25, Tryz.ntmps25
    go_wp2
    go_ret
    exact ⟨rfl, rfl⟩
  · by_cases h2 : 8 < sites
    · have e1 : vcheck xs sites = 1 := by unfold vcheck; rw [if_neg h1, if_pos h2]
      rw [e1]
      generalize xs.length = n at *
      go_enter Tryz.func25, Tryz.ntmps25
      go_wp2
      go_ret
      exact ⟨rfl, rfl⟩
    · by_cases h3 : sites < (xs.length : Int)
      · have e1 : vcheck xs sites = 4 := by unfold vcheck; rw [if_neg h1, if_neg h2, if_pos h3]
        rw [e1]
        generalize xs.length = n at *
        go_enter Tryz.func25, Tryz.ntmps25
        go_wp2
        go_ret
        exact ⟨rfl, rfl⟩
      · have e1 : vcheck xs sites = vbad xs := by unfold vcheck; rw [if_neg h1, if_neg h2, if_neg h3]
        rw [e1]
        clear e1
        generalize hn : xs.length = n at *
        have Hn := Lib.hid hn
        clear hn
        go_enter Tryz.func25, Tryz.ntmps25
        go_wp2_with fail
        go_loop [5] (fun jv => ∃ (j : Nat), j ≤ n ∧ jv = .int .i64 j ∧ Hid (vbad (xs.drop j) = vbad xs)) (fun jv => n - (intOf jv).toNat)
        case atStart => exact ⟨0, Nat.zero_le _, rfl, Lib.hid rfl⟩
        case round =>
          obtain ⟨j, hj, rfl, HB⟩ := hrel
          by_cases hlt : j < n
          · obtain ⟨g, off, c', he, _, _, hx⟩ := H.out.form (by omega)
            cases he
            obtain ⟨x, hxk⟩ : ∃ x, xs[j]? = some x := ⟨xs[j]'(by rw [Hn.out]; exact hlt), by simp⟩
            have hcx : w.cell? ⟨g, off + j, none⟩ = some (.int .i64 x) := hx j _ (by simp [hxk])
            have hb := vbad_drop xs j x hxk
            rw [HB.out] at hb
            clear hx hxk HB
            by_cases hx0 : x < 0
            · rw [if_pos hx0] at hb
              have Hb := Lib.hid hb
              clear hb
              go_wp2
              go_ret
              exact ⟨by rw [Hb.out]; rfl, rfl⟩
            · rw [if_neg hx0] at hb
              by_cases hx1 : 1048576 < x
              · rw [if_pos hx1] at hb
                have Hb := Lib.hid hb
                clear hb
                go_wp2
                go_ret
                exact ⟨by rw [Hb.out]; rfl, rfl⟩
              · rw [if_neg hx1] at hb
                have Hb := Lib.hid hb
                clear hb
                go_wp2
                go_round
                case rel => exact ⟨j + 1, by omega, by go_num, Lib.hid Hb.out.symm⟩
                case measure => simp [intOf]; omega
          · have hjn : j = n := by omega
            have e0 : vbad xs = 0 := by rw [← HB.out, List.drop_eq_nil_of_le (by rw [Hn.out]; omega)]; rfl
            have E0 := Lib.hid e0
            clear e0
            go_wp2
            go_ret
            exact ⟨by rw [E0.out]; rfl, rfl⟩
end Go.Proofs.YtgcjnhocoklfbaaGreatDoor
