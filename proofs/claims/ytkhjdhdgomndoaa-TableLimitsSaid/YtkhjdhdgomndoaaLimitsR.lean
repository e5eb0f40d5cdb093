/- The walk of the law TableLimits. -/
import Derived.Test.YtkhjdhdgomndoaaKnownT
import Derived.OpenShut
namespace Go.Proofs.Ytkhjdhdgomndoaa
open Go.RowKit Go.Shelf Go.XL
set_option linter.unusedVariables false
set_option linter.unusedSimpArgs false
attribute [local go_sem] Oper.semAt_some

set_option maxRecDepth 100000 in
set_option maxHeartbeats 2000000 in
theorem limits_any (a b : Int) (w : World) (ha0 : 0 ≤ a) (ha1 : a ≤ 255) (hb0 : 0 ≤ b) (hb1 : b ≤ 255) :
    Calls Try.prog 4 #[.int .u8 a, .int .u8 b] w fun e w' => e = .returned (.bool true) ∧ Fr no w w' := by
  go_enter Try.func4, Try.ntmps4
  go_wp2_with fail
  refine (known_any w).mono ?_
  rintro e w1 ⟨rfl, hf1⟩
  have F1 := Lib.hid hf1
  clear hf1
  have hb3 : b % 3 = 2 ∨ (b % 3 = 0 ∨ b % 3 = 1) := by omega
  rcases hb3 with h2 | h01
  · go_wp2_with fail
    refine (tab_new_bad 9 w1 (by decide)).mono ?_
    rintro e w' ⟨rfl, rfl⟩
    go_wp2
    go_ret
    exact ⟨rfl, F1.out⟩
  · obtain ⟨k, T, B, hk1, hT, hB, hcs⟩ : ∃ (k : Int) (T B : Nat), b % 3 - 1 = k ∧ 8 + k = (T : Int) ∧ (T : Int) + k + 1 = (B : Int) ∧ (k = -1 ∧ T = 7 ∧ B = 7 ∨ k = 0 ∧ T = 8 ∧ B = 9) := by
      rcases h01 with h | h
      · exact ⟨-1, 7, 7, by omega, by omega, by omega, by omega⟩
      · exact ⟨0, 8, 9, by omega, by omega, by omega, by omega⟩
    clear h01
    have hT1 : 1 ≤ T := by omega
    have hT8 : T ≤ 8 := by omega
    have hk0 : k ≤ 0 := by omega
    have hk2 : -1 ≤ k := by omega
    have hB9 : B ≤ 9 := by omega
    have Hcs := Lib.hid hcs
    clear hcs
    go_wp2_with fail
    refine (tab_new T w1 hT1 hT8).mono ?_
    rintro e w2 ⟨ao2, cap2, rfl, hT2, hf2⟩
    have T2 := Lib.hid hT2
    have F2 := Lib.hid (F1.out.trans' hf2)
    clear hT2 hf2 F1
    have ha3 : a % 3 = 0 ∨ a % 3 = 1 ∨ a % 3 = 2 := by omega
    obtain ⟨i0, hi, hz0, hz1, hz2⟩ := info_parts Try.info3
    have fin : ∀ (xs : List Int) (v : Value) (W : World), Ow w2 W 3 1 v xs.length (xs.map (Value.int .i64)) → xs.length ≤ 1000000 → ∀ want : Int, tnote (List.replicate T []) 0 xs = want → Calls Try.prog 12 #[.slice ao2 T cap2, .int .i64 0, v] W fun e w' => ∃ u, e = .returned (.tuple #[u, .int .i64 want]) ∧ Fr no w w' := by
      intro xs v W hO hl want hw
      have hTW := T2.out.fr hO.fr
      by_cases h0 : tnote (List.replicate T []) 0 xs = 0
      · have hv : vcheck xs (List.replicate T ([] : List Int)).length = 0 := by
          unfold tnote at h0; rw [if_neg (by omega), if_neg (by simp; omega)] at h0; exact h0
        have := tab_note (.slice ao2 T cap2) v (List.replicate T []) 0 xs W hTW hO.rd (by simp; omega) ⟨by simp; omega, fun ys hy => by simp at hy; rw [hy.2]; simp⟩ hv hl
        refine this.mono ?_
        rintro e w' ⟨ao, cap, rfl, _, hf⟩
        exact ⟨_, by rw [← hw, h0], (F2.out.trans' hO.fr).trans' hf⟩
      · refine (tab_note_bad (.slice ao2 T cap2) v (List.replicate T []) 0 xs W hTW hO.rd h0).mono ?_
        rintro e w' ⟨rfl, hf⟩
        exact ⟨_, by rw [hw], (F2.out.trans' hO.fr).trans' hf⟩
    have tn : ∀ xs : List Int, tnote (List.replicate T []) 0 xs = vcheck xs T := fun xs => by unfold tnote; rw [if_neg (by omega), if_neg (by simp; omega)]; simp
    have Fin := Lib.hid fin
    have Tn := Lib.hid tn
    clear fin tn
    have hE := Lib.hid (ow_empty w2 3 1)
    go_upto_region 9 with (fail)
    go_cut [8] (fun v wx => ∃ (bo : Option Addr) (bc : Nat), v = .slice bo 0 bc ∧ bc ≤ 9223372036854775807 ∧ Hid (Ow w2 wx 3 1 (.slice bo 0 bc) 0 []))
    case first =>
      go_wp2
      go_meet
      exact ⟨_, _, rfl, by decide, hE⟩
    case rest =>
    obtain ⟨bo0, bc0, rfl, hbc0, hE0⟩ := hcut
    clear hE
    have hE := hE0
    clear hE0
    rcases ha3 with ha | ha | ha
    · go_wp2_with fail
      rw [ha]
      clear ha
      go_loopw [8] (fun vv wr => ∃ (j : Nat) (bo : Option Addr) (bc : Nat), j ≤ B ∧ vv = .slice bo j bc ∧ Hid (Ow w2 wr 3 1 (.slice bo j bc) (List.replicate j (0 : Int)).length ((List.replicate j (0 : Int)).map (Value.int .i64)))) (fun vv _ => B - vlen vv)
      case atStart => exact ⟨0, _, _, Nat.zero_le _, rfl, hE⟩
      case round =>
        obtain ⟨j, bo, bc, hj, rfl, hO⟩ := hrel
        clear hE
        have hsl := hO.out.sl
        rw [List.length_replicate] at hsl
        have Hsl := Lib.hid hsl
        clear hsl
        by_cases hlt : j < B
        · go_wp2_with (at_builtin; refine wpList_append_one wr (.int .i64 0) 3 rfl _ _ 34 rfl 3 i0 (.int .i64 0) 8 Try.underlying34 hi hz0 hz1 hz2 rfl _ j _ rfl Hsl.out rfl rfl (by unfold maxLen; omega) (by omega) ?_)
          intro ao' cap' w' hs' hfr hor hkb
          have h2 := hO.out.app1 (x := 0) (by rw [List.length_replicate, List.map_replicate]; exact hs') hfr hor
          rw [← List.replicate_succ'] at h2
          have H2 := Lib.hid h2
          clear hs' hfr hor hkb h2
          go_wp2
          go_roundw
          case rel => exact ⟨j + 1, ao', cap', by omega, rfl, H2⟩
          case measure => simp [vlen]; omega
        · obtain rfl : j = B := by omega
          have hlen : (List.replicate j (0 : Int)).length = j := List.length_replicate
          have hvb : ∀ m : Nat, vbad (List.replicate m 0) = 0 := fun m => by induction m with | zero => rfl | succ m ih => rw [List.replicate_succ]; simp [vbad, ih]
          rcases Hcs.out with ⟨e1, e2, e3⟩ | ⟨e1, e2, e3⟩
          · subst e1; subst e2; subst e3
            have hn := Fin.out _ _ wr hO.out (by simp) 0 (by decide)
            go_wp2_with fail
            refine hn.mono ?_
            rintro e w' ⟨u, rfl, hf⟩
            clear hn
            go_wp2
            go_ret
            exact ⟨rfl, hf⟩
          · subst e1; subst e2; subst e3
            have hn := Fin.out _ _ wr hO.out (by simp) 4 (by decide)
            go_wp2_with fail
            refine hn.mono ?_
            rintro e w' ⟨u, rfl, hf⟩
            clear hn
            go_wp2
            go_ret
            exact ⟨rfl, hf⟩
    · rcases Hcs.out with ⟨e1, e2, e3⟩ | ⟨e1, e2, e3⟩
      · subst e1; subst e2; subst e3
        go_wp2_with (at_builtin; refine wpList_append_one wc (.int .i64 1048576) 3 rfl _ _ 34 rfl 3 i0 (.int .i64 0) 8 Try.underlying34 hi hz0 hz1 hz2 rfl _ 0 _ rfl hE.out.sl rfl rfl (by unfold maxLen; omega) (by omega) ?_)
        intro ao' cap' w' hs' hfr hor hkb
        have h2 := Ow.app1 (xs := []) (x := 1048576) hE.out hs' hfr hor
        have hn := Fin.out [1048576] _ w' h2 (by simp) 0 (by decide)
        clear hs' hfr hor hkb h2
        go_wp2_with fail
        refine hn.mono ?_
        rintro e w' ⟨u, rfl, hf⟩
        clear hn
        go_wp2
        go_ret
        exact ⟨rfl, hf⟩
      · subst e1; subst e2; subst e3
        go_wp2_with (at_builtin; refine wpList_append_one wc (.int .i64 1048577) 3 rfl _ _ 34 rfl 3 i0 (.int .i64 0) 8 Try.underlying34 hi hz0 hz1 hz2 rfl _ 0 _ rfl hE.out.sl rfl rfl (by unfold maxLen; omega) (by omega) ?_)
        intro ao' cap' w' hs' hfr hor hkb
        have h2 := Ow.app1 (xs := []) (x := 1048577) hE.out hs' hfr hor
        have hn := Fin.out [1048577] _ w' h2 (by simp) 4 (by decide)
        clear hs' hfr hor hkb h2
        go_wp2_with fail
        refine hn.mono ?_
        rintro e w' ⟨u, rfl, hf⟩
        clear hn
        go_wp2
        go_ret
        exact ⟨rfl, hf⟩
    · rcases Hcs.out with ⟨e1, e2, e3⟩ | ⟨e1, e2, e3⟩
      · subst e1; subst e2; subst e3
        go_wp2_with (at_builtin; refine wpList_append_one wc (.int .i64 0) 3 rfl _ _ 34 rfl 3 i0 (.int .i64 0) 8 Try.underlying34 hi hz0 hz1 hz2 rfl _ 0 _ rfl hE.out.sl rfl rfl (by unfold maxLen; omega) (by omega) ?_)
        intro ao' cap' w' hs' hfr hor hkb
        have h2 := Ow.app1 (xs := []) (x := 0) hE.out hs' hfr hor
        have hn := Fin.out [0] _ w' h2 (by simp) 0 (by decide)
        clear hs' hfr hor hkb h2
        go_wp2_with fail
        refine hn.mono ?_
        rintro e w' ⟨u, rfl, hf⟩
        clear hn
        go_wp2
        go_ret
        exact ⟨rfl, hf⟩
      · subst e1; subst e2; subst e3
        go_wp2_with (at_builtin; refine wpList_append_one wc (.int .i64 (-1)) 3 rfl _ _ 34 rfl 3 i0 (.int .i64 0) 8 Try.underlying34 hi hz0 hz1 hz2 rfl _ 0 _ rfl hE.out.sl rfl rfl (by unfold maxLen; omega) (by omega) ?_)
        intro ao' cap' w' hs' hfr hor hkb
        have h2 := Ow.app1 (xs := []) (x := -1) hE.out hs' hfr hor
        have hn := Fin.out [-1] _ w' h2 (by simp) 1 (by decide)
        clear hs' hfr hor hkb h2
        go_wp2_with fail
        refine hn.mono ?_
        rintro e w' ⟨u, rfl, hf⟩
        clear hn
        go_wp2
        go_ret
        exact ⟨rfl, hf⟩
theorem tableLimits_row (a b : Int) (w : World) (ha : (Lit.int .u8 a).wf = true) (hb : (Lit.int .u8 b).wf = true) :
    Calls Try.prog 4 #[.int .u8 a, .int .u8 b] w fun e w' => e = .returned (.bool true) ∧ Below w.heap.size w w' := by
  refine (limits_any a b w (bounds_u8 ha).1 (bounds_u8 ha).2 (bounds_u8 hb).1 (bounds_u8 hb).2).mono ?_
  rintro e w' ⟨he, hf⟩
  exact ⟨he, hf.below⟩
end Go.Proofs.Ytkhjdhdgomndoaa
