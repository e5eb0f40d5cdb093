/- The walk of the law VecLimits. -/
import Derived.Test.YtdepenibifbcpaaDoorVecK
import Derived.Test.YtdepenibifbcpaaDoorHeld2
import Derived.OpenShut
namespace Go.Proofs.YtdepenibifbcpaaDoor
open Go.RowKit Go.Shelf Go.XL
set_option linter.unusedVariables false
set_option linter.unusedSimpArgs false
attribute [local go_sem] Oper.semAt_some
set_option maxRecDepth 100000 in
set_option maxHeartbeats 4000000 in
theorem limits_any (a b : Int) (w : World) (hG : Gl w) (ha0 : 0 ≤ a) (ha1 : a ≤ 255) (hb0 : 0 ≤ b) (hb1 : b ≤ 255) :
    Calls Tryd.prog 6 #[.int .u8 a, .int .u8 b] w fun e w' => e = .returned (.bool true) ∧ Fr no w w' := by
  have hk := vknown w hG
  obtain ⟨i0, hi, hz0, hz1, hz2⟩ := info_parts Tryd.info3
  go_enter Tryd.func6, Tryd.ntmps6
  go_wp2_with fail
  refine hk.mono ?_
  rintro e w1 ⟨rfl, hf1⟩
  have F1 := Lib.hid hf1
  have HS : Hid (Sl (w1.alloc (.cells #[.int .i64 1, .int .i64 2, .int .i64 3] 3)) 3 1 (.slice (some ⟨w1.heap.size, 0, none⟩) 3 3) 3 (([1, 2, 3] ++ List.replicate 0 (1 : Int)).map (Value.int .i64))) := Lib.hid ⟨by simp, _, 3, rfl, Nat.le_refl _, by decide, ⟨by simp, fun a h => by cases h; simp⟩, fun _ => ⟨w1.heap.size, 0, _, rfl, World.alloc_heap_new _ _, by simp, fun j u hj => by simpa using hj⟩⟩
  clear hk hf1
  have ha3 : a % 4 = 0 ∨ a % 4 = 1 ∨ a % 4 = 2 ∨ a % 4 = 3 := by omega
  have hb3 : b % 3 = 0 ∨ b % 3 = 1 ∨ b % 3 = 2 := by omega
  rcases ha3 with ha | ha | ha | ha
  · rcases hb3 with hb | hb | hb
    · skip
      go_wp2_with fail
      have hc := vec_check (.slice (some ⟨w1.heap.size, 0, none⟩) 3 3) [1,1048575,3] 8 (w1.alloc (.cells #[.int .i64 1, .int .i64 1048575, .int .i64 3] 3)) (rd_lit w1 3 [.int .i64 1, .int .i64 1048575, .int .i64 3] (by decide))
      rw [show vcheck [1,1048575,3] 8 = 0 by decide] at hc
      refine hc.mono ?_
      clear hc
      rintro e w' ⟨rfl, hf⟩
      have HF := Lib.hid ((F1.out.alloc _).trans' hf)
      clear hf
      go_wp2
      go_ret
      exact ⟨rfl, HF.out⟩
    · skip
      go_wp2_with fail
      have hc := vec_check (.slice (some ⟨w1.heap.size, 0, none⟩) 3 3) [1,1048576,3] 8 (w1.alloc (.cells #[.int .i64 1, .int .i64 1048576, .int .i64 3] 3)) (rd_lit w1 3 [.int .i64 1, .int .i64 1048576, .int .i64 3] (by decide))
      rw [show vcheck [1,1048576,3] 8 = 0 by decide] at hc
      refine hc.mono ?_
      clear hc
      rintro e w' ⟨rfl, hf⟩
      have HF := Lib.hid ((F1.out.alloc _).trans' hf)
      clear hf
      go_wp2
      go_ret
      exact ⟨rfl, HF.out⟩
    · skip
      go_wp2_with fail
      have hc := vec_check (.slice (some ⟨w1.heap.size, 0, none⟩) 3 3) [1,1048577,3] 8 (w1.alloc (.cells #[.int .i64 1, .int .i64 1048577, .int .i64 3] 3)) (rd_lit w1 3 [.int .i64 1, .int .i64 1048577, .int .i64 3] (by decide))
      rw [show vcheck [1,1048577,3] 8 = 4 by decide] at hc
      refine hc.mono ?_
      clear hc
      rintro e w' ⟨rfl, hf⟩
      have HF := Lib.hid ((F1.out.alloc _).trans' hf)
      clear hf
      go_wp2
      go_ret
      exact ⟨rfl, HF.out⟩
  · rcases hb3 with hb | hb | hb
    · skip
      go_wp2_with fail
      have hc := vec_check (.slice (some ⟨w1.heap.size, 0, none⟩) 3 3) [1,2,-1] 8 (w1.alloc (.cells #[.int .i64 1, .int .i64 2, .int .i64 (-1)] 3)) (rd_lit w1 3 [.int .i64 1, .int .i64 2, .int .i64 (-1)] (by decide))
      rw [show vcheck [1,2,-1] 8 = 1 by decide] at hc
      refine hc.mono ?_
      clear hc
      rintro e w' ⟨rfl, hf⟩
      have HF := Lib.hid ((F1.out.alloc _).trans' hf)
      clear hf
      go_wp2
      go_ret
      exact ⟨rfl, HF.out⟩
    · skip
      go_wp2_with fail
      have hc := vec_check (.slice (some ⟨w1.heap.size, 0, none⟩) 3 3) [1,2,0] 8 (w1.alloc (.cells #[.int .i64 1, .int .i64 2, .int .i64 0] 3)) (rd_lit w1 3 [.int .i64 1, .int .i64 2, .int .i64 0] (by decide))
      rw [show vcheck [1,2,0] 8 = 0 by decide] at hc
      refine hc.mono ?_
      clear hc
      rintro e w' ⟨rfl, hf⟩
      have HF := Lib.hid ((F1.out.alloc _).trans' hf)
      clear hf
      go_wp2
      go_ret
      exact ⟨rfl, HF.out⟩
    · skip
      go_wp2_with fail
      have hc := vec_check (.slice (some ⟨w1.heap.size, 0, none⟩) 3 3) [1,2,1] 8 (w1.alloc (.cells #[.int .i64 1, .int .i64 2, .int .i64 1] 3)) (rd_lit w1 3 [.int .i64 1, .int .i64 2, .int .i64 1] (by decide))
      rw [show vcheck [1,2,1] 8 = 0 by decide] at hc
      refine hc.mono ?_
      clear hc
      rintro e w' ⟨rfl, hf⟩
      have HF := Lib.hid ((F1.out.alloc _).trans' hf)
      clear hf
      go_wp2
      go_ret
      exact ⟨rfl, HF.out⟩
  · rcases hb3 with hb | hb | hb
    · skip
      go_wp2_with fail
      try rw [ha]
      try rw [hb]
      clear ha hb
      go_loopw [6] (fun vv wr => ∃ (j : Nat) (bo : Option Addr) (bc : Nat), j + 3 ≤ 7 ∧ vv = .slice bo (j + 3) bc ∧ Hid (Sl wr 3 1 (.slice bo (j + 3) bc) (j + 3) (([1, 2, 3] ++ List.replicate j (1 : Int)).map (Value.int .i64))) ∧ Hid (Fr no w wr) ∧ Hid (∀ g, Value.ownBlock (.slice bo (j + 3) bc) = some g → w.heap.size ≤ g)) (fun vv _ => 7 - vlen vv)
      case atStart => exact ⟨0, _, _, by omega, rfl, HS, Lib.hid (F1.out.alloc _), Lib.hid (fun g hg => by simp [Value.ownBlock] at hg; rw [← hg]; exact F1.out.size)⟩
      case round =>
        obtain ⟨j, bo, bc, hj, rfl, hS, hF, hO⟩ := hrel
        generalize wr = V at *
        by_cases hlt : j + 3 < 7
        · go_wp2_with (at_builtin; refine wpList_append_one V (.int .i64 1) 3 rfl _ _ 30 rfl 3 i0 (.int .i64 0) 8 Tryd.underlying30 hi hz0 hz1 hz2 rfl _ (j + 3) _ rfl hS.out rfl rfl (by unfold maxLen; omega) (by omega) ?_)
          intro ao' cap' w' hs' hfr hor hkb
          have hS2 : Hid (Sl w' 3 1 (.slice ao' (j + 1 + 3) cap') (j + 1 + 3) (([1, 2, 3] ++ List.replicate (j + 1) (1 : Int)).map (Value.int .i64))) := Lib.hid (by have e : (([1, 2, 3] ++ List.replicate (j + 1) (1 : Int)).map (Value.int .i64)) = Value.int .i64 1 :: Value.int .i64 2 :: Value.int .i64 3 :: (List.replicate j (Value.int .i64 1) ++ [Value.int .i64 1]) := (by simp [List.replicate_succ']); rw [e, show j + 1 + 3 = j + 3 + 1 by omega]; exact hs')
          have hF2 : Hid (Fr no w w') := Lib.hid (hF.out.trans hfr (fun i hi e => by have := hO.out i e; omega))
          have hO2 : Hid (∀ g, Value.ownBlock (.slice ao' (j + 1 + 3) cap') = some g → w.heap.size ≤ g) := Lib.hid (fun g hg => by
            have hg' : Value.ownBlock (.slice ao' (j + 3 + 1) cap') = some g := by rw [show j + 3 + 1 = j + 1 + 3 by omega]; exact hg
            rcases hor with e | e
            · exact hO.out g (by rw [← e]; exact hg')
            · have := e g hg'; have := hF.out.size; omega)
          clear hs' hfr hor hkb hS hF hO
          go_wp2
          go_roundw
          case rel => exact ⟨j + 1, ao', cap', by omega, by rw [show j + 1 + 3 = j + 3 + 1 by omega], hS2, hF2, hO2⟩
          case measure => simp [vlen]; omega
        · obtain rfl : j = 7 - 3 := by omega
          have hc := vec_check (.slice bo 7 bc) ([1, 2, 3] ++ List.replicate (7 - 3) (1 : Int)) 8 V hS.out.rd
          rw [show vcheck ([1, 2, 3] ++ List.replicate (7 - 3) (1 : Int)) 8 = 0 by decide] at hc
          go_wp2_with fail
          refine hc.mono ?_
          clear hc
          rintro e w' ⟨rfl, hf⟩
          have HF := Lib.hid (hF.out.trans' hf)
          clear hf
          go_wp2
          go_ret
          exact ⟨rfl, HF.out⟩
    · skip
      go_wp2_with fail
      try rw [ha]
      try rw [hb]
      clear ha hb
      go_loopw [6] (fun vv wr => ∃ (j : Nat) (bo : Option Addr) (bc : Nat), j + 3 ≤ 8 ∧ vv = .slice bo (j + 3) bc ∧ Hid (Sl wr 3 1 (.slice bo (j + 3) bc) (j + 3) (([1, 2, 3] ++ List.replicate j (1 : Int)).map (Value.int .i64))) ∧ Hid (Fr no w wr) ∧ Hid (∀ g, Value.ownBlock (.slice bo (j + 3) bc) = some g → w.heap.size ≤ g)) (fun vv _ => 8 - vlen vv)
      case atStart => exact ⟨0, _, _, by omega, rfl, HS, Lib.hid (F1.out.alloc _), Lib.hid (fun g hg => by simp [Value.ownBlock] at hg; rw [← hg]; exact F1.out.size)⟩
      case round =>
        obtain ⟨j, bo, bc, hj, rfl, hS, hF, hO⟩ := hrel
        generalize wr = V at *
        by_cases hlt : j + 3 < 8
        · go_wp2_with (at_builtin; refine wpList_append_one V (.int .i64 1) 3 rfl _ _ 30 rfl 3 i0 (.int .i64 0) 8 Tryd.underlying30 hi hz0 hz1 hz2 rfl _ (j + 3) _ rfl hS.out rfl rfl (by unfold maxLen; omega) (by omega) ?_)
          intro ao' cap' w' hs' hfr hor hkb
          have hS2 : Hid (Sl w' 3 1 (.slice ao' (j + 1 + 3) cap') (j + 1 + 3) (([1, 2, 3] ++ List.replicate (j + 1) (1 : Int)).map (Value.int .i64))) := Lib.hid (by have e : (([1, 2, 3] ++ List.replicate (j + 1) (1 : Int)).map (Value.int .i64)) = Value.int .i64 1 :: Value.int .i64 2 :: Value.int .i64 3 :: (List.replicate j (Value.int .i64 1) ++ [Value.int .i64 1]) := (by simp [List.replicate_succ']); rw [e, show j + 1 + 3 = j + 3 + 1 by omega]; exact hs')
          have hF2 : Hid (Fr no w w') := Lib.hid (hF.out.trans hfr (fun i hi e => by have := hO.out i e; omega))
          have hO2 : Hid (∀ g, Value.ownBlock (.slice ao' (j + 1 + 3) cap') = some g → w.heap.size ≤ g) := Lib.hid (fun g hg => by
            have hg' : Value.ownBlock (.slice ao' (j + 3 + 1) cap') = some g := by rw [show j + 3 + 1 = j + 1 + 3 by omega]; exact hg
            rcases hor with e | e
            · exact hO.out g (by rw [← e]; exact hg')
            · have := e g hg'; have := hF.out.size; omega)
          clear hs' hfr hor hkb hS hF hO
          go_wp2
          go_roundw
          case rel => exact ⟨j + 1, ao', cap', by omega, by rw [show j + 1 + 3 = j + 3 + 1 by omega], hS2, hF2, hO2⟩
          case measure => simp [vlen]; omega
        · obtain rfl : j = 8 - 3 := by omega
          have hc := vec_check (.slice bo 8 bc) ([1, 2, 3] ++ List.replicate (8 - 3) (1 : Int)) 8 V hS.out.rd
          rw [show vcheck ([1, 2, 3] ++ List.replicate (8 - 3) (1 : Int)) 8 = 0 by decide] at hc
          go_wp2_with fail
          refine hc.mono ?_
          clear hc
          rintro e w' ⟨rfl, hf⟩
          have HF := Lib.hid (hF.out.trans' hf)
          clear hf
          go_wp2
          go_ret
          exact ⟨rfl, HF.out⟩
    · skip
      go_wp2_with fail
      try rw [ha]
      try rw [hb]
      clear ha hb
      go_loopw [6] (fun vv wr => ∃ (j : Nat) (bo : Option Addr) (bc : Nat), j + 3 ≤ 9 ∧ vv = .slice bo (j + 3) bc ∧ Hid (Sl wr 3 1 (.slice bo (j + 3) bc) (j + 3) (([1, 2, 3] ++ List.replicate j (1 : Int)).map (Value.int .i64))) ∧ Hid (Fr no w wr) ∧ Hid (∀ g, Value.ownBlock (.slice bo (j + 3) bc) = some g → w.heap.size ≤ g)) (fun vv _ => 9 - vlen vv)
      case atStart => exact ⟨0, _, _, by omega, rfl, HS, Lib.hid (F1.out.alloc _), Lib.hid (fun g hg => by simp [Value.ownBlock] at hg; rw [← hg]; exact F1.out.size)⟩
      case round =>
        obtain ⟨j, bo, bc, hj, rfl, hS, hF, hO⟩ := hrel
        generalize wr = V at *
        by_cases hlt : j + 3 < 9
        · go_wp2_with (at_builtin; refine wpList_append_one V (.int .i64 1) 3 rfl _ _ 30 rfl 3 i0 (.int .i64 0) 8 Tryd.underlying30 hi hz0 hz1 hz2 rfl _ (j + 3) _ rfl hS.out rfl rfl (by unfold maxLen; omega) (by omega) ?_)
          intro ao' cap' w' hs' hfr hor hkb
          have hS2 : Hid (Sl w' 3 1 (.slice ao' (j + 1 + 3) cap') (j + 1 + 3) (([1, 2, 3] ++ List.replicate (j + 1) (1 : Int)).map (Value.int .i64))) := Lib.hid (by have e : (([1, 2, 3] ++ List.replicate (j + 1) (1 : Int)).map (Value.int .i64)) = Value.int .i64 1 :: Value.int .i64 2 :: Value.int .i64 3 :: (List.replicate j (Value.int .i64 1) ++ [Value.int .i64 1]) := (by simp [List.replicate_succ']); rw [e, show j + 1 + 3 = j + 3 + 1 by omega]; exact hs')
          have hF2 : Hid (Fr no w w') := Lib.hid (hF.out.trans hfr (fun i hi e => by have := hO.out i e; omega))
          have hO2 : Hid (∀ g, Value.ownBlock (.slice ao' (j + 1 + 3) cap') = some g → w.heap.size ≤ g) := Lib.hid (fun g hg => by
            have hg' : Value.ownBlock (.slice ao' (j + 3 + 1) cap') = some g := by rw [show j + 3 + 1 = j + 1 + 3 by omega]; exact hg
            rcases hor with e | e
            · exact hO.out g (by rw [← e]; exact hg')
            · have := e g hg'; have := hF.out.size; omega)
          clear hs' hfr hor hkb hS hF hO
          go_wp2
          go_roundw
          case rel => exact ⟨j + 1, ao', cap', by omega, by rw [show j + 1 + 3 = j + 3 + 1 by omega], hS2, hF2, hO2⟩
          case measure => simp [vlen]; omega
        · obtain rfl : j = 9 - 3 := by omega
          have hc := vec_check (.slice bo 9 bc) ([1, 2, 3] ++ List.replicate (9 - 3) (1 : Int)) 8 V hS.out.rd
          rw [show vcheck ([1, 2, 3] ++ List.replicate (9 - 3) (1 : Int)) 8 = 4 by decide] at hc
          go_wp2_with fail
          refine hc.mono ?_
          clear hc
          rintro e w' ⟨rfl, hf⟩
          have HF := Lib.hid (hF.out.trans' hf)
          clear hf
          go_wp2
          go_ret
          exact ⟨rfl, HF.out⟩
  · rcases hb3 with hb | hb | hb
    · skip
      have hbt : b.tmod 3 = 0 := by rw [Int.tmod_eq_emod_of_nonneg hb0]; exact hb
      go_upto_region 24 with (fail)
      generalize hw2 : w1.alloc (.cells #[.int .i64 1, .int .i64 2, .int .i64 3] 3) = w2 at *
      have F2 : Hid (Fr no w w2) := Lib.hid (by rw [← hw2]; exact F1.out.alloc _)
      have hc1 := fun (w' : World) (hf : Fr no w2 w') => vec_check (.slice (some ⟨w1.heap.size, 0, none⟩) 3 3) [1, 2, 3] 7 w' (HS.out.rd.fr hf (fun _ _ _ f => f))
      rw [show vcheck [1, 2, 3] 7 = 0 by decide] at hc1
      have hc2 := fun (w' : World) => vec_check (.slice none 0 0) [] 0 w' (rd_nil w' 1)
      rw [show vcheck [] 0 = 1 by decide] at hc2
      have Hc1 := Lib.hid hc1
      have Hc2 := Lib.hid hc2
      clear hc1 hc2 hw2
      generalize w1.heap.size = gz at *
      obtain ⟨Sg225_0, HSg225_0⟩ : ∃ S : World → Prop, Hid (S = (fun _ => True)) := ⟨_, Lib.hid rfl⟩
      refine wp_heldp [] (pickS [Sg225_0]) (by kernel_rfl) ?_ (fun hHeld => ?_)
      · show Sg225_0 _; rw [HSg225_0.out]; trivial
      obtain ⟨wc, hwc⟩ : ∃ x, w2.drew = x := ⟨_, rfl⟩; rw [hwc] at hHeld; rw [hwc]; have HF : Hid (Fr no w2 wc) := (by rw [← hwc]; exact Lib.hid ((Fr.refl no w2).drewN 1)); clear hwc
      refine heldp_take (v := ?_) 0 0 rfl (by kernel_rfl) (.inl ⟨by rfl, ?_⟩) hHeld ?_
      rotate_left
      · intro w hSw; replace hSw : Sg225_0 w := hSw; rw [HSg225_0.out] at hSw; (try dsimp only at hSw); first | (go_simp; done) | (go_simp; with_reducible rfl)
      try simp only [Act.put, List.setIfInBounds_toArray, List.set_cons_zero, List.set_cons_succ]
      refine heldp_take (v := ?_) 1 0 rfl (by kernel_rfl) (.inl ⟨by rfl, ?_⟩) hHeld ?_
      rotate_left
      · intro w hSw; replace hSw : Sg225_0 w := hSw; rw [HSg225_0.out] at hSw; (try dsimp only at hSw); first | (go_simp; done) | (go_simp; with_reducible rfl)
      try simp only [Act.put, List.setIfInBounds_toArray, List.set_cons_zero, List.set_cons_succ]
      refine heldp_take (v := ?_) 3 0 rfl (by kernel_rfl) (.inl ⟨by rfl, ?_⟩) hHeld ?_
      rotate_left
      · intro w hSw; replace hSw : Sg225_0 w := hSw; rw [HSg225_0.out] at hSw; (try dsimp only at hSw); first | (go_simp; done) | (go_simp; with_reducible rfl)
      try simp only [Act.put, List.setIfInBounds_toArray, List.set_cons_zero, List.set_cons_succ]
      refine heldp_call 2 0 rfl (by kernel_rfl) (fun K hK => ?_)
      go_simp
      go_at_call 19
      refine (Hc1.out _ HF.out).mono ?_
      rintro e wc ⟨rfl, hfd⟩
      replace HF := Lib.hid (HF.out.trans' hfd)
      clear hfd
      refine hK.out _ _ ?_ (fun hHeld' => ?_)
      · show Sg225_0 _; rw [HSg225_0.out]; trivial
      clear hK K hHeld
      have hHeld := hHeld'
      clear hHeld'
      try simp only [Act.put, List.setIfInBounds_toArray, List.set_cons_zero, List.set_cons_succ]
      refine heldp_take (v := (.bool true)) 4 0 rfl (by kernel_rfl) (.inl ⟨by rfl, ?_⟩) hHeld ?_
      · intro w hSw; replace hSw : Sg225_0 w := hSw; rw [HSg225_0.out] at hSw; (try dsimp only at hSw); first | (go_simp; done) | (go_simp; with_reducible rfl)
      try simp only [Act.put, List.setIfInBounds_toArray, List.set_cons_zero, List.set_cons_succ]
      refine heldp_take (v := ?_) 5 0 rfl (by kernel_rfl) (.inl ⟨by rfl, ?_⟩) hHeld ?_
      rotate_left
      · intro w hSw; replace hSw : Sg225_0 w := hSw; rw [HSg225_0.out] at hSw; (try dsimp only at hSw); first | (go_simp; done) | (go_simp; with_reducible rfl)
      try simp only [Act.put, List.setIfInBounds_toArray, List.set_cons_zero, List.set_cons_succ]
      refine heldp_take (v := ?_) 6 0 rfl (by kernel_rfl) (.inl ⟨by rfl, ?_⟩) hHeld ?_
      rotate_left
      · intro w hSw; replace hSw : Sg225_0 w := hSw; rw [HSg225_0.out] at hSw; (try dsimp only at hSw); first | (go_simp; done) | (go_simp; with_reducible rfl)
      try simp only [Act.put, List.setIfInBounds_toArray, List.set_cons_zero, List.set_cons_succ]
      refine heldp_take (v := ?_) 7 0 rfl (by kernel_rfl) (.inl ⟨by rfl, ?_⟩) hHeld ?_
      rotate_left
      · intro w hSw; replace hSw : Sg225_0 w := hSw; rw [HSg225_0.out] at hSw; (try dsimp only at hSw); first | (go_simp; done) | (go_simp; with_reducible rfl)
      try simp only [Act.put, List.setIfInBounds_toArray, List.set_cons_zero, List.set_cons_succ]
      refine heldp_take (v := ?_) 10 0 rfl (by kernel_rfl) (.inl ⟨by rfl, ?_⟩) hHeld ?_
      rotate_left
      · intro w hSw; replace hSw : Sg225_0 w := hSw; rw [HSg225_0.out] at hSw; (try dsimp only at hSw); first | (go_simp; done) | (go_simp; with_reducible rfl)
      try simp only [Act.put, List.setIfInBounds_toArray, List.set_cons_zero, List.set_cons_succ]
      refine heldp_take (v := ?_) 11 0 rfl (by kernel_rfl) (.inl ⟨by rfl, ?_⟩) hHeld ?_
      rotate_left
      · intro w hSw; replace hSw : Sg225_0 w := hSw; rw [HSg225_0.out] at hSw; (try dsimp only at hSw); first | (go_simp; done) | (go_simp; with_reducible rfl)
      try simp only [Act.put, List.setIfInBounds_toArray, List.set_cons_zero, List.set_cons_succ]
      refine heldp_two 8 9 (by kernel_rfl) ?_ ?_
      · refine heldp_op 8 0 rfl (by kernel_rfl) (fun K hK => ?_)
        go_simp
        go_at_call 19
        refine (Hc2.out _).mono ?_
        rintro e wc ⟨rfl, hfd⟩
        try replace V := Lib.hid (hfd.heap V.out (fun f => f))
        replace HF := Lib.hid (HF.out.trans' hfd)
        clear hfd
        refine hK.out _ _ ?_ (fun hHeld' => ?_)
        · show Sg225_0 _; rw [HSg225_0.out]; trivial
        clear hK K hHeld
        have hHeld := hHeld'
        clear hHeld'
        try simp only [Act.put, List.setIfInBounds_toArray, List.set_cons_zero, List.set_cons_succ]
        refine heldp_call 9 0 rfl (by kernel_rfl) (fun K hK => ?_)
        go_simp
        have hfa : Fr no wc (wc.alloc (.cells #[.int .i64 1, .int .i64 0, .int .i64 0] 3)) := (Fr.refl no wc).alloc _
        have hba := World.alloc_heap_new wc (.cells #[.int .i64 1, .int .i64 0, .int .i64 0] 3)
        obtain ⟨gl, hgl⟩ : ∃ x, wc.heap.size = x := ⟨_, rfl⟩
        obtain ⟨wc, hwc⟩ : ∃ x, wc.alloc (.cells #[.int .i64 1, .int .i64 0, .int .i64 0] 3) = x := ⟨_, rfl⟩
        rw [hgl, hwc]
        rw [hgl, hwc] at hba
        rw [hwc] at hfa
        replace HF := Lib.hid (HF.out.trans' hfa)
        have V := Lib.hid hba
        clear hba hfa hwc hgl
        refine hK.out _ _ ?_ (fun hHeld' => ?_)
        · show Sg225_0 _; rw [HSg225_0.out]; trivial
        clear hK K hHeld
        have hHeld := hHeld'
        clear hHeld'
        try simp only [Act.put, List.setIfInBounds_toArray, List.set_cons_zero, List.set_cons_succ]
        refine heldp_take (v := ?_) 12 0 rfl (by kernel_rfl) (.inl ⟨by rfl, ?_⟩) hHeld ?_
        rotate_left
        · intro w hSw; replace hSw : Sg225_0 w := hSw; rw [HSg225_0.out] at hSw; (try dsimp only at hSw); first | (go_simp; done) | (go_simp; with_reducible rfl)
        try simp only [Act.put, List.setIfInBounds_toArray, List.set_cons_zero, List.set_cons_succ]
        refine heldp_call 13 0 rfl (by kernel_rfl) (fun K hK => ?_)
        rw [if_pos (by rfl)]
        have c13 := cell_of_block (j := 0) V.out rfl; go_simp
        clear c13
        refine hK.out _ _ ?_ (fun hHeld' => ?_)
        · show Sg225_0 _; rw [HSg225_0.out]; trivial
        clear hK K hHeld
        have hHeld := hHeld'
        clear hHeld'
        try simp only [Act.put, List.setIfInBounds_toArray, List.set_cons_zero, List.set_cons_succ]
        refine heldp_take (v := ?_) 14 0 rfl (by kernel_rfl) (.inl ⟨by rfl, ?_⟩) hHeld ?_
        rotate_left
        · intro w hSw; replace hSw : Sg225_0 w := hSw; rw [HSg225_0.out] at hSw; (try dsimp only at hSw); first | (go_simp; done) | (go_simp; with_reducible rfl)
        try simp only [Act.put, List.setIfInBounds_toArray, List.set_cons_zero, List.set_cons_succ]
        refine heldp_take (v := ?_) 15 0 rfl (by kernel_rfl) (.inl ⟨by rfl, ?_⟩) hHeld ?_
        rotate_left
        · intro w hSw; replace hSw : Sg225_0 w := hSw; rw [HSg225_0.out] at hSw; (try dsimp only at hSw); first | (go_simp; done) | (go_simp; with_reducible rfl)
        try simp only [Act.put, List.setIfInBounds_toArray, List.set_cons_zero, List.set_cons_succ]
        refine heldp_take (v := ?_) 16 0 rfl (by kernel_rfl) (.inl ⟨by rfl, ?_⟩) hHeld ?_
        rotate_left
        · intro w hSw; replace hSw : Sg225_0 w := hSw; rw [HSg225_0.out] at hSw; (try dsimp only at hSw); first | (go_simp; done) | (go_simp; with_reducible rfl)
        try simp only [Act.put, List.setIfInBounds_toArray, List.set_cons_zero, List.set_cons_succ]
        refine heldp_done (by kernel_rfl) ?_
        try clear hHeld
        clear HSg225_0
        try clear Sg225_0
        go_wp2
        go_ret
        exact ⟨rfl, F2.out.trans' HF.out⟩
      · refine heldp_op 9 0 rfl (by kernel_rfl) (fun K hK => ?_)
        go_simp
        have hfa : Fr no wc (wc.alloc (.cells #[.int .i64 1, .int .i64 0, .int .i64 0] 3)) := (Fr.refl no wc).alloc _
        have hba := World.alloc_heap_new wc (.cells #[.int .i64 1, .int .i64 0, .int .i64 0] 3)
        obtain ⟨gl, hgl⟩ : ∃ x, wc.heap.size = x := ⟨_, rfl⟩
        obtain ⟨wc, hwc⟩ : ∃ x, wc.alloc (.cells #[.int .i64 1, .int .i64 0, .int .i64 0] 3) = x := ⟨_, rfl⟩
        rw [hgl, hwc]
        rw [hgl, hwc] at hba
        rw [hwc] at hfa
        replace HF := Lib.hid (HF.out.trans' hfa)
        have V := Lib.hid hba
        clear hba hfa hwc hgl
        refine hK.out _ _ ?_ (fun hHeld' => ?_)
        · show Sg225_0 _; rw [HSg225_0.out]; trivial
        clear hK K hHeld
        have hHeld := hHeld'
        clear hHeld'
        try simp only [Act.put, List.setIfInBounds_toArray, List.set_cons_zero, List.set_cons_succ]
        refine heldp_take (v := ?_) 12 0 rfl (by kernel_rfl) (.inl ⟨by rfl, ?_⟩) hHeld ?_
        rotate_left
        · intro w hSw; replace hSw : Sg225_0 w := hSw; rw [HSg225_0.out] at hSw; (try dsimp only at hSw); first | (go_simp; done) | (go_simp; with_reducible rfl)
        try simp only [Act.put, List.setIfInBounds_toArray, List.set_cons_zero, List.set_cons_succ]
        refine heldp_two 8 13 (by kernel_rfl) ?_ ?_
        · refine heldp_op 8 0 rfl (by kernel_rfl) (fun K hK => ?_)
          go_simp
          go_at_call 19
          refine (Hc2.out _).mono ?_
          rintro e wc ⟨rfl, hfd⟩
          try replace V := Lib.hid (hfd.heap V.out (fun f => f))
          replace HF := Lib.hid (HF.out.trans' hfd)
          clear hfd
          refine hK.out _ _ ?_ (fun hHeld' => ?_)
          · show Sg225_0 _; rw [HSg225_0.out]; trivial
          clear hK K hHeld
          have hHeld := hHeld'
          clear hHeld'
          try simp only [Act.put, List.setIfInBounds_toArray, List.set_cons_zero, List.set_cons_succ]
          refine heldp_call 13 0 rfl (by kernel_rfl) (fun K hK => ?_)
          rw [if_pos (by rfl)]
          have c13 := cell_of_block (j := 0) V.out rfl; go_simp
          clear c13
          refine hK.out _ _ ?_ (fun hHeld' => ?_)
          · show Sg225_0 _; rw [HSg225_0.out]; trivial
          clear hK K hHeld
          have hHeld := hHeld'
          clear hHeld'
          try simp only [Act.put, List.setIfInBounds_toArray, List.set_cons_zero, List.set_cons_succ]
          refine heldp_take (v := ?_) 14 0 rfl (by kernel_rfl) (.inl ⟨by rfl, ?_⟩) hHeld ?_
          rotate_left
          · intro w hSw; replace hSw : Sg225_0 w := hSw; rw [HSg225_0.out] at hSw; (try dsimp only at hSw); first | (go_simp; done) | (go_simp; with_reducible rfl)
          try simp only [Act.put, List.setIfInBounds_toArray, List.set_cons_zero, List.set_cons_succ]
          refine heldp_take (v := ?_) 15 0 rfl (by kernel_rfl) (.inl ⟨by rfl, ?_⟩) hHeld ?_
          rotate_left
          · intro w hSw; replace hSw : Sg225_0 w := hSw; rw [HSg225_0.out] at hSw; (try dsimp only at hSw); first | (go_simp; done) | (go_simp; with_reducible rfl)
          try simp only [Act.put, List.setIfInBounds_toArray, List.set_cons_zero, List.set_cons_succ]
          refine heldp_take (v := ?_) 16 0 rfl (by kernel_rfl) (.inl ⟨by rfl, ?_⟩) hHeld ?_
          rotate_left
          · intro w hSw; replace hSw : Sg225_0 w := hSw; rw [HSg225_0.out] at hSw; (try dsimp only at hSw); first | (go_simp; done) | (go_simp; with_reducible rfl)
          try simp only [Act.put, List.setIfInBounds_toArray, List.set_cons_zero, List.set_cons_succ]
          refine heldp_done (by kernel_rfl) ?_
          try clear hHeld
          clear HSg225_0
          try clear Sg225_0
          go_wp2
          go_ret
          exact ⟨rfl, F2.out.trans' HF.out⟩
        · refine heldp_op 13 0 rfl (by kernel_rfl) (fun K hK => ?_)
          rw [if_pos (by rfl)]
          have c13 := cell_of_block (j := 0) V.out rfl; go_simp
          clear c13
          refine hK.out _ _ ?_ (fun hHeld' => ?_)
          · show Sg225_0 _; rw [HSg225_0.out]; trivial
          clear hK K hHeld
          have hHeld := hHeld'
          clear hHeld'
          try simp only [Act.put, List.setIfInBounds_toArray, List.set_cons_zero, List.set_cons_succ]
          refine heldp_call 8 0 rfl (by kernel_rfl) (fun K hK => ?_)
          go_simp
          go_at_call 19
          refine (Hc2.out _).mono ?_
          rintro e wc ⟨rfl, hfd⟩
          try replace V := Lib.hid (hfd.heap V.out (fun f => f))
          replace HF := Lib.hid (HF.out.trans' hfd)
          clear hfd
          refine hK.out _ _ ?_ (fun hHeld' => ?_)
          · show Sg225_0 _; rw [HSg225_0.out]; trivial
          clear hK K hHeld
          have hHeld := hHeld'
          clear hHeld'
          try simp only [Act.put, List.setIfInBounds_toArray, List.set_cons_zero, List.set_cons_succ]
          refine heldp_take (v := ?_) 14 0 rfl (by kernel_rfl) (.inl ⟨by rfl, ?_⟩) hHeld ?_
          rotate_left
          · intro w hSw; replace hSw : Sg225_0 w := hSw; rw [HSg225_0.out] at hSw; (try dsimp only at hSw); first | (go_simp; done) | (go_simp; with_reducible rfl)
          try simp only [Act.put, List.setIfInBounds_toArray, List.set_cons_zero, List.set_cons_succ]
          refine heldp_take (v := ?_) 15 0 rfl (by kernel_rfl) (.inl ⟨by rfl, ?_⟩) hHeld ?_
          rotate_left
          · intro w hSw; replace hSw : Sg225_0 w := hSw; rw [HSg225_0.out] at hSw; (try dsimp only at hSw); first | (go_simp; done) | (go_simp; with_reducible rfl)
          try simp only [Act.put, List.setIfInBounds_toArray, List.set_cons_zero, List.set_cons_succ]
          refine heldp_take (v := ?_) 16 0 rfl (by kernel_rfl) (.inl ⟨by rfl, ?_⟩) hHeld ?_
          rotate_left
          · intro w hSw; replace hSw : Sg225_0 w := hSw; rw [HSg225_0.out] at hSw; (try dsimp only at hSw); first | (go_simp; done) | (go_simp; with_reducible rfl)
          try simp only [Act.put, List.setIfInBounds_toArray, List.set_cons_zero, List.set_cons_succ]
          refine heldp_done (by kernel_rfl) ?_
          try clear hHeld
          clear HSg225_0
          try clear Sg225_0
          go_wp2
          go_ret
          exact ⟨rfl, F2.out.trans' HF.out⟩
    · skip
      have hbt : b.tmod 3 = 1 := by rw [Int.tmod_eq_emod_of_nonneg hb0]; exact hb
      go_upto_region 24 with (fail)
      generalize hw2 : w1.alloc (.cells #[.int .i64 1, .int .i64 2, .int .i64 3] 3) = w2 at *
      have F2 : Hid (Fr no w w2) := Lib.hid (by rw [← hw2]; exact F1.out.alloc _)
      have hc1 := fun (w' : World) (hf : Fr no w2 w') => vec_check (.slice (some ⟨w1.heap.size, 0, none⟩) 3 3) [1, 2, 3] 8 w' (HS.out.rd.fr hf (fun _ _ _ f => f))
      rw [show vcheck [1, 2, 3] 8 = 0 by decide] at hc1
      have hc2 := fun (w' : World) => vec_check (.slice none 0 0) [] 1 w' (rd_nil w' 1)
      rw [show vcheck [] 1 = 0 by decide] at hc2
      have Hc1 := Lib.hid hc1
      have Hc2 := Lib.hid hc2
      clear hc1 hc2 hw2
      generalize w1.heap.size = gz at *
      obtain ⟨Sg465_0, HSg465_0⟩ : ∃ S : World → Prop, Hid (S = (fun _ => True)) := ⟨_, Lib.hid rfl⟩
      refine wp_heldp [] (pickS [Sg465_0]) (by kernel_rfl) ?_ (fun hHeld => ?_)
      · show Sg465_0 _; rw [HSg465_0.out]; trivial
      obtain ⟨wc, hwc⟩ : ∃ x, w2.drew = x := ⟨_, rfl⟩; rw [hwc] at hHeld; rw [hwc]; have HF : Hid (Fr no w2 wc) := (by rw [← hwc]; exact Lib.hid ((Fr.refl no w2).drewN 1)); clear hwc
      refine heldp_take (v := ?_) 0 0 rfl (by kernel_rfl) (.inl ⟨by rfl, ?_⟩) hHeld ?_
      rotate_left
      · intro w hSw; replace hSw : Sg465_0 w := hSw; rw [HSg465_0.out] at hSw; (try dsimp only at hSw); first | (go_simp; done) | (go_simp; with_reducible rfl)
      try simp only [Act.put, List.setIfInBounds_toArray, List.set_cons_zero, List.set_cons_succ]
      refine heldp_take (v := ?_) 1 0 rfl (by kernel_rfl) (.inl ⟨by rfl, ?_⟩) hHeld ?_
      rotate_left
      · intro w hSw; replace hSw : Sg465_0 w := hSw; rw [HSg465_0.out] at hSw; (try dsimp only at hSw); first | (go_simp; done) | (go_simp; with_reducible rfl)
      try simp only [Act.put, List.setIfInBounds_toArray, List.set_cons_zero, List.set_cons_succ]
      refine heldp_take (v := ?_) 3 0 rfl (by kernel_rfl) (.inl ⟨by rfl, ?_⟩) hHeld ?_
      rotate_left
      · intro w hSw; replace hSw : Sg465_0 w := hSw; rw [HSg465_0.out] at hSw; (try dsimp only at hSw); first | (go_simp; done) | (go_simp; with_reducible rfl)
      try simp only [Act.put, List.setIfInBounds_toArray, List.set_cons_zero, List.set_cons_succ]
      refine heldp_call 2 0 rfl (by kernel_rfl) (fun K hK => ?_)
      go_simp
      go_at_call 19
      refine (Hc1.out _ HF.out).mono ?_
      rintro e wc ⟨rfl, hfd⟩
      replace HF := Lib.hid (HF.out.trans' hfd)
      clear hfd
      refine hK.out _ _ ?_ (fun hHeld' => ?_)
      · show Sg465_0 _; rw [HSg465_0.out]; trivial
      clear hK K hHeld
      have hHeld := hHeld'
      clear hHeld'
      try simp only [Act.put, List.setIfInBounds_toArray, List.set_cons_zero, List.set_cons_succ]
      refine heldp_take (v := (.bool true)) 4 0 rfl (by kernel_rfl) (.inl ⟨by rfl, ?_⟩) hHeld ?_
      · intro w hSw; replace hSw : Sg465_0 w := hSw; rw [HSg465_0.out] at hSw; (try dsimp only at hSw); first | (go_simp; done) | (go_simp; with_reducible rfl)
      try simp only [Act.put, List.setIfInBounds_toArray, List.set_cons_zero, List.set_cons_succ]
      refine heldp_take (v := ?_) 5 0 rfl (by kernel_rfl) (.inl ⟨by rfl, ?_⟩) hHeld ?_
      rotate_left
      · intro w hSw; replace hSw : Sg465_0 w := hSw; rw [HSg465_0.out] at hSw; (try dsimp only at hSw); first | (go_simp; done) | (go_simp; with_reducible rfl)
      try simp only [Act.put, List.setIfInBounds_toArray, List.set_cons_zero, List.set_cons_succ]
      refine heldp_take (v := ?_) 6 0 rfl (by kernel_rfl) (.inl ⟨by rfl, ?_⟩) hHeld ?_
      rotate_left
      · intro w hSw; replace hSw : Sg465_0 w := hSw; rw [HSg465_0.out] at hSw; (try dsimp only at hSw); first | (go_simp; done) | (go_simp; with_reducible rfl)
      try simp only [Act.put, List.setIfInBounds_toArray, List.set_cons_zero, List.set_cons_succ]
      refine heldp_take (v := ?_) 7 0 rfl (by kernel_rfl) (.inl ⟨by rfl, ?_⟩) hHeld ?_
      rotate_left
      · intro w hSw; replace hSw : Sg465_0 w := hSw; rw [HSg465_0.out] at hSw; (try dsimp only at hSw); first | (go_simp; done) | (go_simp; with_reducible rfl)
      try simp only [Act.put, List.setIfInBounds_toArray, List.set_cons_zero, List.set_cons_succ]
      refine heldp_take (v := ?_) 10 0 rfl (by kernel_rfl) (.inl ⟨by rfl, ?_⟩) hHeld ?_
      rotate_left
      · intro w hSw; replace hSw : Sg465_0 w := hSw; rw [HSg465_0.out] at hSw; (try dsimp only at hSw); first | (go_simp; done) | (go_simp; with_reducible rfl)
      try simp only [Act.put, List.setIfInBounds_toArray, List.set_cons_zero, List.set_cons_succ]
      refine heldp_take (v := ?_) 11 0 rfl (by kernel_rfl) (.inl ⟨by rfl, ?_⟩) hHeld ?_
      rotate_left
      · intro w hSw; replace hSw : Sg465_0 w := hSw; rw [HSg465_0.out] at hSw; (try dsimp only at hSw); first | (go_simp; done) | (go_simp; with_reducible rfl)
      try simp only [Act.put, List.setIfInBounds_toArray, List.set_cons_zero, List.set_cons_succ]
      refine heldp_two 8 9 (by kernel_rfl) ?_ ?_
      · refine heldp_op 8 0 rfl (by kernel_rfl) (fun K hK => ?_)
        go_simp
        go_at_call 19
        refine (Hc2.out _).mono ?_
        rintro e wc ⟨rfl, hfd⟩
        try replace V := Lib.hid (hfd.heap V.out (fun f => f))
        replace HF := Lib.hid (HF.out.trans' hfd)
        clear hfd
        refine hK.out _ _ ?_ (fun hHeld' => ?_)
        · show Sg465_0 _; rw [HSg465_0.out]; trivial
        clear hK K hHeld
        have hHeld := hHeld'
        clear hHeld'
        try simp only [Act.put, List.setIfInBounds_toArray, List.set_cons_zero, List.set_cons_succ]
        refine heldp_call 9 0 rfl (by kernel_rfl) (fun K hK => ?_)
        go_simp
        have hfa : Fr no wc (wc.alloc (.cells #[.int .i64 1, .int .i64 0, .int .i64 0] 3)) := (Fr.refl no wc).alloc _
        have hba := World.alloc_heap_new wc (.cells #[.int .i64 1, .int .i64 0, .int .i64 0] 3)
        obtain ⟨gl, hgl⟩ : ∃ x, wc.heap.size = x := ⟨_, rfl⟩
        obtain ⟨wc, hwc⟩ : ∃ x, wc.alloc (.cells #[.int .i64 1, .int .i64 0, .int .i64 0] 3) = x := ⟨_, rfl⟩
        rw [hgl, hwc]
        rw [hgl, hwc] at hba
        rw [hwc] at hfa
        replace HF := Lib.hid (HF.out.trans' hfa)
        have V := Lib.hid hba
        clear hba hfa hwc hgl
        refine hK.out _ _ ?_ (fun hHeld' => ?_)
        · show Sg465_0 _; rw [HSg465_0.out]; trivial
        clear hK K hHeld
        have hHeld := hHeld'
        clear hHeld'
        try simp only [Act.put, List.setIfInBounds_toArray, List.set_cons_zero, List.set_cons_succ]
        refine heldp_take (v := ?_) 12 0 rfl (by kernel_rfl) (.inl ⟨by rfl, ?_⟩) hHeld ?_
        rotate_left
        · intro w hSw; replace hSw : Sg465_0 w := hSw; rw [HSg465_0.out] at hSw; (try dsimp only at hSw); first | (go_simp; done) | (go_simp; with_reducible rfl)
        try simp only [Act.put, List.setIfInBounds_toArray, List.set_cons_zero, List.set_cons_succ]
        refine heldp_call 13 0 rfl (by kernel_rfl) (fun K hK => ?_)
        rw [if_pos (by rfl)]
        have c13 := cell_of_block (j := 1) V.out rfl; go_simp
        clear c13
        refine hK.out _ _ ?_ (fun hHeld' => ?_)
        · show Sg465_0 _; rw [HSg465_0.out]; trivial
        clear hK K hHeld
        have hHeld := hHeld'
        clear hHeld'
        try simp only [Act.put, List.setIfInBounds_toArray, List.set_cons_zero, List.set_cons_succ]
        refine heldp_take (v := ?_) 14 0 rfl (by kernel_rfl) (.inl ⟨by rfl, ?_⟩) hHeld ?_
        rotate_left
        · intro w hSw; replace hSw : Sg465_0 w := hSw; rw [HSg465_0.out] at hSw; (try dsimp only at hSw); first | (go_simp; done) | (go_simp; with_reducible rfl)
        try simp only [Act.put, List.setIfInBounds_toArray, List.set_cons_zero, List.set_cons_succ]
        refine heldp_take (v := ?_) 15 0 rfl (by kernel_rfl) (.inl ⟨by rfl, ?_⟩) hHeld ?_
        rotate_left
        · intro w hSw; replace hSw : Sg465_0 w := hSw; rw [HSg465_0.out] at hSw; (try dsimp only at hSw); first | (go_simp; done) | (go_simp; with_reducible rfl)
        try simp only [Act.put, List.setIfInBounds_toArray, List.set_cons_zero, List.set_cons_succ]
        refine heldp_take (v := ?_) 16 0 rfl (by kernel_rfl) (.inl ⟨by rfl, ?_⟩) hHeld ?_
        rotate_left
        · intro w hSw; replace hSw : Sg465_0 w := hSw; rw [HSg465_0.out] at hSw; (try dsimp only at hSw); first | (go_simp; done) | (go_simp; with_reducible rfl)
        try simp only [Act.put, List.setIfInBounds_toArray, List.set_cons_zero, List.set_cons_succ]
        refine heldp_done (by kernel_rfl) ?_
        try clear hHeld
        clear HSg465_0
        try clear Sg465_0
        go_wp2
        go_ret
        exact ⟨rfl, F2.out.trans' HF.out⟩
      · refine heldp_op 9 0 rfl (by kernel_rfl) (fun K hK => ?_)
        go_simp
        have hfa : Fr no wc (wc.alloc (.cells #[.int .i64 1, .int .i64 0, .int .i64 0] 3)) := (Fr.refl no wc).alloc _
        have hba := World.alloc_heap_new wc (.cells #[.int .i64 1, .int .i64 0, .int .i64 0] 3)
        obtain ⟨gl, hgl⟩ : ∃ x, wc.heap.size = x := ⟨_, rfl⟩
        obtain ⟨wc, hwc⟩ : ∃ x, wc.alloc (.cells #[.int .i64 1, .int .i64 0, .int .i64 0] 3) = x := ⟨_, rfl⟩
        rw [hgl, hwc]
        rw [hgl, hwc] at hba
        rw [hwc] at hfa
        replace HF := Lib.hid (HF.out.trans' hfa)
        have V := Lib.hid hba
        clear hba hfa hwc hgl
        refine hK.out _ _ ?_ (fun hHeld' => ?_)
        · show Sg465_0 _; rw [HSg465_0.out]; trivial
        clear hK K hHeld
        have hHeld := hHeld'
        clear hHeld'
        try simp only [Act.put, List.setIfInBounds_toArray, List.set_cons_zero, List.set_cons_succ]
        refine heldp_take (v := ?_) 12 0 rfl (by kernel_rfl) (.inl ⟨by rfl, ?_⟩) hHeld ?_
        rotate_left
        · intro w hSw; replace hSw : Sg465_0 w := hSw; rw [HSg465_0.out] at hSw; (try dsimp only at hSw); first | (go_simp; done) | (go_simp; with_reducible rfl)
        try simp only [Act.put, List.setIfInBounds_toArray, List.set_cons_zero, List.set_cons_succ]
        refine heldp_two 8 13 (by kernel_rfl) ?_ ?_
        · refine heldp_op 8 0 rfl (by kernel_rfl) (fun K hK => ?_)
          go_simp
          go_at_call 19
          refine (Hc2.out _).mono ?_
          rintro e wc ⟨rfl, hfd⟩
          try replace V := Lib.hid (hfd.heap V.out (fun f => f))
          replace HF := Lib.hid (HF.out.trans' hfd)
          clear hfd
          refine hK.out _ _ ?_ (fun hHeld' => ?_)
          · show Sg465_0 _; rw [HSg465_0.out]; trivial
          clear hK K hHeld
          have hHeld := hHeld'
          clear hHeld'
          try simp only [Act.put, List.setIfInBounds_toArray, List.set_cons_zero, List.set_cons_succ]
          refine heldp_call 13 0 rfl (by kernel_rfl) (fun K hK => ?_)
          rw [if_pos (by rfl)]
          have c13 := cell_of_block (j := 1) V.out rfl; go_simp
          clear c13
          refine hK.out _ _ ?_ (fun hHeld' => ?_)
          · show Sg465_0 _; rw [HSg465_0.out]; trivial
          clear hK K hHeld
          have hHeld := hHeld'
          clear hHeld'
          try simp only [Act.put, List.setIfInBounds_toArray, List.set_cons_zero, List.set_cons_succ]
          refine heldp_take (v := ?_) 14 0 rfl (by kernel_rfl) (.inl ⟨by rfl, ?_⟩) hHeld ?_
          rotate_left
          · intro w hSw; replace hSw : Sg465_0 w := hSw; rw [HSg465_0.out] at hSw; (try dsimp only at hSw); first | (go_simp; done) | (go_simp; with_reducible rfl)
          try simp only [Act.put, List.setIfInBounds_toArray, List.set_cons_zero, List.set_cons_succ]
          refine heldp_take (v := ?_) 15 0 rfl (by kernel_rfl) (.inl ⟨by rfl, ?_⟩) hHeld ?_
          rotate_left
          · intro w hSw; replace hSw : Sg465_0 w := hSw; rw [HSg465_0.out] at hSw; (try dsimp only at hSw); first | (go_simp; done) | (go_simp; with_reducible rfl)
          try simp only [Act.put, List.setIfInBounds_toArray, List.set_cons_zero, List.set_cons_succ]
          refine heldp_take (v := ?_) 16 0 rfl (by kernel_rfl) (.inl ⟨by rfl, ?_⟩) hHeld ?_
          rotate_left
          · intro w hSw; replace hSw : Sg465_0 w := hSw; rw [HSg465_0.out] at hSw; (try dsimp only at hSw); first | (go_simp; done) | (go_simp; with_reducible rfl)
          try simp only [Act.put, List.setIfInBounds_toArray, List.set_cons_zero, List.set_cons_succ]
          refine heldp_done (by kernel_rfl) ?_
          try clear hHeld
          clear HSg465_0
          try clear Sg465_0
          go_wp2
          go_ret
          exact ⟨rfl, F2.out.trans' HF.out⟩
        · refine heldp_op 13 0 rfl (by kernel_rfl) (fun K hK => ?_)
          rw [if_pos (by rfl)]
          have c13 := cell_of_block (j := 1) V.out rfl; go_simp
          clear c13
          refine hK.out _ _ ?_ (fun hHeld' => ?_)
          · show Sg465_0 _; rw [HSg465_0.out]; trivial
          clear hK K hHeld
          have hHeld := hHeld'
          clear hHeld'
          try simp only [Act.put, List.setIfInBounds_toArray, List.set_cons_zero, List.set_cons_succ]
          refine heldp_call 8 0 rfl (by kernel_rfl) (fun K hK => ?_)
          go_simp
          go_at_call 19
          refine (Hc2.out _).mono ?_
          rintro e wc ⟨rfl, hfd⟩
          try replace V := Lib.hid (hfd.heap V.out (fun f => f))
          replace HF := Lib.hid (HF.out.trans' hfd)
          clear hfd
          refine hK.out _ _ ?_ (fun hHeld' => ?_)
          · show Sg465_0 _; rw [HSg465_0.out]; trivial
          clear hK K hHeld
          have hHeld := hHeld'
          clear hHeld'
          try simp only [Act.put, List.setIfInBounds_toArray, List.set_cons_zero, List.set_cons_succ]
          refine heldp_take (v := ?_) 14 0 rfl (by kernel_rfl) (.inl ⟨by rfl, ?_⟩) hHeld ?_
          rotate_left
          · intro w hSw; replace hSw : Sg465_0 w := hSw; rw [HSg465_0.out] at hSw; (try dsimp only at hSw); first | (go_simp; done) | (go_simp; with_reducible rfl)
          try simp only [Act.put, List.setIfInBounds_toArray, List.set_cons_zero, List.set_cons_succ]
          refine heldp_take (v := ?_) 15 0 rfl (by kernel_rfl) (.inl ⟨by rfl, ?_⟩) hHeld ?_
          rotate_left
          · intro w hSw; replace hSw : Sg465_0 w := hSw; rw [HSg465_0.out] at hSw; (try dsimp only at hSw); first | (go_simp; done) | (go_simp; with_reducible rfl)
          try simp only [Act.put, List.setIfInBounds_toArray, List.set_cons_zero, List.set_cons_succ]
          refine heldp_take (v := ?_) 16 0 rfl (by kernel_rfl) (.inl ⟨by rfl, ?_⟩) hHeld ?_
          rotate_left
          · intro w hSw; replace hSw : Sg465_0 w := hSw; rw [HSg465_0.out] at hSw; (try dsimp only at hSw); first | (go_simp; done) | (go_simp; with_reducible rfl)
          try simp only [Act.put, List.setIfInBounds_toArray, List.set_cons_zero, List.set_cons_succ]
          refine heldp_done (by kernel_rfl) ?_
          try clear hHeld
          clear HSg465_0
          try clear Sg465_0
          go_wp2
          go_ret
          exact ⟨rfl, F2.out.trans' HF.out⟩
    · skip
      have hbt : b.tmod 3 = 2 := by rw [Int.tmod_eq_emod_of_nonneg hb0]; exact hb
      go_upto_region 24 with (fail)
      generalize hw2 : w1.alloc (.cells #[.int .i64 1, .int .i64 2, .int .i64 3] 3) = w2 at *
      have F2 : Hid (Fr no w w2) := Lib.hid (by rw [← hw2]; exact F1.out.alloc _)
      have hc1 := fun (w' : World) (hf : Fr no w2 w') => vec_check (.slice (some ⟨w1.heap.size, 0, none⟩) 3 3) [1, 2, 3] 9 w' (HS.out.rd.fr hf (fun _ _ _ f => f))
      rw [show vcheck [1, 2, 3] 9 = 1 by decide] at hc1
      have hc2 := fun (w' : World) => vec_check (.slice none 0 0) [] 2 w' (rd_nil w' 1)
      rw [show vcheck [] 2 = 0 by decide] at hc2
      have Hc1 := Lib.hid hc1
      have Hc2 := Lib.hid hc2
      clear hc1 hc2 hw2
      generalize w1.heap.size = gz at *
      obtain ⟨Sg705_0, HSg705_0⟩ : ∃ S : World → Prop, Hid (S = (fun _ => True)) := ⟨_, Lib.hid rfl⟩
      refine wp_heldp [] (pickS [Sg705_0]) (by kernel_rfl) ?_ (fun hHeld => ?_)
      · show Sg705_0 _; rw [HSg705_0.out]; trivial
      obtain ⟨wc, hwc⟩ : ∃ x, w2.drew = x := ⟨_, rfl⟩; rw [hwc] at hHeld; rw [hwc]; have HF : Hid (Fr no w2 wc) := (by rw [← hwc]; exact Lib.hid ((Fr.refl no w2).drewN 1)); clear hwc
      refine heldp_take (v := ?_) 0 0 rfl (by kernel_rfl) (.inl ⟨by rfl, ?_⟩) hHeld ?_
      rotate_left
      · intro w hSw; replace hSw : Sg705_0 w := hSw; rw [HSg705_0.out] at hSw; (try dsimp only at hSw); first | (go_simp; done) | (go_simp; with_reducible rfl)
      try simp only [Act.put, List.setIfInBounds_toArray, List.set_cons_zero, List.set_cons_succ]
      refine heldp_take (v := ?_) 1 0 rfl (by kernel_rfl) (.inl ⟨by rfl, ?_⟩) hHeld ?_
      rotate_left
      · intro w hSw; replace hSw : Sg705_0 w := hSw; rw [HSg705_0.out] at hSw; (try dsimp only at hSw); first | (go_simp; done) | (go_simp; with_reducible rfl)
      try simp only [Act.put, List.setIfInBounds_toArray, List.set_cons_zero, List.set_cons_succ]
      refine heldp_take (v := ?_) 3 0 rfl (by kernel_rfl) (.inl ⟨by rfl, ?_⟩) hHeld ?_
      rotate_left
      · intro w hSw; replace hSw : Sg705_0 w := hSw; rw [HSg705_0.out] at hSw; (try dsimp only at hSw); first | (go_simp; done) | (go_simp; with_reducible rfl)
      try simp only [Act.put, List.setIfInBounds_toArray, List.set_cons_zero, List.set_cons_succ]
      refine heldp_call 2 0 rfl (by kernel_rfl) (fun K hK => ?_)
      go_simp
      go_at_call 19
      refine (Hc1.out _ HF.out).mono ?_
      rintro e wc ⟨rfl, hfd⟩
      replace HF := Lib.hid (HF.out.trans' hfd)
      clear hfd
      refine hK.out _ _ ?_ (fun hHeld' => ?_)
      · show Sg705_0 _; rw [HSg705_0.out]; trivial
      clear hK K hHeld
      have hHeld := hHeld'
      clear hHeld'
      try simp only [Act.put, List.setIfInBounds_toArray, List.set_cons_zero, List.set_cons_succ]
      refine heldp_take (v := (.bool true)) 4 0 rfl (by kernel_rfl) (.inl ⟨by rfl, ?_⟩) hHeld ?_
      · intro w hSw; replace hSw : Sg705_0 w := hSw; rw [HSg705_0.out] at hSw; (try dsimp only at hSw); first | (go_simp; done) | (go_simp; with_reducible rfl)
      try simp only [Act.put, List.setIfInBounds_toArray, List.set_cons_zero, List.set_cons_succ]
      refine heldp_take (v := ?_) 5 0 rfl (by kernel_rfl) (.inl ⟨by rfl, ?_⟩) hHeld ?_
      rotate_left
      · intro w hSw; replace hSw : Sg705_0 w := hSw; rw [HSg705_0.out] at hSw; (try dsimp only at hSw); first | (go_simp; done) | (go_simp; with_reducible rfl)
      try simp only [Act.put, List.setIfInBounds_toArray, List.set_cons_zero, List.set_cons_succ]
      refine heldp_take (v := ?_) 6 0 rfl (by kernel_rfl) (.inl ⟨by rfl, ?_⟩) hHeld ?_
      rotate_left
      · intro w hSw; replace hSw : Sg705_0 w := hSw; rw [HSg705_0.out] at hSw; (try dsimp only at hSw); first | (go_simp; done) | (go_simp; with_reducible rfl)
      try simp only [Act.put, List.setIfInBounds_toArray, List.set_cons_zero, List.set_cons_succ]
      refine heldp_take (v := ?_) 7 0 rfl (by kernel_rfl) (.inl ⟨by rfl, ?_⟩) hHeld ?_
      rotate_left
      · intro w hSw; replace hSw : Sg705_0 w := hSw; rw [HSg705_0.out] at hSw; (try dsimp only at hSw); first | (go_simp; done) | (go_simp; with_reducible rfl)
      try simp only [Act.put, List.setIfInBounds_toArray, List.set_cons_zero, List.set_cons_succ]
      refine heldp_take (v := ?_) 10 0 rfl (by kernel_rfl) (.inl ⟨by rfl, ?_⟩) hHeld ?_
      rotate_left
      · intro w hSw; replace hSw : Sg705_0 w := hSw; rw [HSg705_0.out] at hSw; (try dsimp only at hSw); first | (go_simp; done) | (go_simp; with_reducible rfl)
      try simp only [Act.put, List.setIfInBounds_toArray, List.set_cons_zero, List.set_cons_succ]
      refine heldp_take (v := ?_) 11 0 rfl (by kernel_rfl) (.inl ⟨by rfl, ?_⟩) hHeld ?_
      rotate_left
      · intro w hSw; replace hSw : Sg705_0 w := hSw; rw [HSg705_0.out] at hSw; (try dsimp only at hSw); first | (go_simp; done) | (go_simp; with_reducible rfl)
      try simp only [Act.put, List.setIfInBounds_toArray, List.set_cons_zero, List.set_cons_succ]
      refine heldp_two 8 9 (by kernel_rfl) ?_ ?_
      · refine heldp_op 8 0 rfl (by kernel_rfl) (fun K hK => ?_)
        go_simp
        go_at_call 19
        refine (Hc2.out _).mono ?_
        rintro e wc ⟨rfl, hfd⟩
        try replace V := Lib.hid (hfd.heap V.out (fun f => f))
        replace HF := Lib.hid (HF.out.trans' hfd)
        clear hfd
        refine hK.out _ _ ?_ (fun hHeld' => ?_)
        · show Sg705_0 _; rw [HSg705_0.out]; trivial
        clear hK K hHeld
        have hHeld := hHeld'
        clear hHeld'
        try simp only [Act.put, List.setIfInBounds_toArray, List.set_cons_zero, List.set_cons_succ]
        refine heldp_call 9 0 rfl (by kernel_rfl) (fun K hK => ?_)
        go_simp
        have hfa : Fr no wc (wc.alloc (.cells #[.int .i64 1, .int .i64 0, .int .i64 0] 3)) := (Fr.refl no wc).alloc _
        have hba := World.alloc_heap_new wc (.cells #[.int .i64 1, .int .i64 0, .int .i64 0] 3)
        obtain ⟨gl, hgl⟩ : ∃ x, wc.heap.size = x := ⟨_, rfl⟩
        obtain ⟨wc, hwc⟩ : ∃ x, wc.alloc (.cells #[.int .i64 1, .int .i64 0, .int .i64 0] 3) = x := ⟨_, rfl⟩
        rw [hgl, hwc]
        rw [hgl, hwc] at hba
        rw [hwc] at hfa
        replace HF := Lib.hid (HF.out.trans' hfa)
        have V := Lib.hid hba
        clear hba hfa hwc hgl
        refine hK.out _ _ ?_ (fun hHeld' => ?_)
        · show Sg705_0 _; rw [HSg705_0.out]; trivial
        clear hK K hHeld
        have hHeld := hHeld'
        clear hHeld'
        try simp only [Act.put, List.setIfInBounds_toArray, List.set_cons_zero, List.set_cons_succ]
        refine heldp_take (v := ?_) 12 0 rfl (by kernel_rfl) (.inl ⟨by rfl, ?_⟩) hHeld ?_
        rotate_left
        · intro w hSw; replace hSw : Sg705_0 w := hSw; rw [HSg705_0.out] at hSw; (try dsimp only at hSw); first | (go_simp; done) | (go_simp; with_reducible rfl)
        try simp only [Act.put, List.setIfInBounds_toArray, List.set_cons_zero, List.set_cons_succ]
        refine heldp_call 13 0 rfl (by kernel_rfl) (fun K hK => ?_)
        rw [if_pos (by rfl)]
        have c13 := cell_of_block (j := 2) V.out rfl; go_simp
        clear c13
        refine hK.out _ _ ?_ (fun hHeld' => ?_)
        · show Sg705_0 _; rw [HSg705_0.out]; trivial
        clear hK K hHeld
        have hHeld := hHeld'
        clear hHeld'
        try simp only [Act.put, List.setIfInBounds_toArray, List.set_cons_zero, List.set_cons_succ]
        refine heldp_take (v := ?_) 14 0 rfl (by kernel_rfl) (.inl ⟨by rfl, ?_⟩) hHeld ?_
        rotate_left
        · intro w hSw; replace hSw : Sg705_0 w := hSw; rw [HSg705_0.out] at hSw; (try dsimp only at hSw); first | (go_simp; done) | (go_simp; with_reducible rfl)
        try simp only [Act.put, List.setIfInBounds_toArray, List.set_cons_zero, List.set_cons_succ]
        refine heldp_take (v := ?_) 15 0 rfl (by kernel_rfl) (.inl ⟨by rfl, ?_⟩) hHeld ?_
        rotate_left
        · intro w hSw; replace hSw : Sg705_0 w := hSw; rw [HSg705_0.out] at hSw; (try dsimp only at hSw); first | (go_simp; done) | (go_simp; with_reducible rfl)
        try simp only [Act.put, List.setIfInBounds_toArray, List.set_cons_zero, List.set_cons_succ]
        refine heldp_take (v := ?_) 16 0 rfl (by kernel_rfl) (.inl ⟨by rfl, ?_⟩) hHeld ?_
        rotate_left
        · intro w hSw; replace hSw : Sg705_0 w := hSw; rw [HSg705_0.out] at hSw; (try dsimp only at hSw); first | (go_simp; done) | (go_simp; with_reducible rfl)
        try simp only [Act.put, List.setIfInBounds_toArray, List.set_cons_zero, List.set_cons_succ]
        refine heldp_done (by kernel_rfl) ?_
        try clear hHeld
        clear HSg705_0
        try clear Sg705_0
        go_wp2
        go_ret
        exact ⟨rfl, F2.out.trans' HF.out⟩
      · refine heldp_op 9 0 rfl (by kernel_rfl) (fun K hK => ?_)
        go_simp
        have hfa : Fr no wc (wc.alloc (.cells #[.int .i64 1, .int .i64 0, .int .i64 0] 3)) := (Fr.refl no wc).alloc _
        have hba := World.alloc_heap_new wc (.cells #[.int .i64 1, .int .i64 0, .int .i64 0] 3)
        obtain ⟨gl, hgl⟩ : ∃ x, wc.heap.size = x := ⟨_, rfl⟩
        obtain ⟨wc, hwc⟩ : ∃ x, wc.alloc (.cells #[.int .i64 1, .int .i64 0, .int .i64 0] 3) = x := ⟨_, rfl⟩
        rw [hgl, hwc]
        rw [hgl, hwc] at hba
        rw [hwc] at hfa
        replace HF := Lib.hid (HF.out.trans' hfa)
        have V := Lib.hid hba
        clear hba hfa hwc hgl
        refine hK.out _ _ ?_ (fun hHeld' => ?_)
        · show Sg705_0 _; rw [HSg705_0.out]; trivial
        clear hK K hHeld
        have hHeld := hHeld'
        clear hHeld'
        try simp only [Act.put, List.setIfInBounds_toArray, List.set_cons_zero, List.set_cons_succ]
        refine heldp_take (v := ?_) 12 0 rfl (by kernel_rfl) (.inl ⟨by rfl, ?_⟩) hHeld ?_
        rotate_left
        · intro w hSw; replace hSw : Sg705_0 w := hSw; rw [HSg705_0.out] at hSw; (try dsimp only at hSw); first | (go_simp; done) | (go_simp; with_reducible rfl)
        try simp only [Act.put, List.setIfInBounds_toArray, List.set_cons_zero, List.set_cons_succ]
        refine heldp_two 8 13 (by kernel_rfl) ?_ ?_
        · refine heldp_op 8 0 rfl (by kernel_rfl) (fun K hK => ?_)
          go_simp
          go_at_call 19
          refine (Hc2.out _).mono ?_
          rintro e wc ⟨rfl, hfd⟩
          try replace V := Lib.hid (hfd.heap V.out (fun f => f))
          replace HF := Lib.hid (HF.out.trans' hfd)
          clear hfd
          refine hK.out _ _ ?_ (fun hHeld' => ?_)
          · show Sg705_0 _; rw [HSg705_0.out]; trivial
          clear hK K hHeld
          have hHeld := hHeld'
          clear hHeld'
          try simp only [Act.put, List.setIfInBounds_toArray, List.set_cons_zero, List.set_cons_succ]
          refine heldp_call 13 0 rfl (by kernel_rfl) (fun K hK => ?_)
          rw [if_pos (by rfl)]
          have c13 := cell_of_block (j := 2) V.out rfl; go_simp
          clear c13
          refine hK.out _ _ ?_ (fun hHeld' => ?_)
          · show Sg705_0 _; rw [HSg705_0.out]; trivial
          clear hK K hHeld
          have hHeld := hHeld'
          clear hHeld'
          try simp only [Act.put, List.setIfInBounds_toArray, List.set_cons_zero, List.set_cons_succ]
          refine heldp_take (v := ?_) 14 0 rfl (by kernel_rfl) (.inl ⟨by rfl, ?_⟩) hHeld ?_
          rotate_left
          · intro w hSw; replace hSw : Sg705_0 w := hSw; rw [HSg705_0.out] at hSw; (try dsimp only at hSw); first | (go_simp; done) | (go_simp; with_reducible rfl)
          try simp only [Act.put, List.setIfInBounds_toArray, List.set_cons_zero, List.set_cons_succ]
          refine heldp_take (v := ?_) 15 0 rfl (by kernel_rfl) (.inl ⟨by rfl, ?_⟩) hHeld ?_
          rotate_left
          · intro w hSw; replace hSw : Sg705_0 w := hSw; rw [HSg705_0.out] at hSw; (try dsimp only at hSw); first | (go_simp; done) | (go_simp; with_reducible rfl)
          try simp only [Act.put, List.setIfInBounds_toArray, List.set_cons_zero, List.set_cons_succ]
          refine heldp_take (v := ?_) 16 0 rfl (by kernel_rfl) (.inl ⟨by rfl, ?_⟩) hHeld ?_
          rotate_left
          · intro w hSw; replace hSw : Sg705_0 w := hSw; rw [HSg705_0.out] at hSw; (try dsimp only at hSw); first | (go_simp; done) | (go_simp; with_reducible rfl)
          try simp only [Act.put, List.setIfInBounds_toArray, List.set_cons_zero, List.set_cons_succ]
          refine heldp_done (by kernel_rfl) ?_
          try clear hHeld
          clear HSg705_0
          try clear Sg705_0
          go_wp2
          go_ret
          exact ⟨rfl, F2.out.trans' HF.out⟩
        · refine heldp_op 13 0 rfl (by kernel_rfl) (fun K hK => ?_)
          rw [if_pos (by rfl)]
          have c13 := cell_of_block (j := 2) V.out rfl; go_simp
          clear c13
          refine hK.out _ _ ?_ (fun hHeld' => ?_)
          · show Sg705_0 _; rw [HSg705_0.out]; trivial
          clear hK K hHeld
          have hHeld := hHeld'
          clear hHeld'
          try simp only [Act.put, List.setIfInBounds_toArray, List.set_cons_zero, List.set_cons_succ]
          refine heldp_call 8 0 rfl (by kernel_rfl) (fun K hK => ?_)
          go_simp
          go_at_call 19
          refine (Hc2.out _).mono ?_
          rintro e wc ⟨rfl, hfd⟩
          try replace V := Lib.hid (hfd.heap V.out (fun f => f))
          replace HF := Lib.hid (HF.out.trans' hfd)
          clear hfd
          refine hK.out _ _ ?_ (fun hHeld' => ?_)
          · show Sg705_0 _; rw [HSg705_0.out]; trivial
          clear hK K hHeld
          have hHeld := hHeld'
          clear hHeld'
          try simp only [Act.put, List.setIfInBounds_toArray, List.set_cons_zero, List.set_cons_succ]
          refine heldp_take (v := ?_) 14 0 rfl (by kernel_rfl) (.inl ⟨by rfl, ?_⟩) hHeld ?_
          rotate_left
          · intro w hSw; replace hSw : Sg705_0 w := hSw; rw [HSg705_0.out] at hSw; (try dsimp only at hSw); first | (go_simp; done) | (go_simp; with_reducible rfl)
          try simp only [Act.put, List.setIfInBounds_toArray, List.set_cons_zero, List.set_cons_succ]
          refine heldp_take (v := ?_) 15 0 rfl (by kernel_rfl) (.inl ⟨by rfl, ?_⟩) hHeld ?_
          rotate_left
          · intro w hSw; replace hSw : Sg705_0 w := hSw; rw [HSg705_0.out] at hSw; (try dsimp only at hSw); first | (go_simp; done) | (go_simp; with_reducible rfl)
          try simp only [Act.put, List.setIfInBounds_toArray, List.set_cons_zero, List.set_cons_succ]
          refine heldp_take (v := ?_) 16 0 rfl (by kernel_rfl) (.inl ⟨by rfl, ?_⟩) hHeld ?_
          rotate_left
          · intro w hSw; replace hSw : Sg705_0 w := hSw; rw [HSg705_0.out] at hSw; (try dsimp only at hSw); first | (go_simp; done) | (go_simp; with_reducible rfl)
          try simp only [Act.put, List.setIfInBounds_toArray, List.set_cons_zero, List.set_cons_succ]
          refine heldp_done (by kernel_rfl) ?_
          try clear hHeld
          clear HSg705_0
          try clear Sg705_0
          go_wp2
          go_ret
          exact ⟨rfl, F2.out.trans' HF.out⟩
theorem vecLimits_row (a b : Int) (w : World) (hG : Gl w) (ha : (Lit.int .u8 a).wf = true) (hb : (Lit.int .u8 b).wf = true) :
    Calls Tryd.prog 6 #[.int .u8 a, .int .u8 b] w fun e w' => e = .returned (.bool true) ∧ Below w.heap.size w w' := by
  refine (limits_any a b w hG (bounds_u8 ha).1 (bounds_u8 ha).2 (bounds_u8 hb).1 (bounds_u8 hb).2).mono ?_
  rintro e w' ⟨he, hf⟩
  exact ⟨he, hf.below⟩
end Go.Proofs.YtdepenibifbcpaaDoor
