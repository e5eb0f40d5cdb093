/- The laws' known, for tables. -/
import Derived.Test.YtkhjdhdgomndoaaTabK
namespace Go.Proofs.Ytkhjdhdgomndoaa
open Go.RowKit Go.Shelf Go.XL
set_option linter.unusedVariables false
set_option linter.unusedSimpArgs false
attribute [local go_sem] Oper.semAt_some

set_option maxRecDepth 100000 in
set_option maxHeartbeats 4000000 in
theorem known_any (w : World) : Calls Try.prog 7 #[] w fun e w' => e = .returned (.bool true) ∧ Fr no w w' := by
  go_enter Try.func7, Try.ntmps7
  go_wp2_with fail
  refine (tab_new 2 w (by decide) (by decide)).mono ?_
  rintro e w1 ⟨ao1, cap1, rfl, hT1, hf1⟩
  have T1 := Lib.hid hT1
  have F1 := Lib.hid hf1
  clear hT1 hf1
  go_wp2_with fail
  have l1 := rd_lit w1 3 [.int .i64 3, .int .i64 1] (by decide)
  have hn := tab_note (.slice ao1 2 cap1) (.slice (some ⟨w1.heap.size, 0, none⟩) 2 2) (List.replicate 2 []) 0 [3, 1] (w1.alloc (.cells #[.int .i64 3, .int .i64 1] 3)) (T1.out.fr ((Fr.refl no w1).alloc _)) l1 (by decide) ⟨by decide, by decide⟩ (by decide) (by decide)
  rw [show tjoined (List.replicate 2 []) 0 [3, 1] = [[3, 1], []] by decide] at hn
  refine hn.mono ?_
  clear hn l1
  rintro e w2 ⟨ao2, cap2, rfl, hT2, hf2⟩
  have T2 : Hid (Tab w2 (.slice ao2 2 cap2) [[3, 1], []]) := Lib.hid hT2
  have F2 : Hid (Fr no w w2) := Lib.hid (F1.out.trans' (((Fr.refl no w1).alloc _).trans' hf2))
  clear hT2 hf2 T1 F1
  go_wp2_with fail
  refine (tab_new 2 w2 (by decide) (by decide)).mono ?_
  rintro e w3 ⟨ao3, cap3, rfl, hT3, hf3⟩
  have T3 := Lib.hid hT3
  have T2 := Lib.hid (T2.out.fr hf3)
  have F3 := Lib.hid (F2.out.trans' hf3)
  clear hT3 hf3 F2
  go_wp2_with fail
  have l1 := rd_lit w3 3 [.int .i64 2, .int .i64 4] (by decide)
  have hn := tab_note (.slice ao3 2 cap3) (.slice (some ⟨w3.heap.size, 0, none⟩) 2 2) (List.replicate 2 []) 1 [2, 4] (w3.alloc (.cells #[.int .i64 2, .int .i64 4] 3)) (T3.out.fr ((Fr.refl no w3).alloc _)) l1 (by decide) ⟨by decide, by decide⟩ (by decide) (by decide)
  rw [show tjoined (List.replicate 2 []) 1 [2, 4] = [[], [2, 4]] by decide] at hn
  refine hn.mono ?_
  clear hn l1
  rintro e w4 ⟨ao4, cap4, rfl, hT4, hf4⟩
  have T4 : Hid (Tab w4 (.slice ao4 2 cap4) [[], [2, 4]]) := Lib.hid hT4
  have T2 := Lib.hid (T2.out.fr (((Fr.refl no w3).alloc _).trans' hf4))
  have F4 : Hid (Fr no w w4) := Lib.hid (F3.out.trans' (((Fr.refl no w3).alloc _).trans' hf4))
  clear hT4 hf4 T3 F3
  go_wp2_with fail
  refine (tab_merge _ _ [[3, 1], []] [[], [2, 4]] w4 T2.out T4.out rfl (by decide) ⟨by decide, by decide⟩ ⟨by decide, by decide⟩).mono ?_
  rintro e w5 ⟨r5, rfl, hf5, hr5⟩
  obtain ⟨hT5, ao5, cap5, rfl⟩ := hr5 (by decide)
  rw [show tmerge [[3, 1], []] 0 [[], [2, 4]] = [[3, 1], [2, 4]] by decide] at hT5
  have e0 : tbad [[], [2, 4]] (([[], [2, 4]] : List (List Int)).length : Nat) = 0 := by decide
  rw [e0]
  have T5 : Hid (Tab w5 (.slice ao5 2 cap5) [[3, 1], [2, 4]]) := Lib.hid hT5
  have T2 := Lib.hid (T2.out.fr hf5)
  have F5 := Lib.hid (F4.out.trans' hf5)
  clear hT5 hf5 hr5 e0 T4 F4
  go_wp2_with fail
  have hb := tab_note_bad (.slice ao2 2 cap2) (.slice none 0 0) [[3, 1], []] 2 [] w5 T2.out (Rd.zero _ _) (by decide)
  rw [show tnote [[3, 1], []] 2 [] = 1 by decide] at hb
  refine hb.mono ?_
  clear hb
  rintro e w6 ⟨rfl, hf6⟩
  have T2 := Lib.hid (T2.out.fr hf6)
  have T5 := Lib.hid (T5.out.fr hf6)
  have F6 := Lib.hid (F5.out.trans' hf6)
  clear hf6 F5
  go_wp2_with fail
  refine (tab_merge_bad (.slice ao2 2 cap2) (.slice none 0 0) [[3, 1], []] [] w6 T2.out ⟨[], Rd.zero _ _, fun i u xs h => by simp at h⟩ (by decide)).mono ?_
  rintro e w7 ⟨rfl, hf7⟩
  have T2 := Lib.hid (T2.out.fr hf7)
  have T5 := Lib.hid (T5.out.fr hf7)
  have F7 := Lib.hid (F6.out.trans' hf7)
  clear hf7 F6
  go_wp2_with fail
  refine (rows_any ao5 2 cap5 w7).mono ?_
  rintro e w8 ⟨rfl, hw8⟩
  have hf8 : Fr no w7 w8 := by rw [← hw8]; exact (Fr.refl no w7).alloc _
  have hc8 : w8.cell? ⟨w7.heap.size, 0, none⟩ = some (.slice ao5 2 cap5) := by rw [← hw8]; exact cell_of_block (World.alloc_heap_new w7 _) rfl
  have T2 := Lib.hid (T2.out.fr hf8)
  have T5 := Lib.hid (T5.out.fr hf8)
  have F8 := Lib.hid (F7.out.trans' hf8)
  have C8 := Lib.hid hc8
  clear hf8 F7 hw8 hc8
  go_wp2_with fail
  obtain ⟨vs5, hvs5⟩ := T5.out
  refine (law_rows w7.heap.size ao5 cap5 2 vs5 9 w8 C8.out hvs5.rd (fun u hu => ?_) (by decide) (by decide)).mono ?_
  · obtain ⟨i, hi⟩ := List.getElem?_of_mem hu
    have hil := (List.getElem?_eq_some_iff.1 hi).1
    obtain ⟨ao, cap, rfl, _⟩ := (hvs5.row i u _ hi (List.getElem?_eq_getElem (by rw [← hvs5.len]; exact hil))).cap
    exact ⟨_, _, _, rfl⟩
  clear hvs5
  rintro e w9 ⟨bo, bc, rfl, hf9⟩
  have T2 := Lib.hid (T2.out.fr hf9)
  have T5 := Lib.hid (T5.out.fr hf9)
  have F9 := Lib.hid (F8.out.trans' hf9)
  clear hf9 F8 C8
  go_wp2_with fail
  refine (tab_all _ _ w9 T5.out ⟨by decide, by decide⟩).mono ?_
  rw [show tall [] 0 [[3, 1], [2, 4]] = [2, 1] by decide]
  rintro e w10 ⟨ao10, cap10, rfl, hI10, hf10⟩
  have T2 := Lib.hid (T2.out.fr hf10)
  have T5 := Lib.hid (T5.out.fr hf10)
  have F10 := Lib.hid (F9.out.trans' hf10)
  have I10 := Lib.hid hI10
  clear hf10 F9 hI10
  go_wp2_with fail
  have hf11 := (Fr.refl no w10).alloc (.cells #[.int .i64 2, .int .i64 1] 3)
  refine (law_ints _ _ [2, 1] [2, 1] _ (I10.out.fr hf11 (fun _ _ _ f => f)) (rd_lit w10 3 [.int .i64 2, .int .i64 1] (by decide))).mono ?_
  rw [show decide (([2, 1] : List Int) = [2, 1]) = true by decide]
  rintro e w11 ⟨rfl, hf11'⟩
  have T2 := Lib.hid (T2.out.fr (hf11.trans' hf11'))
  have T5 := Lib.hid (T5.out.fr (hf11.trans' hf11'))
  have F11 := Lib.hid (F10.out.trans' (hf11.trans' hf11'))
  clear hf11 hf11' F10 I10
  go_wp2_with fail
  refine (tab_row (.slice ao5 2 cap5) [[3, 1], [2, 4]] 1 [2, 4] w11 T5.out rfl (by decide)).mono ?_
  rintro e w12 ⟨ao12, cap12, rfl, hM12⟩
  have T2 := Lib.hid (T2.out.fr hM12.fr)
  have T5 := Lib.hid (T5.out.fr hM12.fr)
  have F12 := Lib.hid (F11.out.trans' hM12.fr)
  have M12 := Lib.hid hM12.rd
  clear hM12 F11
  go_wp2_with fail
  have hf13 := (Fr.refl no w12).alloc (.cells #[.int .i64 2, .int .i64 4] 3)
  refine (law_ints _ _ [2, 4] [2, 4] _ (M12.out.fr hf13 (fun _ _ _ f => f)) (rd_lit w12 3 [.int .i64 2, .int .i64 4] (by decide))).mono ?_
  rw [show decide (([2, 4] : List Int) = [2, 4]) = true by decide]
  rintro e w13 ⟨rfl, hf13'⟩
  have T2 := Lib.hid (T2.out.fr (hf13.trans' hf13'))
  have T5 := Lib.hid (T5.out.fr (hf13.trans' hf13'))
  have F13 := Lib.hid (F12.out.trans' (hf13.trans' hf13'))
  clear hf13 hf13' F12 M12
  go_wp2_with fail
  refine (tab_row_none (.slice ao5 2 cap5) [[3, 1], [2, 4]] 7 w13 T5.out (by decide)).mono ?_
  rintro e w' ⟨rfl, rfl⟩
  go_wp2_with fail
  refine (tab_check (.slice ao5 2 cap5) [[3, 1], [2, 4]] 2 w13 T5.out).mono ?_
  rw [show tcheck [[3, 1], [2, 4]] 2 = 0 by decide]
  rintro e w14 ⟨rfl, hf14⟩
  have T2 := Lib.hid (T2.out.fr hf14)
  have T5 := Lib.hid (T5.out.fr hf14)
  have F14 := Lib.hid (F13.out.trans' hf14)
  clear hf14 F13
  go_wp2_with fail
  refine (tab_check (.slice ao5 2 cap5) [[3, 1], [2, 4]] 3 w14 T5.out).mono ?_
  rw [show tcheck [[3, 1], [2, 4]] 3 = 1 by decide]
  rintro e w15 ⟨rfl, hf15⟩
  have T2 := Lib.hid (T2.out.fr hf15)
  have T5 := Lib.hid (T5.out.fr hf15)
  have F15 := Lib.hid (F14.out.trans' hf15)
  clear hf15 F14
  go_wp2_with fail
  refine (tab_same (.slice ao5 2 cap5) (.slice ao5 2 cap5) [[3, 1], [2, 4]] [[3, 1], [2, 4]] w15 T5.out T5.out).mono ?_
  rw [show tsame [[3, 1], [2, 4]] [[3, 1], [2, 4]] = true by decide]
  rintro e w' ⟨rfl, rfl⟩
  go_wp2_with fail
  refine (tab_same (.slice ao5 2 cap5) (.slice ao2 2 cap2) [[3, 1], [2, 4]] [[3, 1], []] w15 T5.out T2.out).mono ?_
  rw [show tsame [[3, 1], [2, 4]] [[3, 1], []] = false by decide]
  rintro e w' ⟨rfl, rfl⟩
  go_wp2
  go_ret
  exact ⟨rfl, F15.out⟩
end Go.Proofs.Ytkhjdhdgomndoaa
