/- The reference's maps: AddSpan. -/
import Derived.Test.YtkdcldnbdhfobaaDoorMpR
import Derived.Test.YtkdcldnbdhfobaaDoorMp2
namespace Go.Proofs.YtkdcldnbdhfobaaDoor
open Go.RowKit Go.Shelf Go.XL
set_option linter.unusedVariables false
set_option linter.unusedSimpArgs false
attribute [local go_sem] Oper.semAt_some
set_option maxRecDepth 100000 in
set_option maxHeartbeats 4000000 in
theorem ref_addspan (v : Value) (m : Mp) (f n : Int) (w : World) (h : MpAt w v m) (hm : m.length ≤ 100000) :
    Calls Tryd.prog 13 #[v, .int .i64 f, .int .i64 n] w fun e w' => ∃ v', e = .returned (.tuple #[v', .int .i64 (madd m f n).2]) ∧ Ow w w' 60 2 v' (madd m f n).1.length (mpCells (madd m f n).1) := by
  obtain ⟨ao, cap, rfl, hcap, hmx⟩ := h.cap
  obtain ⟨r, hr⟩ : ∃ r, m ++ [(f, n)] = r := ⟨_, rfl⟩
  have hrc : mpCells r = mpCells m ++ [.int .i64 f, .int .i64 n] := by rw [← hr, mpCells_app]; rfl
  have hrl : r.length = m.length + 1 := by rw [← hr]; simp
  have hma : (madd m f n = (r, 0) ∧ mcheck r = 0) ∨ (madd m f n = ([], 1) ∧ mcheck r = 1) := by
    unfold madd
    rw [hr]
    rcases mcheck_two r with hz | hz
    · exact .inl ⟨if_pos hz, hz⟩
    · exact .inr ⟨if_neg (by omega), hz⟩
  obtain ⟨q, hq⟩ : ∃ q, madd m f n = q := ⟨_, rfl⟩
  rw [hq] at hma ⊢
  have Hma := Lib.hid hma
  clear hq
  have Hrc := Lib.hid hrc
  have Hrl := Lib.hid hrl
  have H : Hid (Rd w 2 (.slice ao m.length cap) m.length (mpCells m)) := Lib.hid h
  have Hone1 := Lib.hid (mpCells_one m)
  clear h hrc hrl hr hma
  generalize m.length = L at *
  obtain ⟨j0, hj0, jz0, jz1, jz2⟩ := info_parts (show (Tryd.prog.info? 60).map (fun i => (i.zero, i.size, i.bytes)) = some (some (.agg #[.int .i64 0, .int .i64 0]), 2, 16) by kernel_rfl)
  have hE := Lib.hid (ow_empty w 60 2)
  go_enter Tryd.func13, Tryd.ntmps13
  go_wp2_with (at_builtin; refine wpList_append_all (w.alloc (.cells #[] 60)) rfl _ _ 25 rfl 60 j0 _ 2 16 Tryd.underlying25 hj0 jz0 jz1 jz2 rfl (by decide) _ _ _ rfl hE.out.sl _ _ _ rfl (H.out.fr hE.out.fr (fun _ _ _ f => f)) Hone1.out (by unfold maxLen; omega) (by omega) ?_)
  intro ao1 cap1 w1 hs1 hf1 ho1 _
  have hO0 := hE.out.app hs1 hf1 (by simpa using ho1)
  try simp only [Nat.zero_add, List.nil_append] at hO0
  have hlf : Fr no w1 (w1.alloc (.cells #[.int .i64 f, .int .i64 n] 60)) := (Fr.refl no w1).alloc _
  have HO := Lib.hid (hO0.step hlf)
  have Hlit := Lib.hid (mp_lit1 w1 60 f n)
  have hone : ∀ u ∈ [Value.int .i64 f, Value.int .i64 n], u.oneCell' = true := fun u hu => by
    simp at hu
    rcases hu with rfl | rfl <;> rfl
  have Hone := Lib.hid hone
  clear hO0 hlf hone hs1 hf1 ho1 hE H Hone1
  go_wp2_with (at_builtin; refine wpList_append_all (w1.alloc (.cells #[.int .i64 f, .int .i64 n] 60)) rfl _ _ 25 rfl 60 j0 _ 2 16 Tryd.underlying25 hj0 jz0 jz1 jz2 rfl (by decide) _ _ _ rfl HO.out.sl _ _ _ rfl Hlit.out Hone.out (by unfold maxLen; omega) (by omega) ?_)
  intro ao2 cap2 w2 hs2 hf2 ho2 _
  have hO2 := HO.out.app hs2 hf2 (by simpa using ho2)
  rw [← Hrc.out] at hO2
  have HO2 := Lib.hid hO2
  have hck := ref_checkmap (.slice ao2 (L + 1) cap2) r w2 (by unfold MpAt; rw [Hrl.out]; exact hO2.rd)
  have Hck := Lib.hid hck
  clear hs2 hf2 ho2 hO2 HO Hlit hck
  go_wp2_with fail
  refine Hck.out.mono ?_
  rintro e w3 ⟨rfl, hf3⟩
  have HO3 := Lib.hid (HO2.out.step hf3)
  clear Hck HO2 hf3
  rcases Hma.out with ⟨rfl, hz⟩ | ⟨rfl, hz⟩
  · have hz3 : (mcheck r != 0) = false := by rw [hz]; rfl
    rw [hz]
    clear Hma hz hz3
    go_wp2
    go_ret2
    exact ⟨.slice ao2 (L + 1) cap2, rfl, by rw [Hrl.out]; exact HO3.out⟩
  · rw [hz]
    clear Hma hz
    go_wp2
    go_ret2
    exact ⟨.slice none 0 0, rfl, Ow.nil HO3.out.fr _ _⟩
end Go.Proofs.YtkdcldnbdhfobaaDoor
