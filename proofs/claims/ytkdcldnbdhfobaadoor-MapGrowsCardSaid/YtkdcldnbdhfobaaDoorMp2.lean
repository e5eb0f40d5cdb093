/- Package stripe: Add, Text; slices.Clone at maps. -/
import Derived.Test.YtkdcldnbdhfobaaDoorMp1
import Derived.Test.YtkdcldnbdhfobaaDoorDel
namespace Go.XL
open Go.RowKit Go.Shelf
set_option linter.unusedVariables false
set_option linter.unusedSimpArgs false
theorem mp_lit1 (w : World) (E : TypeId) (f n : Int) : Rd (w.alloc (.cells #[.int .i64 f, .int .i64 n] E)) 2 (.slice (some ⟨w.heap.size, 0, none⟩) 1 1) 1 [.int .i64 f, .int .i64 n] := by
  refine ⟨by simp, _, 1, rfl, Nat.le_refl _, by simp [maxLen], by simp, fun h0 => ⟨w.heap.size, 0, rfl, fun j u hj => ?_⟩⟩
  exact cell_of_block (World.alloc_heap_new w (.cells #[.int .i64 f, .int .i64 n] E)) (by simpa using hj)
theorem mpCells_one (m : Mp) : ∀ u ∈ mpCells m, u.oneCell' = true := by
  intro u hu
  obtain ⟨x, _, hu⟩ := List.mem_flatMap.1 hu
  simp at hu
  rcases hu with rfl | rfl <;> rfl
def madd (m : Mp) (f n : Int) : Mp × Int := if mcheck (m ++ [(f, n)]) = 0 then (m ++ [(f, n)], 0) else ([], 1)
end Go.XL
namespace Go.Proofs.YtkdcldnbdhfobaaDoor
open Go.RowKit Go.Shelf Go.XL
set_option linter.unusedVariables false
set_option linter.unusedSimpArgs false
attribute [local go_sem] Oper.semAt_some
set_option maxHeartbeats 400000 in
theorem clone_map (v : Value) (n : Nat) (xs : List Value) (w : World) (h : Rd w 2 v n xs) (h1x : ∀ u ∈ xs, u.oneCell' = true) (hn : n * 16 ≤ 140737488355328) :
    Calls Tryd.prog 24 #[v] w fun e w' => ∃ ao' cap', e = .returned (.slice ao' n cap') ∧ Ow w w' 48 2 (.slice ao' n cap') n xs := by
  obtain ⟨ao, cap, rfl, hcap, hm⟩ := h.cap
  have h1 := @Lib.run_eql_slice_nil Tryd.prog
  cases ao with
  | none =>
    have h0 : n = 0 := by
      obtain ⟨_, ao, cap', he, _, _, hz, _⟩ := h
      cases he
      have := hz rfl
      omega
    subst h0
    obtain rfl : xs = [] := List.eq_nil_of_length_eq_zero (by simpa using h.1)
    clear h1x
    go_enter Tryd.func24, Tryd.ntmps24
    go_wp2
    go_ret
    exact ⟨none, 0, rfl, Ow.nil (Fr.refl _ _) _ _⟩
  | some a =>
    obtain ⟨i0, hi, hz0, hz1, hz2⟩ := info_parts (show (Tryd.prog.info? 48).map (fun i => (i.zero, i.size, i.bytes)) = some (some (.agg #[.int .i64 0, .int .i64 0]), 2, 16) by kernel_rfl)
    have H := Lib.hid h
    have H1x := Lib.hid h1x
    clear h h1x
    have hf : Fr no w (w.alloc (.cells #[] 48)) := (Fr.refl _ w).alloc _
    have hs0 : Sl (w.alloc (.cells #[] 48)) 48 2 (.slice (some ⟨w.heap.size, 0, none⟩) 0 0) 0 [] := ⟨by simp, _, 0, rfl, Nat.le_refl _, by simp [maxLen], ⟨by simp, fun a h => by cases h; simp⟩, fun h => absurd h (Nat.lt_irrefl _)⟩
    have Hs0 := Lib.hid hs0
    clear hs0
    go_enter Tryd.func24, Tryd.ntmps24
    go_wp2_with (at_builtin; refine wpList_append_all (w.alloc (.cells #[] 48)) rfl _ _ 23 rfl 48 i0 (.agg #[.int .i64 0, .int .i64 0]) 2 16 Tryd.underlying23 hi hz0 hz1 hz2 rfl (by decide) _ _ _ rfl Hs0.out _ _ _ rfl (H.out.fr hf (fun _ _ _ f => f)) H1x.out (by unfold maxLen; omega) (by omega) ?_)
    intro ao' cap' w' hs' hfr hor hkb
    have Hs' := Lib.hid hs'
    have Hor := Lib.hid hor
    clear hs' hor h1
    go_wp2
    go_ret
    refine ⟨ao', cap', rfl, by simpa using Hs'.out, hf.trans hfr (fun k hk e => ?_), fun g hg => ?_⟩
    · simp [Value.ownBlock] at e; omega
    · rcases Hor.out with e | e
      · rw [e] at hg; simp [Value.ownBlock] at hg; omega
      · have := e g hg; omega

set_option maxRecDepth 100000 in
set_option maxHeartbeats 4000000 in
theorem m_add (v : Value) (m : Mp) (f n : Int) (w : World) (h : MpAt w v m) (hm : m.length ≤ 100000) :
    Calls Tryd.prog 12 #[v, .int .i64 f, .int .i64 n] w fun e w' => ∃ v', e = .returned (.tuple #[v', .int .i64 (madd m f n).2]) ∧ Ow w w' 48 2 v' (madd m f n).1.length (mpCells (madd m f n).1) := by
  obtain ⟨ao, cap, rfl, hcap, hmx⟩ := h.cap
  have hcl := clone_map _ _ _ _ h (mpCells_one m) (by omega)
  have Hcl := Lib.hid hcl
  obtain ⟨r, hr⟩ : ∃ r, m ++ [(f, n)] = r := ⟨_, rfl⟩
  have hrc : mpCells r = mpCells m ++ [.int .i64 f, .int .i64 n] := by rw [← hr, mpCells_app]; rfl
  have hrl : r.length = m.length + 1 := by rw [← hr]; simp
  have hma : madd m f n = if mcheck r = 0 then (r, 0) else ([], 1) := by unfold madd; rw [hr]
  rw [hma]
  have Hrc := Lib.hid hrc
  have Hrl := Lib.hid hrl
  clear hcl h hrc hrl hr hma
  generalize m.length = L at *
  obtain ⟨j0, hj0, jz0, jz1, jz2⟩ := info_parts (show (Tryd.prog.info? 48).map (fun i => (i.zero, i.size, i.bytes)) = some (some (.agg #[.int .i64 0, .int .i64 0]), 2, 16) by kernel_rfl)
  go_enter Tryd.func12, Tryd.ntmps12
  go_wp2_with fail
  refine Hcl.out.mono ?_
  rintro e w1 ⟨ao1, cap1, rfl, hO⟩
  clear Hcl
  have hlf : Fr no w1 (w1.alloc (.cells #[.int .i64 f, .int .i64 n] 48)) := (Fr.refl no w1).alloc _
  have HO := Lib.hid (hO.step hlf)
  have Hlit := Lib.hid (mp_lit1 w1 48 f n)
  have hone : ∀ u ∈ [Value.int .i64 f, Value.int .i64 n], u.oneCell' = true := fun u hu => by
    simp at hu
    rcases hu with rfl | rfl <;> rfl
  have Hone := Lib.hid hone
  clear hO hlf hone
  go_wp2_with (at_builtin; refine wpList_append_all (w1.alloc (.cells #[.int .i64 f, .int .i64 n] 48)) rfl _ _ 23 rfl 48 j0 _ 2 16 Tryd.underlying23 hj0 jz0 jz1 jz2 rfl (by decide) _ _ _ rfl HO.out.sl _ _ _ rfl Hlit.out Hone.out (by unfold maxLen; omega) (by omega) ?_)
  intro ao2 cap2 w2 hs2 hf2 ho2 _
  have hO2 := HO.out.app hs2 hf2 (by simpa using ho2)
  rw [← Hrc.out] at hO2
  have HO2 := Lib.hid hO2
  have hck := m_check (.slice ao2 (L + 1) cap2) r w2 (by unfold MpAt; rw [Hrl.out]; exact hO2.rd)
  have Hck := Lib.hid hck
  clear hs2 hf2 ho2 hO2 HO Hlit hck
  go_wp2_with fail
  refine Hck.out.mono ?_
  rintro e w3 ⟨rfl, hf3⟩
  have HO3 := Lib.hid (HO2.out.step hf3)
  clear Hck HO2 hf3
  rcases mcheck_two r with hz | hz
  · have Hz := Lib.hid hz
    rw [hz]
    clear hz
    go_wp2
    go_ret2
    refine ⟨.slice ao2 (L + 1) cap2, ?_, ?_⟩
    · rfl
    · rw [Hrl.out]; exact HO3.out
  · have Hz : Hid (¬ mcheck r = 0) := Lib.hid (by rw [hz]; decide)
    rw [hz]
    clear hz
    go_wp2
    go_ret2
    refine ⟨.slice none 0 0, ?_, ?_⟩
    · rfl
    · exact Ow.nil HO3.out.fr _ _
end Go.Proofs.YtkdcldnbdhfobaaDoor
