/- Laws of the token: slots that are the same; the document's With, May. -/
import Derived.Test.YtdddgfienicaaaaTokS
namespace Go.Proofs.Ytdddgfienicaaaa
open Go.RowKit Go.Shelf Go.XL
set_option linter.unusedVariables false
set_option linter.unusedSimpArgs false
attribute [local go_sem] Oper.semAt_some

set_option maxRecDepth 100000 in
set_option maxHeartbeats 4000000 in
theorem lSameSlots (v1 v2 : Value) (l : List (Int × Dr)) (w : World) (h1 : Rd w 7 v1 l.length (slCells l)) (h2 : Rd w 7 v2 l.length (slCells l)) (hd : ∀ x ∈ l, DrOk w x.2) :
    Calls Try.prog 21 #[v1, v2] w fun e w' => e = .returned (.bool true) ∧ Fr no w w' := by
  obtain ⟨a1, c1, rfl, _, _⟩ := h1.cap
  obtain ⟨a2, c2, rfl, _, _⟩ := h2.cap
  have H1 := Lib.hid h1
  have H2 := Lib.hid h2
  have Hd := Lib.hid hd
  clear h1 h2 hd
  generalize hm : l.length = n at *
  have Hm := Lib.hid hm
  clear hm
  go_enter Try.func21, Try.ntmps21
  go_wp2_with fail
  go_loopw [5] (fun iv wr => ∃ i : Nat, i ≤ n ∧ iv = .int .i64 i ∧ Hid (Fr no w wr)) (fun iv _ => n - (intOf iv).toNat)
  case atStart => exact ⟨0, Nat.zero_le _, rfl, Lib.hid (Fr.refl _ _)⟩
  case round =>
    obtain ⟨i, hi, rfl, hF⟩ := hrel
    generalize wr = W at *
    by_cases hlt : i < n
    · obtain ⟨y, hdk⟩ : ∃ x, l[i]? = some x := ⟨l[i]'(by rw [Hm.out]; exact hlt), by simp⟩
      have hdo := Rd.fr (Hd.out y (List.mem_of_getElem? hdk)) hF.out (fun _ _ _ f => f)
      obtain ⟨g, off, c', he, _, _, e0, e1, e2, e3, e4, e5, e6⟩ := sls_cells (w := W) (v := .slice a1 n c1) (l := l) (by rw [Hm.out]; exact H1.out.fr hF.out (fun _ _ _ f => f)) hdk
      rw [Hm.out] at he
      cases he
      obtain ⟨g2, off2, c2', he2, _, _, f0, f1, f2, f3, f4, f5, f6⟩ := sls_cells (w := W) (v := .slice a2 n c2) (l := l) (by rw [Hm.out]; exact H2.out.fr hF.out (fun _ _ _ f => f)) hdk
      rw [Hm.out] at he2
      cases he2
      obtain ⟨py, dt, ds, dq, dv, dep, dk, dx⟩ := y
      obtain ⟨dO, dc, hdv, _, _⟩ := Rd.cap hdo
      dsimp only at *
      subst hdv
      have Hsr := Lib.hid (fun (w' : World) (hf : Fr no W w') => lSameRec dt ds dq _ dep dk dx dt ds dq _ dep dk dx w' (Rd.fr hdo hf (fun _ _ _ f => f)) (Rd.fr hdo hf (fun _ _ _ f => f)))
      rw [sameR_self] at Hsr
      clear hdk hdo
      go_upto_region 6 with (fail)
      obtain ⟨Sg45_0, HSg45_0⟩ : ∃ S : World → Prop, Hid (S = (fun w' => w'.cell? ⟨g, off + i * 7, none⟩ = some (.int .i64 py) ∧ w'.cell? ⟨g, off + i * 7 + 1, none⟩ = some (.int .i64 dt) ∧ w'.cell? ⟨g, off + i * 7 + 2, none⟩ = some (.int .i64 ds) ∧ w'.cell? ⟨g, off + i * 7 + 3, none⟩ = some (.int .i64 dq) ∧ w'.cell? ⟨g, off + i * 7 + 4, none⟩ = some (.slice dO dep.length dc) ∧ w'.cell? ⟨g, off + i * 7 + 5, none⟩ = some (.string dk) ∧ w'.cell? ⟨g, off + i * 7 + 6, none⟩ = some (.string dx) ∧ w'.cell? ⟨g2, off2 + i * 7, none⟩ = some (.int .i64 py) ∧ w'.cell? ⟨g2, off2 + i * 7 + 1, none⟩ = some (.int .i64 dt) ∧ w'.cell? ⟨g2, off2 + i * 7 + 2, none⟩ = some (.int .i64 ds) ∧ w'.cell? ⟨g2, off2 + i * 7 + 3, none⟩ = some (.int .i64 dq) ∧ w'.cell? ⟨g2, off2 + i * 7 + 4, none⟩ = some (.slice dO dep.length dc) ∧ w'.cell? ⟨g2, off2 + i * 7 + 5, none⟩ = some (.string dk) ∧ w'.cell? ⟨g2, off2 + i * 7 + 6, none⟩ = some (.string dx))) := ⟨_, Lib.hid rfl⟩
      refine wp_heldp [] (pickS [Sg45_0]) (by kernel_rfl) ?_ (fun hHeld => ?_)
      · show Sg45_0 _; rw [HSg45_0.out]; exact ⟨e0, e1, e2, e3, e4, e5, e6, f0, f1, f2, f3, f4, f5, f6⟩
      obtain ⟨wc, hwc⟩ : ∃ x, W.drew = x := ⟨_, rfl⟩; rw [hwc] at hHeld; rw [hwc]; have HF : Hid (Fr no W wc) := (by rw [← hwc]; exact Lib.hid ((Fr.refl no W).drewN 1)); clear hwc
      refine heldp_take (v := ?_) 0 0 rfl (by kernel_rfl) (.inl ⟨by rfl, ?_⟩) hHeld ?_
      rotate_left
      · intro w hSw; replace hSw : Sg45_0 w := hSw; rw [HSg45_0.out] at hSw; (try dsimp only at hSw); first | (go_simp; done) | (go_simp; with_reducible rfl)
      try simp only [Act.put, List.setIfInBounds_toArray, List.set_cons_zero, List.set_cons_succ]
      refine heldp_take (v := ?_) 1 0 rfl (by kernel_rfl) (.inl ⟨by rfl, ?_⟩) hHeld ?_
      rotate_left
      · intro w hSw; replace hSw : Sg45_0 w := hSw; rw [HSg45_0.out] at hSw; (try dsimp only at hSw); first | (go_simp; done) | (go_simp; with_reducible rfl)
      try simp only [Act.put, List.setIfInBounds_toArray, List.set_cons_zero, List.set_cons_succ]
      refine heldp_take (v := ?_) 2 0 rfl (by kernel_rfl) (.inl ⟨by rfl, ?_⟩) hHeld ?_
      rotate_left
      · intro w hSw; replace hSw : Sg45_0 w := hSw; rw [HSg45_0.out] at hSw; (try dsimp only at hSw); first | (go_simp; done) | (go_simp; with_reducible rfl)
      try simp only [Act.put, List.setIfInBounds_toArray, List.set_cons_zero, List.set_cons_succ]
      refine heldp_take (v := ?_) 3 0 rfl (by kernel_rfl) (.inl ⟨by rfl, ?_⟩) hHeld ?_
      rotate_left
      · intro w hSw; replace hSw : Sg45_0 w := hSw; rw [HSg45_0.out] at hSw; (try dsimp only at hSw); first | (go_simp; done) | (go_simp; with_reducible rfl)
      try simp only [Act.put, List.setIfInBounds_toArray, List.set_cons_zero, List.set_cons_succ]
      refine heldp_take (v := ?_) 4 0 rfl (by kernel_rfl) (.inl ⟨by rfl, ?_⟩) hHeld ?_
      rotate_left
      · intro w hSw; replace hSw : Sg45_0 w := hSw; rw [HSg45_0.out] at hSw; (try dsimp only at hSw); first | (go_simp; done) | (go_simp; with_reducible rfl)
      try simp only [Act.put, List.setIfInBounds_toArray, List.set_cons_zero, List.set_cons_succ]
      refine heldp_take (v := ?_) 5 0 rfl (by kernel_rfl) (.inl ⟨by rfl, ?_⟩) hHeld ?_
      rotate_left
      · intro w hSw; replace hSw : Sg45_0 w := hSw; rw [HSg45_0.out] at hSw; (try dsimp only at hSw); first | (go_simp; done) | (go_simp; with_reducible rfl)
      try simp only [Act.put, List.setIfInBounds_toArray, List.set_cons_zero, List.set_cons_succ]
      refine heldp_take (v := ?_) 6 0 rfl (by kernel_rfl) (.inl ⟨by rfl, ?_⟩) hHeld ?_
      rotate_left
      · intro w hSw; replace hSw : Sg45_0 w := hSw; rw [HSg45_0.out] at hSw; (try dsimp only at hSw); first | (go_simp; done) | (go_simp; with_reducible rfl)
      try simp only [Act.put, List.setIfInBounds_toArray, List.set_cons_zero, List.set_cons_succ]
      refine heldp_take (v := ?_) 7 0 rfl (by kernel_rfl) (.inl ⟨by rfl, ?_⟩) hHeld ?_
      rotate_left
      · intro w hSw; replace hSw : Sg45_0 w := hSw; rw [HSg45_0.out] at hSw; (try dsimp only at hSw); first | (go_simp; done) | (go_simp; with_reducible rfl)
      try simp only [Act.put, List.setIfInBounds_toArray, List.set_cons_zero, List.set_cons_succ]
      refine heldp_take (v := ?_) 8 0 rfl (by kernel_rfl) (.inl ⟨by rfl, ?_⟩) hHeld ?_
      rotate_left
      · intro w hSw; replace hSw : Sg45_0 w := hSw; rw [HSg45_0.out] at hSw; (try dsimp only at hSw); first | (go_simp; done) | (go_simp; with_reducible rfl)
      try simp only [Act.put, List.setIfInBounds_toArray, List.set_cons_zero, List.set_cons_succ]
      refine heldp_take (v := ?_) 9 0 rfl (by kernel_rfl) (.inl ⟨by rfl, ?_⟩) hHeld ?_
      rotate_left
      · intro w hSw; replace hSw : Sg45_0 w := hSw; rw [HSg45_0.out] at hSw; (try dsimp only at hSw); first | (go_simp; done) | (go_simp; with_reducible rfl)
      try simp only [Act.put, List.setIfInBounds_toArray, List.set_cons_zero, List.set_cons_succ]
      refine heldp_take (v := ?_) 10 0 rfl (by kernel_rfl) (.inl ⟨by rfl, ?_⟩) hHeld ?_
      rotate_left
      · intro w hSw; replace hSw : Sg45_0 w := hSw; rw [HSg45_0.out] at hSw; (try dsimp only at hSw); first | (go_simp; done) | (go_simp; with_reducible rfl)
      try simp only [Act.put, List.setIfInBounds_toArray, List.set_cons_zero, List.set_cons_succ]
      refine heldp_take (v := ?_) 11 0 rfl (by kernel_rfl) (.inl ⟨by rfl, ?_⟩) hHeld ?_
      rotate_left
      · intro w hSw; replace hSw : Sg45_0 w := hSw; rw [HSg45_0.out] at hSw; (try dsimp only at hSw); first | (go_simp; done) | (go_simp; with_reducible rfl)
      try simp only [Act.put, List.setIfInBounds_toArray, List.set_cons_zero, List.set_cons_succ]
      refine heldp_take (v := ?_) 12 0 rfl (by kernel_rfl) (.inl ⟨by rfl, ?_⟩) hHeld ?_
      rotate_left
      · intro w hSw; replace hSw : Sg45_0 w := hSw; rw [HSg45_0.out] at hSw; (try dsimp only at hSw); first | (go_simp; done) | (go_simp; with_reducible rfl)
      try simp only [Act.put, List.setIfInBounds_toArray, List.set_cons_zero, List.set_cons_succ]
      refine heldp_take (v := ?_) 13 0 rfl (by kernel_rfl) (.inl ⟨by rfl, ?_⟩) hHeld ?_
      rotate_left
      · intro w hSw; replace hSw : Sg45_0 w := hSw; rw [HSg45_0.out] at hSw; (try dsimp only at hSw); first | (go_simp; done) | (go_simp; with_reducible rfl)
      try simp only [Act.put, List.setIfInBounds_toArray, List.set_cons_zero, List.set_cons_succ]
      refine heldp_take (v := ?_) 14 0 rfl (by kernel_rfl) (.inl ⟨by rfl, ?_⟩) hHeld ?_
      rotate_left
      · intro w hSw; replace hSw : Sg45_0 w := hSw; rw [HSg45_0.out] at hSw; (try dsimp only at hSw); first | (go_simp; done) | (go_simp; with_reducible rfl)
      try simp only [Act.put, List.setIfInBounds_toArray, List.set_cons_zero, List.set_cons_succ]
      refine heldp_take (v := ?_) 15 0 rfl (by kernel_rfl) (.inl ⟨by rfl, ?_⟩) hHeld ?_
      rotate_left
      · intro w hSw; replace hSw : Sg45_0 w := hSw; rw [HSg45_0.out] at hSw; (try dsimp only at hSw); first | (go_simp; done) | (go_simp; with_reducible rfl)
      try simp only [Act.put, List.setIfInBounds_toArray, List.set_cons_zero, List.set_cons_succ]
      refine heldp_take (v := ?_) 16 0 rfl (by kernel_rfl) (.inl ⟨by rfl, ?_⟩) hHeld ?_
      rotate_left
      · intro w hSw; replace hSw : Sg45_0 w := hSw; rw [HSg45_0.out] at hSw; (try dsimp only at hSw); first | (go_simp; done) | (go_simp; with_reducible rfl)
      try simp only [Act.put, List.setIfInBounds_toArray, List.set_cons_zero, List.set_cons_succ]
      refine heldp_take (v := ?_) 17 0 rfl (by kernel_rfl) (.inl ⟨by rfl, ?_⟩) hHeld ?_
      rotate_left
      · intro w hSw; replace hSw : Sg45_0 w := hSw; rw [HSg45_0.out] at hSw; (try dsimp only at hSw); first | (go_simp; done) | (go_simp; with_reducible rfl)
      try simp only [Act.put, List.setIfInBounds_toArray, List.set_cons_zero, List.set_cons_succ]
      refine heldp_take (v := ?_) 18 0 rfl (by kernel_rfl) (.inl ⟨by rfl, ?_⟩) hHeld ?_
      rotate_left
      · intro w hSw; replace hSw : Sg45_0 w := hSw; rw [HSg45_0.out] at hSw; (try dsimp only at hSw); first | (go_simp; done) | (go_simp; with_reducible rfl)
      try simp only [Act.put, List.setIfInBounds_toArray, List.set_cons_zero, List.set_cons_succ]
      refine heldp_take (v := ?_) 19 0 rfl (by kernel_rfl) (.inl ⟨by rfl, ?_⟩) hHeld ?_
      rotate_left
      · intro w hSw; replace hSw : Sg45_0 w := hSw; rw [HSg45_0.out] at hSw; (try dsimp only at hSw); first | (go_simp; done) | (go_simp; with_reducible rfl)
      try simp only [Act.put, List.setIfInBounds_toArray, List.set_cons_zero, List.set_cons_succ]
      refine heldp_take (v := ?_) 20 0 rfl (by kernel_rfl) (.inl ⟨by rfl, ?_⟩) hHeld ?_
      rotate_left
      · intro w hSw; replace hSw : Sg45_0 w := hSw; rw [HSg45_0.out] at hSw; (try dsimp only at hSw); first | (go_simp; done) | (go_simp; with_reducible rfl)
      try simp only [Act.put, List.setIfInBounds_toArray, List.set_cons_zero, List.set_cons_succ]
      refine heldp_take (v := ?_) 21 0 rfl (by kernel_rfl) (.inl ⟨by rfl, ?_⟩) hHeld ?_
      rotate_left
      · intro w hSw; replace hSw : Sg45_0 w := hSw; rw [HSg45_0.out] at hSw; (try dsimp only at hSw); first | (go_simp; done) | (go_simp; with_reducible rfl)
      try simp only [Act.put, List.setIfInBounds_toArray, List.set_cons_zero, List.set_cons_succ]
      refine heldp_take (v := ?_) 22 0 rfl (by kernel_rfl) (.inl ⟨by rfl, ?_⟩) hHeld ?_
      rotate_left
      · intro w hSw; replace hSw : Sg45_0 w := hSw; rw [HSg45_0.out] at hSw; (try dsimp only at hSw); first | (go_simp; done) | (go_simp; with_reducible rfl)
      try simp only [Act.put, List.setIfInBounds_toArray, List.set_cons_zero, List.set_cons_succ]
      refine heldp_take (v := ?_) 23 0 rfl (by kernel_rfl) (.inl ⟨by rfl, ?_⟩) hHeld ?_
      rotate_left
      · intro w hSw; replace hSw : Sg45_0 w := hSw; rw [HSg45_0.out] at hSw; (try dsimp only at hSw); first | (go_simp; done) | (go_simp; with_reducible rfl)
      try simp only [Act.put, List.setIfInBounds_toArray, List.set_cons_zero, List.set_cons_succ]
      refine heldp_take (v := ?_) 24 0 rfl (by kernel_rfl) (.inl ⟨by rfl, ?_⟩) hHeld ?_
      rotate_left
      · intro w hSw; replace hSw : Sg45_0 w := hSw; rw [HSg45_0.out] at hSw; (try dsimp only at hSw); first | (go_simp; done) | (go_simp; with_reducible rfl)
      try simp only [Act.put, List.setIfInBounds_toArray, List.set_cons_zero, List.set_cons_succ]
      refine heldp_take (v := ?_) 25 0 rfl (by kernel_rfl) (.inl ⟨by rfl, ?_⟩) hHeld ?_
      rotate_left
      · intro w hSw; replace hSw : Sg45_0 w := hSw; rw [HSg45_0.out] at hSw; (try dsimp only at hSw); first | (go_simp; done) | (go_simp; with_reducible rfl)
      try simp only [Act.put, List.setIfInBounds_toArray, List.set_cons_zero, List.set_cons_succ]
      refine heldp_take (v := ?_) 26 0 rfl (by kernel_rfl) (.inl ⟨by rfl, ?_⟩) hHeld ?_
      rotate_left
      · intro w hSw; replace hSw : Sg45_0 w := hSw; rw [HSg45_0.out] at hSw; (try dsimp only at hSw); first | (go_simp; done) | (go_simp; with_reducible rfl)
      try simp only [Act.put, List.setIfInBounds_toArray, List.set_cons_zero, List.set_cons_succ]
      refine heldp_take (v := ?_) 27 0 rfl (by kernel_rfl) (.inl ⟨by rfl, ?_⟩) hHeld ?_
      rotate_left
      · intro w hSw; replace hSw : Sg45_0 w := hSw; rw [HSg45_0.out] at hSw; (try dsimp only at hSw); first | (go_simp; done) | (go_simp; with_reducible rfl)
      try simp only [Act.put, List.setIfInBounds_toArray, List.set_cons_zero, List.set_cons_succ]
      refine heldp_take (v := ?_) 28 0 rfl (by kernel_rfl) (.inl ⟨by rfl, ?_⟩) hHeld ?_
      rotate_left
      · intro w hSw; replace hSw : Sg45_0 w := hSw; rw [HSg45_0.out] at hSw; (try dsimp only at hSw); first | (go_simp; done) | (go_simp; with_reducible rfl)
      try simp only [Act.put, List.setIfInBounds_toArray, List.set_cons_zero, List.set_cons_succ]
      refine heldp_take (v := ?_) 29 0 rfl (by kernel_rfl) (.inl ⟨by rfl, ?_⟩) hHeld ?_
      rotate_left
      · intro w hSw; replace hSw : Sg45_0 w := hSw; rw [HSg45_0.out] at hSw; (try dsimp only at hSw); first | (go_simp; done) | (go_simp; with_reducible rfl)
      try simp only [Act.put, List.setIfInBounds_toArray, List.set_cons_zero, List.set_cons_succ]
      refine heldp_take (v := ?_) 30 0 rfl (by kernel_rfl) (.inl ⟨by rfl, ?_⟩) hHeld ?_
      rotate_left
      · intro w hSw; replace hSw : Sg45_0 w := hSw; rw [HSg45_0.out] at hSw; (try dsimp only at hSw); first | (go_simp; done) | (go_simp; with_reducible rfl)
      try simp only [Act.put, List.setIfInBounds_toArray, List.set_cons_zero, List.set_cons_succ]
      refine heldp_take (v := ?_) 31 0 rfl (by kernel_rfl) (.inl ⟨by rfl, ?_⟩) hHeld ?_
      rotate_left
      · intro w hSw; replace hSw : Sg45_0 w := hSw; rw [HSg45_0.out] at hSw; (try dsimp only at hSw); first | (go_simp; done) | (go_simp; with_reducible rfl)
      try simp only [Act.put, List.setIfInBounds_toArray, List.set_cons_zero, List.set_cons_succ]
      refine heldp_take (v := ?_) 32 0 rfl (by kernel_rfl) (.inl ⟨by rfl, ?_⟩) hHeld ?_
      rotate_left
      · intro w hSw; replace hSw : Sg45_0 w := hSw; rw [HSg45_0.out] at hSw; (try dsimp only at hSw); first | (go_simp; done) | (go_simp; with_reducible rfl)
      try simp only [Act.put, List.setIfInBounds_toArray, List.set_cons_zero, List.set_cons_succ]
      refine heldp_take (v := ?_) 34 0 rfl (by kernel_rfl) (.inl ⟨by rfl, ?_⟩) hHeld ?_
      rotate_left
      · intro w hSw; replace hSw : Sg45_0 w := hSw; rw [HSg45_0.out] at hSw; (try dsimp only at hSw); first | (go_simp; done) | (go_simp; with_reducible rfl)
      try simp only [Act.put, List.setIfInBounds_toArray, List.set_cons_zero, List.set_cons_succ]
      refine heldp_take (v := ?_) 35 0 rfl (by kernel_rfl) (.inl ⟨by rfl, ?_⟩) hHeld ?_
      rotate_left
      · intro w hSw; replace hSw : Sg45_0 w := hSw; rw [HSg45_0.out] at hSw; (try dsimp only at hSw); first | (go_simp; done) | (go_simp; with_reducible rfl)
      try simp only [Act.put, List.setIfInBounds_toArray, List.set_cons_zero, List.set_cons_succ]
      refine heldp_take (v := ?_) 36 0 rfl (by kernel_rfl) (.inl ⟨by rfl, ?_⟩) hHeld ?_
      rotate_left
      · intro w hSw; replace hSw : Sg45_0 w := hSw; rw [HSg45_0.out] at hSw; (try dsimp only at hSw); first | (go_simp; done) | (go_simp; with_reducible rfl)
      try simp only [Act.put, List.setIfInBounds_toArray, List.set_cons_zero, List.set_cons_succ]
      refine heldp_take (v := ?_) 37 0 rfl (by kernel_rfl) (.inl ⟨by rfl, ?_⟩) hHeld ?_
      rotate_left
      · intro w hSw; replace hSw : Sg45_0 w := hSw; rw [HSg45_0.out] at hSw; (try dsimp only at hSw); first | (go_simp; done) | (go_simp; with_reducible rfl)
      try simp only [Act.put, List.setIfInBounds_toArray, List.set_cons_zero, List.set_cons_succ]
      refine heldp_take (v := ?_) 38 0 rfl (by kernel_rfl) (.inl ⟨by rfl, ?_⟩) hHeld ?_
      rotate_left
      · intro w hSw; replace hSw : Sg45_0 w := hSw; rw [HSg45_0.out] at hSw; (try dsimp only at hSw); first | (go_simp; done) | (go_simp; with_reducible rfl)
      try simp only [Act.put, List.setIfInBounds_toArray, List.set_cons_zero, List.set_cons_succ]
      refine heldp_take (v := ?_) 39 0 rfl (by kernel_rfl) (.inl ⟨by rfl, ?_⟩) hHeld ?_
      rotate_left
      · intro w hSw; replace hSw : Sg45_0 w := hSw; rw [HSg45_0.out] at hSw; (try dsimp only at hSw); first | (go_simp; done) | (go_simp; with_reducible rfl)
      try simp only [Act.put, List.setIfInBounds_toArray, List.set_cons_zero, List.set_cons_succ]
      refine heldp_call 33 0 rfl (by kernel_rfl) (fun K hK => ?_)
      go_simp
      go_at_call 28
      refine (l2Of _ _ _ _ _ _ _ wc).mono ?_
      rintro e wc ⟨rfl, hfd⟩
      replace HF := Lib.hid (HF.out.trans' hfd)
      clear hfd
      refine hK.out _ _ ?_ (fun hHeld' => ?_)
      · show Sg45_0 _; rw [HSg45_0.out]; have hq := HF.out; exact ⟨hq.cell e0 (fun f => f), hq.cell e1 (fun f => f), hq.cell e2 (fun f => f), hq.cell e3 (fun f => f), hq.cell e4 (fun f => f), hq.cell e5 (fun f => f), hq.cell e6 (fun f => f), hq.cell f0 (fun f => f), hq.cell f1 (fun f => f), hq.cell f2 (fun f => f), hq.cell f3 (fun f => f), hq.cell f4 (fun f => f), hq.cell f5 (fun f => f), hq.cell f6 (fun f => f)⟩
      clear hK K hHeld
      have hHeld := hHeld'
      clear hHeld'
      try simp only [Act.put, List.setIfInBounds_toArray, List.set_cons_zero, List.set_cons_succ]
      refine heldp_call 40 0 rfl (by kernel_rfl) (fun K hK => ?_)
      go_simp
      go_at_call 27
      refine (Hsr.out _ HF.out).mono ?_
      rintro e wc ⟨rfl, hfd⟩
      replace HF := Lib.hid (HF.out.trans' hfd)
      clear hfd
      refine hK.out _ _ ?_ (fun hHeld' => ?_)
      · show Sg45_0 _; rw [HSg45_0.out]; have hq := HF.out; exact ⟨hq.cell e0 (fun f => f), hq.cell e1 (fun f => f), hq.cell e2 (fun f => f), hq.cell e3 (fun f => f), hq.cell e4 (fun f => f), hq.cell e5 (fun f => f), hq.cell e6 (fun f => f), hq.cell f0 (fun f => f), hq.cell f1 (fun f => f), hq.cell f2 (fun f => f), hq.cell f3 (fun f => f), hq.cell f4 (fun f => f), hq.cell f5 (fun f => f), hq.cell f6 (fun f => f)⟩
      clear hK K hHeld
      have hHeld := hHeld'
      clear hHeld'
      try simp only [Act.put, List.setIfInBounds_toArray, List.set_cons_zero, List.set_cons_succ]
      refine heldp_take (v := ?_) 41 0 rfl (by kernel_rfl) (.inl ⟨by rfl, ?_⟩) hHeld ?_
      rotate_left
      · intro w hSw; replace hSw : Sg45_0 w := hSw; rw [HSg45_0.out] at hSw; (try dsimp only at hSw); first | (go_simp; done) | (go_simp; with_reducible rfl)
      try simp only [Act.put, List.setIfInBounds_toArray, List.set_cons_zero, List.set_cons_succ]
      refine heldp_take (v := ?_) 42 0 rfl (by kernel_rfl) (.inl ⟨by rfl, ?_⟩) hHeld ?_
      rotate_left
      · intro w hSw; replace hSw : Sg45_0 w := hSw; rw [HSg45_0.out] at hSw; (try dsimp only at hSw); first | (go_simp; done) | (go_simp; with_reducible rfl)
      try simp only [Act.put, List.setIfInBounds_toArray, List.set_cons_zero, List.set_cons_succ]
      refine heldp_done (by kernel_rfl) ?_
      try clear hHeld
      clear HSg45_0
      try clear Sg45_0
      clear e0 e1 e2 e3 e4 e5 e6 f0 f1 f2 f3 f4 f5 f6 Hsr
      have HF2 := Lib.hid (hF.out.trans' HF.out)
      go_wp2
      go_roundw
      case rel => exact ⟨i + 1, by omega, by go_num, HF2⟩
      case measure => simp [intOf]; omega
    · go_wp2
      go_ret
      exact ⟨rfl, hF.out⟩

set_option maxHeartbeats 4000000 in
theorem ref_with (v : Value) (xs : List Int) (i x : Int) (w : World) (h : IntsAt w v xs) (hn : xs.length ≤ 1000000) :
    Calls Try.prog 24 #[v, .int .i64 i, .int .i64 x] w fun e w' => ∃ v', e = .returned v' ∧ Made 3 w w' v' (vwith xs i x) := by
  obtain ⟨ao, cap, rfl, hcap, hm⟩ := h.cap
  have H : Hid (Rd w 1 (.slice ao xs.length cap) xs.length (xs.map (Value.int .i64))) := Lib.hid h
  clear h
  obtain ⟨i0, hi, hz0, hz1, hz2⟩ := info_parts Try.info3
  have hone : ∀ u ∈ xs.map (Value.int .i64), u.oneCell' = true := fun u hu => by obtain ⟨y, _, rfl⟩ := List.mem_map.1 hu; rfl
  have Hone := Lib.hid hone
  clear hone
  generalize hg : xs.length = L at *
  have Hg := Lib.hid hg
  clear hg
  have hE := Lib.hid (ow_empty w 3 1)
  go_enter Try.func24, Try.ntmps24
  go_wp2_with (at_builtin; refine wpList_append_all (w.alloc (.cells #[] 3)) rfl _ _ 22 rfl 3 i0 _ 1 8 Try.underlying22 hi hz0 hz1 hz2 rfl (by decide) _ _ _ rfl hE.out.sl _ _ _ rfl (H.out.fr hE.out.fr (fun _ _ _ f => f)) Hone.out (by unfold maxLen; omega) (by omega) ?_)
  intro ao1 cap1 w1 hs1 hf1 ho1 _
  have hO1 := hE.out.app hs1 hf1 (by simpa using ho1)
  have HO1 := Lib.hid hO1
  have hcap1 := hO1.cap
  obtain ⟨_, _, e, hcp1, hcm1⟩ := hcap1
  cases e
  clear hs1 hf1 ho1 hO1 hE H Hone
  by_cases h1 : i < 0
  · have hv : vwith xs i x = xs := by unfold vwith; rw [if_pos (by omega)]
    have Hv := Lib.hid hv
    clear hv
    go_wp2
    go_ret
    exact ⟨_, rfl, by rw [Hv.out]; unfold Made; rw [Hg.out]; exact HO1.out⟩
  · by_cases h2 : 63 < i
    · have hv : vwith xs i x = xs := by unfold vwith; rw [if_pos (by omega)]
      have Hv := Lib.hid hv
      clear hv
      go_wp2
      go_ret
      exact ⟨_, rfl, by rw [Hv.out]; unfold Made; rw [Hg.out]; exact HO1.out⟩
    · obtain ⟨k, rfl⟩ : ∃ k : Nat, i = k := ⟨i.toNat, by omega⟩
      have hv : vwith xs k x = (xs ++ List.replicate (k + 1 - xs.length) 0).set k x := by unfold vwith; rw [if_neg (by omega)]; simp
      have Hv := Lib.hid hv
      have hW : WithI w w1 (.slice ao1 L cap1) xs L k := ⟨0, Hg.out.symm, .inl rfl, by simpa using HO1.out⟩
      have HW := Lib.hid hW
      clear hv hW HO1
      have hk63 : (k : Int) ≤ 63 := by omega
      go_wp2_with fail
      go_loopw [7] (fun a wr => ∃ (n : Nat) (bo : Option Addr) (bc : Nat), a = .slice bo n bc ∧ n ≤ 1000100 ∧ WithI w wr (.slice bo n bc) xs n k) (fun a _ => k + 1 - vlen a)
      case atStart => exact ⟨L, ao1, cap1, rfl, by omega, HW.out⟩
      case round =>
        obtain ⟨n, bo, bc, rfl, hn1, hM⟩ := hrel
        obtain ⟨m, hm1, hm2, hO⟩ := hM
        have hcapn := hO.cap
        have HO := Lib.hid hO
        have Hm1 := Lib.hid hm1
        have Hm2 := Lib.hid hm2
        obtain ⟨_, _, e, hcapn, hcapm⟩ := hcapn
        cases e
        clear hO HW hm1 hm2
        by_cases hlt : (n : Int) ≤ k
        · go_wp2_with (at_builtin; refine wpList_append_one wr (.int .i64 0) 3 rfl _ _ 22 rfl 3 i0 (.int .i64 0) 8 Try.underlying22 hi hz0 hz1 hz2 rfl _ n _ rfl HO.out.sl rfl rfl (by unfold maxLen; omega) (by omega) ?_)
          intro ao2 cap2 w2 hs2 hfr2 hor2 hkb2
          have hW : WithI w w2 (.slice ao2 (n + 1) cap2) xs (n + 1) k := ⟨m + 1, by rw [Hm1.out]; omega, .inr (by omega), HO.out.app (by have e : List.map (Value.int .i64) (xs ++ List.replicate (m + 1) 0) = xs.map (Value.int .i64) ++ (List.replicate m (Value.int .i64 0) ++ [Value.int .i64 0]) := (by simp [List.replicate_succ']); rw [e]; simpa using hs2) hfr2 hor2⟩
          have HW := Lib.hid hW
          clear hW hs2 hfr2 hor2 hkb2
          go_wp2
          go_roundw
          case rel => exact ⟨n + 1, ao2, cap2, rfl, by omega, HW.out⟩
          case measure => simp [vlen]; omega
        · obtain ⟨g, off, c, he, _, _, hg0, hx, hfz⟩ := HO.out.form (by omega)
          cases he
          have hlen := HO.out.sl.1
          obtain ⟨y, hy⟩ : ∃ y, ((xs ++ List.replicate m 0).map (Value.int .i64))[k]? = some y := ⟨_, List.getElem?_eq_getElem (by omega)⟩
          have hc := hx k y hy
          have hf := hfz (off + k)
          clear hx hfz hy hlen
          go_wp2
          go_ret
          refine ⟨_, rfl, ?_⟩
          rw [Hv.out]
          have := HO.out.set k (by omega) (.int .i64 x)
          have e1 : m = k + 1 - xs.length := by have := Hm1.out; have := Hm2.out; have := Hg.out; omega
          have e2 : ((xs ++ List.replicate (k + 1 - xs.length) 0).set k x).length = n := by have := Hm1.out; have := Hg.out; simp; omega
          unfold Made
          rw [e2, List.map_set, ← e1]
          exact this

set_option maxHeartbeats 4000000 in
theorem ref_may (own next : Int) (sv lv : Value) (seen : List Int) (d : Dr) (w : World) (hs : IntsAt w sv seen) (hd : DrOk w d) (ho : SeenOk seen) (lo : Option Addr) (ll lc : Nat) (hlv : lv = .slice lo ll lc) :
    Calls Try.prog 15 #[tkV own next sv lv, d.v] w fun e w' => e = .returned (.bool (dmay own seen d)) ∧ Fr no w w' := by
  obtain ⟨t, s, q, dv, dep, key, val⟩ := d
  obtain ⟨so, sc, rfl, _, _⟩ := hs.cap
  obtain ⟨dO, dc, hdv, _, _⟩ := Rd.cap hd
  dsimp only at hdv
  subst hdv
  subst hlv
  obtain ⟨w3, hw3⟩ : ∃ w3, ((w.alloc (.cells #[.int .i64 own, .int .i64 next, .slice so seen.length sc, .slice lo ll lc] 34)).alloc (.cells #[.int .i64 t, .int .i64 s, .int .i64 q, .slice dO dep.length dc, .string key, .string val] 46)).alloc (.cells #[.int .i64 s, .int .i64 q, .slice dO dep.length dc, .string key, .string val] 44) = w3 := ⟨_, rfl⟩
  have hb0 : w3.heap[w.heap.size]? = some (.cells #[.int .i64 own, .int .i64 next, .slice so seen.length sc, .slice lo ll lc] 34 (0, 0)) := by rw [← hw3]; simp only [alloc_get, World.size_alloc]; rw [if_neg (by omega), if_neg (by omega)]; simp
  have hb2 : w3.heap[w.heap.size + 1 + 1]? = some (.cells #[.int .i64 s, .int .i64 q, .slice dO dep.length dc, .string key, .string val] 44 (0, 0)) := by rw [← hw3]; simp only [alloc_get, World.size_alloc]; simp
  have hf3 : Fr no w w3 := by rw [← hw3]; exact (((Fr.refl no w).alloc _).alloc _).alloc _
  have hg := vget_ok ho s
  obtain ⟨G, hG⟩ : ∃ G, vget seen s = G := ⟨_, rfl⟩
  have Hget := Lib.hid (fun (w' : World) (hf : Fr no w w') => ref_get _ seen s w' (hs.fr hf (fun _ _ _ f => f)))
  have Hcov := Lib.hid (fun (w' : World) (hf : Fr no w w') => ref_covers _ _ seen dep w' (hs.fr hf (fun _ _ _ f => f)) (Rd.fr hd hf (fun _ _ _ f => f)))
  have hm : ∀ b, (if s = own then decide (q = 0) && decide (G < 1048576) else decide (q = G + 1)) = b → Hid (dmay own seen ⟨t, s, q, .slice dO dep.length dc, dep, key, val⟩ = (b && vcov seen dep)) := fun b h => Lib.hid (by rw [dmay]; dsimp only; rw [hG, h])
  rw [hG] at hg Hget
  have HB0 := Lib.hid hb0
  have HB2 := Lib.hid hb2
  have HF3 := Lib.hid hf3
  have HW3 := Lib.hid hw3
  have hadd : IntKind.i64.wrap (G + 1) = G + 1 := IntWalk.i64_in _ (by omega)
  generalize seen.length = sn at *
  generalize dep.length = dn at *
  clear hs hd ho hb0 hb2 hf3 hw3 hG
  unfold tkV Dr.v
  go_enter Try.func15, Try.ntmps15
  go_upto_region 2 with (fail)
  rw [HW3.out]
  clear HW3
  have t0 := cell_of_block (j := 0) HB0.out rfl
  have t2 := cell_of_block (j := 2) HB0.out rfl
  have r0 := cell_of_block (j := 0) HB2.out rfl
  have r1 := cell_of_block (j := 1) HB2.out rfl
  have r2 := cell_of_block (j := 2) HB2.out rfl
  by_cases hso : s = own
  · subst hso
    by_cases hq : q = 0
    · by_cases hl : G < 1048576
      · have R := hm true (by simp [hq, hl])
        clear hm
        subst hq
        go_wp2_with fail
        refine (Hget.out _ HF3.out).mono ?_
        rintro e w' ⟨rfl, rfl⟩
        go_wp2_with fail
        refine (Hcov.out _ HF3.out).mono ?_
        rintro e w' ⟨rfl, rfl⟩
        go_wp2
        go_ret
        rw [R.out]
        exact ⟨by simp, HF3.out⟩
      · have R := hm false (by simp [hq, hl])
        clear hm
        subst hq
        go_wp2_with fail
        refine (Hget.out _ HF3.out).mono ?_
        rintro e w' ⟨rfl, rfl⟩
        go_wp2
        go_ret
        rw [R.out]
        exact ⟨by simp, HF3.out⟩
    · have R := hm false (by simp [hq])
      clear hm
      go_wp2
      go_ret
      rw [R.out]
      exact ⟨by simp, HF3.out⟩
  · by_cases hq : q = G + 1
    · have R := hm true (by simp [hso, hq])
      clear hm
      go_upto_region 4 with (fail)
      obtain ⟨Sg412_0, HSg412_0⟩ : ∃ S : World → Prop, Hid (S = (fun w' => w'.cell? ⟨w.heap.size, 2, none⟩ = some (.slice so sn sc) ∧ w'.cell? ⟨w.heap.size + 1 + 1, 0, none⟩ = some (.int .i64 s) ∧ w'.cell? ⟨w.heap.size + 1 + 1, 1, none⟩ = some (.int .i64 q) ∧ w'.cell? ⟨w.heap.size + 1 + 1, 2, none⟩ = some (.slice dO dn dc))) := ⟨_, Lib.hid rfl⟩
      refine wp_heldp [] (pickS [Sg412_0]) (by kernel_rfl) ?_ (fun hHeld => ?_)
      · show Sg412_0 _; rw [HSg412_0.out]; exact ⟨t2, r0, r1, r2⟩
      have D2 : Hid (Fr no w w3.drew) := Lib.hid (HF3.out.drewN 1)
      refine heldp_take (v := ?_) 0 0 rfl (by kernel_rfl) (.inl ⟨by rfl, ?_⟩) hHeld ?_
      rotate_left
      · intro w hSw; replace hSw : Sg412_0 w := hSw; rw [HSg412_0.out] at hSw; (try dsimp only at hSw); first | (go_simp; done) | (go_simp; with_reducible rfl)
      try simp only [Act.put, List.setIfInBounds_toArray, List.set_cons_zero, List.set_cons_succ]
      refine heldp_take (v := ?_) 1 0 rfl (by kernel_rfl) (.inl ⟨by rfl, ?_⟩) hHeld ?_
      rotate_left
      · intro w hSw; replace hSw : Sg412_0 w := hSw; rw [HSg412_0.out] at hSw; (try dsimp only at hSw); first | (go_simp; done) | (go_simp; with_reducible rfl)
      try simp only [Act.put, List.setIfInBounds_toArray, List.set_cons_zero, List.set_cons_succ]
      refine heldp_take (v := ?_) 2 0 rfl (by kernel_rfl) (.inl ⟨by rfl, ?_⟩) hHeld ?_
      rotate_left
      · intro w hSw; replace hSw : Sg412_0 w := hSw; rw [HSg412_0.out] at hSw; (try dsimp only at hSw); first | (go_simp; done) | (go_simp; with_reducible rfl)
      try simp only [Act.put, List.setIfInBounds_toArray, List.set_cons_zero, List.set_cons_succ]
      refine heldp_take (v := ?_) 3 0 rfl (by kernel_rfl) (.inl ⟨by rfl, ?_⟩) hHeld ?_
      rotate_left
      · intro w hSw; replace hSw : Sg412_0 w := hSw; rw [HSg412_0.out] at hSw; (try dsimp only at hSw); first | (go_simp; done) | (go_simp; with_reducible rfl)
      try simp only [Act.put, List.setIfInBounds_toArray, List.set_cons_zero, List.set_cons_succ]
      refine heldp_take (v := ?_) 4 0 rfl (by kernel_rfl) (.inl ⟨by rfl, ?_⟩) hHeld ?_
      rotate_left
      · intro w hSw; replace hSw : Sg412_0 w := hSw; rw [HSg412_0.out] at hSw; (try dsimp only at hSw); first | (go_simp; done) | (go_simp; with_reducible rfl)
      try simp only [Act.put, List.setIfInBounds_toArray, List.set_cons_zero, List.set_cons_succ]
      refine heldp_take (v := ?_) 5 0 rfl (by kernel_rfl) (.inl ⟨by rfl, ?_⟩) hHeld ?_
      rotate_left
      · intro w hSw; replace hSw : Sg412_0 w := hSw; rw [HSg412_0.out] at hSw; (try dsimp only at hSw); first | (go_simp; done) | (go_simp; with_reducible rfl)
      try simp only [Act.put, List.setIfInBounds_toArray, List.set_cons_zero, List.set_cons_succ]
      refine heldp_call 6 0 rfl (by kernel_rfl) (fun K hK => ?_)
      go_simp
      go_at_call 22
      refine (Hget.out _ D2.out).mono ?_
      rintro e w' ⟨rfl, rfl⟩
      refine hK.out _ _ ?_ (fun hHeld' => ?_)
      · show Sg412_0 _; rw [HSg412_0.out]; exact ⟨t2, r0, r1, r2⟩
      clear hK K hHeld
      have hHeld := hHeld'
      clear hHeld'
      try simp only [Act.put, List.setIfInBounds_toArray, List.set_cons_zero, List.set_cons_succ]
      refine heldp_take (v := ?_) 7 0 rfl (by kernel_rfl) (.inl ⟨by rfl, ?_⟩) hHeld ?_
      rotate_left
      · intro w hSw; replace hSw : Sg412_0 w := hSw; rw [HSg412_0.out] at hSw; (try dsimp only at hSw); first | (go_simp; done) | (go_simp; with_reducible rfl)
      try simp only [Act.put, List.setIfInBounds_toArray, List.set_cons_zero, List.set_cons_succ]
      refine heldp_take (v := ?_) 8 0 rfl (by kernel_rfl) (.inl ⟨by rfl, ?_⟩) hHeld ?_
      rotate_left
      · intro w hSw; replace hSw : Sg412_0 w := hSw; rw [HSg412_0.out] at hSw; (try dsimp only at hSw); first | (go_simp; done) | (go_simp; with_reducible rfl)
      try simp only [Act.put, List.setIfInBounds_toArray, List.set_cons_zero, List.set_cons_succ]
      refine heldp_take (v := ?_) 9 0 rfl (by kernel_rfl) (.inl ⟨by rfl, ?_⟩) hHeld ?_
      rotate_left
      · intro w hSw; replace hSw : Sg412_0 w := hSw; rw [HSg412_0.out] at hSw; (try dsimp only at hSw); first | (go_simp; done) | (go_simp; with_reducible rfl)
      try simp only [Act.put, List.setIfInBounds_toArray, List.set_cons_zero, List.set_cons_succ]
      refine heldp_take (v := ?_) 10 0 rfl (by kernel_rfl) (.inl ⟨by rfl, ?_⟩) hHeld ?_
      rotate_left
      · intro w hSw; replace hSw : Sg412_0 w := hSw; rw [HSg412_0.out] at hSw; (try dsimp only at hSw); first | (go_simp; done) | (go_simp; with_reducible rfl)
      try simp only [Act.put, List.setIfInBounds_toArray, List.set_cons_zero, List.set_cons_succ]
      refine heldp_take (v := ?_) 11 0 rfl (by kernel_rfl) (.inl ⟨by rfl, ?_⟩) hHeld ?_
      rotate_left
      · intro w hSw; replace hSw : Sg412_0 w := hSw; rw [HSg412_0.out] at hSw; (try dsimp only at hSw); first | (go_simp; done) | (go_simp; with_reducible rfl)
      try simp only [Act.put, List.setIfInBounds_toArray, List.set_cons_zero, List.set_cons_succ]
      refine heldp_take (v := ?_) 12 0 rfl (by kernel_rfl) (.inl ⟨by rfl, ?_⟩) hHeld ?_
      rotate_left
      · intro w hSw; replace hSw : Sg412_0 w := hSw; rw [HSg412_0.out] at hSw; (try dsimp only at hSw); first | (go_simp; done) | (go_simp; with_reducible rfl)
      try simp only [Act.put, List.setIfInBounds_toArray, List.set_cons_zero, List.set_cons_succ]
      refine heldp_take (v := ?_) 13 0 rfl (by kernel_rfl) (.inl ⟨by rfl, ?_⟩) hHeld ?_
      rotate_left
      · intro w hSw; replace hSw : Sg412_0 w := hSw; rw [HSg412_0.out] at hSw; (try dsimp only at hSw); first | (go_simp; done) | (go_simp; with_reducible rfl)
      try simp only [Act.put, List.setIfInBounds_toArray, List.set_cons_zero, List.set_cons_succ]
      refine heldp_call 14 0 rfl (by kernel_rfl) (fun K hK => ?_)
      go_simp
      go_at_call 23
      refine (Hcov.out _ D2.out).mono ?_
      rintro e w' ⟨rfl, rfl⟩
      refine hK.out _ _ ?_ (fun hHeld' => ?_)
      · show Sg412_0 _; rw [HSg412_0.out]; exact ⟨t2, r0, r1, r2⟩
      clear hK K hHeld
      have hHeld := hHeld'
      clear hHeld'
      try simp only [Act.put, List.setIfInBounds_toArray, List.set_cons_zero, List.set_cons_succ]
      refine heldp_take (v := ?_) 15 0 rfl (by kernel_rfl) (.inl ⟨by rfl, ?_⟩) hHeld ?_
      rotate_left
      · intro w hSw; replace hSw : Sg412_0 w := hSw; rw [HSg412_0.out] at hSw; (try dsimp only at hSw); first | (go_simp; done) | (go_simp; with_reducible rfl)
      try simp only [Act.put, List.setIfInBounds_toArray, List.set_cons_zero, List.set_cons_succ]
      refine heldp_take (v := ?_) 16 0 rfl (by kernel_rfl) (.inl ⟨by rfl, ?_⟩) hHeld ?_
      rotate_left
      · intro w hSw; replace hSw : Sg412_0 w := hSw; rw [HSg412_0.out] at hSw; (try dsimp only at hSw); first | (go_simp; done) | (go_simp; with_reducible rfl)
      try simp only [Act.put, List.setIfInBounds_toArray, List.set_cons_zero, List.set_cons_succ]
      refine heldp_done (by kernel_rfl) ?_
      try clear hHeld
      clear HSg412_0
      try clear Sg412_0
      go_wp2
      go_ret
      rw [← hq, R.out]
      exact ⟨by simp, HF3.out.drewN 1⟩
    · have R := hm false (by simp [hso, hq])
      clear hm
      have hq2 : (q == G + 1) = false := by simpa using hq
      go_upto_region 4 with (fail)
      obtain ⟨Sg510_0, HSg510_0⟩ : ∃ S : World → Prop, Hid (S = (fun w' => w'.cell? ⟨w.heap.size, 2, none⟩ = some (.slice so sn sc) ∧ w'.cell? ⟨w.heap.size + 1 + 1, 0, none⟩ = some (.int .i64 s) ∧ w'.cell? ⟨w.heap.size + 1 + 1, 1, none⟩ = some (.int .i64 q) ∧ w'.cell? ⟨w.heap.size + 1 + 1, 2, none⟩ = some (.slice dO dn dc))) := ⟨_, Lib.hid rfl⟩
      refine wp_heldp [] (pickS [Sg510_0]) (by kernel_rfl) ?_ (fun hHeld => ?_)
      · show Sg510_0 _; rw [HSg510_0.out]; exact ⟨t2, r0, r1, r2⟩
      have D2 : Hid (Fr no w w3.drew) := Lib.hid (HF3.out.drewN 1)
      refine heldp_take (v := ?_) 0 0 rfl (by kernel_rfl) (.inl ⟨by rfl, ?_⟩) hHeld ?_
      rotate_left
      · intro w hSw; replace hSw : Sg510_0 w := hSw; rw [HSg510_0.out] at hSw; (try dsimp only at hSw); first | (go_simp; done) | (go_simp; with_reducible rfl)
      try simp only [Act.put, List.setIfInBounds_toArray, List.set_cons_zero, List.set_cons_succ]
      refine heldp_take (v := ?_) 1 0 rfl (by kernel_rfl) (.inl ⟨by rfl, ?_⟩) hHeld ?_
      rotate_left
      · intro w hSw; replace hSw : Sg510_0 w := hSw; rw [HSg510_0.out] at hSw; (try dsimp only at hSw); first | (go_simp; done) | (go_simp; with_reducible rfl)
      try simp only [Act.put, List.setIfInBounds_toArray, List.set_cons_zero, List.set_cons_succ]
      refine heldp_take (v := ?_) 2 0 rfl (by kernel_rfl) (.inl ⟨by rfl, ?_⟩) hHeld ?_
      rotate_left
      · intro w hSw; replace hSw : Sg510_0 w := hSw; rw [HSg510_0.out] at hSw; (try dsimp only at hSw); first | (go_simp; done) | (go_simp; with_reducible rfl)
      try simp only [Act.put, List.setIfInBounds_toArray, List.set_cons_zero, List.set_cons_succ]
      refine heldp_take (v := ?_) 3 0 rfl (by kernel_rfl) (.inl ⟨by rfl, ?_⟩) hHeld ?_
      rotate_left
      · intro w hSw; replace hSw : Sg510_0 w := hSw; rw [HSg510_0.out] at hSw; (try dsimp only at hSw); first | (go_simp; done) | (go_simp; with_reducible rfl)
      try simp only [Act.put, List.setIfInBounds_toArray, List.set_cons_zero, List.set_cons_succ]
      refine heldp_take (v := ?_) 4 0 rfl (by kernel_rfl) (.inl ⟨by rfl, ?_⟩) hHeld ?_
      rotate_left
      · intro w hSw; replace hSw : Sg510_0 w := hSw; rw [HSg510_0.out] at hSw; (try dsimp only at hSw); first | (go_simp; done) | (go_simp; with_reducible rfl)
      try simp only [Act.put, List.setIfInBounds_toArray, List.set_cons_zero, List.set_cons_succ]
      refine heldp_take (v := ?_) 5 0 rfl (by kernel_rfl) (.inl ⟨by rfl, ?_⟩) hHeld ?_
      rotate_left
      · intro w hSw; replace hSw : Sg510_0 w := hSw; rw [HSg510_0.out] at hSw; (try dsimp only at hSw); first | (go_simp; done) | (go_simp; with_reducible rfl)
      try simp only [Act.put, List.setIfInBounds_toArray, List.set_cons_zero, List.set_cons_succ]
      refine heldp_call 6 0 rfl (by kernel_rfl) (fun K hK => ?_)
      go_simp
      go_at_call 22
      refine (Hget.out _ D2.out).mono ?_
      rintro e w' ⟨rfl, rfl⟩
      refine hK.out _ _ ?_ (fun hHeld' => ?_)
      · show Sg510_0 _; rw [HSg510_0.out]; exact ⟨t2, r0, r1, r2⟩
      clear hK K hHeld
      have hHeld := hHeld'
      clear hHeld'
      try simp only [Act.put, List.setIfInBounds_toArray, List.set_cons_zero, List.set_cons_succ]
      refine heldp_take (v := ?_) 7 0 rfl (by kernel_rfl) (.inl ⟨by rfl, ?_⟩) hHeld ?_
      rotate_left
      · intro w hSw; replace hSw : Sg510_0 w := hSw; rw [HSg510_0.out] at hSw; (try dsimp only at hSw); first | (go_simp; done) | (go_simp; with_reducible rfl)
      try simp only [Act.put, List.setIfInBounds_toArray, List.set_cons_zero, List.set_cons_succ]
      refine heldp_take (v := (.bool false)) 8 0 rfl (by kernel_rfl) (.inl ⟨by rfl, ?_⟩) hHeld ?_
      · intro w hSw; replace hSw : Sg510_0 w := hSw; rw [HSg510_0.out] at hSw; (try dsimp only at hSw); first | (go_simp; done) | (go_simp; with_reducible rfl)
      try simp only [Act.put, List.setIfInBounds_toArray, List.set_cons_zero, List.set_cons_succ]
      refine heldp_take (v := ?_) 9 0 rfl (by kernel_rfl) (.inl ⟨by rfl, ?_⟩) hHeld ?_
      rotate_left
      · intro w hSw; replace hSw : Sg510_0 w := hSw; rw [HSg510_0.out] at hSw; (try dsimp only at hSw); first | (go_simp; done) | (go_simp; with_reducible rfl)
      try simp only [Act.put, List.setIfInBounds_toArray, List.set_cons_zero, List.set_cons_succ]
      refine heldp_take 10 0 rfl (by kernel_rfl) (.inr ⟨by rfl, rfl⟩) hHeld ?_
      try simp only [Act.put, List.setIfInBounds_toArray, List.set_cons_zero, List.set_cons_succ]
      refine heldp_take 11 0 rfl (by kernel_rfl) (.inr ⟨by rfl, rfl⟩) hHeld ?_
      try simp only [Act.put, List.setIfInBounds_toArray, List.set_cons_zero, List.set_cons_succ]
      refine heldp_take 12 0 rfl (by kernel_rfl) (.inr ⟨by rfl, rfl⟩) hHeld ?_
      try simp only [Act.put, List.setIfInBounds_toArray, List.set_cons_zero, List.set_cons_succ]
      refine heldp_take 13 0 rfl (by kernel_rfl) (.inr ⟨by rfl, rfl⟩) hHeld ?_
      try simp only [Act.put, List.setIfInBounds_toArray, List.set_cons_zero, List.set_cons_succ]
      refine heldp_take 14 0 rfl (by kernel_rfl) (.inr ⟨by rfl, rfl⟩) hHeld ?_
      try simp only [Act.put, List.setIfInBounds_toArray, List.set_cons_zero, List.set_cons_succ]
      refine heldp_take (v := ?_) 15 0 rfl (by kernel_rfl) (.inl ⟨by rfl, ?_⟩) hHeld ?_
      rotate_left
      · intro w hSw; replace hSw : Sg510_0 w := hSw; rw [HSg510_0.out] at hSw; (try dsimp only at hSw); first | (go_simp; done) | (go_simp; with_reducible rfl)
      try simp only [Act.put, List.setIfInBounds_toArray, List.set_cons_zero, List.set_cons_succ]
      refine heldp_take (v := ?_) 16 0 rfl (by kernel_rfl) (.inl ⟨by rfl, ?_⟩) hHeld ?_
      rotate_left
      · intro w hSw; replace hSw : Sg510_0 w := hSw; rw [HSg510_0.out] at hSw; (try dsimp only at hSw); first | (go_simp; done) | (go_simp; with_reducible rfl)
      try simp only [Act.put, List.setIfInBounds_toArray, List.set_cons_zero, List.set_cons_succ]
      refine heldp_done (by kernel_rfl) ?_
      try clear hHeld
      clear HSg510_0
      try clear Sg510_0
      go_wp2
      go_ret
      rw [R.out]
      exact ⟨by simp, HF3.out.drewN 1⟩
end Go.Proofs.Ytdddgfienicaaaa
