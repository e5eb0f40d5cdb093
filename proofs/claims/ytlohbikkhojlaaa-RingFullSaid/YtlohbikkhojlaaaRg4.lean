/- Package ring: Token. -/
import Derived.Test.YtlohbikkhojlaaaRg3
import Derived.Test.YtlohbikkhojlaaaVec
namespace Go.Proofs.Ytlohbikkhojlaaa
open Go.RowKit Go.Shelf Go.XL
set_option linter.unusedVariables false
set_option linter.unusedSimpArgs false
attribute [local go_sem] Oper.semAt_some
theorem rgtok_res (tmps : Array Value) (g : Nat) (w : World) (u0 u1 u2 u3 : Value) (h2 : tmps[2]? = some (.pointer (some ⟨g, 0, none⟩)))
    (hb : w.heap[g]? = some (.cells #[u0, u1, u2, u3] 43 (0, 0))) : (results Try.f14 tmps).run Try.prog w = .ok (.agg #[u0, u1, u2, u3]) w := by
  have y0 : w.cell? ⟨g, 0, none⟩ = some u0 := cell_of_block hb rfl
  have y1 : w.cell? ⟨g, 1, none⟩ = some u1 := cell_of_block hb rfl
  have y2 : w.cell? ⟨g, 2, none⟩ = some u2 := cell_of_block hb rfl
  have y3 : w.cell? ⟨g, 3, none⟩ = some u3 := cell_of_block hb rfl
  simp [results, Try.results14, go_sem, h2, y0, y1, y2, y3]
set_option maxRecDepth 10000 in
set_option maxHeartbeats 4000000 in
theorem ring_token (p : Nat) (r : Rg) (qv sv lv : Value) (vs : List Value) (w : World) (h : RgT w p r qv sv lv vs) (hs : r.seen.length ≤ 1000) (hl : r.late.length ≤ 1000) :
    Calls Try.prog 14 #[.pointer (some ⟨p, 0, none⟩)] w fun e w' => ∃ so' sc' lo' lc', e = .returned (.agg #[.int .i64 r.own, .int .i64 r.next, .slice so' r.seen.length sc', .slice lo' r.late.length lc']) ∧
      IntsAt w' (.slice so' r.seen.length sc') r.seen ∧ DrsAt w' (.slice lo' r.late.length lc') r.late ∧ Fr no w w' := by
  obtain ⟨so, sc, rfl, hsc, hsm⟩ := h.seen.rd.cap
  obtain ⟨lo, lc, rfl, hlc, hlm⟩ := h.late.rd.cap
  have hvc := fun W (hW : Fr no w W) => vec_clone (.slice so r.seen.length sc) r.seen W ((h.seen.fr hW (fun _ _ f => f.elim)).rd) (by omega)
  have hdc := fun W (hW : Fr no w W) => clone_drafts (.slice lo r.late.length lc) r.late.length (drCells r.late) W ((h.late.fr hW (fun _ _ f => f.elim)).rd) (drCells_one (fun d hd => h.drok (.inl hd))) (by omega)
  obtain ⟨sn, hsn⟩ : ∃ n, r.seen.length = n := ⟨_, rfl⟩
  obtain ⟨ln, hln⟩ : ∃ n, r.late.length = n := ⟨_, rfl⟩
  rw [hsn] at h hvc ⊢
  rw [hln] at h hdc ⊢
  have Hvc := Lib.hid hvc
  have Hdc := Lib.hid hdc
  have HR := Lib.hid h
  have Hsn := Lib.hid hsn
  have Hln := Lib.hid hln
  clear hvc hdc h hsn hln hsc hlc hs hl
  obtain ⟨w1, hw1⟩ : ∃ U, w.alloc (.cells #[.int .i64 0, .int .i64 0, .slice none 0 0, .slice none 0 0] 43) = U := ⟨_, rfl⟩
  obtain ⟨g1, hg1⟩ : ∃ g, w.heap.size = g := ⟨_, rfl⟩
  have hb1 : w1.heap[g1]? = some (.cells #[.int .i64 0, .int .i64 0, .slice none 0 0, .slice none 0 0] 43 (0, 0)) := by rw [← hw1, ← hg1]; exact World.alloc_heap_new _ _
  have hf1 : Fr no w w1 := by rw [← hw1]; exact (Fr.refl no w).alloc _
  obtain ⟨w2, hw2⟩ : ∃ U, w1.alloc (.cells #[.int .i64 r.own, .int .i64 r.next, .slice so sn sc, .slice lo ln lc] 43) = U := ⟨_, rfl⟩
  obtain ⟨g2, hg2⟩ : ∃ g, w1.heap.size = g := ⟨_, rfl⟩
  have hb2 : w2.heap[g2]? = some (.cells #[.int .i64 r.own, .int .i64 r.next, .slice so sn sc, .slice lo ln lc] 43 (0, 0)) := by rw [← hw2, ← hg2]; exact World.alloc_heap_new _ _
  have hf2 : Fr no w1 w2 := by rw [← hw2]; exact (Fr.refl no w1).alloc _
  have hr1 := HR.out.fr0 hf1
  have c3 : w1.cell? ⟨p, 3, none⟩ = some (.int .i64 r.own) := cell_of_block hr1.cell rfl
  have c4 : w1.cell? ⟨p, 4, none⟩ = some (.int .i64 r.next) := cell_of_block hr1.cell rfl
  have c5 : w1.cell? ⟨p, 5, none⟩ = some (.slice so sn sc) := cell_of_block hr1.cell rfl
  have c6 : w1.cell? ⟨p, 6, none⟩ = some (.slice lo ln lc) := cell_of_block hr1.cell rfl
  have hgw : w.heap.size ≤ g1 ∧ g1 < g2 := ⟨by omega, by have := (Array.getElem?_eq_some_iff.1 hb1).1; omega⟩
  have HW1 := Lib.hid hw1
  have HW2 := Lib.hid hw2
  have F := Lib.hid (hf1.trans' hf2)
  have B1 := Lib.hid (hf2.heap hb1 (fun f => f))
  have B2 := Lib.hid hb2
  have HG := Lib.hid hgw
  clear hw1 hw2 hf1 hf2 hb1 hb2 hr1 hgw
  go_enter Try.func14, Try.ntmps14
  go_upto_region 1 with (fail)
  rw [HW1.out]
  try rw [hg1]
  go_upto_region 2 with (fail)
  rw [HW2.out]
  try rw [hg2]
  clear c3 c4 c5 c6 HW1 HW2 hg1 hg2
  have t2 : w2.cell? ⟨g2, 2, none⟩ = some (.slice so sn sc) := cell_of_block B2.out rfl
  have t3 : w2.cell? ⟨g2, 3, none⟩ = some (.slice lo ln lc) := cell_of_block B2.out rfl
  obtain ⟨Sg65_0, HSg65_0⟩ : ∃ S : World → Prop, Hid (S = (fun w' => w'.cell? ⟨g2, 2, none⟩ = some (.slice so sn sc) ∧ w'.cell? ⟨g2, 3, none⟩ = some (.slice lo ln lc))) := ⟨_, Lib.hid rfl⟩
  obtain ⟨Sg65_1, HSg65_1⟩ : ∃ S : World → Prop, Hid (S = (fun _ => True)) := ⟨_, Lib.hid rfl⟩
  obtain ⟨Sg65_2, HSg65_2⟩ : ∃ S : World → Prop, Hid (S = (fun _ => True)) := ⟨_, Lib.hid rfl⟩
  refine wp_heldp [7, 9] (pickS [Sg65_0, Sg65_1, Sg65_2]) (by kernel_rfl) ?_ (fun hHeld => ?_)
  · show Sg65_0 _; rw [HSg65_0.out]; exact ⟨t2, t3⟩
  obtain ⟨wc, hwc⟩ : ∃ x, w2.drew = x := ⟨_, rfl⟩; rw [hwc] at hHeld; rw [hwc]; have HF : Hid (Fr no w2 wc) := (by rw [← hwc]; exact Lib.hid ((Fr.refl no w2).drewN 1)); clear hwc
  refine heldp_take (v := ?_) 0 0 rfl (by kernel_rfl) (.inl ⟨by rfl, ?_⟩) hHeld ?_
  rotate_left
  · intro w hSw; replace hSw : Sg65_0 w := hSw; rw [HSg65_0.out] at hSw; (try dsimp only at hSw); first | (go_simp; done) | (go_simp; with_reducible rfl)
  try simp only [Act.put, List.setIfInBounds_toArray, List.set_cons_zero, List.set_cons_succ]
  refine heldp_take (v := ?_) 1 0 rfl (by kernel_rfl) (.inl ⟨by rfl, ?_⟩) hHeld ?_
  rotate_left
  · intro w hSw; replace hSw : Sg65_0 w := hSw; rw [HSg65_0.out] at hSw; (try dsimp only at hSw); first | (go_simp; done) | (go_simp; with_reducible rfl)
  try simp only [Act.put, List.setIfInBounds_toArray, List.set_cons_zero, List.set_cons_succ]
  refine heldp_take (v := ?_) 3 0 rfl (by kernel_rfl) (.inl ⟨by rfl, ?_⟩) hHeld ?_
  rotate_left
  · intro w hSw; replace hSw : Sg65_0 w := hSw; rw [HSg65_0.out] at hSw; (try dsimp only at hSw); first | (go_simp; done) | (go_simp; with_reducible rfl)
  try simp only [Act.put, List.setIfInBounds_toArray, List.set_cons_zero, List.set_cons_succ]
  refine heldp_take (v := ?_) 4 0 rfl (by kernel_rfl) (.inl ⟨by rfl, ?_⟩) hHeld ?_
  rotate_left
  · intro w hSw; replace hSw : Sg65_0 w := hSw; rw [HSg65_0.out] at hSw; (try dsimp only at hSw); first | (go_simp; done) | (go_simp; with_reducible rfl)
  try simp only [Act.put, List.setIfInBounds_toArray, List.set_cons_zero, List.set_cons_succ]
  refine heldp_call 2 0 rfl (by kernel_rfl) (fun K hK => ?_)
  go_simp
  go_at_call 32
  refine (Hvc.out wc (F.out.trans' HF.out)).mono ?_
  rintro e wc ⟨so', sc', rfl, hM⟩
  have HS := Lib.hid hM
  have HFS := HF
  replace HF := Lib.hid (HF.out.trans' hM.fr)
  clear hM
  refine hK.out _ _ ?_ (fun hHeld' => ?_)
  · show Sg65_0 _; rw [HSg65_0.out]; exact ⟨HF.out.cell t2 (fun f => f), HF.out.cell t3 (fun f => f)⟩
  clear hK K hHeld
  have hHeld := hHeld'
  clear hHeld'
  try simp only [Act.put, List.setIfInBounds_toArray, List.set_cons_zero, List.set_cons_succ]
  refine heldp_take (v := ?_) 6 0 rfl (by kernel_rfl) (.inl ⟨by rfl, ?_⟩) hHeld ?_
  rotate_left
  · intro w hSw; replace hSw : Sg65_0 w := hSw; rw [HSg65_0.out] at hSw; (try dsimp only at hSw); first | (go_simp; done) | (go_simp; with_reducible rfl)
  try simp only [Act.put, List.setIfInBounds_toArray, List.set_cons_zero, List.set_cons_succ]
  refine heldp_call 5 0 rfl (by kernel_rfl) (fun K hK => ?_)
  go_simp
  go_at_call 33
  refine (Hdc.out wc (F.out.trans' HF.out)).mono ?_
  rintro e wd ⟨lo', lc', rfl, hM⟩
  have HSR := Lib.hid (HS.out.rd.fr hM.fr (fun _ _ _ f => f))
  have HL := Lib.hid hM
  have HFL := HF
  replace HF := Lib.hid (HF.out.trans' hM.fr)
  clear hM
  refine hK.out _ _ ?_ (fun hHeld' => ?_)
  · show Sg65_0 _; rw [HSg65_0.out]; exact ⟨HF.out.cell t2 (fun f => f), HF.out.cell t3 (fun f => f)⟩
  clear hK K hHeld
  have hHeld := hHeld'
  clear hHeld'
  try simp only [Act.put, List.setIfInBounds_toArray, List.set_cons_zero, List.set_cons_succ]
  refine heldp_call 7 1 rfl (by kernel_rfl) (fun K hK => ?_)
  rw [if_pos (by rfl)]
  have hB := HF.out.heap B2.out (fun f => f)
  have k2 : wd.cell? ⟨g2, 2, none⟩ = some (.slice so sn sc) := cell_of_block hB rfl
  have z2 : wd.frozen? ⟨g2, 2, none⟩ = false := frozen_of_block hB
  obtain ⟨we, hwe⟩ : ∃ we, wd.setCell ⟨g2, 2, none⟩ (.slice so' sn sc') = we := ⟨_, rfl⟩
  have E2 := Lib.hid (show we.heap[g2]? = some (.cells #[.int .i64 r.own, .int .i64 r.next, .slice so' sn sc', .slice lo ln lc] 43 (0, 0)) from by rw [← hwe]; simpa using heap_setC (j := 2) (.slice so' sn sc') hB)
  have FE := Lib.hid (show Fr (fun i => i = g2) wd we from by rw [← hwe]; exact fr_set wd g2 2 _)
  clear hB
  go_simp
  refine hK.out _ _ ?_ (fun hHeld' => ?_)
  · show Sg65_1 _; rw [HSg65_1.out]; trivial
  clear hK K hHeld
  have hHeld := hHeld'
  clear hHeld'
  try simp only [Act.put, List.setIfInBounds_toArray, List.set_cons_zero, List.set_cons_succ]
  refine heldp_take (v := ?_) 8 1 rfl (by kernel_rfl) (.inl ⟨by rfl, ?_⟩) hHeld ?_
  rotate_left
  · intro w hSw; replace hSw : Sg65_1 w := hSw; rw [HSg65_1.out] at hSw; (try dsimp only at hSw); first | (go_simp; done) | (go_simp; with_reducible rfl)
  try simp only [Act.put, List.setIfInBounds_toArray, List.set_cons_zero, List.set_cons_succ]
  refine heldp_call 9 2 rfl (by kernel_rfl) (fun K hK => ?_)
  rw [if_pos (by rfl)]
  clear k2 z2 hwe
  have k3 : we.cell? ⟨g2, 3, none⟩ = some (.slice lo ln lc) := cell_of_block E2.out rfl
  have z3 : we.frozen? ⟨g2, 3, none⟩ = false := frozen_of_block E2.out
  obtain ⟨wf, hwf⟩ : ∃ wf, we.setCell ⟨g2, 3, none⟩ (.slice lo' ln lc') = wf := ⟨_, rfl⟩
  have E3 := Lib.hid (show wf.heap[g2]? = some (.cells #[.int .i64 r.own, .int .i64 r.next, .slice so' sn sc', .slice lo' ln lc'] 43 (0, 0)) from by rw [← hwf]; simpa using heap_setC (j := 3) (.slice lo' ln lc') E2.out)
  have FF := Lib.hid (show Fr (fun i => i = g2) wd wf from FE.out.trans' (by rw [← hwf]; exact fr_set we g2 3 _))
  go_simp
  refine hK.out _ _ ?_ (fun hHeld' => ?_)
  · show Sg65_2 _; rw [HSg65_2.out]; trivial
  clear hK K hHeld
  have hHeld := hHeld'
  clear hHeld'
  try simp only [Act.put, List.setIfInBounds_toArray, List.set_cons_zero, List.set_cons_succ]
  refine heldp_done (by kernel_rfl) ?_
  try clear hHeld
  clear HSg65_0
  try clear Sg65_0
  clear HSg65_1
  try clear Sg65_1
  clear HSg65_2
  try clear Sg65_2
  clear k3 z3 hwf t2 t3
  have hlt2 := (Array.getElem?_eq_some_iff.1 B2.out).1
  have hs2 := HFS.out.size
  have hl2 := HFL.out.size
  have HSf := Lib.hid (HSR.out.fr FF.out (fun g hg _ e => by have := HS.out.fresh g hg; omega))
  have HLf := Lib.hid (HL.out.rd.fr FF.out (fun g hg _ e => by have := HL.out.fresh g hg; omega))
  have hB1 := FF.out.heap (HF.out.heap B1.out (fun f => f)) (by have := HG.out; omega)
  have f0 : wf.cell? ⟨g2, 0, none⟩ = some (.int .i64 r.own) := cell_of_block E3.out rfl
  have f1 : wf.cell? ⟨g2, 1, none⟩ = some (.int .i64 r.next) := cell_of_block E3.out rfl
  have f2 : wf.cell? ⟨g2, 2, none⟩ = some (.slice so' sn sc') := cell_of_block E3.out rfl
  have f3 : wf.cell? ⟨g2, 3, none⟩ = some (.slice lo' ln lc') := cell_of_block E3.out rfl
  obtain ⟨x1, x2, x3, x4, q1, q2, q3, q4, k1, k2, k3, k4, z1, z2, z3, z4, hb4, hf4⟩ := set4 hB1 (.int .i64 r.own) (.int .i64 r.next) (.slice so' sn sc') (.slice lo' ln lc')
  have T := Lib.hid hb4
  have FX := Lib.hid hf4
  have hgw := HG.out
  have hdw := Nat.le_trans hl2 HL.out.fr.size
  have HSg := Lib.hid (HSf.out.fr hf4 (fun g hg _ e => by have := HS.out.fresh g hg; omega))
  have HLg := Lib.hid (HLf.out.fr hf4 (fun g hg _ e => by have := HL.out.fresh g hg; omega))
  have FZ := Lib.hid (((F.out.trans' HF.out).trans FF.out (fun i hi e => by omega)).trans hf4 (fun i hi e => by omega))
  clear hb4 hf4 hB1
  go_wp2_with fail
  refine bodyPost_ret (rgtok_res _ g1 _ _ _ _ _ rfl T.out) rfl ?_
  exact ⟨so', sc', lo', lc', rfl, HSg.out, by unfold DrsAt; rw [Hln.out]; exact HLg.out, FZ.out⟩
end Go.Proofs.Ytlohbikkhojlaaa
