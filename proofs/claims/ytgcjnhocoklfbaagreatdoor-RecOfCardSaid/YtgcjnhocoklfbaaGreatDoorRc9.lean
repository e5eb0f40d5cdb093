/- The laws' known, for records. -/
import Derived.Test.YtgcjnhocoklfbaaGreatDoorRc8
import Derived.Test.YtgcjnhocoklfbaaGreatDoorRc5
import Derived.Test.YtgcjnhocoklfbaaGreatDoorRc4
import Derived.Test.YtgcjnhocoklfbaaGreatDoorRc2
namespace Go.XL
open Go.RowKit Go.Shelf
set_option linter.unusedVariables false
set_option linter.unusedSimpArgs false
theorem str_of {b : ByteArray} {l : List UInt8} (h : b.data.toList = l) : b = ⟨l.toArray⟩ := by
  apply ByteArray.ext
  apply Array.ext'
  rw [h]
theorem rc_form {w : World} {r : Rc} {p : Rp} (h : RcIs w r p) : ∃ dO dc, r = ⟨p.s, p.q, .slice dO p.dep.length dc, p.dep, ⟨p.key.toArray⟩, ⟨p.val.toArray⟩⟩ ∧ IntsAt w (.slice dO p.dep.length dc) p.dep := by
  obtain ⟨h1, h2, h3, h4, h5, h6⟩ := h
  obtain ⟨s, q, dv, dep, key, val⟩ := r
  dsimp only at h2 h3 h4 h5 h6
  subst h2; subst h3; subst h4
  obtain ⟨dO, dc, hdv, _, _⟩ := Rd.cap h1
  dsimp only at hdv
  subst hdv
  rw [str_of h5, str_of h6]
  exact ⟨dO, dc, rfl, h1⟩
theorem rcis_zero {w : World} {r : Rc} (h : RcIs w r Rp.zero) : ∃ dO dc, r = ⟨0, 0, .slice dO 0 dc, [], ⟨#[]⟩, ⟨#[]⟩⟩ ∧ IntsAt w (.slice dO 0 dc) [] := rc_form h
theorem rcCells_len (l : List Rc) : (rcCells l).length = l.length * 5 := by
  induction l with
  | nil => rfl
  | cons x r ih => simp only [rcCells, List.flatMap_cons, List.length_append, List.length_cons, Rc.cs, List.length_nil] at *; omega
theorem rc_lit (w : World) (E : TypeId) (l : List Rc) (hl : l.length ≤ 1000) : Rd (w.alloc (.cells (rcCells l).toArray E)) 5 (.slice (some ⟨w.heap.size, 0, none⟩) l.length l.length) l.length (rcCells l) := by
  refine ⟨rcCells_len l, _, l.length, rfl, Nat.le_refl _, by unfold maxLen; omega, by simp, fun h0 => ⟨w.heap.size, 0, rfl, fun j u hj => ?_⟩⟩
  exact cell_of_block (World.alloc_heap_new w (.cells (rcCells l).toArray E)) (by simpa using hj)
end Go.XL
namespace Go.Proofs.YtgcjnhocoklfbaaGreatDoor
open Go.RowKit Go.Shelf Go.XL
set_option linter.unusedVariables false
set_option linter.unusedSimpArgs false
attribute [local go_sem] Oper.semAt_some
theorem kp1 : rparse [49, 58, 51, 32, 91, 50, 32, 50, 93, 32, 107, 101, 121, 61, 97, 61, 98] = (⟨1, 3, [2, 2], [107, 101, 121], [97, 61, 98]⟩, 0) := by rfl
theorem kp2 : rparse [49, 58, 50, 32, 91, 48, 32, 50, 93, 32, 107, 61, 118] = (Rp.zero, 13) := by rfl
theorem kp3 : rparse [49, 58, 51, 32, 91, 50, 93, 32, 75, 101, 121, 61, 118] = (Rp.zero, 3) := by rfl
theorem kp4 : rparse [49, 58, 51, 32, 91, 50, 93, 32, 107, 32, 118] = (Rp.zero, 2) := by rfl
theorem kt1 : rtext 1 3 [2, 2] [107, 101, 121] [97, 61, 98] = [49, 58, 51, 32, 91, 50, 32, 50, 93, 32, 107, 101, 121, 61, 97, 61, 98] := by simp [rtext, vtext, vlast, vallF, wjoin, Lib.itoa, Lib.decDigits_one]
set_option maxRecDepth 100000 in
set_option maxHeartbeats 8000000 in
theorem rknown (w : World) (hG : GlU w) : Calls Tryz.prog 10 #[] w fun e w' => e = .returned (.bool true) ∧ Fr no w w' := by
  have HG := Lib.hid hG
  have F := Lib.hid (Fr.refl no w)
  clear hG
  go_enter Tryz.func10, Tryz.ntmps10
  go_wp2_with fail
  have hc := r_parse ⟨#[49, 58, 51, 32, 91, 50, 32, 50, 93, 32, 107, 101, 121, 61, 97, 61, 98]⟩ w (by decide) HG.out
  rw [show rparse (⟨#[49, 58, 51, 32, 91, 50, 32, 50, 93, 32, 107, 101, 121, 61, 97, 61, 98]⟩ : ByteArray).data.toList = _ from kp1] at hc
  refine hc.mono ?_
  clear hc
  rintro e w1 ⟨r, rfl, hr, hfd⟩
  obtain ⟨dO, dc, rfl, hv⟩ := rc_form hr
  replace F := Lib.hid (F.out.trans' hfd)
  have hfa : Fr no w1 (w1.alloc (.cells #[.int .i64 1, .int .i64 3, .slice dO 2 dc, .string ⟨#[107, 101, 121]⟩, .string ⟨#[97, 61, 98]⟩] 25)) := (Fr.refl no w1).alloc _
  have BX := Lib.hid (World.alloc_heap_new w1 (.cells #[.int .i64 1, .int .i64 3, .slice dO 2 dc, .string ⟨#[107, 101, 121]⟩, .string ⟨#[97, 61, 98]⟩] 25))
  have V : Hid (IntsAt _ (.slice dO 2 dc) [2, 2]) := Lib.hid (hv.fr hfa (fun _ _ _ f => f))
  replace F := Lib.hid (F.out.trans' hfa)
  unfold Rc.v
  dsimp only
  clear hr hfd hv hfa
  go_wp2_with fail
  have hc := r_parse ⟨#[49, 58, 50, 32, 91, 48, 32, 50, 93, 32, 107, 61, 118]⟩ _ (by decide) (HG.out.fr F.out)
  rw [show rparse (⟨#[49, 58, 50, 32, 91, 48, 32, 50, 93, 32, 107, 61, 118]⟩ : ByteArray).data.toList = _ from kp2] at hc
  refine hc.mono ?_
  clear hc
  rintro e w2 ⟨r, rfl, hr, hfd⟩
  obtain ⟨d2, c2, rfl, hv⟩ := rcis_zero hr
  obtain ⟨g1, hg1⟩ : ∃ g, w1.heap.size = g := ⟨_, rfl⟩
  rw [hg1] at BX
  rw [hg1]
  have hfa : Fr no w2 (w2.alloc (.cells #[.int .i64 0, .int .i64 0, .slice d2 0 c2, .string ⟨#[]⟩, .string ⟨#[]⟩] 25)) := (Fr.refl no w2).alloc _
  replace F := Lib.hid ((F.out.trans' hfd).trans' hfa)
  replace BX := Lib.hid ((hfd.trans' hfa).heap BX.out (fun f => f))
  replace V := Lib.hid (V.out.fr (hfd.trans' hfa) (fun _ _ _ f => f))
  unfold Rc.v
  dsimp only
  clear hr hfd hv hfa hg1
  go_wp2_with fail
  have hc := r_parse ⟨#[49, 58, 51, 32, 91, 50, 93, 32, 75, 101, 121, 61, 118]⟩ _ (by decide) (HG.out.fr F.out)
  rw [show rparse (⟨#[49, 58, 51, 32, 91, 50, 93, 32, 75, 101, 121, 61, 118]⟩ : ByteArray).data.toList = _ from kp3] at hc
  refine hc.mono ?_
  clear hc
  rintro e w3 ⟨r, rfl, hr, hfd⟩
  obtain ⟨d3, c3, rfl, hv⟩ := rcis_zero hr
  have hfa : Fr no w3 (w3.alloc (.cells #[.int .i64 0, .int .i64 0, .slice d3 0 c3, .string ⟨#[]⟩, .string ⟨#[]⟩] 25)) := (Fr.refl no w3).alloc _
  replace F := Lib.hid ((F.out.trans' hfd).trans' hfa)
  replace BX := Lib.hid ((hfd.trans' hfa).heap BX.out (fun f => f))
  replace V := Lib.hid (V.out.fr (hfd.trans' hfa) (fun _ _ _ f => f))
  generalize w2.heap.size = u2 at *
  unfold Rc.v
  dsimp only
  clear hr hfd hv hfa
  go_wp2_with fail
  have hc := r_parse ⟨#[49, 58, 51, 32, 91, 50, 93, 32, 107, 32, 118]⟩ _ (by decide) (HG.out.fr F.out)
  rw [show rparse (⟨#[49, 58, 51, 32, 91, 50, 93, 32, 107, 32, 118]⟩ : ByteArray).data.toList = _ from kp4] at hc
  refine hc.mono ?_
  clear hc
  rintro e w4 ⟨r, rfl, hr, hfd⟩
  obtain ⟨d4, c4, rfl, hv⟩ := rcis_zero hr
  obtain ⟨w6, hw6⟩ : ∃ W, (w4.alloc (.cells #[.int .i64 0, .int .i64 0, .slice d4 0 c4, .string ⟨#[]⟩, .string ⟨#[]⟩] 25)).alloc (.cells #[.int .i64 0, .int .i64 9, .slice none 0 0, .string ⟨#[107]⟩, .string ⟨#[]⟩] 25) = W := ⟨_, rfl⟩
  have hfa : Fr no w4 w6 := by rw [← hw6]; exact ((Fr.refl no w4).alloc _).alloc _
  obtain ⟨g9, hg9⟩ : ∃ g, w4.heap.size + 1 = g := ⟨_, rfl⟩
  have BY : Hid (w6.heap[g9]? = some (.cells #[.int .i64 0, .int .i64 9, .slice none 0 0, .string ⟨#[107]⟩, .string ⟨#[]⟩] 25 (0, 0))) := Lib.hid (by
    rw [← hg9, ← hw6]; simp only [alloc_get, World.size_alloc]; simp)
  replace F := Lib.hid ((F.out.trans' hfd).trans' hfa)
  replace BX := Lib.hid ((hfd.trans' hfa).heap BX.out (fun f => f))
  replace V := Lib.hid (V.out.fr (hfd.trans' hfa) (fun _ _ _ f => f))
  generalize w3.heap.size = u3 at *
  unfold Rc.v
  dsimp only
  have HW6 := Lib.hid hw6
  clear hr hfd hv hfa hw6
  go_upto_region 6 with (fail)
  rw [HW6.out]
  clear HW6 hg9
  generalize w4.heap.size = u4 at *
  have x0 : w6.cell? ⟨g1, 0, none⟩ = some (.int .i64 1) := cell_of_block BX.out rfl
  have x1 : w6.cell? ⟨g1, 1, none⟩ = some (.int .i64 3) := cell_of_block BX.out rfl
  have x2 : w6.cell? ⟨g1, 2, none⟩ = some (.slice dO 2 dc) := cell_of_block BX.out rfl
  have x3 : w6.cell? ⟨g1, 3, none⟩ = some (.string ⟨#[107, 101, 121]⟩) := cell_of_block BX.out rfl
  have x4 : w6.cell? ⟨g1, 4, none⟩ = some (.string ⟨#[97, 61, 98]⟩) := cell_of_block BX.out rfl
  have y0 : w6.cell? ⟨g9, 0, none⟩ = some (.int .i64 0) := cell_of_block BY.out rfl
  have y1 : w6.cell? ⟨g9, 1, none⟩ = some (.int .i64 9) := cell_of_block BY.out rfl
  have y2 : w6.cell? ⟨g9, 2, none⟩ = some (.slice none 0 0) := cell_of_block BY.out rfl
  have y3 : w6.cell? ⟨g9, 3, none⟩ = some (.string ⟨#[107]⟩) := cell_of_block BY.out rfl
  have y4 : w6.cell? ⟨g9, 4, none⟩ = some (.string ⟨#[]⟩) := cell_of_block BY.out rfl
  obtain ⟨ls, hls⟩ : ∃ ls : List Rc, ls = [⟨0, 9, .slice none 0 0, [], ⟨#[107]⟩, ⟨#[]⟩⟩, ⟨1, 3, .slice dO 2 dc, [2, 2], ⟨#[107, 101, 121]⟩, ⟨#[97, 61, 98]⟩⟩, ⟨0, 9, .slice none 0 0, [], ⟨#[107]⟩, ⟨#[]⟩⟩] := ⟨_, rfl⟩
  have hn3 : ls.length = 3 := by rw [hls]; rfl
  have hLit := rc_lit w6 25 ls (by omega)
  rw [hn3] at hLit
  rw [show (rcCells ls).toArray = #[.int .i64 0, .int .i64 9, .slice none 0 0, .string ⟨#[107]⟩, .string ⟨#[]⟩, .int .i64 1, .int .i64 3, .slice dO 2 dc, .string ⟨#[107, 101, 121]⟩, .string ⟨#[97, 61, 98]⟩, .int .i64 0, .int .i64 9, .slice none 0 0, .string ⟨#[107]⟩, .string ⟨#[]⟩] by rw [hls]; rfl] at hLit
  go_wp2_with fail
  obtain ⟨w7, hw7⟩ : ∃ U, w6.alloc (.cells #[.int .i64 0, .int .i64 9, .slice none 0 0, .string ⟨#[107]⟩, .string ⟨#[]⟩, .int .i64 1, .int .i64 3, .slice dO 2 dc, .string ⟨#[107, 101, 121]⟩, .string ⟨#[97, 61, 98]⟩, .int .i64 0, .int .i64 9, .slice none 0 0, .string ⟨#[107]⟩, .string ⟨#[]⟩] 25) = U := ⟨_, rfl⟩
  rw [hw7] at hLit ⊢
  have hfd : Fr no w6 w7 := by rw [← hw7]; exact (Fr.refl no w6).alloc _
  replace F := Lib.hid (F.out.trans' hfd)
  replace BX := Lib.hid (hfd.heap BX.out (fun f => f))
  replace BY := Lib.hid (hfd.heap BY.out (fun f => f))
  replace V := Lib.hid (V.out.fr hfd (fun _ _ _ f => f))
  clear hfd
  clear x0 x1 x2 x3 x4 y0 y1 y2 y3 y4
  clear hw7
  generalize w6.heap.size = gl at *
  obtain ⟨w8, hw8⟩ : ∃ U, (w7.alloc (.cells #[.slice (some ⟨gl, 0, none⟩) 3 3] 41)).alloc (.cells #[.int .i64 0] 3) = U := ⟨_, rfl⟩
  have hfd : Fr no w7 w8 := by rw [← hw8]; exact ((Fr.refl no w7).alloc _).alloc _
  have c1 : w8.heap[w7.heap.size]? = some (.cells #[.slice (some ⟨gl, 0, none⟩) 3 3] 41 (0, 0)) := by rw [← hw8]; simp only [alloc_get, World.size_alloc]; simp
  have c2 : w8.heap[w7.heap.size + 1]? = some (.cells #[.int .i64 0] 3 (0, 0)) := by rw [← hw8]; simp only [alloc_get, World.size_alloc]; simp
  have hLit8 : RcsAt w8 (.slice (some ⟨gl, 0, none⟩) 3 3) ls := by
    unfold RcsAt; rw [hn3]; exact hLit.fr hfd (fun _ _ _ f => f)
  refine (r_of _ 3 3 0 w7).mono ?_
  rintro e w' ⟨rfl, hw'⟩
  rw [hw8] at hw'
  subst hw'
  replace F := Lib.hid (F.out.trans' hfd)
  replace BX := Lib.hid (hfd.heap BX.out (fun f => f))
  replace BY := Lib.hid (hfd.heap BY.out (fun f => f))
  replace V := Lib.hid (V.out.fr hfd (fun _ _ _ f => f))
  clear hfd
  clear hw8
  generalize w7.heap.size = gf at *
  have hrof : rof 0 ls 0 = [(0, ⟨0, 9, .slice none 0 0, [], ⟨#[107]⟩, ⟨#[]⟩⟩), (2, ⟨0, 9, .slice none 0 0, [], ⟨#[107]⟩, ⟨#[]⟩⟩)] := by rw [hls]; rfl
  have hrows := law_rows (rof 0 ls 0) 5 w8 (of_not_nil _ _) (by intro args w; rfl) (of_iter gf (gf + 1) (.slice (some ⟨gl, 0, none⟩) 3 3) ls 0 (by omega)) (by
    intro W hW
    refine ⟨cell_of_block (hW.heap c1 (fun f => f)) rfl, cell_of_block (hW.heap c2 (fun f => f)) rfl, hLit8.fr hW (fun _ _ _ f => f), ?_⟩
    intro r hr
    rw [hls] at hr
    simp only [List.mem_cons, List.not_mem_nil, or_false] at hr
    rcases hr with rfl | rfl | rfl
    · exact (Sl.nil _ 0 1).rd
    · exact V.out.fr hW (fun _ _ _ f => f)
    · exact (Sl.nil _ 0 1).rd) (by rw [hrof]; decide) (by decide) (by
    rw [hrof]
    intro x hx
    simp only [List.mem_cons, List.not_mem_nil, or_false] at hx
    rcases hx with rfl | rfl
    · exact ⟨none, 0, 0, rfl⟩
    · exact ⟨none, 0, 0, rfl⟩)
  rw [hrof] at hrows
  clear hrof hLit hLit8 c1 c2 hls hn3
  have HR := Lib.hid hrows
  clear hrows
  go_wp2_with fail
  refine HR.out.mono ?_
  clear HR
  rintro e w9 ⟨ao, ac, bo, bc, rfl, hA, _, hfd, _⟩
  have HA : Hid (Rd w9 1 (.slice ao 2 ac) 2 [.int .i64 0, .int .i64 2]) := Lib.hid hA
  clear hA
  replace F := Lib.hid (F.out.trans' hfd)
  replace BX := Lib.hid (hfd.heap BX.out (fun f => f))
  replace BY := Lib.hid (hfd.heap BY.out (fun f => f))
  replace V := Lib.hid (V.out.fr hfd (fun _ _ _ f => f))
  clear hfd
  have x0 : w9.cell? ⟨g1, 0, none⟩ = some (.int .i64 1) := cell_of_block BX.out rfl
  have x1 : w9.cell? ⟨g1, 1, none⟩ = some (.int .i64 3) := cell_of_block BX.out rfl
  have x2 : w9.cell? ⟨g1, 2, none⟩ = some (.slice dO 2 dc) := cell_of_block BX.out rfl
  have x3 : w9.cell? ⟨g1, 3, none⟩ = some (.string ⟨#[107, 101, 121]⟩) := cell_of_block BX.out rfl
  have x4 : w9.cell? ⟨g1, 4, none⟩ = some (.string ⟨#[97, 61, 98]⟩) := cell_of_block BX.out rfl
  have y0 : w9.cell? ⟨g9, 0, none⟩ = some (.int .i64 0) := cell_of_block BY.out rfl
  have y1 : w9.cell? ⟨g9, 1, none⟩ = some (.int .i64 9) := cell_of_block BY.out rfl
  have y2 : w9.cell? ⟨g9, 2, none⟩ = some (.slice none 0 0) := cell_of_block BY.out rfl
  have y3 : w9.cell? ⟨g9, 3, none⟩ = some (.string ⟨#[107]⟩) := cell_of_block BY.out rfl
  have y4 : w9.cell? ⟨g9, 4, none⟩ = some (.string ⟨#[]⟩) := cell_of_block BY.out rfl
  go_wp2_with fail
  have hc := r_text ⟨1, 3, .slice dO 2 dc, [2, 2], ⟨#[107, 101, 121]⟩, ⟨#[97, 61, 98]⟩⟩ w9 V.out (by dsimp only; intro x hx; simp only [List.mem_cons, List.not_mem_nil, or_false, or_self] at hx; omega) (by dsimp only; omega) (by dsimp only; omega) (by dsimp only; decide) (by dsimp only; decide) (by dsimp only; decide) (HG.out.fr F.out).1
  rw [show (Rc.text ⟨1, 3, .slice dO 2 dc, [2, 2], ⟨#[107, 101, 121]⟩, ⟨#[97, 61, 98]⟩⟩) = [49, 58, 51, 32, 91, 50, 32, 50, 93, 32, 107, 101, 121, 61, 97, 61, 98] from kt1] at hc
  unfold Rc.v at hc
  dsimp only at hc
  refine hc.mono ?_
  clear hc
  rintro e w10 ⟨rfl, hfd⟩
  replace HA := Lib.hid (HA.out.fr hfd (fun _ _ _ f => f))
  replace F := Lib.hid (F.out.trans' hfd)
  replace BX := Lib.hid (hfd.heap BX.out (fun f => f))
  replace BY := Lib.hid (hfd.heap BY.out (fun f => f))
  replace V := Lib.hid (V.out.fr hfd (fun _ _ _ f => f))
  clear hfd
  clear x0 x1 x2 x3 x4 y0 y1 y2 y3 y4
  have x0 : w10.cell? ⟨g1, 0, none⟩ = some (.int .i64 1) := cell_of_block BX.out rfl
  have x1 : w10.cell? ⟨g1, 1, none⟩ = some (.int .i64 3) := cell_of_block BX.out rfl
  have x2 : w10.cell? ⟨g1, 2, none⟩ = some (.slice dO 2 dc) := cell_of_block BX.out rfl
  have x3 : w10.cell? ⟨g1, 3, none⟩ = some (.string ⟨#[107, 101, 121]⟩) := cell_of_block BX.out rfl
  have x4 : w10.cell? ⟨g1, 4, none⟩ = some (.string ⟨#[97, 61, 98]⟩) := cell_of_block BX.out rfl
  have y0 : w10.cell? ⟨g9, 0, none⟩ = some (.int .i64 0) := cell_of_block BY.out rfl
  have y1 : w10.cell? ⟨g9, 1, none⟩ = some (.int .i64 9) := cell_of_block BY.out rfl
  have y2 : w10.cell? ⟨g9, 2, none⟩ = some (.slice none 0 0) := cell_of_block BY.out rfl
  have y3 : w10.cell? ⟨g9, 3, none⟩ = some (.string ⟨#[107]⟩) := cell_of_block BY.out rfl
  have y4 : w10.cell? ⟨g9, 4, none⟩ = some (.string ⟨#[]⟩) := cell_of_block BY.out rfl
  go_wp2_with fail
  have hc := r_before ⟨0, 9, .slice none 0 0, [], ⟨#[107]⟩, ⟨#[]⟩⟩ ⟨1, 3, .slice dO 2 dc, [2, 2], ⟨#[107, 101, 121]⟩, ⟨#[97, 61, 98]⟩⟩ w10
  rw [show beforeC ⟨0, 9, .slice none 0 0, [], ⟨#[107]⟩, ⟨#[]⟩⟩ ⟨1, 3, .slice dO 2 dc, [2, 2], ⟨#[107, 101, 121]⟩, ⟨#[97, 61, 98]⟩⟩ = true from rfl] at hc
  unfold Rc.v at hc
  dsimp only at hc
  refine hc.mono ?_
  clear hc
  rintro e w11 ⟨rfl, hfd⟩
  replace HA := Lib.hid (HA.out.fr hfd (fun _ _ _ f => f))
  replace F := Lib.hid (F.out.trans' hfd)
  replace BX := Lib.hid (hfd.heap BX.out (fun f => f))
  replace BY := Lib.hid (hfd.heap BY.out (fun f => f))
  replace V := Lib.hid (V.out.fr hfd (fun _ _ _ f => f))
  clear hfd
  clear x0 x1 x2 x3 x4 y0 y1 y2 y3 y4
  have x0 : w11.cell? ⟨g1, 0, none⟩ = some (.int .i64 1) := cell_of_block BX.out rfl
  have x1 : w11.cell? ⟨g1, 1, none⟩ = some (.int .i64 3) := cell_of_block BX.out rfl
  have x2 : w11.cell? ⟨g1, 2, none⟩ = some (.slice dO 2 dc) := cell_of_block BX.out rfl
  have x3 : w11.cell? ⟨g1, 3, none⟩ = some (.string ⟨#[107, 101, 121]⟩) := cell_of_block BX.out rfl
  have x4 : w11.cell? ⟨g1, 4, none⟩ = some (.string ⟨#[97, 61, 98]⟩) := cell_of_block BX.out rfl
  have y0 : w11.cell? ⟨g9, 0, none⟩ = some (.int .i64 0) := cell_of_block BY.out rfl
  have y1 : w11.cell? ⟨g9, 1, none⟩ = some (.int .i64 9) := cell_of_block BY.out rfl
  have y2 : w11.cell? ⟨g9, 2, none⟩ = some (.slice none 0 0) := cell_of_block BY.out rfl
  have y3 : w11.cell? ⟨g9, 3, none⟩ = some (.string ⟨#[107]⟩) := cell_of_block BY.out rfl
  have y4 : w11.cell? ⟨g9, 4, none⟩ = some (.string ⟨#[]⟩) := cell_of_block BY.out rfl
  go_wp2_with fail
  have hc := r_before ⟨1, 3, .slice dO 2 dc, [2, 2], ⟨#[107, 101, 121]⟩, ⟨#[97, 61, 98]⟩⟩ ⟨1, 3, .slice dO 2 dc, [2, 2], ⟨#[107, 101, 121]⟩, ⟨#[97, 61, 98]⟩⟩ w11
  rw [show beforeC ⟨1, 3, .slice dO 2 dc, [2, 2], ⟨#[107, 101, 121]⟩, ⟨#[97, 61, 98]⟩⟩ ⟨1, 3, .slice dO 2 dc, [2, 2], ⟨#[107, 101, 121]⟩, ⟨#[97, 61, 98]⟩⟩ = false from rfl] at hc
  unfold Rc.v at hc
  dsimp only at hc
  refine hc.mono ?_
  clear hc
  rintro e w12 ⟨rfl, hfd⟩
  replace HA := Lib.hid (HA.out.fr hfd (fun _ _ _ f => f))
  replace F := Lib.hid (F.out.trans' hfd)
  replace BX := Lib.hid (hfd.heap BX.out (fun f => f))
  replace BY := Lib.hid (hfd.heap BY.out (fun f => f))
  replace V := Lib.hid (V.out.fr hfd (fun _ _ _ f => f))
  clear hfd
  clear x0 x1 x2 x3 x4 y0 y1 y2 y3 y4
  have x0 : w12.cell? ⟨g1, 0, none⟩ = some (.int .i64 1) := cell_of_block BX.out rfl
  have x1 : w12.cell? ⟨g1, 1, none⟩ = some (.int .i64 3) := cell_of_block BX.out rfl
  have x2 : w12.cell? ⟨g1, 2, none⟩ = some (.slice dO 2 dc) := cell_of_block BX.out rfl
  have x3 : w12.cell? ⟨g1, 3, none⟩ = some (.string ⟨#[107, 101, 121]⟩) := cell_of_block BX.out rfl
  have x4 : w12.cell? ⟨g1, 4, none⟩ = some (.string ⟨#[97, 61, 98]⟩) := cell_of_block BX.out rfl
  have y0 : w12.cell? ⟨g9, 0, none⟩ = some (.int .i64 0) := cell_of_block BY.out rfl
  have y1 : w12.cell? ⟨g9, 1, none⟩ = some (.int .i64 9) := cell_of_block BY.out rfl
  have y2 : w12.cell? ⟨g9, 2, none⟩ = some (.slice none 0 0) := cell_of_block BY.out rfl
  have y3 : w12.cell? ⟨g9, 3, none⟩ = some (.string ⟨#[107]⟩) := cell_of_block BY.out rfl
  have y4 : w12.cell? ⟨g9, 4, none⟩ = some (.string ⟨#[]⟩) := cell_of_block BY.out rfl
  go_wp2_with fail
  have hc := r_same ⟨1, 3, .slice dO 2 dc, [2, 2], ⟨#[107, 101, 121]⟩, ⟨#[97, 61, 98]⟩⟩ ⟨1, 3, .slice dO 2 dc, [2, 2], ⟨#[107, 101, 121]⟩, ⟨#[97, 61, 98]⟩⟩ w12 V.out V.out
  rw [show sameC ⟨1, 3, .slice dO 2 dc, [2, 2], ⟨#[107, 101, 121]⟩, ⟨#[97, 61, 98]⟩⟩ ⟨1, 3, .slice dO 2 dc, [2, 2], ⟨#[107, 101, 121]⟩, ⟨#[97, 61, 98]⟩⟩ = true from by (simp only [sameC, beq_self_eq_true, decide_true, Bool.true_and, Bool.and_true]; decide)] at hc
  unfold Rc.v at hc
  dsimp only at hc
  refine hc.mono ?_
  clear hc
  rintro e w13 ⟨rfl, hfd⟩
  replace HA := Lib.hid (HA.out.fr hfd (fun _ _ _ f => f))
  replace F := Lib.hid (F.out.trans' hfd)
  replace BX := Lib.hid (hfd.heap BX.out (fun f => f))
  replace BY := Lib.hid (hfd.heap BY.out (fun f => f))
  replace V := Lib.hid (V.out.fr hfd (fun _ _ _ f => f))
  clear hfd
  clear x0 x1 x2 x3 x4 y0 y1 y2 y3 y4
  have x0 : w13.cell? ⟨g1, 0, none⟩ = some (.int .i64 1) := cell_of_block BX.out rfl
  have x1 : w13.cell? ⟨g1, 1, none⟩ = some (.int .i64 3) := cell_of_block BX.out rfl
  have x2 : w13.cell? ⟨g1, 2, none⟩ = some (.slice dO 2 dc) := cell_of_block BX.out rfl
  have x3 : w13.cell? ⟨g1, 3, none⟩ = some (.string ⟨#[107, 101, 121]⟩) := cell_of_block BX.out rfl
  have x4 : w13.cell? ⟨g1, 4, none⟩ = some (.string ⟨#[97, 61, 98]⟩) := cell_of_block BX.out rfl
  have y0 : w13.cell? ⟨g9, 0, none⟩ = some (.int .i64 0) := cell_of_block BY.out rfl
  have y1 : w13.cell? ⟨g9, 1, none⟩ = some (.int .i64 9) := cell_of_block BY.out rfl
  have y2 : w13.cell? ⟨g9, 2, none⟩ = some (.slice none 0 0) := cell_of_block BY.out rfl
  have y3 : w13.cell? ⟨g9, 3, none⟩ = some (.string ⟨#[107]⟩) := cell_of_block BY.out rfl
  have y4 : w13.cell? ⟨g9, 4, none⟩ = some (.string ⟨#[]⟩) := cell_of_block BY.out rfl
  go_wp2_with fail
  have hc := r_same ⟨1, 3, .slice dO 2 dc, [2, 2], ⟨#[107, 101, 121]⟩, ⟨#[97, 61, 98]⟩⟩ ⟨0, 9, .slice none 0 0, [], ⟨#[107]⟩, ⟨#[]⟩⟩ w13 V.out (Sl.nil _ 0 1).rd
  rw [show sameC ⟨1, 3, .slice dO 2 dc, [2, 2], ⟨#[107, 101, 121]⟩, ⟨#[97, 61, 98]⟩⟩ ⟨0, 9, .slice none 0 0, [], ⟨#[107]⟩, ⟨#[]⟩⟩ = false from by simp [sameC]] at hc
  unfold Rc.v at hc
  dsimp only at hc
  refine hc.mono ?_
  clear hc
  rintro e w14 ⟨rfl, hfd⟩
  replace HA := Lib.hid (HA.out.fr hfd (fun _ _ _ f => f))
  replace F := Lib.hid (F.out.trans' hfd)
  replace BX := Lib.hid (hfd.heap BX.out (fun f => f))
  replace BY := Lib.hid (hfd.heap BY.out (fun f => f))
  replace V := Lib.hid (V.out.fr hfd (fun _ _ _ f => f))
  clear hfd
  clear x0 x1 x2 x3 x4 y0 y1 y2 y3 y4
  have x0 : w14.cell? ⟨g1, 0, none⟩ = some (.int .i64 1) := cell_of_block BX.out rfl
  have x1 : w14.cell? ⟨g1, 1, none⟩ = some (.int .i64 3) := cell_of_block BX.out rfl
  have x2 : w14.cell? ⟨g1, 2, none⟩ = some (.slice dO 2 dc) := cell_of_block BX.out rfl
  have x3 : w14.cell? ⟨g1, 3, none⟩ = some (.string ⟨#[107, 101, 121]⟩) := cell_of_block BX.out rfl
  have x4 : w14.cell? ⟨g1, 4, none⟩ = some (.string ⟨#[97, 61, 98]⟩) := cell_of_block BX.out rfl
  have y0 : w14.cell? ⟨g9, 0, none⟩ = some (.int .i64 0) := cell_of_block BY.out rfl
  have y1 : w14.cell? ⟨g9, 1, none⟩ = some (.int .i64 9) := cell_of_block BY.out rfl
  have y2 : w14.cell? ⟨g9, 2, none⟩ = some (.slice none 0 0) := cell_of_block BY.out rfl
  have y3 : w14.cell? ⟨g9, 3, none⟩ = some (.string ⟨#[107]⟩) := cell_of_block BY.out rfl
  have y4 : w14.cell? ⟨g9, 4, none⟩ = some (.string ⟨#[]⟩) := cell_of_block BY.out rfl
  go_wp2_with fail
  have hc := r_check ⟨1, 3, .slice dO 2 dc, [2, 2], ⟨#[107, 101, 121]⟩, ⟨#[97, 61, 98]⟩⟩ 1 w14 V.out (by dsimp only; decide) (by dsimp only; decide) (HG.out.fr F.out)
  rw [show Rc.check ⟨1, 3, .slice dO 2 dc, [2, 2], ⟨#[107, 101, 121]⟩, ⟨#[97, 61, 98]⟩⟩ 1 = 1 from rfl] at hc
  unfold Rc.v at hc
  dsimp only at hc
  refine hc.mono ?_
  clear hc
  rintro e w15 ⟨rfl, hfd⟩
  replace HA := Lib.hid (HA.out.fr hfd (fun _ _ _ f => f))
  replace F := Lib.hid (F.out.trans' hfd)
  replace BX := Lib.hid (hfd.heap BX.out (fun f => f))
  replace BY := Lib.hid (hfd.heap BY.out (fun f => f))
  replace V := Lib.hid (V.out.fr hfd (fun _ _ _ f => f))
  clear hfd
  clear x0 x1 x2 x3 x4 y0 y1 y2 y3 y4
  have x0 : w15.cell? ⟨g1, 0, none⟩ = some (.int .i64 1) := cell_of_block BX.out rfl
  have x1 : w15.cell? ⟨g1, 1, none⟩ = some (.int .i64 3) := cell_of_block BX.out rfl
  have x2 : w15.cell? ⟨g1, 2, none⟩ = some (.slice dO 2 dc) := cell_of_block BX.out rfl
  have x3 : w15.cell? ⟨g1, 3, none⟩ = some (.string ⟨#[107, 101, 121]⟩) := cell_of_block BX.out rfl
  have x4 : w15.cell? ⟨g1, 4, none⟩ = some (.string ⟨#[97, 61, 98]⟩) := cell_of_block BX.out rfl
  have y0 : w15.cell? ⟨g9, 0, none⟩ = some (.int .i64 0) := cell_of_block BY.out rfl
  have y1 : w15.cell? ⟨g9, 1, none⟩ = some (.int .i64 9) := cell_of_block BY.out rfl
  have y2 : w15.cell? ⟨g9, 2, none⟩ = some (.slice none 0 0) := cell_of_block BY.out rfl
  have y3 : w15.cell? ⟨g9, 3, none⟩ = some (.string ⟨#[107]⟩) := cell_of_block BY.out rfl
  have y4 : w15.cell? ⟨g9, 4, none⟩ = some (.string ⟨#[]⟩) := cell_of_block BY.out rfl
  go_wp2_with fail
  have hc := r_check ⟨1, 3, .slice dO 2 dc, [2, 2], ⟨#[107, 101, 121]⟩, ⟨#[97, 61, 98]⟩⟩ 2 w15 V.out (by dsimp only; decide) (by dsimp only; decide) (HG.out.fr F.out)
  rw [show Rc.check ⟨1, 3, .slice dO 2 dc, [2, 2], ⟨#[107, 101, 121]⟩, ⟨#[97, 61, 98]⟩⟩ 2 = 0 from rfl] at hc
  unfold Rc.v at hc
  dsimp only at hc
  refine hc.mono ?_
  clear hc
  rintro e w16 ⟨rfl, hfd⟩
  replace HA := Lib.hid (HA.out.fr hfd (fun _ _ _ f => f))
  replace F := Lib.hid (F.out.trans' hfd)
  replace BX := Lib.hid (hfd.heap BX.out (fun f => f))
  replace BY := Lib.hid (hfd.heap BY.out (fun f => f))
  replace V := Lib.hid (V.out.fr hfd (fun _ _ _ f => f))
  clear hfd
  clear x0 x1 x2 x3 x4 y0 y1 y2 y3 y4
  have x0 : w16.cell? ⟨g1, 0, none⟩ = some (.int .i64 1) := cell_of_block BX.out rfl
  have x1 : w16.cell? ⟨g1, 1, none⟩ = some (.int .i64 3) := cell_of_block BX.out rfl
  have x2 : w16.cell? ⟨g1, 2, none⟩ = some (.slice dO 2 dc) := cell_of_block BX.out rfl
  have x3 : w16.cell? ⟨g1, 3, none⟩ = some (.string ⟨#[107, 101, 121]⟩) := cell_of_block BX.out rfl
  have x4 : w16.cell? ⟨g1, 4, none⟩ = some (.string ⟨#[97, 61, 98]⟩) := cell_of_block BX.out rfl
  have y0 : w16.cell? ⟨g9, 0, none⟩ = some (.int .i64 0) := cell_of_block BY.out rfl
  have y1 : w16.cell? ⟨g9, 1, none⟩ = some (.int .i64 9) := cell_of_block BY.out rfl
  have y2 : w16.cell? ⟨g9, 2, none⟩ = some (.slice none 0 0) := cell_of_block BY.out rfl
  have y3 : w16.cell? ⟨g9, 3, none⟩ = some (.string ⟨#[107]⟩) := cell_of_block BY.out rfl
  have y4 : w16.cell? ⟨g9, 4, none⟩ = some (.string ⟨#[]⟩) := cell_of_block BY.out rfl
  obtain ⟨ga, oa, ca, hea, _, _, hca⟩ := Rd.form HA.out (by omega)
  cases hea
  have z1 : w16.cell? ⟨ga, oa + 1, none⟩ = some (.int .i64 2) := hca 1 _ rfl
  clear hca
  go_wp2_with fail
  go_ret
  exact ⟨rfl, F.out⟩
end Go.Proofs.YtgcjnhocoklfbaaGreatDoor
