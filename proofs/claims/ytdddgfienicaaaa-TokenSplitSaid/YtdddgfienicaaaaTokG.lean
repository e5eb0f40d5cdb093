/- Laws of the token: the law's own drafts as the document's; which tokens and drafts may be. -/
import Derived.Test.YtdddgfienicaaaaTokOwnR
import Derived.Test.YtdddgfienicaaaaSetN
namespace Go.Proofs.Ytdddgfienicaaaa
open Go.RowKit Go.Shelf Go.XL
set_option linter.unusedVariables false
set_option linter.unusedSimpArgs false
attribute [local go_sem] Oper.semAt_some

theorem l2Of (s q : Int) (dO : Option Addr) (dn dc : Nat) (key val : ByteArray) (w : World) :
    Calls Try.prog 28 #[.agg #[.int .i64 s, .int .i64 q, .slice dO dn dc, .string key, .string val]] w fun e w' => e = .returned (.agg #[.int .i64 s, .int .i64 q, .slice dO dn dc, .string key, .string val]) ∧ Fr no w w' := by
  have hf : ∀ c c', Fr no w ((w.alloc c).alloc c') := fun c c' => ((Fr.refl no w).alloc _).alloc _
  have HF := Lib.hid hf
  clear hf
  go_enter Try.func28, Try.ntmps28
  go_wp2
  refine bodyPost_ret (v := .agg #[.int .i64 s, .int .i64 q, .slice dO dn dc, .string key, .string val]) ?_ rfl ⟨rfl, HF.out _ _⟩
  have hb := World.alloc_heap_new (w.alloc (.cells #[.int .i64 s, .int .i64 q, .slice dO dn dc, .string key, .string val] 39)) (.cells #[.int .i64 s, .int .i64 q, .slice dO dn dc, .string key, .string val] 44)
  rw [World.size_alloc] at hb
  have y0 := cell_of_block (j := 0) hb rfl
  have y1 := cell_of_block (j := 1) hb rfl
  have y2 := cell_of_block (j := 2) hb rfl
  have y3 := cell_of_block (j := 3) hb rfl
  have y4 := cell_of_block (j := 4) hb rfl
  clear hb
  simp [results, Try.results28, go_sem, y0, y1, y2, y3, y4]

set_option maxHeartbeats 1000000 in
theorem lOfDraft (t s q : Int) (dO : Option Addr) (dn dc : Nat) (key val : ByteArray) (w : World) :
    Calls Try.prog 16 #[.agg #[.int .i64 t, .int .i64 s, .int .i64 q, .slice dO dn dc, .string key, .string val]] w fun e w' => e = .returned (.agg #[.int .i64 t, .int .i64 s, .int .i64 q, .slice dO dn dc, .string key, .string val]) ∧ Fr no w w' := by
  obtain ⟨w2, hw2⟩ : ∃ w2, (w.alloc (.cells #[.int .i64 t, .int .i64 s, .int .i64 q, .slice dO dn dc, .string key, .string val] 41)).alloc (.cells #[.int .i64 0, .int .i64 0, .int .i64 0, .slice none 0 0, .string ⟨#[]⟩, .string ⟨#[]⟩] 46) = w2 := ⟨_, rfl⟩
  have hb1 : w2.heap[w.heap.size]? = some (.cells #[.int .i64 t, .int .i64 s, .int .i64 q, .slice dO dn dc, .string key, .string val] 41 (0, 0)) := by rw [← hw2]; simp only [alloc_get, World.size_alloc]; simp
  have hb2 : w2.heap[w.heap.size + 1]? = some (.cells #[.int .i64 0, .int .i64 0, .int .i64 0, .slice none 0 0, .string ⟨#[]⟩, .string ⟨#[]⟩] 46 (0, 0)) := by rw [← hw2]; simp only [alloc_get, World.size_alloc]; simp
  have hf2 : Fr no w w2 := by rw [← hw2]; exact ((Fr.refl no w).alloc _).alloc _
  have HB1 := Lib.hid hb1
  have HB2 := Lib.hid hb2
  have HF2 := Lib.hid hf2
  have HW2 := Lib.hid hw2
  clear hb1 hb2 hf2 hw2
  go_enter Try.func16, Try.ntmps16
  go_upto_region 1 with (fail)
  rw [HW2.out]
  clear HW2
  obtain ⟨Sg43_0, HSg43_0⟩ : ∃ S : World → Prop, Hid (S = (fun w' => w'.cell? ⟨w.heap.size, 0, none⟩ = some (.int .i64 t) ∧ w'.cell? ⟨w.heap.size, 1, none⟩ = some (.int .i64 s) ∧ w'.cell? ⟨w.heap.size, 2, none⟩ = some (.int .i64 q) ∧ w'.cell? ⟨w.heap.size, 3, none⟩ = some (.slice dO dn dc) ∧ w'.cell? ⟨w.heap.size, 4, none⟩ = some (.string key) ∧ w'.cell? ⟨w.heap.size, 5, none⟩ = some (.string val))) := ⟨_, Lib.hid rfl⟩
  obtain ⟨Sg43_1, HSg43_1⟩ : ∃ S : World → Prop, Hid (S = (fun _ => True)) := ⟨_, Lib.hid rfl⟩
  refine wp_heldp [6] (pickS [Sg43_0, Sg43_1]) (by kernel_rfl) ?_ (fun hHeld => ?_)
  · show Sg43_0 _; rw [HSg43_0.out]; have hb : w2.drew.heap[w.heap.size]? = _ := HB1.out; exact ⟨cell_of_block hb rfl, cell_of_block hb rfl, cell_of_block hb rfl, cell_of_block hb rfl, cell_of_block hb rfl, cell_of_block hb rfl⟩
  obtain ⟨wc, hwc⟩ : ∃ x, w2.drew = x := ⟨_, rfl⟩; rw [hwc] at hHeld; rw [hwc]; have HF : Hid (Fr no w2 wc) := (by rw [← hwc]; exact Lib.hid ((Fr.refl no w2).drewN 1)); clear hwc
  refine heldp_take (v := ?_) 0 0 rfl (by kernel_rfl) (.inl ⟨by rfl, ?_⟩) hHeld ?_
  rotate_left
  · intro w hSw; replace hSw : Sg43_0 w := hSw; rw [HSg43_0.out] at hSw; (try dsimp only at hSw); first | (go_simp; done) | (go_simp; with_reducible rfl)
  try simp only [Act.put, List.setIfInBounds_toArray, List.set_cons_zero, List.set_cons_succ]
  refine heldp_take (v := ?_) 1 0 rfl (by kernel_rfl) (.inl ⟨by rfl, ?_⟩) hHeld ?_
  rotate_left
  · intro w hSw; replace hSw : Sg43_0 w := hSw; rw [HSg43_0.out] at hSw; (try dsimp only at hSw); first | (go_simp; done) | (go_simp; with_reducible rfl)
  try simp only [Act.put, List.setIfInBounds_toArray, List.set_cons_zero, List.set_cons_succ]
  refine heldp_take (v := ?_) 2 0 rfl (by kernel_rfl) (.inl ⟨by rfl, ?_⟩) hHeld ?_
  rotate_left
  · intro w hSw; replace hSw : Sg43_0 w := hSw; rw [HSg43_0.out] at hSw; (try dsimp only at hSw); first | (go_simp; done) | (go_simp; with_reducible rfl)
  try simp only [Act.put, List.setIfInBounds_toArray, List.set_cons_zero, List.set_cons_succ]
  refine heldp_take (v := ?_) 3 0 rfl (by kernel_rfl) (.inl ⟨by rfl, ?_⟩) hHeld ?_
  rotate_left
  · intro w hSw; replace hSw : Sg43_0 w := hSw; rw [HSg43_0.out] at hSw; (try dsimp only at hSw); first | (go_simp; done) | (go_simp; with_reducible rfl)
  try simp only [Act.put, List.setIfInBounds_toArray, List.set_cons_zero, List.set_cons_succ]
  refine heldp_call 4 0 rfl (by kernel_rfl) (fun K hK => ?_)
  go_simp
  go_at_call 28
  refine (l2Of s q dO dn dc key val wc).mono ?_
  rintro e wc ⟨rfl, hfd⟩
  replace HF := Lib.hid (HF.out.trans' hfd)
  clear hfd
  refine hK.out _ _ ?_ (fun hHeld' => ?_)
  · show Sg43_0 _; rw [HSg43_0.out]; have hb := HF.out.heap HB1.out (fun f => f); exact ⟨cell_of_block hb rfl, cell_of_block hb rfl, cell_of_block hb rfl, cell_of_block hb rfl, cell_of_block hb rfl, cell_of_block hb rfl⟩
  clear hK K hHeld
  have hHeld := hHeld'
  clear hHeld'
  try simp only [Act.put, List.setIfInBounds_toArray, List.set_cons_zero, List.set_cons_succ]
  refine heldp_take (v := ?_) 5 0 rfl (by kernel_rfl) (.inl ⟨by rfl, ?_⟩) hHeld ?_
  rotate_left
  · intro w hSw; replace hSw : Sg43_0 w := hSw; rw [HSg43_0.out] at hSw; (try dsimp only at hSw); first | (go_simp; done) | (go_simp; with_reducible rfl)
  try simp only [Act.put, List.setIfInBounds_toArray, List.set_cons_zero, List.set_cons_succ]
  refine heldp_call 6 1 rfl (by kernel_rfl) (fun K hK => ?_)
  rw [if_pos (by rfl)]
  obtain ⟨x1, x2, x3, x4, x5, x6, q1, q2, q3, q4, q5, q6, c1, c2, c3, c4, c5, c6, z1, z2, z3, z4, z5, z6, hb4, hf4⟩ := set6 (HF.out.heap HB2.out (fun f => f)) (.int .i64 t) (.int .i64 s) (.int .i64 q) (.slice dO dn dc) (.string key) (.string val)
  have T2 := Lib.hid hb4
  have HG : Hid (Fr no w x6) := Lib.hid ((HF2.out.trans' HF.out).trans hf4 (fun i hi e => by omega))
  clear hb4 hf4
  go_simp
  refine hK.out _ _ ?_ (fun hHeld' => ?_)
  · show Sg43_1 _; rw [HSg43_1.out]; trivial
  clear hK K hHeld
  have hHeld := hHeld'
  clear hHeld'
  try simp only [Act.put, List.setIfInBounds_toArray, List.set_cons_zero, List.set_cons_succ]
  refine heldp_done (by kernel_rfl) ?_
  try clear hHeld
  clear HSg43_0
  try clear Sg43_0
  clear HSg43_1
  try clear Sg43_1
  clear q1 q2 q3 q4 q5 q6 c1 c2 c3 c4 c5 c6 z1 z2 z3 z4 z5 z6
  go_wp2
  refine bodyPost_ret (v := .agg #[.int .i64 t, .int .i64 s, .int .i64 q, .slice dO dn dc, .string key, .string val]) ?_ rfl ⟨rfl, HG.out⟩
  have y0 := cell_of_block (j := 0) T2.out rfl
  have y1 := cell_of_block (j := 1) T2.out rfl
  have y2 := cell_of_block (j := 2) T2.out rfl
  have y3 := cell_of_block (j := 3) T2.out rfl
  have y4 := cell_of_block (j := 4) T2.out rfl
  have y5 := cell_of_block (j := 5) T2.out rfl
  simp [results, Try.results16, go_sem, y0, y1, y2, y3, y4, y5]

/-- rows of drafts: the same cells, in a slice of the law's own -/
theorem lOfDrafts (v : Value) (l : List Dr) (w : World) (h : DrsAt w v l) (hd : ∀ d ∈ l, DrOk w d) (hn : l.length ≤ 1000) :
    Calls Try.prog 19 #[v] w fun e w' => ∃ ao cap, e = .returned (.slice ao l.length cap) ∧ Ow w w' 46 6 (.slice ao l.length cap) l.length (drCells l) := by
  obtain ⟨vo, vc, rfl, hvc, hvm⟩ := h.cap
  have H : Hid (Rd w 6 (.slice vo l.length vc) l.length (drCells l)) := Lib.hid h
  have Hd := Lib.hid hd
  clear h hd
  generalize hm : l.length = n at *
  have Hm := Lib.hid hm
  clear hm
  go_enter Try.func19, Try.ntmps19
  go_wp2_with fail
  go_loopw [3, 4] (fun lv iv wr => ∃ (i : Nat) (lo : Option Addr) (lc : Nat), i ≤ n ∧ iv = .int .i64 i ∧ lv = .slice lo i lc ∧ Hid (Ow w wr 46 6 (.slice lo i lc) i (drCells (l.take i)))) (fun _ iv _ => n - (intOf iv).toNat)
  case atStart => exact ⟨0, none, 0, Nat.zero_le _, rfl, rfl, Lib.hid (Ow.nil (Fr.refl _ _) _ _)⟩
  case round =>
    obtain ⟨i, lo, lc, hi, rfl, rfl, hO⟩ := hrel
    generalize wr = W at *
    by_cases hlt : i < n
    · obtain ⟨d, hdk⟩ : ∃ x, l[i]? = some x := ⟨l[i]'(by rw [Hm.out]; exact hlt), by simp⟩
      have hdo := Hd.out d (List.mem_of_getElem? hdk)
      obtain ⟨g, off, c', he, e0, e1, e2, e3, e4, e5⟩ := drs_cells (w := W) (v := .slice vo n vc) (l := l) (by have h := H.out; show Rd W 6 _ l.length _; rw [Hm.out]; exact Rd.fr h hO.out.fr (fun _ _ _ f => f)) hdk
      rw [Hm.out] at he
      cases he
      obtain ⟨dt, ds, dq, dv, dep, dk, dx⟩ := d
      obtain ⟨dO, dc, hdv, _, _⟩ := Rd.cap hdo
      dsimp only at *
      subst hdv
      have htk : drCells (l.take (i + 1)) = drCells (l.take i) ++ [.int .i64 dt, .int .i64 ds, .int .i64 dq, .slice dO dep.length dc, .string dk, .string dx] := by
        rw [List.take_add_one, hdk, drCells_append]; rfl
      have Htk := Lib.hid htk
      obtain ⟨j0, hj0, jz0, jz1, jz2⟩ := info_parts (show (Try.prog.info? 46).map (fun i => (i.zero, i.size, i.bytes)) = some (some (.agg #[.int .i64 0, .int .i64 0, .int .i64 0, .slice none 0 0, .string ByteArray.empty, .string ByteArray.empty]), 6, 80) by kernel_rfl)
      clear hdk hdo htk
      go_wp2_with fail
      refine (lOfDraft dt ds dq dO dep.length dc dk dx W).mono ?_
      rintro e w3 ⟨rfl, hf3⟩
      have HO3 := Lib.hid (hO.out.step hf3)
      have hlit := rd_lit1 w3 46 [.int .i64 dt, .int .i64 ds, .int .i64 dq, .slice dO dep.length dc, .string dk, .string dx]
      have Hlit := Lib.hid hlit
      have Hlf : Hid (Fr no w3 (w3.alloc (.cells #[.int .i64 dt, .int .i64 ds, .int .i64 dq, .slice dO dep.length dc, .string dk, .string dx] 46))) := Lib.hid ((Fr.refl no w3).alloc _)
      clear hlit hf3 hO e0 e1 e2 e3 e4 e5
      go_wp2_with (at_builtin; refine wpList_append_all (w3.alloc (.cells #[.int .i64 dt, .int .i64 ds, .int .i64 dq, .slice dO dep.length dc, .string dk, .string dx] 46)) rfl _ _ 32 rfl 46 j0 _ 6 80 Try.underlying32 hj0 jz0 jz1 jz2 rfl (by decide) _ _ _ rfl (HO3.out.step Hlf.out).sl _ _ _ rfl Hlit.out (by simp [Value.oneCell']) (by unfold maxLen; omega) (by omega) ?_)
      intro ao6 cap6 w6 hs6 hf6 ho6 _
      have HO6 : Hid (Ow w w6 46 6 (.slice ao6 (i + 1) cap6) (i + 1) (drCells (l.take (i + 1)))) := by
        rw [Htk.out]; exact Lib.hid ((HO3.out.step Hlf.out).app hs6 hf6 (by simpa using ho6))
      clear hs6 hf6 ho6 Hlit Hlf HO3 hj0 jz0 jz1 jz2
      go_wp2
      go_roundw
      case rel => exact ⟨i + 1, ao6, cap6, by omega, by go_num, rfl, HO6⟩
      case measure => simp [intOf]; omega
    · obtain rfl : i = n := by omega
      have hO2 := hO.out
      rw [List.take_of_length_le (by rw [Hm.out]; exact Nat.le_refl _)] at hO2
      have HO2 := Lib.hid hO2
      clear hO hO2
      go_wp2
      go_ret
      exact ⟨_, _, rfl, HO2.out⟩
end Go.Proofs.Ytdddgfienicaaaa
