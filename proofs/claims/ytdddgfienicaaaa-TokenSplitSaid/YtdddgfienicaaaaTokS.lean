/- Laws of the token: records, drafts, tokens, slots that are the same. -/
import Derived.Test.YtdddgfienicaaaaTokG3
namespace Go.XL
open Go.RowKit Go.Shelf
set_option linter.unusedVariables false
/-- SameRec -/
def sameR (a b : Dr) : Bool := decide (a.s = b.s) && decide (a.q = b.q) && (vcov a.dep b.dep && vcov b.dep a.dep) && (a.key.toList == b.key.toList) && (a.val.toList == b.val.toList)
theorem sameR_self (a : Dr) : sameR a a = true := by simp [sameR, vcov]
end Go.XL
namespace Go.Proofs.Ytdddgfienicaaaa
open Go.RowKit Go.Shelf Go.XL
set_option linter.unusedVariables false
set_option linter.unusedSimpArgs false
attribute [local go_sem] Oper.semAt_some

set_option maxHeartbeats 4000000 in
theorem lSameRec (t1 s1 q1 : Int) (v1 : Value) (dep1 : List Int) (k1 x1 : ByteArray) (t2 s2 q2 : Int) (v2 : Value) (dep2 : List Int) (k2 x2 : ByteArray) (w : World) (h1 : IntsAt w v1 dep1) (h2 : IntsAt w v2 dep2) :
    Calls Try.prog 27 #[.agg #[.int .i64 s1, .int .i64 q1, v1, .string k1, .string x1], .agg #[.int .i64 s2, .int .i64 q2, v2, .string k2, .string x2]] w fun e w' => e = .returned (.bool (sameR ⟨t1, s1, q1, v1, dep1, k1, x1⟩ ⟨t2, s2, q2, v2, dep2, k2, x2⟩)) ∧ Fr no w w' := by
  obtain ⟨a1, c1, rfl, _, _⟩ := h1.cap
  obtain ⟨a2, c2, rfl, _, _⟩ := h2.cap
  have hf : ∀ c c', Fr no w ((w.alloc c).alloc c') := fun c c' => ((Fr.refl no w).alloc _).alloc _
  have HF := Lib.hid hf
  have Hs := Lib.hid (fun (w' : World) (hf : Fr no w w') => ref_same (.slice a1 dep1.length c1) (.slice a2 dep2.length c2) dep1 dep2 w' (h1.fr hf (fun _ _ _ f => f)) (h2.fr hf (fun _ _ _ f => f)))
  have hm : ∀ r, (decide (s1 = s2) && decide (q1 = q2) && (vcov dep1 dep2 && vcov dep2 dep1) && (k1.toList == k2.toList) && (x1.toList == x2.toList)) = r → Hid (sameR ⟨t1, s1, q1, .slice a1 dep1.length c1, dep1, k1, x1⟩ ⟨t2, s2, q2, .slice a2 dep2.length c2, dep2, k2, x2⟩ = r) := fun r h => Lib.hid h
  clear hf h1 h2
  generalize dep1.length = n1 at *
  generalize dep2.length = n2 at *
  generalize (vcov dep1 dep2 && vcov dep2 dep1) = vb at *
  go_enter Try.func27, Try.ntmps27
  by_cases e1 : s1 = s2
  · by_cases e2 : q1 = q2
    · subst e1
      subst e2
      go_wp2_with fail
      refine (Hs.out _ (HF.out _ _)).mono ?_
      rintro e w' ⟨rfl, rfl⟩
      cases vb
      · have R := hm false (by simp)
        clear hm Hs
        go_wp2
        go_ret
        rw [R.out]
        exact ⟨rfl, HF.out _ _⟩
      · cases e3 : (k1.toList == k2.toList)
        · have R := hm false (by simp [e3])
          clear hm Hs
          go_wp2
          go_ret
          rw [R.out]
          exact ⟨rfl, HF.out _ _⟩
        · cases e4 : (x1.toList == x2.toList)
          · have R := hm false (by simp [e4])
            clear hm Hs
            go_wp2
            go_ret
            rw [R.out]
            exact ⟨rfl, HF.out _ _⟩
          · have R := hm true (by simp [e3, e4])
            clear hm Hs
            go_wp2
            go_ret
            rw [R.out]
            exact ⟨rfl, HF.out _ _⟩
    · have R := hm false (by simp [e2])
      clear hm Hs
      go_wp2
      go_ret
      rw [R.out]
      exact ⟨rfl, HF.out _ _⟩
  · have R := hm false (by simp [e1])
    clear hm Hs
    go_wp2
    go_ret
    rw [R.out]
    exact ⟨rfl, HF.out _ _⟩

set_option maxHeartbeats 4000000 in
theorem lSameDrafts (v1 v2 : Value) (l : List Dr) (w : World) (h1 : DrsAt w v1 l) (h2 : DrsAt w v2 l) (hd : ∀ d ∈ l, DrOk w d) :
    Calls Try.prog 40 #[v1, v2] w fun e w' => e = .returned (.bool true) ∧ Fr no w w' := by
  obtain ⟨a1, c1, rfl, _, _⟩ := h1.cap
  obtain ⟨a2, c2, rfl, _, _⟩ := h2.cap
  have H1 : Hid (Rd w 6 (.slice a1 l.length c1) l.length (drCells l)) := Lib.hid h1
  have H2 : Hid (Rd w 6 (.slice a2 l.length c2) l.length (drCells l)) := Lib.hid h2
  have Hd := Lib.hid hd
  clear h1 h2 hd
  generalize hm : l.length = n at *
  have Hm := Lib.hid hm
  clear hm
  go_enter Try.func40, Try.ntmps40
  go_wp2_with fail
  go_loopw [5] (fun iv wr => ∃ i : Nat, i ≤ n ∧ iv = .int .i64 i ∧ Hid (Fr no w wr)) (fun iv _ => n - (intOf iv).toNat)
  case atStart => exact ⟨0, Nat.zero_le _, rfl, Lib.hid (Fr.refl _ _)⟩
  case round =>
    obtain ⟨i, hi, rfl, hF⟩ := hrel
    generalize wr = W at *
    by_cases hlt : i < n
    · obtain ⟨d, hdk⟩ : ∃ x, l[i]? = some x := ⟨l[i]'(by rw [Hm.out]; exact hlt), by simp⟩
      have hdo := Rd.fr (Hd.out d (List.mem_of_getElem? hdk)) hF.out (fun _ _ _ f => f)
      obtain ⟨g, off, c', he, e0, e1, e2, e3, e4, e5⟩ := drs_cells (w := W) (v := .slice a1 n c1) (l := l) (by show Rd W 6 _ l.length _; rw [Hm.out]; exact H1.out.fr hF.out (fun _ _ _ f => f)) hdk
      rw [Hm.out] at he
      cases he
      obtain ⟨g2, off2, c2', he2, f0, f1, f2, f3, f4, f5⟩ := drs_cells (w := W) (v := .slice a2 n c2) (l := l) (by show Rd W 6 _ l.length _; rw [Hm.out]; exact H2.out.fr hF.out (fun _ _ _ f => f)) hdk
      rw [Hm.out] at he2
      cases he2
      obtain ⟨dt, ds, dq, dv, dep, dk, dx⟩ := d
      obtain ⟨dO, dc, hdv, _, _⟩ := Rd.cap hdo
      dsimp only at *
      subst hdv
      have Hsr := Lib.hid (fun (w' : World) (hf : Fr no W w') => lSameRec dt ds dq _ dep dk dx dt ds dq _ dep dk dx w' (Rd.fr hdo hf (fun _ _ _ f => f)) (Rd.fr hdo hf (fun _ _ _ f => f)))
      rw [sameR_self] at Hsr
      clear hdk hdo
      go_upto_region 6 with (fail)
      obtain ⟨Sg112_0, HSg112_0⟩ : ∃ S : World → Prop, Hid (S = (fun w' => w'.cell? ⟨g, off + i * 6, none⟩ = some (.int .i64 dt) ∧ w'.cell? ⟨g, off + i * 6 + 1, none⟩ = some (.int .i64 ds) ∧ w'.cell? ⟨g, off + i * 6 + 2, none⟩ = some (.int .i64 dq) ∧ w'.cell? ⟨g, off + i * 6 + 3, none⟩ = some (.slice dO dep.length dc) ∧ w'.cell? ⟨g, off + i * 6 + 4, none⟩ = some (.string dk) ∧ w'.cell? ⟨g, off + i * 6 + 5, none⟩ = some (.string dx) ∧ w'.cell? ⟨g2, off2 + i * 6, none⟩ = some (.int .i64 dt) ∧ w'.cell? ⟨g2, off2 + i * 6 + 1, none⟩ = some (.int .i64 ds) ∧ w'.cell? ⟨g2, off2 + i * 6 + 2, none⟩ = some (.int .i64 dq) ∧ w'.cell? ⟨g2, off2 + i * 6 + 3, none⟩ = some (.slice dO dep.length dc) ∧ w'.cell? ⟨g2, off2 + i * 6 + 4, none⟩ = some (.string dk) ∧ w'.cell? ⟨g2, off2 + i * 6 + 5, none⟩ = some (.string dx))) := ⟨_, Lib.hid rfl⟩
      refine wp_heldp [] (pickS [Sg112_0]) (by kernel_rfl) ?_ (fun hHeld => ?_)
      · show Sg112_0 _; rw [HSg112_0.out]; exact ⟨e0, e1, e2, e3, e4, e5, f0, f1, f2, f3, f4, f5⟩
      obtain ⟨wc, hwc⟩ : ∃ x, W.drew = x := ⟨_, rfl⟩; rw [hwc] at hHeld; rw [hwc]; have HF : Hid (Fr no W wc) := (by rw [← hwc]; exact Lib.hid ((Fr.refl no W).drewN 1)); clear hwc
      refine heldp_take (v := ?_) 0 0 rfl (by kernel_rfl) (.inl ⟨by rfl, ?_⟩) hHeld ?_
      rotate_left
      · intro w hSw; replace hSw : Sg112_0 w := hSw; rw [HSg112_0.out] at hSw; (try dsimp only at hSw); first | (go_simp; done) | (go_simp; with_reducible rfl)
      try simp only [Act.put, List.setIfInBounds_toArray, List.set_cons_zero, List.set_cons_succ]
      refine heldp_take (v := ?_) 1 0 rfl (by kernel_rfl) (.inl ⟨by rfl, ?_⟩) hHeld ?_
      rotate_left
      · intro w hSw; replace hSw : Sg112_0 w := hSw; rw [HSg112_0.out] at hSw; (try dsimp only at hSw); first | (go_simp; done) | (go_simp; with_reducible rfl)
      try simp only [Act.put, List.setIfInBounds_toArray, List.set_cons_zero, List.set_cons_succ]
      refine heldp_take (v := ?_) 2 0 rfl (by kernel_rfl) (.inl ⟨by rfl, ?_⟩) hHeld ?_
      rotate_left
      · intro w hSw; replace hSw : Sg112_0 w := hSw; rw [HSg112_0.out] at hSw; (try dsimp only at hSw); first | (go_simp; done) | (go_simp; with_reducible rfl)
      try simp only [Act.put, List.setIfInBounds_toArray, List.set_cons_zero, List.set_cons_succ]
      refine heldp_take (v := ?_) 3 0 rfl (by kernel_rfl) (.inl ⟨by rfl, ?_⟩) hHeld ?_
      rotate_left
      · intro w hSw; replace hSw : Sg112_0 w := hSw; rw [HSg112_0.out] at hSw; (try dsimp only at hSw); first | (go_simp; done) | (go_simp; with_reducible rfl)
      try simp only [Act.put, List.setIfInBounds_toArray, List.set_cons_zero, List.set_cons_succ]
      refine heldp_take (v := ?_) 4 0 rfl (by kernel_rfl) (.inl ⟨by rfl, ?_⟩) hHeld ?_
      rotate_left
      · intro w hSw; replace hSw : Sg112_0 w := hSw; rw [HSg112_0.out] at hSw; (try dsimp only at hSw); first | (go_simp; done) | (go_simp; with_reducible rfl)
      try simp only [Act.put, List.setIfInBounds_toArray, List.set_cons_zero, List.set_cons_succ]
      refine heldp_take (v := ?_) 5 0 rfl (by kernel_rfl) (.inl ⟨by rfl, ?_⟩) hHeld ?_
      rotate_left
      · intro w hSw; replace hSw : Sg112_0 w := hSw; rw [HSg112_0.out] at hSw; (try dsimp only at hSw); first | (go_simp; done) | (go_simp; with_reducible rfl)
      try simp only [Act.put, List.setIfInBounds_toArray, List.set_cons_zero, List.set_cons_succ]
      refine heldp_take (v := ?_) 6 0 rfl (by kernel_rfl) (.inl ⟨by rfl, ?_⟩) hHeld ?_
      rotate_left
      · intro w hSw; replace hSw : Sg112_0 w := hSw; rw [HSg112_0.out] at hSw; (try dsimp only at hSw); first | (go_simp; done) | (go_simp; with_reducible rfl)
      try simp only [Act.put, List.setIfInBounds_toArray, List.set_cons_zero, List.set_cons_succ]
      refine heldp_take (v := ?_) 7 0 rfl (by kernel_rfl) (.inl ⟨by rfl, ?_⟩) hHeld ?_
      rotate_left
      · intro w hSw; replace hSw : Sg112_0 w := hSw; rw [HSg112_0.out] at hSw; (try dsimp only at hSw); first | (go_simp; done) | (go_simp; with_reducible rfl)
      try simp only [Act.put, List.setIfInBounds_toArray, List.set_cons_zero, List.set_cons_succ]
      refine heldp_take (v := ?_) 8 0 rfl (by kernel_rfl) (.inl ⟨by rfl, ?_⟩) hHeld ?_
      rotate_left
      · intro w hSw; replace hSw : Sg112_0 w := hSw; rw [HSg112_0.out] at hSw; (try dsimp only at hSw); first | (go_simp; done) | (go_simp; with_reducible rfl)
      try simp only [Act.put, List.setIfInBounds_toArray, List.set_cons_zero, List.set_cons_succ]
      refine heldp_take (v := ?_) 9 0 rfl (by kernel_rfl) (.inl ⟨by rfl, ?_⟩) hHeld ?_
      rotate_left
      · intro w hSw; replace hSw : Sg112_0 w := hSw; rw [HSg112_0.out] at hSw; (try dsimp only at hSw); first | (go_simp; done) | (go_simp; with_reducible rfl)
      try simp only [Act.put, List.setIfInBounds_toArray, List.set_cons_zero, List.set_cons_succ]
      refine heldp_take (v := ?_) 10 0 rfl (by kernel_rfl) (.inl ⟨by rfl, ?_⟩) hHeld ?_
      rotate_left
      · intro w hSw; replace hSw : Sg112_0 w := hSw; rw [HSg112_0.out] at hSw; (try dsimp only at hSw); first | (go_simp; done) | (go_simp; with_reducible rfl)
      try simp only [Act.put, List.setIfInBounds_toArray, List.set_cons_zero, List.set_cons_succ]
      refine heldp_take (v := ?_) 11 0 rfl (by kernel_rfl) (.inl ⟨by rfl, ?_⟩) hHeld ?_
      rotate_left
      · intro w hSw; replace hSw : Sg112_0 w := hSw; rw [HSg112_0.out] at hSw; (try dsimp only at hSw); first | (go_simp; done) | (go_simp; with_reducible rfl)
      try simp only [Act.put, List.setIfInBounds_toArray, List.set_cons_zero, List.set_cons_succ]
      refine heldp_take (v := ?_) 12 0 rfl (by kernel_rfl) (.inl ⟨by rfl, ?_⟩) hHeld ?_
      rotate_left
      · intro w hSw; replace hSw : Sg112_0 w := hSw; rw [HSg112_0.out] at hSw; (try dsimp only at hSw); first | (go_simp; done) | (go_simp; with_reducible rfl)
      try simp only [Act.put, List.setIfInBounds_toArray, List.set_cons_zero, List.set_cons_succ]
      refine heldp_take (v := ?_) 13 0 rfl (by kernel_rfl) (.inl ⟨by rfl, ?_⟩) hHeld ?_
      rotate_left
      · intro w hSw; replace hSw : Sg112_0 w := hSw; rw [HSg112_0.out] at hSw; (try dsimp only at hSw); first | (go_simp; done) | (go_simp; with_reducible rfl)
      try simp only [Act.put, List.setIfInBounds_toArray, List.set_cons_zero, List.set_cons_succ]
      refine heldp_take (v := ?_) 14 0 rfl (by kernel_rfl) (.inl ⟨by rfl, ?_⟩) hHeld ?_
      rotate_left
      · intro w hSw; replace hSw : Sg112_0 w := hSw; rw [HSg112_0.out] at hSw; (try dsimp only at hSw); first | (go_simp; done) | (go_simp; with_reducible rfl)
      try simp only [Act.put, List.setIfInBounds_toArray, List.set_cons_zero, List.set_cons_succ]
      refine heldp_take (v := ?_) 15 0 rfl (by kernel_rfl) (.inl ⟨by rfl, ?_⟩) hHeld ?_
      rotate_left
      · intro w hSw; replace hSw : Sg112_0 w := hSw; rw [HSg112_0.out] at hSw; (try dsimp only at hSw); first | (go_simp; done) | (go_simp; with_reducible rfl)
      try simp only [Act.put, List.setIfInBounds_toArray, List.set_cons_zero, List.set_cons_succ]
      refine heldp_take (v := ?_) 16 0 rfl (by kernel_rfl) (.inl ⟨by rfl, ?_⟩) hHeld ?_
      rotate_left
      · intro w hSw; replace hSw : Sg112_0 w := hSw; rw [HSg112_0.out] at hSw; (try dsimp only at hSw); first | (go_simp; done) | (go_simp; with_reducible rfl)
      try simp only [Act.put, List.setIfInBounds_toArray, List.set_cons_zero, List.set_cons_succ]
      refine heldp_take (v := ?_) 17 0 rfl (by kernel_rfl) (.inl ⟨by rfl, ?_⟩) hHeld ?_
      rotate_left
      · intro w hSw; replace hSw : Sg112_0 w := hSw; rw [HSg112_0.out] at hSw; (try dsimp only at hSw); first | (go_simp; done) | (go_simp; with_reducible rfl)
      try simp only [Act.put, List.setIfInBounds_toArray, List.set_cons_zero, List.set_cons_succ]
      refine heldp_take (v := ?_) 18 0 rfl (by kernel_rfl) (.inl ⟨by rfl, ?_⟩) hHeld ?_
      rotate_left
      · intro w hSw; replace hSw : Sg112_0 w := hSw; rw [HSg112_0.out] at hSw; (try dsimp only at hSw); first | (go_simp; done) | (go_simp; with_reducible rfl)
      try simp only [Act.put, List.setIfInBounds_toArray, List.set_cons_zero, List.set_cons_succ]
      refine heldp_take (v := ?_) 19 0 rfl (by kernel_rfl) (.inl ⟨by rfl, ?_⟩) hHeld ?_
      rotate_left
      · intro w hSw; replace hSw : Sg112_0 w := hSw; rw [HSg112_0.out] at hSw; (try dsimp only at hSw); first | (go_simp; done) | (go_simp; with_reducible rfl)
      try simp only [Act.put, List.setIfInBounds_toArray, List.set_cons_zero, List.set_cons_succ]
      refine heldp_take (v := ?_) 20 0 rfl (by kernel_rfl) (.inl ⟨by rfl, ?_⟩) hHeld ?_
      rotate_left
      · intro w hSw; replace hSw : Sg112_0 w := hSw; rw [HSg112_0.out] at hSw; (try dsimp only at hSw); first | (go_simp; done) | (go_simp; with_reducible rfl)
      try simp only [Act.put, List.setIfInBounds_toArray, List.set_cons_zero, List.set_cons_succ]
      refine heldp_take (v := ?_) 21 0 rfl (by kernel_rfl) (.inl ⟨by rfl, ?_⟩) hHeld ?_
      rotate_left
      · intro w hSw; replace hSw : Sg112_0 w := hSw; rw [HSg112_0.out] at hSw; (try dsimp only at hSw); first | (go_simp; done) | (go_simp; with_reducible rfl)
      try simp only [Act.put, List.setIfInBounds_toArray, List.set_cons_zero, List.set_cons_succ]
      refine heldp_call 22 0 rfl (by kernel_rfl) (fun K hK => ?_)
      go_simp
      go_at_call 27
      refine (Hsr.out _ HF.out).mono ?_
      rintro e wc ⟨rfl, hfd⟩
      replace HF := Lib.hid (HF.out.trans' hfd)
      clear hfd
      refine hK.out _ _ ?_ (fun hHeld' => ?_)
      · show Sg112_0 _; rw [HSg112_0.out]; have hq := HF.out; exact ⟨hq.cell e0 (fun f => f), hq.cell e1 (fun f => f), hq.cell e2 (fun f => f), hq.cell e3 (fun f => f), hq.cell e4 (fun f => f), hq.cell e5 (fun f => f), hq.cell f0 (fun f => f), hq.cell f1 (fun f => f), hq.cell f2 (fun f => f), hq.cell f3 (fun f => f), hq.cell f4 (fun f => f), hq.cell f5 (fun f => f)⟩
      clear hK K hHeld
      have hHeld := hHeld'
      clear hHeld'
      try simp only [Act.put, List.setIfInBounds_toArray, List.set_cons_zero, List.set_cons_succ]
      refine heldp_take (v := ?_) 23 0 rfl (by kernel_rfl) (.inl ⟨by rfl, ?_⟩) hHeld ?_
      rotate_left
      · intro w hSw; replace hSw : Sg112_0 w := hSw; rw [HSg112_0.out] at hSw; (try dsimp only at hSw); first | (go_simp; done) | (go_simp; with_reducible rfl)
      try simp only [Act.put, List.setIfInBounds_toArray, List.set_cons_zero, List.set_cons_succ]
      refine heldp_take (v := ?_) 24 0 rfl (by kernel_rfl) (.inl ⟨by rfl, ?_⟩) hHeld ?_
      rotate_left
      · intro w hSw; replace hSw : Sg112_0 w := hSw; rw [HSg112_0.out] at hSw; (try dsimp only at hSw); first | (go_simp; done) | (go_simp; with_reducible rfl)
      try simp only [Act.put, List.setIfInBounds_toArray, List.set_cons_zero, List.set_cons_succ]
      refine heldp_done (by kernel_rfl) ?_
      try clear hHeld
      clear HSg112_0
      try clear Sg112_0
      clear e0 e1 e2 e3 e4 e5 f0 f1 f2 f3 f4 f5 Hsr
      have HF2 := Lib.hid (hF.out.trans' HF.out)
      go_wp2
      go_roundw
      case rel => exact ⟨i + 1, by omega, by go_num, HF2⟩
      case measure => simp [intOf]; omega
    · go_wp2
      go_ret
      exact ⟨rfl, hF.out⟩

set_option maxHeartbeats 4000000 in
theorem lSame (own next : Int) (sv1 sv2 v1 v2 : Value) (seen : List Int) (l : List Dr) (w : World) (hs1 : IntsAt w sv1 seen) (hs2 : IntsAt w sv2 seen) (h1 : DrsAt w v1 l) (h2 : DrsAt w v2 l) (hd : ∀ d ∈ l, DrOk w d) :
    Calls Try.prog 20 #[tkV own next sv1 v1, tkV own next sv2 v2] w fun e w' => e = .returned (.bool true) ∧ Fr no w w' := by
  obtain ⟨o1, d1, rfl, _, _⟩ := hs1.cap
  obtain ⟨o2, d2, rfl, _, _⟩ := hs2.cap
  obtain ⟨a1, c1, rfl, _, _⟩ := h1.cap
  obtain ⟨a2, c2, rfl, _, _⟩ := h2.cap
  have hf : ∀ c c', Fr no w ((w.alloc c).alloc c') := fun c c' => ((Fr.refl no w).alloc _).alloc _
  have HF := Lib.hid hf
  have hss := fun (w' : World) (hf : Fr no w w') => ref_same (.slice o1 seen.length d1) (.slice o2 seen.length d2) seen seen w' (hs1.fr hf (fun _ _ _ f => f)) (hs2.fr hf (fun _ _ _ f => f))
  rw [vcov_refl, Bool.and_self] at hss
  have Hs := Lib.hid hss
  have Hd := Lib.hid (fun (w' : World) (hf : Fr no w w') => lSameDrafts (.slice a1 l.length c1) (.slice a2 l.length c2) l w' (Rd.fr h1 hf (fun _ _ _ f => f)) (Rd.fr h2 hf (fun _ _ _ f => f)) (fun d hm => Rd.fr (hd d hm) hf (fun _ _ _ f => f)))
  clear hf h1 h2 hs1 hs2 hss hd
  generalize l.length = n at *
  generalize seen.length = sn at *
  unfold tkV
  go_enter Try.func20, Try.ntmps20
  go_wp2_with fail
  refine (Hs.out _ (HF.out _ _)).mono ?_
  rintro e w' ⟨rfl, rfl⟩
  clear Hs
  go_wp2_with fail
  refine (Hd.out _ (HF.out _ _)).mono ?_
  rintro e w2 ⟨rfl, hf2⟩
  have HF2 := Lib.hid ((HF.out _ _).trans' hf2)
  clear Hd hf2
  go_wp2
  go_ret
  exact ⟨rfl, HF2.out⟩
end Go.Proofs.Ytdddgfienicaaaa
