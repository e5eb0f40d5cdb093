/- Package rec: Before, Same; the reference's Before, SameRec; cmp.Or. -/
import Derived.Test.YtgcjnhocoklfbaaGreatDoorRc0
import Derived.Test.YtgcjnhocoklfbaaGreatDoorRefVec
import Derived.Test.YtgcjnhocoklfbaaGreatDoorRefV
import Derived.Test.YtgcjnhocoklfbaaGreatDoorOwn
import Derived.Test.YtgcjnhocoklfbaaGreatDoorHeld2
namespace Go.XL
open Go.RowKit Go.Shelf
def sameC (a b : Rc) : Bool := decide (a.s = b.s) && decide (a.q = b.q) && (vcov a.dep b.dep && vcov b.dep a.dep) && (a.key.toList == b.key.toList) && (a.val.toList == b.val.toList)
def beforeC (a b : Rc) : Bool := decide (a.s < b.s ∨ (a.s = b.s ∧ a.q < b.q))
end Go.XL
namespace Go.Proofs.YtgcjnhocoklfbaaGreatDoor
open Go.RowKit Go.Shelf Go.XL
set_option linter.unusedVariables false
set_option linter.unusedSimpArgs false
attribute [local go_sem] Oper.semAt_some
set_option maxHeartbeats 4000000 in
theorem r_same0 (s1 q1 : Int) (v1 : Value) (dep1 : List Int) (k1 x1 : ByteArray) (s2 q2 : Int) (v2 : Value) (dep2 : List Int) (k2 x2 : ByteArray) (w : World) (h1 : IntsAt w v1 dep1) (h2 : IntsAt w v2 dep2) :
    Calls Tryz.prog 21 #[.agg #[.int .i64 s1, .int .i64 q1, v1, .string k1, .string x1], .agg #[.int .i64 s2, .int .i64 q2, v2, .string k2, .string x2]] w fun e w' => e = .returned (.bool (sameC ⟨s1, q1, v1, dep1, k1, x1⟩ ⟨s2, q2, v2, dep2, k2, x2⟩)) ∧ Fr no w w' := by
  obtain ⟨a1, c1, rfl, _, _⟩ := h1.cap
  obtain ⟨a2, c2, rfl, _, _⟩ := h2.cap
  have hf : ∀ c c', Fr no w ((w.alloc c).alloc c') := fun c c' => ((Fr.refl no w).alloc _).alloc _
  have HF := Lib.hid hf
  have Hs := Lib.hid (fun (w' : World) (hf : Fr no w w') => vec_same (.slice a1 dep1.length c1) (.slice a2 dep2.length c2) dep1 dep2 w' (h1.fr hf (fun _ _ _ f => f)) (h2.fr hf (fun _ _ _ f => f)))
  have hm : ∀ r, (decide (s1 = s2) && decide (q1 = q2) && (vcov dep1 dep2 && vcov dep2 dep1) && (k1.toList == k2.toList) && (x1.toList == x2.toList)) = r → Hid (sameC ⟨s1, q1, .slice a1 dep1.length c1, dep1, k1, x1⟩ ⟨s2, q2, .slice a2 dep2.length c2, dep2, k2, x2⟩ = r) := fun r h => Lib.hid h
  clear hf h1 h2
  generalize dep1.length = n1 at *
  generalize dep2.length = n2 at *
  generalize (vcov dep1 dep2 && vcov dep2 dep1) = vb at *
  go_enter Tryz.func21, Tryz.ntmps21
  by_cases e1 : s1 = s2
  · by_cases e2 : q1 = q2
    · subst e1
      subst e2
      go_wp2_with fail
      refine (Hs.out _ (HF.out _ _)).mono ?_
      rintro e w' ⟨rfl, rfl⟩
      cases vb
      · have R := hm false (by simp)
        clear hm Hs
        go_wp2
        go_ret
        rw [R.out]
        exact ⟨rfl, HF.out _ _⟩
      · cases e3 : (k1.toList == k2.toList)
        · have R := hm false (by simp [e3])
          clear hm Hs
          go_wp2
          go_ret
          rw [R.out]
          exact ⟨rfl, HF.out _ _⟩
        · cases e4 : (x1.toList == x2.toList)
          · have R := hm false (by simp [e4])
            clear hm Hs
            go_wp2
            go_ret
            rw [R.out]
            exact ⟨rfl, HF.out _ _⟩
          · have R := hm true (by simp [e3, e4])
            clear hm Hs
            go_wp2
            go_ret
            rw [R.out]
            exact ⟨rfl, HF.out _ _⟩
    · have R := hm false (by simp [e2])
      clear hm Hs
      go_wp2
      go_ret
      rw [R.out]
      exact ⟨rfl, HF.out _ _⟩
  · have R := hm false (by simp [e1])
    clear hm Hs
    go_wp2
    go_ret
    rw [R.out]
    exact ⟨rfl, HF.out _ _⟩

set_option maxHeartbeats 4000000 in
theorem ref_same0 (s1 q1 : Int) (v1 : Value) (dep1 : List Int) (k1 x1 : ByteArray) (s2 q2 : Int) (v2 : Value) (dep2 : List Int) (k2 x2 : ByteArray) (w : World) (h1 : IntsAt w v1 dep1) (h2 : IntsAt w v2 dep2) :
    Calls Tryz.prog 18 #[.agg #[.int .i64 s1, .int .i64 q1, v1, .string k1, .string x1], .agg #[.int .i64 s2, .int .i64 q2, v2, .string k2, .string x2]] w fun e w' => e = .returned (.bool (sameC ⟨s1, q1, v1, dep1, k1, x1⟩ ⟨s2, q2, v2, dep2, k2, x2⟩)) ∧ Fr no w w' := by
  obtain ⟨a1, c1, rfl, _, _⟩ := h1.cap
  obtain ⟨a2, c2, rfl, _, _⟩ := h2.cap
  have hf : ∀ c c', Fr no w ((w.alloc c).alloc c') := fun c c' => ((Fr.refl no w).alloc _).alloc _
  have HF := Lib.hid hf
  have Hs := Lib.hid (fun (w' : World) (hf : Fr no w w') => ref_same (.slice a1 dep1.length c1) (.slice a2 dep2.length c2) dep1 dep2 w' (h1.fr hf (fun _ _ _ f => f)) (h2.fr hf (fun _ _ _ f => f)))
  have hm : ∀ r, (decide (s1 = s2) && decide (q1 = q2) && (vcov dep1 dep2 && vcov dep2 dep1) && (k1.toList == k2.toList) && (x1.toList == x2.toList)) = r → Hid (sameC ⟨s1, q1, .slice a1 dep1.length c1, dep1, k1, x1⟩ ⟨s2, q2, .slice a2 dep2.length c2, dep2, k2, x2⟩ = r) := fun r h => Lib.hid h
  clear hf h1 h2
  generalize dep1.length = n1 at *
  generalize dep2.length = n2 at *
  generalize (vcov dep1 dep2 && vcov dep2 dep1) = vb at *
  go_enter Tryz.func18, Tryz.ntmps18
  by_cases e1 : s1 = s2
  · by_cases e2 : q1 = q2
    · subst e1
      subst e2
      go_wp2_with fail
      refine (Hs.out _ (HF.out _ _)).mono ?_
      rintro e w' ⟨rfl, rfl⟩
      cases vb
      · have R := hm false (by simp)
        clear hm Hs
        go_wp2
        go_ret
        rw [R.out]
        exact ⟨rfl, HF.out _ _⟩
      · cases e3 : (k1.toList == k2.toList)
        · have R := hm false (by simp [e3])
          clear hm Hs
          go_wp2
          go_ret
          rw [R.out]
          exact ⟨rfl, HF.out _ _⟩
        · cases e4 : (x1.toList == x2.toList)
          · have R := hm false (by simp [e4])
            clear hm Hs
            go_wp2
            go_ret
            rw [R.out]
            exact ⟨rfl, HF.out _ _⟩
          · have R := hm true (by simp [e3, e4])
            clear hm Hs
            go_wp2
            go_ret
            rw [R.out]
            exact ⟨rfl, HF.out _ _⟩
    · have R := hm false (by simp [e2])
      clear hm Hs
      go_wp2
      go_ret
      rw [R.out]
      exact ⟨rfl, HF.out _ _⟩
  · have R := hm false (by simp [e1])
    clear hm Hs
    go_wp2
    go_ret
    rw [R.out]
    exact ⟨rfl, HF.out _ _⟩


theorem r_same (a b : Rc) (w : World) (h1 : RcOk w a) (h2 : RcOk w b) : Calls Tryz.prog 21 #[a.v, b.v] w fun e w' => e = .returned (.bool (sameC a b)) ∧ Fr no w w' :=
  r_same0 a.s a.q a.dv a.dep a.key a.val b.s b.q b.dv b.dep b.key b.val w h1 h2
theorem ref_samerec (a b : Rc) (w : World) (h1 : RcOk w a) (h2 : RcOk w b) : Calls Tryz.prog 18 #[a.v, b.v] w fun e w' => e = .returned (.bool (sameC a b)) ∧ Fr no w w' :=
  ref_same0 a.s a.q a.dv a.dep a.key a.val b.s b.q b.dv b.dep b.key b.val w h1 h2
theorem ref_before (a b : Rc) (w : World) : Calls Tryz.prog 20 #[a.v, b.v] w fun e w' => e = .returned (.bool (beforeC a b)) ∧ Fr no w w' := by
  obtain ⟨s1, q1, v1, d1, k1, x1⟩ := a
  obtain ⟨s2, q2, v2, d2, k2, x2⟩ := b
  unfold Rc.v beforeC
  dsimp only
  by_cases h : s1 = s2
  · subst h
    have hR : decide (s1 < s1 ∨ (s1 = s1 ∧ q1 < q2)) = decide (q1 < q2) := by simp
    rw [hR]
    clear hR
    go_enter Tryz.func20, Tryz.ntmps20
    go_wp2
    go_ret
    exact ⟨rfl, ((Fr.refl no w).alloc _).alloc _⟩
  · have hR : decide (s1 < s2 ∨ (s1 = s2 ∧ q1 < q2)) = decide (s1 < s2) := by simp [h]
    rw [hR]
    clear hR
    go_enter Tryz.func20, Tryz.ntmps20
    go_wp2
    go_ret
    exact ⟨rfl, ((Fr.refl no w).alloc _).alloc _⟩
/-- cmp.Or of two -/
theorem s_or2 (v : Value) (a b : Int) (w : World) (h : Rd w 1 v 2 [.int .i64 a, .int .i64 b]) : Calls Tryz.prog 40 #[v] w fun e w' => e = .returned (.int .i64 (if a = 0 then b else a)) ∧ w = w' := by
  obtain ⟨g, off, c, rfl, _, _, hx⟩ := h.form (by omega)
  have c0 : w.cell? ⟨g, off, none⟩ = some (.int .i64 a) := by have := hx 0 _ rfl; rwa [Nat.add_zero] at this
  have c1 : w.cell? ⟨g, off + 1, none⟩ = some (.int .i64 b) := hx 1 _ rfl
  clear h hx
  obtain ⟨R, hR⟩ : ∃ R, (if a = 0 then b else a) = R := ⟨_, rfl⟩
  rw [hR]
  go_enter Tryz.func40, Tryz.ntmps40
  go_wp2
  refine wp_loop_rounds 3 ?_
  by_cases ha : a = 0
  · subst ha
    rw [if_pos rfl] at hR
    subst hR
    by_cases hb : b = 0
    · subst hb
      rw [rounds_succ]
      go_wp2
      rw [rounds_succ]
      go_wp2
      rw [rounds_succ]
      go_wp2
      go_ret
      exact ⟨rfl, rfl⟩
    · have hb0 : (b != 0) = true := by simpa using hb
      rw [rounds_succ]
      go_wp2
      rw [rounds_succ]
      go_wp2
      go_ret
      exact ⟨rfl, rfl⟩
  · have ha0 : (a != 0) = true := by simpa using ha
    rw [if_neg ha] at hR
    subst hR
    rw [rounds_succ]
    go_wp2
    go_ret
    exact ⟨rfl, rfl⟩
theorem cmp_sign (a b c d : Int) : decide ((if Lib.compareInt a b = 0 then Lib.compareInt c d else Lib.compareInt a b) < 0) = decide (a < b ∨ (a = b ∧ c < d)) := by
  unfold Lib.compareInt
  rw [decide_eq_decide]
  repeat' split
  all_goals omega
set_option maxHeartbeats 1000000 in
theorem r_before (a b : Rc) (w : World) : Calls Tryz.prog 19 #[a.v, b.v] w fun e w' => e = .returned (.bool (beforeC a b)) ∧ Fr no w w' := by
  obtain ⟨s1, q1, v1, d1, k1, x1⟩ := a
  obtain ⟨s2, q2, v2, d2, k2, x2⟩ := b
  unfold Rc.v beforeC
  dsimp only
  rw [← cmp_sign]
  obtain ⟨C1, hC1⟩ : ∃ c, Lib.compareInt s1 s2 = c := ⟨_, rfl⟩
  obtain ⟨C2, hC2⟩ : ∃ c, Lib.compareInt q1 q2 = c := ⟨_, rfl⟩
  have k1' := fun w' => Tryz.cmp_Compare_int s1 s2 w'
  have k2' := fun w' => Tryz.cmp_Compare_int q1 q2 w'
  rw [hC1, hC2]
  rw [hC1] at k1'
  rw [hC2] at k2'
  have K1 := Lib.hid k1'
  have K2 := Lib.hid k2'
  obtain ⟨w2, hw2⟩ : ∃ w2, (w.alloc (.cells #[.int .i64 s1, .int .i64 q1, v1, .string k1, .string x1] 25)).alloc (.cells #[.int .i64 s2, .int .i64 q2, v2, .string k2, .string x2] 25) = w2 := ⟨_, rfl⟩
  have hf2 : Fr no w w2 := by rw [← hw2]; exact ((Fr.refl no w).alloc _).alloc _
  have hb1 : w2.heap[w.heap.size]? = some (.cells #[.int .i64 s1, .int .i64 q1, v1, .string k1, .string x1] 25 (0, 0)) := by rw [← hw2]; simp only [alloc_get, World.size_alloc]; simp
  have hb2 : w2.heap[w.heap.size + 1]? = some (.cells #[.int .i64 s2, .int .i64 q2, v2, .string k2, .string x2] 25 (0, 0)) := by rw [← hw2]; simp only [alloc_get, World.size_alloc]; simp
  have HW2 := Lib.hid hw2
  have HF2 := Lib.hid hf2
  have a0 : w2.cell? ⟨w.heap.size, 0, none⟩ = some (.int .i64 s1) := cell_of_block hb1 rfl
  have a1 : w2.cell? ⟨w.heap.size, 1, none⟩ = some (.int .i64 q1) := cell_of_block hb1 rfl
  have a2 : w2.cell? ⟨w.heap.size + 1, 0, none⟩ = some (.int .i64 s2) := cell_of_block hb2 rfl
  have a3 : w2.cell? ⟨w.heap.size + 1, 1, none⟩ = some (.int .i64 q2) := cell_of_block hb2 rfl
  clear hw2 hf2 hb1 hb2 hC1 hC2 k1' k2'
  go_enter Tryz.func19, Tryz.ntmps19
  go_upto_region 1 with (fail)
  rw [HW2.out]
  clear HW2
  generalize w.heap.size = ga at *
  obtain ⟨Sg240_0, HSg240_0⟩ : ∃ S : World → Prop, Hid (S = (fun w' => w'.cell? ⟨ga, 0, none⟩ = some (.int .i64 s1) ∧ w'.cell? ⟨ga, 1, none⟩ = some (.int .i64 q1) ∧ w'.cell? ⟨ga + 1, 0, none⟩ = some (.int .i64 s2) ∧ w'.cell? ⟨ga + 1, 1, none⟩ = some (.int .i64 q2))) := ⟨_, Lib.hid rfl⟩
  refine wp_heldp [] (pickS [Sg240_0]) (by kernel_rfl) ?_ (fun hHeld => ?_)
  · show Sg240_0 _; rw [HSg240_0.out]; exact ⟨a0, a1, a2, a3⟩
  obtain ⟨wc, hwc⟩ : ∃ x, w2.drew = x := ⟨_, rfl⟩; rw [hwc] at hHeld; rw [hwc]; have HF : Hid (Fr no w2 wc) := (by rw [← hwc]; exact Lib.hid ((Fr.refl no w2).drewN 1)); clear hwc
  refine heldp_take (v := ?_) 0 0 rfl (by kernel_rfl) (.inl ⟨by rfl, ?_⟩) hHeld ?_
  rotate_left
  · intro w hSw; replace hSw : Sg240_0 w := hSw; rw [HSg240_0.out] at hSw; (try dsimp only at hSw); first | (go_simp; done) | (go_simp; with_reducible rfl)
  try simp only [Act.put, List.setIfInBounds_toArray, List.set_cons_zero, List.set_cons_succ]
  refine heldp_take (v := ?_) 1 0 rfl (by kernel_rfl) (.inl ⟨by rfl, ?_⟩) hHeld ?_
  rotate_left
  · intro w hSw; replace hSw : Sg240_0 w := hSw; rw [HSg240_0.out] at hSw; (try dsimp only at hSw); first | (go_simp; done) | (go_simp; with_reducible rfl)
  try simp only [Act.put, List.setIfInBounds_toArray, List.set_cons_zero, List.set_cons_succ]
  refine heldp_take (v := ?_) 2 0 rfl (by kernel_rfl) (.inl ⟨by rfl, ?_⟩) hHeld ?_
  rotate_left
  · intro w hSw; replace hSw : Sg240_0 w := hSw; rw [HSg240_0.out] at hSw; (try dsimp only at hSw); first | (go_simp; done) | (go_simp; with_reducible rfl)
  try simp only [Act.put, List.setIfInBounds_toArray, List.set_cons_zero, List.set_cons_succ]
  refine heldp_take (v := ?_) 3 0 rfl (by kernel_rfl) (.inl ⟨by rfl, ?_⟩) hHeld ?_
  rotate_left
  · intro w hSw; replace hSw : Sg240_0 w := hSw; rw [HSg240_0.out] at hSw; (try dsimp only at hSw); first | (go_simp; done) | (go_simp; with_reducible rfl)
  try simp only [Act.put, List.setIfInBounds_toArray, List.set_cons_zero, List.set_cons_succ]
  refine heldp_take (v := ?_) 5 0 rfl (by kernel_rfl) (.inl ⟨by rfl, ?_⟩) hHeld ?_
  rotate_left
  · intro w hSw; replace hSw : Sg240_0 w := hSw; rw [HSg240_0.out] at hSw; (try dsimp only at hSw); first | (go_simp; done) | (go_simp; with_reducible rfl)
  try simp only [Act.put, List.setIfInBounds_toArray, List.set_cons_zero, List.set_cons_succ]
  refine heldp_take (v := ?_) 6 0 rfl (by kernel_rfl) (.inl ⟨by rfl, ?_⟩) hHeld ?_
  rotate_left
  · intro w hSw; replace hSw : Sg240_0 w := hSw; rw [HSg240_0.out] at hSw; (try dsimp only at hSw); first | (go_simp; done) | (go_simp; with_reducible rfl)
  try simp only [Act.put, List.setIfInBounds_toArray, List.set_cons_zero, List.set_cons_succ]
  refine heldp_take (v := ?_) 7 0 rfl (by kernel_rfl) (.inl ⟨by rfl, ?_⟩) hHeld ?_
  rotate_left
  · intro w hSw; replace hSw : Sg240_0 w := hSw; rw [HSg240_0.out] at hSw; (try dsimp only at hSw); first | (go_simp; done) | (go_simp; with_reducible rfl)
  try simp only [Act.put, List.setIfInBounds_toArray, List.set_cons_zero, List.set_cons_succ]
  refine heldp_take (v := ?_) 8 0 rfl (by kernel_rfl) (.inl ⟨by rfl, ?_⟩) hHeld ?_
  rotate_left
  · intro w hSw; replace hSw : Sg240_0 w := hSw; rw [HSg240_0.out] at hSw; (try dsimp only at hSw); first | (go_simp; done) | (go_simp; with_reducible rfl)
  try simp only [Act.put, List.setIfInBounds_toArray, List.set_cons_zero, List.set_cons_succ]
  refine heldp_call 4 0 rfl (by kernel_rfl) (fun K hK => ?_)
  go_simp
  go_at_call 41
  refine (K1.out _).mono ?_
  rintro e w' ⟨rfl, hww⟩
  replace hww := hww.symm
  subst hww
  refine hK.out _ _ ?_ (fun hHeld' => ?_)
  · show Sg240_0 _; rw [HSg240_0.out]; exact ⟨HF.out.cell a0 (fun f => f), HF.out.cell a1 (fun f => f), HF.out.cell a2 (fun f => f), HF.out.cell a3 (fun f => f)⟩
  clear hK K hHeld
  have hHeld := hHeld'
  clear hHeld'
  try simp only [Act.put, List.setIfInBounds_toArray, List.set_cons_zero, List.set_cons_succ]
  refine heldp_call 9 0 rfl (by kernel_rfl) (fun K hK => ?_)
  go_simp
  go_at_call 41
  refine (K2.out _).mono ?_
  rintro e w' ⟨rfl, hww⟩
  replace hww := hww.symm
  subst hww
  refine hK.out _ _ ?_ (fun hHeld' => ?_)
  · show Sg240_0 _; rw [HSg240_0.out]; exact ⟨HF.out.cell a0 (fun f => f), HF.out.cell a1 (fun f => f), HF.out.cell a2 (fun f => f), HF.out.cell a3 (fun f => f)⟩
  clear hK K hHeld
  have hHeld := hHeld'
  clear hHeld'
  try simp only [Act.put, List.setIfInBounds_toArray, List.set_cons_zero, List.set_cons_succ]
  refine heldp_call 10 0 rfl (by kernel_rfl) (fun K hK => ?_)
  go_simp
  have hlit := rd_lit wc 3 [.int .i64 C1, .int .i64 C2] (by simp)
  obtain ⟨gd, hgd⟩ : ∃ x, wc.heap.size = x := ⟨_, rfl⟩
  have hfa : Fr no wc (wc.alloc (.cells #[.int .i64 C1, .int .i64 C2] 3)) := (Fr.refl no wc).alloc _
  obtain ⟨wd, hwd⟩ : ∃ x, wc.alloc (.cells #[.int .i64 C1, .int .i64 C2] 3) = x := ⟨_, rfl⟩
  rw [hgd, hwd]
  have hlit2 : Rd wd 1 (.slice (some ⟨gd, 0, none⟩) 2 2) 2 [.int .i64 C1, .int .i64 C2] := (by rw [← hgd, ← hwd]; exact hlit)
  replace hfa : Fr no wc wd := (by rw [← hwd]; exact hfa)
  replace HF := Lib.hid (HF.out.trans' hfa)
  have D := Lib.hid hlit2
  clear hlit hlit2 hfa hwd hgd
  refine hK.out _ _ ?_ (fun hHeld' => ?_)
  · show Sg240_0 _; rw [HSg240_0.out]; exact ⟨HF.out.cell a0 (fun f => f), HF.out.cell a1 (fun f => f), HF.out.cell a2 (fun f => f), HF.out.cell a3 (fun f => f)⟩
  clear hK K hHeld
  have hHeld := hHeld'
  clear hHeld'
  try simp only [Act.put, List.setIfInBounds_toArray, List.set_cons_zero, List.set_cons_succ]
  refine heldp_call 11 0 rfl (by kernel_rfl) (fun K hK => ?_)
  go_simp
  go_at_call 40
  refine (s_or2 _ C1 C2 _ D.out).mono ?_
  rintro e w' ⟨rfl, rfl⟩
  refine hK.out _ _ ?_ (fun hHeld' => ?_)
  · show Sg240_0 _; rw [HSg240_0.out]; exact ⟨HF.out.cell a0 (fun f => f), HF.out.cell a1 (fun f => f), HF.out.cell a2 (fun f => f), HF.out.cell a3 (fun f => f)⟩
  clear hK K hHeld
  have hHeld := hHeld'
  clear hHeld'
  try simp only [Act.put, List.setIfInBounds_toArray, List.set_cons_zero, List.set_cons_succ]
  refine heldp_take (v := ?_) 12 0 rfl (by kernel_rfl) (.inl ⟨by rfl, ?_⟩) hHeld ?_
  rotate_left
  · intro w hSw; replace hSw : Sg240_0 w := hSw; rw [HSg240_0.out] at hSw; (try dsimp only at hSw); first | (go_simp; done) | (go_simp; with_reducible rfl)
  try simp only [Act.put, List.setIfInBounds_toArray, List.set_cons_zero, List.set_cons_succ]
  refine heldp_take (v := ?_) 13 0 rfl (by kernel_rfl) (.inl ⟨by rfl, ?_⟩) hHeld ?_
  rotate_left
  · intro w hSw; replace hSw : Sg240_0 w := hSw; rw [HSg240_0.out] at hSw; (try dsimp only at hSw); first | (go_simp; done) | (go_simp; with_reducible rfl)
  try simp only [Act.put, List.setIfInBounds_toArray, List.set_cons_zero, List.set_cons_succ]
  refine heldp_done (by kernel_rfl) ?_
  try clear hHeld
  clear HSg240_0
  try clear Sg240_0
  clear a0 a1 a2 a3
  go_wp2
  all_goals (go_ret; exact ⟨rfl, HF2.out.trans' HF.out⟩)
end Go.Proofs.YtgcjnhocoklfbaaGreatDoor
