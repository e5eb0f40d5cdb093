/- The walk of the law RecTwo. -/
import Derived.Test.YtgcjnhocoklfbaaGreatDoorRcA
import Derived.Test.YtgcjnhocoklfbaaGreatDoorRc9
namespace Go.XL
open Go.RowKit Go.Shelf
theorem before_not (a b : Rc) : (beforeC a b && beforeC b a) = false := by
  unfold beforeC
  by_cases h1 : a.s < b.s ∨ (a.s = b.s ∧ a.q < b.q) <;> by_cases h2 : b.s < a.s ∨ (b.s = a.s ∧ b.q < a.q) <;> simp [h1, h2]
  omega
end Go.XL
namespace Go.Proofs.YtgcjnhocoklfbaaGreatDoor
open Go.RowKit Go.Shelf Go.XL Go.ChangeShapes Go.WideShapes Go.ChangeAt
set_option linter.unusedVariables false
set_option linter.unusedSimpArgs false
attribute [local go_sem] Oper.semAt_some
set_option maxRecDepth 100000 in
set_option maxHeartbeats 8000000 in
theorem recTwo_any (a b : Rc) (w : World) (hG : GlU w) (h1 : RcOk w a) (h2 : RcOk w b) :
    Calls Tryz.prog 4 #[a.v, b.v] w fun e w' => e = .returned (.bool true) ∧ Fr no w w' := by
  obtain ⟨s1, q1, v1, d1, k1, x1⟩ := a
  obtain ⟨o1, c1, hv1, _, _⟩ := Rd.cap h1
  dsimp only at hv1
  subst hv1
  obtain ⟨s2, q2, v2, d2, k2, x2⟩ := b
  obtain ⟨o2, c2, hv2, _, _⟩ := Rd.cap h2
  dsimp only at hv2
  subst hv2
  obtain ⟨a, hA⟩ : ∃ r : Rc, (⟨s1, q1, .slice o1 d1.length c1, d1, k1, x1⟩ : Rc) = r := ⟨_, rfl⟩
  obtain ⟨b, hB⟩ : ∃ r : Rc, (⟨s2, q2, .slice o2 d2.length c2, d2, k2, x2⟩ : Rc) = r := ⟨_, rfl⟩
  have ea : a.v = .agg #[.int .i64 s1, .int .i64 q1, .slice o1 d1.length c1, .string k1, .string x1] := by rw [← hA]; rfl
  have eb : b.v = .agg #[.int .i64 s2, .int .i64 q2, .slice o2 d2.length c2, .string k2, .string x2] := by rw [← hB]; rfl
  rw [hA] at h1 ⊢
  rw [hB] at h2 ⊢
  rw [ea, eb]
  have HG := Lib.hid hG
  have F := Lib.hid (Fr.refl no w)
  have HA := Lib.hid h1
  have HB := Lib.hid h2
  have Ea := Lib.hid ea
  have Eb := Lib.hid eb
  clear hG h1 h2 ea eb hA hB
  go_enter Tryz.func4, Tryz.ntmps4
  go_wp2_with fail
  obtain ⟨w0, hw0⟩ : ∃ U, (w.alloc (.cells #[.int .i64 s1, .int .i64 q1, .slice o1 d1.length c1, .string k1, .string x1] 25)).alloc (.cells #[.int .i64 s2, .int .i64 q2, .slice o2 d2.length c2, .string k2, .string x2] 25) = U := ⟨_, rfl⟩
  obtain ⟨gx, hgx⟩ : ∃ g, w.heap.size = g := ⟨_, rfl⟩
  obtain ⟨gy, hgy⟩ : ∃ g, gx + 1 = g := ⟨_, rfl⟩
  have hbx : w0.heap[gx]? = some (.cells #[.int .i64 s1, .int .i64 q1, .slice o1 d1.length c1, .string k1, .string x1] 25 (0, 0)) := by rw [← hw0, ← hgx]; simp only [alloc_get, World.size_alloc]; simp
  have hby : w0.heap[gy]? = some (.cells #[.int .i64 s2, .int .i64 q2, .slice o2 d2.length c2, .string k2, .string x2] 25 (0, 0)) := by rw [← hw0, ← hgy, ← hgx]; simp only [alloc_get, World.size_alloc]; simp
  have hfd : Fr no w w0 := by rw [← hw0]; exact ((Fr.refl no w).alloc _).alloc _
  rw [hw0, hgx]
  try rw [hgy]
  replace F := Lib.hid (F.out.trans' hfd)
  replace HA := Lib.hid (HA.out.fr hfd)
  replace HB := Lib.hid (HB.out.fr hfd)
  have BX := Lib.hid hbx
  have BY := Lib.hid hby
  clear hfd hbx hby hw0 hgx hgy
  have hc := rknown w0 (HG.out.fr F.out)
  try rw [Ea.out] at hc
  try rw [Eb.out] at hc
  refine hc.mono ?_
  clear hc
  rintro e u1 ⟨rfl, hfd⟩
  replace F := Lib.hid (F.out.trans' hfd)
  replace HA := Lib.hid (HA.out.fr hfd)
  replace HB := Lib.hid (HB.out.fr hfd)
  replace BX := Lib.hid (hfd.heap BX.out (fun f => f))
  replace BY := Lib.hid (hfd.heap BY.out (fun f => f))
  clear hfd
  have xc0 : u1.cell? ⟨gx, 0, none⟩ = some (.int .i64 s1) := cell_of_block BX.out rfl
  have xc1 : u1.cell? ⟨gx, 1, none⟩ = some (.int .i64 q1) := cell_of_block BX.out rfl
  have xc2 : u1.cell? ⟨gx, 2, none⟩ = some (.slice o1 d1.length c1) := cell_of_block BX.out rfl
  have xc3 : u1.cell? ⟨gx, 3, none⟩ = some (.string k1) := cell_of_block BX.out rfl
  have xc4 : u1.cell? ⟨gx, 4, none⟩ = some (.string x1) := cell_of_block BX.out rfl
  have yc0 : u1.cell? ⟨gy, 0, none⟩ = some (.int .i64 s2) := cell_of_block BY.out rfl
  have yc1 : u1.cell? ⟨gy, 1, none⟩ = some (.int .i64 q2) := cell_of_block BY.out rfl
  have yc2 : u1.cell? ⟨gy, 2, none⟩ = some (.slice o2 d2.length c2) := cell_of_block BY.out rfl
  have yc3 : u1.cell? ⟨gy, 3, none⟩ = some (.string k2) := cell_of_block BY.out rfl
  have yc4 : u1.cell? ⟨gy, 4, none⟩ = some (.string x2) := cell_of_block BY.out rfl
  go_wp2_with fail
  clear xc0 xc1 xc2 xc3 xc4 yc0 yc1 yc2 yc3 yc4
  by_cases hfa : a.few = true
  · have hc := law_few a u1 HA.out
    rw [hfa] at hc
    try rw [Ea.out] at hc
    try rw [Eb.out] at hc
    refine hc.mono ?_
    clear hc
    rintro e u2 ⟨rfl, hfd⟩
    replace F := Lib.hid (F.out.trans' hfd)
    replace HA := Lib.hid (HA.out.fr hfd)
    replace HB := Lib.hid (HB.out.fr hfd)
    replace BX := Lib.hid (hfd.heap BX.out (fun f => f))
    replace BY := Lib.hid (hfd.heap BY.out (fun f => f))
    clear hfd
    clear hfa
    have xc0 : u2.cell? ⟨gx, 0, none⟩ = some (.int .i64 s1) := cell_of_block BX.out rfl
    have xc1 : u2.cell? ⟨gx, 1, none⟩ = some (.int .i64 q1) := cell_of_block BX.out rfl
    have xc2 : u2.cell? ⟨gx, 2, none⟩ = some (.slice o1 d1.length c1) := cell_of_block BX.out rfl
    have xc3 : u2.cell? ⟨gx, 3, none⟩ = some (.string k1) := cell_of_block BX.out rfl
    have xc4 : u2.cell? ⟨gx, 4, none⟩ = some (.string x1) := cell_of_block BX.out rfl
    have yc0 : u2.cell? ⟨gy, 0, none⟩ = some (.int .i64 s2) := cell_of_block BY.out rfl
    have yc1 : u2.cell? ⟨gy, 1, none⟩ = some (.int .i64 q2) := cell_of_block BY.out rfl
    have yc2 : u2.cell? ⟨gy, 2, none⟩ = some (.slice o2 d2.length c2) := cell_of_block BY.out rfl
    have yc3 : u2.cell? ⟨gy, 3, none⟩ = some (.string k2) := cell_of_block BY.out rfl
    have yc4 : u2.cell? ⟨gy, 4, none⟩ = some (.string x2) := cell_of_block BY.out rfl
    go_wp2_with fail
    clear xc0 xc1 xc2 xc3 xc4 yc0 yc1 yc2 yc3 yc4
    by_cases hfb : b.few = true
    · have hc := law_few b u2 HB.out
      rw [hfb] at hc
      try rw [Ea.out] at hc
      try rw [Eb.out] at hc
      refine hc.mono ?_
      clear hc
      rintro e u3 ⟨rfl, hfd⟩
      replace F := Lib.hid (F.out.trans' hfd)
      replace HA := Lib.hid (HA.out.fr hfd)
      replace HB := Lib.hid (HB.out.fr hfd)
      replace BX := Lib.hid (hfd.heap BX.out (fun f => f))
      replace BY := Lib.hid (hfd.heap BY.out (fun f => f))
      clear hfd
      clear hfb
      have xc0 : u3.cell? ⟨gx, 0, none⟩ = some (.int .i64 s1) := cell_of_block BX.out rfl
      have xc1 : u3.cell? ⟨gx, 1, none⟩ = some (.int .i64 q1) := cell_of_block BX.out rfl
      have xc2 : u3.cell? ⟨gx, 2, none⟩ = some (.slice o1 d1.length c1) := cell_of_block BX.out rfl
      have xc3 : u3.cell? ⟨gx, 3, none⟩ = some (.string k1) := cell_of_block BX.out rfl
      have xc4 : u3.cell? ⟨gx, 4, none⟩ = some (.string x1) := cell_of_block BX.out rfl
      have yc0 : u3.cell? ⟨gy, 0, none⟩ = some (.int .i64 s2) := cell_of_block BY.out rfl
      have yc1 : u3.cell? ⟨gy, 1, none⟩ = some (.int .i64 q2) := cell_of_block BY.out rfl
      have yc2 : u3.cell? ⟨gy, 2, none⟩ = some (.slice o2 d2.length c2) := cell_of_block BY.out rfl
      have yc3 : u3.cell? ⟨gy, 3, none⟩ = some (.string k2) := cell_of_block BY.out rfl
      have yc4 : u3.cell? ⟨gy, 4, none⟩ = some (.string x2) := cell_of_block BY.out rfl
      go_wp2_with fail
      clear xc0 xc1 xc2 xc3 xc4 yc0 yc1 yc2 yc3 yc4
      obtain ⟨p, hp⟩ : ∃ p, beforeC a b = p := ⟨_, rfl⟩
      obtain ⟨r, hr⟩ : ∃ p, beforeC b a = p := ⟨_, rfl⟩
      obtain ⟨q, hs⟩ : ∃ p, sameC a b = p := ⟨_, rfl⟩
      have hn := before_not a b
      rw [hp, hr] at hn
      have Hp := Lib.hid hp
      have Hr := Lib.hid hr
      have Hs := Lib.hid hs
      clear hp hr hs
      have xc0 : u3.cell? ⟨gx, 0, none⟩ = some (.int .i64 s1) := cell_of_block BX.out rfl
      have xc1 : u3.cell? ⟨gx, 1, none⟩ = some (.int .i64 q1) := cell_of_block BX.out rfl
      have xc2 : u3.cell? ⟨gx, 2, none⟩ = some (.slice o1 d1.length c1) := cell_of_block BX.out rfl
      have xc3 : u3.cell? ⟨gx, 3, none⟩ = some (.string k1) := cell_of_block BX.out rfl
      have xc4 : u3.cell? ⟨gx, 4, none⟩ = some (.string x1) := cell_of_block BX.out rfl
      have yc0 : u3.cell? ⟨gy, 0, none⟩ = some (.int .i64 s2) := cell_of_block BY.out rfl
      have yc1 : u3.cell? ⟨gy, 1, none⟩ = some (.int .i64 q2) := cell_of_block BY.out rfl
      have yc2 : u3.cell? ⟨gy, 2, none⟩ = some (.slice o2 d2.length c2) := cell_of_block BY.out rfl
      have yc3 : u3.cell? ⟨gy, 3, none⟩ = some (.string k2) := cell_of_block BY.out rfl
      have yc4 : u3.cell? ⟨gy, 4, none⟩ = some (.string x2) := cell_of_block BY.out rfl
      have hbf := fun W => r_before a b W
      have hbg := fun W => r_before b a W
      have hrf := fun W => ref_before a b W
      have hsm := fun W (hW : Fr no u3 W) => r_same a b W (HA.out.fr hW) (HB.out.fr hW)
      have hrs := fun W (hW : Fr no u3 W) => ref_samerec a b W (HA.out.fr hW) (HB.out.fr hW)
      have hoa := fun W (hW : Fr no u3 W) => law_of a W (HA.out.fr hW)
      have hob := fun W (hW : Fr no u3 W) => law_of b W (HB.out.fr hW)
      rw [Hp.out] at hbf hrf
      rw [Hr.out] at hbg
      rw [Hs.out] at hsm hrs
      rw [Ea.out, Eb.out] at hbf hbg hrf hsm hrs
      rw [Ea.out] at hoa
      rw [Eb.out] at hob
      have Hbf := Lib.hid hbf
      have Hbg := Lib.hid hbg
      have Hrf := Lib.hid hrf
      have Hsm := Lib.hid hsm
      have Hrs := Lib.hid hrs
      have Hoa := Lib.hid hoa
      have Hob := Lib.hid hob
      clear hbf hbg hrf hsm hrs hoa hob HA HB HG Ea Eb Hp Hr Hs
      cases p
      · clear hn
        cases r <;> cases q
        · skip
          refine wp_held (fun w' => w'.cell? ⟨gx, 0, none⟩ = some (.int .i64 s1) ∧ w'.cell? ⟨gx, 1, none⟩ = some (.int .i64 q1) ∧ w'.cell? ⟨gx, 2, none⟩ = some (.slice o1 d1.length c1) ∧ w'.cell? ⟨gx, 3, none⟩ = some (.string k1) ∧ w'.cell? ⟨gx, 4, none⟩ = some (.string x1) ∧ w'.cell? ⟨gy, 0, none⟩ = some (.int .i64 s2) ∧ w'.cell? ⟨gy, 1, none⟩ = some (.int .i64 q2) ∧ w'.cell? ⟨gy, 2, none⟩ = some (.slice o2 d2.length c2) ∧ w'.cell? ⟨gy, 3, none⟩ = some (.string k2) ∧ w'.cell? ⟨gy, 4, none⟩ = some (.string x2)) (by kernel_rfl) ?_ (fun hHeld => ?_)
          · exact ⟨xc0, xc1, xc2, xc3, xc4, yc0, yc1, yc2, yc3, yc4⟩
          refine held_take (v := ?_) 0 rfl (by kernel_rfl) (.inl ⟨by rfl, ?_⟩) hHeld ?_
          rotate_left
          · intro w hSw; (try dsimp only at hSw); first | (go_simp; done) | (go_simp; with_reducible rfl)
          try simp only [Act.put, List.setIfInBounds_toArray, List.set_cons_zero, List.set_cons_succ]
          refine held_take (v := ?_) 1 rfl (by kernel_rfl) (.inl ⟨by rfl, ?_⟩) hHeld ?_
          rotate_left
          · intro w hSw; (try dsimp only at hSw); first | (go_simp; done) | (go_simp; with_reducible rfl)
          try simp only [Act.put, List.setIfInBounds_toArray, List.set_cons_zero, List.set_cons_succ]
          refine held_take (v := ?_) 3 rfl (by kernel_rfl) (.inl ⟨by rfl, ?_⟩) hHeld ?_
          rotate_left
          · intro w hSw; (try dsimp only at hSw); first | (go_simp; done) | (go_simp; with_reducible rfl)
          try simp only [Act.put, List.setIfInBounds_toArray, List.set_cons_zero, List.set_cons_succ]
          refine held_take (v := ?_) 5 rfl (by kernel_rfl) (.inl ⟨by rfl, ?_⟩) hHeld ?_
          rotate_left
          · intro w hSw; (try dsimp only at hSw); first | (go_simp; done) | (go_simp; with_reducible rfl)
          try simp only [Act.put, List.setIfInBounds_toArray, List.set_cons_zero, List.set_cons_succ]
          refine held_call 2 rfl (by kernel_rfl) (fun K hK => ?_)
          go_simp
          go_at_call 19; refine (Hbf.out _).mono ?_; rintro e wa ⟨rfl, hfd⟩; have HF := Lib.hid ((Fr.drew (Fr.refl no u3)).trans' hfd); clear hfd
          refine hK.out _ _ ?_ (fun hHeld' => ?_)
          · have hb1 := HF.out.heap BX.out (fun f => f); have hb2 := HF.out.heap BY.out (fun f => f); exact ⟨cell_of_block hb1 rfl, cell_of_block hb1 rfl, cell_of_block hb1 rfl, cell_of_block hb1 rfl, cell_of_block hb1 rfl, cell_of_block hb2 rfl, cell_of_block hb2 rfl, cell_of_block hb2 rfl, cell_of_block hb2 rfl, cell_of_block hb2 rfl⟩
          clear hK K hHeld
          have hHeld := hHeld'
          clear hHeld'
          try simp only [Act.put, List.setIfInBounds_toArray, List.set_cons_zero, List.set_cons_succ]
          refine held_call 4 rfl (by kernel_rfl) (fun K hK => ?_)
          go_simp
          go_at_call 12; refine (Hoa.out _ HF.out).mono ?_; rintro e wa ⟨rfl, hfd⟩; replace HF := Lib.hid (HF.out.trans' hfd); clear hfd
          refine hK.out _ _ ?_ (fun hHeld' => ?_)
          · have hb1 := HF.out.heap BX.out (fun f => f); have hb2 := HF.out.heap BY.out (fun f => f); exact ⟨cell_of_block hb1 rfl, cell_of_block hb1 rfl, cell_of_block hb1 rfl, cell_of_block hb1 rfl, cell_of_block hb1 rfl, cell_of_block hb2 rfl, cell_of_block hb2 rfl, cell_of_block hb2 rfl, cell_of_block hb2 rfl, cell_of_block hb2 rfl⟩
          clear hK K hHeld
          have hHeld := hHeld'
          clear hHeld'
          try simp only [Act.put, List.setIfInBounds_toArray, List.set_cons_zero, List.set_cons_succ]
          refine held_call 6 rfl (by kernel_rfl) (fun K hK => ?_)
          go_simp
          go_at_call 12; refine (Hob.out _ HF.out).mono ?_; rintro e wa ⟨rfl, hfd⟩; replace HF := Lib.hid (HF.out.trans' hfd); clear hfd
          refine hK.out _ _ ?_ (fun hHeld' => ?_)
          · have hb1 := HF.out.heap BX.out (fun f => f); have hb2 := HF.out.heap BY.out (fun f => f); exact ⟨cell_of_block hb1 rfl, cell_of_block hb1 rfl, cell_of_block hb1 rfl, cell_of_block hb1 rfl, cell_of_block hb1 rfl, cell_of_block hb2 rfl, cell_of_block hb2 rfl, cell_of_block hb2 rfl, cell_of_block hb2 rfl, cell_of_block hb2 rfl⟩
          clear hK K hHeld
          have hHeld := hHeld'
          clear hHeld'
          try simp only [Act.put, List.setIfInBounds_toArray, List.set_cons_zero, List.set_cons_succ]
          refine held_call 7 rfl (by kernel_rfl) (fun K hK => ?_)
          go_simp
          go_at_call 20; refine (Hrf.out _).mono ?_; rintro e wa ⟨rfl, hfd⟩; replace HF := Lib.hid (HF.out.trans' hfd); clear hfd
          refine hK.out _ _ ?_ (fun hHeld' => ?_)
          · have hb1 := HF.out.heap BX.out (fun f => f); have hb2 := HF.out.heap BY.out (fun f => f); exact ⟨cell_of_block hb1 rfl, cell_of_block hb1 rfl, cell_of_block hb1 rfl, cell_of_block hb1 rfl, cell_of_block hb1 rfl, cell_of_block hb2 rfl, cell_of_block hb2 rfl, cell_of_block hb2 rfl, cell_of_block hb2 rfl, cell_of_block hb2 rfl⟩
          clear hK K hHeld
          have hHeld := hHeld'
          clear hHeld'
          try simp only [Act.put, List.setIfInBounds_toArray, List.set_cons_zero, List.set_cons_succ]
          refine held_take (v := ?_) 8 rfl (by kernel_rfl) (.inl ⟨by rfl, ?_⟩) hHeld ?_
          rotate_left
          · intro w hSw; (try dsimp only at hSw); first | (go_simp; done) | (go_simp; with_reducible rfl)
          try simp only [Act.put, List.setIfInBounds_toArray, List.set_cons_zero, List.set_cons_succ]
          refine held_take (v := ?_) 9 rfl (by kernel_rfl) (.inl ⟨by rfl, ?_⟩) hHeld ?_
          rotate_left
          · intro w hSw; (try dsimp only at hSw); first | (go_simp; done) | (go_simp; with_reducible rfl)
          try simp only [Act.put, List.setIfInBounds_toArray, List.set_cons_zero, List.set_cons_succ]
          refine held_take (v := ?_) 10 rfl (by kernel_rfl) (.inl ⟨by rfl, ?_⟩) hHeld ?_
          rotate_left
          · intro w hSw; (try dsimp only at hSw); first | (go_simp; done) | (go_simp; with_reducible rfl)
          try simp only [Act.put, List.setIfInBounds_toArray, List.set_cons_zero, List.set_cons_succ]
          refine held_take (v := ?_) 11 rfl (by kernel_rfl) (.inl ⟨by rfl, ?_⟩) hHeld ?_
          rotate_left
          · intro w hSw; (try dsimp only at hSw); first | (go_simp; done) | (go_simp; with_reducible rfl)
          try simp only [Act.put, List.setIfInBounds_toArray, List.set_cons_zero, List.set_cons_succ]
          refine held_take (v := ?_) 13 rfl (by kernel_rfl) (.inl ⟨by rfl, ?_⟩) hHeld ?_
          rotate_left
          · intro w hSw; (try dsimp only at hSw); first | (go_simp; done) | (go_simp; with_reducible rfl)
          try simp only [Act.put, List.setIfInBounds_toArray, List.set_cons_zero, List.set_cons_succ]
          refine held_take (v := ?_) 15 rfl (by kernel_rfl) (.inl ⟨by rfl, ?_⟩) hHeld ?_
          rotate_left
          · intro w hSw; (try dsimp only at hSw); first | (go_simp; done) | (go_simp; with_reducible rfl)
          try simp only [Act.put, List.setIfInBounds_toArray, List.set_cons_zero, List.set_cons_succ]
          refine held_call 12 rfl (by kernel_rfl) (fun K hK => ?_)
          go_simp
          go_at_call 21; refine (Hsm.out _ HF.out).mono ?_; rintro e wa ⟨rfl, hfd⟩; replace HF := Lib.hid (HF.out.trans' hfd); clear hfd
          refine hK.out _ _ ?_ (fun hHeld' => ?_)
          · have hb1 := HF.out.heap BX.out (fun f => f); have hb2 := HF.out.heap BY.out (fun f => f); exact ⟨cell_of_block hb1 rfl, cell_of_block hb1 rfl, cell_of_block hb1 rfl, cell_of_block hb1 rfl, cell_of_block hb1 rfl, cell_of_block hb2 rfl, cell_of_block hb2 rfl, cell_of_block hb2 rfl, cell_of_block hb2 rfl, cell_of_block hb2 rfl⟩
          clear hK K hHeld
          have hHeld := hHeld'
          clear hHeld'
          try simp only [Act.put, List.setIfInBounds_toArray, List.set_cons_zero, List.set_cons_succ]
          refine held_call 14 rfl (by kernel_rfl) (fun K hK => ?_)
          go_simp
          go_at_call 12; refine (Hoa.out _ HF.out).mono ?_; rintro e wa ⟨rfl, hfd⟩; replace HF := Lib.hid (HF.out.trans' hfd); clear hfd
          refine hK.out _ _ ?_ (fun hHeld' => ?_)
          · have hb1 := HF.out.heap BX.out (fun f => f); have hb2 := HF.out.heap BY.out (fun f => f); exact ⟨cell_of_block hb1 rfl, cell_of_block hb1 rfl, cell_of_block hb1 rfl, cell_of_block hb1 rfl, cell_of_block hb1 rfl, cell_of_block hb2 rfl, cell_of_block hb2 rfl, cell_of_block hb2 rfl, cell_of_block hb2 rfl, cell_of_block hb2 rfl⟩
          clear hK K hHeld
          have hHeld := hHeld'
          clear hHeld'
          try simp only [Act.put, List.setIfInBounds_toArray, List.set_cons_zero, List.set_cons_succ]
          refine held_call 16 rfl (by kernel_rfl) (fun K hK => ?_)
          go_simp
          go_at_call 12; refine (Hob.out _ HF.out).mono ?_; rintro e wa ⟨rfl, hfd⟩; replace HF := Lib.hid (HF.out.trans' hfd); clear hfd
          refine hK.out _ _ ?_ (fun hHeld' => ?_)
          · have hb1 := HF.out.heap BX.out (fun f => f); have hb2 := HF.out.heap BY.out (fun f => f); exact ⟨cell_of_block hb1 rfl, cell_of_block hb1 rfl, cell_of_block hb1 rfl, cell_of_block hb1 rfl, cell_of_block hb1 rfl, cell_of_block hb2 rfl, cell_of_block hb2 rfl, cell_of_block hb2 rfl, cell_of_block hb2 rfl, cell_of_block hb2 rfl⟩
          clear hK K hHeld
          have hHeld := hHeld'
          clear hHeld'
          try simp only [Act.put, List.setIfInBounds_toArray, List.set_cons_zero, List.set_cons_succ]
          refine held_call 17 rfl (by kernel_rfl) (fun K hK => ?_)
          go_simp
          go_at_call 18; refine (Hrs.out _ HF.out).mono ?_; rintro e wa ⟨rfl, hfd⟩; replace HF := Lib.hid (HF.out.trans' hfd); clear hfd
          refine hK.out _ _ ?_ (fun hHeld' => ?_)
          · have hb1 := HF.out.heap BX.out (fun f => f); have hb2 := HF.out.heap BY.out (fun f => f); exact ⟨cell_of_block hb1 rfl, cell_of_block hb1 rfl, cell_of_block hb1 rfl, cell_of_block hb1 rfl, cell_of_block hb1 rfl, cell_of_block hb2 rfl, cell_of_block hb2 rfl, cell_of_block hb2 rfl, cell_of_block hb2 rfl, cell_of_block hb2 rfl⟩
          clear hK K hHeld
          have hHeld := hHeld'
          clear hHeld'
          try simp only [Act.put, List.setIfInBounds_toArray, List.set_cons_zero, List.set_cons_succ]
          refine held_take (v := ?_) 18 rfl (by kernel_rfl) (.inl ⟨by rfl, ?_⟩) hHeld ?_
          rotate_left
          · intro w hSw; (try dsimp only at hSw); first | (go_simp; done) | (go_simp; with_reducible rfl)
          try simp only [Act.put, List.setIfInBounds_toArray, List.set_cons_zero, List.set_cons_succ]
          refine held_take (v := ?_) 19 rfl (by kernel_rfl) (.inl ⟨by rfl, ?_⟩) hHeld ?_
          rotate_left
          · intro w hSw; (try dsimp only at hSw); first | (go_simp; done) | (go_simp; with_reducible rfl)
          try simp only [Act.put, List.setIfInBounds_toArray, List.set_cons_zero, List.set_cons_succ]
          refine held_take (v := ?_) 20 rfl (by kernel_rfl) (.inl ⟨by rfl, ?_⟩) hHeld ?_
          rotate_left
          · intro w hSw; (try dsimp only at hSw); first | (go_simp; done) | (go_simp; with_reducible rfl)
          try simp only [Act.put, List.setIfInBounds_toArray, List.set_cons_zero, List.set_cons_succ]
          refine held_take (v := ?_) 21 rfl (by kernel_rfl) (.inl ⟨by rfl, ?_⟩) hHeld ?_
          rotate_left
          · intro w hSw; (try dsimp only at hSw); first | (go_simp; done) | (go_simp; with_reducible rfl)
          try simp only [Act.put, List.setIfInBounds_toArray, List.set_cons_zero, List.set_cons_succ]
          refine held_take (v := ?_) 22 rfl (by kernel_rfl) (.inl ⟨by rfl, ?_⟩) hHeld ?_
          rotate_left
          · intro w hSw; (try dsimp only at hSw); first | (go_simp; done) | (go_simp; with_reducible rfl)
          try simp only [Act.put, List.setIfInBounds_toArray, List.set_cons_zero, List.set_cons_succ]
          refine held_call 23 rfl (by kernel_rfl) (fun K hK => ?_)
          go_simp
          go_at_call 19; refine (Hbf.out _).mono ?_; rintro e wa ⟨rfl, hfd⟩; replace HF := Lib.hid (HF.out.trans' hfd); clear hfd
          refine hK.out _ _ ?_ (fun hHeld' => ?_)
          · have hb1 := HF.out.heap BX.out (fun f => f); have hb2 := HF.out.heap BY.out (fun f => f); exact ⟨cell_of_block hb1 rfl, cell_of_block hb1 rfl, cell_of_block hb1 rfl, cell_of_block hb1 rfl, cell_of_block hb1 rfl, cell_of_block hb2 rfl, cell_of_block hb2 rfl, cell_of_block hb2 rfl, cell_of_block hb2 rfl, cell_of_block hb2 rfl⟩
          clear hK K hHeld
          have hHeld := hHeld'
          clear hHeld'
          try simp only [Act.put, List.setIfInBounds_toArray, List.set_cons_zero, List.set_cons_succ]
          refine held_take (v := ?_) 24 rfl (by kernel_rfl) (.inl ⟨by rfl, ?_⟩) hHeld ?_
          rotate_left
          · intro w hSw; (try dsimp only at hSw); first | (go_simp; done) | (go_simp; with_reducible rfl)
          try simp only [Act.put, List.setIfInBounds_toArray, List.set_cons_zero, List.set_cons_succ]
          refine held_take 25 rfl (by kernel_rfl) (.inr ⟨by rfl, rfl⟩) hHeld ?_
          try simp only [Act.put, List.setIfInBounds_toArray, List.set_cons_zero, List.set_cons_succ]
          refine held_take 26 rfl (by kernel_rfl) (.inr ⟨by rfl, rfl⟩) hHeld ?_
          try simp only [Act.put, List.setIfInBounds_toArray, List.set_cons_zero, List.set_cons_succ]
          refine held_take 27 rfl (by kernel_rfl) (.inr ⟨by rfl, rfl⟩) hHeld ?_
          try simp only [Act.put, List.setIfInBounds_toArray, List.set_cons_zero, List.set_cons_succ]
          refine held_take (v := ?_) 28 rfl (by kernel_rfl) (.inl ⟨by rfl, ?_⟩) hHeld ?_
          rotate_left
          · intro w hSw; (try dsimp only at hSw); first | (go_simp; done) | (go_simp; with_reducible rfl)
          try simp only [Act.put, List.setIfInBounds_toArray, List.set_cons_zero, List.set_cons_succ]
          refine held_take (v := ?_) 29 rfl (by kernel_rfl) (.inl ⟨by rfl, ?_⟩) hHeld ?_
          rotate_left
          · intro w hSw; (try dsimp only at hSw); first | (go_simp; done) | (go_simp; with_reducible rfl)
          try simp only [Act.put, List.setIfInBounds_toArray, List.set_cons_zero, List.set_cons_succ]
          refine held_take (v := ?_) 30 rfl (by kernel_rfl) (.inl ⟨by rfl, ?_⟩) hHeld ?_
          rotate_left
          · intro w hSw; (try dsimp only at hSw); first | (go_simp; done) | (go_simp; with_reducible rfl)
          try simp only [Act.put, List.setIfInBounds_toArray, List.set_cons_zero, List.set_cons_succ]
          refine held_take (v := ?_) 31 rfl (by kernel_rfl) (.inl ⟨by rfl, ?_⟩) hHeld ?_
          rotate_left
          · intro w hSw; (try dsimp only at hSw); first | (go_simp; done) | (go_simp; with_reducible rfl)
          try simp only [Act.put, List.setIfInBounds_toArray, List.set_cons_zero, List.set_cons_succ]
          refine held_done (by kernel_rfl) ?_
          try clear hHeld
          go_wp2
          go_ret
          exact ⟨rfl, F.out.trans' HF.out⟩
        · skip
          refine wp_held (fun w' => w'.cell? ⟨gx, 0, none⟩ = some (.int .i64 s1) ∧ w'.cell? ⟨gx, 1, none⟩ = some (.int .i64 q1) ∧ w'.cell? ⟨gx, 2, none⟩ = some (.slice o1 d1.length c1) ∧ w'.cell? ⟨gx, 3, none⟩ = some (.string k1) ∧ w'.cell? ⟨gx, 4, none⟩ = some (.string x1) ∧ w'.cell? ⟨gy, 0, none⟩ = some (.int .i64 s2) ∧ w'.cell? ⟨gy, 1, none⟩ = some (.int .i64 q2) ∧ w'.cell? ⟨gy, 2, none⟩ = some (.slice o2 d2.length c2) ∧ w'.cell? ⟨gy, 3, none⟩ = some (.string k2) ∧ w'.cell? ⟨gy, 4, none⟩ = some (.string x2)) (by kernel_rfl) ?_ (fun hHeld => ?_)
          · exact ⟨xc0, xc1, xc2, xc3, xc4, yc0, yc1, yc2, yc3, yc4⟩
          refine held_take (v := ?_) 0 rfl (by kernel_rfl) (.inl ⟨by rfl, ?_⟩) hHeld ?_
          rotate_left
          · intro w hSw; (try dsimp only at hSw); first | (go_simp; done) | (go_simp; with_reducible rfl)
          try simp only [Act.put, List.setIfInBounds_toArray, List.set_cons_zero, List.set_cons_succ]
          refine held_take (v := ?_) 1 rfl (by kernel_rfl) (.inl ⟨by rfl, ?_⟩) hHeld ?_
          rotate_left
          · intro w hSw; (try dsimp only at hSw); first | (go_simp; done) | (go_simp; with_reducible rfl)
          try simp only [Act.put, List.setIfInBounds_toArray, List.set_cons_zero, List.set_cons_succ]
          refine held_take (v := ?_) 3 rfl (by kernel_rfl) (.inl ⟨by rfl, ?_⟩) hHeld ?_
          rotate_left
          · intro w hSw; (try dsimp only at hSw); first | (go_simp; done) | (go_simp; with_reducible rfl)
          try simp only [Act.put, List.setIfInBounds_toArray, List.set_cons_zero, List.set_cons_succ]
          refine held_take (v := ?_) 5 rfl (by kernel_rfl) (.inl ⟨by rfl, ?_⟩) hHeld ?_
          rotate_left
          · intro w hSw; (try dsimp only at hSw); first | (go_simp; done) | (go_simp; with_reducible rfl)
          try simp only [Act.put, List.setIfInBounds_toArray, List.set_cons_zero, List.set_cons_succ]
          refine held_call 2 rfl (by kernel_rfl) (fun K hK => ?_)
          go_simp
          go_at_call 19; refine (Hbf.out _).mono ?_; rintro e wa ⟨rfl, hfd⟩; have HF := Lib.hid ((Fr.drew (Fr.refl no u3)).trans' hfd); clear hfd
          refine hK.out _ _ ?_ (fun hHeld' => ?_)
          · have hb1 := HF.out.heap BX.out (fun f => f); have hb2 := HF.out.heap BY.out (fun f => f); exact ⟨cell_of_block hb1 rfl, cell_of_block hb1 rfl, cell_of_block hb1 rfl, cell_of_block hb1 rfl, cell_of_block hb1 rfl, cell_of_block hb2 rfl, cell_of_block hb2 rfl, cell_of_block hb2 rfl, cell_of_block hb2 rfl, cell_of_block hb2 rfl⟩
          clear hK K hHeld
          have hHeld := hHeld'
          clear hHeld'
          try simp only [Act.put, List.setIfInBounds_toArray, List.set_cons_zero, List.set_cons_succ]
          refine held_call 4 rfl (by kernel_rfl) (fun K hK => ?_)
          go_simp
          go_at_call 12; refine (Hoa.out _ HF.out).mono ?_; rintro e wa ⟨rfl, hfd⟩; replace HF := Lib.hid (HF.out.trans' hfd); clear hfd
          refine hK.out _ _ ?_ (fun hHeld' => ?_)
          · have hb1 := HF.out.heap BX.out (fun f => f); have hb2 := HF.out.heap BY.out (fun f => f); exact ⟨cell_of_block hb1 rfl, cell_of_block hb1 rfl, cell_of_block hb1 rfl, cell_of_block hb1 rfl, cell_of_block hb1 rfl, cell_of_block hb2 rfl, cell_of_block hb2 rfl, cell_of_block hb2 rfl, cell_of_block hb2 rfl, cell_of_block hb2 rfl⟩
          clear hK K hHeld
          have hHeld := hHeld'
          clear hHeld'
          try simp only [Act.put, List.setIfInBounds_toArray, List.set_cons_zero, List.set_cons_succ]
          refine held_call 6 rfl (by kernel_rfl) (fun K hK => ?_)
          go_simp
          go_at_call 12; refine (Hob.out _ HF.out).mono ?_; rintro e wa ⟨rfl, hfd⟩; replace HF := Lib.hid (HF.out.trans' hfd); clear hfd
          refine hK.out _ _ ?_ (fun hHeld' => ?_)
          · have hb1 := HF.out.heap BX.out (fun f => f); have hb2 := HF.out.heap BY.out (fun f => f); exact ⟨cell_of_block hb1 rfl, cell_of_block hb1 rfl, cell_of_block hb1 rfl, cell_of_block hb1 rfl, cell_of_block hb1 rfl, cell_of_block hb2 rfl, cell_of_block hb2 rfl, cell_of_block hb2 rfl, cell_of_block hb2 rfl, cell_of_block hb2 rfl⟩
          clear hK K hHeld
          have hHeld := hHeld'
          clear hHeld'
          try simp only [Act.put, List.setIfInBounds_toArray, List.set_cons_zero, List.set_cons_succ]
          refine held_call 7 rfl (by kernel_rfl) (fun K hK => ?_)
          go_simp
          go_at_call 20; refine (Hrf.out _).mono ?_; rintro e wa ⟨rfl, hfd⟩; replace HF := Lib.hid (HF.out.trans' hfd); clear hfd
          refine hK.out _ _ ?_ (fun hHeld' => ?_)
          · have hb1 := HF.out.heap BX.out (fun f => f); have hb2 := HF.out.heap BY.out (fun f => f); exact ⟨cell_of_block hb1 rfl, cell_of_block hb1 rfl, cell_of_block hb1 rfl, cell_of_block hb1 rfl, cell_of_block hb1 rfl, cell_of_block hb2 rfl, cell_of_block hb2 rfl, cell_of_block hb2 rfl, cell_of_block hb2 rfl, cell_of_block hb2 rfl⟩
          clear hK K hHeld
          have hHeld := hHeld'
          clear hHeld'
          try simp only [Act.put, List.setIfInBounds_toArray, List.set_cons_zero, List.set_cons_succ]
          refine held_take (v := ?_) 8 rfl (by kernel_rfl) (.inl ⟨by rfl, ?_⟩) hHeld ?_
          rotate_left
          · intro w hSw; (try dsimp only at hSw); first | (go_simp; done) | (go_simp; with_reducible rfl)
          try simp only [Act.put, List.setIfInBounds_toArray, List.set_cons_zero, List.set_cons_succ]
          refine held_take (v := ?_) 9 rfl (by kernel_rfl) (.inl ⟨by rfl, ?_⟩) hHeld ?_
          rotate_left
          · intro w hSw; (try dsimp only at hSw); first | (go_simp; done) | (go_simp; with_reducible rfl)
          try simp only [Act.put, List.setIfInBounds_toArray, List.set_cons_zero, List.set_cons_succ]
          refine held_take (v := ?_) 10 rfl (by kernel_rfl) (.inl ⟨by rfl, ?_⟩) hHeld ?_
          rotate_left
          · intro w hSw; (try dsimp only at hSw); first | (go_simp; done) | (go_simp; with_reducible rfl)
          try simp only [Act.put, List.setIfInBounds_toArray, List.set_cons_zero, List.set_cons_succ]
          refine held_take (v := ?_) 11 rfl (by kernel_rfl) (.inl ⟨by rfl, ?_⟩) hHeld ?_
          rotate_left
          · intro w hSw; (try dsimp only at hSw); first | (go_simp; done) | (go_simp; with_reducible rfl)
          try simp only [Act.put, List.setIfInBounds_toArray, List.set_cons_zero, List.set_cons_succ]
          refine held_take (v := ?_) 13 rfl (by kernel_rfl) (.inl ⟨by rfl, ?_⟩) hHeld ?_
          rotate_left
          · intro w hSw; (try dsimp only at hSw); first | (go_simp; done) | (go_simp; with_reducible rfl)
          try simp only [Act.put, List.setIfInBounds_toArray, List.set_cons_zero, List.set_cons_succ]
          refine held_take (v := ?_) 15 rfl (by kernel_rfl) (.inl ⟨by rfl, ?_⟩) hHeld ?_
          rotate_left
          · intro w hSw; (try dsimp only at hSw); first | (go_simp; done) | (go_simp; with_reducible rfl)
          try simp only [Act.put, List.setIfInBounds_toArray, List.set_cons_zero, List.set_cons_succ]
          refine held_call 12 rfl (by kernel_rfl) (fun K hK => ?_)
          go_simp
          go_at_call 21; refine (Hsm.out _ HF.out).mono ?_; rintro e wa ⟨rfl, hfd⟩; replace HF := Lib.hid (HF.out.trans' hfd); clear hfd
          refine hK.out _ _ ?_ (fun hHeld' => ?_)
          · have hb1 := HF.out.heap BX.out (fun f => f); have hb2 := HF.out.heap BY.out (fun f => f); exact ⟨cell_of_block hb1 rfl, cell_of_block hb1 rfl, cell_of_block hb1 rfl, cell_of_block hb1 rfl, cell_of_block hb1 rfl, cell_of_block hb2 rfl, cell_of_block hb2 rfl, cell_of_block hb2 rfl, cell_of_block hb2 rfl, cell_of_block hb2 rfl⟩
          clear hK K hHeld
          have hHeld := hHeld'
          clear hHeld'
          try simp only [Act.put, List.setIfInBounds_toArray, List.set_cons_zero, List.set_cons_succ]
          refine held_call 14 rfl (by kernel_rfl) (fun K hK => ?_)
          go_simp
          go_at_call 12; refine (Hoa.out _ HF.out).mono ?_; rintro e wa ⟨rfl, hfd⟩; replace HF := Lib.hid (HF.out.trans' hfd); clear hfd
          refine hK.out _ _ ?_ (fun hHeld' => ?_)
          · have hb1 := HF.out.heap BX.out (fun f => f); have hb2 := HF.out.heap BY.out (fun f => f); exact ⟨cell_of_block hb1 rfl, cell_of_block hb1 rfl, cell_of_block hb1 rfl, cell_of_block hb1 rfl, cell_of_block hb1 rfl, cell_of_block hb2 rfl, cell_of_block hb2 rfl, cell_of_block hb2 rfl, cell_of_block hb2 rfl, cell_of_block hb2 rfl⟩
          clear hK K hHeld
          have hHeld := hHeld'
          clear hHeld'
          try simp only [Act.put, List.setIfInBounds_toArray, List.set_cons_zero, List.set_cons_succ]
          refine held_call 16 rfl (by kernel_rfl) (fun K hK => ?_)
          go_simp
          go_at_call 12; refine (Hob.out _ HF.out).mono ?_; rintro e wa ⟨rfl, hfd⟩; replace HF := Lib.hid (HF.out.trans' hfd); clear hfd
          refine hK.out _ _ ?_ (fun hHeld' => ?_)
          · have hb1 := HF.out.heap BX.out (fun f => f); have hb2 := HF.out.heap BY.out (fun f => f); exact ⟨cell_of_block hb1 rfl, cell_of_block hb1 rfl, cell_of_block hb1 rfl, cell_of_block hb1 rfl, cell_of_block hb1 rfl, cell_of_block hb2 rfl, cell_of_block hb2 rfl, cell_of_block hb2 rfl, cell_of_block hb2 rfl, cell_of_block hb2 rfl⟩
          clear hK K hHeld
          have hHeld := hHeld'
          clear hHeld'
          try simp only [Act.put, List.setIfInBounds_toArray, List.set_cons_zero, List.set_cons_succ]
          refine held_call 17 rfl (by kernel_rfl) (fun K hK => ?_)
          go_simp
          go_at_call 18; refine (Hrs.out _ HF.out).mono ?_; rintro e wa ⟨rfl, hfd⟩; replace HF := Lib.hid (HF.out.trans' hfd); clear hfd
          refine hK.out _ _ ?_ (fun hHeld' => ?_)
          · have hb1 := HF.out.heap BX.out (fun f => f); have hb2 := HF.out.heap BY.out (fun f => f); exact ⟨cell_of_block hb1 rfl, cell_of_block hb1 rfl, cell_of_block hb1 rfl, cell_of_block hb1 rfl, cell_of_block hb1 rfl, cell_of_block hb2 rfl, cell_of_block hb2 rfl, cell_of_block hb2 rfl, cell_of_block hb2 rfl, cell_of_block hb2 rfl⟩
          clear hK K hHeld
          have hHeld := hHeld'
          clear hHeld'
          try simp only [Act.put, List.setIfInBounds_toArray, List.set_cons_zero, List.set_cons_succ]
          refine held_take (v := ?_) 18 rfl (by kernel_rfl) (.inl ⟨by rfl, ?_⟩) hHeld ?_
          rotate_left
          · intro w hSw; (try dsimp only at hSw); first | (go_simp; done) | (go_simp; with_reducible rfl)
          try simp only [Act.put, List.setIfInBounds_toArray, List.set_cons_zero, List.set_cons_succ]
          refine held_take (v := ?_) 19 rfl (by kernel_rfl) (.inl ⟨by rfl, ?_⟩) hHeld ?_
          rotate_left
          · intro w hSw; (try dsimp only at hSw); first | (go_simp; done) | (go_simp; with_reducible rfl)
          try simp only [Act.put, List.setIfInBounds_toArray, List.set_cons_zero, List.set_cons_succ]
          refine held_take (v := ?_) 20 rfl (by kernel_rfl) (.inl ⟨by rfl, ?_⟩) hHeld ?_
          rotate_left
          · intro w hSw; (try dsimp only at hSw); first | (go_simp; done) | (go_simp; with_reducible rfl)
          try simp only [Act.put, List.setIfInBounds_toArray, List.set_cons_zero, List.set_cons_succ]
          refine held_take (v := ?_) 21 rfl (by kernel_rfl) (.inl ⟨by rfl, ?_⟩) hHeld ?_
          rotate_left
          · intro w hSw; (try dsimp only at hSw); first | (go_simp; done) | (go_simp; with_reducible rfl)
          try simp only [Act.put, List.setIfInBounds_toArray, List.set_cons_zero, List.set_cons_succ]
          refine held_take (v := ?_) 22 rfl (by kernel_rfl) (.inl ⟨by rfl, ?_⟩) hHeld ?_
          rotate_left
          · intro w hSw; (try dsimp only at hSw); first | (go_simp; done) | (go_simp; with_reducible rfl)
          try simp only [Act.put, List.setIfInBounds_toArray, List.set_cons_zero, List.set_cons_succ]
          refine held_call 23 rfl (by kernel_rfl) (fun K hK => ?_)
          go_simp
          go_at_call 19; refine (Hbf.out _).mono ?_; rintro e wa ⟨rfl, hfd⟩; replace HF := Lib.hid (HF.out.trans' hfd); clear hfd
          refine hK.out _ _ ?_ (fun hHeld' => ?_)
          · have hb1 := HF.out.heap BX.out (fun f => f); have hb2 := HF.out.heap BY.out (fun f => f); exact ⟨cell_of_block hb1 rfl, cell_of_block hb1 rfl, cell_of_block hb1 rfl, cell_of_block hb1 rfl, cell_of_block hb1 rfl, cell_of_block hb2 rfl, cell_of_block hb2 rfl, cell_of_block hb2 rfl, cell_of_block hb2 rfl, cell_of_block hb2 rfl⟩
          clear hK K hHeld
          have hHeld := hHeld'
          clear hHeld'
          try simp only [Act.put, List.setIfInBounds_toArray, List.set_cons_zero, List.set_cons_succ]
          refine held_take (v := ?_) 24 rfl (by kernel_rfl) (.inl ⟨by rfl, ?_⟩) hHeld ?_
          rotate_left
          · intro w hSw; (try dsimp only at hSw); first | (go_simp; done) | (go_simp; with_reducible rfl)
          try simp only [Act.put, List.setIfInBounds_toArray, List.set_cons_zero, List.set_cons_succ]
          refine held_take 25 rfl (by kernel_rfl) (.inr ⟨by rfl, rfl⟩) hHeld ?_
          try simp only [Act.put, List.setIfInBounds_toArray, List.set_cons_zero, List.set_cons_succ]
          refine held_take 26 rfl (by kernel_rfl) (.inr ⟨by rfl, rfl⟩) hHeld ?_
          try simp only [Act.put, List.setIfInBounds_toArray, List.set_cons_zero, List.set_cons_succ]
          refine held_take 27 rfl (by kernel_rfl) (.inr ⟨by rfl, rfl⟩) hHeld ?_
          try simp only [Act.put, List.setIfInBounds_toArray, List.set_cons_zero, List.set_cons_succ]
          refine held_take (v := ?_) 28 rfl (by kernel_rfl) (.inl ⟨by rfl, ?_⟩) hHeld ?_
          rotate_left
          · intro w hSw; (try dsimp only at hSw); first | (go_simp; done) | (go_simp; with_reducible rfl)
          try simp only [Act.put, List.setIfInBounds_toArray, List.set_cons_zero, List.set_cons_succ]
          refine held_take (v := ?_) 29 rfl (by kernel_rfl) (.inl ⟨by rfl, ?_⟩) hHeld ?_
          rotate_left
          · intro w hSw; (try dsimp only at hSw); first | (go_simp; done) | (go_simp; with_reducible rfl)
          try simp only [Act.put, List.setIfInBounds_toArray, List.set_cons_zero, List.set_cons_succ]
          refine held_take (v := ?_) 30 rfl (by kernel_rfl) (.inl ⟨by rfl, ?_⟩) hHeld ?_
          rotate_left
          · intro w hSw; (try dsimp only at hSw); first | (go_simp; done) | (go_simp; with_reducible rfl)
          try simp only [Act.put, List.setIfInBounds_toArray, List.set_cons_zero, List.set_cons_succ]
          refine held_take (v := ?_) 31 rfl (by kernel_rfl) (.inl ⟨by rfl, ?_⟩) hHeld ?_
          rotate_left
          · intro w hSw; (try dsimp only at hSw); first | (go_simp; done) | (go_simp; with_reducible rfl)
          try simp only [Act.put, List.setIfInBounds_toArray, List.set_cons_zero, List.set_cons_succ]
          refine held_done (by kernel_rfl) ?_
          try clear hHeld
          go_wp2
          go_ret
          exact ⟨rfl, F.out.trans' HF.out⟩
        · skip
          refine wp_held (fun w' => w'.cell? ⟨gx, 0, none⟩ = some (.int .i64 s1) ∧ w'.cell? ⟨gx, 1, none⟩ = some (.int .i64 q1) ∧ w'.cell? ⟨gx, 2, none⟩ = some (.slice o1 d1.length c1) ∧ w'.cell? ⟨gx, 3, none⟩ = some (.string k1) ∧ w'.cell? ⟨gx, 4, none⟩ = some (.string x1) ∧ w'.cell? ⟨gy, 0, none⟩ = some (.int .i64 s2) ∧ w'.cell? ⟨gy, 1, none⟩ = some (.int .i64 q2) ∧ w'.cell? ⟨gy, 2, none⟩ = some (.slice o2 d2.length c2) ∧ w'.cell? ⟨gy, 3, none⟩ = some (.string k2) ∧ w'.cell? ⟨gy, 4, none⟩ = some (.string x2)) (by kernel_rfl) ?_ (fun hHeld => ?_)
          · exact ⟨xc0, xc1, xc2, xc3, xc4, yc0, yc1, yc2, yc3, yc4⟩
          refine held_take (v := ?_) 0 rfl (by kernel_rfl) (.inl ⟨by rfl, ?_⟩) hHeld ?_
          rotate_left
          · intro w hSw; (try dsimp only at hSw); first | (go_simp; done) | (go_simp; with_reducible rfl)
          try simp only [Act.put, List.setIfInBounds_toArray, List.set_cons_zero, List.set_cons_succ]
          refine held_take (v := ?_) 1 rfl (by kernel_rfl) (.inl ⟨by rfl, ?_⟩) hHeld ?_
          rotate_left
          · intro w hSw; (try dsimp only at hSw); first | (go_simp; done) | (go_simp; with_reducible rfl)
          try simp only [Act.put, List.setIfInBounds_toArray, List.set_cons_zero, List.set_cons_succ]
          refine held_take (v := ?_) 3 rfl (by kernel_rfl) (.inl ⟨by rfl, ?_⟩) hHeld ?_
          rotate_left
          · intro w hSw; (try dsimp only at hSw); first | (go_simp; done) | (go_simp; with_reducible rfl)
          try simp only [Act.put, List.setIfInBounds_toArray, List.set_cons_zero, List.set_cons_succ]
          refine held_take (v := ?_) 5 rfl (by kernel_rfl) (.inl ⟨by rfl, ?_⟩) hHeld ?_
          rotate_left
          · intro w hSw; (try dsimp only at hSw); first | (go_simp; done) | (go_simp; with_reducible rfl)
          try simp only [Act.put, List.setIfInBounds_toArray, List.set_cons_zero, List.set_cons_succ]
          refine held_call 2 rfl (by kernel_rfl) (fun K hK => ?_)
          go_simp
          go_at_call 19; refine (Hbf.out _).mono ?_; rintro e wa ⟨rfl, hfd⟩; have HF := Lib.hid ((Fr.drew (Fr.refl no u3)).trans' hfd); clear hfd
          refine hK.out _ _ ?_ (fun hHeld' => ?_)
          · have hb1 := HF.out.heap BX.out (fun f => f); have hb2 := HF.out.heap BY.out (fun f => f); exact ⟨cell_of_block hb1 rfl, cell_of_block hb1 rfl, cell_of_block hb1 rfl, cell_of_block hb1 rfl, cell_of_block hb1 rfl, cell_of_block hb2 rfl, cell_of_block hb2 rfl, cell_of_block hb2 rfl, cell_of_block hb2 rfl, cell_of_block hb2 rfl⟩
          clear hK K hHeld
          have hHeld := hHeld'
          clear hHeld'
          try simp only [Act.put, List.setIfInBounds_toArray, List.set_cons_zero, List.set_cons_succ]
          refine held_call 4 rfl (by kernel_rfl) (fun K hK => ?_)
          go_simp
          go_at_call 12; refine (Hoa.out _ HF.out).mono ?_; rintro e wa ⟨rfl, hfd⟩; replace HF := Lib.hid (HF.out.trans' hfd); clear hfd
          refine hK.out _ _ ?_ (fun hHeld' => ?_)
          · have hb1 := HF.out.heap BX.out (fun f => f); have hb2 := HF.out.heap BY.out (fun f => f); exact ⟨cell_of_block hb1 rfl, cell_of_block hb1 rfl, cell_of_block hb1 rfl, cell_of_block hb1 rfl, cell_of_block hb1 rfl, cell_of_block hb2 rfl, cell_of_block hb2 rfl, cell_of_block hb2 rfl, cell_of_block hb2 rfl, cell_of_block hb2 rfl⟩
          clear hK K hHeld
          have hHeld := hHeld'
          clear hHeld'
          try simp only [Act.put, List.setIfInBounds_toArray, List.set_cons_zero, List.set_cons_succ]
          refine held_call 6 rfl (by kernel_rfl) (fun K hK => ?_)
          go_simp
          go_at_call 12; refine (Hob.out _ HF.out).mono ?_; rintro e wa ⟨rfl, hfd⟩; replace HF := Lib.hid (HF.out.trans' hfd); clear hfd
          refine hK.out _ _ ?_ (fun hHeld' => ?_)
          · have hb1 := HF.out.heap BX.out (fun f => f); have hb2 := HF.out.heap BY.out (fun f => f); exact ⟨cell_of_block hb1 rfl, cell_of_block hb1 rfl, cell_of_block hb1 rfl, cell_of_block hb1 rfl, cell_of_block hb1 rfl, cell_of_block hb2 rfl, cell_of_block hb2 rfl, cell_of_block hb2 rfl, cell_of_block hb2 rfl, cell_of_block hb2 rfl⟩
          clear hK K hHeld
          have hHeld := hHeld'
          clear hHeld'
          try simp only [Act.put, List.setIfInBounds_toArray, List.set_cons_zero, List.set_cons_succ]
          refine held_call 7 rfl (by kernel_rfl) (fun K hK => ?_)
          go_simp
          go_at_call 20; refine (Hrf.out _).mono ?_; rintro e wa ⟨rfl, hfd⟩; replace HF := Lib.hid (HF.out.trans' hfd); clear hfd
          refine hK.out _ _ ?_ (fun hHeld' => ?_)
          · have hb1 := HF.out.heap BX.out (fun f => f); have hb2 := HF.out.heap BY.out (fun f => f); exact ⟨cell_of_block hb1 rfl, cell_of_block hb1 rfl, cell_of_block hb1 rfl, cell_of_block hb1 rfl, cell_of_block hb1 rfl, cell_of_block hb2 rfl, cell_of_block hb2 rfl, cell_of_block hb2 rfl, cell_of_block hb2 rfl, cell_of_block hb2 rfl⟩
          clear hK K hHeld
          have hHeld := hHeld'
          clear hHeld'
          try simp only [Act.put, List.setIfInBounds_toArray, List.set_cons_zero, List.set_cons_succ]
          refine held_take (v := ?_) 8 rfl (by kernel_rfl) (.inl ⟨by rfl, ?_⟩) hHeld ?_
          rotate_left
          · intro w hSw; (try dsimp only at hSw); first | (go_simp; done) | (go_simp; with_reducible rfl)
          try simp only [Act.put, List.setIfInBounds_toArray, List.set_cons_zero, List.set_cons_succ]
          refine held_take (v := ?_) 9 rfl (by kernel_rfl) (.inl ⟨by rfl, ?_⟩) hHeld ?_
          rotate_left
          · intro w hSw; (try dsimp only at hSw); first | (go_simp; done) | (go_simp; with_reducible rfl)
          try simp only [Act.put, List.setIfInBounds_toArray, List.set_cons_zero, List.set_cons_succ]
          refine held_take (v := ?_) 10 rfl (by kernel_rfl) (.inl ⟨by rfl, ?_⟩) hHeld ?_
          rotate_left
          · intro w hSw; (try dsimp only at hSw); first | (go_simp; done) | (go_simp; with_reducible rfl)
          try simp only [Act.put, List.setIfInBounds_toArray, List.set_cons_zero, List.set_cons_succ]
          refine held_take (v := ?_) 11 rfl (by kernel_rfl) (.inl ⟨by rfl, ?_⟩) hHeld ?_
          rotate_left
          · intro w hSw; (try dsimp only at hSw); first | (go_simp; done) | (go_simp; with_reducible rfl)
          try simp only [Act.put, List.setIfInBounds_toArray, List.set_cons_zero, List.set_cons_succ]
          refine held_take (v := ?_) 13 rfl (by kernel_rfl) (.inl ⟨by rfl, ?_⟩) hHeld ?_
          rotate_left
          · intro w hSw; (try dsimp only at hSw); first | (go_simp; done) | (go_simp; with_reducible rfl)
          try simp only [Act.put, List.setIfInBounds_toArray, List.set_cons_zero, List.set_cons_succ]
          refine held_take (v := ?_) 15 rfl (by kernel_rfl) (.inl ⟨by rfl, ?_⟩) hHeld ?_
          rotate_left
          · intro w hSw; (try dsimp only at hSw); first | (go_simp; done) | (go_simp; with_reducible rfl)
          try simp only [Act.put, List.setIfInBounds_toArray, List.set_cons_zero, List.set_cons_succ]
          refine held_call 12 rfl (by kernel_rfl) (fun K hK => ?_)
          go_simp
          go_at_call 21; refine (Hsm.out _ HF.out).mono ?_; rintro e wa ⟨rfl, hfd⟩; replace HF := Lib.hid (HF.out.trans' hfd); clear hfd
          refine hK.out _ _ ?_ (fun hHeld' => ?_)
          · have hb1 := HF.out.heap BX.out (fun f => f); have hb2 := HF.out.heap BY.out (fun f => f); exact ⟨cell_of_block hb1 rfl, cell_of_block hb1 rfl, cell_of_block hb1 rfl, cell_of_block hb1 rfl, cell_of_block hb1 rfl, cell_of_block hb2 rfl, cell_of_block hb2 rfl, cell_of_block hb2 rfl, cell_of_block hb2 rfl, cell_of_block hb2 rfl⟩
          clear hK K hHeld
          have hHeld := hHeld'
          clear hHeld'
          try simp only [Act.put, List.setIfInBounds_toArray, List.set_cons_zero, List.set_cons_succ]
          refine held_call 14 rfl (by kernel_rfl) (fun K hK => ?_)
          go_simp
          go_at_call 12; refine (Hoa.out _ HF.out).mono ?_; rintro e wa ⟨rfl, hfd⟩; replace HF := Lib.hid (HF.out.trans' hfd); clear hfd
          refine hK.out _ _ ?_ (fun hHeld' => ?_)
          · have hb1 := HF.out.heap BX.out (fun f => f); have hb2 := HF.out.heap BY.out (fun f => f); exact ⟨cell_of_block hb1 rfl, cell_of_block hb1 rfl, cell_of_block hb1 rfl, cell_of_block hb1 rfl, cell_of_block hb1 rfl, cell_of_block hb2 rfl, cell_of_block hb2 rfl, cell_of_block hb2 rfl, cell_of_block hb2 rfl, cell_of_block hb2 rfl⟩
          clear hK K hHeld
          have hHeld := hHeld'
          clear hHeld'
          try simp only [Act.put, List.setIfInBounds_toArray, List.set_cons_zero, List.set_cons_succ]
          refine held_call 16 rfl (by kernel_rfl) (fun K hK => ?_)
          go_simp
          go_at_call 12; refine (Hob.out _ HF.out).mono ?_; rintro e wa ⟨rfl, hfd⟩; replace HF := Lib.hid (HF.out.trans' hfd); clear hfd
          refine hK.out _ _ ?_ (fun hHeld' => ?_)
          · have hb1 := HF.out.heap BX.out (fun f => f); have hb2 := HF.out.heap BY.out (fun f => f); exact ⟨cell_of_block hb1 rfl, cell_of_block hb1 rfl, cell_of_block hb1 rfl, cell_of_block hb1 rfl, cell_of_block hb1 rfl, cell_of_block hb2 rfl, cell_of_block hb2 rfl, cell_of_block hb2 rfl, cell_of_block hb2 rfl, cell_of_block hb2 rfl⟩
          clear hK K hHeld
          have hHeld := hHeld'
          clear hHeld'
          try simp only [Act.put, List.setIfInBounds_toArray, List.set_cons_zero, List.set_cons_succ]
          refine held_call 17 rfl (by kernel_rfl) (fun K hK => ?_)
          go_simp
          go_at_call 18; refine (Hrs.out _ HF.out).mono ?_; rintro e wa ⟨rfl, hfd⟩; replace HF := Lib.hid (HF.out.trans' hfd); clear hfd
          refine hK.out _ _ ?_ (fun hHeld' => ?_)
          · have hb1 := HF.out.heap BX.out (fun f => f); have hb2 := HF.out.heap BY.out (fun f => f); exact ⟨cell_of_block hb1 rfl, cell_of_block hb1 rfl, cell_of_block hb1 rfl, cell_of_block hb1 rfl, cell_of_block hb1 rfl, cell_of_block hb2 rfl, cell_of_block hb2 rfl, cell_of_block hb2 rfl, cell_of_block hb2 rfl, cell_of_block hb2 rfl⟩
          clear hK K hHeld
          have hHeld := hHeld'
          clear hHeld'
          try simp only [Act.put, List.setIfInBounds_toArray, List.set_cons_zero, List.set_cons_succ]
          refine held_take (v := ?_) 18 rfl (by kernel_rfl) (.inl ⟨by rfl, ?_⟩) hHeld ?_
          rotate_left
          · intro w hSw; (try dsimp only at hSw); first | (go_simp; done) | (go_simp; with_reducible rfl)
          try simp only [Act.put, List.setIfInBounds_toArray, List.set_cons_zero, List.set_cons_succ]
          refine held_take (v := ?_) 19 rfl (by kernel_rfl) (.inl ⟨by rfl, ?_⟩) hHeld ?_
          rotate_left
          · intro w hSw; (try dsimp only at hSw); first | (go_simp; done) | (go_simp; with_reducible rfl)
          try simp only [Act.put, List.setIfInBounds_toArray, List.set_cons_zero, List.set_cons_succ]
          refine held_take (v := ?_) 20 rfl (by kernel_rfl) (.inl ⟨by rfl, ?_⟩) hHeld ?_
          rotate_left
          · intro w hSw; (try dsimp only at hSw); first | (go_simp; done) | (go_simp; with_reducible rfl)
          try simp only [Act.put, List.setIfInBounds_toArray, List.set_cons_zero, List.set_cons_succ]
          refine held_take (v := ?_) 21 rfl (by kernel_rfl) (.inl ⟨by rfl, ?_⟩) hHeld ?_
          rotate_left
          · intro w hSw; (try dsimp only at hSw); first | (go_simp; done) | (go_simp; with_reducible rfl)
          try simp only [Act.put, List.setIfInBounds_toArray, List.set_cons_zero, List.set_cons_succ]
          refine held_take (v := ?_) 22 rfl (by kernel_rfl) (.inl ⟨by rfl, ?_⟩) hHeld ?_
          rotate_left
          · intro w hSw; (try dsimp only at hSw); first | (go_simp; done) | (go_simp; with_reducible rfl)
          try simp only [Act.put, List.setIfInBounds_toArray, List.set_cons_zero, List.set_cons_succ]
          refine held_call 23 rfl (by kernel_rfl) (fun K hK => ?_)
          go_simp
          go_at_call 19; refine (Hbf.out _).mono ?_; rintro e wa ⟨rfl, hfd⟩; replace HF := Lib.hid (HF.out.trans' hfd); clear hfd
          refine hK.out _ _ ?_ (fun hHeld' => ?_)
          · have hb1 := HF.out.heap BX.out (fun f => f); have hb2 := HF.out.heap BY.out (fun f => f); exact ⟨cell_of_block hb1 rfl, cell_of_block hb1 rfl, cell_of_block hb1 rfl, cell_of_block hb1 rfl, cell_of_block hb1 rfl, cell_of_block hb2 rfl, cell_of_block hb2 rfl, cell_of_block hb2 rfl, cell_of_block hb2 rfl, cell_of_block hb2 rfl⟩
          clear hK K hHeld
          have hHeld := hHeld'
          clear hHeld'
          try simp only [Act.put, List.setIfInBounds_toArray, List.set_cons_zero, List.set_cons_succ]
          refine held_take (v := ?_) 24 rfl (by kernel_rfl) (.inl ⟨by rfl, ?_⟩) hHeld ?_
          rotate_left
          · intro w hSw; (try dsimp only at hSw); first | (go_simp; done) | (go_simp; with_reducible rfl)
          try simp only [Act.put, List.setIfInBounds_toArray, List.set_cons_zero, List.set_cons_succ]
          refine held_take 25 rfl (by kernel_rfl) (.inr ⟨by rfl, rfl⟩) hHeld ?_
          try simp only [Act.put, List.setIfInBounds_toArray, List.set_cons_zero, List.set_cons_succ]
          refine held_take 26 rfl (by kernel_rfl) (.inr ⟨by rfl, rfl⟩) hHeld ?_
          try simp only [Act.put, List.setIfInBounds_toArray, List.set_cons_zero, List.set_cons_succ]
          refine held_take 27 rfl (by kernel_rfl) (.inr ⟨by rfl, rfl⟩) hHeld ?_
          try simp only [Act.put, List.setIfInBounds_toArray, List.set_cons_zero, List.set_cons_succ]
          refine held_take (v := ?_) 28 rfl (by kernel_rfl) (.inl ⟨by rfl, ?_⟩) hHeld ?_
          rotate_left
          · intro w hSw; (try dsimp only at hSw); first | (go_simp; done) | (go_simp; with_reducible rfl)
          try simp only [Act.put, List.setIfInBounds_toArray, List.set_cons_zero, List.set_cons_succ]
          refine held_take (v := ?_) 29 rfl (by kernel_rfl) (.inl ⟨by rfl, ?_⟩) hHeld ?_
          rotate_left
          · intro w hSw; (try dsimp only at hSw); first | (go_simp; done) | (go_simp; with_reducible rfl)
          try simp only [Act.put, List.setIfInBounds_toArray, List.set_cons_zero, List.set_cons_succ]
          refine held_take (v := ?_) 30 rfl (by kernel_rfl) (.inl ⟨by rfl, ?_⟩) hHeld ?_
          rotate_left
          · intro w hSw; (try dsimp only at hSw); first | (go_simp; done) | (go_simp; with_reducible rfl)
          try simp only [Act.put, List.setIfInBounds_toArray, List.set_cons_zero, List.set_cons_succ]
          refine held_take (v := ?_) 31 rfl (by kernel_rfl) (.inl ⟨by rfl, ?_⟩) hHeld ?_
          rotate_left
          · intro w hSw; (try dsimp only at hSw); first | (go_simp; done) | (go_simp; with_reducible rfl)
          try simp only [Act.put, List.setIfInBounds_toArray, List.set_cons_zero, List.set_cons_succ]
          refine held_done (by kernel_rfl) ?_
          try clear hHeld
          go_wp2
          go_ret
          exact ⟨rfl, F.out.trans' HF.out⟩
        · skip
          refine wp_held (fun w' => w'.cell? ⟨gx, 0, none⟩ = some (.int .i64 s1) ∧ w'.cell? ⟨gx, 1, none⟩ = some (.int .i64 q1) ∧ w'.cell? ⟨gx, 2, none⟩ = some (.slice o1 d1.length c1) ∧ w'.cell? ⟨gx, 3, none⟩ = some (.string k1) ∧ w'.cell? ⟨gx, 4, none⟩ = some (.string x1) ∧ w'.cell? ⟨gy, 0, none⟩ = some (.int .i64 s2) ∧ w'.cell? ⟨gy, 1, none⟩ = some (.int .i64 q2) ∧ w'.cell? ⟨gy, 2, none⟩ = some (.slice o2 d2.length c2) ∧ w'.cell? ⟨gy, 3, none⟩ = some (.string k2) ∧ w'.cell? ⟨gy, 4, none⟩ = some (.string x2)) (by kernel_rfl) ?_ (fun hHeld => ?_)
          · exact ⟨xc0, xc1, xc2, xc3, xc4, yc0, yc1, yc2, yc3, yc4⟩
          refine held_take (v := ?_) 0 rfl (by kernel_rfl) (.inl ⟨by rfl, ?_⟩) hHeld ?_
          rotate_left
          · intro w hSw; (try dsimp only at hSw); first | (go_simp; done) | (go_simp; with_reducible rfl)
          try simp only [Act.put, List.setIfInBounds_toArray, List.set_cons_zero, List.set_cons_succ]
          refine held_take (v := ?_) 1 rfl (by kernel_rfl) (.inl ⟨by rfl, ?_⟩) hHeld ?_
          rotate_left
          · intro w hSw; (try dsimp only at hSw); first | (go_simp; done) | (go_simp; with_reducible rfl)
          try simp only [Act.put, List.setIfInBounds_toArray, List.set_cons_zero, List.set_cons_succ]
          refine held_take (v := ?_) 3 rfl (by kernel_rfl) (.inl ⟨by rfl, ?_⟩) hHeld ?_
          rotate_left
          · intro w hSw; (try dsimp only at hSw); first | (go_simp; done) | (go_simp; with_reducible rfl)
          try simp only [Act.put, List.setIfInBounds_toArray, List.set_cons_zero, List.set_cons_succ]
          refine held_take (v := ?_) 5 rfl (by kernel_rfl) (.inl ⟨by rfl, ?_⟩) hHeld ?_
          rotate_left
          · intro w hSw; (try dsimp only at hSw); first | (go_simp; done) | (go_simp; with_reducible rfl)
          try simp only [Act.put, List.setIfInBounds_toArray, List.set_cons_zero, List.set_cons_succ]
          refine held_call 2 rfl (by kernel_rfl) (fun K hK => ?_)
          go_simp
          go_at_call 19; refine (Hbf.out _).mono ?_; rintro e wa ⟨rfl, hfd⟩; have HF := Lib.hid ((Fr.drew (Fr.refl no u3)).trans' hfd); clear hfd
          refine hK.out _ _ ?_ (fun hHeld' => ?_)
          · have hb1 := HF.out.heap BX.out (fun f => f); have hb2 := HF.out.heap BY.out (fun f => f); exact ⟨cell_of_block hb1 rfl, cell_of_block hb1 rfl, cell_of_block hb1 rfl, cell_of_block hb1 rfl, cell_of_block hb1 rfl, cell_of_block hb2 rfl, cell_of_block hb2 rfl, cell_of_block hb2 rfl, cell_of_block hb2 rfl, cell_of_block hb2 rfl⟩
          clear hK K hHeld
          have hHeld := hHeld'
          clear hHeld'
          try simp only [Act.put, List.setIfInBounds_toArray, List.set_cons_zero, List.set_cons_succ]
          refine held_call 4 rfl (by kernel_rfl) (fun K hK => ?_)
          go_simp
          go_at_call 12; refine (Hoa.out _ HF.out).mono ?_; rintro e wa ⟨rfl, hfd⟩; replace HF := Lib.hid (HF.out.trans' hfd); clear hfd
          refine hK.out _ _ ?_ (fun hHeld' => ?_)
          · have hb1 := HF.out.heap BX.out (fun f => f); have hb2 := HF.out.heap BY.out (fun f => f); exact ⟨cell_of_block hb1 rfl, cell_of_block hb1 rfl, cell_of_block hb1 rfl, cell_of_block hb1 rfl, cell_of_block hb1 rfl, cell_of_block hb2 rfl, cell_of_block hb2 rfl, cell_of_block hb2 rfl, cell_of_block hb2 rfl, cell_of_block hb2 rfl⟩
          clear hK K hHeld
          have hHeld := hHeld'
          clear hHeld'
          try simp only [Act.put, List.setIfInBounds_toArray, List.set_cons_zero, List.set_cons_succ]
          refine held_call 6 rfl (by kernel_rfl) (fun K hK => ?_)
          go_simp
          go_at_call 12; refine (Hob.out _ HF.out).mono ?_; rintro e wa ⟨rfl, hfd⟩; replace HF := Lib.hid (HF.out.trans' hfd); clear hfd
          refine hK.out _ _ ?_ (fun hHeld' => ?_)
          · have hb1 := HF.out.heap BX.out (fun f => f); have hb2 := HF.out.heap BY.out (fun f => f); exact ⟨cell_of_block hb1 rfl, cell_of_block hb1 rfl, cell_of_block hb1 rfl, cell_of_block hb1 rfl, cell_of_block hb1 rfl, cell_of_block hb2 rfl, cell_of_block hb2 rfl, cell_of_block hb2 rfl, cell_of_block hb2 rfl, cell_of_block hb2 rfl⟩
          clear hK K hHeld
          have hHeld := hHeld'
          clear hHeld'
          try simp only [Act.put, List.setIfInBounds_toArray, List.set_cons_zero, List.set_cons_succ]
          refine held_call 7 rfl (by kernel_rfl) (fun K hK => ?_)
          go_simp
          go_at_call 20; refine (Hrf.out _).mono ?_; rintro e wa ⟨rfl, hfd⟩; replace HF := Lib.hid (HF.out.trans' hfd); clear hfd
          refine hK.out _ _ ?_ (fun hHeld' => ?_)
          · have hb1 := HF.out.heap BX.out (fun f => f); have hb2 := HF.out.heap BY.out (fun f => f); exact ⟨cell_of_block hb1 rfl, cell_of_block hb1 rfl, cell_of_block hb1 rfl, cell_of_block hb1 rfl, cell_of_block hb1 rfl, cell_of_block hb2 rfl, cell_of_block hb2 rfl, cell_of_block hb2 rfl, cell_of_block hb2 rfl, cell_of_block hb2 rfl⟩
          clear hK K hHeld
          have hHeld := hHeld'
          clear hHeld'
          try simp only [Act.put, List.setIfInBounds_toArray, List.set_cons_zero, List.set_cons_succ]
          refine held_take (v := ?_) 8 rfl (by kernel_rfl) (.inl ⟨by rfl, ?_⟩) hHeld ?_
          rotate_left
          · intro w hSw; (try dsimp only at hSw); first | (go_simp; done) | (go_simp; with_reducible rfl)
          try simp only [Act.put, List.setIfInBounds_toArray, List.set_cons_zero, List.set_cons_succ]
          refine held_take (v := ?_) 9 rfl (by kernel_rfl) (.inl ⟨by rfl, ?_⟩) hHeld ?_
          rotate_left
          · intro w hSw; (try dsimp only at hSw); first | (go_simp; done) | (go_simp; with_reducible rfl)
          try simp only [Act.put, List.setIfInBounds_toArray, List.set_cons_zero, List.set_cons_succ]
          refine held_take (v := ?_) 10 rfl (by kernel_rfl) (.inl ⟨by rfl, ?_⟩) hHeld ?_
          rotate_left
          · intro w hSw; (try dsimp only at hSw); first | (go_simp; done) | (go_simp; with_reducible rfl)
          try simp only [Act.put, List.setIfInBounds_toArray, List.set_cons_zero, List.set_cons_succ]
          refine held_take (v := ?_) 11 rfl (by kernel_rfl) (.inl ⟨by rfl, ?_⟩) hHeld ?_
          rotate_left
          · intro w hSw; (try dsimp only at hSw); first | (go_simp; done) | (go_simp; with_reducible rfl)
          try simp only [Act.put, List.setIfInBounds_toArray, List.set_cons_zero, List.set_cons_succ]
          refine held_take (v := ?_) 13 rfl (by kernel_rfl) (.inl ⟨by rfl, ?_⟩) hHeld ?_
          rotate_left
          · intro w hSw; (try dsimp only at hSw); first | (go_simp; done) | (go_simp; with_reducible rfl)
          try simp only [Act.put, List.setIfInBounds_toArray, List.set_cons_zero, List.set_cons_succ]
          refine held_take (v := ?_) 15 rfl (by kernel_rfl) (.inl ⟨by rfl, ?_⟩) hHeld ?_
          rotate_left
          · intro w hSw; (try dsimp only at hSw); first | (go_simp; done) | (go_simp; with_reducible rfl)
          try simp only [Act.put, List.setIfInBounds_toArray, List.set_cons_zero, List.set_cons_succ]
          refine held_call 12 rfl (by kernel_rfl) (fun K hK => ?_)
          go_simp
          go_at_call 21; refine (Hsm.out _ HF.out).mono ?_; rintro e wa ⟨rfl, hfd⟩; replace HF := Lib.hid (HF.out.trans' hfd); clear hfd
          refine hK.out _ _ ?_ (fun hHeld' => ?_)
          · have hb1 := HF.out.heap BX.out (fun f => f); have hb2 := HF.out.heap BY.out (fun f => f); exact ⟨cell_of_block hb1 rfl, cell_of_block hb1 rfl, cell_of_block hb1 rfl, cell_of_block hb1 rfl, cell_of_block hb1 rfl, cell_of_block hb2 rfl, cell_of_block hb2 rfl, cell_of_block hb2 rfl, cell_of_block hb2 rfl, cell_of_block hb2 rfl⟩
          clear hK K hHeld
          have hHeld := hHeld'
          clear hHeld'
          try simp only [Act.put, List.setIfInBounds_toArray, List.set_cons_zero, List.set_cons_succ]
          refine held_call 14 rfl (by kernel_rfl) (fun K hK => ?_)
          go_simp
          go_at_call 12; refine (Hoa.out _ HF.out).mono ?_; rintro e wa ⟨rfl, hfd⟩; replace HF := Lib.hid (HF.out.trans' hfd); clear hfd
          refine hK.out _ _ ?_ (fun hHeld' => ?_)
          · have hb1 := HF.out.heap BX.out (fun f => f); have hb2 := HF.out.heap BY.out (fun f => f); exact ⟨cell_of_block hb1 rfl, cell_of_block hb1 rfl, cell_of_block hb1 rfl, cell_of_block hb1 rfl, cell_of_block hb1 rfl, cell_of_block hb2 rfl, cell_of_block hb2 rfl, cell_of_block hb2 rfl, cell_of_block hb2 rfl, cell_of_block hb2 rfl⟩
          clear hK K hHeld
          have hHeld := hHeld'
          clear hHeld'
          try simp only [Act.put, List.setIfInBounds_toArray, List.set_cons_zero, List.set_cons_succ]
          refine held_call 16 rfl (by kernel_rfl) (fun K hK => ?_)
          go_simp
          go_at_call 12; refine (Hob.out _ HF.out).mono ?_; rintro e wa ⟨rfl, hfd⟩; replace HF := Lib.hid (HF.out.trans' hfd); clear hfd
          refine hK.out _ _ ?_ (fun hHeld' => ?_)
          · have hb1 := HF.out.heap BX.out (fun f => f); have hb2 := HF.out.heap BY.out (fun f => f); exact ⟨cell_of_block hb1 rfl, cell_of_block hb1 rfl, cell_of_block hb1 rfl, cell_of_block hb1 rfl, cell_of_block hb1 rfl, cell_of_block hb2 rfl, cell_of_block hb2 rfl, cell_of_block hb2 rfl, cell_of_block hb2 rfl, cell_of_block hb2 rfl⟩
          clear hK K hHeld
          have hHeld := hHeld'
          clear hHeld'
          try simp only [Act.put, List.setIfInBounds_toArray, List.set_cons_zero, List.set_cons_succ]
          refine held_call 17 rfl (by kernel_rfl) (fun K hK => ?_)
          go_simp
          go_at_call 18; refine (Hrs.out _ HF.out).mono ?_; rintro e wa ⟨rfl, hfd⟩; replace HF := Lib.hid (HF.out.trans' hfd); clear hfd
          refine hK.out _ _ ?_ (fun hHeld' => ?_)
          · have hb1 := HF.out.heap BX.out (fun f => f); have hb2 := HF.out.heap BY.out (fun f => f); exact ⟨cell_of_block hb1 rfl, cell_of_block hb1 rfl, cell_of_block hb1 rfl, cell_of_block hb1 rfl, cell_of_block hb1 rfl, cell_of_block hb2 rfl, cell_of_block hb2 rfl, cell_of_block hb2 rfl, cell_of_block hb2 rfl, cell_of_block hb2 rfl⟩
          clear hK K hHeld
          have hHeld := hHeld'
          clear hHeld'
          try simp only [Act.put, List.setIfInBounds_toArray, List.set_cons_zero, List.set_cons_succ]
          refine held_take (v := ?_) 18 rfl (by kernel_rfl) (.inl ⟨by rfl, ?_⟩) hHeld ?_
          rotate_left
          · intro w hSw; (try dsimp only at hSw); first | (go_simp; done) | (go_simp; with_reducible rfl)
          try simp only [Act.put, List.setIfInBounds_toArray, List.set_cons_zero, List.set_cons_succ]
          refine held_take (v := ?_) 19 rfl (by kernel_rfl) (.inl ⟨by rfl, ?_⟩) hHeld ?_
          rotate_left
          · intro w hSw; (try dsimp only at hSw); first | (go_simp; done) | (go_simp; with_reducible rfl)
          try simp only [Act.put, List.setIfInBounds_toArray, List.set_cons_zero, List.set_cons_succ]
          refine held_take (v := ?_) 20 rfl (by kernel_rfl) (.inl ⟨by rfl, ?_⟩) hHeld ?_
          rotate_left
          · intro w hSw; (try dsimp only at hSw); first | (go_simp; done) | (go_simp; with_reducible rfl)
          try simp only [Act.put, List.setIfInBounds_toArray, List.set_cons_zero, List.set_cons_succ]
          refine held_take (v := ?_) 21 rfl (by kernel_rfl) (.inl ⟨by rfl, ?_⟩) hHeld ?_
          rotate_left
          · intro w hSw; (try dsimp only at hSw); first | (go_simp; done) | (go_simp; with_reducible rfl)
          try simp only [Act.put, List.setIfInBounds_toArray, List.set_cons_zero, List.set_cons_succ]
          refine held_take (v := ?_) 22 rfl (by kernel_rfl) (.inl ⟨by rfl, ?_⟩) hHeld ?_
          rotate_left
          · intro w hSw; (try dsimp only at hSw); first | (go_simp; done) | (go_simp; with_reducible rfl)
          try simp only [Act.put, List.setIfInBounds_toArray, List.set_cons_zero, List.set_cons_succ]
          refine held_call 23 rfl (by kernel_rfl) (fun K hK => ?_)
          go_simp
          go_at_call 19; refine (Hbf.out _).mono ?_; rintro e wa ⟨rfl, hfd⟩; replace HF := Lib.hid (HF.out.trans' hfd); clear hfd
          refine hK.out _ _ ?_ (fun hHeld' => ?_)
          · have hb1 := HF.out.heap BX.out (fun f => f); have hb2 := HF.out.heap BY.out (fun f => f); exact ⟨cell_of_block hb1 rfl, cell_of_block hb1 rfl, cell_of_block hb1 rfl, cell_of_block hb1 rfl, cell_of_block hb1 rfl, cell_of_block hb2 rfl, cell_of_block hb2 rfl, cell_of_block hb2 rfl, cell_of_block hb2 rfl, cell_of_block hb2 rfl⟩
          clear hK K hHeld
          have hHeld := hHeld'
          clear hHeld'
          try simp only [Act.put, List.setIfInBounds_toArray, List.set_cons_zero, List.set_cons_succ]
          refine held_take (v := ?_) 24 rfl (by kernel_rfl) (.inl ⟨by rfl, ?_⟩) hHeld ?_
          rotate_left
          · intro w hSw; (try dsimp only at hSw); first | (go_simp; done) | (go_simp; with_reducible rfl)
          try simp only [Act.put, List.setIfInBounds_toArray, List.set_cons_zero, List.set_cons_succ]
          refine held_take 25 rfl (by kernel_rfl) (.inr ⟨by rfl, rfl⟩) hHeld ?_
          try simp only [Act.put, List.setIfInBounds_toArray, List.set_cons_zero, List.set_cons_succ]
          refine held_take 26 rfl (by kernel_rfl) (.inr ⟨by rfl, rfl⟩) hHeld ?_
          try simp only [Act.put, List.setIfInBounds_toArray, List.set_cons_zero, List.set_cons_succ]
          refine held_take 27 rfl (by kernel_rfl) (.inr ⟨by rfl, rfl⟩) hHeld ?_
          try simp only [Act.put, List.setIfInBounds_toArray, List.set_cons_zero, List.set_cons_succ]
          refine held_take (v := ?_) 28 rfl (by kernel_rfl) (.inl ⟨by rfl, ?_⟩) hHeld ?_
          rotate_left
          · intro w hSw; (try dsimp only at hSw); first | (go_simp; done) | (go_simp; with_reducible rfl)
          try simp only [Act.put, List.setIfInBounds_toArray, List.set_cons_zero, List.set_cons_succ]
          refine held_take (v := ?_) 29 rfl (by kernel_rfl) (.inl ⟨by rfl, ?_⟩) hHeld ?_
          rotate_left
          · intro w hSw; (try dsimp only at hSw); first | (go_simp; done) | (go_simp; with_reducible rfl)
          try simp only [Act.put, List.setIfInBounds_toArray, List.set_cons_zero, List.set_cons_succ]
          refine held_take (v := ?_) 30 rfl (by kernel_rfl) (.inl ⟨by rfl, ?_⟩) hHeld ?_
          rotate_left
          · intro w hSw; (try dsimp only at hSw); first | (go_simp; done) | (go_simp; with_reducible rfl)
          try simp only [Act.put, List.setIfInBounds_toArray, List.set_cons_zero, List.set_cons_succ]
          refine held_take (v := ?_) 31 rfl (by kernel_rfl) (.inl ⟨by rfl, ?_⟩) hHeld ?_
          rotate_left
          · intro w hSw; (try dsimp only at hSw); first | (go_simp; done) | (go_simp; with_reducible rfl)
          try simp only [Act.put, List.setIfInBounds_toArray, List.set_cons_zero, List.set_cons_succ]
          refine held_done (by kernel_rfl) ?_
          try clear hHeld
          go_wp2
          go_ret
          exact ⟨rfl, F.out.trans' HF.out⟩
      · cases r
        · clear hn
          cases q
          · skip
            refine wp_held (fun w' => w'.cell? ⟨gx, 0, none⟩ = some (.int .i64 s1) ∧ w'.cell? ⟨gx, 1, none⟩ = some (.int .i64 q1) ∧ w'.cell? ⟨gx, 2, none⟩ = some (.slice o1 d1.length c1) ∧ w'.cell? ⟨gx, 3, none⟩ = some (.string k1) ∧ w'.cell? ⟨gx, 4, none⟩ = some (.string x1) ∧ w'.cell? ⟨gy, 0, none⟩ = some (.int .i64 s2) ∧ w'.cell? ⟨gy, 1, none⟩ = some (.int .i64 q2) ∧ w'.cell? ⟨gy, 2, none⟩ = some (.slice o2 d2.length c2) ∧ w'.cell? ⟨gy, 3, none⟩ = some (.string k2) ∧ w'.cell? ⟨gy, 4, none⟩ = some (.string x2)) (by kernel_rfl) ?_ (fun hHeld => ?_)
            · exact ⟨xc0, xc1, xc2, xc3, xc4, yc0, yc1, yc2, yc3, yc4⟩
            refine held_take (v := ?_) 0 rfl (by kernel_rfl) (.inl ⟨by rfl, ?_⟩) hHeld ?_
            rotate_left
            · intro w hSw; (try dsimp only at hSw); first | (go_simp; done) | (go_simp; with_reducible rfl)
            try simp only [Act.put, List.setIfInBounds_toArray, List.set_cons_zero, List.set_cons_succ]
            refine held_take (v := ?_) 1 rfl (by kernel_rfl) (.inl ⟨by rfl, ?_⟩) hHeld ?_
            rotate_left
            · intro w hSw; (try dsimp only at hSw); first | (go_simp; done) | (go_simp; with_reducible rfl)
            try simp only [Act.put, List.setIfInBounds_toArray, List.set_cons_zero, List.set_cons_succ]
            refine held_take (v := ?_) 3 rfl (by kernel_rfl) (.inl ⟨by rfl, ?_⟩) hHeld ?_
            rotate_left
            · intro w hSw; (try dsimp only at hSw); first | (go_simp; done) | (go_simp; with_reducible rfl)
            try simp only [Act.put, List.setIfInBounds_toArray, List.set_cons_zero, List.set_cons_succ]
            refine held_take (v := ?_) 5 rfl (by kernel_rfl) (.inl ⟨by rfl, ?_⟩) hHeld ?_
            rotate_left
            · intro w hSw; (try dsimp only at hSw); first | (go_simp; done) | (go_simp; with_reducible rfl)
            try simp only [Act.put, List.setIfInBounds_toArray, List.set_cons_zero, List.set_cons_succ]
            refine held_call 2 rfl (by kernel_rfl) (fun K hK => ?_)
            go_simp
            go_at_call 19; refine (Hbf.out _).mono ?_; rintro e wa ⟨rfl, hfd⟩; have HF := Lib.hid ((Fr.drew (Fr.refl no u3)).trans' hfd); clear hfd
            refine hK.out _ _ ?_ (fun hHeld' => ?_)
            · have hb1 := HF.out.heap BX.out (fun f => f); have hb2 := HF.out.heap BY.out (fun f => f); exact ⟨cell_of_block hb1 rfl, cell_of_block hb1 rfl, cell_of_block hb1 rfl, cell_of_block hb1 rfl, cell_of_block hb1 rfl, cell_of_block hb2 rfl, cell_of_block hb2 rfl, cell_of_block hb2 rfl, cell_of_block hb2 rfl, cell_of_block hb2 rfl⟩
            clear hK K hHeld
            have hHeld := hHeld'
            clear hHeld'
            try simp only [Act.put, List.setIfInBounds_toArray, List.set_cons_zero, List.set_cons_succ]
            refine held_call 4 rfl (by kernel_rfl) (fun K hK => ?_)
            go_simp
            go_at_call 12; refine (Hoa.out _ HF.out).mono ?_; rintro e wa ⟨rfl, hfd⟩; replace HF := Lib.hid (HF.out.trans' hfd); clear hfd
            refine hK.out _ _ ?_ (fun hHeld' => ?_)
            · have hb1 := HF.out.heap BX.out (fun f => f); have hb2 := HF.out.heap BY.out (fun f => f); exact ⟨cell_of_block hb1 rfl, cell_of_block hb1 rfl, cell_of_block hb1 rfl, cell_of_block hb1 rfl, cell_of_block hb1 rfl, cell_of_block hb2 rfl, cell_of_block hb2 rfl, cell_of_block hb2 rfl, cell_of_block hb2 rfl, cell_of_block hb2 rfl⟩
            clear hK K hHeld
            have hHeld := hHeld'
            clear hHeld'
            try simp only [Act.put, List.setIfInBounds_toArray, List.set_cons_zero, List.set_cons_succ]
            refine held_call 6 rfl (by kernel_rfl) (fun K hK => ?_)
            go_simp
            go_at_call 12; refine (Hob.out _ HF.out).mono ?_; rintro e wa ⟨rfl, hfd⟩; replace HF := Lib.hid (HF.out.trans' hfd); clear hfd
            refine hK.out _ _ ?_ (fun hHeld' => ?_)
            · have hb1 := HF.out.heap BX.out (fun f => f); have hb2 := HF.out.heap BY.out (fun f => f); exact ⟨cell_of_block hb1 rfl, cell_of_block hb1 rfl, cell_of_block hb1 rfl, cell_of_block hb1 rfl, cell_of_block hb1 rfl, cell_of_block hb2 rfl, cell_of_block hb2 rfl, cell_of_block hb2 rfl, cell_of_block hb2 rfl, cell_of_block hb2 rfl⟩
            clear hK K hHeld
            have hHeld := hHeld'
            clear hHeld'
            try simp only [Act.put, List.setIfInBounds_toArray, List.set_cons_zero, List.set_cons_succ]
            refine held_call 7 rfl (by kernel_rfl) (fun K hK => ?_)
            go_simp
            go_at_call 20; refine (Hrf.out _).mono ?_; rintro e wa ⟨rfl, hfd⟩; replace HF := Lib.hid (HF.out.trans' hfd); clear hfd
            refine hK.out _ _ ?_ (fun hHeld' => ?_)
            · have hb1 := HF.out.heap BX.out (fun f => f); have hb2 := HF.out.heap BY.out (fun f => f); exact ⟨cell_of_block hb1 rfl, cell_of_block hb1 rfl, cell_of_block hb1 rfl, cell_of_block hb1 rfl, cell_of_block hb1 rfl, cell_of_block hb2 rfl, cell_of_block hb2 rfl, cell_of_block hb2 rfl, cell_of_block hb2 rfl, cell_of_block hb2 rfl⟩
            clear hK K hHeld
            have hHeld := hHeld'
            clear hHeld'
            try simp only [Act.put, List.setIfInBounds_toArray, List.set_cons_zero, List.set_cons_succ]
            refine held_take (v := ?_) 8 rfl (by kernel_rfl) (.inl ⟨by rfl, ?_⟩) hHeld ?_
            rotate_left
            · intro w hSw; (try dsimp only at hSw); first | (go_simp; done) | (go_simp; with_reducible rfl)
            try simp only [Act.put, List.setIfInBounds_toArray, List.set_cons_zero, List.set_cons_succ]
            refine held_take (v := ?_) 9 rfl (by kernel_rfl) (.inl ⟨by rfl, ?_⟩) hHeld ?_
            rotate_left
            · intro w hSw; (try dsimp only at hSw); first | (go_simp; done) | (go_simp; with_reducible rfl)
            try simp only [Act.put, List.setIfInBounds_toArray, List.set_cons_zero, List.set_cons_succ]
            refine held_take (v := ?_) 10 rfl (by kernel_rfl) (.inl ⟨by rfl, ?_⟩) hHeld ?_
            rotate_left
            · intro w hSw; (try dsimp only at hSw); first | (go_simp; done) | (go_simp; with_reducible rfl)
            try simp only [Act.put, List.setIfInBounds_toArray, List.set_cons_zero, List.set_cons_succ]
            refine held_take (v := ?_) 11 rfl (by kernel_rfl) (.inl ⟨by rfl, ?_⟩) hHeld ?_
            rotate_left
            · intro w hSw; (try dsimp only at hSw); first | (go_simp; done) | (go_simp; with_reducible rfl)
            try simp only [Act.put, List.setIfInBounds_toArray, List.set_cons_zero, List.set_cons_succ]
            refine held_take (v := ?_) 13 rfl (by kernel_rfl) (.inl ⟨by rfl, ?_⟩) hHeld ?_
            rotate_left
            · intro w hSw; (try dsimp only at hSw); first | (go_simp; done) | (go_simp; with_reducible rfl)
            try simp only [Act.put, List.setIfInBounds_toArray, List.set_cons_zero, List.set_cons_succ]
            refine held_take (v := ?_) 15 rfl (by kernel_rfl) (.inl ⟨by rfl, ?_⟩) hHeld ?_
            rotate_left
            · intro w hSw; (try dsimp only at hSw); first | (go_simp; done) | (go_simp; with_reducible rfl)
            try simp only [Act.put, List.setIfInBounds_toArray, List.set_cons_zero, List.set_cons_succ]
            refine held_call 12 rfl (by kernel_rfl) (fun K hK => ?_)
            go_simp
            go_at_call 21; refine (Hsm.out _ HF.out).mono ?_; rintro e wa ⟨rfl, hfd⟩; replace HF := Lib.hid (HF.out.trans' hfd); clear hfd
            refine hK.out _ _ ?_ (fun hHeld' => ?_)
            · have hb1 := HF.out.heap BX.out (fun f => f); have hb2 := HF.out.heap BY.out (fun f => f); exact ⟨cell_of_block hb1 rfl, cell_of_block hb1 rfl, cell_of_block hb1 rfl, cell_of_block hb1 rfl, cell_of_block hb1 rfl, cell_of_block hb2 rfl, cell_of_block hb2 rfl, cell_of_block hb2 rfl, cell_of_block hb2 rfl, cell_of_block hb2 rfl⟩
            clear hK K hHeld
            have hHeld := hHeld'
            clear hHeld'
            try simp only [Act.put, List.setIfInBounds_toArray, List.set_cons_zero, List.set_cons_succ]
            refine held_call 14 rfl (by kernel_rfl) (fun K hK => ?_)
            go_simp
            go_at_call 12; refine (Hoa.out _ HF.out).mono ?_; rintro e wa ⟨rfl, hfd⟩; replace HF := Lib.hid (HF.out.trans' hfd); clear hfd
            refine hK.out _ _ ?_ (fun hHeld' => ?_)
            · have hb1 := HF.out.heap BX.out (fun f => f); have hb2 := HF.out.heap BY.out (fun f => f); exact ⟨cell_of_block hb1 rfl, cell_of_block hb1 rfl, cell_of_block hb1 rfl, cell_of_block hb1 rfl, cell_of_block hb1 rfl, cell_of_block hb2 rfl, cell_of_block hb2 rfl, cell_of_block hb2 rfl, cell_of_block hb2 rfl, cell_of_block hb2 rfl⟩
            clear hK K hHeld
            have hHeld := hHeld'
            clear hHeld'
            try simp only [Act.put, List.setIfInBounds_toArray, List.set_cons_zero, List.set_cons_succ]
            refine held_call 16 rfl (by kernel_rfl) (fun K hK => ?_)
            go_simp
            go_at_call 12; refine (Hob.out _ HF.out).mono ?_; rintro e wa ⟨rfl, hfd⟩; replace HF := Lib.hid (HF.out.trans' hfd); clear hfd
            refine hK.out _ _ ?_ (fun hHeld' => ?_)
            · have hb1 := HF.out.heap BX.out (fun f => f); have hb2 := HF.out.heap BY.out (fun f => f); exact ⟨cell_of_block hb1 rfl, cell_of_block hb1 rfl, cell_of_block hb1 rfl, cell_of_block hb1 rfl, cell_of_block hb1 rfl, cell_of_block hb2 rfl, cell_of_block hb2 rfl, cell_of_block hb2 rfl, cell_of_block hb2 rfl, cell_of_block hb2 rfl⟩
            clear hK K hHeld
            have hHeld := hHeld'
            clear hHeld'
            try simp only [Act.put, List.setIfInBounds_toArray, List.set_cons_zero, List.set_cons_succ]
            refine held_call 17 rfl (by kernel_rfl) (fun K hK => ?_)
            go_simp
            go_at_call 18; refine (Hrs.out _ HF.out).mono ?_; rintro e wa ⟨rfl, hfd⟩; replace HF := Lib.hid (HF.out.trans' hfd); clear hfd
            refine hK.out _ _ ?_ (fun hHeld' => ?_)
            · have hb1 := HF.out.heap BX.out (fun f => f); have hb2 := HF.out.heap BY.out (fun f => f); exact ⟨cell_of_block hb1 rfl, cell_of_block hb1 rfl, cell_of_block hb1 rfl, cell_of_block hb1 rfl, cell_of_block hb1 rfl, cell_of_block hb2 rfl, cell_of_block hb2 rfl, cell_of_block hb2 rfl, cell_of_block hb2 rfl, cell_of_block hb2 rfl⟩
            clear hK K hHeld
            have hHeld := hHeld'
            clear hHeld'
            try simp only [Act.put, List.setIfInBounds_toArray, List.set_cons_zero, List.set_cons_succ]
            refine held_take (v := ?_) 18 rfl (by kernel_rfl) (.inl ⟨by rfl, ?_⟩) hHeld ?_
            rotate_left
            · intro w hSw; (try dsimp only at hSw); first | (go_simp; done) | (go_simp; with_reducible rfl)
            try simp only [Act.put, List.setIfInBounds_toArray, List.set_cons_zero, List.set_cons_succ]
            refine held_take (v := ?_) 19 rfl (by kernel_rfl) (.inl ⟨by rfl, ?_⟩) hHeld ?_
            rotate_left
            · intro w hSw; (try dsimp only at hSw); first | (go_simp; done) | (go_simp; with_reducible rfl)
            try simp only [Act.put, List.setIfInBounds_toArray, List.set_cons_zero, List.set_cons_succ]
            refine held_take (v := ?_) 20 rfl (by kernel_rfl) (.inl ⟨by rfl, ?_⟩) hHeld ?_
            rotate_left
            · intro w hSw; (try dsimp only at hSw); first | (go_simp; done) | (go_simp; with_reducible rfl)
            try simp only [Act.put, List.setIfInBounds_toArray, List.set_cons_zero, List.set_cons_succ]
            refine held_take (v := ?_) 21 rfl (by kernel_rfl) (.inl ⟨by rfl, ?_⟩) hHeld ?_
            rotate_left
            · intro w hSw; (try dsimp only at hSw); first | (go_simp; done) | (go_simp; with_reducible rfl)
            try simp only [Act.put, List.setIfInBounds_toArray, List.set_cons_zero, List.set_cons_succ]
            refine held_take (v := ?_) 22 rfl (by kernel_rfl) (.inl ⟨by rfl, ?_⟩) hHeld ?_
            rotate_left
            · intro w hSw; (try dsimp only at hSw); first | (go_simp; done) | (go_simp; with_reducible rfl)
            try simp only [Act.put, List.setIfInBounds_toArray, List.set_cons_zero, List.set_cons_succ]
            refine held_call 23 rfl (by kernel_rfl) (fun K hK => ?_)
            go_simp
            go_at_call 19; refine (Hbf.out _).mono ?_; rintro e wa ⟨rfl, hfd⟩; replace HF := Lib.hid (HF.out.trans' hfd); clear hfd
            refine hK.out _ _ ?_ (fun hHeld' => ?_)
            · have hb1 := HF.out.heap BX.out (fun f => f); have hb2 := HF.out.heap BY.out (fun f => f); exact ⟨cell_of_block hb1 rfl, cell_of_block hb1 rfl, cell_of_block hb1 rfl, cell_of_block hb1 rfl, cell_of_block hb1 rfl, cell_of_block hb2 rfl, cell_of_block hb2 rfl, cell_of_block hb2 rfl, cell_of_block hb2 rfl, cell_of_block hb2 rfl⟩
            clear hK K hHeld
            have hHeld := hHeld'
            clear hHeld'
            try simp only [Act.put, List.setIfInBounds_toArray, List.set_cons_zero, List.set_cons_succ]
            refine held_take (v := ?_) 24 rfl (by kernel_rfl) (.inl ⟨by rfl, ?_⟩) hHeld ?_
            rotate_left
            · intro w hSw; (try dsimp only at hSw); first | (go_simp; done) | (go_simp; with_reducible rfl)
            try simp only [Act.put, List.setIfInBounds_toArray, List.set_cons_zero, List.set_cons_succ]
            refine held_take (v := ?_) 25 rfl (by kernel_rfl) (.inl ⟨by rfl, ?_⟩) hHeld ?_
            rotate_left
            · intro w hSw; (try dsimp only at hSw); first | (go_simp; done) | (go_simp; with_reducible rfl)
            try simp only [Act.put, List.setIfInBounds_toArray, List.set_cons_zero, List.set_cons_succ]
            refine held_take (v := ?_) 26 rfl (by kernel_rfl) (.inl ⟨by rfl, ?_⟩) hHeld ?_
            rotate_left
            · intro w hSw; (try dsimp only at hSw); first | (go_simp; done) | (go_simp; with_reducible rfl)
            try simp only [Act.put, List.setIfInBounds_toArray, List.set_cons_zero, List.set_cons_succ]
            refine held_call 27 rfl (by kernel_rfl) (fun K hK => ?_)
            go_simp
            go_at_call 19; refine (Hbg.out _).mono ?_; rintro e wa ⟨rfl, hfd⟩; replace HF := Lib.hid (HF.out.trans' hfd); clear hfd
            refine hK.out _ _ ?_ (fun hHeld' => ?_)
            · have hb1 := HF.out.heap BX.out (fun f => f); have hb2 := HF.out.heap BY.out (fun f => f); exact ⟨cell_of_block hb1 rfl, cell_of_block hb1 rfl, cell_of_block hb1 rfl, cell_of_block hb1 rfl, cell_of_block hb1 rfl, cell_of_block hb2 rfl, cell_of_block hb2 rfl, cell_of_block hb2 rfl, cell_of_block hb2 rfl, cell_of_block hb2 rfl⟩
            clear hK K hHeld
            have hHeld := hHeld'
            clear hHeld'
            try simp only [Act.put, List.setIfInBounds_toArray, List.set_cons_zero, List.set_cons_succ]
            refine held_take (v := ?_) 28 rfl (by kernel_rfl) (.inl ⟨by rfl, ?_⟩) hHeld ?_
            rotate_left
            · intro w hSw; (try dsimp only at hSw); first | (go_simp; done) | (go_simp; with_reducible rfl)
            try simp only [Act.put, List.setIfInBounds_toArray, List.set_cons_zero, List.set_cons_succ]
            refine held_take (v := ?_) 29 rfl (by kernel_rfl) (.inl ⟨by rfl, ?_⟩) hHeld ?_
            rotate_left
            · intro w hSw; (try dsimp only at hSw); first | (go_simp; done) | (go_simp; with_reducible rfl)
            try simp only [Act.put, List.setIfInBounds_toArray, List.set_cons_zero, List.set_cons_succ]
            refine held_take (v := ?_) 30 rfl (by kernel_rfl) (.inl ⟨by rfl, ?_⟩) hHeld ?_
            rotate_left
            · intro w hSw; (try dsimp only at hSw); first | (go_simp; done) | (go_simp; with_reducible rfl)
            try simp only [Act.put, List.setIfInBounds_toArray, List.set_cons_zero, List.set_cons_succ]
            refine held_take (v := ?_) 31 rfl (by kernel_rfl) (.inl ⟨by rfl, ?_⟩) hHeld ?_
            rotate_left
            · intro w hSw; (try dsimp only at hSw); first | (go_simp; done) | (go_simp; with_reducible rfl)
            try simp only [Act.put, List.setIfInBounds_toArray, List.set_cons_zero, List.set_cons_succ]
            refine held_done (by kernel_rfl) ?_
            try clear hHeld
            go_wp2
            go_ret
            exact ⟨rfl, F.out.trans' HF.out⟩
          · skip
            refine wp_held (fun w' => w'.cell? ⟨gx, 0, none⟩ = some (.int .i64 s1) ∧ w'.cell? ⟨gx, 1, none⟩ = some (.int .i64 q1) ∧ w'.cell? ⟨gx, 2, none⟩ = some (.slice o1 d1.length c1) ∧ w'.cell? ⟨gx, 3, none⟩ = some (.string k1) ∧ w'.cell? ⟨gx, 4, none⟩ = some (.string x1) ∧ w'.cell? ⟨gy, 0, none⟩ = some (.int .i64 s2) ∧ w'.cell? ⟨gy, 1, none⟩ = some (.int .i64 q2) ∧ w'.cell? ⟨gy, 2, none⟩ = some (.slice o2 d2.length c2) ∧ w'.cell? ⟨gy, 3, none⟩ = some (.string k2) ∧ w'.cell? ⟨gy, 4, none⟩ = some (.string x2)) (by kernel_rfl) ?_ (fun hHeld => ?_)
            · exact ⟨xc0, xc1, xc2, xc3, xc4, yc0, yc1, yc2, yc3, yc4⟩
            refine held_take (v := ?_) 0 rfl (by kernel_rfl) (.inl ⟨by rfl, ?_⟩) hHeld ?_
            rotate_left
            · intro w hSw; (try dsimp only at hSw); first | (go_simp; done) | (go_simp; with_reducible rfl)
            try simp only [Act.put, List.setIfInBounds_toArray, List.set_cons_zero, List.set_cons_succ]
            refine held_take (v := ?_) 1 rfl (by kernel_rfl) (.inl ⟨by rfl, ?_⟩) hHeld ?_
            rotate_left
            · intro w hSw; (try dsimp only at hSw); first | (go_simp; done) | (go_simp; with_reducible rfl)
            try simp only [Act.put, List.setIfInBounds_toArray, List.set_cons_zero, List.set_cons_succ]
            refine held_take (v := ?_) 3 rfl (by kernel_rfl) (.inl ⟨by rfl, ?_⟩) hHeld ?_
            rotate_left
            · intro w hSw; (try dsimp only at hSw); first | (go_simp; done) | (go_simp; with_reducible rfl)
            try simp only [Act.put, List.setIfInBounds_toArray, List.set_cons_zero, List.set_cons_succ]
            refine held_take (v := ?_) 5 rfl (by kernel_rfl) (.inl ⟨by rfl, ?_⟩) hHeld ?_
            rotate_left
            · intro w hSw; (try dsimp only at hSw); first | (go_simp; done) | (go_simp; with_reducible rfl)
            try simp only [Act.put, List.setIfInBounds_toArray, List.set_cons_zero, List.set_cons_succ]
            refine held_call 2 rfl (by kernel_rfl) (fun K hK => ?_)
            go_simp
            go_at_call 19; refine (Hbf.out _).mono ?_; rintro e wa ⟨rfl, hfd⟩; have HF := Lib.hid ((Fr.drew (Fr.refl no u3)).trans' hfd); clear hfd
            refine hK.out _ _ ?_ (fun hHeld' => ?_)
            · have hb1 := HF.out.heap BX.out (fun f => f); have hb2 := HF.out.heap BY.out (fun f => f); exact ⟨cell_of_block hb1 rfl, cell_of_block hb1 rfl, cell_of_block hb1 rfl, cell_of_block hb1 rfl, cell_of_block hb1 rfl, cell_of_block hb2 rfl, cell_of_block hb2 rfl, cell_of_block hb2 rfl, cell_of_block hb2 rfl, cell_of_block hb2 rfl⟩
            clear hK K hHeld
            have hHeld := hHeld'
            clear hHeld'
            try simp only [Act.put, List.setIfInBounds_toArray, List.set_cons_zero, List.set_cons_succ]
            refine held_call 4 rfl (by kernel_rfl) (fun K hK => ?_)
            go_simp
            go_at_call 12; refine (Hoa.out _ HF.out).mono ?_; rintro e wa ⟨rfl, hfd⟩; replace HF := Lib.hid (HF.out.trans' hfd); clear hfd
            refine hK.out _ _ ?_ (fun hHeld' => ?_)
            · have hb1 := HF.out.heap BX.out (fun f => f); have hb2 := HF.out.heap BY.out (fun f => f); exact ⟨cell_of_block hb1 rfl, cell_of_block hb1 rfl, cell_of_block hb1 rfl, cell_of_block hb1 rfl, cell_of_block hb1 rfl, cell_of_block hb2 rfl, cell_of_block hb2 rfl, cell_of_block hb2 rfl, cell_of_block hb2 rfl, cell_of_block hb2 rfl⟩
            clear hK K hHeld
            have hHeld := hHeld'
            clear hHeld'
            try simp only [Act.put, List.setIfInBounds_toArray, List.set_cons_zero, List.set_cons_succ]
            refine held_call 6 rfl (by kernel_rfl) (fun K hK => ?_)
            go_simp
            go_at_call 12; refine (Hob.out _ HF.out).mono ?_; rintro e wa ⟨rfl, hfd⟩; replace HF := Lib.hid (HF.out.trans' hfd); clear hfd
            refine hK.out _ _ ?_ (fun hHeld' => ?_)
            · have hb1 := HF.out.heap BX.out (fun f => f); have hb2 := HF.out.heap BY.out (fun f => f); exact ⟨cell_of_block hb1 rfl, cell_of_block hb1 rfl, cell_of_block hb1 rfl, cell_of_block hb1 rfl, cell_of_block hb1 rfl, cell_of_block hb2 rfl, cell_of_block hb2 rfl, cell_of_block hb2 rfl, cell_of_block hb2 rfl, cell_of_block hb2 rfl⟩
            clear hK K hHeld
            have hHeld := hHeld'
            clear hHeld'
            try simp only [Act.put, List.setIfInBounds_toArray, List.set_cons_zero, List.set_cons_succ]
            refine held_call 7 rfl (by kernel_rfl) (fun K hK => ?_)
            go_simp
            go_at_call 20; refine (Hrf.out _).mono ?_; rintro e wa ⟨rfl, hfd⟩; replace HF := Lib.hid (HF.out.trans' hfd); clear hfd
            refine hK.out _ _ ?_ (fun hHeld' => ?_)
            · have hb1 := HF.out.heap BX.out (fun f => f); have hb2 := HF.out.heap BY.out (fun f => f); exact ⟨cell_of_block hb1 rfl, cell_of_block hb1 rfl, cell_of_block hb1 rfl, cell_of_block hb1 rfl, cell_of_block hb1 rfl, cell_of_block hb2 rfl, cell_of_block hb2 rfl, cell_of_block hb2 rfl, cell_of_block hb2 rfl, cell_of_block hb2 rfl⟩
            clear hK K hHeld
            have hHeld := hHeld'
            clear hHeld'
            try simp only [Act.put, List.setIfInBounds_toArray, List.set_cons_zero, List.set_cons_succ]
            refine held_take (v := ?_) 8 rfl (by kernel_rfl) (.inl ⟨by rfl, ?_⟩) hHeld ?_
            rotate_left
            · intro w hSw; (try dsimp only at hSw); first | (go_simp; done) | (go_simp; with_reducible rfl)
            try simp only [Act.put, List.setIfInBounds_toArray, List.set_cons_zero, List.set_cons_succ]
            refine held_take (v := ?_) 9 rfl (by kernel_rfl) (.inl ⟨by rfl, ?_⟩) hHeld ?_
            rotate_left
            · intro w hSw; (try dsimp only at hSw); first | (go_simp; done) | (go_simp; with_reducible rfl)
            try simp only [Act.put, List.setIfInBounds_toArray, List.set_cons_zero, List.set_cons_succ]
            refine held_take (v := ?_) 10 rfl (by kernel_rfl) (.inl ⟨by rfl, ?_⟩) hHeld ?_
            rotate_left
            · intro w hSw; (try dsimp only at hSw); first | (go_simp; done) | (go_simp; with_reducible rfl)
            try simp only [Act.put, List.setIfInBounds_toArray, List.set_cons_zero, List.set_cons_succ]
            refine held_take (v := ?_) 11 rfl (by kernel_rfl) (.inl ⟨by rfl, ?_⟩) hHeld ?_
            rotate_left
            · intro w hSw; (try dsimp only at hSw); first | (go_simp; done) | (go_simp; with_reducible rfl)
            try simp only [Act.put, List.setIfInBounds_toArray, List.set_cons_zero, List.set_cons_succ]
            refine held_take (v := ?_) 13 rfl (by kernel_rfl) (.inl ⟨by rfl, ?_⟩) hHeld ?_
            rotate_left
            · intro w hSw; (try dsimp only at hSw); first | (go_simp; done) | (go_simp; with_reducible rfl)
            try simp only [Act.put, List.setIfInBounds_toArray, List.set_cons_zero, List.set_cons_succ]
            refine held_take (v := ?_) 15 rfl (by kernel_rfl) (.inl ⟨by rfl, ?_⟩) hHeld ?_
            rotate_left
            · intro w hSw; (try dsimp only at hSw); first | (go_simp; done) | (go_simp; with_reducible rfl)
            try simp only [Act.put, List.setIfInBounds_toArray, List.set_cons_zero, List.set_cons_succ]
            refine held_call 12 rfl (by kernel_rfl) (fun K hK => ?_)
            go_simp
            go_at_call 21; refine (Hsm.out _ HF.out).mono ?_; rintro e wa ⟨rfl, hfd⟩; replace HF := Lib.hid (HF.out.trans' hfd); clear hfd
            refine hK.out _ _ ?_ (fun hHeld' => ?_)
            · have hb1 := HF.out.heap BX.out (fun f => f); have hb2 := HF.out.heap BY.out (fun f => f); exact ⟨cell_of_block hb1 rfl, cell_of_block hb1 rfl, cell_of_block hb1 rfl, cell_of_block hb1 rfl, cell_of_block hb1 rfl, cell_of_block hb2 rfl, cell_of_block hb2 rfl, cell_of_block hb2 rfl, cell_of_block hb2 rfl, cell_of_block hb2 rfl⟩
            clear hK K hHeld
            have hHeld := hHeld'
            clear hHeld'
            try simp only [Act.put, List.setIfInBounds_toArray, List.set_cons_zero, List.set_cons_succ]
            refine held_call 14 rfl (by kernel_rfl) (fun K hK => ?_)
            go_simp
            go_at_call 12; refine (Hoa.out _ HF.out).mono ?_; rintro e wa ⟨rfl, hfd⟩; replace HF := Lib.hid (HF.out.trans' hfd); clear hfd
            refine hK.out _ _ ?_ (fun hHeld' => ?_)
            · have hb1 := HF.out.heap BX.out (fun f => f); have hb2 := HF.out.heap BY.out (fun f => f); exact ⟨cell_of_block hb1 rfl, cell_of_block hb1 rfl, cell_of_block hb1 rfl, cell_of_block hb1 rfl, cell_of_block hb1 rfl, cell_of_block hb2 rfl, cell_of_block hb2 rfl, cell_of_block hb2 rfl, cell_of_block hb2 rfl, cell_of_block hb2 rfl⟩
            clear hK K hHeld
            have hHeld := hHeld'
            clear hHeld'
            try simp only [Act.put, List.setIfInBounds_toArray, List.set_cons_zero, List.set_cons_succ]
            refine held_call 16 rfl (by kernel_rfl) (fun K hK => ?_)
            go_simp
            go_at_call 12; refine (Hob.out _ HF.out).mono ?_; rintro e wa ⟨rfl, hfd⟩; replace HF := Lib.hid (HF.out.trans' hfd); clear hfd
            refine hK.out _ _ ?_ (fun hHeld' => ?_)
            · have hb1 := HF.out.heap BX.out (fun f => f); have hb2 := HF.out.heap BY.out (fun f => f); exact ⟨cell_of_block hb1 rfl, cell_of_block hb1 rfl, cell_of_block hb1 rfl, cell_of_block hb1 rfl, cell_of_block hb1 rfl, cell_of_block hb2 rfl, cell_of_block hb2 rfl, cell_of_block hb2 rfl, cell_of_block hb2 rfl, cell_of_block hb2 rfl⟩
            clear hK K hHeld
            have hHeld := hHeld'
            clear hHeld'
            try simp only [Act.put, List.setIfInBounds_toArray, List.set_cons_zero, List.set_cons_succ]
            refine held_call 17 rfl (by kernel_rfl) (fun K hK => ?_)
            go_simp
            go_at_call 18; refine (Hrs.out _ HF.out).mono ?_; rintro e wa ⟨rfl, hfd⟩; replace HF := Lib.hid (HF.out.trans' hfd); clear hfd
            refine hK.out _ _ ?_ (fun hHeld' => ?_)
            · have hb1 := HF.out.heap BX.out (fun f => f); have hb2 := HF.out.heap BY.out (fun f => f); exact ⟨cell_of_block hb1 rfl, cell_of_block hb1 rfl, cell_of_block hb1 rfl, cell_of_block hb1 rfl, cell_of_block hb1 rfl, cell_of_block hb2 rfl, cell_of_block hb2 rfl, cell_of_block hb2 rfl, cell_of_block hb2 rfl, cell_of_block hb2 rfl⟩
            clear hK K hHeld
            have hHeld := hHeld'
            clear hHeld'
            try simp only [Act.put, List.setIfInBounds_toArray, List.set_cons_zero, List.set_cons_succ]
            refine held_take (v := ?_) 18 rfl (by kernel_rfl) (.inl ⟨by rfl, ?_⟩) hHeld ?_
            rotate_left
            · intro w hSw; (try dsimp only at hSw); first | (go_simp; done) | (go_simp; with_reducible rfl)
            try simp only [Act.put, List.setIfInBounds_toArray, List.set_cons_zero, List.set_cons_succ]
            refine held_take (v := ?_) 19 rfl (by kernel_rfl) (.inl ⟨by rfl, ?_⟩) hHeld ?_
            rotate_left
            · intro w hSw; (try dsimp only at hSw); first | (go_simp; done) | (go_simp; with_reducible rfl)
            try simp only [Act.put, List.setIfInBounds_toArray, List.set_cons_zero, List.set_cons_succ]
            refine held_take (v := ?_) 20 rfl (by kernel_rfl) (.inl ⟨by rfl, ?_⟩) hHeld ?_
            rotate_left
            · intro w hSw; (try dsimp only at hSw); first | (go_simp; done) | (go_simp; with_reducible rfl)
            try simp only [Act.put, List.setIfInBounds_toArray, List.set_cons_zero, List.set_cons_succ]
            refine held_take (v := ?_) 21 rfl (by kernel_rfl) (.inl ⟨by rfl, ?_⟩) hHeld ?_
            rotate_left
            · intro w hSw; (try dsimp only at hSw); first | (go_simp; done) | (go_simp; with_reducible rfl)
            try simp only [Act.put, List.setIfInBounds_toArray, List.set_cons_zero, List.set_cons_succ]
            refine held_take (v := ?_) 22 rfl (by kernel_rfl) (.inl ⟨by rfl, ?_⟩) hHeld ?_
            rotate_left
            · intro w hSw; (try dsimp only at hSw); first | (go_simp; done) | (go_simp; with_reducible rfl)
            try simp only [Act.put, List.setIfInBounds_toArray, List.set_cons_zero, List.set_cons_succ]
            refine held_call 23 rfl (by kernel_rfl) (fun K hK => ?_)
            go_simp
            go_at_call 19; refine (Hbf.out _).mono ?_; rintro e wa ⟨rfl, hfd⟩; replace HF := Lib.hid (HF.out.trans' hfd); clear hfd
            refine hK.out _ _ ?_ (fun hHeld' => ?_)
            · have hb1 := HF.out.heap BX.out (fun f => f); have hb2 := HF.out.heap BY.out (fun f => f); exact ⟨cell_of_block hb1 rfl, cell_of_block hb1 rfl, cell_of_block hb1 rfl, cell_of_block hb1 rfl, cell_of_block hb1 rfl, cell_of_block hb2 rfl, cell_of_block hb2 rfl, cell_of_block hb2 rfl, cell_of_block hb2 rfl, cell_of_block hb2 rfl⟩
            clear hK K hHeld
            have hHeld := hHeld'
            clear hHeld'
            try simp only [Act.put, List.setIfInBounds_toArray, List.set_cons_zero, List.set_cons_succ]
            refine held_take (v := ?_) 24 rfl (by kernel_rfl) (.inl ⟨by rfl, ?_⟩) hHeld ?_
            rotate_left
            · intro w hSw; (try dsimp only at hSw); first | (go_simp; done) | (go_simp; with_reducible rfl)
            try simp only [Act.put, List.setIfInBounds_toArray, List.set_cons_zero, List.set_cons_succ]
            refine held_take (v := ?_) 25 rfl (by kernel_rfl) (.inl ⟨by rfl, ?_⟩) hHeld ?_
            rotate_left
            · intro w hSw; (try dsimp only at hSw); first | (go_simp; done) | (go_simp; with_reducible rfl)
            try simp only [Act.put, List.setIfInBounds_toArray, List.set_cons_zero, List.set_cons_succ]
            refine held_take (v := ?_) 26 rfl (by kernel_rfl) (.inl ⟨by rfl, ?_⟩) hHeld ?_
            rotate_left
            · intro w hSw; (try dsimp only at hSw); first | (go_simp; done) | (go_simp; with_reducible rfl)
            try simp only [Act.put, List.setIfInBounds_toArray, List.set_cons_zero, List.set_cons_succ]
            refine held_call 27 rfl (by kernel_rfl) (fun K hK => ?_)
            go_simp
            go_at_call 19; refine (Hbg.out _).mono ?_; rintro e wa ⟨rfl, hfd⟩; replace HF := Lib.hid (HF.out.trans' hfd); clear hfd
            refine hK.out _ _ ?_ (fun hHeld' => ?_)
            · have hb1 := HF.out.heap BX.out (fun f => f); have hb2 := HF.out.heap BY.out (fun f => f); exact ⟨cell_of_block hb1 rfl, cell_of_block hb1 rfl, cell_of_block hb1 rfl, cell_of_block hb1 rfl, cell_of_block hb1 rfl, cell_of_block hb2 rfl, cell_of_block hb2 rfl, cell_of_block hb2 rfl, cell_of_block hb2 rfl, cell_of_block hb2 rfl⟩
            clear hK K hHeld
            have hHeld := hHeld'
            clear hHeld'
            try simp only [Act.put, List.setIfInBounds_toArray, List.set_cons_zero, List.set_cons_succ]
            refine held_take (v := ?_) 28 rfl (by kernel_rfl) (.inl ⟨by rfl, ?_⟩) hHeld ?_
            rotate_left
            · intro w hSw; (try dsimp only at hSw); first | (go_simp; done) | (go_simp; with_reducible rfl)
            try simp only [Act.put, List.setIfInBounds_toArray, List.set_cons_zero, List.set_cons_succ]
            refine held_take (v := ?_) 29 rfl (by kernel_rfl) (.inl ⟨by rfl, ?_⟩) hHeld ?_
            rotate_left
            · intro w hSw; (try dsimp only at hSw); first | (go_simp; done) | (go_simp; with_reducible rfl)
            try simp only [Act.put, List.setIfInBounds_toArray, List.set_cons_zero, List.set_cons_succ]
            refine held_take (v := ?_) 30 rfl (by kernel_rfl) (.inl ⟨by rfl, ?_⟩) hHeld ?_
            rotate_left
            · intro w hSw; (try dsimp only at hSw); first | (go_simp; done) | (go_simp; with_reducible rfl)
            try simp only [Act.put, List.setIfInBounds_toArray, List.set_cons_zero, List.set_cons_succ]
            refine held_take (v := ?_) 31 rfl (by kernel_rfl) (.inl ⟨by rfl, ?_⟩) hHeld ?_
            rotate_left
            · intro w hSw; (try dsimp only at hSw); first | (go_simp; done) | (go_simp; with_reducible rfl)
            try simp only [Act.put, List.setIfInBounds_toArray, List.set_cons_zero, List.set_cons_succ]
            refine held_done (by kernel_rfl) ?_
            try clear hHeld
            go_wp2
            go_ret
            exact ⟨rfl, F.out.trans' HF.out⟩
        · cases hn
    · have hfb : b.few = false := by simpa using hfb
      have hc := law_few b u2 HB.out
      rw [hfb] at hc
      try rw [Ea.out] at hc
      try rw [Eb.out] at hc
      refine hc.mono ?_
      clear hc
      rintro e u3 ⟨rfl, hfd⟩
      replace F := Lib.hid (F.out.trans' hfd)
      replace HA := Lib.hid (HA.out.fr hfd)
      replace HB := Lib.hid (HB.out.fr hfd)
      replace BX := Lib.hid (hfd.heap BX.out (fun f => f))
      replace BY := Lib.hid (hfd.heap BY.out (fun f => f))
      clear hfd
      clear hfb
      have xc0 : u3.cell? ⟨gx, 0, none⟩ = some (.int .i64 s1) := cell_of_block BX.out rfl
      have xc1 : u3.cell? ⟨gx, 1, none⟩ = some (.int .i64 q1) := cell_of_block BX.out rfl
      have xc2 : u3.cell? ⟨gx, 2, none⟩ = some (.slice o1 d1.length c1) := cell_of_block BX.out rfl
      have xc3 : u3.cell? ⟨gx, 3, none⟩ = some (.string k1) := cell_of_block BX.out rfl
      have xc4 : u3.cell? ⟨gx, 4, none⟩ = some (.string x1) := cell_of_block BX.out rfl
      have yc0 : u3.cell? ⟨gy, 0, none⟩ = some (.int .i64 s2) := cell_of_block BY.out rfl
      have yc1 : u3.cell? ⟨gy, 1, none⟩ = some (.int .i64 q2) := cell_of_block BY.out rfl
      have yc2 : u3.cell? ⟨gy, 2, none⟩ = some (.slice o2 d2.length c2) := cell_of_block BY.out rfl
      have yc3 : u3.cell? ⟨gy, 3, none⟩ = some (.string k2) := cell_of_block BY.out rfl
      have yc4 : u3.cell? ⟨gy, 4, none⟩ = some (.string x2) := cell_of_block BY.out rfl
      go_wp2_with fail
      clear xc0 xc1 xc2 xc3 xc4 yc0 yc1 yc2 yc3 yc4
      go_ret
      exact ⟨rfl, F.out⟩
  · have hfa : a.few = false := by simpa using hfa
    have hc := law_few a u1 HA.out
    rw [hfa] at hc
    try rw [Ea.out] at hc
    try rw [Eb.out] at hc
    refine hc.mono ?_
    clear hc
    rintro e u2 ⟨rfl, hfd⟩
    replace F := Lib.hid (F.out.trans' hfd)
    replace HA := Lib.hid (HA.out.fr hfd)
    replace HB := Lib.hid (HB.out.fr hfd)
    replace BX := Lib.hid (hfd.heap BX.out (fun f => f))
    replace BY := Lib.hid (hfd.heap BY.out (fun f => f))
    clear hfd
    clear hfa
    have xc0 : u2.cell? ⟨gx, 0, none⟩ = some (.int .i64 s1) := cell_of_block BX.out rfl
    have xc1 : u2.cell? ⟨gx, 1, none⟩ = some (.int .i64 q1) := cell_of_block BX.out rfl
    have xc2 : u2.cell? ⟨gx, 2, none⟩ = some (.slice o1 d1.length c1) := cell_of_block BX.out rfl
    have xc3 : u2.cell? ⟨gx, 3, none⟩ = some (.string k1) := cell_of_block BX.out rfl
    have xc4 : u2.cell? ⟨gx, 4, none⟩ = some (.string x1) := cell_of_block BX.out rfl
    have yc0 : u2.cell? ⟨gy, 0, none⟩ = some (.int .i64 s2) := cell_of_block BY.out rfl
    have yc1 : u2.cell? ⟨gy, 1, none⟩ = some (.int .i64 q2) := cell_of_block BY.out rfl
    have yc2 : u2.cell? ⟨gy, 2, none⟩ = some (.slice o2 d2.length c2) := cell_of_block BY.out rfl
    have yc3 : u2.cell? ⟨gy, 3, none⟩ = some (.string k2) := cell_of_block BY.out rfl
    have yc4 : u2.cell? ⟨gy, 4, none⟩ = some (.string x2) := cell_of_block BY.out rfl
    go_wp2_with fail
    clear xc0 xc1 xc2 xc3 xc4 yc0 yc1 yc2 yc3 yc4
    go_ret
    exact ⟨rfl, F.out⟩
set_option maxRecDepth 100000 in
theorem recTwo_row {H : Type} {enc : TypeId × Value → H} (v0 v1 : Value) {d0 d1 : DataW H} {p0 p1 : List MemPlace} {base : Nat} (w : World) (hG : GlU w)
    (ok0 : Value.okWide Tryz.prog w .any base 25 v0) (h0 : DataW.Trod enc Tryz.prog w 0 (fun _ => true) true 25 v0 d0 p0)
    (ok1 : Value.okWide Tryz.prog w .any base 25 v1) (h1 : DataW.Trod enc Tryz.prog w 0 (fun _ => true) true 25 v1 d1 p1) :
    Calls Tryz.prog 4 #[v0, v1] w fun e w' => e = .returned (.bool true) ∧ Below w.heap.size w w' := by
  obtain ⟨a, rfl, ra, _⟩ := recv_open ok0 h0
  obtain ⟨b, rfl, rb, _⟩ := recv_open ok1 h1
  refine (recTwo_any a b w hG ra rb).mono ?_
  rintro e w' ⟨he, hf⟩
  exact ⟨he, hf.below⟩
end Go.Proofs.YtgcjnhocoklfbaaGreatDoor
