/- The walk of the law RecSorted (draft). -/
import Derived.Test.YtgcjnhocoklfbaaGreatDoorRcA
import Derived.Test.YtgcjnhocoklfbaaGreatDoorRc9
import Derived.Test.YtgcjnhocoklfbaaGreatDoorRcS
namespace Go.Proofs.YtgcjnhocoklfbaaGreatDoor
open Go.RowKit Go.Shelf Go.XL Go.ChangeShapes Go.WideShapes Go.ChangeAt
set_option linter.unusedVariables false
set_option linter.unusedSimpArgs false
attribute [local go_sem] Oper.semAt_some
set_option maxRecDepth 100000 in
set_option maxHeartbeats 8000000 in
theorem recSorted_any (a b c : Rc) (w : World) (hG : GlU w) (h1 : RcOk w a) (h2 : RcOk w b) (h3 : RcOk w c) :
    Calls Tryz.prog 8 #[a.v, b.v, c.v] w fun e w' => e = .returned (.bool true) ∧ Fr no w w' := by
  obtain ⟨s1, q1, v1, d1, k1, x1⟩ := a
  obtain ⟨o1, c1, hv1, _, _⟩ := Rd.cap h1
  dsimp only at hv1
  subst hv1
  obtain ⟨s2, q2, v2, d2, k2, x2⟩ := b
  obtain ⟨o2, c2, hv2, _, _⟩ := Rd.cap h2
  dsimp only at hv2
  subst hv2
  obtain ⟨s3, q3, v3, d3, k3, x3⟩ := c
  obtain ⟨o3, c3, hv3, _, _⟩ := Rd.cap h3
  dsimp only at hv3
  subst hv3
  obtain ⟨a, hA1⟩ : ∃ r : Rc, (⟨s1, q1, .slice o1 d1.length c1, d1, k1, x1⟩ : Rc) = r := ⟨_, rfl⟩
  have ea1 : a.v = .agg #[.int .i64 s1, .int .i64 q1, .slice o1 d1.length c1, .string k1, .string x1] := by rw [← hA1]; rfl
  have es1 : a.s = s1 ∧ a.q = q1 := by rw [← hA1]; exact ⟨rfl, rfl⟩
  rw [hA1] at h1 ⊢
  obtain ⟨b, hA2⟩ : ∃ r : Rc, (⟨s2, q2, .slice o2 d2.length c2, d2, k2, x2⟩ : Rc) = r := ⟨_, rfl⟩
  have ea2 : b.v = .agg #[.int .i64 s2, .int .i64 q2, .slice o2 d2.length c2, .string k2, .string x2] := by rw [← hA2]; rfl
  have es2 : b.s = s2 ∧ b.q = q2 := by rw [← hA2]; exact ⟨rfl, rfl⟩
  rw [hA2] at h2 ⊢
  obtain ⟨c, hA3⟩ : ∃ r : Rc, (⟨s3, q3, .slice o3 d3.length c3, d3, k3, x3⟩ : Rc) = r := ⟨_, rfl⟩
  have ea3 : c.v = .agg #[.int .i64 s3, .int .i64 q3, .slice o3 d3.length c3, .string k3, .string x3] := by rw [← hA3]; rfl
  have es3 : c.s = s3 ∧ c.q = q3 := by rw [← hA3]; exact ⟨rfl, rfl⟩
  rw [hA3] at h3 ⊢
  rw [ea1, ea2, ea3]
  have HG := Lib.hid hG
  have F := Lib.hid (Fr.refl no w)
  have HA := Lib.hid h1
  have Ea := Lib.hid ea1
  have ES1 := Lib.hid es1
  have HB := Lib.hid h2
  have Eb := Lib.hid ea2
  have ES2 := Lib.hid es2
  have HC := Lib.hid h3
  have Ec := Lib.hid ea3
  have ES3 := Lib.hid es3
  clear hG h1 ea1 es1 hA1 h2 ea2 es2 hA2 h3 ea3 es3 hA3
  go_enter Tryz.func8, Tryz.ntmps8
  go_wp2_with fail
  obtain ⟨w0, hw0⟩ : ∃ U, ((w.alloc (.cells #[.int .i64 s1, .int .i64 q1, .slice o1 d1.length c1, .string k1, .string x1] 25)).alloc (.cells #[.int .i64 s2, .int .i64 q2, .slice o2 d2.length c2, .string k2, .string x2] 25)).alloc (.cells #[.int .i64 s3, .int .i64 q3, .slice o3 d3.length c3, .string k3, .string x3] 25) = U := ⟨_, rfl⟩
  obtain ⟨gx, hgx⟩ : ∃ g, w.heap.size = g := ⟨_, rfl⟩
  obtain ⟨gy, hgy⟩ : ∃ g, gx + 1 = g := ⟨_, rfl⟩
  obtain ⟨gz, hgz⟩ : ∃ g, gy + 1 = g := ⟨_, rfl⟩
  have hb1 : w0.heap[gx]? = some (.cells #[.int .i64 s1, .int .i64 q1, .slice o1 d1.length c1, .string k1, .string x1] 25 (0, 0)) := by rw [← hw0]; simp only [alloc_get, World.size_alloc]; simp [← hgz, ← hgy, ← hgx] <;> (intro h; omega)
  have hb2 : w0.heap[gy]? = some (.cells #[.int .i64 s2, .int .i64 q2, .slice o2 d2.length c2, .string k2, .string x2] 25 (0, 0)) := by rw [← hw0]; simp only [alloc_get, World.size_alloc]; simp [← hgz, ← hgy, ← hgx] <;> (intro h; omega)
  have hb3 : w0.heap[gz]? = some (.cells #[.int .i64 s3, .int .i64 q3, .slice o3 d3.length c3, .string k3, .string x3] 25 (0, 0)) := by rw [← hw0]; simp only [alloc_get, World.size_alloc]; simp [← hgz, ← hgy, ← hgx] <;> (intro h; omega)
  have hfd : Fr no w w0 := by rw [← hw0]; exact (((Fr.refl no w).alloc _).alloc _).alloc _
  rw [hw0, hgx]
  try rw [hgy]
  try rw [hgz]
  replace F := Lib.hid (F.out.trans' hfd)
  replace HA := Lib.hid (HA.out.fr hfd)
  replace HB := Lib.hid (HB.out.fr hfd)
  replace HC := Lib.hid (HC.out.fr hfd)
  have BX := Lib.hid hb1
  have BY := Lib.hid hb2
  have BZ := Lib.hid hb3
  clear hfd hb1 hb2 hb3 hw0 hgx hgy hgz
  have hc := rknown w0 (HG.out.fr F.out)
  try rw [Ea.out] at hc
  try rw [Eb.out] at hc
  try rw [Ec.out] at hc
  refine hc.mono ?_
  clear hc
  rintro e u1 ⟨rfl, hfd⟩
  replace F := Lib.hid (F.out.trans' hfd)
  replace HA := Lib.hid (HA.out.fr hfd)
  replace BX := Lib.hid (hfd.heap BX.out (fun f => f))
  replace HB := Lib.hid (HB.out.fr hfd)
  replace BY := Lib.hid (hfd.heap BY.out (fun f => f))
  replace HC := Lib.hid (HC.out.fr hfd)
  replace BZ := Lib.hid (hfd.heap BZ.out (fun f => f))
  clear hfd
  have xc0 : u1.cell? ⟨gx, 0, none⟩ = some (.int .i64 s1) := cell_of_block BX.out rfl
  have xc1 : u1.cell? ⟨gx, 1, none⟩ = some (.int .i64 q1) := cell_of_block BX.out rfl
  have xc2 : u1.cell? ⟨gx, 2, none⟩ = some (.slice o1 d1.length c1) := cell_of_block BX.out rfl
  have xc3 : u1.cell? ⟨gx, 3, none⟩ = some (.string k1) := cell_of_block BX.out rfl
  have xc4 : u1.cell? ⟨gx, 4, none⟩ = some (.string x1) := cell_of_block BX.out rfl
  have yc0 : u1.cell? ⟨gy, 0, none⟩ = some (.int .i64 s2) := cell_of_block BY.out rfl
  have yc1 : u1.cell? ⟨gy, 1, none⟩ = some (.int .i64 q2) := cell_of_block BY.out rfl
  have yc2 : u1.cell? ⟨gy, 2, none⟩ = some (.slice o2 d2.length c2) := cell_of_block BY.out rfl
  have yc3 : u1.cell? ⟨gy, 3, none⟩ = some (.string k2) := cell_of_block BY.out rfl
  have yc4 : u1.cell? ⟨gy, 4, none⟩ = some (.string x2) := cell_of_block BY.out rfl
  have zc0 : u1.cell? ⟨gz, 0, none⟩ = some (.int .i64 s3) := cell_of_block BZ.out rfl
  have zc1 : u1.cell? ⟨gz, 1, none⟩ = some (.int .i64 q3) := cell_of_block BZ.out rfl
  have zc2 : u1.cell? ⟨gz, 2, none⟩ = some (.slice o3 d3.length c3) := cell_of_block BZ.out rfl
  have zc3 : u1.cell? ⟨gz, 3, none⟩ = some (.string k3) := cell_of_block BZ.out rfl
  have zc4 : u1.cell? ⟨gz, 4, none⟩ = some (.string x3) := cell_of_block BZ.out rfl
  go_wp2_with fail
  clear xc0 xc1 xc2 xc3 xc4 yc0 yc1 yc2 yc3 yc4 zc0 zc1 zc2 zc3 zc4
  by_cases hf0 : a.few = true
  · skip
    have hc := law_few a u1 HA.out
    rw [hf0] at hc
    try rw [Ea.out] at hc
    try rw [Eb.out] at hc
    try rw [Ec.out] at hc
    refine hc.mono ?_
    clear hc
    rintro e u2 ⟨rfl, hfd⟩
    replace F := Lib.hid (F.out.trans' hfd)
    replace HA := Lib.hid (HA.out.fr hfd)
    replace BX := Lib.hid (hfd.heap BX.out (fun f => f))
    replace HB := Lib.hid (HB.out.fr hfd)
    replace BY := Lib.hid (hfd.heap BY.out (fun f => f))
    replace HC := Lib.hid (HC.out.fr hfd)
    replace BZ := Lib.hid (hfd.heap BZ.out (fun f => f))
    clear hfd
    have xc0 : u2.cell? ⟨gx, 0, none⟩ = some (.int .i64 s1) := cell_of_block BX.out rfl
    have xc1 : u2.cell? ⟨gx, 1, none⟩ = some (.int .i64 q1) := cell_of_block BX.out rfl
    have xc2 : u2.cell? ⟨gx, 2, none⟩ = some (.slice o1 d1.length c1) := cell_of_block BX.out rfl
    have xc3 : u2.cell? ⟨gx, 3, none⟩ = some (.string k1) := cell_of_block BX.out rfl
    have xc4 : u2.cell? ⟨gx, 4, none⟩ = some (.string x1) := cell_of_block BX.out rfl
    have yc0 : u2.cell? ⟨gy, 0, none⟩ = some (.int .i64 s2) := cell_of_block BY.out rfl
    have yc1 : u2.cell? ⟨gy, 1, none⟩ = some (.int .i64 q2) := cell_of_block BY.out rfl
    have yc2 : u2.cell? ⟨gy, 2, none⟩ = some (.slice o2 d2.length c2) := cell_of_block BY.out rfl
    have yc3 : u2.cell? ⟨gy, 3, none⟩ = some (.string k2) := cell_of_block BY.out rfl
    have yc4 : u2.cell? ⟨gy, 4, none⟩ = some (.string x2) := cell_of_block BY.out rfl
    have zc0 : u2.cell? ⟨gz, 0, none⟩ = some (.int .i64 s3) := cell_of_block BZ.out rfl
    have zc1 : u2.cell? ⟨gz, 1, none⟩ = some (.int .i64 q3) := cell_of_block BZ.out rfl
    have zc2 : u2.cell? ⟨gz, 2, none⟩ = some (.slice o3 d3.length c3) := cell_of_block BZ.out rfl
    have zc3 : u2.cell? ⟨gz, 3, none⟩ = some (.string k3) := cell_of_block BZ.out rfl
    have zc4 : u2.cell? ⟨gz, 4, none⟩ = some (.string x3) := cell_of_block BZ.out rfl
    go_wp2_with fail
    clear xc0 xc1 xc2 xc3 xc4 yc0 yc1 yc2 yc3 yc4 zc0 zc1 zc2 zc3 zc4
    clear hf0
    by_cases hf1 : b.few = true
    · skip
      have hc := law_few b u2 HB.out
      rw [hf1] at hc
      try rw [Ea.out] at hc
      try rw [Eb.out] at hc
      try rw [Ec.out] at hc
      refine hc.mono ?_
      clear hc
      rintro e u3 ⟨rfl, hfd⟩
      replace F := Lib.hid (F.out.trans' hfd)
      replace HA := Lib.hid (HA.out.fr hfd)
      replace BX := Lib.hid (hfd.heap BX.out (fun f => f))
      replace HB := Lib.hid (HB.out.fr hfd)
      replace BY := Lib.hid (hfd.heap BY.out (fun f => f))
      replace HC := Lib.hid (HC.out.fr hfd)
      replace BZ := Lib.hid (hfd.heap BZ.out (fun f => f))
      clear hfd
      have xc0 : u3.cell? ⟨gx, 0, none⟩ = some (.int .i64 s1) := cell_of_block BX.out rfl
      have xc1 : u3.cell? ⟨gx, 1, none⟩ = some (.int .i64 q1) := cell_of_block BX.out rfl
      have xc2 : u3.cell? ⟨gx, 2, none⟩ = some (.slice o1 d1.length c1) := cell_of_block BX.out rfl
      have xc3 : u3.cell? ⟨gx, 3, none⟩ = some (.string k1) := cell_of_block BX.out rfl
      have xc4 : u3.cell? ⟨gx, 4, none⟩ = some (.string x1) := cell_of_block BX.out rfl
      have yc0 : u3.cell? ⟨gy, 0, none⟩ = some (.int .i64 s2) := cell_of_block BY.out rfl
      have yc1 : u3.cell? ⟨gy, 1, none⟩ = some (.int .i64 q2) := cell_of_block BY.out rfl
      have yc2 : u3.cell? ⟨gy, 2, none⟩ = some (.slice o2 d2.length c2) := cell_of_block BY.out rfl
      have yc3 : u3.cell? ⟨gy, 3, none⟩ = some (.string k2) := cell_of_block BY.out rfl
      have yc4 : u3.cell? ⟨gy, 4, none⟩ = some (.string x2) := cell_of_block BY.out rfl
      have zc0 : u3.cell? ⟨gz, 0, none⟩ = some (.int .i64 s3) := cell_of_block BZ.out rfl
      have zc1 : u3.cell? ⟨gz, 1, none⟩ = some (.int .i64 q3) := cell_of_block BZ.out rfl
      have zc2 : u3.cell? ⟨gz, 2, none⟩ = some (.slice o3 d3.length c3) := cell_of_block BZ.out rfl
      have zc3 : u3.cell? ⟨gz, 3, none⟩ = some (.string k3) := cell_of_block BZ.out rfl
      have zc4 : u3.cell? ⟨gz, 4, none⟩ = some (.string x3) := cell_of_block BZ.out rfl
      go_wp2_with fail
      clear xc0 xc1 xc2 xc3 xc4 yc0 yc1 yc2 yc3 yc4 zc0 zc1 zc2 zc3 zc4
      clear hf1
      by_cases hf2 : c.few = true
      · skip
        have hc := law_few c u3 HC.out
        rw [hf2] at hc
        try rw [Ea.out] at hc
        try rw [Eb.out] at hc
        try rw [Ec.out] at hc
        refine hc.mono ?_
        clear hc
        rintro e u4 ⟨rfl, hfd⟩
        replace F := Lib.hid (F.out.trans' hfd)
        replace HA := Lib.hid (HA.out.fr hfd)
        replace BX := Lib.hid (hfd.heap BX.out (fun f => f))
        replace HB := Lib.hid (HB.out.fr hfd)
        replace BY := Lib.hid (hfd.heap BY.out (fun f => f))
        replace HC := Lib.hid (HC.out.fr hfd)
        replace BZ := Lib.hid (hfd.heap BZ.out (fun f => f))
        clear hfd
        have xc0 : u4.cell? ⟨gx, 0, none⟩ = some (.int .i64 s1) := cell_of_block BX.out rfl
        have xc1 : u4.cell? ⟨gx, 1, none⟩ = some (.int .i64 q1) := cell_of_block BX.out rfl
        have xc2 : u4.cell? ⟨gx, 2, none⟩ = some (.slice o1 d1.length c1) := cell_of_block BX.out rfl
        have xc3 : u4.cell? ⟨gx, 3, none⟩ = some (.string k1) := cell_of_block BX.out rfl
        have xc4 : u4.cell? ⟨gx, 4, none⟩ = some (.string x1) := cell_of_block BX.out rfl
        have yc0 : u4.cell? ⟨gy, 0, none⟩ = some (.int .i64 s2) := cell_of_block BY.out rfl
        have yc1 : u4.cell? ⟨gy, 1, none⟩ = some (.int .i64 q2) := cell_of_block BY.out rfl
        have yc2 : u4.cell? ⟨gy, 2, none⟩ = some (.slice o2 d2.length c2) := cell_of_block BY.out rfl
        have yc3 : u4.cell? ⟨gy, 3, none⟩ = some (.string k2) := cell_of_block BY.out rfl
        have yc4 : u4.cell? ⟨gy, 4, none⟩ = some (.string x2) := cell_of_block BY.out rfl
        have zc0 : u4.cell? ⟨gz, 0, none⟩ = some (.int .i64 s3) := cell_of_block BZ.out rfl
        have zc1 : u4.cell? ⟨gz, 1, none⟩ = some (.int .i64 q3) := cell_of_block BZ.out rfl
        have zc2 : u4.cell? ⟨gz, 2, none⟩ = some (.slice o3 d3.length c3) := cell_of_block BZ.out rfl
        have zc3 : u4.cell? ⟨gz, 3, none⟩ = some (.string k3) := cell_of_block BZ.out rfl
        have zc4 : u4.cell? ⟨gz, 4, none⟩ = some (.string x3) := cell_of_block BZ.out rfl
        go_wp2_with fail
        clear xc0 xc1 xc2 xc3 xc4 yc0 yc1 yc2 yc3 yc4 zc0 zc1 zc2 zc3 zc4
        clear hf2
        obtain ⟨p, hp⟩ : ∃ p, beforeC a b = p := ⟨_, rfl⟩
        obtain ⟨q, hq⟩ : ∃ p, beforeC b c = p := ⟨_, rfl⟩
        obtain ⟨r, hr⟩ : ∃ p, beforeC a c = p := ⟨_, rfl⟩
        obtain ⟨p2, hp2⟩ : ∃ p, beforeC b a = p := ⟨_, rfl⟩
        obtain ⟨s, hs⟩ : ∃ p, sameC a b = p := ⟨_, rfl⟩
        obtain ⟨t, ht⟩ : ∃ p, sameC b c = p := ⟨_, rfl⟩
        obtain ⟨v, hv⟩ : ∃ p, sameC a c = p := ⟨_, rfl⟩
        have hbt : p = true → q = true → r = true := fun e1 e2 => by rw [← hr]; exact before_trans (by rw [hp, e1]) (by rw [hq, e2])
        have hst : s = true → t = true → v = true := fun e1 e2 => by rw [← hv]; exact same_trans (by rw [hs, e1]) (by rw [ht, e2])
        have hbn : p = false → p2 = false → s1 = s2 ∧ q1 = q2 := fun e1 e2 => by
          have := before_none (a := a) (b := b) (by rw [hp, e1]) (by rw [hp2, e2])
          rw [ES1.out.1, ES1.out.2, ES2.out.1, ES2.out.2] at this
          exact this
        have Hp := Lib.hid hp
        have Hq := Lib.hid hq
        have Hr := Lib.hid hr
        have Hp2 := Lib.hid hp2
        have Hs := Lib.hid hs
        have Ht := Lib.hid ht
        have Hv := Lib.hid hv
        have Hbt := Lib.hid hbt
        have Hst := Lib.hid hst
        have Hbn := Lib.hid hbn
        clear hp hq hr hp2 hs ht hv hbt hst hbn
        have xc0 : u4.cell? ⟨gx, 0, none⟩ = some (.int .i64 s1) := cell_of_block BX.out rfl
        have xc1 : u4.cell? ⟨gx, 1, none⟩ = some (.int .i64 q1) := cell_of_block BX.out rfl
        have xc2 : u4.cell? ⟨gx, 2, none⟩ = some (.slice o1 d1.length c1) := cell_of_block BX.out rfl
        have xc3 : u4.cell? ⟨gx, 3, none⟩ = some (.string k1) := cell_of_block BX.out rfl
        have xc4 : u4.cell? ⟨gx, 4, none⟩ = some (.string x1) := cell_of_block BX.out rfl
        have yc0 : u4.cell? ⟨gy, 0, none⟩ = some (.int .i64 s2) := cell_of_block BY.out rfl
        have yc1 : u4.cell? ⟨gy, 1, none⟩ = some (.int .i64 q2) := cell_of_block BY.out rfl
        have yc2 : u4.cell? ⟨gy, 2, none⟩ = some (.slice o2 d2.length c2) := cell_of_block BY.out rfl
        have yc3 : u4.cell? ⟨gy, 3, none⟩ = some (.string k2) := cell_of_block BY.out rfl
        have yc4 : u4.cell? ⟨gy, 4, none⟩ = some (.string x2) := cell_of_block BY.out rfl
        have zc0 : u4.cell? ⟨gz, 0, none⟩ = some (.int .i64 s3) := cell_of_block BZ.out rfl
        have zc1 : u4.cell? ⟨gz, 1, none⟩ = some (.int .i64 q3) := cell_of_block BZ.out rfl
        have zc2 : u4.cell? ⟨gz, 2, none⟩ = some (.slice o3 d3.length c3) := cell_of_block BZ.out rfl
        have zc3 : u4.cell? ⟨gz, 3, none⟩ = some (.string k3) := cell_of_block BZ.out rfl
        have zc4 : u4.cell? ⟨gz, 4, none⟩ = some (.string x3) := cell_of_block BZ.out rfl
        clear xc0 xc1 xc2 xc3 xc4 yc0 yc1 yc2 yc3 yc4 zc0 zc1 zc2 zc3 zc4
        cases p
        · skip
          have hc := r_before a b u4
          rw [Hp.out] at hc
          try rw [Ea.out] at hc
          try rw [Eb.out] at hc
          try rw [Ec.out] at hc
          refine hc.mono ?_
          clear hc
          rintro e u5 ⟨rfl, hfd⟩
          replace F := Lib.hid (F.out.trans' hfd)
          replace HA := Lib.hid (HA.out.fr hfd)
          replace BX := Lib.hid (hfd.heap BX.out (fun f => f))
          replace HB := Lib.hid (HB.out.fr hfd)
          replace BY := Lib.hid (hfd.heap BY.out (fun f => f))
          replace HC := Lib.hid (HC.out.fr hfd)
          replace BZ := Lib.hid (hfd.heap BZ.out (fun f => f))
          clear hfd
          have xc0 : u5.cell? ⟨gx, 0, none⟩ = some (.int .i64 s1) := cell_of_block BX.out rfl
          have xc1 : u5.cell? ⟨gx, 1, none⟩ = some (.int .i64 q1) := cell_of_block BX.out rfl
          have xc2 : u5.cell? ⟨gx, 2, none⟩ = some (.slice o1 d1.length c1) := cell_of_block BX.out rfl
          have xc3 : u5.cell? ⟨gx, 3, none⟩ = some (.string k1) := cell_of_block BX.out rfl
          have xc4 : u5.cell? ⟨gx, 4, none⟩ = some (.string x1) := cell_of_block BX.out rfl
          have yc0 : u5.cell? ⟨gy, 0, none⟩ = some (.int .i64 s2) := cell_of_block BY.out rfl
          have yc1 : u5.cell? ⟨gy, 1, none⟩ = some (.int .i64 q2) := cell_of_block BY.out rfl
          have yc2 : u5.cell? ⟨gy, 2, none⟩ = some (.slice o2 d2.length c2) := cell_of_block BY.out rfl
          have yc3 : u5.cell? ⟨gy, 3, none⟩ = some (.string k2) := cell_of_block BY.out rfl
          have yc4 : u5.cell? ⟨gy, 4, none⟩ = some (.string x2) := cell_of_block BY.out rfl
          have zc0 : u5.cell? ⟨gz, 0, none⟩ = some (.int .i64 s3) := cell_of_block BZ.out rfl
          have zc1 : u5.cell? ⟨gz, 1, none⟩ = some (.int .i64 q3) := cell_of_block BZ.out rfl
          have zc2 : u5.cell? ⟨gz, 2, none⟩ = some (.slice o3 d3.length c3) := cell_of_block BZ.out rfl
          have zc3 : u5.cell? ⟨gz, 3, none⟩ = some (.string k3) := cell_of_block BZ.out rfl
          have zc4 : u5.cell? ⟨gz, 4, none⟩ = some (.string x3) := cell_of_block BZ.out rfl
          go_wp2_with fail
          clear xc0 xc1 xc2 xc3 xc4 yc0 yc1 yc2 yc3 yc4 zc0 zc1 zc2 zc3 zc4
          have hc := r_before a b u5
          rw [Hp.out] at hc
          try rw [Ea.out] at hc
          try rw [Eb.out] at hc
          try rw [Ec.out] at hc
          refine hc.mono ?_
          clear hc
          rintro e u6 ⟨rfl, hfd⟩
          replace F := Lib.hid (F.out.trans' hfd)
          replace HA := Lib.hid (HA.out.fr hfd)
          replace BX := Lib.hid (hfd.heap BX.out (fun f => f))
          replace HB := Lib.hid (HB.out.fr hfd)
          replace BY := Lib.hid (hfd.heap BY.out (fun f => f))
          replace HC := Lib.hid (HC.out.fr hfd)
          replace BZ := Lib.hid (hfd.heap BZ.out (fun f => f))
          clear hfd
          have xc0 : u6.cell? ⟨gx, 0, none⟩ = some (.int .i64 s1) := cell_of_block BX.out rfl
          have xc1 : u6.cell? ⟨gx, 1, none⟩ = some (.int .i64 q1) := cell_of_block BX.out rfl
          have xc2 : u6.cell? ⟨gx, 2, none⟩ = some (.slice o1 d1.length c1) := cell_of_block BX.out rfl
          have xc3 : u6.cell? ⟨gx, 3, none⟩ = some (.string k1) := cell_of_block BX.out rfl
          have xc4 : u6.cell? ⟨gx, 4, none⟩ = some (.string x1) := cell_of_block BX.out rfl
          have yc0 : u6.cell? ⟨gy, 0, none⟩ = some (.int .i64 s2) := cell_of_block BY.out rfl
          have yc1 : u6.cell? ⟨gy, 1, none⟩ = some (.int .i64 q2) := cell_of_block BY.out rfl
          have yc2 : u6.cell? ⟨gy, 2, none⟩ = some (.slice o2 d2.length c2) := cell_of_block BY.out rfl
          have yc3 : u6.cell? ⟨gy, 3, none⟩ = some (.string k2) := cell_of_block BY.out rfl
          have yc4 : u6.cell? ⟨gy, 4, none⟩ = some (.string x2) := cell_of_block BY.out rfl
          have zc0 : u6.cell? ⟨gz, 0, none⟩ = some (.int .i64 s3) := cell_of_block BZ.out rfl
          have zc1 : u6.cell? ⟨gz, 1, none⟩ = some (.int .i64 q3) := cell_of_block BZ.out rfl
          have zc2 : u6.cell? ⟨gz, 2, none⟩ = some (.slice o3 d3.length c3) := cell_of_block BZ.out rfl
          have zc3 : u6.cell? ⟨gz, 3, none⟩ = some (.string k3) := cell_of_block BZ.out rfl
          have zc4 : u6.cell? ⟨gz, 4, none⟩ = some (.string x3) := cell_of_block BZ.out rfl
          go_wp2_with fail
          clear xc0 xc1 xc2 xc3 xc4 yc0 yc1 yc2 yc3 yc4 zc0 zc1 zc2 zc3 zc4
          cases p2
          · skip
            obtain ⟨eS, eQ⟩ := Hbn.out (by trivial) (by trivial)
            have zS : (s1 != s2) = false := by rw [eS]; simp
            have zQ : (q1 != q2) = false := by rw [eQ]; simp
            clear eS eQ
            have hc := r_before b a u6
            rw [Hp2.out] at hc
            try rw [Ea.out] at hc
            try rw [Eb.out] at hc
            try rw [Ec.out] at hc
            refine hc.mono ?_
            clear hc
            rintro e u7 ⟨rfl, hfd⟩
            replace F := Lib.hid (F.out.trans' hfd)
            replace HA := Lib.hid (HA.out.fr hfd)
            replace BX := Lib.hid (hfd.heap BX.out (fun f => f))
            replace HB := Lib.hid (HB.out.fr hfd)
            replace BY := Lib.hid (hfd.heap BY.out (fun f => f))
            replace HC := Lib.hid (HC.out.fr hfd)
            replace BZ := Lib.hid (hfd.heap BZ.out (fun f => f))
            clear hfd
            have xc0 : u7.cell? ⟨gx, 0, none⟩ = some (.int .i64 s1) := cell_of_block BX.out rfl
            have xc1 : u7.cell? ⟨gx, 1, none⟩ = some (.int .i64 q1) := cell_of_block BX.out rfl
            have xc2 : u7.cell? ⟨gx, 2, none⟩ = some (.slice o1 d1.length c1) := cell_of_block BX.out rfl
            have xc3 : u7.cell? ⟨gx, 3, none⟩ = some (.string k1) := cell_of_block BX.out rfl
            have xc4 : u7.cell? ⟨gx, 4, none⟩ = some (.string x1) := cell_of_block BX.out rfl
            have yc0 : u7.cell? ⟨gy, 0, none⟩ = some (.int .i64 s2) := cell_of_block BY.out rfl
            have yc1 : u7.cell? ⟨gy, 1, none⟩ = some (.int .i64 q2) := cell_of_block BY.out rfl
            have yc2 : u7.cell? ⟨gy, 2, none⟩ = some (.slice o2 d2.length c2) := cell_of_block BY.out rfl
            have yc3 : u7.cell? ⟨gy, 3, none⟩ = some (.string k2) := cell_of_block BY.out rfl
            have yc4 : u7.cell? ⟨gy, 4, none⟩ = some (.string x2) := cell_of_block BY.out rfl
            have zc0 : u7.cell? ⟨gz, 0, none⟩ = some (.int .i64 s3) := cell_of_block BZ.out rfl
            have zc1 : u7.cell? ⟨gz, 1, none⟩ = some (.int .i64 q3) := cell_of_block BZ.out rfl
            have zc2 : u7.cell? ⟨gz, 2, none⟩ = some (.slice o3 d3.length c3) := cell_of_block BZ.out rfl
            have zc3 : u7.cell? ⟨gz, 3, none⟩ = some (.string k3) := cell_of_block BZ.out rfl
            have zc4 : u7.cell? ⟨gz, 4, none⟩ = some (.string x3) := cell_of_block BZ.out rfl
            go_wp2_with fail
            clear xc0 xc1 xc2 xc3 xc4 yc0 yc1 yc2 yc3 yc4 zc0 zc1 zc2 zc3 zc4
            cases s
            · skip
              have hc := r_same a b u7 HA.out HB.out
              rw [Hs.out] at hc
              try rw [Ea.out] at hc
              try rw [Eb.out] at hc
              try rw [Ec.out] at hc
              refine hc.mono ?_
              clear hc
              rintro e u8 ⟨rfl, hfd⟩
              replace F := Lib.hid (F.out.trans' hfd)
              replace HA := Lib.hid (HA.out.fr hfd)
              replace BX := Lib.hid (hfd.heap BX.out (fun f => f))
              replace HB := Lib.hid (HB.out.fr hfd)
              replace BY := Lib.hid (hfd.heap BY.out (fun f => f))
              replace HC := Lib.hid (HC.out.fr hfd)
              replace BZ := Lib.hid (hfd.heap BZ.out (fun f => f))
              clear hfd
              have xc0 : u8.cell? ⟨gx, 0, none⟩ = some (.int .i64 s1) := cell_of_block BX.out rfl
              have xc1 : u8.cell? ⟨gx, 1, none⟩ = some (.int .i64 q1) := cell_of_block BX.out rfl
              have xc2 : u8.cell? ⟨gx, 2, none⟩ = some (.slice o1 d1.length c1) := cell_of_block BX.out rfl
              have xc3 : u8.cell? ⟨gx, 3, none⟩ = some (.string k1) := cell_of_block BX.out rfl
              have xc4 : u8.cell? ⟨gx, 4, none⟩ = some (.string x1) := cell_of_block BX.out rfl
              have yc0 : u8.cell? ⟨gy, 0, none⟩ = some (.int .i64 s2) := cell_of_block BY.out rfl
              have yc1 : u8.cell? ⟨gy, 1, none⟩ = some (.int .i64 q2) := cell_of_block BY.out rfl
              have yc2 : u8.cell? ⟨gy, 2, none⟩ = some (.slice o2 d2.length c2) := cell_of_block BY.out rfl
              have yc3 : u8.cell? ⟨gy, 3, none⟩ = some (.string k2) := cell_of_block BY.out rfl
              have yc4 : u8.cell? ⟨gy, 4, none⟩ = some (.string x2) := cell_of_block BY.out rfl
              have zc0 : u8.cell? ⟨gz, 0, none⟩ = some (.int .i64 s3) := cell_of_block BZ.out rfl
              have zc1 : u8.cell? ⟨gz, 1, none⟩ = some (.int .i64 q3) := cell_of_block BZ.out rfl
              have zc2 : u8.cell? ⟨gz, 2, none⟩ = some (.slice o3 d3.length c3) := cell_of_block BZ.out rfl
              have zc3 : u8.cell? ⟨gz, 3, none⟩ = some (.string k3) := cell_of_block BZ.out rfl
              have zc4 : u8.cell? ⟨gz, 4, none⟩ = some (.string x3) := cell_of_block BZ.out rfl
              go_wp2_with fail
              clear xc0 xc1 xc2 xc3 xc4 yc0 yc1 yc2 yc3 yc4 zc0 zc1 zc2 zc3 zc4
              go_ret
              exact ⟨rfl, F.out⟩
            · skip
              have hc := r_same a b u7 HA.out HB.out
              rw [Hs.out] at hc
              try rw [Ea.out] at hc
              try rw [Eb.out] at hc
              try rw [Ec.out] at hc
              refine hc.mono ?_
              clear hc
              rintro e u8 ⟨rfl, hfd⟩
              replace F := Lib.hid (F.out.trans' hfd)
              replace HA := Lib.hid (HA.out.fr hfd)
              replace BX := Lib.hid (hfd.heap BX.out (fun f => f))
              replace HB := Lib.hid (HB.out.fr hfd)
              replace BY := Lib.hid (hfd.heap BY.out (fun f => f))
              replace HC := Lib.hid (HC.out.fr hfd)
              replace BZ := Lib.hid (hfd.heap BZ.out (fun f => f))
              clear hfd
              have xc0 : u8.cell? ⟨gx, 0, none⟩ = some (.int .i64 s1) := cell_of_block BX.out rfl
              have xc1 : u8.cell? ⟨gx, 1, none⟩ = some (.int .i64 q1) := cell_of_block BX.out rfl
              have xc2 : u8.cell? ⟨gx, 2, none⟩ = some (.slice o1 d1.length c1) := cell_of_block BX.out rfl
              have xc3 : u8.cell? ⟨gx, 3, none⟩ = some (.string k1) := cell_of_block BX.out rfl
              have xc4 : u8.cell? ⟨gx, 4, none⟩ = some (.string x1) := cell_of_block BX.out rfl
              have yc0 : u8.cell? ⟨gy, 0, none⟩ = some (.int .i64 s2) := cell_of_block BY.out rfl
              have yc1 : u8.cell? ⟨gy, 1, none⟩ = some (.int .i64 q2) := cell_of_block BY.out rfl
              have yc2 : u8.cell? ⟨gy, 2, none⟩ = some (.slice o2 d2.length c2) := cell_of_block BY.out rfl
              have yc3 : u8.cell? ⟨gy, 3, none⟩ = some (.string k2) := cell_of_block BY.out rfl
              have yc4 : u8.cell? ⟨gy, 4, none⟩ = some (.string x2) := cell_of_block BY.out rfl
              have zc0 : u8.cell? ⟨gz, 0, none⟩ = some (.int .i64 s3) := cell_of_block BZ.out rfl
              have zc1 : u8.cell? ⟨gz, 1, none⟩ = some (.int .i64 q3) := cell_of_block BZ.out rfl
              have zc2 : u8.cell? ⟨gz, 2, none⟩ = some (.slice o3 d3.length c3) := cell_of_block BZ.out rfl
              have zc3 : u8.cell? ⟨gz, 3, none⟩ = some (.string k3) := cell_of_block BZ.out rfl
              have zc4 : u8.cell? ⟨gz, 4, none⟩ = some (.string x3) := cell_of_block BZ.out rfl
              go_wp2_with fail
              clear xc0 xc1 xc2 xc3 xc4 yc0 yc1 yc2 yc3 yc4 zc0 zc1 zc2 zc3 zc4
              cases t
              · skip
                have hc := r_same b c u8 HB.out HC.out
                rw [Ht.out] at hc
                try rw [Ea.out] at hc
                try rw [Eb.out] at hc
                try rw [Ec.out] at hc
                refine hc.mono ?_
                clear hc
                rintro e u9 ⟨rfl, hfd⟩
                replace F := Lib.hid (F.out.trans' hfd)
                replace HA := Lib.hid (HA.out.fr hfd)
                replace BX := Lib.hid (hfd.heap BX.out (fun f => f))
                replace HB := Lib.hid (HB.out.fr hfd)
                replace BY := Lib.hid (hfd.heap BY.out (fun f => f))
                replace HC := Lib.hid (HC.out.fr hfd)
                replace BZ := Lib.hid (hfd.heap BZ.out (fun f => f))
                clear hfd
                have xc0 : u9.cell? ⟨gx, 0, none⟩ = some (.int .i64 s1) := cell_of_block BX.out rfl
                have xc1 : u9.cell? ⟨gx, 1, none⟩ = some (.int .i64 q1) := cell_of_block BX.out rfl
                have xc2 : u9.cell? ⟨gx, 2, none⟩ = some (.slice o1 d1.length c1) := cell_of_block BX.out rfl
                have xc3 : u9.cell? ⟨gx, 3, none⟩ = some (.string k1) := cell_of_block BX.out rfl
                have xc4 : u9.cell? ⟨gx, 4, none⟩ = some (.string x1) := cell_of_block BX.out rfl
                have yc0 : u9.cell? ⟨gy, 0, none⟩ = some (.int .i64 s2) := cell_of_block BY.out rfl
                have yc1 : u9.cell? ⟨gy, 1, none⟩ = some (.int .i64 q2) := cell_of_block BY.out rfl
                have yc2 : u9.cell? ⟨gy, 2, none⟩ = some (.slice o2 d2.length c2) := cell_of_block BY.out rfl
                have yc3 : u9.cell? ⟨gy, 3, none⟩ = some (.string k2) := cell_of_block BY.out rfl
                have yc4 : u9.cell? ⟨gy, 4, none⟩ = some (.string x2) := cell_of_block BY.out rfl
                have zc0 : u9.cell? ⟨gz, 0, none⟩ = some (.int .i64 s3) := cell_of_block BZ.out rfl
                have zc1 : u9.cell? ⟨gz, 1, none⟩ = some (.int .i64 q3) := cell_of_block BZ.out rfl
                have zc2 : u9.cell? ⟨gz, 2, none⟩ = some (.slice o3 d3.length c3) := cell_of_block BZ.out rfl
                have zc3 : u9.cell? ⟨gz, 3, none⟩ = some (.string k3) := cell_of_block BZ.out rfl
                have zc4 : u9.cell? ⟨gz, 4, none⟩ = some (.string x3) := cell_of_block BZ.out rfl
                go_wp2_with fail
                clear xc0 xc1 xc2 xc3 xc4 yc0 yc1 yc2 yc3 yc4 zc0 zc1 zc2 zc3 zc4
                go_ret
                exact ⟨rfl, F.out⟩
              · obtain rfl : v = true := Hst.out (by trivial) (by trivial)
                have hc := r_same b c u8 HB.out HC.out
                rw [Ht.out] at hc
                try rw [Ea.out] at hc
                try rw [Eb.out] at hc
                try rw [Ec.out] at hc
                refine hc.mono ?_
                clear hc
                rintro e u9 ⟨rfl, hfd⟩
                replace F := Lib.hid (F.out.trans' hfd)
                replace HA := Lib.hid (HA.out.fr hfd)
                replace BX := Lib.hid (hfd.heap BX.out (fun f => f))
                replace HB := Lib.hid (HB.out.fr hfd)
                replace BY := Lib.hid (hfd.heap BY.out (fun f => f))
                replace HC := Lib.hid (HC.out.fr hfd)
                replace BZ := Lib.hid (hfd.heap BZ.out (fun f => f))
                clear hfd
                have xc0 : u9.cell? ⟨gx, 0, none⟩ = some (.int .i64 s1) := cell_of_block BX.out rfl
                have xc1 : u9.cell? ⟨gx, 1, none⟩ = some (.int .i64 q1) := cell_of_block BX.out rfl
                have xc2 : u9.cell? ⟨gx, 2, none⟩ = some (.slice o1 d1.length c1) := cell_of_block BX.out rfl
                have xc3 : u9.cell? ⟨gx, 3, none⟩ = some (.string k1) := cell_of_block BX.out rfl
                have xc4 : u9.cell? ⟨gx, 4, none⟩ = some (.string x1) := cell_of_block BX.out rfl
                have yc0 : u9.cell? ⟨gy, 0, none⟩ = some (.int .i64 s2) := cell_of_block BY.out rfl
                have yc1 : u9.cell? ⟨gy, 1, none⟩ = some (.int .i64 q2) := cell_of_block BY.out rfl
                have yc2 : u9.cell? ⟨gy, 2, none⟩ = some (.slice o2 d2.length c2) := cell_of_block BY.out rfl
                have yc3 : u9.cell? ⟨gy, 3, none⟩ = some (.string k2) := cell_of_block BY.out rfl
                have yc4 : u9.cell? ⟨gy, 4, none⟩ = some (.string x2) := cell_of_block BY.out rfl
                have zc0 : u9.cell? ⟨gz, 0, none⟩ = some (.int .i64 s3) := cell_of_block BZ.out rfl
                have zc1 : u9.cell? ⟨gz, 1, none⟩ = some (.int .i64 q3) := cell_of_block BZ.out rfl
                have zc2 : u9.cell? ⟨gz, 2, none⟩ = some (.slice o3 d3.length c3) := cell_of_block BZ.out rfl
                have zc3 : u9.cell? ⟨gz, 3, none⟩ = some (.string k3) := cell_of_block BZ.out rfl
                have zc4 : u9.cell? ⟨gz, 4, none⟩ = some (.string x3) := cell_of_block BZ.out rfl
                go_wp2_with fail
                clear xc0 xc1 xc2 xc3 xc4 yc0 yc1 yc2 yc3 yc4 zc0 zc1 zc2 zc3 zc4
                have hc := r_same a c u9 HA.out HC.out
                rw [Hv.out] at hc
                try rw [Ea.out] at hc
                try rw [Eb.out] at hc
                try rw [Ec.out] at hc
                refine hc.mono ?_
                clear hc
                rintro e u10 ⟨rfl, hfd⟩
                replace F := Lib.hid (F.out.trans' hfd)
                replace HA := Lib.hid (HA.out.fr hfd)
                replace BX := Lib.hid (hfd.heap BX.out (fun f => f))
                replace HB := Lib.hid (HB.out.fr hfd)
                replace BY := Lib.hid (hfd.heap BY.out (fun f => f))
                replace HC := Lib.hid (HC.out.fr hfd)
                replace BZ := Lib.hid (hfd.heap BZ.out (fun f => f))
                clear hfd
                have xc0 : u10.cell? ⟨gx, 0, none⟩ = some (.int .i64 s1) := cell_of_block BX.out rfl
                have xc1 : u10.cell? ⟨gx, 1, none⟩ = some (.int .i64 q1) := cell_of_block BX.out rfl
                have xc2 : u10.cell? ⟨gx, 2, none⟩ = some (.slice o1 d1.length c1) := cell_of_block BX.out rfl
                have xc3 : u10.cell? ⟨gx, 3, none⟩ = some (.string k1) := cell_of_block BX.out rfl
                have xc4 : u10.cell? ⟨gx, 4, none⟩ = some (.string x1) := cell_of_block BX.out rfl
                have yc0 : u10.cell? ⟨gy, 0, none⟩ = some (.int .i64 s2) := cell_of_block BY.out rfl
                have yc1 : u10.cell? ⟨gy, 1, none⟩ = some (.int .i64 q2) := cell_of_block BY.out rfl
                have yc2 : u10.cell? ⟨gy, 2, none⟩ = some (.slice o2 d2.length c2) := cell_of_block BY.out rfl
                have yc3 : u10.cell? ⟨gy, 3, none⟩ = some (.string k2) := cell_of_block BY.out rfl
                have yc4 : u10.cell? ⟨gy, 4, none⟩ = some (.string x2) := cell_of_block BY.out rfl
                have zc0 : u10.cell? ⟨gz, 0, none⟩ = some (.int .i64 s3) := cell_of_block BZ.out rfl
                have zc1 : u10.cell? ⟨gz, 1, none⟩ = some (.int .i64 q3) := cell_of_block BZ.out rfl
                have zc2 : u10.cell? ⟨gz, 2, none⟩ = some (.slice o3 d3.length c3) := cell_of_block BZ.out rfl
                have zc3 : u10.cell? ⟨gz, 3, none⟩ = some (.string k3) := cell_of_block BZ.out rfl
                have zc4 : u10.cell? ⟨gz, 4, none⟩ = some (.string x3) := cell_of_block BZ.out rfl
                go_wp2_with fail
                clear xc0 xc1 xc2 xc3 xc4 yc0 yc1 yc2 yc3 yc4 zc0 zc1 zc2 zc3 zc4
                go_ret
                exact ⟨rfl, F.out⟩
          · skip
            have hc := r_before b a u6
            rw [Hp2.out] at hc
            try rw [Ea.out] at hc
            try rw [Eb.out] at hc
            try rw [Ec.out] at hc
            refine hc.mono ?_
            clear hc
            rintro e u7 ⟨rfl, hfd⟩
            replace F := Lib.hid (F.out.trans' hfd)
            replace HA := Lib.hid (HA.out.fr hfd)
            replace BX := Lib.hid (hfd.heap BX.out (fun f => f))
            replace HB := Lib.hid (HB.out.fr hfd)
            replace BY := Lib.hid (hfd.heap BY.out (fun f => f))
            replace HC := Lib.hid (HC.out.fr hfd)
            replace BZ := Lib.hid (hfd.heap BZ.out (fun f => f))
            clear hfd
            have xc0 : u7.cell? ⟨gx, 0, none⟩ = some (.int .i64 s1) := cell_of_block BX.out rfl
            have xc1 : u7.cell? ⟨gx, 1, none⟩ = some (.int .i64 q1) := cell_of_block BX.out rfl
            have xc2 : u7.cell? ⟨gx, 2, none⟩ = some (.slice o1 d1.length c1) := cell_of_block BX.out rfl
            have xc3 : u7.cell? ⟨gx, 3, none⟩ = some (.string k1) := cell_of_block BX.out rfl
            have xc4 : u7.cell? ⟨gx, 4, none⟩ = some (.string x1) := cell_of_block BX.out rfl
            have yc0 : u7.cell? ⟨gy, 0, none⟩ = some (.int .i64 s2) := cell_of_block BY.out rfl
            have yc1 : u7.cell? ⟨gy, 1, none⟩ = some (.int .i64 q2) := cell_of_block BY.out rfl
            have yc2 : u7.cell? ⟨gy, 2, none⟩ = some (.slice o2 d2.length c2) := cell_of_block BY.out rfl
            have yc3 : u7.cell? ⟨gy, 3, none⟩ = some (.string k2) := cell_of_block BY.out rfl
            have yc4 : u7.cell? ⟨gy, 4, none⟩ = some (.string x2) := cell_of_block BY.out rfl
            have zc0 : u7.cell? ⟨gz, 0, none⟩ = some (.int .i64 s3) := cell_of_block BZ.out rfl
            have zc1 : u7.cell? ⟨gz, 1, none⟩ = some (.int .i64 q3) := cell_of_block BZ.out rfl
            have zc2 : u7.cell? ⟨gz, 2, none⟩ = some (.slice o3 d3.length c3) := cell_of_block BZ.out rfl
            have zc3 : u7.cell? ⟨gz, 3, none⟩ = some (.string k3) := cell_of_block BZ.out rfl
            have zc4 : u7.cell? ⟨gz, 4, none⟩ = some (.string x3) := cell_of_block BZ.out rfl
            go_wp2_with fail
            clear xc0 xc1 xc2 xc3 xc4 yc0 yc1 yc2 yc3 yc4 zc0 zc1 zc2 zc3 zc4
            cases s
            · skip
              have hc := r_same a b u7 HA.out HB.out
              rw [Hs.out] at hc
              try rw [Ea.out] at hc
              try rw [Eb.out] at hc
              try rw [Ec.out] at hc
              refine hc.mono ?_
              clear hc
              rintro e u8 ⟨rfl, hfd⟩
              replace F := Lib.hid (F.out.trans' hfd)
              replace HA := Lib.hid (HA.out.fr hfd)
              replace BX := Lib.hid (hfd.heap BX.out (fun f => f))
              replace HB := Lib.hid (HB.out.fr hfd)
              replace BY := Lib.hid (hfd.heap BY.out (fun f => f))
              replace HC := Lib.hid (HC.out.fr hfd)
              replace BZ := Lib.hid (hfd.heap BZ.out (fun f => f))
              clear hfd
              have xc0 : u8.cell? ⟨gx, 0, none⟩ = some (.int .i64 s1) := cell_of_block BX.out rfl
              have xc1 : u8.cell? ⟨gx, 1, none⟩ = some (.int .i64 q1) := cell_of_block BX.out rfl
              have xc2 : u8.cell? ⟨gx, 2, none⟩ = some (.slice o1 d1.length c1) := cell_of_block BX.out rfl
              have xc3 : u8.cell? ⟨gx, 3, none⟩ = some (.string k1) := cell_of_block BX.out rfl
              have xc4 : u8.cell? ⟨gx, 4, none⟩ = some (.string x1) := cell_of_block BX.out rfl
              have yc0 : u8.cell? ⟨gy, 0, none⟩ = some (.int .i64 s2) := cell_of_block BY.out rfl
              have yc1 : u8.cell? ⟨gy, 1, none⟩ = some (.int .i64 q2) := cell_of_block BY.out rfl
              have yc2 : u8.cell? ⟨gy, 2, none⟩ = some (.slice o2 d2.length c2) := cell_of_block BY.out rfl
              have yc3 : u8.cell? ⟨gy, 3, none⟩ = some (.string k2) := cell_of_block BY.out rfl
              have yc4 : u8.cell? ⟨gy, 4, none⟩ = some (.string x2) := cell_of_block BY.out rfl
              have zc0 : u8.cell? ⟨gz, 0, none⟩ = some (.int .i64 s3) := cell_of_block BZ.out rfl
              have zc1 : u8.cell? ⟨gz, 1, none⟩ = some (.int .i64 q3) := cell_of_block BZ.out rfl
              have zc2 : u8.cell? ⟨gz, 2, none⟩ = some (.slice o3 d3.length c3) := cell_of_block BZ.out rfl
              have zc3 : u8.cell? ⟨gz, 3, none⟩ = some (.string k3) := cell_of_block BZ.out rfl
              have zc4 : u8.cell? ⟨gz, 4, none⟩ = some (.string x3) := cell_of_block BZ.out rfl
              go_wp2_with fail
              clear xc0 xc1 xc2 xc3 xc4 yc0 yc1 yc2 yc3 yc4 zc0 zc1 zc2 zc3 zc4
              go_ret
              exact ⟨rfl, F.out⟩
            · skip
              have hc := r_same a b u7 HA.out HB.out
              rw [Hs.out] at hc
              try rw [Ea.out] at hc
              try rw [Eb.out] at hc
              try rw [Ec.out] at hc
              refine hc.mono ?_
              clear hc
              rintro e u8 ⟨rfl, hfd⟩
              replace F := Lib.hid (F.out.trans' hfd)
              replace HA := Lib.hid (HA.out.fr hfd)
              replace BX := Lib.hid (hfd.heap BX.out (fun f => f))
              replace HB := Lib.hid (HB.out.fr hfd)
              replace BY := Lib.hid (hfd.heap BY.out (fun f => f))
              replace HC := Lib.hid (HC.out.fr hfd)
              replace BZ := Lib.hid (hfd.heap BZ.out (fun f => f))
              clear hfd
              have xc0 : u8.cell? ⟨gx, 0, none⟩ = some (.int .i64 s1) := cell_of_block BX.out rfl
              have xc1 : u8.cell? ⟨gx, 1, none⟩ = some (.int .i64 q1) := cell_of_block BX.out rfl
              have xc2 : u8.cell? ⟨gx, 2, none⟩ = some (.slice o1 d1.length c1) := cell_of_block BX.out rfl
              have xc3 : u8.cell? ⟨gx, 3, none⟩ = some (.string k1) := cell_of_block BX.out rfl
              have xc4 : u8.cell? ⟨gx, 4, none⟩ = some (.string x1) := cell_of_block BX.out rfl
              have yc0 : u8.cell? ⟨gy, 0, none⟩ = some (.int .i64 s2) := cell_of_block BY.out rfl
              have yc1 : u8.cell? ⟨gy, 1, none⟩ = some (.int .i64 q2) := cell_of_block BY.out rfl
              have yc2 : u8.cell? ⟨gy, 2, none⟩ = some (.slice o2 d2.length c2) := cell_of_block BY.out rfl
              have yc3 : u8.cell? ⟨gy, 3, none⟩ = some (.string k2) := cell_of_block BY.out rfl
              have yc4 : u8.cell? ⟨gy, 4, none⟩ = some (.string x2) := cell_of_block BY.out rfl
              have zc0 : u8.cell? ⟨gz, 0, none⟩ = some (.int .i64 s3) := cell_of_block BZ.out rfl
              have zc1 : u8.cell? ⟨gz, 1, none⟩ = some (.int .i64 q3) := cell_of_block BZ.out rfl
              have zc2 : u8.cell? ⟨gz, 2, none⟩ = some (.slice o3 d3.length c3) := cell_of_block BZ.out rfl
              have zc3 : u8.cell? ⟨gz, 3, none⟩ = some (.string k3) := cell_of_block BZ.out rfl
              have zc4 : u8.cell? ⟨gz, 4, none⟩ = some (.string x3) := cell_of_block BZ.out rfl
              go_wp2_with fail
              clear xc0 xc1 xc2 xc3 xc4 yc0 yc1 yc2 yc3 yc4 zc0 zc1 zc2 zc3 zc4
              cases t
              · skip
                have hc := r_same b c u8 HB.out HC.out
                rw [Ht.out] at hc
                try rw [Ea.out] at hc
                try rw [Eb.out] at hc
                try rw [Ec.out] at hc
                refine hc.mono ?_
                clear hc
                rintro e u9 ⟨rfl, hfd⟩
                replace F := Lib.hid (F.out.trans' hfd)
                replace HA := Lib.hid (HA.out.fr hfd)
                replace BX := Lib.hid (hfd.heap BX.out (fun f => f))
                replace HB := Lib.hid (HB.out.fr hfd)
                replace BY := Lib.hid (hfd.heap BY.out (fun f => f))
                replace HC := Lib.hid (HC.out.fr hfd)
                replace BZ := Lib.hid (hfd.heap BZ.out (fun f => f))
                clear hfd
                have xc0 : u9.cell? ⟨gx, 0, none⟩ = some (.int .i64 s1) := cell_of_block BX.out rfl
                have xc1 : u9.cell? ⟨gx, 1, none⟩ = some (.int .i64 q1) := cell_of_block BX.out rfl
                have xc2 : u9.cell? ⟨gx, 2, none⟩ = some (.slice o1 d1.length c1) := cell_of_block BX.out rfl
                have xc3 : u9.cell? ⟨gx, 3, none⟩ = some (.string k1) := cell_of_block BX.out rfl
                have xc4 : u9.cell? ⟨gx, 4, none⟩ = some (.string x1) := cell_of_block BX.out rfl
                have yc0 : u9.cell? ⟨gy, 0, none⟩ = some (.int .i64 s2) := cell_of_block BY.out rfl
                have yc1 : u9.cell? ⟨gy, 1, none⟩ = some (.int .i64 q2) := cell_of_block BY.out rfl
                have yc2 : u9.cell? ⟨gy, 2, none⟩ = some (.slice o2 d2.length c2) := cell_of_block BY.out rfl
                have yc3 : u9.cell? ⟨gy, 3, none⟩ = some (.string k2) := cell_of_block BY.out rfl
                have yc4 : u9.cell? ⟨gy, 4, none⟩ = some (.string x2) := cell_of_block BY.out rfl
                have zc0 : u9.cell? ⟨gz, 0, none⟩ = some (.int .i64 s3) := cell_of_block BZ.out rfl
                have zc1 : u9.cell? ⟨gz, 1, none⟩ = some (.int .i64 q3) := cell_of_block BZ.out rfl
                have zc2 : u9.cell? ⟨gz, 2, none⟩ = some (.slice o3 d3.length c3) := cell_of_block BZ.out rfl
                have zc3 : u9.cell? ⟨gz, 3, none⟩ = some (.string k3) := cell_of_block BZ.out rfl
                have zc4 : u9.cell? ⟨gz, 4, none⟩ = some (.string x3) := cell_of_block BZ.out rfl
                go_wp2_with fail
                clear xc0 xc1 xc2 xc3 xc4 yc0 yc1 yc2 yc3 yc4 zc0 zc1 zc2 zc3 zc4
                go_ret
                exact ⟨rfl, F.out⟩
              · obtain rfl : v = true := Hst.out (by trivial) (by trivial)
                have hc := r_same b c u8 HB.out HC.out
                rw [Ht.out] at hc
                try rw [Ea.out] at hc
                try rw [Eb.out] at hc
                try rw [Ec.out] at hc
                refine hc.mono ?_
                clear hc
                rintro e u9 ⟨rfl, hfd⟩
                replace F := Lib.hid (F.out.trans' hfd)
                replace HA := Lib.hid (HA.out.fr hfd)
                replace BX := Lib.hid (hfd.heap BX.out (fun f => f))
                replace HB := Lib.hid (HB.out.fr hfd)
                replace BY := Lib.hid (hfd.heap BY.out (fun f => f))
                replace HC := Lib.hid (HC.out.fr hfd)
                replace BZ := Lib.hid (hfd.heap BZ.out (fun f => f))
                clear hfd
                have xc0 : u9.cell? ⟨gx, 0, none⟩ = some (.int .i64 s1) := cell_of_block BX.out rfl
                have xc1 : u9.cell? ⟨gx, 1, none⟩ = some (.int .i64 q1) := cell_of_block BX.out rfl
                have xc2 : u9.cell? ⟨gx, 2, none⟩ = some (.slice o1 d1.length c1) := cell_of_block BX.out rfl
                have xc3 : u9.cell? ⟨gx, 3, none⟩ = some (.string k1) := cell_of_block BX.out rfl
                have xc4 : u9.cell? ⟨gx, 4, none⟩ = some (.string x1) := cell_of_block BX.out rfl
                have yc0 : u9.cell? ⟨gy, 0, none⟩ = some (.int .i64 s2) := cell_of_block BY.out rfl
                have yc1 : u9.cell? ⟨gy, 1, none⟩ = some (.int .i64 q2) := cell_of_block BY.out rfl
                have yc2 : u9.cell? ⟨gy, 2, none⟩ = some (.slice o2 d2.length c2) := cell_of_block BY.out rfl
                have yc3 : u9.cell? ⟨gy, 3, none⟩ = some (.string k2) := cell_of_block BY.out rfl
                have yc4 : u9.cell? ⟨gy, 4, none⟩ = some (.string x2) := cell_of_block BY.out rfl
                have zc0 : u9.cell? ⟨gz, 0, none⟩ = some (.int .i64 s3) := cell_of_block BZ.out rfl
                have zc1 : u9.cell? ⟨gz, 1, none⟩ = some (.int .i64 q3) := cell_of_block BZ.out rfl
                have zc2 : u9.cell? ⟨gz, 2, none⟩ = some (.slice o3 d3.length c3) := cell_of_block BZ.out rfl
                have zc3 : u9.cell? ⟨gz, 3, none⟩ = some (.string k3) := cell_of_block BZ.out rfl
                have zc4 : u9.cell? ⟨gz, 4, none⟩ = some (.string x3) := cell_of_block BZ.out rfl
                go_wp2_with fail
                clear xc0 xc1 xc2 xc3 xc4 yc0 yc1 yc2 yc3 yc4 zc0 zc1 zc2 zc3 zc4
                have hc := r_same a c u9 HA.out HC.out
                rw [Hv.out] at hc
                try rw [Ea.out] at hc
                try rw [Eb.out] at hc
                try rw [Ec.out] at hc
                refine hc.mono ?_
                clear hc
                rintro e u10 ⟨rfl, hfd⟩
                replace F := Lib.hid (F.out.trans' hfd)
                replace HA := Lib.hid (HA.out.fr hfd)
                replace BX := Lib.hid (hfd.heap BX.out (fun f => f))
                replace HB := Lib.hid (HB.out.fr hfd)
                replace BY := Lib.hid (hfd.heap BY.out (fun f => f))
                replace HC := Lib.hid (HC.out.fr hfd)
                replace BZ := Lib.hid (hfd.heap BZ.out (fun f => f))
                clear hfd
                have xc0 : u10.cell? ⟨gx, 0, none⟩ = some (.int .i64 s1) := cell_of_block BX.out rfl
                have xc1 : u10.cell? ⟨gx, 1, none⟩ = some (.int .i64 q1) := cell_of_block BX.out rfl
                have xc2 : u10.cell? ⟨gx, 2, none⟩ = some (.slice o1 d1.length c1) := cell_of_block BX.out rfl
                have xc3 : u10.cell? ⟨gx, 3, none⟩ = some (.string k1) := cell_of_block BX.out rfl
                have xc4 : u10.cell? ⟨gx, 4, none⟩ = some (.string x1) := cell_of_block BX.out rfl
                have yc0 : u10.cell? ⟨gy, 0, none⟩ = some (.int .i64 s2) := cell_of_block BY.out rfl
                have yc1 : u10.cell? ⟨gy, 1, none⟩ = some (.int .i64 q2) := cell_of_block BY.out rfl
                have yc2 : u10.cell? ⟨gy, 2, none⟩ = some (.slice o2 d2.length c2) := cell_of_block BY.out rfl
                have yc3 : u10.cell? ⟨gy, 3, none⟩ = some (.string k2) := cell_of_block BY.out rfl
                have yc4 : u10.cell? ⟨gy, 4, none⟩ = some (.string x2) := cell_of_block BY.out rfl
                have zc0 : u10.cell? ⟨gz, 0, none⟩ = some (.int .i64 s3) := cell_of_block BZ.out rfl
                have zc1 : u10.cell? ⟨gz, 1, none⟩ = some (.int .i64 q3) := cell_of_block BZ.out rfl
                have zc2 : u10.cell? ⟨gz, 2, none⟩ = some (.slice o3 d3.length c3) := cell_of_block BZ.out rfl
                have zc3 : u10.cell? ⟨gz, 3, none⟩ = some (.string k3) := cell_of_block BZ.out rfl
                have zc4 : u10.cell? ⟨gz, 4, none⟩ = some (.string x3) := cell_of_block BZ.out rfl
                go_wp2_with fail
                clear xc0 xc1 xc2 xc3 xc4 yc0 yc1 yc2 yc3 yc4 zc0 zc1 zc2 zc3 zc4
                go_ret
                exact ⟨rfl, F.out⟩
        · skip
          have hc := r_before a b u4
          rw [Hp.out] at hc
          try rw [Ea.out] at hc
          try rw [Eb.out] at hc
          try rw [Ec.out] at hc
          refine hc.mono ?_
          clear hc
          rintro e u5 ⟨rfl, hfd⟩
          replace F := Lib.hid (F.out.trans' hfd)
          replace HA := Lib.hid (HA.out.fr hfd)
          replace BX := Lib.hid (hfd.heap BX.out (fun f => f))
          replace HB := Lib.hid (HB.out.fr hfd)
          replace BY := Lib.hid (hfd.heap BY.out (fun f => f))
          replace HC := Lib.hid (HC.out.fr hfd)
          replace BZ := Lib.hid (hfd.heap BZ.out (fun f => f))
          clear hfd
          have xc0 : u5.cell? ⟨gx, 0, none⟩ = some (.int .i64 s1) := cell_of_block BX.out rfl
          have xc1 : u5.cell? ⟨gx, 1, none⟩ = some (.int .i64 q1) := cell_of_block BX.out rfl
          have xc2 : u5.cell? ⟨gx, 2, none⟩ = some (.slice o1 d1.length c1) := cell_of_block BX.out rfl
          have xc3 : u5.cell? ⟨gx, 3, none⟩ = some (.string k1) := cell_of_block BX.out rfl
          have xc4 : u5.cell? ⟨gx, 4, none⟩ = some (.string x1) := cell_of_block BX.out rfl
          have yc0 : u5.cell? ⟨gy, 0, none⟩ = some (.int .i64 s2) := cell_of_block BY.out rfl
          have yc1 : u5.cell? ⟨gy, 1, none⟩ = some (.int .i64 q2) := cell_of_block BY.out rfl
          have yc2 : u5.cell? ⟨gy, 2, none⟩ = some (.slice o2 d2.length c2) := cell_of_block BY.out rfl
          have yc3 : u5.cell? ⟨gy, 3, none⟩ = some (.string k2) := cell_of_block BY.out rfl
          have yc4 : u5.cell? ⟨gy, 4, none⟩ = some (.string x2) := cell_of_block BY.out rfl
          have zc0 : u5.cell? ⟨gz, 0, none⟩ = some (.int .i64 s3) := cell_of_block BZ.out rfl
          have zc1 : u5.cell? ⟨gz, 1, none⟩ = some (.int .i64 q3) := cell_of_block BZ.out rfl
          have zc2 : u5.cell? ⟨gz, 2, none⟩ = some (.slice o3 d3.length c3) := cell_of_block BZ.out rfl
          have zc3 : u5.cell? ⟨gz, 3, none⟩ = some (.string k3) := cell_of_block BZ.out rfl
          have zc4 : u5.cell? ⟨gz, 4, none⟩ = some (.string x3) := cell_of_block BZ.out rfl
          go_wp2_with fail
          clear xc0 xc1 xc2 xc3 xc4 yc0 yc1 yc2 yc3 yc4 zc0 zc1 zc2 zc3 zc4
          cases q
          · skip
            have hc := r_before b c u5
            rw [Hq.out] at hc
            try rw [Ea.out] at hc
            try rw [Eb.out] at hc
            try rw [Ec.out] at hc
            refine hc.mono ?_
            clear hc
            rintro e u6 ⟨rfl, hfd⟩
            replace F := Lib.hid (F.out.trans' hfd)
            replace HA := Lib.hid (HA.out.fr hfd)
            replace BX := Lib.hid (hfd.heap BX.out (fun f => f))
            replace HB := Lib.hid (HB.out.fr hfd)
            replace BY := Lib.hid (hfd.heap BY.out (fun f => f))
            replace HC := Lib.hid (HC.out.fr hfd)
            replace BZ := Lib.hid (hfd.heap BZ.out (fun f => f))
            clear hfd
            have xc0 : u6.cell? ⟨gx, 0, none⟩ = some (.int .i64 s1) := cell_of_block BX.out rfl
            have xc1 : u6.cell? ⟨gx, 1, none⟩ = some (.int .i64 q1) := cell_of_block BX.out rfl
            have xc2 : u6.cell? ⟨gx, 2, none⟩ = some (.slice o1 d1.length c1) := cell_of_block BX.out rfl
            have xc3 : u6.cell? ⟨gx, 3, none⟩ = some (.string k1) := cell_of_block BX.out rfl
            have xc4 : u6.cell? ⟨gx, 4, none⟩ = some (.string x1) := cell_of_block BX.out rfl
            have yc0 : u6.cell? ⟨gy, 0, none⟩ = some (.int .i64 s2) := cell_of_block BY.out rfl
            have yc1 : u6.cell? ⟨gy, 1, none⟩ = some (.int .i64 q2) := cell_of_block BY.out rfl
            have yc2 : u6.cell? ⟨gy, 2, none⟩ = some (.slice o2 d2.length c2) := cell_of_block BY.out rfl
            have yc3 : u6.cell? ⟨gy, 3, none⟩ = some (.string k2) := cell_of_block BY.out rfl
            have yc4 : u6.cell? ⟨gy, 4, none⟩ = some (.string x2) := cell_of_block BY.out rfl
            have zc0 : u6.cell? ⟨gz, 0, none⟩ = some (.int .i64 s3) := cell_of_block BZ.out rfl
            have zc1 : u6.cell? ⟨gz, 1, none⟩ = some (.int .i64 q3) := cell_of_block BZ.out rfl
            have zc2 : u6.cell? ⟨gz, 2, none⟩ = some (.slice o3 d3.length c3) := cell_of_block BZ.out rfl
            have zc3 : u6.cell? ⟨gz, 3, none⟩ = some (.string k3) := cell_of_block BZ.out rfl
            have zc4 : u6.cell? ⟨gz, 4, none⟩ = some (.string x3) := cell_of_block BZ.out rfl
            go_wp2_with fail
            clear xc0 xc1 xc2 xc3 xc4 yc0 yc1 yc2 yc3 yc4 zc0 zc1 zc2 zc3 zc4
            have hc := r_before a b u6
            rw [Hp.out] at hc
            try rw [Ea.out] at hc
            try rw [Eb.out] at hc
            try rw [Ec.out] at hc
            refine hc.mono ?_
            clear hc
            rintro e u7 ⟨rfl, hfd⟩
            replace F := Lib.hid (F.out.trans' hfd)
            replace HA := Lib.hid (HA.out.fr hfd)
            replace BX := Lib.hid (hfd.heap BX.out (fun f => f))
            replace HB := Lib.hid (HB.out.fr hfd)
            replace BY := Lib.hid (hfd.heap BY.out (fun f => f))
            replace HC := Lib.hid (HC.out.fr hfd)
            replace BZ := Lib.hid (hfd.heap BZ.out (fun f => f))
            clear hfd
            have xc0 : u7.cell? ⟨gx, 0, none⟩ = some (.int .i64 s1) := cell_of_block BX.out rfl
            have xc1 : u7.cell? ⟨gx, 1, none⟩ = some (.int .i64 q1) := cell_of_block BX.out rfl
            have xc2 : u7.cell? ⟨gx, 2, none⟩ = some (.slice o1 d1.length c1) := cell_of_block BX.out rfl
            have xc3 : u7.cell? ⟨gx, 3, none⟩ = some (.string k1) := cell_of_block BX.out rfl
            have xc4 : u7.cell? ⟨gx, 4, none⟩ = some (.string x1) := cell_of_block BX.out rfl
            have yc0 : u7.cell? ⟨gy, 0, none⟩ = some (.int .i64 s2) := cell_of_block BY.out rfl
            have yc1 : u7.cell? ⟨gy, 1, none⟩ = some (.int .i64 q2) := cell_of_block BY.out rfl
            have yc2 : u7.cell? ⟨gy, 2, none⟩ = some (.slice o2 d2.length c2) := cell_of_block BY.out rfl
            have yc3 : u7.cell? ⟨gy, 3, none⟩ = some (.string k2) := cell_of_block BY.out rfl
            have yc4 : u7.cell? ⟨gy, 4, none⟩ = some (.string x2) := cell_of_block BY.out rfl
            have zc0 : u7.cell? ⟨gz, 0, none⟩ = some (.int .i64 s3) := cell_of_block BZ.out rfl
            have zc1 : u7.cell? ⟨gz, 1, none⟩ = some (.int .i64 q3) := cell_of_block BZ.out rfl
            have zc2 : u7.cell? ⟨gz, 2, none⟩ = some (.slice o3 d3.length c3) := cell_of_block BZ.out rfl
            have zc3 : u7.cell? ⟨gz, 3, none⟩ = some (.string k3) := cell_of_block BZ.out rfl
            have zc4 : u7.cell? ⟨gz, 4, none⟩ = some (.string x3) := cell_of_block BZ.out rfl
            go_wp2_with fail
            clear xc0 xc1 xc2 xc3 xc4 yc0 yc1 yc2 yc3 yc4 zc0 zc1 zc2 zc3 zc4
            cases s
            · skip
              have hc := r_same a b u7 HA.out HB.out
              rw [Hs.out] at hc
              try rw [Ea.out] at hc
              try rw [Eb.out] at hc
              try rw [Ec.out] at hc
              refine hc.mono ?_
              clear hc
              rintro e u8 ⟨rfl, hfd⟩
              replace F := Lib.hid (F.out.trans' hfd)
              replace HA := Lib.hid (HA.out.fr hfd)
              replace BX := Lib.hid (hfd.heap BX.out (fun f => f))
              replace HB := Lib.hid (HB.out.fr hfd)
              replace BY := Lib.hid (hfd.heap BY.out (fun f => f))
              replace HC := Lib.hid (HC.out.fr hfd)
              replace BZ := Lib.hid (hfd.heap BZ.out (fun f => f))
              clear hfd
              have xc0 : u8.cell? ⟨gx, 0, none⟩ = some (.int .i64 s1) := cell_of_block BX.out rfl
              have xc1 : u8.cell? ⟨gx, 1, none⟩ = some (.int .i64 q1) := cell_of_block BX.out rfl
              have xc2 : u8.cell? ⟨gx, 2, none⟩ = some (.slice o1 d1.length c1) := cell_of_block BX.out rfl
              have xc3 : u8.cell? ⟨gx, 3, none⟩ = some (.string k1) := cell_of_block BX.out rfl
              have xc4 : u8.cell? ⟨gx, 4, none⟩ = some (.string x1) := cell_of_block BX.out rfl
              have yc0 : u8.cell? ⟨gy, 0, none⟩ = some (.int .i64 s2) := cell_of_block BY.out rfl
              have yc1 : u8.cell? ⟨gy, 1, none⟩ = some (.int .i64 q2) := cell_of_block BY.out rfl
              have yc2 : u8.cell? ⟨gy, 2, none⟩ = some (.slice o2 d2.length c2) := cell_of_block BY.out rfl
              have yc3 : u8.cell? ⟨gy, 3, none⟩ = some (.string k2) := cell_of_block BY.out rfl
              have yc4 : u8.cell? ⟨gy, 4, none⟩ = some (.string x2) := cell_of_block BY.out rfl
              have zc0 : u8.cell? ⟨gz, 0, none⟩ = some (.int .i64 s3) := cell_of_block BZ.out rfl
              have zc1 : u8.cell? ⟨gz, 1, none⟩ = some (.int .i64 q3) := cell_of_block BZ.out rfl
              have zc2 : u8.cell? ⟨gz, 2, none⟩ = some (.slice o3 d3.length c3) := cell_of_block BZ.out rfl
              have zc3 : u8.cell? ⟨gz, 3, none⟩ = some (.string k3) := cell_of_block BZ.out rfl
              have zc4 : u8.cell? ⟨gz, 4, none⟩ = some (.string x3) := cell_of_block BZ.out rfl
              go_wp2_with fail
              clear xc0 xc1 xc2 xc3 xc4 yc0 yc1 yc2 yc3 yc4 zc0 zc1 zc2 zc3 zc4
              go_ret
              exact ⟨rfl, F.out⟩
            · skip
              have hc := r_same a b u7 HA.out HB.out
              rw [Hs.out] at hc
              try rw [Ea.out] at hc
              try rw [Eb.out] at hc
              try rw [Ec.out] at hc
              refine hc.mono ?_
              clear hc
              rintro e u8 ⟨rfl, hfd⟩
              replace F := Lib.hid (F.out.trans' hfd)
              replace HA := Lib.hid (HA.out.fr hfd)
              replace BX := Lib.hid (hfd.heap BX.out (fun f => f))
              replace HB := Lib.hid (HB.out.fr hfd)
              replace BY := Lib.hid (hfd.heap BY.out (fun f => f))
              replace HC := Lib.hid (HC.out.fr hfd)
              replace BZ := Lib.hid (hfd.heap BZ.out (fun f => f))
              clear hfd
              have xc0 : u8.cell? ⟨gx, 0, none⟩ = some (.int .i64 s1) := cell_of_block BX.out rfl
              have xc1 : u8.cell? ⟨gx, 1, none⟩ = some (.int .i64 q1) := cell_of_block BX.out rfl
              have xc2 : u8.cell? ⟨gx, 2, none⟩ = some (.slice o1 d1.length c1) := cell_of_block BX.out rfl
              have xc3 : u8.cell? ⟨gx, 3, none⟩ = some (.string k1) := cell_of_block BX.out rfl
              have xc4 : u8.cell? ⟨gx, 4, none⟩ = some (.string x1) := cell_of_block BX.out rfl
              have yc0 : u8.cell? ⟨gy, 0, none⟩ = some (.int .i64 s2) := cell_of_block BY.out rfl
              have yc1 : u8.cell? ⟨gy, 1, none⟩ = some (.int .i64 q2) := cell_of_block BY.out rfl
              have yc2 : u8.cell? ⟨gy, 2, none⟩ = some (.slice o2 d2.length c2) := cell_of_block BY.out rfl
              have yc3 : u8.cell? ⟨gy, 3, none⟩ = some (.string k2) := cell_of_block BY.out rfl
              have yc4 : u8.cell? ⟨gy, 4, none⟩ = some (.string x2) := cell_of_block BY.out rfl
              have zc0 : u8.cell? ⟨gz, 0, none⟩ = some (.int .i64 s3) := cell_of_block BZ.out rfl
              have zc1 : u8.cell? ⟨gz, 1, none⟩ = some (.int .i64 q3) := cell_of_block BZ.out rfl
              have zc2 : u8.cell? ⟨gz, 2, none⟩ = some (.slice o3 d3.length c3) := cell_of_block BZ.out rfl
              have zc3 : u8.cell? ⟨gz, 3, none⟩ = some (.string k3) := cell_of_block BZ.out rfl
              have zc4 : u8.cell? ⟨gz, 4, none⟩ = some (.string x3) := cell_of_block BZ.out rfl
              go_wp2_with fail
              clear xc0 xc1 xc2 xc3 xc4 yc0 yc1 yc2 yc3 yc4 zc0 zc1 zc2 zc3 zc4
              cases t
              · skip
                have hc := r_same b c u8 HB.out HC.out
                rw [Ht.out] at hc
                try rw [Ea.out] at hc
                try rw [Eb.out] at hc
                try rw [Ec.out] at hc
                refine hc.mono ?_
                clear hc
                rintro e u9 ⟨rfl, hfd⟩
                replace F := Lib.hid (F.out.trans' hfd)
                replace HA := Lib.hid (HA.out.fr hfd)
                replace BX := Lib.hid (hfd.heap BX.out (fun f => f))
                replace HB := Lib.hid (HB.out.fr hfd)
                replace BY := Lib.hid (hfd.heap BY.out (fun f => f))
                replace HC := Lib.hid (HC.out.fr hfd)
                replace BZ := Lib.hid (hfd.heap BZ.out (fun f => f))
                clear hfd
                have xc0 : u9.cell? ⟨gx, 0, none⟩ = some (.int .i64 s1) := cell_of_block BX.out rfl
                have xc1 : u9.cell? ⟨gx, 1, none⟩ = some (.int .i64 q1) := cell_of_block BX.out rfl
                have xc2 : u9.cell? ⟨gx, 2, none⟩ = some (.slice o1 d1.length c1) := cell_of_block BX.out rfl
                have xc3 : u9.cell? ⟨gx, 3, none⟩ = some (.string k1) := cell_of_block BX.out rfl
                have xc4 : u9.cell? ⟨gx, 4, none⟩ = some (.string x1) := cell_of_block BX.out rfl
                have yc0 : u9.cell? ⟨gy, 0, none⟩ = some (.int .i64 s2) := cell_of_block BY.out rfl
                have yc1 : u9.cell? ⟨gy, 1, none⟩ = some (.int .i64 q2) := cell_of_block BY.out rfl
                have yc2 : u9.cell? ⟨gy, 2, none⟩ = some (.slice o2 d2.length c2) := cell_of_block BY.out rfl
                have yc3 : u9.cell? ⟨gy, 3, none⟩ = some (.string k2) := cell_of_block BY.out rfl
                have yc4 : u9.cell? ⟨gy, 4, none⟩ = some (.string x2) := cell_of_block BY.out rfl
                have zc0 : u9.cell? ⟨gz, 0, none⟩ = some (.int .i64 s3) := cell_of_block BZ.out rfl
                have zc1 : u9.cell? ⟨gz, 1, none⟩ = some (.int .i64 q3) := cell_of_block BZ.out rfl
                have zc2 : u9.cell? ⟨gz, 2, none⟩ = some (.slice o3 d3.length c3) := cell_of_block BZ.out rfl
                have zc3 : u9.cell? ⟨gz, 3, none⟩ = some (.string k3) := cell_of_block BZ.out rfl
                have zc4 : u9.cell? ⟨gz, 4, none⟩ = some (.string x3) := cell_of_block BZ.out rfl
                go_wp2_with fail
                clear xc0 xc1 xc2 xc3 xc4 yc0 yc1 yc2 yc3 yc4 zc0 zc1 zc2 zc3 zc4
                go_ret
                exact ⟨rfl, F.out⟩
              · obtain rfl : v = true := Hst.out (by trivial) (by trivial)
                have hc := r_same b c u8 HB.out HC.out
                rw [Ht.out] at hc
                try rw [Ea.out] at hc
                try rw [Eb.out] at hc
                try rw [Ec.out] at hc
                refine hc.mono ?_
                clear hc
                rintro e u9 ⟨rfl, hfd⟩
                replace F := Lib.hid (F.out.trans' hfd)
                replace HA := Lib.hid (HA.out.fr hfd)
                replace BX := Lib.hid (hfd.heap BX.out (fun f => f))
                replace HB := Lib.hid (HB.out.fr hfd)
                replace BY := Lib.hid (hfd.heap BY.out (fun f => f))
                replace HC := Lib.hid (HC.out.fr hfd)
                replace BZ := Lib.hid (hfd.heap BZ.out (fun f => f))
                clear hfd
                have xc0 : u9.cell? ⟨gx, 0, none⟩ = some (.int .i64 s1) := cell_of_block BX.out rfl
                have xc1 : u9.cell? ⟨gx, 1, none⟩ = some (.int .i64 q1) := cell_of_block BX.out rfl
                have xc2 : u9.cell? ⟨gx, 2, none⟩ = some (.slice o1 d1.length c1) := cell_of_block BX.out rfl
                have xc3 : u9.cell? ⟨gx, 3, none⟩ = some (.string k1) := cell_of_block BX.out rfl
                have xc4 : u9.cell? ⟨gx, 4, none⟩ = some (.string x1) := cell_of_block BX.out rfl
                have yc0 : u9.cell? ⟨gy, 0, none⟩ = some (.int .i64 s2) := cell_of_block BY.out rfl
                have yc1 : u9.cell? ⟨gy, 1, none⟩ = some (.int .i64 q2) := cell_of_block BY.out rfl
                have yc2 : u9.cell? ⟨gy, 2, none⟩ = some (.slice o2 d2.length c2) := cell_of_block BY.out rfl
                have yc3 : u9.cell? ⟨gy, 3, none⟩ = some (.string k2) := cell_of_block BY.out rfl
                have yc4 : u9.cell? ⟨gy, 4, none⟩ = some (.string x2) := cell_of_block BY.out rfl
                have zc0 : u9.cell? ⟨gz, 0, none⟩ = some (.int .i64 s3) := cell_of_block BZ.out rfl
                have zc1 : u9.cell? ⟨gz, 1, none⟩ = some (.int .i64 q3) := cell_of_block BZ.out rfl
                have zc2 : u9.cell? ⟨gz, 2, none⟩ = some (.slice o3 d3.length c3) := cell_of_block BZ.out rfl
                have zc3 : u9.cell? ⟨gz, 3, none⟩ = some (.string k3) := cell_of_block BZ.out rfl
                have zc4 : u9.cell? ⟨gz, 4, none⟩ = some (.string x3) := cell_of_block BZ.out rfl
                go_wp2_with fail
                clear xc0 xc1 xc2 xc3 xc4 yc0 yc1 yc2 yc3 yc4 zc0 zc1 zc2 zc3 zc4
                have hc := r_same a c u9 HA.out HC.out
                rw [Hv.out] at hc
                try rw [Ea.out] at hc
                try rw [Eb.out] at hc
                try rw [Ec.out] at hc
                refine hc.mono ?_
                clear hc
                rintro e u10 ⟨rfl, hfd⟩
                replace F := Lib.hid (F.out.trans' hfd)
                replace HA := Lib.hid (HA.out.fr hfd)
                replace BX := Lib.hid (hfd.heap BX.out (fun f => f))
                replace HB := Lib.hid (HB.out.fr hfd)
                replace BY := Lib.hid (hfd.heap BY.out (fun f => f))
                replace HC := Lib.hid (HC.out.fr hfd)
                replace BZ := Lib.hid (hfd.heap BZ.out (fun f => f))
                clear hfd
                have xc0 : u10.cell? ⟨gx, 0, none⟩ = some (.int .i64 s1) := cell_of_block BX.out rfl
                have xc1 : u10.cell? ⟨gx, 1, none⟩ = some (.int .i64 q1) := cell_of_block BX.out rfl
                have xc2 : u10.cell? ⟨gx, 2, none⟩ = some (.slice o1 d1.length c1) := cell_of_block BX.out rfl
                have xc3 : u10.cell? ⟨gx, 3, none⟩ = some (.string k1) := cell_of_block BX.out rfl
                have xc4 : u10.cell? ⟨gx, 4, none⟩ = some (.string x1) := cell_of_block BX.out rfl
                have yc0 : u10.cell? ⟨gy, 0, none⟩ = some (.int .i64 s2) := cell_of_block BY.out rfl
                have yc1 : u10.cell? ⟨gy, 1, none⟩ = some (.int .i64 q2) := cell_of_block BY.out rfl
                have yc2 : u10.cell? ⟨gy, 2, none⟩ = some (.slice o2 d2.length c2) := cell_of_block BY.out rfl
                have yc3 : u10.cell? ⟨gy, 3, none⟩ = some (.string k2) := cell_of_block BY.out rfl
                have yc4 : u10.cell? ⟨gy, 4, none⟩ = some (.string x2) := cell_of_block BY.out rfl
                have zc0 : u10.cell? ⟨gz, 0, none⟩ = some (.int .i64 s3) := cell_of_block BZ.out rfl
                have zc1 : u10.cell? ⟨gz, 1, none⟩ = some (.int .i64 q3) := cell_of_block BZ.out rfl
                have zc2 : u10.cell? ⟨gz, 2, none⟩ = some (.slice o3 d3.length c3) := cell_of_block BZ.out rfl
                have zc3 : u10.cell? ⟨gz, 3, none⟩ = some (.string k3) := cell_of_block BZ.out rfl
                have zc4 : u10.cell? ⟨gz, 4, none⟩ = some (.string x3) := cell_of_block BZ.out rfl
                go_wp2_with fail
                clear xc0 xc1 xc2 xc3 xc4 yc0 yc1 yc2 yc3 yc4 zc0 zc1 zc2 zc3 zc4
                go_ret
                exact ⟨rfl, F.out⟩
          · obtain rfl : r = true := Hbt.out (by trivial) (by trivial)
            have hc := r_before b c u5
            rw [Hq.out] at hc
            try rw [Ea.out] at hc
            try rw [Eb.out] at hc
            try rw [Ec.out] at hc
            refine hc.mono ?_
            clear hc
            rintro e u6 ⟨rfl, hfd⟩
            replace F := Lib.hid (F.out.trans' hfd)
            replace HA := Lib.hid (HA.out.fr hfd)
            replace BX := Lib.hid (hfd.heap BX.out (fun f => f))
            replace HB := Lib.hid (HB.out.fr hfd)
            replace BY := Lib.hid (hfd.heap BY.out (fun f => f))
            replace HC := Lib.hid (HC.out.fr hfd)
            replace BZ := Lib.hid (hfd.heap BZ.out (fun f => f))
            clear hfd
            have xc0 : u6.cell? ⟨gx, 0, none⟩ = some (.int .i64 s1) := cell_of_block BX.out rfl
            have xc1 : u6.cell? ⟨gx, 1, none⟩ = some (.int .i64 q1) := cell_of_block BX.out rfl
            have xc2 : u6.cell? ⟨gx, 2, none⟩ = some (.slice o1 d1.length c1) := cell_of_block BX.out rfl
            have xc3 : u6.cell? ⟨gx, 3, none⟩ = some (.string k1) := cell_of_block BX.out rfl
            have xc4 : u6.cell? ⟨gx, 4, none⟩ = some (.string x1) := cell_of_block BX.out rfl
            have yc0 : u6.cell? ⟨gy, 0, none⟩ = some (.int .i64 s2) := cell_of_block BY.out rfl
            have yc1 : u6.cell? ⟨gy, 1, none⟩ = some (.int .i64 q2) := cell_of_block BY.out rfl
            have yc2 : u6.cell? ⟨gy, 2, none⟩ = some (.slice o2 d2.length c2) := cell_of_block BY.out rfl
            have yc3 : u6.cell? ⟨gy, 3, none⟩ = some (.string k2) := cell_of_block BY.out rfl
            have yc4 : u6.cell? ⟨gy, 4, none⟩ = some (.string x2) := cell_of_block BY.out rfl
            have zc0 : u6.cell? ⟨gz, 0, none⟩ = some (.int .i64 s3) := cell_of_block BZ.out rfl
            have zc1 : u6.cell? ⟨gz, 1, none⟩ = some (.int .i64 q3) := cell_of_block BZ.out rfl
            have zc2 : u6.cell? ⟨gz, 2, none⟩ = some (.slice o3 d3.length c3) := cell_of_block BZ.out rfl
            have zc3 : u6.cell? ⟨gz, 3, none⟩ = some (.string k3) := cell_of_block BZ.out rfl
            have zc4 : u6.cell? ⟨gz, 4, none⟩ = some (.string x3) := cell_of_block BZ.out rfl
            go_wp2_with fail
            clear xc0 xc1 xc2 xc3 xc4 yc0 yc1 yc2 yc3 yc4 zc0 zc1 zc2 zc3 zc4
            have hc := r_before a c u6
            rw [Hr.out] at hc
            try rw [Ea.out] at hc
            try rw [Eb.out] at hc
            try rw [Ec.out] at hc
            refine hc.mono ?_
            clear hc
            rintro e u7 ⟨rfl, hfd⟩
            replace F := Lib.hid (F.out.trans' hfd)
            replace HA := Lib.hid (HA.out.fr hfd)
            replace BX := Lib.hid (hfd.heap BX.out (fun f => f))
            replace HB := Lib.hid (HB.out.fr hfd)
            replace BY := Lib.hid (hfd.heap BY.out (fun f => f))
            replace HC := Lib.hid (HC.out.fr hfd)
            replace BZ := Lib.hid (hfd.heap BZ.out (fun f => f))
            clear hfd
            have xc0 : u7.cell? ⟨gx, 0, none⟩ = some (.int .i64 s1) := cell_of_block BX.out rfl
            have xc1 : u7.cell? ⟨gx, 1, none⟩ = some (.int .i64 q1) := cell_of_block BX.out rfl
            have xc2 : u7.cell? ⟨gx, 2, none⟩ = some (.slice o1 d1.length c1) := cell_of_block BX.out rfl
            have xc3 : u7.cell? ⟨gx, 3, none⟩ = some (.string k1) := cell_of_block BX.out rfl
            have xc4 : u7.cell? ⟨gx, 4, none⟩ = some (.string x1) := cell_of_block BX.out rfl
            have yc0 : u7.cell? ⟨gy, 0, none⟩ = some (.int .i64 s2) := cell_of_block BY.out rfl
            have yc1 : u7.cell? ⟨gy, 1, none⟩ = some (.int .i64 q2) := cell_of_block BY.out rfl
            have yc2 : u7.cell? ⟨gy, 2, none⟩ = some (.slice o2 d2.length c2) := cell_of_block BY.out rfl
            have yc3 : u7.cell? ⟨gy, 3, none⟩ = some (.string k2) := cell_of_block BY.out rfl
            have yc4 : u7.cell? ⟨gy, 4, none⟩ = some (.string x2) := cell_of_block BY.out rfl
            have zc0 : u7.cell? ⟨gz, 0, none⟩ = some (.int .i64 s3) := cell_of_block BZ.out rfl
            have zc1 : u7.cell? ⟨gz, 1, none⟩ = some (.int .i64 q3) := cell_of_block BZ.out rfl
            have zc2 : u7.cell? ⟨gz, 2, none⟩ = some (.slice o3 d3.length c3) := cell_of_block BZ.out rfl
            have zc3 : u7.cell? ⟨gz, 3, none⟩ = some (.string k3) := cell_of_block BZ.out rfl
            have zc4 : u7.cell? ⟨gz, 4, none⟩ = some (.string x3) := cell_of_block BZ.out rfl
            go_wp2_with fail
            clear xc0 xc1 xc2 xc3 xc4 yc0 yc1 yc2 yc3 yc4 zc0 zc1 zc2 zc3 zc4
            have hc := r_before a b u7
            rw [Hp.out] at hc
            try rw [Ea.out] at hc
            try rw [Eb.out] at hc
            try rw [Ec.out] at hc
            refine hc.mono ?_
            clear hc
            rintro e u8 ⟨rfl, hfd⟩
            replace F := Lib.hid (F.out.trans' hfd)
            replace HA := Lib.hid (HA.out.fr hfd)
            replace BX := Lib.hid (hfd.heap BX.out (fun f => f))
            replace HB := Lib.hid (HB.out.fr hfd)
            replace BY := Lib.hid (hfd.heap BY.out (fun f => f))
            replace HC := Lib.hid (HC.out.fr hfd)
            replace BZ := Lib.hid (hfd.heap BZ.out (fun f => f))
            clear hfd
            have xc0 : u8.cell? ⟨gx, 0, none⟩ = some (.int .i64 s1) := cell_of_block BX.out rfl
            have xc1 : u8.cell? ⟨gx, 1, none⟩ = some (.int .i64 q1) := cell_of_block BX.out rfl
            have xc2 : u8.cell? ⟨gx, 2, none⟩ = some (.slice o1 d1.length c1) := cell_of_block BX.out rfl
            have xc3 : u8.cell? ⟨gx, 3, none⟩ = some (.string k1) := cell_of_block BX.out rfl
            have xc4 : u8.cell? ⟨gx, 4, none⟩ = some (.string x1) := cell_of_block BX.out rfl
            have yc0 : u8.cell? ⟨gy, 0, none⟩ = some (.int .i64 s2) := cell_of_block BY.out rfl
            have yc1 : u8.cell? ⟨gy, 1, none⟩ = some (.int .i64 q2) := cell_of_block BY.out rfl
            have yc2 : u8.cell? ⟨gy, 2, none⟩ = some (.slice o2 d2.length c2) := cell_of_block BY.out rfl
            have yc3 : u8.cell? ⟨gy, 3, none⟩ = some (.string k2) := cell_of_block BY.out rfl
            have yc4 : u8.cell? ⟨gy, 4, none⟩ = some (.string x2) := cell_of_block BY.out rfl
            have zc0 : u8.cell? ⟨gz, 0, none⟩ = some (.int .i64 s3) := cell_of_block BZ.out rfl
            have zc1 : u8.cell? ⟨gz, 1, none⟩ = some (.int .i64 q3) := cell_of_block BZ.out rfl
            have zc2 : u8.cell? ⟨gz, 2, none⟩ = some (.slice o3 d3.length c3) := cell_of_block BZ.out rfl
            have zc3 : u8.cell? ⟨gz, 3, none⟩ = some (.string k3) := cell_of_block BZ.out rfl
            have zc4 : u8.cell? ⟨gz, 4, none⟩ = some (.string x3) := cell_of_block BZ.out rfl
            go_wp2_with fail
            clear xc0 xc1 xc2 xc3 xc4 yc0 yc1 yc2 yc3 yc4 zc0 zc1 zc2 zc3 zc4
            cases s
            · skip
              have hc := r_same a b u8 HA.out HB.out
              rw [Hs.out] at hc
              try rw [Ea.out] at hc
              try rw [Eb.out] at hc
              try rw [Ec.out] at hc
              refine hc.mono ?_
              clear hc
              rintro e u9 ⟨rfl, hfd⟩
              replace F := Lib.hid (F.out.trans' hfd)
              replace HA := Lib.hid (HA.out.fr hfd)
              replace BX := Lib.hid (hfd.heap BX.out (fun f => f))
              replace HB := Lib.hid (HB.out.fr hfd)
              replace BY := Lib.hid (hfd.heap BY.out (fun f => f))
              replace HC := Lib.hid (HC.out.fr hfd)
              replace BZ := Lib.hid (hfd.heap BZ.out (fun f => f))
              clear hfd
              have xc0 : u9.cell? ⟨gx, 0, none⟩ = some (.int .i64 s1) := cell_of_block BX.out rfl
              have xc1 : u9.cell? ⟨gx, 1, none⟩ = some (.int .i64 q1) := cell_of_block BX.out rfl
              have xc2 : u9.cell? ⟨gx, 2, none⟩ = some (.slice o1 d1.length c1) := cell_of_block BX.out rfl
              have xc3 : u9.cell? ⟨gx, 3, none⟩ = some (.string k1) := cell_of_block BX.out rfl
              have xc4 : u9.cell? ⟨gx, 4, none⟩ = some (.string x1) := cell_of_block BX.out rfl
              have yc0 : u9.cell? ⟨gy, 0, none⟩ = some (.int .i64 s2) := cell_of_block BY.out rfl
              have yc1 : u9.cell? ⟨gy, 1, none⟩ = some (.int .i64 q2) := cell_of_block BY.out rfl
              have yc2 : u9.cell? ⟨gy, 2, none⟩ = some (.slice o2 d2.length c2) := cell_of_block BY.out rfl
              have yc3 : u9.cell? ⟨gy, 3, none⟩ = some (.string k2) := cell_of_block BY.out rfl
              have yc4 : u9.cell? ⟨gy, 4, none⟩ = some (.string x2) := cell_of_block BY.out rfl
              have zc0 : u9.cell? ⟨gz, 0, none⟩ = some (.int .i64 s3) := cell_of_block BZ.out rfl
              have zc1 : u9.cell? ⟨gz, 1, none⟩ = some (.int .i64 q3) := cell_of_block BZ.out rfl
              have zc2 : u9.cell? ⟨gz, 2, none⟩ = some (.slice o3 d3.length c3) := cell_of_block BZ.out rfl
              have zc3 : u9.cell? ⟨gz, 3, none⟩ = some (.string k3) := cell_of_block BZ.out rfl
              have zc4 : u9.cell? ⟨gz, 4, none⟩ = some (.string x3) := cell_of_block BZ.out rfl
              go_wp2_with fail
              clear xc0 xc1 xc2 xc3 xc4 yc0 yc1 yc2 yc3 yc4 zc0 zc1 zc2 zc3 zc4
              go_ret
              exact ⟨rfl, F.out⟩
            · skip
              have hc := r_same a b u8 HA.out HB.out
              rw [Hs.out] at hc
              try rw [Ea.out] at hc
              try rw [Eb.out] at hc
              try rw [Ec.out] at hc
              refine hc.mono ?_
              clear hc
              rintro e u9 ⟨rfl, hfd⟩
              replace F := Lib.hid (F.out.trans' hfd)
              replace HA := Lib.hid (HA.out.fr hfd)
              replace BX := Lib.hid (hfd.heap BX.out (fun f => f))
              replace HB := Lib.hid (HB.out.fr hfd)
              replace BY := Lib.hid (hfd.heap BY.out (fun f => f))
              replace HC := Lib.hid (HC.out.fr hfd)
              replace BZ := Lib.hid (hfd.heap BZ.out (fun f => f))
              clear hfd
              have xc0 : u9.cell? ⟨gx, 0, none⟩ = some (.int .i64 s1) := cell_of_block BX.out rfl
              have xc1 : u9.cell? ⟨gx, 1, none⟩ = some (.int .i64 q1) := cell_of_block BX.out rfl
              have xc2 : u9.cell? ⟨gx, 2, none⟩ = some (.slice o1 d1.length c1) := cell_of_block BX.out rfl
              have xc3 : u9.cell? ⟨gx, 3, none⟩ = some (.string k1) := cell_of_block BX.out rfl
              have xc4 : u9.cell? ⟨gx, 4, none⟩ = some (.string x1) := cell_of_block BX.out rfl
              have yc0 : u9.cell? ⟨gy, 0, none⟩ = some (.int .i64 s2) := cell_of_block BY.out rfl
              have yc1 : u9.cell? ⟨gy, 1, none⟩ = some (.int .i64 q2) := cell_of_block BY.out rfl
              have yc2 : u9.cell? ⟨gy, 2, none⟩ = some (.slice o2 d2.length c2) := cell_of_block BY.out rfl
              have yc3 : u9.cell? ⟨gy, 3, none⟩ = some (.string k2) := cell_of_block BY.out rfl
              have yc4 : u9.cell? ⟨gy, 4, none⟩ = some (.string x2) := cell_of_block BY.out rfl
              have zc0 : u9.cell? ⟨gz, 0, none⟩ = some (.int .i64 s3) := cell_of_block BZ.out rfl
              have zc1 : u9.cell? ⟨gz, 1, none⟩ = some (.int .i64 q3) := cell_of_block BZ.out rfl
              have zc2 : u9.cell? ⟨gz, 2, none⟩ = some (.slice o3 d3.length c3) := cell_of_block BZ.out rfl
              have zc3 : u9.cell? ⟨gz, 3, none⟩ = some (.string k3) := cell_of_block BZ.out rfl
              have zc4 : u9.cell? ⟨gz, 4, none⟩ = some (.string x3) := cell_of_block BZ.out rfl
              go_wp2_with fail
              clear xc0 xc1 xc2 xc3 xc4 yc0 yc1 yc2 yc3 yc4 zc0 zc1 zc2 zc3 zc4
              cases t
              · skip
                have hc := r_same b c u9 HB.out HC.out
                rw [Ht.out] at hc
                try rw [Ea.out] at hc
                try rw [Eb.out] at hc
                try rw [Ec.out] at hc
                refine hc.mono ?_
                clear hc
                rintro e u10 ⟨rfl, hfd⟩
                replace F := Lib.hid (F.out.trans' hfd)
                replace HA := Lib.hid (HA.out.fr hfd)
                replace BX := Lib.hid (hfd.heap BX.out (fun f => f))
                replace HB := Lib.hid (HB.out.fr hfd)
                replace BY := Lib.hid (hfd.heap BY.out (fun f => f))
                replace HC := Lib.hid (HC.out.fr hfd)
                replace BZ := Lib.hid (hfd.heap BZ.out (fun f => f))
                clear hfd
                have xc0 : u10.cell? ⟨gx, 0, none⟩ = some (.int .i64 s1) := cell_of_block BX.out rfl
                have xc1 : u10.cell? ⟨gx, 1, none⟩ = some (.int .i64 q1) := cell_of_block BX.out rfl
                have xc2 : u10.cell? ⟨gx, 2, none⟩ = some (.slice o1 d1.length c1) := cell_of_block BX.out rfl
                have xc3 : u10.cell? ⟨gx, 3, none⟩ = some (.string k1) := cell_of_block BX.out rfl
                have xc4 : u10.cell? ⟨gx, 4, none⟩ = some (.string x1) := cell_of_block BX.out rfl
                have yc0 : u10.cell? ⟨gy, 0, none⟩ = some (.int .i64 s2) := cell_of_block BY.out rfl
                have yc1 : u10.cell? ⟨gy, 1, none⟩ = some (.int .i64 q2) := cell_of_block BY.out rfl
                have yc2 : u10.cell? ⟨gy, 2, none⟩ = some (.slice o2 d2.length c2) := cell_of_block BY.out rfl
                have yc3 : u10.cell? ⟨gy, 3, none⟩ = some (.string k2) := cell_of_block BY.out rfl
                have yc4 : u10.cell? ⟨gy, 4, none⟩ = some (.string x2) := cell_of_block BY.out rfl
                have zc0 : u10.cell? ⟨gz, 0, none⟩ = some (.int .i64 s3) := cell_of_block BZ.out rfl
                have zc1 : u10.cell? ⟨gz, 1, none⟩ = some (.int .i64 q3) := cell_of_block BZ.out rfl
                have zc2 : u10.cell? ⟨gz, 2, none⟩ = some (.slice o3 d3.length c3) := cell_of_block BZ.out rfl
                have zc3 : u10.cell? ⟨gz, 3, none⟩ = some (.string k3) := cell_of_block BZ.out rfl
                have zc4 : u10.cell? ⟨gz, 4, none⟩ = some (.string x3) := cell_of_block BZ.out rfl
                go_wp2_with fail
                clear xc0 xc1 xc2 xc3 xc4 yc0 yc1 yc2 yc3 yc4 zc0 zc1 zc2 zc3 zc4
                go_ret
                exact ⟨rfl, F.out⟩
              · obtain rfl : v = true := Hst.out (by trivial) (by trivial)
                have hc := r_same b c u9 HB.out HC.out
                rw [Ht.out] at hc
                try rw [Ea.out] at hc
                try rw [Eb.out] at hc
                try rw [Ec.out] at hc
                refine hc.mono ?_
                clear hc
                rintro e u10 ⟨rfl, hfd⟩
                replace F := Lib.hid (F.out.trans' hfd)
                replace HA := Lib.hid (HA.out.fr hfd)
                replace BX := Lib.hid (hfd.heap BX.out (fun f => f))
                replace HB := Lib.hid (HB.out.fr hfd)
                replace BY := Lib.hid (hfd.heap BY.out (fun f => f))
                replace HC := Lib.hid (HC.out.fr hfd)
                replace BZ := Lib.hid (hfd.heap BZ.out (fun f => f))
                clear hfd
                have xc0 : u10.cell? ⟨gx, 0, none⟩ = some (.int .i64 s1) := cell_of_block BX.out rfl
                have xc1 : u10.cell? ⟨gx, 1, none⟩ = some (.int .i64 q1) := cell_of_block BX.out rfl
                have xc2 : u10.cell? ⟨gx, 2, none⟩ = some (.slice o1 d1.length c1) := cell_of_block BX.out rfl
                have xc3 : u10.cell? ⟨gx, 3, none⟩ = some (.string k1) := cell_of_block BX.out rfl
                have xc4 : u10.cell? ⟨gx, 4, none⟩ = some (.string x1) := cell_of_block BX.out rfl
                have yc0 : u10.cell? ⟨gy, 0, none⟩ = some (.int .i64 s2) := cell_of_block BY.out rfl
                have yc1 : u10.cell? ⟨gy, 1, none⟩ = some (.int .i64 q2) := cell_of_block BY.out rfl
                have yc2 : u10.cell? ⟨gy, 2, none⟩ = some (.slice o2 d2.length c2) := cell_of_block BY.out rfl
                have yc3 : u10.cell? ⟨gy, 3, none⟩ = some (.string k2) := cell_of_block BY.out rfl
                have yc4 : u10.cell? ⟨gy, 4, none⟩ = some (.string x2) := cell_of_block BY.out rfl
                have zc0 : u10.cell? ⟨gz, 0, none⟩ = some (.int .i64 s3) := cell_of_block BZ.out rfl
                have zc1 : u10.cell? ⟨gz, 1, none⟩ = some (.int .i64 q3) := cell_of_block BZ.out rfl
                have zc2 : u10.cell? ⟨gz, 2, none⟩ = some (.slice o3 d3.length c3) := cell_of_block BZ.out rfl
                have zc3 : u10.cell? ⟨gz, 3, none⟩ = some (.string k3) := cell_of_block BZ.out rfl
                have zc4 : u10.cell? ⟨gz, 4, none⟩ = some (.string x3) := cell_of_block BZ.out rfl
                go_wp2_with fail
                clear xc0 xc1 xc2 xc3 xc4 yc0 yc1 yc2 yc3 yc4 zc0 zc1 zc2 zc3 zc4
                have hc := r_same a c u10 HA.out HC.out
                rw [Hv.out] at hc
                try rw [Ea.out] at hc
                try rw [Eb.out] at hc
                try rw [Ec.out] at hc
                refine hc.mono ?_
                clear hc
                rintro e u11 ⟨rfl, hfd⟩
                replace F := Lib.hid (F.out.trans' hfd)
                replace HA := Lib.hid (HA.out.fr hfd)
                replace BX := Lib.hid (hfd.heap BX.out (fun f => f))
                replace HB := Lib.hid (HB.out.fr hfd)
                replace BY := Lib.hid (hfd.heap BY.out (fun f => f))
                replace HC := Lib.hid (HC.out.fr hfd)
                replace BZ := Lib.hid (hfd.heap BZ.out (fun f => f))
                clear hfd
                have xc0 : u11.cell? ⟨gx, 0, none⟩ = some (.int .i64 s1) := cell_of_block BX.out rfl
                have xc1 : u11.cell? ⟨gx, 1, none⟩ = some (.int .i64 q1) := cell_of_block BX.out rfl
                have xc2 : u11.cell? ⟨gx, 2, none⟩ = some (.slice o1 d1.length c1) := cell_of_block BX.out rfl
                have xc3 : u11.cell? ⟨gx, 3, none⟩ = some (.string k1) := cell_of_block BX.out rfl
                have xc4 : u11.cell? ⟨gx, 4, none⟩ = some (.string x1) := cell_of_block BX.out rfl
                have yc0 : u11.cell? ⟨gy, 0, none⟩ = some (.int .i64 s2) := cell_of_block BY.out rfl
                have yc1 : u11.cell? ⟨gy, 1, none⟩ = some (.int .i64 q2) := cell_of_block BY.out rfl
                have yc2 : u11.cell? ⟨gy, 2, none⟩ = some (.slice o2 d2.length c2) := cell_of_block BY.out rfl
                have yc3 : u11.cell? ⟨gy, 3, none⟩ = some (.string k2) := cell_of_block BY.out rfl
                have yc4 : u11.cell? ⟨gy, 4, none⟩ = some (.string x2) := cell_of_block BY.out rfl
                have zc0 : u11.cell? ⟨gz, 0, none⟩ = some (.int .i64 s3) := cell_of_block BZ.out rfl
                have zc1 : u11.cell? ⟨gz, 1, none⟩ = some (.int .i64 q3) := cell_of_block BZ.out rfl
                have zc2 : u11.cell? ⟨gz, 2, none⟩ = some (.slice o3 d3.length c3) := cell_of_block BZ.out rfl
                have zc3 : u11.cell? ⟨gz, 3, none⟩ = some (.string k3) := cell_of_block BZ.out rfl
                have zc4 : u11.cell? ⟨gz, 4, none⟩ = some (.string x3) := cell_of_block BZ.out rfl
                go_wp2_with fail
                clear xc0 xc1 xc2 xc3 xc4 yc0 yc1 yc2 yc3 yc4 zc0 zc1 zc2 zc3 zc4
                go_ret
                exact ⟨rfl, F.out⟩
      · have hf2 : c.few = false := by simpa using hf2
        have hc := law_few c u3 HC.out
        rw [hf2] at hc
        try rw [Ea.out] at hc
        try rw [Eb.out] at hc
        try rw [Ec.out] at hc
        refine hc.mono ?_
        clear hc
        rintro e u4 ⟨rfl, hfd⟩
        replace F := Lib.hid (F.out.trans' hfd)
        replace HA := Lib.hid (HA.out.fr hfd)
        replace BX := Lib.hid (hfd.heap BX.out (fun f => f))
        replace HB := Lib.hid (HB.out.fr hfd)
        replace BY := Lib.hid (hfd.heap BY.out (fun f => f))
        replace HC := Lib.hid (HC.out.fr hfd)
        replace BZ := Lib.hid (hfd.heap BZ.out (fun f => f))
        clear hfd
        have xc0 : u4.cell? ⟨gx, 0, none⟩ = some (.int .i64 s1) := cell_of_block BX.out rfl
        have xc1 : u4.cell? ⟨gx, 1, none⟩ = some (.int .i64 q1) := cell_of_block BX.out rfl
        have xc2 : u4.cell? ⟨gx, 2, none⟩ = some (.slice o1 d1.length c1) := cell_of_block BX.out rfl
        have xc3 : u4.cell? ⟨gx, 3, none⟩ = some (.string k1) := cell_of_block BX.out rfl
        have xc4 : u4.cell? ⟨gx, 4, none⟩ = some (.string x1) := cell_of_block BX.out rfl
        have yc0 : u4.cell? ⟨gy, 0, none⟩ = some (.int .i64 s2) := cell_of_block BY.out rfl
        have yc1 : u4.cell? ⟨gy, 1, none⟩ = some (.int .i64 q2) := cell_of_block BY.out rfl
        have yc2 : u4.cell? ⟨gy, 2, none⟩ = some (.slice o2 d2.length c2) := cell_of_block BY.out rfl
        have yc3 : u4.cell? ⟨gy, 3, none⟩ = some (.string k2) := cell_of_block BY.out rfl
        have yc4 : u4.cell? ⟨gy, 4, none⟩ = some (.string x2) := cell_of_block BY.out rfl
        have zc0 : u4.cell? ⟨gz, 0, none⟩ = some (.int .i64 s3) := cell_of_block BZ.out rfl
        have zc1 : u4.cell? ⟨gz, 1, none⟩ = some (.int .i64 q3) := cell_of_block BZ.out rfl
        have zc2 : u4.cell? ⟨gz, 2, none⟩ = some (.slice o3 d3.length c3) := cell_of_block BZ.out rfl
        have zc3 : u4.cell? ⟨gz, 3, none⟩ = some (.string k3) := cell_of_block BZ.out rfl
        have zc4 : u4.cell? ⟨gz, 4, none⟩ = some (.string x3) := cell_of_block BZ.out rfl
        go_wp2_with fail
        clear xc0 xc1 xc2 xc3 xc4 yc0 yc1 yc2 yc3 yc4 zc0 zc1 zc2 zc3 zc4
        go_ret
        exact ⟨rfl, F.out⟩
    · have hf1 : b.few = false := by simpa using hf1
      have hc := law_few b u2 HB.out
      rw [hf1] at hc
      try rw [Ea.out] at hc
      try rw [Eb.out] at hc
      try rw [Ec.out] at hc
      refine hc.mono ?_
      clear hc
      rintro e u3 ⟨rfl, hfd⟩
      replace F := Lib.hid (F.out.trans' hfd)
      replace HA := Lib.hid (HA.out.fr hfd)
      replace BX := Lib.hid (hfd.heap BX.out (fun f => f))
      replace HB := Lib.hid (HB.out.fr hfd)
      replace BY := Lib.hid (hfd.heap BY.out (fun f => f))
      replace HC := Lib.hid (HC.out.fr hfd)
      replace BZ := Lib.hid (hfd.heap BZ.out (fun f => f))
      clear hfd
      have xc0 : u3.cell? ⟨gx, 0, none⟩ = some (.int .i64 s1) := cell_of_block BX.out rfl
      have xc1 : u3.cell? ⟨gx, 1, none⟩ = some (.int .i64 q1) := cell_of_block BX.out rfl
      have xc2 : u3.cell? ⟨gx, 2, none⟩ = some (.slice o1 d1.length c1) := cell_of_block BX.out rfl
      have xc3 : u3.cell? ⟨gx, 3, none⟩ = some (.string k1) := cell_of_block BX.out rfl
      have xc4 : u3.cell? ⟨gx, 4, none⟩ = some (.string x1) := cell_of_block BX.out rfl
      have yc0 : u3.cell? ⟨gy, 0, none⟩ = some (.int .i64 s2) := cell_of_block BY.out rfl
      have yc1 : u3.cell? ⟨gy, 1, none⟩ = some (.int .i64 q2) := cell_of_block BY.out rfl
      have yc2 : u3.cell? ⟨gy, 2, none⟩ = some (.slice o2 d2.length c2) := cell_of_block BY.out rfl
      have yc3 : u3.cell? ⟨gy, 3, none⟩ = some (.string k2) := cell_of_block BY.out rfl
      have yc4 : u3.cell? ⟨gy, 4, none⟩ = some (.string x2) := cell_of_block BY.out rfl
      have zc0 : u3.cell? ⟨gz, 0, none⟩ = some (.int .i64 s3) := cell_of_block BZ.out rfl
      have zc1 : u3.cell? ⟨gz, 1, none⟩ = some (.int .i64 q3) := cell_of_block BZ.out rfl
      have zc2 : u3.cell? ⟨gz, 2, none⟩ = some (.slice o3 d3.length c3) := cell_of_block BZ.out rfl
      have zc3 : u3.cell? ⟨gz, 3, none⟩ = some (.string k3) := cell_of_block BZ.out rfl
      have zc4 : u3.cell? ⟨gz, 4, none⟩ = some (.string x3) := cell_of_block BZ.out rfl
      go_wp2_with fail
      clear xc0 xc1 xc2 xc3 xc4 yc0 yc1 yc2 yc3 yc4 zc0 zc1 zc2 zc3 zc4
      go_ret
      exact ⟨rfl, F.out⟩
  · have hf0 : a.few = false := by simpa using hf0
    have hc := law_few a u1 HA.out
    rw [hf0] at hc
    try rw [Ea.out] at hc
    try rw [Eb.out] at hc
    try rw [Ec.out] at hc
    refine hc.mono ?_
    clear hc
    rintro e u2 ⟨rfl, hfd⟩
    replace F := Lib.hid (F.out.trans' hfd)
    replace HA := Lib.hid (HA.out.fr hfd)
    replace BX := Lib.hid (hfd.heap BX.out (fun f => f))
    replace HB := Lib.hid (HB.out.fr hfd)
    replace BY := Lib.hid (hfd.heap BY.out (fun f => f))
    replace HC := Lib.hid (HC.out.fr hfd)
    replace BZ := Lib.hid (hfd.heap BZ.out (fun f => f))
    clear hfd
    have xc0 : u2.cell? ⟨gx, 0, none⟩ = some (.int .i64 s1) := cell_of_block BX.out rfl
    have xc1 : u2.cell? ⟨gx, 1, none⟩ = some (.int .i64 q1) := cell_of_block BX.out rfl
    have xc2 : u2.cell? ⟨gx, 2, none⟩ = some (.slice o1 d1.length c1) := cell_of_block BX.out rfl
    have xc3 : u2.cell? ⟨gx, 3, none⟩ = some (.string k1) := cell_of_block BX.out rfl
    have xc4 : u2.cell? ⟨gx, 4, none⟩ = some (.string x1) := cell_of_block BX.out rfl
    have yc0 : u2.cell? ⟨gy, 0, none⟩ = some (.int .i64 s2) := cell_of_block BY.out rfl
    have yc1 : u2.cell? ⟨gy, 1, none⟩ = some (.int .i64 q2) := cell_of_block BY.out rfl
    have yc2 : u2.cell? ⟨gy, 2, none⟩ = some (.slice o2 d2.length c2) := cell_of_block BY.out rfl
    have yc3 : u2.cell? ⟨gy, 3, none⟩ = some (.string k2) := cell_of_block BY.out rfl
    have yc4 : u2.cell? ⟨gy, 4, none⟩ = some (.string x2) := cell_of_block BY.out rfl
    have zc0 : u2.cell? ⟨gz, 0, none⟩ = some (.int .i64 s3) := cell_of_block BZ.out rfl
    have zc1 : u2.cell? ⟨gz, 1, none⟩ = some (.int .i64 q3) := cell_of_block BZ.out rfl
    have zc2 : u2.cell? ⟨gz, 2, none⟩ = some (.slice o3 d3.length c3) := cell_of_block BZ.out rfl
    have zc3 : u2.cell? ⟨gz, 3, none⟩ = some (.string k3) := cell_of_block BZ.out rfl
    have zc4 : u2.cell? ⟨gz, 4, none⟩ = some (.string x3) := cell_of_block BZ.out rfl
    go_wp2_with fail
    clear xc0 xc1 xc2 xc3 xc4 yc0 yc1 yc2 yc3 yc4 zc0 zc1 zc2 zc3 zc4
    go_ret
    exact ⟨rfl, F.out⟩
set_option maxRecDepth 100000 in
theorem recSorted_row {H : Type} {enc : TypeId × Value → H} (v0 v1 v2 : Value) {d0 d1 d2 : DataW H} {p0 p1 p2 : List MemPlace} {base : Nat} (w : World) (hG : GlU w)
    (ok0 : Value.okWide Tryz.prog w .any base 25 v0) (h0 : DataW.Trod enc Tryz.prog w 0 (fun _ => true) true 25 v0 d0 p0)
    (ok1 : Value.okWide Tryz.prog w .any base 25 v1) (h1 : DataW.Trod enc Tryz.prog w 0 (fun _ => true) true 25 v1 d1 p1)
    (ok2 : Value.okWide Tryz.prog w .any base 25 v2) (h2 : DataW.Trod enc Tryz.prog w 0 (fun _ => true) true 25 v2 d2 p2) :
    Calls Tryz.prog 8 #[v0, v1, v2] w fun e w' => e = .returned (.bool true) ∧ Below w.heap.size w w' := by
  obtain ⟨a, rfl, ra, _⟩ := recv_open ok0 h0
  obtain ⟨b, rfl, rb, _⟩ := recv_open ok1 h1
  obtain ⟨c, rfl, rc, _⟩ := recv_open ok2 h2
  refine (recSorted_any a b c w hG ra rb rc).mono ?_
  rintro e w' ⟨he, hf⟩
  exact ⟨he, hf.below⟩
end Go.Proofs.YtgcjnhocoklfbaaGreatDoor
