/- The walk of the law RecAny. -/
import Derived.Test.YtgcjnhocoklfbaaGreatDoorRcA
import Derived.Test.YtgcjnhocoklfbaaGreatDoorRc9
import Derived.Test.YtgcjnhocoklfbaaGreatDoorRc3
import Derived.Test.YtgcjnhocoklfbaaGreatDoorRcP
namespace Go.XL
open Go.RowKit Go.Shelf
theorem few_of {r : Rc} (h : r.few = true) : r.dep.length ≤ 70 ∧ r.key.size ≤ 50 ∧ r.val.size ≤ 50 := by
  unfold Rc.few at h
  simp only [Bool.and_eq_true, decide_eq_true_eq] at h
  exact ⟨h.1.1, h.1.2, h.2⟩
end Go.XL
namespace Go.Proofs.YtgcjnhocoklfbaaGreatDoor
open Go.RowKit Go.Shelf Go.XL Go.ChangeShapes Go.WideShapes Go.ChangeAt
set_option linter.unusedVariables false
set_option linter.unusedSimpArgs false
attribute [local go_sem] Oper.semAt_some
theorem text_size {r : Rc} {w : World} (h : RcArg w r) (hf : r.few = true) : (⟨r.text.toArray⟩ : ByteArray).size ≤ 100000 := by
  have h1 := rtext_len (key := r.key.data.toList) (val := r.val.data.toList) h.2.1 h.2.2.1 h.2.2.2
  obtain ⟨a, b, c⟩ := few_of hf
  rw [data_len, data_len] at h1
  show r.text.toArray.size ≤ 100000
  rw [List.size_toArray]
  unfold Rc.text
  omega
set_option maxRecDepth 100000 in
set_option maxHeartbeats 8000000 in
theorem recAny_any (a : Rc) (sites : Int) (w : World) (hG : GlU w) (hA0 : RcArg w a) :
    Calls Tryz.prog 3 #[a.v, .int .i64 sites] w fun e w' => e = .returned (.bool true) ∧ Fr no w w' := by
  have h1 := hA0.1
  have HA0 := Lib.hid hA0
  clear hA0
  obtain ⟨s1, q1, v1, d1, k1, x1⟩ := a
  obtain ⟨o1, c1, hv1, _, _⟩ := Rd.cap h1
  dsimp only at hv1
  subst hv1
  obtain ⟨a, hA⟩ : ∃ r : Rc, (⟨s1, q1, .slice o1 d1.length c1, d1, k1, x1⟩ : Rc) = r := ⟨_, rfl⟩
  have ea : a.v = .agg #[.int .i64 s1, .int .i64 q1, .slice o1 d1.length c1, .string k1, .string x1] := by rw [← hA]; rfl
  have et : a.text = rtext s1 q1 d1 k1.data.toList x1.data.toList := by rw [← hA]; rfl
  have ek : ∀ S, a.check S = rcheck s1 q1 d1 k1.data.toList x1.data.toList S := by rw [← hA]; exact fun S => rfl
  have em : ∀ (v : Value) (k x : ByteArray), k.data.toList = k1.data.toList → x.data.toList = x1.data.toList → sameC ⟨s1, q1, v, d1.take (vlast d1), k, x⟩ a = true := fun v k x hk hx => by rw [← hA]; exact same_take hk hx
  have HA1 : Hid (RcArg w a) := Lib.hid (by rw [← hA]; exact HA0.out)
  rw [hA] at h1 ⊢
  rw [ea]
  have HG := Lib.hid hG
  have F := Lib.hid (Fr.refl no w)
  have HA := Lib.hid h1
  have Ea := Lib.hid ea
  have Et := Lib.hid et
  have Ek := Lib.hid ek
  have Em := Lib.hid em
  clear hG h1 ea hA et ek em HA0
  go_enter Tryz.func3, Tryz.ntmps3
  go_wp2_with fail
  obtain ⟨w0, hw0⟩ : ∃ U, w.alloc (.cells #[.int .i64 s1, .int .i64 q1, .slice o1 d1.length c1, .string k1, .string x1] 25) = U := ⟨_, rfl⟩
  obtain ⟨gx, hgx⟩ : ∃ g, w.heap.size = g := ⟨_, rfl⟩
  have hbx : w0.heap[gx]? = some (.cells #[.int .i64 s1, .int .i64 q1, .slice o1 d1.length c1, .string k1, .string x1] 25 (0, 0)) := by rw [← hw0, ← hgx]; exact World.alloc_heap_new _ _
  have hfd : Fr no w w0 := by rw [← hw0]; exact (Fr.refl no w).alloc _
  rw [hw0, hgx]
  replace F := Lib.hid (F.out.trans' hfd)
  replace HA := Lib.hid (HA.out.fr hfd)
  have BX := Lib.hid hbx
  clear hfd hbx hw0 hgx
  have hc := rknown w0 (HG.out.fr F.out)
  refine hc.mono ?_
  clear hc
  rintro e u1 ⟨rfl, hfd⟩
  replace F := Lib.hid (F.out.trans' hfd)
  replace HA := Lib.hid (HA.out.fr hfd)
  replace BX := Lib.hid (hfd.heap BX.out (fun f => f))
  clear hfd
  have xc0 : u1.cell? ⟨gx, 0, none⟩ = some (.int .i64 s1) := cell_of_block BX.out rfl
  have xc1 : u1.cell? ⟨gx, 1, none⟩ = some (.int .i64 q1) := cell_of_block BX.out rfl
  have xc2 : u1.cell? ⟨gx, 2, none⟩ = some (.slice o1 d1.length c1) := cell_of_block BX.out rfl
  have xc3 : u1.cell? ⟨gx, 3, none⟩ = some (.string k1) := cell_of_block BX.out rfl
  have xc4 : u1.cell? ⟨gx, 4, none⟩ = some (.string x1) := cell_of_block BX.out rfl
  go_wp2_with fail
  clear xc0 xc1 xc2 xc3 xc4
  by_cases hfa : a.few = true
  · have hc := law_few a u1 HA.out
    rw [hfa] at hc
    rw [Ea.out] at hc
    refine hc.mono ?_
    clear hc
    rintro e u2 ⟨rfl, hfd⟩
    replace F := Lib.hid (F.out.trans' hfd)
    replace HA := Lib.hid (HA.out.fr hfd)
    replace BX := Lib.hid (hfd.heap BX.out (fun f => f))
    clear hfd
    obtain ⟨hfd1, hfk, hfv⟩ := few_of hfa
    have Hts := Lib.hid (text_size HA1.out hfa)
    have Hf3 := Lib.hid (And.intro hfd1 (And.intro hfk hfv))
    clear hfa hfd1 hfk hfv
    have xc0 : u2.cell? ⟨gx, 0, none⟩ = some (.int .i64 s1) := cell_of_block BX.out rfl
    have xc1 : u2.cell? ⟨gx, 1, none⟩ = some (.int .i64 q1) := cell_of_block BX.out rfl
    have xc2 : u2.cell? ⟨gx, 2, none⟩ = some (.slice o1 d1.length c1) := cell_of_block BX.out rfl
    have xc3 : u2.cell? ⟨gx, 3, none⟩ = some (.string k1) := cell_of_block BX.out rfl
    have xc4 : u2.cell? ⟨gx, 4, none⟩ = some (.string x1) := cell_of_block BX.out rfl
    go_wp2_with fail
    clear xc0 xc1 xc2 xc3 xc4
    have hc := law_of a u2 HA.out
    rw [Ea.out] at hc
    refine hc.mono ?_
    clear hc
    rintro e u3 ⟨rfl, hfd⟩
    replace F := Lib.hid (F.out.trans' hfd)
    replace HA := Lib.hid (HA.out.fr hfd)
    replace BX := Lib.hid (hfd.heap BX.out (fun f => f))
    clear hfd
    go_upto_region 6 with (fail)
    obtain ⟨u4, hu4⟩ : ∃ U, u3.alloc (.cells #[.int .i64 s1, .int .i64 q1, .slice o1 d1.length c1, .string k1, .string x1] 29) = U := ⟨_, rfl⟩
    obtain ⟨gy, hgy⟩ : ∃ g, u3.heap.size = g := ⟨_, rfl⟩
    have hby : u4.heap[gy]? = some (.cells #[.int .i64 s1, .int .i64 q1, .slice o1 d1.length c1, .string k1, .string x1] 29 (0, 0)) := by rw [← hu4, ← hgy]; exact World.alloc_heap_new _ _
    have hfd : Fr no u3 u4 := by rw [← hu4]; exact (Fr.refl no u3).alloc _
    rw [hu4, hgy]
    replace F := Lib.hid (F.out.trans' hfd)
    replace HA := Lib.hid (HA.out.fr hfd)
    replace BX := Lib.hid (hfd.heap BX.out (fun f => f))
    clear hfd
    have BY := Lib.hid hby
    clear hby hu4 hgy
    have yc0 : u4.cell? ⟨gy, 0, none⟩ = some (.int .i64 s1) := cell_of_block BY.out rfl
    have yc1 : u4.cell? ⟨gy, 1, none⟩ = some (.int .i64 q1) := cell_of_block BY.out rfl
    have yc2 : u4.cell? ⟨gy, 2, none⟩ = some (.slice o1 d1.length c1) := cell_of_block BY.out rfl
    have yc3 : u4.cell? ⟨gy, 3, none⟩ = some (.string k1) := cell_of_block BY.out rfl
    have yc4 : u4.cell? ⟨gy, 4, none⟩ = some (.string x1) := cell_of_block BY.out rfl
    go_wp2_with fail
    clear yc0 yc1 yc2 yc3 yc4
    have hc := ref_checkrec a sites u4 HA.out (by have := Hf3.out.2.1; omega) (by have := Hf3.out.2.2; omega)
    obtain ⟨ec, hec⟩ : ∃ c, a.check sites = c := ⟨_, rfl⟩
    have Hec := Lib.hid hec
    rw [hec, Ea.out] at hc
    clear hec
    refine hc.mono ?_
    clear hc
    rintro e u5 ⟨rfl, hfd⟩
    replace F := Lib.hid (F.out.trans' hfd)
    replace HA := Lib.hid (HA.out.fr hfd)
    replace BX := Lib.hid (hfd.heap BX.out (fun f => f))
    replace BY := Lib.hid (hfd.heap BY.out (fun f => f))
    clear hfd
    have xc0 : u5.cell? ⟨gx, 0, none⟩ = some (.int .i64 s1) := cell_of_block BX.out rfl
    have xc1 : u5.cell? ⟨gx, 1, none⟩ = some (.int .i64 q1) := cell_of_block BX.out rfl
    have xc2 : u5.cell? ⟨gx, 2, none⟩ = some (.slice o1 d1.length c1) := cell_of_block BX.out rfl
    have xc3 : u5.cell? ⟨gx, 3, none⟩ = some (.string k1) := cell_of_block BX.out rfl
    have xc4 : u5.cell? ⟨gx, 4, none⟩ = some (.string x1) := cell_of_block BX.out rfl
    have yc0 : u5.cell? ⟨gy, 0, none⟩ = some (.int .i64 s1) := cell_of_block BY.out rfl
    have yc1 : u5.cell? ⟨gy, 1, none⟩ = some (.int .i64 q1) := cell_of_block BY.out rfl
    have yc2 : u5.cell? ⟨gy, 2, none⟩ = some (.slice o1 d1.length c1) := cell_of_block BY.out rfl
    have yc3 : u5.cell? ⟨gy, 3, none⟩ = some (.string k1) := cell_of_block BY.out rfl
    have yc4 : u5.cell? ⟨gy, 4, none⟩ = some (.string x1) := cell_of_block BY.out rfl
    have hck := fun W (hW : Fr no u5 W) => r_check a sites W (HA.out.fr hW) (by have := Hf3.out.2.1; omega) (by have := Hf3.out.2.2; omega) ((HG.out.fr F.out).fr hW)
    have htx := fun W (hW : Fr no u5 W) => r_text a W (HA.out.fr hW) HA1.out.2.1 HA1.out.2.2.1 HA1.out.2.2.2 (by have := Hf3.out.1; omega) (by have := Hf3.out.2.1; omega) (by have := Hf3.out.2.2; omega) ((HG.out.fr F.out).fr hW).1
    have hrt := fun W (hW : Fr no u5 W) => ref_rectext a W (HA.out.fr hW) HA1.out.2.1 HA1.out.2.2.1 HA1.out.2.2.2 (by have := Hf3.out.1; omega) (by have := Hf3.out.2.1; omega) (by have := Hf3.out.2.2; omega)
    rw [Hec.out, Ea.out] at hck
    obtain ⟨T, hT⟩ : ∃ T : ByteArray, (⟨a.text.toArray⟩ : ByteArray) = T := ⟨_, rfl⟩
    rw [Ea.out, hT] at htx hrt
    have HT := Lib.hid hT
    have Hck := Lib.hid hck
    have Htx := Lib.hid htx
    have Hrt := Lib.hid hrt
    have hne : (ec != ec) = false := by simp
    have hnt : (T.toList != T.toList) = false := by simp
    clear hck htx hrt hT
    go_wp2_with fail
    refine wp_held (fun w' => w'.cell? ⟨gx, 0, none⟩ = some (.int .i64 s1) ∧ w'.cell? ⟨gx, 1, none⟩ = some (.int .i64 q1) ∧ w'.cell? ⟨gx, 2, none⟩ = some (.slice o1 d1.length c1) ∧ w'.cell? ⟨gx, 3, none⟩ = some (.string k1) ∧ w'.cell? ⟨gx, 4, none⟩ = some (.string x1) ∧ w'.cell? ⟨gy, 0, none⟩ = some (.int .i64 s1) ∧ w'.cell? ⟨gy, 1, none⟩ = some (.int .i64 q1) ∧ w'.cell? ⟨gy, 2, none⟩ = some (.slice o1 d1.length c1) ∧ w'.cell? ⟨gy, 3, none⟩ = some (.string k1) ∧ w'.cell? ⟨gy, 4, none⟩ = some (.string x1)) (by kernel_rfl) ?_ (fun hHeld => ?_)
    · exact ⟨xc0, xc1, xc2, xc3, xc4, yc0, yc1, yc2, yc3, yc4⟩
    refine held_take (v := ?_) 0 rfl (by kernel_rfl) (.inl ⟨by rfl, ?_⟩) hHeld ?_
    rotate_left
    · intro w hSw; (try dsimp only at hSw); first | (go_simp; done) | (go_simp; with_reducible rfl)
    try simp only [Act.put, List.setIfInBounds_toArray, List.set_cons_zero, List.set_cons_succ]
    refine held_take (v := ?_) 1 rfl (by kernel_rfl) (.inl ⟨by rfl, ?_⟩) hHeld ?_
    rotate_left
    · intro w hSw; (try dsimp only at hSw); first | (go_simp; done) | (go_simp; with_reducible rfl)
    try simp only [Act.put, List.setIfInBounds_toArray, List.set_cons_zero, List.set_cons_succ]
    refine held_take (v := ?_) 3 rfl (by kernel_rfl) (.inl ⟨by rfl, ?_⟩) hHeld ?_
    rotate_left
    · intro w hSw; (try dsimp only at hSw); first | (go_simp; done) | (go_simp; with_reducible rfl)
    try simp only [Act.put, List.setIfInBounds_toArray, List.set_cons_zero, List.set_cons_succ]
    refine held_call 2 rfl (by kernel_rfl) (fun K hK => ?_)
    go_simp
    go_at_call 14; refine (Hck.out _ (Fr.drew (Fr.refl no u5))).mono ?_; rintro e wa ⟨rfl, hfd⟩; have HF := Lib.hid ((Fr.drew (Fr.refl no u5)).trans' hfd); clear hfd
    refine hK.out _ _ ?_ (fun hHeld' => ?_)
    · have hb1 := HF.out.heap BX.out (fun f => f); have hb2 := HF.out.heap BY.out (fun f => f); exact ⟨cell_of_block hb1 rfl, cell_of_block hb1 rfl, cell_of_block hb1 rfl, cell_of_block hb1 rfl, cell_of_block hb1 rfl, cell_of_block hb2 rfl, cell_of_block hb2 rfl, cell_of_block hb2 rfl, cell_of_block hb2 rfl, cell_of_block hb2 rfl⟩
    clear hK K hHeld
    have hHeld := hHeld'
    clear hHeld'
    try simp only [Act.put, List.setIfInBounds_toArray, List.set_cons_zero, List.set_cons_succ]
    refine held_take (v := ?_) 4 rfl (by kernel_rfl) (.inl ⟨by rfl, ?_⟩) hHeld ?_
    rotate_left
    · intro w hSw; (try dsimp only at hSw); first | (go_simp; done) | (go_simp; with_reducible rfl)
    try simp only [Act.put, List.setIfInBounds_toArray, List.set_cons_zero, List.set_cons_succ]
    refine held_take (v := ?_) 5 rfl (by kernel_rfl) (.inl ⟨by rfl, ?_⟩) hHeld ?_
    rotate_left
    · intro w hSw; (try dsimp only at hSw); first | (go_simp; done) | (go_simp; with_reducible rfl)
    try simp only [Act.put, List.setIfInBounds_toArray, List.set_cons_zero, List.set_cons_succ]
    refine held_take (v := ?_) 6 rfl (by kernel_rfl) (.inl ⟨by rfl, ?_⟩) hHeld ?_
    rotate_left
    · intro w hSw; (try dsimp only at hSw); first | (go_simp; done) | (go_simp; with_reducible rfl)
    try simp only [Act.put, List.setIfInBounds_toArray, List.set_cons_zero, List.set_cons_succ]
    refine held_take (v := ?_) 8 rfl (by kernel_rfl) (.inl ⟨by rfl, ?_⟩) hHeld ?_
    rotate_left
    · intro w hSw; (try dsimp only at hSw); first | (go_simp; done) | (go_simp; with_reducible rfl)
    try simp only [Act.put, List.setIfInBounds_toArray, List.set_cons_zero, List.set_cons_succ]
    refine held_call 7 rfl (by kernel_rfl) (fun K hK => ?_)
    go_simp
    go_at_call 15; refine (Htx.out _ HF.out).mono ?_; rintro e wa ⟨rfl, hfd⟩; replace HF := Lib.hid (HF.out.trans' hfd); clear hfd
    refine hK.out _ _ ?_ (fun hHeld' => ?_)
    · have hb1 := HF.out.heap BX.out (fun f => f); have hb2 := HF.out.heap BY.out (fun f => f); exact ⟨cell_of_block hb1 rfl, cell_of_block hb1 rfl, cell_of_block hb1 rfl, cell_of_block hb1 rfl, cell_of_block hb1 rfl, cell_of_block hb2 rfl, cell_of_block hb2 rfl, cell_of_block hb2 rfl, cell_of_block hb2 rfl, cell_of_block hb2 rfl⟩
    clear hK K hHeld
    have hHeld := hHeld'
    clear hHeld'
    try simp only [Act.put, List.setIfInBounds_toArray, List.set_cons_zero, List.set_cons_succ]
    refine held_call 9 rfl (by kernel_rfl) (fun K hK => ?_)
    go_simp
    go_at_call 16; refine (Hrt.out _ HF.out).mono ?_; rintro e wa ⟨rfl, hfd⟩; replace HF := Lib.hid (HF.out.trans' hfd); clear hfd
    refine hK.out _ _ ?_ (fun hHeld' => ?_)
    · have hb1 := HF.out.heap BX.out (fun f => f); have hb2 := HF.out.heap BY.out (fun f => f); exact ⟨cell_of_block hb1 rfl, cell_of_block hb1 rfl, cell_of_block hb1 rfl, cell_of_block hb1 rfl, cell_of_block hb1 rfl, cell_of_block hb2 rfl, cell_of_block hb2 rfl, cell_of_block hb2 rfl, cell_of_block hb2 rfl, cell_of_block hb2 rfl⟩
    clear hK K hHeld
    have hHeld := hHeld'
    clear hHeld'
    try simp only [Act.put, List.setIfInBounds_toArray, List.set_cons_zero, List.set_cons_succ]
    refine held_take (v := ?_) 10 rfl (by kernel_rfl) (.inl ⟨by rfl, ?_⟩) hHeld ?_
    rotate_left
    · intro w hSw; (try dsimp only at hSw); first | (go_simp; done) | (go_simp; with_reducible rfl)
    try simp only [Act.put, List.setIfInBounds_toArray, List.set_cons_zero, List.set_cons_succ]
    refine held_take (v := ?_) 11 rfl (by kernel_rfl) (.inl ⟨by rfl, ?_⟩) hHeld ?_
    rotate_left
    · intro w hSw; (try dsimp only at hSw); first | (go_simp; done) | (go_simp; with_reducible rfl)
    try simp only [Act.put, List.setIfInBounds_toArray, List.set_cons_zero, List.set_cons_succ]
    refine held_done (by kernel_rfl) ?_
    try clear hHeld
    have hfd := HF.out
    replace F := Lib.hid (F.out.trans' hfd)
    replace HA := Lib.hid (HA.out.fr hfd)
    replace BX := Lib.hid (hfd.heap BX.out (fun f => f))
    replace BY := Lib.hid (hfd.heap BY.out (fun f => f))
    clear hfd
    clear Hck Htx Hrt HF xc0 xc1 xc2 xc3 xc4 yc0 yc1 yc2 yc3 yc4
    generalize wa = u6 at *
    by_cases h0 : ec = 0
    · subst h0
      have hcz := Hec.out
      rw [Ek.out] at hcz
      have Hrp := Lib.hid (rparse_rtext hcz)
      clear hcz
      have xc0 : u6.cell? ⟨gx, 0, none⟩ = some (.int .i64 s1) := cell_of_block BX.out rfl
      have xc1 : u6.cell? ⟨gx, 1, none⟩ = some (.int .i64 q1) := cell_of_block BX.out rfl
      have xc2 : u6.cell? ⟨gx, 2, none⟩ = some (.slice o1 d1.length c1) := cell_of_block BX.out rfl
      have xc3 : u6.cell? ⟨gx, 3, none⟩ = some (.string k1) := cell_of_block BX.out rfl
      have xc4 : u6.cell? ⟨gx, 4, none⟩ = some (.string x1) := cell_of_block BX.out rfl
      go_wp2_with fail
      have hc := r_text a u6 HA.out HA1.out.2.1 HA1.out.2.2.1 HA1.out.2.2.2 (by have := Hf3.out.1; omega) (by have := Hf3.out.2.1; omega) (by have := Hf3.out.2.2; omega) (HG.out.fr F.out).1
      rw [Ea.out, HT.out] at hc
      refine hc.mono ?_
      clear hc
      rintro e u7 ⟨rfl, hfd⟩
      replace F := Lib.hid (F.out.trans' hfd)
      replace HA := Lib.hid (HA.out.fr hfd)
      replace BX := Lib.hid (hfd.heap BX.out (fun f => f))
      replace BY := Lib.hid (hfd.heap BY.out (fun f => f))
      clear hfd
      clear xc0 xc1 xc2 xc3 xc4
      go_wp2_with fail
      have hc := r_parse T u7 (by rw [← HT.out]; exact Hts.out) (HG.out.fr F.out)
      rw [show rparse T.data.toList = (⟨s1, q1, d1.take (vlast d1), k1.data.toList, x1.data.toList⟩, 0) by rw [← HT.out, show (⟨a.text.toArray⟩ : ByteArray).data.toList = a.text from rfl, Et.out]; exact Hrp.out] at hc
      refine hc.mono ?_
      clear hc
      rintro e u8 ⟨r2, rfl, hr2, hfd⟩
      replace F := Lib.hid (F.out.trans' hfd)
      replace HA := Lib.hid (HA.out.fr hfd)
      replace BX := Lib.hid (hfd.heap BX.out (fun f => f))
      replace BY := Lib.hid (hfd.heap BY.out (fun f => f))
      clear hfd
      obtain ⟨o2, c2, rfl, hI2⟩ := rc_form hr2
      dsimp only at hI2 ⊢
      obtain ⟨k2, hk2⟩ : ∃ k2 : ByteArray, (⟨k1.data.toList.toArray⟩ : ByteArray) = k2 := ⟨_, rfl⟩
      obtain ⟨x2, hx2⟩ : ∃ x2 : ByteArray, (⟨x1.data.toList.toArray⟩ : ByteArray) = x2 := ⟨_, rfl⟩
      obtain ⟨d2, hd2⟩ : ∃ d2, d1.take (vlast d1) = d2 := ⟨_, rfl⟩
      have hm := Em.out (.slice o2 (d1.take (vlast d1)).length c2) k2 x2 (by rw [← hk2]) (by rw [← hx2])
      rw [hd2] at hm
      rw [hk2, hx2, hd2]
      rw [hd2] at hI2
      obtain ⟨b, hb⟩ : ∃ b : Rc, (⟨s1, q1, .slice o2 d2.length c2, d2, k2, x2⟩ : Rc) = b := ⟨_, rfl⟩
      have eb : b.v = .agg #[.int .i64 s1, .int .i64 q1, .slice o2 d2.length c2, .string k2, .string x2] := by rw [← hb]; rfl
      have hB : RcOk u8 b := by rw [← hb]; exact hI2
      rw [hb] at hm ⊢
      rw [eb]
      have Eb := Lib.hid eb
      have HB := Lib.hid hB
      have Hm := Lib.hid hm
      clear hr2 hI2 hk2 hx2 hd2 hb eb hB hm Hrp Hts
      go_upto_region 12 with (fail)
      obtain ⟨u9, hu9⟩ : ∃ U, u8.alloc (.cells #[.int .i64 s1, .int .i64 q1, .slice o2 d2.length c2, .string k2, .string x2] 25) = U := ⟨_, rfl⟩
      obtain ⟨gz, hgz⟩ : ∃ g, u8.heap.size = g := ⟨_, rfl⟩
      have hbz : u9.heap[gz]? = some (.cells #[.int .i64 s1, .int .i64 q1, .slice o2 d2.length c2, .string k2, .string x2] 25 (0, 0)) := by rw [← hu9, ← hgz]; exact World.alloc_heap_new _ _
      have hfd : Fr no u8 u9 := by rw [← hu9]; exact (Fr.refl no u8).alloc _
      rw [hu9, hgz]
      replace HB := Lib.hid (HB.out.fr hfd)
      replace F := Lib.hid (F.out.trans' hfd)
      replace HA := Lib.hid (HA.out.fr hfd)
      replace BX := Lib.hid (hfd.heap BX.out (fun f => f))
      replace BY := Lib.hid (hfd.heap BY.out (fun f => f))
      clear hfd
      have BZ := Lib.hid hbz
      clear hbz hu9 hgz
      have zc0 : u9.cell? ⟨gz, 0, none⟩ = some (.int .i64 s1) := cell_of_block BZ.out rfl
      have zc1 : u9.cell? ⟨gz, 1, none⟩ = some (.int .i64 q1) := cell_of_block BZ.out rfl
      have zc2 : u9.cell? ⟨gz, 2, none⟩ = some (.slice o2 d2.length c2) := cell_of_block BZ.out rfl
      have zc3 : u9.cell? ⟨gz, 3, none⟩ = some (.string k2) := cell_of_block BZ.out rfl
      have zc4 : u9.cell? ⟨gz, 4, none⟩ = some (.string x2) := cell_of_block BZ.out rfl
      have yc0 : u9.cell? ⟨gy, 0, none⟩ = some (.int .i64 s1) := cell_of_block BY.out rfl
      have yc1 : u9.cell? ⟨gy, 1, none⟩ = some (.int .i64 q1) := cell_of_block BY.out rfl
      have yc2 : u9.cell? ⟨gy, 2, none⟩ = some (.slice o1 d1.length c1) := cell_of_block BY.out rfl
      have yc3 : u9.cell? ⟨gy, 3, none⟩ = some (.string k1) := cell_of_block BY.out rfl
      have yc4 : u9.cell? ⟨gy, 4, none⟩ = some (.string x1) := cell_of_block BY.out rfl
      have hof := fun W (hW : Fr no u9 W) => law_of b W (HB.out.fr hW)
      have hsm := fun W (hW : Fr no u9 W) => ref_samerec b a W (HB.out.fr hW) (HA.out.fr hW)
      rw [Eb.out] at hof
      rw [Hm.out, Eb.out, Ea.out] at hsm
      have Hof := Lib.hid hof
      have Hsm := Lib.hid hsm
      clear hof hsm
      refine wp_held (fun w' => w'.cell? ⟨gz, 0, none⟩ = some (.int .i64 s1) ∧ w'.cell? ⟨gz, 1, none⟩ = some (.int .i64 q1) ∧ w'.cell? ⟨gz, 2, none⟩ = some (.slice o2 d2.length c2) ∧ w'.cell? ⟨gz, 3, none⟩ = some (.string k2) ∧ w'.cell? ⟨gz, 4, none⟩ = some (.string x2) ∧ w'.cell? ⟨gy, 0, none⟩ = some (.int .i64 s1) ∧ w'.cell? ⟨gy, 1, none⟩ = some (.int .i64 q1) ∧ w'.cell? ⟨gy, 2, none⟩ = some (.slice o1 d1.length c1) ∧ w'.cell? ⟨gy, 3, none⟩ = some (.string k1) ∧ w'.cell? ⟨gy, 4, none⟩ = some (.string x1)) (by kernel_rfl) ?_ (fun hHeld => ?_)
      · exact ⟨zc0, zc1, zc2, zc3, zc4, yc0, yc1, yc2, yc3, yc4⟩
      refine held_take (v := ?_) 0 rfl (by kernel_rfl) (.inl ⟨by rfl, ?_⟩) hHeld ?_
      rotate_left
      · intro w hSw; (try dsimp only at hSw); first | (go_simp; done) | (go_simp; with_reducible rfl)
      try simp only [Act.put, List.setIfInBounds_toArray, List.set_cons_zero, List.set_cons_succ]
      refine held_take (v := ?_) 1 rfl (by kernel_rfl) (.inl ⟨by rfl, ?_⟩) hHeld ?_
      rotate_left
      · intro w hSw; (try dsimp only at hSw); first | (go_simp; done) | (go_simp; with_reducible rfl)
      try simp only [Act.put, List.setIfInBounds_toArray, List.set_cons_zero, List.set_cons_succ]
      refine held_take (v := ?_) 2 rfl (by kernel_rfl) (.inl ⟨by rfl, ?_⟩) hHeld ?_
      rotate_left
      · intro w hSw; (try dsimp only at hSw); first | (go_simp; done) | (go_simp; with_reducible rfl)
      try simp only [Act.put, List.setIfInBounds_toArray, List.set_cons_zero, List.set_cons_succ]
      refine held_take (v := ?_) 3 rfl (by kernel_rfl) (.inl ⟨by rfl, ?_⟩) hHeld ?_
      rotate_left
      · intro w hSw; (try dsimp only at hSw); first | (go_simp; done) | (go_simp; with_reducible rfl)
      try simp only [Act.put, List.setIfInBounds_toArray, List.set_cons_zero, List.set_cons_succ]
      refine held_take (v := ?_) 5 rfl (by kernel_rfl) (.inl ⟨by rfl, ?_⟩) hHeld ?_
      rotate_left
      · intro w hSw; (try dsimp only at hSw); first | (go_simp; done) | (go_simp; with_reducible rfl)
      try simp only [Act.put, List.setIfInBounds_toArray, List.set_cons_zero, List.set_cons_succ]
      refine held_call 4 rfl (by kernel_rfl) (fun K hK => ?_)
      go_simp
      go_at_call 12; refine (Hof.out _ (Fr.drew (Fr.refl no u9))).mono ?_; rintro e wa ⟨rfl, hfd⟩; have HF := Lib.hid ((Fr.drew (Fr.refl no u9)).trans' hfd); clear hfd
      refine hK.out _ _ ?_ (fun hHeld' => ?_)
      · have hb1 := HF.out.heap BZ.out (fun f => f); have hb2 := HF.out.heap BY.out (fun f => f); exact ⟨cell_of_block hb1 rfl, cell_of_block hb1 rfl, cell_of_block hb1 rfl, cell_of_block hb1 rfl, cell_of_block hb1 rfl, cell_of_block hb2 rfl, cell_of_block hb2 rfl, cell_of_block hb2 rfl, cell_of_block hb2 rfl, cell_of_block hb2 rfl⟩
      clear hK K hHeld
      have hHeld := hHeld'
      clear hHeld'
      try simp only [Act.put, List.setIfInBounds_toArray, List.set_cons_zero, List.set_cons_succ]
      refine held_call 6 rfl (by kernel_rfl) (fun K hK => ?_)
      go_simp
      go_at_call 18; refine (Hsm.out _ HF.out).mono ?_; rintro e wa ⟨rfl, hfd⟩; replace HF := Lib.hid (HF.out.trans' hfd); clear hfd
      refine hK.out _ _ ?_ (fun hHeld' => ?_)
      · have hb1 := HF.out.heap BZ.out (fun f => f); have hb2 := HF.out.heap BY.out (fun f => f); exact ⟨cell_of_block hb1 rfl, cell_of_block hb1 rfl, cell_of_block hb1 rfl, cell_of_block hb1 rfl, cell_of_block hb1 rfl, cell_of_block hb2 rfl, cell_of_block hb2 rfl, cell_of_block hb2 rfl, cell_of_block hb2 rfl, cell_of_block hb2 rfl⟩
      clear hK K hHeld
      have hHeld := hHeld'
      clear hHeld'
      try simp only [Act.put, List.setIfInBounds_toArray, List.set_cons_zero, List.set_cons_succ]
      refine held_take (v := ?_) 7 rfl (by kernel_rfl) (.inl ⟨by rfl, ?_⟩) hHeld ?_
      rotate_left
      · intro w hSw; (try dsimp only at hSw); first | (go_simp; done) | (go_simp; with_reducible rfl)
      try simp only [Act.put, List.setIfInBounds_toArray, List.set_cons_zero, List.set_cons_succ]
      refine held_take (v := ?_) 8 rfl (by kernel_rfl) (.inl ⟨by rfl, ?_⟩) hHeld ?_
      rotate_left
      · intro w hSw; (try dsimp only at hSw); first | (go_simp; done) | (go_simp; with_reducible rfl)
      try simp only [Act.put, List.setIfInBounds_toArray, List.set_cons_zero, List.set_cons_succ]
      refine held_done (by kernel_rfl) ?_
      try clear hHeld
      go_wp2
      go_ret
      exact ⟨rfl, F.out.trans' HF.out⟩
    · have h0' : (ec != 0) = true := by simpa using h0
      clear h0
      go_wp2
      go_ret
      exact ⟨rfl, F.out⟩
  · have hfa : a.few = false := by simpa using hfa
    have hc := law_few a u1 HA.out
    rw [hfa] at hc
    rw [Ea.out] at hc
    refine hc.mono ?_
    clear hc
    rintro e u2 ⟨rfl, hfd⟩
    replace F := Lib.hid (F.out.trans' hfd)
    replace HA := Lib.hid (HA.out.fr hfd)
    replace BX := Lib.hid (hfd.heap BX.out (fun f => f))
    clear hfd
    clear hfa
    go_wp2_with fail
    go_ret
    exact ⟨rfl, F.out⟩
set_option maxRecDepth 100000 in
theorem recAny_row {H : Type} {enc : TypeId × Value → H} (v0 : Value) (sites : Int) {d0 : DataW H} {p0 : List MemPlace} {base : Nat} (w : World) (hG : GlU w)
    (ok0 : Value.okWide Tryz.prog w .any base 25 v0) (h0 : DataW.Trod enc Tryz.prog w 0 (fun _ => true) true 25 v0 d0 p0) (hs : (Lit.int .i64 sites).wf = true) :
    Calls Tryz.prog 3 #[v0, .int .i64 sites] w fun e w' => e = .returned (.bool true) ∧ Below w.heap.size w w' := by
  obtain ⟨a, rfl, ra⟩ := recv_open ok0 h0
  refine (recAny_any a sites w hG ra).mono ?_
  rintro e w' ⟨he, hf⟩
  exact ⟨he, hf.below⟩
end Go.Proofs.YtgcjnhocoklfbaaGreatDoor
