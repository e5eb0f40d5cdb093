/- TokenRight, walked. -/
import Derived.Test.YtdddgfienicaaaaTokS2
import Derived.Test.YtdddgfienicaaaaTokRp
import Derived.Test.YtdddgfienicaaaaApp2
import Derived.Test.YtdddgfienicaaaaTokC
namespace Go.Proofs.Ytdddgfienicaaaa
open Go.RowKit Go.Shelf Go.XL
set_option linter.unusedVariables false
set_option linter.unusedSimpArgs false
attribute [local go_sem] Oper.semAt_some
theorem vbad_ok : ∀ {xs : List Int}, vbad xs = 0 → SeenOk xs
  | [], _ => fun x h => by simp at h
  | y :: r, h => by
    simp only [vbad] at h
    split at h
    · cases h
    · split at h
      · cases h
      · intro x hx
        rcases List.mem_cons.1 hx with rfl | hx
        · omega
        · exact vbad_ok h x hx
theorem goodP_seen {own next : Int} {seen : List Int} {late l : List Dr} (h : GoodP own next seen late l) : SeenOk seen ∧ 0 ≤ next ∧ 0 ≤ own ∧ own < 8 := by
  have := h.tk
  unfold tcheck at this
  split at this
  · cases this
  · split at this
    · cases this
    · split at this
      · cases this
      · refine ⟨vbad_ok ?_, by omega, by omega, by omega⟩
        unfold vcheck at this
        split at this
        · cases this
        · split at this
          · cases this
          · split at this
            · cases this
            · exact this

set_option maxRecDepth 100000 in
set_option maxHeartbeats 8000000 in
theorem tokenRight_any (own next : Int) (sv v0 v1 : Value) (seen : List Int) (late l : List Dr) (w : World) (hs : IntsAt w sv seen) (h0 : DrsAt w v0 late) (h1 : DrsAt w v1 l) (hd : ∀ d ∈ late ++ l, DrOk w d) :
    Calls Try.prog 4 #[tkV own next sv v0, v1] w fun e w' => e = .returned (.bool true) ∧ Fr no w w' := by
  obtain ⟨so, sc, rfl, _, _⟩ := hs.cap
  obtain ⟨a0, c0, rfl, _, _⟩ := h0.cap
  obtain ⟨a1, c1, rfl, _, _⟩ := h1.cap
  have Hgood := Lib.hid (fun (w' : World) (hf : Fr no w w') => lGood own next (.slice so seen.length sc) (.slice a0 late.length c0) (.slice a1 l.length c1) seen late l w' (hs.fr hf (fun _ _ _ f => f)) (Rd.fr h0 hf (fun _ _ _ f => f)) (Rd.fr h1 hf (fun _ _ _ f => f)) (fun d h => Rd.fr (hd d h) hf (fun _ _ _ f => f)))
  have hadm : GoodP own next seen late l → ∀ (w' : World) (hf : Fr no w w'), Calls Try.prog 17 #[tkV own next (.slice so seen.length sc) (.slice a0 late.length c0), .slice a1 l.length c1] w' fun e w2 => ∃ sv' tv' ov', e = .returned (.tuple #[tkV own (ago own (late.length + l.length) ⟨next, seen, late ++ l, []⟩).next sv' tv', ov']) ∧ AdR w' w2 own next (late.length + l.length) (ago own (late.length + l.length) ⟨next, seen, late ++ l, []⟩) (.slice so seen.length sc) sv' tv' ov' := fun hg w' hf =>
    tAdmit own next _ _ _ seen late l w' (hs.fr hf (fun _ _ _ f => f)) (goodP_seen hg).1 (Rd.fr h0 hf (fun _ _ _ f => f)) (Rd.fr h1 hf (fun _ _ _ f => f)) (fun d h => Rd.fr (hd d h) hf (fun _ _ _ f => f)) (fun d h => (hg.dr d h).2.2) (by have := hg.n1; have := hg.n2; omega) (by have := hg.n3; omega) (goodP_seen hg).2.1 (by have := hg.nx; omega)
  have Hadm := Lib.hid hadm
  have Hs : Hid (Rd w 1 (.slice so seen.length sc) seen.length (seen.map (Value.int .i64))) := Lib.hid hs
  have Hd := Lib.hid hd
  clear hs h0 h1 hd hadm
  unfold tkV at Hgood Hadm ⊢
  go_enter Try.func4, Try.ntmps4
  have hfb : Fr no w (w.alloc (.cells #[.int .i64 own, .int .i64 next, .slice so seen.length sc, .slice a0 late.length c0] 26)) := (Fr.refl no w).alloc _
  have hb := World.alloc_heap_new w (.cells #[.int .i64 own, .int .i64 next, .slice so seen.length sc, .slice a0 late.length c0] 26)
  have HFb := Lib.hid hfb
  have HB := Lib.hid hb
  clear hfb hb
  go_wp2_with fail
  refine (law_known _).mono ?_
  rintro e w1 ⟨rfl, hf1⟩
  have HF1 := Lib.hid (HFb.out.trans' hf1)
  have HB1 := Lib.hid (hf1.heap HB.out (fun f => f))
  have t0 := cell_of_block (j := 0) HB1.out rfl
  have t1 := cell_of_block (j := 1) HB1.out rfl
  have t2 := cell_of_block (j := 2) HB1.out rfl
  have t3 := cell_of_block (j := 3) HB1.out rfl
  clear hf1 HB HFb
  go_wp2_with fail
  refine (Hgood.out _ HF1.out).mono ?_
  rintro e w2 ⟨he, hf2⟩
  have HF2 := Lib.hid (HF1.out.trans' hf2)
  have HB2 := Lib.hid (hf2.heap HB1.out (fun f => f))
  clear hf2 t0 t1 t2 t3 HF1 HB1 Hgood
  rcases he with rfl | ⟨rfl, hg⟩
  · go_wp2
    go_ret
    exact ⟨rfl, HF2.out⟩
  · have HG := Lib.hid hg
    clear hg
    obtain ⟨R, hR⟩ : ∃ R, ago own (late.length + l.length) ⟨next, seen, late ++ l, []⟩ = R := ⟨_, rfl⟩
    have hAd := Hadm.out HG.out
    rw [hR] at hAd
    have HA := Lib.hid hAd
    have HR := Lib.hid hR
    have t0 := cell_of_block (j := 0) HB2.out rfl
    have t1 := cell_of_block (j := 1) HB2.out rfl
    have t2 := cell_of_block (j := 2) HB2.out rfl
    have t3 := cell_of_block (j := 3) HB2.out rfl
    clear hAd hR Hadm
    go_wp2_with fail
    refine (HA.out _ HF2.out).mono ?_
    rintro e w3 ⟨sv', tv', ov', rfl, hR⟩
    obtain ⟨more, hm1, hm2, hm3, hm4⟩ := ago_chain own (late.length + l.length) ⟨next, seen, late ++ l, []⟩ (goodP_seen HG.out).1 (fun d h => (HG.out.dr d h).2.2)
    obtain ⟨hag1, hag2⟩ := ago_again own (late.length + l.length) (alate own R.seen R.left []).length ⟨next, seen, late ++ l, []⟩ (by simp) R HR.out
    rw [HR.out] at hm1 hm2 hm3 hm4
    rw [List.nil_append] at hm1
    obtain ⟨N, hN⟩ : ∃ N, late.length + l.length = N := ⟨_, rfl⟩
    have hN80 : N ≤ 80 := by have := HG.out.n1; have := HG.out.n2; omega
    rw [hN] at hR
    obtain ⟨la, hla⟩ : ∃ la, alate own R.seen R.left [] = la := ⟨_, rfl⟩
    have hlm : ∀ d ∈ la, d ∈ R.left := fun d hd => by
      rw [← hla] at hd
      rcases alate_mem _ _ d hd with h | h
      · exact h
      · simp at h
    have hidem := alate_idem own R.seen R.left
    rw [hla] at hag1 hag2 hidem
    have hlal : la.length ≤ 80 := by have h1 := alate_len (own := own) (seen := R.seen) R.left []; rw [hla] at h1; have h2 := hR.p.cnt; simp at h1; omega
    have hml : more.length ≤ 80 := by have h2 := hR.p.cnt; rw [hm1] at h2; omega
    have hsk := hR.p.sk
    have hsl := hR.p.sl
    have hse : Rd w3 1 sv' R.seen.length (R.seen.map (Value.int .i64)) := hR.seen
    have hlt : Rd w3 6 tv' la.length (drCells la) := by have := hR.late; rw [hla] at this; exact this
    have hov : Rd w3 7 ov' more.length (slCells more) := by have := hR.out; rw [hm1] at this; exact this
    obtain ⟨uo, uc, rfl, _, _⟩ := hse.cap
    obtain ⟨lo, lc, rfl, _, _⟩ := hlt.cap
    obtain ⟨oo, oc, rfl, _, _⟩ := hov.cap
    obtain ⟨nx, hnx⟩ : ∃ nx, R.next = nx := ⟨_, rfl⟩
    obtain ⟨us, hus⟩ : ∃ us, R.seen = us := ⟨_, rfl⟩
    have hdl : ∀ d ∈ la, DrOk w2 d ∧ 0 ≤ d.q ∧ d.q ≤ 1048576 := fun d hd => hR.p.lk d (hlm d hd)
    have hdo : ∀ x ∈ more, DrOk w2 x.2 := fun x hx => hR.p.ok x (by rw [hm1]; exact hx)
    rw [hnx, hus] at hag1
    rw [hus] at hm2 hag2 hidem hsk hsl hse
    rw [hnx] at hm3
    obtain ⟨w4, hw4⟩ : ∃ w4, w3.alloc (.cells #[.int .i64 own, .int .i64 nx, .slice uo us.length uc, .slice lo la.length lc] 26) = w4 := ⟨_, rfl⟩
    have hf4 : Fr no w3 w4 := by rw [← hw4]; exact (Fr.refl no w3).alloc _
    have hb4 : w4.heap[w3.heap.size]? = some (.cells #[.int .i64 own, .int .i64 nx, .slice uo us.length uc, .slice lo la.length lc] 26 (0, 0)) := by rw [← hw4]; exact World.alloc_heap_new _ _
    have HW4 := Lib.hid hw4
    have HU4 := Lib.hid hb4
    have HB4 := Lib.hid (hf4.heap (hR.fr.heap HB2.out (fun f => f)) (fun f => f))
    have HF24 := Lib.hid (hR.fr.trans' hf4)
    have Hse := Lib.hid (hse.fr hf4 (fun _ _ _ f => f))
    have Hlt := Lib.hid (hlt.fr hf4 (fun _ _ _ f => f))
    have Hov := Lib.hid (hov.fr hf4 (fun _ _ _ f => f))
    have Hdl := Lib.hid hdl
    have Hdo := Lib.hid hdo
    have Hm2 := Lib.hid hm2
    have Hm3 := Lib.hid hm3
    have Hag1 := Lib.hid hag1
    have Hag2 := Lib.hid hag2
    have Hidem := Lib.hid hidem
    have Hsk := Lib.hid hsk
    have hsl0 : us.length ≤ 1000 := hsl
    have hsb : seen.length ≤ 70 := HG.out.n3
    have hno1 : 0 ≤ next := (goodP_seen HG.out).2.1
    have hno2 : next ≤ 1073741824 := HG.out.nx
    rw [hnx, hus]
    clear hR hse hlt hov hdl hdo hm2 hm3 hag1 hag2 hidem hsk hsl hw4 hf4 hb4 hla hlm hm1 hm4 hN HA t0 t1 t2 t3 hnx hus HR
    obtain ⟨i0, hi0, hz0, hz1, hz2⟩ := info_parts Try.info3
    have hone : ∀ u ∈ seen.map (Value.int .i64), u.oneCell' = true := fun u hu => by obtain ⟨y, _, rfl⟩ := List.mem_map.1 hu; rfl
    have Hone := Lib.hid hone
    clear hone
    go_upto_region 6 with (fail)
    rw [HW4.out]
    clear HW4
    generalize w3.heap.size = gu at *
    have hE := Lib.hid (ow_empty w4 3 1)
    have t2 := hE.out.fr.cell (cell_of_block (j := 2) HB4.out rfl) (fun f => f)
    generalize hsn : seen.length = sn at *
    have Hsn := Lib.hid hsn
    clear hsn
    go_wp2_with (at_builtin; refine wpList_append_all2 (w4.alloc (.cells #[] 3)) rfl _ _ 22 23 rfl 3 3 i0 _ 1 8 Try.underlying22 Try.underlying23 hi0 hz0 hz1 hz2 rfl (by decide) _ _ _ rfl hE.out.sl _ _ _ rfl (Hs.out.fr (HF2.out.trans' (HF24.out.trans' hE.out.fr)) (fun _ _ _ f => f)) Hone.out (by unfold maxLen; omega) (by omega) ?_)
    intro ao5 cap5 w5 hs5 hf5 ho5 _
    have hO5 := hE.out.app hs5 hf5 (by simpa using ho5)
    have HF25 := Lib.hid (HF24.out.trans' hO5.fr)
    have HI5 : Hid (Rd w5 1 (.slice ao5 sn cap5) sn (seen.map (Value.int .i64))) := Lib.hid (by simpa using hO5.rd)
    have HU5 := Lib.hid (hO5.fr.heap HU4.out (fun f => f))
    have HB5 := Lib.hid (hO5.fr.heap HB4.out (fun f => f))
    have Hse5 := Lib.hid (Hse.out.fr hO5.fr (fun _ _ _ f => f))
    have Hlt5 := Lib.hid (Hlt.out.fr hO5.fr (fun _ _ _ f => f))
    have Hov5 := Lib.hid (Hov.out.fr hO5.fr (fun _ _ _ f => f))
    clear hs5 hf5 ho5 hO5 hE t2 HU4 HB4 Hse Hlt Hov HF24 hi0 hz0 hz1 hz2 Hone
    obtain ⟨om, hom⟩ : ∃ om, more.length = om := ⟨_, rfl⟩
    have Hom := Lib.hid hom
    rw [hom] at hml Hov5
    rw [hom]
    clear hom
    go_wp2_with fail
    go_loopw [7, 8] (fun vv iv wr => ∃ (i : Nat) (vs : List Int) (vo : Option Addr) (vn vc : Nat), i ≤ om ∧ iv = .int .i64 i ∧ vv = .slice vo vn vc ∧ vn ≤ 1000 ∧ Hid (vn = vs.length) ∧ Hid (Rd wr 1 (.slice vo vn vc) vn (vs.map (Value.int .i64))) ∧ Hid (Chain vs (next + i) (more.drop i) us) ∧ Hid (SeenOk vs) ∧ Hid (Fr no w5 wr)) (fun _ iv _ => om - (intOf iv).toNat)
    case atStart => exact ⟨0, seen, ao5, sn, cap5, Nat.zero_le _, rfl, rfl, by omega, Lib.hid Hsn.out.symm, HI5, Lib.hid (by simpa using Hm2.out), Lib.hid (goodP_seen HG.out).1, Lib.hid (Fr.refl _ _)⟩
    case round =>
      obtain ⟨i, vs, vo, vn, vc, hi, rfl, rfl, hvn, hvl, hV, hC, hK, hF⟩ := hrel
      generalize wr = W at *
      obtain ⟨_, _, hve, hvc1, hvc2⟩ := hV.out.cap
      cases hve
      by_cases hlt : i < om
      · obtain ⟨y, hdk⟩ : ∃ x, more[i]? = some x := ⟨more[i]'(by rw [Hom.out]; exact hlt), by simp⟩
        have hdo := Rd.fr (Hdo.out y (List.mem_of_getElem? hdk)) (HF25.out.trans' hF.out) (fun _ _ _ f => f)
        obtain ⟨g, off, c', he, _, _, e0, e1, e2, e3, e4, e5, e6⟩ := sls_cells (w := W) (v := .slice oo om oc) (l := more) (by rw [Hom.out]; exact Hov5.out.fr hF.out (fun _ _ _ f => f)) hdk
        rw [Hom.out] at he
        cases he
        have hch := hC.out
        obtain ⟨hlt2, hget⟩ := List.getElem?_eq_some_iff.1 hdk
        rw [List.drop_eq_getElem_cons hlt2, hget] at hch
        obtain ⟨g1, g2, g3, g4, g5⟩ := hch
        have hvg := vget_ok hK.out y.2.s
        have hkw := vwith_ok (i := y.2.s) hK.out g4
        have hkl := vwith_len (l := vs) (i := y.2.s) (x := y.2.q) (by rw [← hvl.out]; exact hvn)
        have hiv : IntsAt W (.slice vo vn vc) vs := by show Rd W 1 _ vs.length _; rw [← hvl.out]; exact hV.out
        obtain ⟨py, dt, ds, dq, dv, dep, dk, dx⟩ := y
        obtain ⟨dO, dc, hdv, _, _⟩ := Rd.cap hdo
        dsimp only at *
        subst hdv
        have hfa : Fr no W (W.alloc (.cells #[.int .i64 ds, .int .i64 dq, .slice dO dep.length dc, .string dk, .string dx] 39)) := (Fr.refl no W).alloc _
        have hba := World.alloc_heap_new W (.cells #[.int .i64 ds, .int .i64 dq, .slice dO dep.length dc, .string dk, .string dx] 39)
        obtain ⟨WA, hWA⟩ : ∃ WA, W.alloc (.cells #[.int .i64 ds, .int .i64 dq, .slice dO dep.length dc, .string dk, .string dx] 39) = WA := ⟨_, rfl⟩
        rw [hWA] at hfa hba
        have HWA := Lib.hid hWA
        have HBA := Lib.hid hba
        have HFA := Lib.hid hfa
        obtain ⟨G, hG⟩ : ∃ G, vget vs ds = G := ⟨_, rfl⟩
        have Hget := Lib.hid (fun (w' : World) (hf : Fr no W w') => ref_get _ vs ds w' (hiv.fr hf (fun _ _ _ f => f)))
        have Hcov := Lib.hid (fun (w' : World) (hf : Fr no W w') => ref_covers _ _ vs dep w' (hiv.fr hf (fun _ _ _ f => f)) (Rd.fr hdo hf (fun _ _ _ f => f)))
        have Hwith := Lib.hid (fun (w' : World) (hf : Fr no W w') => ref_with _ vs ds dq w' (hiv.fr hf (fun _ _ _ f => f)) (by rw [← hvl.out]; omega))
        rw [hG] at hvg g2 Hget
        rw [g3] at Hcov
        have hadd : IntKind.i64.wrap (G + 1) = dq := by rw [g2]; exact IntWalk.i64_in _ (by omega)
        have hadd2 : IntKind.i64.wrap (next + (i : Int)) = py := by rw [g1]; exact IntWalk.i64_in _ (by omega)
        have f0 := HFA.out.cell e0 (fun f => f)
        have r0 := cell_of_block (j := 0) HBA.out rfl
        have r1 := cell_of_block (j := 1) HBA.out rfl
        have r2 := cell_of_block (j := 2) HBA.out rfl
        have t1 := cell_of_block (j := 1) (HFA.out.heap (hF.out.heap HB5.out (fun f => f)) (fun f => f)) rfl
        have Hg5 := Lib.hid g5
        have Hkw := Lib.hid hkw
        have Hkl := Lib.hid hkl
        generalize dep.length = dn at *
        clear hdk hdo hlt2 hget g1 g2 g3 g4 g5 hkw hkl hiv hWA hba hfa hG hC hK hV
        go_upto_region 11 with (fail)
        rw [HWA.out]
        clear HWA e0 e1 e2 e3 e4 e5 e6
        obtain ⟨Sg236_0, HSg236_0⟩ : ∃ S : World → Prop, Hid (S = (fun w' => w'.cell? ⟨g, off + i * 7, none⟩ = some (.int .i64 py) ∧ w'.cell? ⟨w.heap.size, 1, none⟩ = some (.int .i64 next) ∧ w'.cell? ⟨W.heap.size, 0, none⟩ = some (.int .i64 ds) ∧ w'.cell? ⟨W.heap.size, 1, none⟩ = some (.int .i64 dq) ∧ w'.cell? ⟨W.heap.size, 2, none⟩ = some (.slice dO dn dc))) := ⟨_, Lib.hid rfl⟩
        refine wp_heldp [] (pickS [Sg236_0]) (by kernel_rfl) ?_ (fun hHeld => ?_)
        · show Sg236_0 _; rw [HSg236_0.out]; exact ⟨f0, t1, r0, r1, r2⟩
        obtain ⟨wc, hwc⟩ : ∃ x, WA.drew = x := ⟨_, rfl⟩; rw [hwc] at hHeld; rw [hwc]; have HF : Hid (Fr no WA wc) := (by rw [← hwc]; exact Lib.hid ((Fr.refl no WA).drewN 1)); clear hwc
        refine heldp_take (v := ?_) 0 0 rfl (by kernel_rfl) (.inl ⟨by rfl, ?_⟩) hHeld ?_
        rotate_left
        · intro w hSw; replace hSw : Sg236_0 w := hSw; rw [HSg236_0.out] at hSw; (try dsimp only at hSw); first | (go_simp; done) | (go_simp; with_reducible rfl)
        try simp only [Act.put, List.setIfInBounds_toArray, List.set_cons_zero, List.set_cons_succ]
        refine heldp_take (v := ?_) 1 0 rfl (by kernel_rfl) (.inl ⟨by rfl, ?_⟩) hHeld ?_
        rotate_left
        · intro w hSw; replace hSw : Sg236_0 w := hSw; rw [HSg236_0.out] at hSw; (try dsimp only at hSw); first | (go_simp; done) | (go_simp; with_reducible rfl)
        try simp only [Act.put, List.setIfInBounds_toArray, List.set_cons_zero, List.set_cons_succ]
        refine heldp_take (v := ?_) 2 0 rfl (by kernel_rfl) (.inl ⟨by rfl, ?_⟩) hHeld ?_
        rotate_left
        · intro w hSw; replace hSw : Sg236_0 w := hSw; rw [HSg236_0.out] at hSw; (try dsimp only at hSw); first | (go_simp; done) | (go_simp; with_reducible rfl)
        try simp only [Act.put, List.setIfInBounds_toArray, List.set_cons_zero, List.set_cons_succ]
        refine heldp_take (v := ?_) 3 0 rfl (by kernel_rfl) (.inl ⟨by rfl, ?_⟩) hHeld ?_
        rotate_left
        · intro w hSw; replace hSw : Sg236_0 w := hSw; rw [HSg236_0.out] at hSw; (try dsimp only at hSw); first | (go_simp; done) | (go_simp; with_reducible rfl)
        try simp only [Act.put, List.setIfInBounds_toArray, List.set_cons_zero, List.set_cons_succ]
        refine heldp_take (v := ?_) 4 0 rfl (by kernel_rfl) (.inl ⟨by rfl, ?_⟩) hHeld ?_
        rotate_left
        · intro w hSw; replace hSw : Sg236_0 w := hSw; rw [HSg236_0.out] at hSw; (try dsimp only at hSw); first | (go_simp; done) | (go_simp; with_reducible rfl)
        try simp only [Act.put, List.setIfInBounds_toArray, List.set_cons_zero, List.set_cons_succ]
        refine heldp_take (v := ?_) 5 0 rfl (by kernel_rfl) (.inl ⟨by rfl, ?_⟩) hHeld ?_
        rotate_left
        · intro w hSw; replace hSw : Sg236_0 w := hSw; rw [HSg236_0.out] at hSw; (try dsimp only at hSw); first | (go_simp; done) | (go_simp; with_reducible rfl)
        try simp only [Act.put, List.setIfInBounds_toArray, List.set_cons_zero, List.set_cons_succ]
        refine heldp_take (v := ?_) 6 0 rfl (by kernel_rfl) (.inl ⟨by rfl, ?_⟩) hHeld ?_
        rotate_left
        · intro w hSw; replace hSw : Sg236_0 w := hSw; rw [HSg236_0.out] at hSw; (try dsimp only at hSw); first | (go_simp; done) | (go_simp; with_reducible rfl)
        try simp only [Act.put, List.setIfInBounds_toArray, List.set_cons_zero, List.set_cons_succ]
        refine heldp_take (v := ?_) 7 0 rfl (by kernel_rfl) (.inl ⟨by rfl, ?_⟩) hHeld ?_
        rotate_left
        · intro w hSw; replace hSw : Sg236_0 w := hSw; rw [HSg236_0.out] at hSw; (try dsimp only at hSw); first | (go_simp; done) | (go_simp; with_reducible rfl)
        try simp only [Act.put, List.setIfInBounds_toArray, List.set_cons_zero, List.set_cons_succ]
        refine heldp_take (v := ?_) 8 0 rfl (by kernel_rfl) (.inl ⟨by rfl, ?_⟩) hHeld ?_
        rotate_left
        · intro w hSw; replace hSw : Sg236_0 w := hSw; rw [HSg236_0.out] at hSw; (try dsimp only at hSw); first | (go_simp; done) | (go_simp; with_reducible rfl)
        try simp only [Act.put, List.setIfInBounds_toArray, List.set_cons_zero, List.set_cons_succ]
        refine heldp_take (v := ?_) 9 0 rfl (by kernel_rfl) (.inl ⟨by rfl, ?_⟩) hHeld ?_
        rotate_left
        · intro w hSw; replace hSw : Sg236_0 w := hSw; rw [HSg236_0.out] at hSw; (try dsimp only at hSw); first | (go_simp; done) | (go_simp; with_reducible rfl)
        try simp only [Act.put, List.setIfInBounds_toArray, List.set_cons_zero, List.set_cons_succ]
        refine heldp_take (v := ?_) 10 0 rfl (by kernel_rfl) (.inl ⟨by rfl, ?_⟩) hHeld ?_
        rotate_left
        · intro w hSw; replace hSw : Sg236_0 w := hSw; rw [HSg236_0.out] at hSw; (try dsimp only at hSw); first | (go_simp; done) | (go_simp; with_reducible rfl)
        try simp only [Act.put, List.setIfInBounds_toArray, List.set_cons_zero, List.set_cons_succ]
        refine heldp_take (v := ?_) 11 0 rfl (by kernel_rfl) (.inl ⟨by rfl, ?_⟩) hHeld ?_
        rotate_left
        · intro w hSw; replace hSw : Sg236_0 w := hSw; rw [HSg236_0.out] at hSw; (try dsimp only at hSw); first | (go_simp; done) | (go_simp; with_reducible rfl)
        try simp only [Act.put, List.setIfInBounds_toArray, List.set_cons_zero, List.set_cons_succ]
        refine heldp_take (v := ?_) 12 0 rfl (by kernel_rfl) (.inl ⟨by rfl, ?_⟩) hHeld ?_
        rotate_left
        · intro w hSw; replace hSw : Sg236_0 w := hSw; rw [HSg236_0.out] at hSw; (try dsimp only at hSw); first | (go_simp; done) | (go_simp; with_reducible rfl)
        try simp only [Act.put, List.setIfInBounds_toArray, List.set_cons_zero, List.set_cons_succ]
        refine heldp_take (v := ?_) 13 0 rfl (by kernel_rfl) (.inl ⟨by rfl, ?_⟩) hHeld ?_
        rotate_left
        · intro w hSw; replace hSw : Sg236_0 w := hSw; rw [HSg236_0.out] at hSw; (try dsimp only at hSw); first | (go_simp; done) | (go_simp; with_reducible rfl)
        try simp only [Act.put, List.setIfInBounds_toArray, List.set_cons_zero, List.set_cons_succ]
        refine heldp_take (v := ?_) 14 0 rfl (by kernel_rfl) (.inl ⟨by rfl, ?_⟩) hHeld ?_
        rotate_left
        · intro w hSw; replace hSw : Sg236_0 w := hSw; rw [HSg236_0.out] at hSw; (try dsimp only at hSw); first | (go_simp; done) | (go_simp; with_reducible rfl)
        try simp only [Act.put, List.setIfInBounds_toArray, List.set_cons_zero, List.set_cons_succ]
        refine heldp_take (v := ?_) 15 0 rfl (by kernel_rfl) (.inl ⟨by rfl, ?_⟩) hHeld ?_
        rotate_left
        · intro w hSw; replace hSw : Sg236_0 w := hSw; rw [HSg236_0.out] at hSw; (try dsimp only at hSw); first | (go_simp; done) | (go_simp; with_reducible rfl)
        try simp only [Act.put, List.setIfInBounds_toArray, List.set_cons_zero, List.set_cons_succ]
        refine heldp_call 16 0 rfl (by kernel_rfl) (fun K hK => ?_)
        go_simp
        go_at_call 22
        refine (Hget.out _ (HFA.out.trans' HF.out)).mono ?_
        rintro e w' ⟨rfl, rfl⟩
        refine hK.out _ _ ?_ (fun hHeld' => ?_)
        · show Sg236_0 _; rw [HSg236_0.out]; have hq := HF.out; exact ⟨hq.cell f0 (fun f => f), hq.cell t1 (fun f => f), hq.cell r0 (fun f => f), hq.cell r1 (fun f => f), hq.cell r2 (fun f => f)⟩
        clear hK K hHeld
        have hHeld := hHeld'
        clear hHeld'
        try simp only [Act.put, List.setIfInBounds_toArray, List.set_cons_zero, List.set_cons_succ]
        refine heldp_take (v := ?_) 17 0 rfl (by kernel_rfl) (.inl ⟨by rfl, ?_⟩) hHeld ?_
        rotate_left
        · intro w hSw; replace hSw : Sg236_0 w := hSw; rw [HSg236_0.out] at hSw; (try dsimp only at hSw); first | (go_simp; done) | (go_simp; with_reducible rfl)
        try simp only [Act.put, List.setIfInBounds_toArray, List.set_cons_zero, List.set_cons_succ]
        refine heldp_take (v := ?_) 18 0 rfl (by kernel_rfl) (.inl ⟨by rfl, ?_⟩) hHeld ?_
        rotate_left
        · intro w hSw; replace hSw : Sg236_0 w := hSw; rw [HSg236_0.out] at hSw; (try dsimp only at hSw); first | (go_simp; done) | (go_simp; with_reducible rfl)
        try simp only [Act.put, List.setIfInBounds_toArray, List.set_cons_zero, List.set_cons_succ]
        refine heldp_take (v := ?_) 19 0 rfl (by kernel_rfl) (.inl ⟨by rfl, ?_⟩) hHeld ?_
        rotate_left
        · intro w hSw; replace hSw : Sg236_0 w := hSw; rw [HSg236_0.out] at hSw; (try dsimp only at hSw); first | (go_simp; done) | (go_simp; with_reducible rfl)
        try simp only [Act.put, List.setIfInBounds_toArray, List.set_cons_zero, List.set_cons_succ]
        refine heldp_take (v := ?_) 20 0 rfl (by kernel_rfl) (.inl ⟨by rfl, ?_⟩) hHeld ?_
        rotate_left
        · intro w hSw; replace hSw : Sg236_0 w := hSw; rw [HSg236_0.out] at hSw; (try dsimp only at hSw); first | (go_simp; done) | (go_simp; with_reducible rfl)
        try simp only [Act.put, List.setIfInBounds_toArray, List.set_cons_zero, List.set_cons_succ]
        refine heldp_take (v := ?_) 21 0 rfl (by kernel_rfl) (.inl ⟨by rfl, ?_⟩) hHeld ?_
        rotate_left
        · intro w hSw; replace hSw : Sg236_0 w := hSw; rw [HSg236_0.out] at hSw; (try dsimp only at hSw); first | (go_simp; done) | (go_simp; with_reducible rfl)
        try simp only [Act.put, List.setIfInBounds_toArray, List.set_cons_zero, List.set_cons_succ]
        refine heldp_take (v := ?_) 22 0 rfl (by kernel_rfl) (.inl ⟨by rfl, ?_⟩) hHeld ?_
        rotate_left
        · intro w hSw; replace hSw : Sg236_0 w := hSw; rw [HSg236_0.out] at hSw; (try dsimp only at hSw); first | (go_simp; done) | (go_simp; with_reducible rfl)
        try simp only [Act.put, List.setIfInBounds_toArray, List.set_cons_zero, List.set_cons_succ]
        refine heldp_take (v := ?_) 23 0 rfl (by kernel_rfl) (.inl ⟨by rfl, ?_⟩) hHeld ?_
        rotate_left
        · intro w hSw; replace hSw : Sg236_0 w := hSw; rw [HSg236_0.out] at hSw; (try dsimp only at hSw); first | (go_simp; done) | (go_simp; with_reducible rfl)
        try simp only [Act.put, List.setIfInBounds_toArray, List.set_cons_zero, List.set_cons_succ]
        refine heldp_call 24 0 rfl (by kernel_rfl) (fun K hK => ?_)
        go_simp
        go_at_call 23
        refine (Hcov.out _ (HFA.out.trans' HF.out)).mono ?_
        rintro e w' ⟨rfl, rfl⟩
        refine hK.out _ _ ?_ (fun hHeld' => ?_)
        · show Sg236_0 _; rw [HSg236_0.out]; have hq := HF.out; exact ⟨hq.cell f0 (fun f => f), hq.cell t1 (fun f => f), hq.cell r0 (fun f => f), hq.cell r1 (fun f => f), hq.cell r2 (fun f => f)⟩
        clear hK K hHeld
        have hHeld := hHeld'
        clear hHeld'
        try simp only [Act.put, List.setIfInBounds_toArray, List.set_cons_zero, List.set_cons_succ]
        refine heldp_take (v := ?_) 25 0 rfl (by kernel_rfl) (.inl ⟨by rfl, ?_⟩) hHeld ?_
        rotate_left
        · intro w hSw; replace hSw : Sg236_0 w := hSw; rw [HSg236_0.out] at hSw; (try dsimp only at hSw); first | (go_simp; done) | (go_simp; with_reducible rfl)
        try simp only [Act.put, List.setIfInBounds_toArray, List.set_cons_zero, List.set_cons_succ]
        refine heldp_take (v := ?_) 26 0 rfl (by kernel_rfl) (.inl ⟨by rfl, ?_⟩) hHeld ?_
        rotate_left
        · intro w hSw; replace hSw : Sg236_0 w := hSw; rw [HSg236_0.out] at hSw; (try dsimp only at hSw); first | (go_simp; done) | (go_simp; with_reducible rfl)
        try simp only [Act.put, List.setIfInBounds_toArray, List.set_cons_zero, List.set_cons_succ]
        refine heldp_done (by kernel_rfl) ?_
        try clear hHeld
        clear HSg236_0
        try clear Sg236_0
        have r0' := HF.out.cell r0 (fun f => f)
        have r1' := HF.out.cell r1 (fun f => f)
        clear f0 t1 r0 r1 r2
        go_wp2_with fail
        refine (Hwith.out _ (HFA.out.trans' HF.out)).mono ?_
        rintro e W6 ⟨v6, rfl, hm6⟩
        obtain ⟨vo6, vc6, rfl, _, _⟩ := hm6.cap
        have HF6 := Lib.hid (hF.out.trans' (HFA.out.trans' (HF.out.trans' hm6.fr)))
        have HV6 := Lib.hid hm6.rd
        clear hm6 r0' r1' Hget Hcov Hwith
        go_wp2
        go_roundw
        case rel => exact ⟨i + 1, vwith vs ds dq, vo6, _, vc6, by omega, by go_num, rfl, Hkl.out, Lib.hid rfl, HV6, Lib.hid (by have h := Hg5.out; rw [show next + ((i + 1 : Nat) : Int) = next + (i : Int) + 1 by push_cast; omega]; exact h), Hkw, HF6⟩
        case measure => simp [intOf]; omega
      · obtain rfl : om = i := by omega
        have hcc := hC.out
        rw [List.drop_eq_nil_of_le (by rw [Hom.out]; exact Nat.le_refl _)] at hcc
        have hvu : vs = us := hcc
        have hiv : IntsAt W (.slice vo vn vc) us := by rw [← hvu]; show Rd W 1 _ vs.length _; rw [← hvl.out]; exact hV.out
        have hsm := ref_same (.slice vo vn vc) (.slice uo us.length uc) us us W hiv (Hse5.out.fr hF.out (fun _ _ _ f => f))
        rw [vcov_refl, Bool.and_self] at hsm
        have Hsm := Lib.hid hsm
        have HUW := Lib.hid (hF.out.heap HU5.out (fun f => f))
        have HBW := Lib.hid (hF.out.heap HB5.out (fun f => f))
        have HseW := Lib.hid (Hse5.out.fr hF.out (fun _ _ _ f => f))
        have HltW := Lib.hid (Hlt5.out.fr hF.out (fun _ _ _ f => f))
        have HF2W := Lib.hid (HF25.out.trans' hF.out)
        have HFw := Lib.hid (HF2.out.trans' HF2W.out)
        have u0 := cell_of_block (j := 0) HUW.out rfl
        have u1 := cell_of_block (j := 1) HUW.out rfl
        have u2 := cell_of_block (j := 2) HUW.out rfl
        have u3 := cell_of_block (j := 3) HUW.out rfl
        have t0 := cell_of_block (j := 0) HBW.out rfl
        have t1 := cell_of_block (j := 1) HBW.out rfl
        have hnx : nx = next + (om : Int) := by rw [← Hom.out]; exact Hm3.out
        have y1 : (nx != next + (om : Int)) = false := by rw [hnx]; exact bne_same _
        have hnb : 0 ≤ nx ∧ nx ≤ 1073742000 := by omega
        clear hcc hsm hiv hC hK hV hF HI5 HU5 HB5 Hse5 Hlt5 Hov5 Hm2 Hm3 hnx HF25
        go_wp2_with fail
        refine Hsm.out.mono ?_
        rintro e w' ⟨rfl, rfl⟩
        clear Hsm
        go_wp2_with fail
        obtain ⟨ln, hln⟩ : ∃ ln, la.length = ln := ⟨_, rfl⟩
        have Hln := Lib.hid hln
        rw [hln] at hlal HUW HltW u3 Hag1
        obtain ⟨un, hun⟩ : ∃ un, us.length = un := ⟨_, rfl⟩
        have Hun := Lib.hid hun
        rw [hun] at hsl0 HUW HseW u2
        have hofu : ∀ wc, Fr no W wc → Calls Try.prog 12 #[.agg #[.int .i64 own, .int .i64 nx, .slice uo un uc, .slice lo ln lc]] wc fun e w' => ∃ ao cap, e = .returned (.agg #[.int .i64 own, .int .i64 nx, .slice uo un uc, .slice ao ln cap]) ∧ Rd w' 6 (.slice ao ln cap) ln (drCells la) ∧ Fr no wc w' := fun wc hf => by
          have h := lOf own nx (.slice uo un uc) (.slice lo ln lc) us la wc (by show Rd wc 1 _ us.length _; rw [hun]; exact HseW.out.fr hf (fun _ _ _ f => f)) (by show Rd wc 6 _ la.length _; rw [hln]; exact HltW.out.fr hf (fun _ _ _ f => f)) (fun d hm => Rd.fr (Hdl.out d hm).1 (HF2W.out.trans' hf) (fun _ _ _ f => f)) (by omega)
          rw [hln] at h
          exact h.mono (fun e w' ⟨ao, cap, he, hO⟩ => ⟨ao, cap, he, hO.rd, hO.fr⟩)
        have Hofu := Lib.hid hofu
        rw [hln, hun]
        clear hofu hln hun t0 t1 y1
        go_loopw [10] (fun iv wr => ∃ i : Nat, i ≤ ln ∧ iv = .int .i64 i ∧ Hid (Fr no W wr)) (fun iv _ => ln - (intOf iv).toNat)
        case atStart => exact ⟨0, Nat.zero_le _, rfl, Lib.hid (Fr.refl _ _)⟩
        case round =>
          obtain ⟨i, hi, rfl, hF⟩ := hrel
          generalize wr = V at *
          have z0 := hF.out.cell u0 (fun f => f)
          have z1 := hF.out.cell u1 (fun f => f)
          have z2 := hF.out.cell u2 (fun f => f)
          have z3 := hF.out.cell u3 (fun f => f)
          by_cases hlt : i < ln
          · obtain ⟨d, hdk⟩ : ∃ x, la[i]? = some x := ⟨la[i]'(by rw [Hln.out]; exact hlt), by simp⟩
            have hdm := List.mem_of_getElem? hdk
            have hdo := Rd.fr (Hdl.out d hdm).1 (HF2W.out.trans' hF.out) (fun _ _ _ f => f)
            have hmay := Hag2.out d hdm
            obtain ⟨g, off, c', he, e0, e1, e2, e3, e4, e5⟩ := drs_cells (w := V) (v := .slice lo ln lc) (l := la) (by show Rd V 6 _ la.length _; rw [Hln.out]; exact HltW.out.fr hF.out (fun _ _ _ f => f)) hdk
            rw [Hln.out] at he
            cases he
            have hmy : ∀ wc (ao : Option Addr) (cap : Nat), Fr no V wc → Calls Try.prog 15 #[.agg #[.int .i64 own, .int .i64 nx, .slice uo un uc, .slice ao ln cap], d.v] wc fun e w' => e = .returned (.bool false) ∧ Fr no wc w' := fun wc ao cap hf => by
              have h := ref_may own nx (.slice uo un uc) (.slice ao ln cap) us d wc (by show Rd wc 1 _ us.length _; rw [Hun.out]; exact HseW.out.fr (hF.out.trans' hf) (fun _ _ _ f => f)) (Rd.fr hdo hf (fun _ _ _ f => f)) Hsk.out ao ln cap rfl
              rw [hmay] at h
              exact h
            obtain ⟨dt, ds, dq, dv, dep, dk, dx⟩ := d
            obtain ⟨dO, dc, hdv, _, _⟩ := Rd.cap hdo
            dsimp only at *
            subst hdv
            unfold Dr.v at hmy
            dsimp only at hmy
            have Hmy := Lib.hid hmy
            generalize dep.length = dn at *
            clear hdk hdm hdo hmay hmy
            go_upto_region 19 with (fail)
            obtain ⟨Sg453_0, HSg453_0⟩ : ∃ S : World → Prop, Hid (S = (fun w' => w'.cell? ⟨gu, 0, none⟩ = some (.int .i64 own) ∧ w'.cell? ⟨gu, 1, none⟩ = some (.int .i64 nx) ∧ w'.cell? ⟨gu, 2, none⟩ = some (.slice uo un uc) ∧ w'.cell? ⟨gu, 3, none⟩ = some (.slice (some ⟨g, off, none⟩) ln lc) ∧ w'.cell? ⟨g, off + i * 6, none⟩ = some (.int .i64 dt) ∧ w'.cell? ⟨g, off + i * 6 + 1, none⟩ = some (.int .i64 ds) ∧ w'.cell? ⟨g, off + i * 6 + 2, none⟩ = some (.int .i64 dq) ∧ w'.cell? ⟨g, off + i * 6 + 3, none⟩ = some (.slice dO dn dc) ∧ w'.cell? ⟨g, off + i * 6 + 4, none⟩ = some (.string dk) ∧ w'.cell? ⟨g, off + i * 6 + 5, none⟩ = some (.string dx))) := ⟨_, Lib.hid rfl⟩
            refine wp_heldp [] (pickS [Sg453_0]) (by kernel_rfl) ?_ (fun hHeld => ?_)
            · show Sg453_0 _; rw [HSg453_0.out]; exact ⟨z0, z1, z2, z3, e0, e1, e2, e3, e4, e5⟩
            obtain ⟨wc, hwc⟩ : ∃ x, V.drew = x := ⟨_, rfl⟩; rw [hwc] at hHeld; rw [hwc]; have HF : Hid (Fr no V wc) := (by rw [← hwc]; exact Lib.hid ((Fr.refl no V).drewN 1)); clear hwc
            refine heldp_take (v := ?_) 0 0 rfl (by kernel_rfl) (.inl ⟨by rfl, ?_⟩) hHeld ?_
            rotate_left
            · intro w hSw; replace hSw : Sg453_0 w := hSw; rw [HSg453_0.out] at hSw; (try dsimp only at hSw); first | (go_simp; done) | (go_simp; with_reducible rfl)
            try simp only [Act.put, List.setIfInBounds_toArray, List.set_cons_zero, List.set_cons_succ]
            refine heldp_take (v := ?_) 2 0 rfl (by kernel_rfl) (.inl ⟨by rfl, ?_⟩) hHeld ?_
            rotate_left
            · intro w hSw; replace hSw : Sg453_0 w := hSw; rw [HSg453_0.out] at hSw; (try dsimp only at hSw); first | (go_simp; done) | (go_simp; with_reducible rfl)
            try simp only [Act.put, List.setIfInBounds_toArray, List.set_cons_zero, List.set_cons_succ]
            refine heldp_take (v := ?_) 3 0 rfl (by kernel_rfl) (.inl ⟨by rfl, ?_⟩) hHeld ?_
            rotate_left
            · intro w hSw; replace hSw : Sg453_0 w := hSw; rw [HSg453_0.out] at hSw; (try dsimp only at hSw); first | (go_simp; done) | (go_simp; with_reducible rfl)
            try simp only [Act.put, List.setIfInBounds_toArray, List.set_cons_zero, List.set_cons_succ]
            refine heldp_take (v := ?_) 4 0 rfl (by kernel_rfl) (.inl ⟨by rfl, ?_⟩) hHeld ?_
            rotate_left
            · intro w hSw; replace hSw : Sg453_0 w := hSw; rw [HSg453_0.out] at hSw; (try dsimp only at hSw); first | (go_simp; done) | (go_simp; with_reducible rfl)
            try simp only [Act.put, List.setIfInBounds_toArray, List.set_cons_zero, List.set_cons_succ]
            refine heldp_take (v := ?_) 5 0 rfl (by kernel_rfl) (.inl ⟨by rfl, ?_⟩) hHeld ?_
            rotate_left
            · intro w hSw; replace hSw : Sg453_0 w := hSw; rw [HSg453_0.out] at hSw; (try dsimp only at hSw); first | (go_simp; done) | (go_simp; with_reducible rfl)
            try simp only [Act.put, List.setIfInBounds_toArray, List.set_cons_zero, List.set_cons_succ]
            refine heldp_take (v := ?_) 6 0 rfl (by kernel_rfl) (.inl ⟨by rfl, ?_⟩) hHeld ?_
            rotate_left
            · intro w hSw; replace hSw : Sg453_0 w := hSw; rw [HSg453_0.out] at hSw; (try dsimp only at hSw); first | (go_simp; done) | (go_simp; with_reducible rfl)
            try simp only [Act.put, List.setIfInBounds_toArray, List.set_cons_zero, List.set_cons_succ]
            refine heldp_call 1 0 rfl (by kernel_rfl) (fun K hK => ?_)
            go_simp
            go_at_call 12
            refine (Hofu.out _ (hF.out.trans' HF.out)).mono ?_
            rintro e wc ⟨ao, cap, rfl, _, hfd⟩
            replace HF := Lib.hid (HF.out.trans' hfd)
            clear hfd
            refine hK.out _ _ ?_ (fun hHeld' => ?_)
            · show Sg453_0 _; rw [HSg453_0.out]; have hq := HF.out; exact ⟨hq.cell z0 (fun f => f), hq.cell z1 (fun f => f), hq.cell z2 (fun f => f), hq.cell z3 (fun f => f), hq.cell e0 (fun f => f), hq.cell e1 (fun f => f), hq.cell e2 (fun f => f), hq.cell e3 (fun f => f), hq.cell e4 (fun f => f), hq.cell e5 (fun f => f)⟩
            clear hK K hHeld
            have hHeld := hHeld'
            clear hHeld'
            try simp only [Act.put, List.setIfInBounds_toArray, List.set_cons_zero, List.set_cons_succ]
            refine heldp_call 7 0 rfl (by kernel_rfl) (fun K hK => ?_)
            go_simp
            go_at_call 16
            refine (lOfDraft _ _ _ _ _ _ _ _ wc).mono ?_
            rintro e wc ⟨rfl, hfd⟩
            replace HF := Lib.hid (HF.out.trans' hfd)
            clear hfd
            refine hK.out _ _ ?_ (fun hHeld' => ?_)
            · show Sg453_0 _; rw [HSg453_0.out]; have hq := HF.out; exact ⟨hq.cell z0 (fun f => f), hq.cell z1 (fun f => f), hq.cell z2 (fun f => f), hq.cell z3 (fun f => f), hq.cell e0 (fun f => f), hq.cell e1 (fun f => f), hq.cell e2 (fun f => f), hq.cell e3 (fun f => f), hq.cell e4 (fun f => f), hq.cell e5 (fun f => f)⟩
            clear hK K hHeld
            have hHeld := hHeld'
            clear hHeld'
            try simp only [Act.put, List.setIfInBounds_toArray, List.set_cons_zero, List.set_cons_succ]
            refine heldp_call 8 0 rfl (by kernel_rfl) (fun K hK => ?_)
            go_simp
            go_at_call 15
            refine (Hmy.out _ ao cap HF.out).mono ?_
            rintro e wc ⟨rfl, hfd⟩
            replace HF := Lib.hid (HF.out.trans' hfd)
            clear hfd
            refine hK.out _ _ ?_ (fun hHeld' => ?_)
            · show Sg453_0 _; rw [HSg453_0.out]; have hq := HF.out; exact ⟨hq.cell z0 (fun f => f), hq.cell z1 (fun f => f), hq.cell z2 (fun f => f), hq.cell z3 (fun f => f), hq.cell e0 (fun f => f), hq.cell e1 (fun f => f), hq.cell e2 (fun f => f), hq.cell e3 (fun f => f), hq.cell e4 (fun f => f), hq.cell e5 (fun f => f)⟩
            clear hK K hHeld
            have hHeld := hHeld'
            clear hHeld'
            try simp only [Act.put, List.setIfInBounds_toArray, List.set_cons_zero, List.set_cons_succ]
            refine heldp_done (by kernel_rfl) ?_
            try clear hHeld
            clear HSg453_0
            try clear Sg453_0
            clear z0 z1 z2 z3 e0 e1 e2 e3 e4 e5 Hmy
            have HFn := Lib.hid (hF.out.trans' HF.out)
            go_wp2
            go_roundw
            case rel => exact ⟨i + 1, by omega, by go_num, HFn⟩
            case measure => simp [intOf]; omega
          · obtain rfl : ln = i := by omega
            have hadm2 := tAdmit own nx (.slice uo un uc) (.slice lo ln lc) (.slice none 0 0) us la [] V (by show Rd V 1 _ us.length _; rw [Hun.out]; exact HseW.out.fr hF.out (fun _ _ _ f => f)) Hsk.out (by show Rd V 6 _ la.length _; rw [Hln.out]; exact HltW.out.fr hF.out (fun _ _ _ f => f)) (rd_zero _ _)
              (fun d hm => Rd.fr (Hdl.out d (by simpa using hm)).1 (HF2W.out.trans' hF.out) (fun _ _ _ f => f)) (fun d hm => (Hdl.out d (by simpa using hm)).2) (by rw [Hln.out]; simp; omega) (by rw [Hun.out]; omega) hnb.1 (by omega)
            have hag3 : ago own (la.length + ([] : List Dr).length) ⟨nx, us, la ++ [], []⟩ = ⟨nx, us, la, []⟩ := by rw [List.append_nil, List.length_nil, Nat.add_zero, Hln.out]; exact Hag1.out
            rw [hag3] at hadm2
            have HA2 : Hid (Calls Try.prog 17 #[.agg #[.int .i64 own, .int .i64 nx, .slice uo un uc, .slice lo ln lc], .slice none 0 0] V fun e w' => ∃ sv' tv' ov', e = .returned (.tuple #[.agg #[.int .i64 own, .int .i64 nx, sv', tv'], ov']) ∧ Rd w' 1 sv' un (us.map (Value.int .i64)) ∧ Rd w' 6 tv' ln (drCells la) ∧ Rd w' 7 ov' 0 [] ∧ Fr no V w') := Lib.hid (hadm2.mono (fun e w' ⟨sv', tv', ov', he, hR⟩ => ⟨sv', tv', ov', he, by rw [← Hun.out]; exact hR.seen, (by have h := hR.late; rw [Hidem.out] at h; rw [← Hln.out]; exact h), hR.out, hR.fr⟩))
            have HV := Lib.hid (HF2W.out.trans' hF.out)
            have HUV := Lib.hid (hF.out.heap HUW.out (fun f => f))
            clear hadm2 hag3
            go_wp2_with fail
            refine HA2.out.mono ?_
            rintro e X1 ⟨sv', tv', ov', rfl, k1, k2, k3, kf⟩
            obtain ⟨uo2, uc2, rfl, _, _⟩ := k1.cap
            obtain ⟨lo2, lc2, rfl, _, _⟩ := k2.cap
            obtain ⟨oo2, oc2, rfl, _, _⟩ := k3.cap
            obtain ⟨X2, hX2⟩ : ∃ X2, X1.alloc (.cells #[.int .i64 own, .int .i64 nx, .slice uo2 un uc2, .slice lo2 ln lc2] 26) = X2 := ⟨_, rfl⟩
            have hfx : Fr no X1 X2 := by rw [← hX2]; exact (Fr.refl no X1).alloc _
            have hbx : X2.heap[X1.heap.size]? = some (.cells #[.int .i64 own, .int .i64 nx, .slice uo2 un uc2, .slice lo2 ln lc2] 26 (0, 0)) := by rw [← hX2]; exact World.alloc_heap_new _ _
            have HWX := Lib.hid hX2
            have HBX := Lib.hid hbx
            have HFX := Lib.hid (kf.trans' hfx)
            have HUX := Lib.hid ((kf.trans' hfx).heap HUV.out (fun f => f))
            have HK1 := Lib.hid (k1.fr hfx (fun _ _ _ f => f))
            have HK2 := Lib.hid (k2.fr hfx (fun _ _ _ f => f))
            have hofw : ∀ wc, Fr no X2 wc → Calls Try.prog 12 #[.agg #[.int .i64 own, .int .i64 nx, .slice uo2 un uc2, .slice lo2 ln lc2]] wc fun e w' => ∃ ao cap, e = .returned (.agg #[.int .i64 own, .int .i64 nx, .slice uo2 un uc2, .slice ao ln cap]) ∧ Rd w' 6 (.slice ao ln cap) ln (drCells la) ∧ Fr no wc w' := fun wc hf => by
              have h := lOf own nx (.slice uo2 un uc2) (.slice lo2 ln lc2) us la wc (by show Rd wc 1 _ us.length _; rw [Hun.out]; exact HK1.out.fr hf (fun _ _ _ f => f)) (by show Rd wc 6 _ la.length _; rw [Hln.out]; exact HK2.out.fr hf (fun _ _ _ f => f)) (fun d hm => Rd.fr (Hdl.out d hm).1 (HV.out.trans' (HFX.out.trans' hf)) (fun _ _ _ f => f)) (by rw [Hln.out]; omega)
              rw [Hln.out] at h
              exact h.mono (fun e w' ⟨ao, cap, he, hO⟩ => ⟨ao, cap, he, hO.rd, hO.fr⟩)
            have Hofw := Lib.hid hofw
            have z0 := cell_of_block (j := 0) HUX.out rfl
            have z1 := cell_of_block (j := 1) HUX.out rfl
            have z2 := cell_of_block (j := 2) HUX.out rfl
            have z3 := cell_of_block (j := 3) HUX.out rfl
            have x0 := cell_of_block (j := 0) HBX.out rfl
            have x1 := cell_of_block (j := 1) HBX.out rfl
            have x2 := cell_of_block (j := 2) HBX.out rfl
            have x3 := cell_of_block (j := 3) HBX.out rfl
            clear hX2 hfx hbx kf k1 k2 k3 hofw HA2 u0 u1 u2 u3
            go_upto_region 22 with (fail)
            rw [HWX.out]
            clear HWX
            obtain ⟨Sg571_0, HSg571_0⟩ : ∃ S : World → Prop, Hid (S = (fun w' => w'.cell? ⟨gu, 0, none⟩ = some (.int .i64 own) ∧ w'.cell? ⟨gu, 1, none⟩ = some (.int .i64 nx) ∧ w'.cell? ⟨gu, 2, none⟩ = some (.slice uo un uc) ∧ w'.cell? ⟨gu, 3, none⟩ = some (.slice lo ln lc) ∧ w'.cell? ⟨X1.heap.size, 0, none⟩ = some (.int .i64 own) ∧ w'.cell? ⟨X1.heap.size, 1, none⟩ = some (.int .i64 nx) ∧ w'.cell? ⟨X1.heap.size, 2, none⟩ = some (.slice uo2 un uc2) ∧ w'.cell? ⟨X1.heap.size, 3, none⟩ = some (.slice lo2 ln lc2))) := ⟨_, Lib.hid rfl⟩
            refine wp_heldp [] (pickS [Sg571_0]) (by kernel_rfl) ?_ (fun hHeld => ?_)
            · show Sg571_0 _; rw [HSg571_0.out]; exact ⟨z0, z1, z2, z3, x0, x1, x2, x3⟩
            obtain ⟨wc, hwc⟩ : ∃ x, X2.drew = x := ⟨_, rfl⟩; rw [hwc] at hHeld; rw [hwc]; have HF : Hid (Fr no X2 wc) := (by rw [← hwc]; exact Lib.hid ((Fr.refl no X2).drewN 1)); clear hwc
            refine heldp_take (v := ?_) 0 0 rfl (by kernel_rfl) (.inl ⟨by rfl, ?_⟩) hHeld ?_
            rotate_left
            · intro w hSw; replace hSw : Sg571_0 w := hSw; rw [HSg571_0.out] at hSw; (try dsimp only at hSw); first | (go_simp; done) | (go_simp; with_reducible rfl)
            try simp only [Act.put, List.setIfInBounds_toArray, List.set_cons_zero, List.set_cons_succ]
            refine heldp_take (v := ?_) 1 0 rfl (by kernel_rfl) (.inl ⟨by rfl, ?_⟩) hHeld ?_
            rotate_left
            · intro w hSw; replace hSw : Sg571_0 w := hSw; rw [HSg571_0.out] at hSw; (try dsimp only at hSw); first | (go_simp; done) | (go_simp; with_reducible rfl)
            try simp only [Act.put, List.setIfInBounds_toArray, List.set_cons_zero, List.set_cons_succ]
            refine heldp_take (v := ?_) 2 0 rfl (by kernel_rfl) (.inl ⟨by rfl, ?_⟩) hHeld ?_
            rotate_left
            · intro w hSw; replace hSw : Sg571_0 w := hSw; rw [HSg571_0.out] at hSw; (try dsimp only at hSw); first | (go_simp; done) | (go_simp; with_reducible rfl)
            try simp only [Act.put, List.setIfInBounds_toArray, List.set_cons_zero, List.set_cons_succ]
            refine heldp_take (v := ?_) 3 0 rfl (by kernel_rfl) (.inl ⟨by rfl, ?_⟩) hHeld ?_
            rotate_left
            · intro w hSw; replace hSw : Sg571_0 w := hSw; rw [HSg571_0.out] at hSw; (try dsimp only at hSw); first | (go_simp; done) | (go_simp; with_reducible rfl)
            try simp only [Act.put, List.setIfInBounds_toArray, List.set_cons_zero, List.set_cons_succ]
            refine heldp_take (v := ?_) 4 0 rfl (by kernel_rfl) (.inl ⟨by rfl, ?_⟩) hHeld ?_
            rotate_left
            · intro w hSw; replace hSw : Sg571_0 w := hSw; rw [HSg571_0.out] at hSw; (try dsimp only at hSw); first | (go_simp; done) | (go_simp; with_reducible rfl)
            try simp only [Act.put, List.setIfInBounds_toArray, List.set_cons_zero, List.set_cons_succ]
            refine heldp_take (v := ?_) 6 0 rfl (by kernel_rfl) (.inl ⟨by rfl, ?_⟩) hHeld ?_
            rotate_left
            · intro w hSw; replace hSw : Sg571_0 w := hSw; rw [HSg571_0.out] at hSw; (try dsimp only at hSw); first | (go_simp; done) | (go_simp; with_reducible rfl)
            try simp only [Act.put, List.setIfInBounds_toArray, List.set_cons_zero, List.set_cons_succ]
            refine heldp_call 5 0 rfl (by kernel_rfl) (fun K hK => ?_)
            go_simp
            go_at_call 12
            refine (Hofw.out _ HF.out).mono ?_
            rintro e wc ⟨ao, cap, rfl, hla1, hfd⟩
            have HL1 := Lib.hid hla1
            replace HF := Lib.hid (HF.out.trans' hfd)
            clear hfd hla1
            refine hK.out _ _ ?_ (fun hHeld' => ?_)
            · show Sg571_0 _; rw [HSg571_0.out]; have hq := HF.out; exact ⟨hq.cell z0 (fun f => f), hq.cell z1 (fun f => f), hq.cell z2 (fun f => f), hq.cell z3 (fun f => f), hq.cell x0 (fun f => f), hq.cell x1 (fun f => f), hq.cell x2 (fun f => f), hq.cell x3 (fun f => f)⟩
            clear hK K hHeld
            have hHeld := hHeld'
            clear hHeld'
            try simp only [Act.put, List.setIfInBounds_toArray, List.set_cons_zero, List.set_cons_succ]
            refine heldp_call 7 0 rfl (by kernel_rfl) (fun K hK => ?_)
            go_simp
            go_at_call 12
            refine (Hofu.out _ (hF.out.trans' (HFX.out.trans' HF.out))).mono ?_
            rintro e wc ⟨ao2, cap2, rfl, hla2, hfd⟩
            have HL2 := Lib.hid hla2
            replace HL1 := Lib.hid (HL1.out.fr hfd (fun _ _ _ f => f))
            replace HF := Lib.hid (HF.out.trans' hfd)
            clear hfd hla2
            refine hK.out _ _ ?_ (fun hHeld' => ?_)
            · show Sg571_0 _; rw [HSg571_0.out]; have hq := HF.out; exact ⟨hq.cell z0 (fun f => f), hq.cell z1 (fun f => f), hq.cell z2 (fun f => f), hq.cell z3 (fun f => f), hq.cell x0 (fun f => f), hq.cell x1 (fun f => f), hq.cell x2 (fun f => f), hq.cell x3 (fun f => f)⟩
            clear hK K hHeld
            have hHeld := hHeld'
            clear hHeld'
            try simp only [Act.put, List.setIfInBounds_toArray, List.set_cons_zero, List.set_cons_succ]
            refine heldp_call 8 0 rfl (by kernel_rfl) (fun K hK => ?_)
            go_simp
            have hsame := lSame own nx (.slice uo2 un uc2) (.slice uo un uc) (.slice ao ln cap) (.slice ao2 ln cap2) us la wc (by show Rd wc 1 _ us.length _; rw [Hun.out]; exact HK1.out.fr HF.out (fun _ _ _ f => f)) (by show Rd wc 1 _ us.length _; rw [Hun.out]; exact HseW.out.fr (hF.out.trans' (HFX.out.trans' HF.out)) (fun _ _ _ f => f)) (by show Rd wc 6 _ la.length _; rw [Hln.out]; exact HL1.out) (by show Rd wc 6 _ la.length _; rw [Hln.out]; exact HL2.out) (fun d hm => Rd.fr (Hdl.out d hm).1 (HV.out.trans' (HFX.out.trans' HF.out)) (fun _ _ _ f => f))
            go_at_call 20
            refine hsame.mono ?_
            rintro e wc ⟨rfl, hfd⟩
            replace HF := Lib.hid (HF.out.trans' hfd)
            clear hfd hsame
            refine hK.out _ _ ?_ (fun hHeld' => ?_)
            · show Sg571_0 _; rw [HSg571_0.out]; have hq := HF.out; exact ⟨hq.cell z0 (fun f => f), hq.cell z1 (fun f => f), hq.cell z2 (fun f => f), hq.cell z3 (fun f => f), hq.cell x0 (fun f => f), hq.cell x1 (fun f => f), hq.cell x2 (fun f => f), hq.cell x3 (fun f => f)⟩
            clear hK K hHeld
            have hHeld := hHeld'
            clear hHeld'
            try simp only [Act.put, List.setIfInBounds_toArray, List.set_cons_zero, List.set_cons_succ]
            refine heldp_take (v := ?_) 9 0 rfl (by kernel_rfl) (.inl ⟨by rfl, ?_⟩) hHeld ?_
            rotate_left
            · intro w hSw; replace hSw : Sg571_0 w := hSw; rw [HSg571_0.out] at hSw; (try dsimp only at hSw); first | (go_simp; done) | (go_simp; with_reducible rfl)
            try simp only [Act.put, List.setIfInBounds_toArray, List.set_cons_zero, List.set_cons_succ]
            refine heldp_take (v := ?_) 10 0 rfl (by kernel_rfl) (.inl ⟨by rfl, ?_⟩) hHeld ?_
            rotate_left
            · intro w hSw; replace hSw : Sg571_0 w := hSw; rw [HSg571_0.out] at hSw; (try dsimp only at hSw); first | (go_simp; done) | (go_simp; with_reducible rfl)
            try simp only [Act.put, List.setIfInBounds_toArray, List.set_cons_zero, List.set_cons_succ]
            refine heldp_done (by kernel_rfl) ?_
            try clear hHeld
            clear HSg571_0
            try clear Sg571_0
            clear z0 z1 z2 z3 x0 x1 x2 x3
            go_wp2
            go_ret
            exact ⟨rfl, (HF2.out.trans' HV.out).trans' (HFX.out.trans' HF.out)⟩
end Go.Proofs.Ytdddgfienicaaaa
