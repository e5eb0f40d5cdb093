/- Package ring: Begin. -/
import Derived.Test.YtlohbikkhojlaaaRg8
namespace Go.XL
open Go.RowKit Go.Shelf
set_option linter.unusedVariables false
set_option linter.unusedSimpArgs false
def rbegin (r : Rg) (next : Int) (seen : List Int) (late : List Dr) : Rg := ⟨r.room, List.replicate r.qs.length [], 0, r.own, next, vboth max seen [], late⟩
theorem RgAt.begin {RT QT DT : TypeId} {w w9 : World} {p g n : Nat} {r : Rg} {qv sv lv sv' lv' : Value} {vs : List Value} {next : Int} {seen : List Int} {late : List Dr} (h : RgAt RT QT DT w p r qv sv lv vs) (hn : r.qs.length = n) (hg : w.heap.size ≤ g)
    (sl : Sl w9 QT 1 (.slice (some ⟨g, 0, none⟩) n n) n (List.replicate n (.slice none 0 0))) (f : Fr (fun i => i = p) w w9)
    (hb9 : w9.heap[p]? = some (.cells #[.int .i64 r.room, .slice (some ⟨g, 0, none⟩) n n, .int .i64 ((0 : Nat) : Int), .int .i64 r.own, .int .i64 next, sv', lv'] RT (0, 0)))
    (hs : RdX (fun k => k = p ∨ k = g) w9 1 sv' (vboth max seen []).length ((vboth max seen []).map (Value.int .i64))) (hl : RdX (fun k => k = p ∨ k = g) w9 6 lv' late.length (drCells late))
    (hd : ∀ d ∈ late, RdX (RgOwn p qv vs) w 1 d.dv d.dep.length (d.dep.map (Value.int .i64))) :
    RgAt RT QT DT w9 p (rbegin r next seen late) (.slice (some ⟨g, 0, none⟩) n n) sv' lv' (List.replicate n (.slice none 0 0)) ∧ Fr (RgOwn p qv vs) w w9 ∧
      (∀ k, RgOwn p (.slice (some ⟨g, 0, none⟩) n n) (List.replicate n (.slice none 0 0)) k → RgOwn p qv vs k ∨ w.heap.size ≤ k) := by
  have hp := h.lt p (.inl rfl)
  have hown : ∀ k, RgOwn p (.slice (some ⟨g, 0, none⟩) n n) (List.replicate n (.slice none 0 0)) k → k = p ∨ k = g := by
    rintro k (e | e | ⟨u, hu, e⟩)
    · exact .inl e
    · simp [Value.ownBlock] at e; exact .inr e.symm
    · have := List.eq_of_mem_replicate hu; subst this; simp [Value.ownBlock] at e
  have hfr : Fr (RgOwn p qv vs) w w9 := f.mono (fun k _ e => .inl e)
  have hnil : ∀ (i : Nat) (v : Value), (List.replicate n (Value.slice none 0 0))[i]? = some v → v = .slice none 0 0 := fun i v hv => List.eq_of_mem_replicate (List.mem_of_getElem? hv)
  refine ⟨⟨hb9, ?_, ?_, ?_, ?_, ?_, hs.anti hown, hl.anti hown, ?_⟩, hfr, fun k hk => (hown k hk).elim (fun e => .inl (.inl e)) (fun e => .inr (by omega))⟩
  · show Sl w9 QT 1 _ (List.replicate r.qs.length []).length _
    rw [List.length_replicate, hn]
    exact sl
  · intro i v l hv hl
    have e1 := hnil i v hv
    have e2 : l = [] := List.eq_of_mem_replicate (List.mem_of_getElem? hl)
    subst e1; subst e2
    simpa [drCells] using Sl.nil _ _ _
  · simp [Value.ownBlock]; omega
  · intro i v hv
    have e1 := hnil i v hv
    subst e1
    simp [Value.ownBlock]
  · intro i j v u _ hv
    have e1 := hnil i v hv
    subst e1
    simp [Value.ownBlock]
  · rintro d (hx | ⟨l, hl, hx⟩)
    · refine RdX.anti (X := fun k => RgOwn p qv vs k ∨ w.heap.size ≤ k) ?_ (fun k hk => (hown k hk).elim (fun e => .inl (.inl e)) (fun e => .inr (by omega)))
      exact ((hd d hx).new (by decide)).fr hfr (fun k _ e => .inl e)
    · have e2 : l = [] := List.eq_of_mem_replicate hl
      subst e2
      cases hx
end Go.XL
namespace Go.Proofs.Ytlohbikkhojlaaa
open Go.RowKit Go.Shelf Go.XL
set_option linter.unusedVariables false
set_option linter.unusedSimpArgs false
attribute [local go_sem] Oper.semAt_some
set_option maxRecDepth 10000 in
set_option maxHeartbeats 4000000 in
theorem ring_begin (p : Nat) (r : Rg) (qv sv lv : Value) (vs : List Value) (own next : Int) (tsv tlv : Value) (seen : List Int) (late : List Dr) (w : World) (h : RgT w p r qv sv lv vs) (hs : IntsAt w tsv seen) (hl : DrsAt w tlv late)
    (hd : ∀ d ∈ late, RdX (RgOwn p qv vs) w 1 d.dv d.dep.length (d.dep.map (Value.int .i64))) (hsn : seen.length ≤ 1000) (hln : late.length ≤ 1000) (hq1 : 1 ≤ r.qs.length) (hq8 : r.qs.length ≤ 8) :
    Calls Try.prog 15 #[.pointer (some ⟨p, 0, none⟩), .agg #[.int .i64 own, .int .i64 next, tsv, tlv]] w fun e w' => ∃ qv' sv' lv' vs', e = .returned (.int .i64 (if tcheck own next seen = 0 then (if own = r.own then 0 else 1) else tcheck own next seen)) ∧
      RgT w' p (if tcheck own next seen = 0 ∧ own = r.own then rbegin r next seen late else r) qv' sv' lv' vs' ∧ Fr (RgOwn p qv vs) w w' ∧ (∀ g, RgOwn p qv' vs' g → RgOwn p qv vs g ∨ w.heap.size ≤ g) := by
  obtain ⟨qo, cq, rfl, hqc, hqm⟩ := h.qsl.cap
  obtain ⟨so, sc, rfl, hsc, hsm⟩ := hs.cap
  obtain ⟨lo, lc, rfl, hlc, hlm⟩ := hl.cap
  obtain ⟨n, hn⟩ : ∃ n, r.qs.length = n := ⟨_, rfl⟩
  have hchk := fun W (hW : Fr no w W) => tCheck own next (.slice so seen.length sc) (.slice lo late.length lc) seen W (hs.fr hW (fun _ _ _ f => f))
  have hjn := fun W (hW : Fr no w W) => vec_join (.slice so seen.length sc) (.slice none 0 0) seen [] W (hs.fr hW (fun _ _ _ f => f)) (Sl.nil W 0 1).rd (by omega) (by decide)
  have hdc := fun W (hW : Fr no w W) => clone_drafts (.slice lo late.length lc) late.length (drCells late) W (hl.fr hW (fun _ _ _ f => f)) (drCells_one (fun d hx => (hd d hx).rd)) (by omega)
  obtain ⟨kc, hkc⟩ : ∃ c, tcheck own next seen = c := ⟨_, rfl⟩
  unfold tkV at hchk
  rw [hkc] at hchk ⊢
  obtain ⟨sn, hsn'⟩ : ∃ n, seen.length = n := ⟨_, rfl⟩
  obtain ⟨ln, hln'⟩ : ∃ n, late.length = n := ⟨_, rfl⟩
  rw [hsn'] at hchk hjn ⊢
  rw [hln'] at hchk hdc ⊢
  rw [hn] at h hd hqc hq1 hq8 ⊢
  have Hn := Lib.hid hn
  have Hln := Lib.hid hln'
  have Hchk := Lib.hid hchk
  have Hjn := Lib.hid hjn
  have Hdc := Lib.hid hdc
  have HD := Lib.hid hd
  have HR := Lib.hid h
  clear hchk hjn hdc hd h hs hl hkc hsn hln hsn' hln' hsc hlc hn
  obtain ⟨w1, hw1⟩ : ∃ U, w.alloc (.cells #[.int .i64 own, .int .i64 next, .slice so sn sc, .slice lo ln lc] 43) = U := ⟨_, rfl⟩
  obtain ⟨gt, hgt⟩ : ∃ g, w.heap.size = g := ⟨_, rfl⟩
  have hb1 : w1.heap[gt]? = some (.cells #[.int .i64 own, .int .i64 next, .slice so sn sc, .slice lo ln lc] 43 (0, 0)) := by rw [← hw1, ← hgt]; exact World.alloc_heap_new _ _
  have hf1 : Fr no w w1 := by rw [← hw1]; exact (Fr.refl no w).alloc _
  have F := Lib.hid hf1
  have T := Lib.hid hb1
  have HW1 := Lib.hid hw1
  have HGT := Lib.hid hgt
  have t0 : w1.cell? ⟨gt, 0, none⟩ = some (.int .i64 own) := cell_of_block hb1 rfl
  have t1 : w1.cell? ⟨gt, 1, none⟩ = some (.int .i64 next) := cell_of_block hb1 rfl
  have t2 : w1.cell? ⟨gt, 2, none⟩ = some (.slice so sn sc) := cell_of_block hb1 rfl
  have t3 : w1.cell? ⟨gt, 3, none⟩ = some (.slice lo ln lc) := cell_of_block hb1 rfl
  clear hb1 hf1 hw1
  go_enter Try.func15, Try.ntmps15
  go_upto_region 1 with (fail)
  rw [HW1.out]
  try rw [hgt]
  clear HW1 hgt
  go_wp2_with fail
  refine (Hchk.out w1 F.out).mono ?_
  rintro e w2 ⟨rfl, hf2⟩
  replace F := Lib.hid (F.out.trans' hf2)
  replace T := Lib.hid (hf2.heap T.out (fun f => f))
  clear hf2 t0 t1 t2 t3 Hchk
  have hR2 := HR.out.fr0 F.out
  have t0 : w2.cell? ⟨gt, 0, none⟩ = some (.int .i64 own) := cell_of_block T.out rfl
  have c3 : w2.cell? ⟨p, 3, none⟩ = some (.int .i64 r.own) := cell_of_block hR2.cell rfl
  clear hR2
  by_cases hk : kc = 0
  · subst hk
    go_wp2_with fail
    go_quiet (fail)
    obtain ⟨w3, hw3⟩ : ∃ U, w2.drewN nq = U := ⟨_, rfl⟩
    have hf3 : Fr no w2 w3 := by rw [← hw3]; exact (Fr.refl no w2).drewN nq
    rw [hw3]
    replace F := Lib.hid (F.out.trans' hf3)
    replace T := Lib.hid (hf3.heap T.out (fun f => f))
    clear hf3 hw3 t0 c3
    by_cases ho : own = r.own
    · subst ho
      have hob : (r.own != r.own) = false := by simp
      have t2 : w3.cell? ⟨gt, 2, none⟩ = some (.slice so sn sc) := cell_of_block T.out rfl
      have t3 : w3.cell? ⟨gt, 3, none⟩ = some (.slice lo ln lc) := cell_of_block T.out rfl
      go_upto_region 6 with (fail)
      obtain ⟨Sg125_0, HSg125_0⟩ : ∃ S : World → Prop, Hid (S = (fun w' => w'.cell? ⟨gt, 2, none⟩ = some (.slice so sn sc) ∧ w'.cell? ⟨gt, 3, none⟩ = some (.slice lo ln lc))) := ⟨_, Lib.hid rfl⟩
      obtain ⟨Sg125_1, HSg125_1⟩ : ∃ S : World → Prop, Hid (S = (fun _ => True)) := ⟨_, Lib.hid rfl⟩
      obtain ⟨Sg125_2, HSg125_2⟩ : ∃ S : World → Prop, Hid (S = (fun _ => True)) := ⟨_, Lib.hid rfl⟩
      refine wp_heldp [7, 9] (pickS [Sg125_0, Sg125_1, Sg125_2]) (by kernel_rfl) ?_ (fun hHeld => ?_)
      · show Sg125_0 _; rw [HSg125_0.out]; exact ⟨t2, t3⟩
      obtain ⟨wc, hwc⟩ : ∃ x, w3.drew = x := ⟨_, rfl⟩; rw [hwc] at hHeld; rw [hwc]; have HF : Hid (Fr no w3 wc) := (by rw [← hwc]; exact Lib.hid ((Fr.refl no w3).drewN 1)); clear hwc
      refine heldp_take (v := ?_) 0 0 rfl (by kernel_rfl) (.inl ⟨by rfl, ?_⟩) hHeld ?_
      rotate_left
      · intro w hSw; replace hSw : Sg125_0 w := hSw; rw [HSg125_0.out] at hSw; (try dsimp only at hSw); first | (go_simp; done) | (go_simp; with_reducible rfl)
      try simp only [Act.put, List.setIfInBounds_toArray, List.set_cons_zero, List.set_cons_succ]
      refine heldp_take (v := ?_) 1 0 rfl (by kernel_rfl) (.inl ⟨by rfl, ?_⟩) hHeld ?_
      rotate_left
      · intro w hSw; replace hSw : Sg125_0 w := hSw; rw [HSg125_0.out] at hSw; (try dsimp only at hSw); first | (go_simp; done) | (go_simp; with_reducible rfl)
      try simp only [Act.put, List.setIfInBounds_toArray, List.set_cons_zero, List.set_cons_succ]
      refine heldp_take (v := ?_) 3 0 rfl (by kernel_rfl) (.inl ⟨by rfl, ?_⟩) hHeld ?_
      rotate_left
      · intro w hSw; replace hSw : Sg125_0 w := hSw; rw [HSg125_0.out] at hSw; (try dsimp only at hSw); first | (go_simp; done) | (go_simp; with_reducible rfl)
      try simp only [Act.put, List.setIfInBounds_toArray, List.set_cons_zero, List.set_cons_succ]
      refine heldp_take (v := ?_) 4 0 rfl (by kernel_rfl) (.inl ⟨by rfl, ?_⟩) hHeld ?_
      rotate_left
      · intro w hSw; replace hSw : Sg125_0 w := hSw; rw [HSg125_0.out] at hSw; (try dsimp only at hSw); first | (go_simp; done) | (go_simp; with_reducible rfl)
      try simp only [Act.put, List.setIfInBounds_toArray, List.set_cons_zero, List.set_cons_succ]
      refine heldp_call 2 0 rfl (by kernel_rfl) (fun K hK => ?_)
      go_simp
      go_at_call 35
      refine (Hjn.out wc (F.out.trans' HF.out)).mono ?_
      rintro e wc ⟨v', rfl, hM⟩
      obtain ⟨uo, uc, rfl, _, _⟩ := hM.cap
      obtain ⟨un, hun⟩ : ∃ x, (vboth max seen []).length = x := ⟨_, rfl⟩
      rw [hun] at hM ⊢
      have HS := Lib.hid hM
      have HUN := Lib.hid hun
      have HFS := HF
      replace HF := Lib.hid (HF.out.trans' hM.fr)
      clear hM hun
      refine hK.out _ _ ?_ (fun hHeld' => ?_)
      · show Sg125_0 _; rw [HSg125_0.out]; exact ⟨HF.out.cell t2 (fun f => f), HF.out.cell t3 (fun f => f)⟩
      clear hK K hHeld
      have hHeld := hHeld'
      clear hHeld'
      try simp only [Act.put, List.setIfInBounds_toArray, List.set_cons_zero, List.set_cons_succ]
      refine heldp_take (v := ?_) 6 0 rfl (by kernel_rfl) (.inl ⟨by rfl, ?_⟩) hHeld ?_
      rotate_left
      · intro w hSw; replace hSw : Sg125_0 w := hSw; rw [HSg125_0.out] at hSw; (try dsimp only at hSw); first | (go_simp; done) | (go_simp; with_reducible rfl)
      try simp only [Act.put, List.setIfInBounds_toArray, List.set_cons_zero, List.set_cons_succ]
      refine heldp_call 5 0 rfl (by kernel_rfl) (fun K hK => ?_)
      go_simp
      go_at_call 33
      refine (Hdc.out wc (F.out.trans' HF.out)).mono ?_
      rintro e wd ⟨lo', lc', rfl, hM⟩
      have HSR := Lib.hid (HS.out.rd.fr hM.fr (fun _ _ _ f => f))
      have HL := Lib.hid hM
      have HFL := HF
      replace HF := Lib.hid (HF.out.trans' hM.fr)
      clear hM
      refine hK.out _ _ ?_ (fun hHeld' => ?_)
      · show Sg125_0 _; rw [HSg125_0.out]; exact ⟨HF.out.cell t2 (fun f => f), HF.out.cell t3 (fun f => f)⟩
      clear hK K hHeld
      have hHeld := hHeld'
      clear hHeld'
      try simp only [Act.put, List.setIfInBounds_toArray, List.set_cons_zero, List.set_cons_succ]
      refine heldp_call 7 1 rfl (by kernel_rfl) (fun K hK => ?_)
      rw [if_pos (by rfl)]
      have hB := HF.out.heap T.out (fun f => f)
      have k2 : wd.cell? ⟨gt, 2, none⟩ = some (.slice so sn sc) := cell_of_block hB rfl
      have z2 : wd.frozen? ⟨gt, 2, none⟩ = false := frozen_of_block hB
      obtain ⟨we, hwe⟩ : ∃ we, wd.setCell ⟨gt, 2, none⟩ (.slice uo un uc) = we := ⟨_, rfl⟩
      have E2 := Lib.hid (show we.heap[gt]? = some (.cells #[.int .i64 r.own, .int .i64 next, .slice uo un uc, .slice lo ln lc] 43 (0, 0)) from by rw [← hwe]; simpa using heap_setC (j := 2) (.slice uo un uc) hB)
      have FE := Lib.hid (show Fr (fun i => i = gt) wd we from by rw [← hwe]; exact fr_set wd gt 2 _)
      clear hB
      go_simp
      refine hK.out _ _ ?_ (fun hHeld' => ?_)
      · show Sg125_1 _; rw [HSg125_1.out]; trivial
      clear hK K hHeld
      have hHeld := hHeld'
      clear hHeld'
      try simp only [Act.put, List.setIfInBounds_toArray, List.set_cons_zero, List.set_cons_succ]
      refine heldp_take (v := ?_) 8 1 rfl (by kernel_rfl) (.inl ⟨by rfl, ?_⟩) hHeld ?_
      rotate_left
      · intro w hSw; replace hSw : Sg125_1 w := hSw; rw [HSg125_1.out] at hSw; (try dsimp only at hSw); first | (go_simp; done) | (go_simp; with_reducible rfl)
      try simp only [Act.put, List.setIfInBounds_toArray, List.set_cons_zero, List.set_cons_succ]
      refine heldp_call 9 2 rfl (by kernel_rfl) (fun K hK => ?_)
      rw [if_pos (by rfl)]
      clear k2 z2 hwe
      have k3 : we.cell? ⟨gt, 3, none⟩ = some (.slice lo ln lc) := cell_of_block E2.out rfl
      have z3 : we.frozen? ⟨gt, 3, none⟩ = false := frozen_of_block E2.out
      obtain ⟨W6, hwf⟩ : ∃ wf, we.setCell ⟨gt, 3, none⟩ (.slice lo' ln lc') = wf := ⟨_, rfl⟩
      have E3 := Lib.hid (show W6.heap[gt]? = some (.cells #[.int .i64 r.own, .int .i64 next, .slice uo un uc, .slice lo' ln lc'] 43 (0, 0)) from by rw [← hwf]; simpa using heap_setC (j := 3) (.slice lo' ln lc') E2.out)
      have FF := Lib.hid (show Fr (fun i => i = gt) wd W6 from FE.out.trans' (by rw [← hwf]; exact fr_set we gt 3 _))
      go_simp
      refine hK.out _ _ ?_ (fun hHeld' => ?_)
      · show Sg125_2 _; rw [HSg125_2.out]; trivial
      clear hK K hHeld
      have hHeld := hHeld'
      clear hHeld'
      try simp only [Act.put, List.setIfInBounds_toArray, List.set_cons_zero, List.set_cons_succ]
      refine heldp_done (by kernel_rfl) ?_
      try clear hHeld
      clear HSg125_0
      try clear Sg125_0
      clear HSg125_1
      try clear Sg125_1
      clear HSg125_2
      try clear Sg125_2
      clear k3 z3 hwf t2 t3
      have hgt := HGT.out
      have hlt2 := (Array.getElem?_eq_some_iff.1 T.out).1
      have hs2 := HFS.out.size
      have hl2 := HFL.out.size
      have hw3 := F.out.size
      have HSf := Lib.hid (HSR.out.fr FF.out (fun g hg _ e => by have := HS.out.fresh g hg; omega))
      have HLf := Lib.hid (HL.out.rd.fr FF.out (fun g hg _ e => by have := HL.out.fresh g hg; omega))
      have F6 := Lib.hid ((F.out.trans' HF.out).trans FF.out (fun i hi e => by omega))
      have hSo : ∀ g, (Value.slice uo un uc).ownBlock = some g → w.heap.size ≤ g := fun g hg => by have := HS.out.fresh g hg; omega
      have hLo : ∀ g, (Value.slice lo' ln lc').ownBlock = some g → w.heap.size ≤ g := fun g hg => by have := HL.out.fresh g hg; omega
      have hpw := HR.out.lt p (.inl rfl)
      have hsf := HSf.out
      rw [HUN.out] at hsf
      have HXS : Hid (RdX (fun k => k = p ∨ W6.heap.size ≤ k) W6 1 (.slice uo un uc) un ((vboth max seen []).map (Value.int .i64))) := Lib.hid ⟨hsf, fun h0 g hg e => e.elim (fun e => by have := hSo g hg; omega) (fun e => (hsf.x (X := fun k => W6.heap.size ≤ k) (by decide) (fun k hk => hk)).2 h0 g hg e)⟩
      have HXL : Hid (RdX (fun k => k = p ∨ W6.heap.size ≤ k) W6 6 (.slice lo' ln lc') ln (drCells late)) := Lib.hid ⟨HLf.out, fun h0 g hg e => e.elim (fun e => by have := hLo g hg; omega) (fun e => (HLf.out.x (X := fun k => W6.heap.size ≤ k) (by decide) (fun k hk => hk)).2 h0 g hg e)⟩
      have HR6 := Lib.hid (HR.out.fr0 F6.out)
      have HPW : Hid (p < W6.heap.size) := Lib.hid (Nat.lt_of_lt_of_le hpw F6.out.size)
      have f0 : W6.cell? ⟨gt, 0, none⟩ = some (.int .i64 r.own) := cell_of_block E3.out rfl
      have f1 : W6.cell? ⟨gt, 1, none⟩ = some (.int .i64 next) := cell_of_block E3.out rfl
      have f2 : W6.cell? ⟨gt, 2, none⟩ = some (.slice uo un uc) := cell_of_block E3.out rfl
      have f3 : W6.cell? ⟨gt, 3, none⟩ = some (.slice lo' ln lc') := cell_of_block E3.out rfl
      have c1 : W6.cell? ⟨p, 1, none⟩ = some (.slice qo n cq) := cell_of_block HR6.out.cell rfl
      obtain ⟨i0, hi, hz0, hz1, hz2⟩ := info_parts (show (Try.prog.info? 41).map (fun i => (i.zero, i.size, i.bytes)) = some (some (.slice none 0 0), 1, 24) by kernel_rfl)
      clear hsf hlt2 hs2 hl2 hw3 hSo hLo hpw HS HL HSR HSf HLf HFS HFL HF FE FF E2 E3 T hgt Hjn Hdc
      go_upto_region 7 with (fail)
      obtain ⟨Sg255_0, HSg255_0⟩ : ∃ S : World → Prop, Hid (S = (fun w' => w'.cell? ⟨gt, 0, none⟩ = some (.int .i64 r.own) ∧ w'.cell? ⟨gt, 1, none⟩ = some (.int .i64 next) ∧ w'.cell? ⟨gt, 2, none⟩ = some (.slice uo un uc) ∧ w'.cell? ⟨gt, 3, none⟩ = some (.slice lo' ln lc') ∧ w'.cell? ⟨p, 1, none⟩ = some (.slice qo n cq))) := ⟨_, Lib.hid rfl⟩
      obtain ⟨Sg255_1, HSg255_1⟩ : ∃ S : World → Prop, Hid (S = (fun _ => True)) := ⟨_, Lib.hid rfl⟩
      obtain ⟨Sg255_2, HSg255_2⟩ : ∃ S : World → Prop, Hid (S = (fun _ => True)) := ⟨_, Lib.hid rfl⟩
      obtain ⟨Sg255_3, HSg255_3⟩ : ∃ S : World → Prop, Hid (S = (fun _ => True)) := ⟨_, Lib.hid rfl⟩
      refine wp_heldp [12, 15, 18] (pickS [Sg255_0, Sg255_1, Sg255_2, Sg255_3]) (by kernel_rfl) ?_ (fun hHeld => ?_)
      · show Sg255_0 _; rw [HSg255_0.out]; exact ⟨f0, f1, f2, f3, c1⟩
      obtain ⟨wc, hwc⟩ : ∃ x, W6.drew = x := ⟨_, rfl⟩; rw [hwc] at hHeld; rw [hwc]; have hf0 : Fr no W6 wc := (by rw [← hwc]; exact (Fr.refl no W6).drewN 1); have FT : Hid (Fr (fun i => i = p) W6 wc) := Lib.hid (hf0.mono (fun _ _ f => f.elim)); have HP := Lib.hid (hf0.heap HR6.out.cell (fun f => f)); have FN := Lib.hid hf0; clear hwc hf0
      refine heldp_take (v := ?_) 0 0 rfl (by kernel_rfl) (.inl ⟨by rfl, ?_⟩) hHeld ?_
      rotate_left
      · intro w hSw; replace hSw : Sg255_0 w := hSw; rw [HSg255_0.out] at hSw; (try dsimp only at hSw); first | (go_simp; done) | (go_simp; with_reducible rfl)
      try simp only [Act.put, List.setIfInBounds_toArray, List.set_cons_zero, List.set_cons_succ]
      refine heldp_free (v := ?_) 1 0 rfl (by kernel_rfl) (.inl ⟨by rfl, ?_⟩) hHeld ?_
      rotate_left
      · intro w hSw; clear hSw; first | (go_simp; done) | (go_simp; with_reducible rfl)
      try simp only [Act.put, List.setIfInBounds_toArray, List.set_cons_zero, List.set_cons_succ]
      refine heldp_free (v := ?_) 2 0 rfl (by kernel_rfl) (.inl ⟨by rfl, ?_⟩) hHeld ?_
      rotate_left
      · intro w hSw; clear hSw; first | (go_simp; done) | (go_simp; with_reducible rfl)
      try simp only [Act.put, List.setIfInBounds_toArray, List.set_cons_zero, List.set_cons_succ]
      refine heldp_take (v := ?_) 3 0 rfl (by kernel_rfl) (.inl ⟨by rfl, ?_⟩) hHeld ?_
      rotate_left
      · intro w hSw; replace hSw : Sg255_0 w := hSw; rw [HSg255_0.out] at hSw; (try dsimp only at hSw); first | (go_simp; done) | (go_simp; with_reducible rfl)
      try simp only [Act.put, List.setIfInBounds_toArray, List.set_cons_zero, List.set_cons_succ]
      refine heldp_free (v := ?_) 4 0 rfl (by kernel_rfl) (.inl ⟨by rfl, ?_⟩) hHeld ?_
      rotate_left
      · intro w hSw; clear hSw; first | (go_simp; done) | (go_simp; with_reducible rfl)
      try simp only [Act.put, List.setIfInBounds_toArray, List.set_cons_zero, List.set_cons_succ]
      refine heldp_free (v := ?_) 5 0 rfl (by kernel_rfl) (.inl ⟨by rfl, ?_⟩) hHeld ?_
      rotate_left
      · intro w hSw; clear hSw; first | (go_simp; done) | (go_simp; with_reducible rfl)
      try simp only [Act.put, List.setIfInBounds_toArray, List.set_cons_zero, List.set_cons_succ]
      refine heldp_free (v := ?_) 6 0 rfl (by kernel_rfl) (.inl ⟨by rfl, ?_⟩) hHeld ?_
      rotate_left
      · intro w hSw; clear hSw; first | (go_simp; done) | (go_simp; with_reducible rfl)
      try simp only [Act.put, List.setIfInBounds_toArray, List.set_cons_zero, List.set_cons_succ]
      refine heldp_take (v := ?_) 7 0 rfl (by kernel_rfl) (.inl ⟨by rfl, ?_⟩) hHeld ?_
      rotate_left
      · intro w hSw; replace hSw : Sg255_0 w := hSw; rw [HSg255_0.out] at hSw; (try dsimp only at hSw); first | (go_simp; done) | (go_simp; with_reducible rfl)
      try simp only [Act.put, List.setIfInBounds_toArray, List.set_cons_zero, List.set_cons_succ]
      refine heldp_free (v := ?_) 8 0 rfl (by kernel_rfl) (.inl ⟨by rfl, ?_⟩) hHeld ?_
      rotate_left
      · intro w hSw; clear hSw; first | (go_simp; done) | (go_simp; with_reducible rfl)
      try simp only [Act.put, List.setIfInBounds_toArray, List.set_cons_zero, List.set_cons_succ]
      refine heldp_free (v := ?_) 10 0 rfl (by kernel_rfl) (.inl ⟨by rfl, ?_⟩) hHeld ?_
      rotate_left
      · intro w hSw; clear hSw; first | (go_simp; done) | (go_simp; with_reducible rfl)
      try simp only [Act.put, List.setIfInBounds_toArray, List.set_cons_zero, List.set_cons_succ]
      refine heldp_take (v := ?_) 11 0 rfl (by kernel_rfl) (.inl ⟨by rfl, ?_⟩) hHeld ?_
      rotate_left
      · intro w hSw; replace hSw : Sg255_0 w := hSw; rw [HSg255_0.out] at hSw; (try dsimp only at hSw); first | (go_simp; done) | (go_simp; with_reducible rfl)
      try simp only [Act.put, List.setIfInBounds_toArray, List.set_cons_zero, List.set_cons_succ]
      refine heldp_two 9 12 (by kernel_rfl) ?_ ?_
      · refine heldp_op 9 0 rfl (by kernel_rfl) (fun K hK => ?_)
        rw [if_pos (by rfl)]
        obtain ⟨wn, hmk, ho9, hg9⟩ := run_makeSlice_full (P := Try.prog) wc wc.heap.size 78 41 i0 _ 1 Try.underlying78 hi hz0 hz1 .i64 .i64 n (by omega) (by rw [hz2]; omega) (by unfold maxLen; omega) (Nat.le_refl _)
        have hs9 := Sl.of_ownsRow ho9
        rw [show (Value.slice none 0 0).cells = #[Value.slice none 0 0] from rfl, Nat.mul_one, toList_madeCells_one] at hs9
        have hf9 : Fr no wc wn := (Fr.refl no wc).grown hg9 (fun _ h => by cases h)
        obtain ⟨gn, hgn⟩ : ∃ x, wc.heap.size = x := ⟨_, rfl⟩
        have HGN : Hid (W6.heap.size ≤ gn) := Lib.hid (by rw [← hgn]; exact FT.out.size)
        rw [hgn] at hs9 hmk
        have SN := Lib.hid hs9
        replace FT := Lib.hid (FT.out.trans hf9 (fun _ _ f => f.elim))
        try replace FN := Lib.hid (FN.out.trans' hf9)
        replace HP := Lib.hid (hf9.heap HP.out (fun f => f))
        clear ho9 hg9 hs9 hf9
        go_simp
        clear hmk hgn
        generalize wn = wc at *
        refine hK.out _ _ ?_ (fun hHeld' => ?_)
        · show Sg255_0 _; rw [HSg255_0.out]; exact ⟨FN.out.cell f0 (fun f => f), FN.out.cell f1 (fun f => f), FN.out.cell f2 (fun f => f), FN.out.cell f3 (fun f => f), FN.out.cell c1 (fun f => f)⟩
        clear hK K hHeld
        have hHeld := hHeld'
        clear hHeld'
        try simp only [Act.put, List.setIfInBounds_toArray, List.set_cons_zero, List.set_cons_succ]
        refine heldp_call 12 1 rfl (by kernel_rfl) (fun K hK => ?_)
        rw [if_pos (by rfl)]
        clear FN
        obtain ⟨x1, x2, x3, wc, q1, q2, q3, q4, k1, k2, k3, k4, z1, z2, z3, z4, hb4, hf4⟩ := set7t HP.out (.int .i64 r.own) (.int .i64 next) (.slice uo un uc) (.slice lo' ln lc')
        replace HP := Lib.hid hb4
        replace FT := Lib.hid (FT.out.trans' hf4)
        try replace SN := Lib.hid (SN.out.fr hf4 (fun k hk e => by simp [Value.ownBlock] at hk; have := HGN.out; have := HPW.out; omega))
        clear hb4 hf4
        go_simp
        clear q1 q2 q3 q4 k1 k2 k3 k4 z1 z2 z3 z4
        refine hK.out _ _ ?_ (fun hHeld' => ?_)
        · show Sg255_1 _; rw [HSg255_1.out]; trivial
        clear hK K hHeld
        have hHeld := hHeld'
        clear hHeld'
        try simp only [Act.put, List.setIfInBounds_toArray, List.set_cons_zero, List.set_cons_succ]
        refine heldp_free (v := ?_) 13 1 rfl (by kernel_rfl) (.inl ⟨by rfl, ?_⟩) hHeld ?_
        rotate_left
        · intro w hSw; clear hSw; first | (go_simp; done) | (go_simp; with_reducible rfl)
        try simp only [Act.put, List.setIfInBounds_toArray, List.set_cons_zero, List.set_cons_succ]
        refine heldp_take (v := ?_) 14 1 rfl (by kernel_rfl) (.inl ⟨by rfl, ?_⟩) hHeld ?_
        rotate_left
        · intro w hSw; replace hSw : Sg255_1 w := hSw; rw [HSg255_1.out] at hSw; (try dsimp only at hSw); first | (go_simp; done) | (go_simp; with_reducible rfl)
        try simp only [Act.put, List.setIfInBounds_toArray, List.set_cons_zero, List.set_cons_succ]
        refine heldp_call 15 2 rfl (by kernel_rfl) (fun K hK => ?_)
        rw [if_pos (by rfl)]
        have cz : wc.cell? ⟨p, 2, none⟩ = some (.int .i64 (r.at_ : Int)) := cell_of_block HP.out rfl
        have fz : wc.frozen? ⟨p, 2, none⟩ = false := frozen_of_block HP.out
        have hb := heap_setC (j := 2) (.int .i64 0) HP.out
        have hf := fr_set wc p 2 (.int .i64 0)
        obtain ⟨wc, hwd⟩ : ∃ x, wc.setCell ⟨p, 2, none⟩ (.int .i64 0) = x := ⟨_, rfl⟩
        rw [hwd] at hb hf
        replace HP := Lib.hid hb
        replace FT := Lib.hid (FT.out.trans' hf)
        try replace SN := Lib.hid (SN.out.fr hf (fun k hk e => by simp [Value.ownBlock] at hk; have := HGN.out; have := HPW.out; omega))
        clear hb hf
        go_simp
        clear cz fz hwd
        refine hK.out _ _ ?_ (fun hHeld' => ?_)
        · show Sg255_2 _; rw [HSg255_2.out]; trivial
        clear hK K hHeld
        have hHeld := hHeld'
        clear hHeld'
        try simp only [Act.put, List.setIfInBounds_toArray, List.set_cons_zero, List.set_cons_succ]
        refine heldp_free (v := ?_) 16 2 rfl (by kernel_rfl) (.inl ⟨by rfl, ?_⟩) hHeld ?_
        rotate_left
        · intro w hSw; clear hSw; first | (go_simp; done) | (go_simp; with_reducible rfl)
        try simp only [Act.put, List.setIfInBounds_toArray, List.set_cons_zero, List.set_cons_succ]
        refine heldp_take (v := ?_) 17 2 rfl (by kernel_rfl) (.inl ⟨by rfl, ?_⟩) hHeld ?_
        rotate_left
        · intro w hSw; replace hSw : Sg255_2 w := hSw; rw [HSg255_2.out] at hSw; (try dsimp only at hSw); first | (go_simp; done) | (go_simp; with_reducible rfl)
        try simp only [Act.put, List.setIfInBounds_toArray, List.set_cons_zero, List.set_cons_succ]
        refine heldp_call 18 3 rfl (by kernel_rfl) (fun K hK => ?_)
        rw [if_pos (by rfl)]
        have cz : wc.cell? ⟨p, 1, none⟩ = some (.slice qo n cq) := cell_of_block HP.out rfl
        have fz : wc.frozen? ⟨p, 1, none⟩ = false := frozen_of_block HP.out
        have hb := heap_setC (j := 1) (.slice (some ⟨gn, 0, none⟩) n n) HP.out
        have hf := fr_set wc p 1 (.slice (some ⟨gn, 0, none⟩) n n)
        obtain ⟨wc, hwd⟩ : ∃ x, wc.setCell ⟨p, 1, none⟩ (.slice (some ⟨gn, 0, none⟩) n n) = x := ⟨_, rfl⟩
        rw [hwd] at hb hf
        replace HP := Lib.hid hb
        replace FT := Lib.hid (FT.out.trans' hf)
        replace SN := Lib.hid (SN.out.fr hf (fun k hk e => by simp [Value.ownBlock] at hk; have := HGN.out; have := HPW.out; omega))
        clear hb hf
        go_simp
        clear cz fz hwd
        refine hK.out _ _ ?_ (fun hHeld' => ?_)
        · show Sg255_3 _; rw [HSg255_3.out]; trivial
        clear hK K hHeld
        have hHeld := hHeld'
        clear hHeld'
        try simp only [Act.put, List.setIfInBounds_toArray, List.set_cons_zero, List.set_cons_succ]
        refine heldp_done (by kernel_rfl) ?_
        try clear hHeld
        clear HSg255_0
        try clear Sg255_0
        clear HSg255_1
        try clear Sg255_1
        clear HSg255_2
        try clear Sg255_2
        clear HSg255_3
        try clear Sg255_3
        have hZ := RgAt.begin (next := next) (seen := seen) (late := late) HR6.out Hn.out HGN.out SN.out FT.out (by simpa using HP.out) (by rw [HUN.out]; exact (HXS.out.fr FT.out (fun _ _ e => .inl e)).anti (fun k hk => hk.imp id (fun e => by have := HGN.out; omega))) (by rw [Hln.out]; exact (HXL.out.fr FT.out (fun _ _ e => .inl e)).anti (fun k hk => hk.imp id (fun e => by have := HGN.out; omega))) (fun d hx => (HD.out d hx).fr F6.out (fun _ _ f => f.elim))
        have HZ := Lib.hid hZ
        clear hZ f0 f1 f2 f3 c1 hi hz0 hz1 hz2
        go_wp2
        go_ret
        have hfin : Fr (RgOwn p (.slice qo n cq) vs) w wc := (F6.out.mono (fun _ _ f => f.elim)).trans' HZ.out.2.1
        have hsz := F6.out.size
        first | exact ⟨_, _, _, _, rfl, HZ.out.1, hfin, fun g hg => (HZ.out.2.2 g hg).imp id (fun e => by omega)⟩ | exact ⟨rfl, _, _, _, _, HZ.out.1, hfin, fun g hg => (HZ.out.2.2 g hg).imp id (fun e => by omega)⟩
      · refine heldp_op 12 1 rfl (by kernel_rfl) (fun K hK => ?_)
        rw [if_pos (by rfl)]
        clear FN
        obtain ⟨x1, x2, x3, wc, q1, q2, q3, q4, k1, k2, k3, k4, z1, z2, z3, z4, hb4, hf4⟩ := set7t HP.out (.int .i64 r.own) (.int .i64 next) (.slice uo un uc) (.slice lo' ln lc')
        replace HP := Lib.hid hb4
        replace FT := Lib.hid (FT.out.trans' hf4)
        try replace SN := Lib.hid (SN.out.fr hf4 (fun k hk e => by simp [Value.ownBlock] at hk; have := HGN.out; have := HPW.out; omega))
        clear hb4 hf4
        go_simp
        clear q1 q2 q3 q4 k1 k2 k3 k4 z1 z2 z3 z4
        refine hK.out _ _ ?_ (fun hHeld' => ?_)
        · show Sg255_1 _; rw [HSg255_1.out]; trivial
        clear hK K hHeld
        have hHeld := hHeld'
        clear hHeld'
        try simp only [Act.put, List.setIfInBounds_toArray, List.set_cons_zero, List.set_cons_succ]
        refine heldp_free (v := ?_) 13 1 rfl (by kernel_rfl) (.inl ⟨by rfl, ?_⟩) hHeld ?_
        rotate_left
        · intro w hSw; clear hSw; first | (go_simp; done) | (go_simp; with_reducible rfl)
        try simp only [Act.put, List.setIfInBounds_toArray, List.set_cons_zero, List.set_cons_succ]
        refine heldp_take (v := ?_) 14 1 rfl (by kernel_rfl) (.inl ⟨by rfl, ?_⟩) hHeld ?_
        rotate_left
        · intro w hSw; replace hSw : Sg255_1 w := hSw; rw [HSg255_1.out] at hSw; (try dsimp only at hSw); first | (go_simp; done) | (go_simp; with_reducible rfl)
        try simp only [Act.put, List.setIfInBounds_toArray, List.set_cons_zero, List.set_cons_succ]
        refine heldp_two 9 15 (by kernel_rfl) ?_ ?_
        · refine heldp_op 9 1 rfl (by kernel_rfl) (fun K hK => ?_)
          rw [if_pos (by rfl)]
          obtain ⟨wn, hmk, ho9, hg9⟩ := run_makeSlice_full (P := Try.prog) wc wc.heap.size 78 41 i0 _ 1 Try.underlying78 hi hz0 hz1 .i64 .i64 n (by omega) (by rw [hz2]; omega) (by unfold maxLen; omega) (Nat.le_refl _)
          have hs9 := Sl.of_ownsRow ho9
          rw [show (Value.slice none 0 0).cells = #[Value.slice none 0 0] from rfl, Nat.mul_one, toList_madeCells_one] at hs9
          have hf9 : Fr no wc wn := (Fr.refl no wc).grown hg9 (fun _ h => by cases h)
          obtain ⟨gn, hgn⟩ : ∃ x, wc.heap.size = x := ⟨_, rfl⟩
          have HGN : Hid (W6.heap.size ≤ gn) := Lib.hid (by rw [← hgn]; exact FT.out.size)
          rw [hgn] at hs9 hmk
          have SN := Lib.hid hs9
          replace FT := Lib.hid (FT.out.trans hf9 (fun _ _ f => f.elim))
          try replace FN := Lib.hid (FN.out.trans' hf9)
          replace HP := Lib.hid (hf9.heap HP.out (fun f => f))
          clear ho9 hg9 hs9 hf9
          go_simp
          clear hmk hgn
          generalize wn = wc at *
          refine hK.out _ _ ?_ (fun hHeld' => ?_)
          · show Sg255_1 _; rw [HSg255_1.out]; trivial
          clear hK K hHeld
          have hHeld := hHeld'
          clear hHeld'
          try simp only [Act.put, List.setIfInBounds_toArray, List.set_cons_zero, List.set_cons_succ]
          refine heldp_call 15 2 rfl (by kernel_rfl) (fun K hK => ?_)
          rw [if_pos (by rfl)]
          have cz : wc.cell? ⟨p, 2, none⟩ = some (.int .i64 (r.at_ : Int)) := cell_of_block HP.out rfl
          have fz : wc.frozen? ⟨p, 2, none⟩ = false := frozen_of_block HP.out
          have hb := heap_setC (j := 2) (.int .i64 0) HP.out
          have hf := fr_set wc p 2 (.int .i64 0)
          obtain ⟨wc, hwd⟩ : ∃ x, wc.setCell ⟨p, 2, none⟩ (.int .i64 0) = x := ⟨_, rfl⟩
          rw [hwd] at hb hf
          replace HP := Lib.hid hb
          replace FT := Lib.hid (FT.out.trans' hf)
          try replace SN := Lib.hid (SN.out.fr hf (fun k hk e => by simp [Value.ownBlock] at hk; have := HGN.out; have := HPW.out; omega))
          clear hb hf
          go_simp
          clear cz fz hwd
          refine hK.out _ _ ?_ (fun hHeld' => ?_)
          · show Sg255_2 _; rw [HSg255_2.out]; trivial
          clear hK K hHeld
          have hHeld := hHeld'
          clear hHeld'
          try simp only [Act.put, List.setIfInBounds_toArray, List.set_cons_zero, List.set_cons_succ]
          refine heldp_free (v := ?_) 16 2 rfl (by kernel_rfl) (.inl ⟨by rfl, ?_⟩) hHeld ?_
          rotate_left
          · intro w hSw; clear hSw; first | (go_simp; done) | (go_simp; with_reducible rfl)
          try simp only [Act.put, List.setIfInBounds_toArray, List.set_cons_zero, List.set_cons_succ]
          refine heldp_take (v := ?_) 17 2 rfl (by kernel_rfl) (.inl ⟨by rfl, ?_⟩) hHeld ?_
          rotate_left
          · intro w hSw; replace hSw : Sg255_2 w := hSw; rw [HSg255_2.out] at hSw; (try dsimp only at hSw); first | (go_simp; done) | (go_simp; with_reducible rfl)
          try simp only [Act.put, List.setIfInBounds_toArray, List.set_cons_zero, List.set_cons_succ]
          refine heldp_call 18 3 rfl (by kernel_rfl) (fun K hK => ?_)
          rw [if_pos (by rfl)]
          have cz : wc.cell? ⟨p, 1, none⟩ = some (.slice qo n cq) := cell_of_block HP.out rfl
          have fz : wc.frozen? ⟨p, 1, none⟩ = false := frozen_of_block HP.out
          have hb := heap_setC (j := 1) (.slice (some ⟨gn, 0, none⟩) n n) HP.out
          have hf := fr_set wc p 1 (.slice (some ⟨gn, 0, none⟩) n n)
          obtain ⟨wc, hwd⟩ : ∃ x, wc.setCell ⟨p, 1, none⟩ (.slice (some ⟨gn, 0, none⟩) n n) = x := ⟨_, rfl⟩
          rw [hwd] at hb hf
          replace HP := Lib.hid hb
          replace FT := Lib.hid (FT.out.trans' hf)
          replace SN := Lib.hid (SN.out.fr hf (fun k hk e => by simp [Value.ownBlock] at hk; have := HGN.out; have := HPW.out; omega))
          clear hb hf
          go_simp
          clear cz fz hwd
          refine hK.out _ _ ?_ (fun hHeld' => ?_)
          · show Sg255_3 _; rw [HSg255_3.out]; trivial
          clear hK K hHeld
          have hHeld := hHeld'
          clear hHeld'
          try simp only [Act.put, List.setIfInBounds_toArray, List.set_cons_zero, List.set_cons_succ]
          refine heldp_done (by kernel_rfl) ?_
          try clear hHeld
          clear HSg255_0
          try clear Sg255_0
          clear HSg255_1
          try clear Sg255_1
          clear HSg255_2
          try clear Sg255_2
          clear HSg255_3
          try clear Sg255_3
          have hZ := RgAt.begin (next := next) (seen := seen) (late := late) HR6.out Hn.out HGN.out SN.out FT.out (by simpa using HP.out) (by rw [HUN.out]; exact (HXS.out.fr FT.out (fun _ _ e => .inl e)).anti (fun k hk => hk.imp id (fun e => by have := HGN.out; omega))) (by rw [Hln.out]; exact (HXL.out.fr FT.out (fun _ _ e => .inl e)).anti (fun k hk => hk.imp id (fun e => by have := HGN.out; omega))) (fun d hx => (HD.out d hx).fr F6.out (fun _ _ f => f.elim))
          have HZ := Lib.hid hZ
          clear hZ f0 f1 f2 f3 c1 hi hz0 hz1 hz2
          go_wp2
          go_ret
          have hfin : Fr (RgOwn p (.slice qo n cq) vs) w wc := (F6.out.mono (fun _ _ f => f.elim)).trans' HZ.out.2.1
          have hsz := F6.out.size
          first | exact ⟨_, _, _, _, rfl, HZ.out.1, hfin, fun g hg => (HZ.out.2.2 g hg).imp id (fun e => by omega)⟩ | exact ⟨rfl, _, _, _, _, HZ.out.1, hfin, fun g hg => (HZ.out.2.2 g hg).imp id (fun e => by omega)⟩
        · refine heldp_op 15 2 rfl (by kernel_rfl) (fun K hK => ?_)
          rw [if_pos (by rfl)]
          have cz : wc.cell? ⟨p, 2, none⟩ = some (.int .i64 (r.at_ : Int)) := cell_of_block HP.out rfl
          have fz : wc.frozen? ⟨p, 2, none⟩ = false := frozen_of_block HP.out
          have hb := heap_setC (j := 2) (.int .i64 0) HP.out
          have hf := fr_set wc p 2 (.int .i64 0)
          obtain ⟨wc, hwd⟩ : ∃ x, wc.setCell ⟨p, 2, none⟩ (.int .i64 0) = x := ⟨_, rfl⟩
          rw [hwd] at hb hf
          replace HP := Lib.hid hb
          replace FT := Lib.hid (FT.out.trans' hf)
          try replace SN := Lib.hid (SN.out.fr hf (fun k hk e => by simp [Value.ownBlock] at hk; have := HGN.out; have := HPW.out; omega))
          clear hb hf
          go_simp
          clear cz fz hwd
          refine hK.out _ _ ?_ (fun hHeld' => ?_)
          · show Sg255_2 _; rw [HSg255_2.out]; trivial
          clear hK K hHeld
          have hHeld := hHeld'
          clear hHeld'
          try simp only [Act.put, List.setIfInBounds_toArray, List.set_cons_zero, List.set_cons_succ]
          refine heldp_call 9 2 rfl (by kernel_rfl) (fun K hK => ?_)
          rw [if_pos (by rfl)]
          obtain ⟨wn, hmk, ho9, hg9⟩ := run_makeSlice_full (P := Try.prog) wc wc.heap.size 78 41 i0 _ 1 Try.underlying78 hi hz0 hz1 .i64 .i64 n (by omega) (by rw [hz2]; omega) (by unfold maxLen; omega) (Nat.le_refl _)
          have hs9 := Sl.of_ownsRow ho9
          rw [show (Value.slice none 0 0).cells = #[Value.slice none 0 0] from rfl, Nat.mul_one, toList_madeCells_one] at hs9
          have hf9 : Fr no wc wn := (Fr.refl no wc).grown hg9 (fun _ h => by cases h)
          obtain ⟨gn, hgn⟩ : ∃ x, wc.heap.size = x := ⟨_, rfl⟩
          have HGN : Hid (W6.heap.size ≤ gn) := Lib.hid (by rw [← hgn]; exact FT.out.size)
          rw [hgn] at hs9 hmk
          have SN := Lib.hid hs9
          replace FT := Lib.hid (FT.out.trans hf9 (fun _ _ f => f.elim))
          try replace FN := Lib.hid (FN.out.trans' hf9)
          replace HP := Lib.hid (hf9.heap HP.out (fun f => f))
          clear ho9 hg9 hs9 hf9
          go_simp
          clear hmk hgn
          generalize wn = wc at *
          refine hK.out _ _ ?_ (fun hHeld' => ?_)
          · show Sg255_2 _; rw [HSg255_2.out]; trivial
          clear hK K hHeld
          have hHeld := hHeld'
          clear hHeld'
          try simp only [Act.put, List.setIfInBounds_toArray, List.set_cons_zero, List.set_cons_succ]
          refine heldp_free (v := ?_) 16 2 rfl (by kernel_rfl) (.inl ⟨by rfl, ?_⟩) hHeld ?_
          rotate_left
          · intro w hSw; clear hSw; first | (go_simp; done) | (go_simp; with_reducible rfl)
          try simp only [Act.put, List.setIfInBounds_toArray, List.set_cons_zero, List.set_cons_succ]
          refine heldp_take (v := ?_) 17 2 rfl (by kernel_rfl) (.inl ⟨by rfl, ?_⟩) hHeld ?_
          rotate_left
          · intro w hSw; replace hSw : Sg255_2 w := hSw; rw [HSg255_2.out] at hSw; (try dsimp only at hSw); first | (go_simp; done) | (go_simp; with_reducible rfl)
          try simp only [Act.put, List.setIfInBounds_toArray, List.set_cons_zero, List.set_cons_succ]
          refine heldp_call 18 3 rfl (by kernel_rfl) (fun K hK => ?_)
          rw [if_pos (by rfl)]
          have cz : wc.cell? ⟨p, 1, none⟩ = some (.slice qo n cq) := cell_of_block HP.out rfl
          have fz : wc.frozen? ⟨p, 1, none⟩ = false := frozen_of_block HP.out
          have hb := heap_setC (j := 1) (.slice (some ⟨gn, 0, none⟩) n n) HP.out
          have hf := fr_set wc p 1 (.slice (some ⟨gn, 0, none⟩) n n)
          obtain ⟨wc, hwd⟩ : ∃ x, wc.setCell ⟨p, 1, none⟩ (.slice (some ⟨gn, 0, none⟩) n n) = x := ⟨_, rfl⟩
          rw [hwd] at hb hf
          replace HP := Lib.hid hb
          replace FT := Lib.hid (FT.out.trans' hf)
          replace SN := Lib.hid (SN.out.fr hf (fun k hk e => by simp [Value.ownBlock] at hk; have := HGN.out; have := HPW.out; omega))
          clear hb hf
          go_simp
          clear cz fz hwd
          refine hK.out _ _ ?_ (fun hHeld' => ?_)
          · show Sg255_3 _; rw [HSg255_3.out]; trivial
          clear hK K hHeld
          have hHeld := hHeld'
          clear hHeld'
          try simp only [Act.put, List.setIfInBounds_toArray, List.set_cons_zero, List.set_cons_succ]
          refine heldp_done (by kernel_rfl) ?_
          try clear hHeld
          clear HSg255_0
          try clear Sg255_0
          clear HSg255_1
          try clear Sg255_1
          clear HSg255_2
          try clear Sg255_2
          clear HSg255_3
          try clear Sg255_3
          have hZ := RgAt.begin (next := next) (seen := seen) (late := late) HR6.out Hn.out HGN.out SN.out FT.out (by simpa using HP.out) (by rw [HUN.out]; exact (HXS.out.fr FT.out (fun _ _ e => .inl e)).anti (fun k hk => hk.imp id (fun e => by have := HGN.out; omega))) (by rw [Hln.out]; exact (HXL.out.fr FT.out (fun _ _ e => .inl e)).anti (fun k hk => hk.imp id (fun e => by have := HGN.out; omega))) (fun d hx => (HD.out d hx).fr F6.out (fun _ _ f => f.elim))
          have HZ := Lib.hid hZ
          clear hZ f0 f1 f2 f3 c1 hi hz0 hz1 hz2
          go_wp2
          go_ret
          have hfin : Fr (RgOwn p (.slice qo n cq) vs) w wc := (F6.out.mono (fun _ _ f => f.elim)).trans' HZ.out.2.1
          have hsz := F6.out.size
          first | exact ⟨_, _, _, _, rfl, HZ.out.1, hfin, fun g hg => (HZ.out.2.2 g hg).imp id (fun e => by omega)⟩ | exact ⟨rfl, _, _, _, _, HZ.out.1, hfin, fun g hg => (HZ.out.2.2 g hg).imp id (fun e => by omega)⟩
    · have hob : (own != r.own) = true := by simpa using ho
      have hR3 := Lib.hid (HR.out.fr0 F.out)
      have HO := Lib.hid ho
      clear ho
      go_wp2
      go_ret
      first | exact ⟨_, _, _, _, rfl, hR3.out, F.out.mono (fun _ _ f => f.elim), fun g hg => .inl hg⟩ | exact ⟨rfl, _, _, _, _, hR3.out, F.out.mono (fun _ _ f => f.elim), fun g hg => .inl hg⟩
  · have hkb : (kc != 0) = true := by simpa using hk
    have hR3 := Lib.hid (HR.out.fr0 F.out)
    have HK := Lib.hid hk
    clear hk
    go_wp2
    go_ret
    first | exact ⟨_, _, _, _, rfl, hR3.out, F.out.mono (fun _ _ f => f.elim), fun g hg => .inl hg⟩ | exact ⟨rfl, _, _, _, _, hR3.out, F.out.mono (fun _ _ f => f.elim), fun g hg => .inl hg⟩
end Go.Proofs.Ytlohbikkhojlaaa
