/- Package ring: Turn, walked. -/
import Derived.Test.YtlohbikkhojlaaaRg2
namespace Go.XL
open Go.RowKit Go.Shelf
set_option linter.unusedVariables false
set_option linter.unusedSimpArgs false
theorem ago_sub (own : Int) : ∀ (n : Nat) (a : AS) (d : Dr), d ∈ (ago own n a).left → d ∈ a.left := by
  intro n
  induction n with
  | zero => intro a d h; exact h
  | succ n ih =>
    intro a d h
    rw [ago] at h
    cases hf : afirst (dmay own a.seen) a.left 0 with
    | none => rw [hf] at h; exact h
    | some x =>
      obtain ⟨i, y⟩ := x
      rw [hf] at h
      exact List.mem_of_mem_eraseIdx (ih _ d h)
theorem rrun_late {r : Rg} (hi : r.at_ < r.qs.length) : ∀ d ∈ alate r.own (rrun r).seen (rrun r).left [], d ∈ r.late ∨ ∃ l ∈ r.qs, d ∈ l := by
  intro d hd
  rcases alate_mem _ _ d hd with hd | hd
  · have := ago_sub _ _ _ d hd
    rcases List.mem_append.1 this with h | h
    · exact .inl h
    · refine .inr ⟨r.qs[r.at_], by simp, ?_⟩
      simpa [hi] using h
  · cases hd
theorem tua_own {RT QT DT : TypeId} {w W : World} {p gt : Nat} {r : Rg} {R : AS} {qv sv lv sv' tv' ov : Value} {vs : List Value} (h : RgAt RT QT DT w p r qv sv lv vs) (hT : TuA w gt W R r.own sv sv' tv' ov) :
    RdX (RgOwn p qv vs) W 1 sv' R.seen.length (R.seen.map (Value.int .i64)) ∧ RdX (RgOwn p qv vs) W 6 tv' (alate r.own R.seen R.left []).length (drCells (alate r.own R.seen R.left [])) := by
  refine ⟨⟨hT.seen.rd, fun h0 g e1 e2 => ?_⟩, ⟨hT.late.rd, fun _ g e1 e2 => ?_⟩⟩
  · have hg := h.lt g e2
    rcases hT.svo with e | e
    · obtain ⟨a1, c1, e3, _, _⟩ := hT.seen.rd.cap
      obtain ⟨a2, c2, e4, _, _⟩ := h.seen.rd.cap
      rw [e] at e1 e3
      rw [e3] at e4
      injection e4 with _ e5 _
      exact h.seen.2 (by omega) g e1 e2
    · have := e g e1; omega
  · have := h.lt g e2
    have := hT.tvo g e1
    omega
/-- the numbers of what Admit left -/
structure AdN (n : Nat) (next : Int) (a : AS) : Prop where
  cnt : a.left.length + a.out.length = n
  nx : a.next = next + a.out.length
  sk : SeenOk a.seen
  sl : a.seen.length ≤ 1000
  lk : ∀ d ∈ a.left, 0 ≤ d.q ∧ d.q ≤ 1048576
theorem AdP.n {w : World} {n : Nat} {next : Int} {a : AS} (h : AdP w n next a) : AdN n next a := ⟨h.cnt, h.nx, h.sk, h.sl, fun d hd => (h.lk d hd).2⟩
end Go.XL
namespace Go.Proofs.Ytlohbikkhojlaaa
open Go.RowKit Go.Shelf Go.XL
set_option linter.unusedVariables false
set_option linter.unusedSimpArgs false
attribute [local go_sem] Oper.semAt_some
set_option maxRecDepth 10000 in
set_option maxHeartbeats 4000000 in
theorem ring_turn (p : Nat) (r : Rg) (qv sv lv : Value) (vs : List Value) (w : World) (h : RgT w p r qv sv lv vs) (hk : RgOk r) :
    Calls Try.prog 12 #[.pointer (some ⟨p, 0, none⟩)] w fun e w' => ∃ sv' lv' ov vs', e = .returned ov ∧ RgT w' p (rturn r) qv sv' lv' vs' ∧ Rd w' 7 ov (rrun r).out.length (slCells (rrun r).out) ∧
      AdN (r.late.length + (r.qs[r.at_]?.getD []).length) r.next (rrun r) ∧ Fr (RgOwn p qv vs) w w' ∧ (∀ g, RgOwn p qv vs' g → RgOwn p qv vs g) ∧ (sv' = sv ∨ ∀ g, sv'.ownBlock = some g → w.heap.size ≤ g) ∧ (∀ g, lv'.ownBlock = some g → w.heap.size ≤ g) ∧ (∀ g, ov.ownBlock = some g → w.heap.size ≤ g) := by
  obtain ⟨qo, cq, rfl, hqc, hqm⟩ := h.qsl.cap
  obtain ⟨so, sc, rfl, hsc, hsm⟩ := h.seen.rd.cap
  obtain ⟨lo, lc, rfl, hlc, hlm⟩ := h.late.rd.cap
  obtain ⟨n, hn⟩ : ∃ n, r.qs.length = n := ⟨_, rfl⟩
  obtain ⟨sn, hsn⟩ : ∃ n, r.seen.length = n := ⟨_, rfl⟩
  obtain ⟨ln, hln⟩ : ∃ n, r.late.length = n := ⟨_, rfl⟩
  have hat := hk.at_
  rw [hn] at h hqc hat ⊢
  rw [hsn] at h hsc ⊢
  rw [hln] at h hlc
  have Hn := Lib.hid hn
  obtain ⟨gq, oq, cq', cs, he, _, _, hg, _, hx⟩ := h.qsl.form (by omega)
  rw [hn] at he
  cases he
  have hvl := h.vlen
  obtain ⟨l, hl⟩ : ∃ l, r.qs[r.at_]? = some l := ⟨r.qs[r.at_]'(by omega), by simp⟩
  obtain ⟨v, hv⟩ : ∃ v, vs[r.at_]? = some v := ⟨vs[r.at_]'(by omega), by simp⟩
  obtain ⟨vo, vc, rfl, hvc, hvm⟩ := (h.q r.at_ v l hv hl).cap
  obtain ⟨m, hm⟩ : ∃ m, l.length = m := ⟨_, rfl⟩
  rw [hm] at hv hvc
  have HQC : Hid (∀ W : World, RgT W p r (.slice (some ⟨gq, oq, none⟩) n cq) (.slice so sn sc) (.slice lo ln lc) vs → W.cell? ⟨gq, oq + r.at_, none⟩ = some (.slice vo m vc) ∧ W.frozen? ⟨gq, oq + r.at_, none⟩ = false) := Lib.hid (fun W hW => by
    obtain ⟨g', o', c', cs', he, _, _, hg', _, hx'⟩ := hW.qsl.form (by rw [Hn.out]; omega)
    rw [Hn.out] at he
    cases he
    exact ⟨cell_of_block hg' (hx' r.at_ _ hv), frozen_of_block hg'⟩)
  obtain ⟨R, hR⟩ : ∃ R, rrun r = R := ⟨_, rfl⟩
  have hlm8 : l ∈ r.qs := List.mem_of_getElem? hl
  have hadm : ∀ W, Fr no w W → Calls Try.prog 30 #[tkV r.own r.next (.slice so sn sc) (.slice lo ln lc), .slice vo m vc] W fun e w' => ∃ sv' tv' ov', e = .returned (.tuple #[tkV r.own R.next sv' tv', ov']) ∧ AdR W w' r.own r.next (r.late.length + l.length) R (.slice so sn sc) sv' tv' ov' := fun W hW => by
    have hA := tAdmit r.own r.next (.slice so sn sc) (.slice lo ln lc) (.slice vo m vc) r.seen r.late l W ((h.seen.fr hW (fun _ _ f => f.elim)).rd) hk.sk ((h.late.fr hW (fun _ _ f => f.elim)).rd) (by have := ((h.q r.at_ (.slice vo m vc) l hv hl).fr hW (fun _ _ f => f)).rd; exact this)
      (fun d hd => ((h.dep d (by rcases List.mem_append.1 hd with hd | hd; exact .inl hd; exact .inr ⟨l, hlm8, hd⟩)).fr hW (fun _ _ f => f.elim)).rd)
      (fun d hd => hk.q d (by rcases List.mem_append.1 hd with hd | hd; exact .inl hd; exact .inr ⟨l, hlm8, hd⟩)) (hk.ln l hlm8) hk.sl hk.nx0 hk.nx
    have e : rrun r = ago r.own (r.late.length + l.length) ⟨r.next, r.seen, r.late ++ l, []⟩ := by unfold rrun; rw [hl]; rfl
    rw [← e, hR] at hA
    exact hA
  have hPn : r.late.length + (r.qs[r.at_]?.getD []).length = r.late.length + l.length := by rw [hl]; rfl
  have hrt : rturn r = ⟨r.room, r.qs.set r.at_ [], (r.at_ + 1) % n, r.own, R.next, R.seen, alate r.own R.seen R.left []⟩ := by unfold rturn; rw [hR, hn]
  have hlate := rrun_late (r := r) (by omega)
  rw [hR] at hlate
  rw [hPn, hrt, hR]
  obtain ⟨tn, htn⟩ : ∃ n, (alate r.own R.seen R.left []).length = n := ⟨_, rfl⟩
  obtain ⟨un, hun⟩ : ∃ n, R.seen.length = n := ⟨_, rfl⟩
  obtain ⟨om, hom⟩ : ∃ n, R.out.length = n := ⟨_, rfl⟩
  have hmod : ((r.at_ : Int) + 1).tmod (n : Int) = (((r.at_ + 1) % n : Nat) : Int) := by rw [Int.tmod_eq_emod_of_nonneg (by omega)]; push_cast; rfl
  have hn0 : ((n : Int) == 0) = false := by simp; omega
  have HM := Lib.hid hmod
  unfold tkV at hadm
  have Hadm := Lib.hid hadm
  have Hlate := Lib.hid hlate
  have Htn := Lib.hid htn
  have Hun := Lib.hid hun
  have Hom := Lib.hid hom
  have HR := Lib.hid h
  have hq8 := hk.qn
  rw [hn] at hq8
  clear h hk hg hx hvl hR hadm hlate hPn hrt htn hun hom hmod hsn hln hn hm hl hlm8
  generalize hA : (r.at_ + 1) % n = A at *
  have c1 : w.cell? ⟨p, 1, none⟩ = some (.slice (some ⟨gq, oq, none⟩) n cq) := cell_of_block HR.out.cell rfl
  have c2 : w.cell? ⟨p, 2, none⟩ = some (.int .i64 (r.at_ : Int)) := cell_of_block HR.out.cell rfl
  have c3 : w.cell? ⟨p, 3, none⟩ = some (.int .i64 r.own) := cell_of_block HR.out.cell rfl
  have c4 : w.cell? ⟨p, 4, none⟩ = some (.int .i64 r.next) := cell_of_block HR.out.cell rfl
  have c5 : w.cell? ⟨p, 5, none⟩ = some (.slice so sn sc) := cell_of_block HR.out.cell rfl
  have c6 : w.cell? ⟨p, 6, none⟩ = some (.slice lo ln lc) := cell_of_block HR.out.cell rfl
  have e0 : w.cell? ⟨gq, oq + r.at_, none⟩ = some (.slice vo m vc) := (HQC.out _ HR.out).1
  go_enter Try.func12, Try.ntmps12
  go_upto_region 1 with (fail)
  go_cut [3, 4] (fun pv ov wx => ∃ (gt : Nat) (uo : Option Addr) (uc : Nat) (tl : Option Addr) (tc : Nat) (oo : Option Addr) (oc : Nat), pv = .pointer (some ⟨gt, 0, none⟩) ∧ ov = .slice oo om oc ∧ Hid (wx.heap[gt]? = some (.cells #[.int .i64 r.own, .int .i64 R.next, .slice uo un uc, .slice tl tn tc] 43 (0, 0))) ∧
    Hid (TuA w gt wx R r.own (.slice so sn sc) (.slice uo un uc) (.slice tl tn tc) (.slice oo om oc)) ∧ Hid (Fr no w wx) ∧ w.heap.size ≤ gt ∧ Hid (AdN (r.late.length + l.length) r.next R))
  case first =>
    obtain ⟨Sg130_0, HSg130_0⟩ : ∃ S : World → Prop, Hid (S = (fun w' => w'.cell? ⟨p, 1, none⟩ = some (.slice (some ⟨gq, oq, none⟩) n cq) ∧ w'.cell? ⟨p, 2, none⟩ = some (.int .i64 (r.at_ : Int)) ∧ w'.cell? ⟨p, 3, none⟩ = some (.int .i64 r.own) ∧ w'.cell? ⟨p, 4, none⟩ = some (.int .i64 r.next) ∧ w'.cell? ⟨p, 5, none⟩ = some (.slice so sn sc) ∧ w'.cell? ⟨p, 6, none⟩ = some (.slice lo ln lc) ∧ w'.cell? ⟨gq, oq + r.at_, none⟩ = some (.slice vo m vc))) := ⟨_, Lib.hid rfl⟩
    obtain ⟨Sg130_1, HSg130_1⟩ : ∃ S : World → Prop, Hid (S = (fun _ => True)) := ⟨_, Lib.hid rfl⟩
    refine wp_heldp [19] (pickS [Sg130_0, Sg130_1]) (by kernel_rfl) ?_ (fun hHeld => ?_)
    · show Sg130_0 _; rw [HSg130_0.out]; exact ⟨c1, c2, c3, c4, c5, c6, e0⟩
    obtain ⟨wc, hwc⟩ : ∃ x, w.drew = x := ⟨_, rfl⟩; rw [hwc] at hHeld; rw [hwc]; have HF : Hid (Fr no w wc) := (by rw [← hwc]; exact Lib.hid ((Fr.refl no w).drewN 1)); clear hwc
    refine heldp_take (v := ?_) 0 0 rfl (by kernel_rfl) (.inl ⟨by rfl, ?_⟩) hHeld ?_
    rotate_left
    · intro w hSw; replace hSw : Sg130_0 w := hSw; rw [HSg130_0.out] at hSw; (try dsimp only at hSw); first | (go_simp; done) | (go_simp; with_reducible rfl)
    try simp only [Act.put, List.setIfInBounds_toArray, List.set_cons_zero, List.set_cons_succ]
    refine heldp_take (v := ?_) 1 0 rfl (by kernel_rfl) (.inl ⟨by rfl, ?_⟩) hHeld ?_
    rotate_left
    · intro w hSw; replace hSw : Sg130_0 w := hSw; rw [HSg130_0.out] at hSw; (try dsimp only at hSw); first | (go_simp; done) | (go_simp; with_reducible rfl)
    try simp only [Act.put, List.setIfInBounds_toArray, List.set_cons_zero, List.set_cons_succ]
    refine heldp_take (v := ?_) 2 0 rfl (by kernel_rfl) (.inl ⟨by rfl, ?_⟩) hHeld ?_
    rotate_left
    · intro w hSw; replace hSw : Sg130_0 w := hSw; rw [HSg130_0.out] at hSw; (try dsimp only at hSw); first | (go_simp; done) | (go_simp; with_reducible rfl)
    try simp only [Act.put, List.setIfInBounds_toArray, List.set_cons_zero, List.set_cons_succ]
    refine heldp_take (v := ?_) 3 0 rfl (by kernel_rfl) (.inl ⟨by rfl, ?_⟩) hHeld ?_
    rotate_left
    · intro w hSw; replace hSw : Sg130_0 w := hSw; rw [HSg130_0.out] at hSw; (try dsimp only at hSw); first | (go_simp; done) | (go_simp; with_reducible rfl)
    try simp only [Act.put, List.setIfInBounds_toArray, List.set_cons_zero, List.set_cons_succ]
    refine heldp_take (v := ?_) 4 0 rfl (by kernel_rfl) (.inl ⟨by rfl, ?_⟩) hHeld ?_
    rotate_left
    · intro w hSw; replace hSw : Sg130_0 w := hSw; rw [HSg130_0.out] at hSw; (try dsimp only at hSw); first | (go_simp; done) | (go_simp; with_reducible rfl)
    try simp only [Act.put, List.setIfInBounds_toArray, List.set_cons_zero, List.set_cons_succ]
    refine heldp_take (v := ?_) 5 0 rfl (by kernel_rfl) (.inl ⟨by rfl, ?_⟩) hHeld ?_
    rotate_left
    · intro w hSw; replace hSw : Sg130_0 w := hSw; rw [HSg130_0.out] at hSw; (try dsimp only at hSw); first | (go_simp; done) | (go_simp; with_reducible rfl)
    try simp only [Act.put, List.setIfInBounds_toArray, List.set_cons_zero, List.set_cons_succ]
    refine heldp_take (v := ?_) 6 0 rfl (by kernel_rfl) (.inl ⟨by rfl, ?_⟩) hHeld ?_
    rotate_left
    · intro w hSw; replace hSw : Sg130_0 w := hSw; rw [HSg130_0.out] at hSw; (try dsimp only at hSw); first | (go_simp; done) | (go_simp; with_reducible rfl)
    try simp only [Act.put, List.setIfInBounds_toArray, List.set_cons_zero, List.set_cons_succ]
    refine heldp_take (v := ?_) 7 0 rfl (by kernel_rfl) (.inl ⟨by rfl, ?_⟩) hHeld ?_
    rotate_left
    · intro w hSw; replace hSw : Sg130_0 w := hSw; rw [HSg130_0.out] at hSw; (try dsimp only at hSw); first | (go_simp; done) | (go_simp; with_reducible rfl)
    try simp only [Act.put, List.setIfInBounds_toArray, List.set_cons_zero, List.set_cons_succ]
    refine heldp_take (v := ?_) 8 0 rfl (by kernel_rfl) (.inl ⟨by rfl, ?_⟩) hHeld ?_
    rotate_left
    · intro w hSw; replace hSw : Sg130_0 w := hSw; rw [HSg130_0.out] at hSw; (try dsimp only at hSw); first | (go_simp; done) | (go_simp; with_reducible rfl)
    try simp only [Act.put, List.setIfInBounds_toArray, List.set_cons_zero, List.set_cons_succ]
    refine heldp_take (v := ?_) 9 0 rfl (by kernel_rfl) (.inl ⟨by rfl, ?_⟩) hHeld ?_
    rotate_left
    · intro w hSw; replace hSw : Sg130_0 w := hSw; rw [HSg130_0.out] at hSw; (try dsimp only at hSw); first | (go_simp; done) | (go_simp; with_reducible rfl)
    try simp only [Act.put, List.setIfInBounds_toArray, List.set_cons_zero, List.set_cons_succ]
    refine heldp_take (v := ?_) 10 0 rfl (by kernel_rfl) (.inl ⟨by rfl, ?_⟩) hHeld ?_
    rotate_left
    · intro w hSw; replace hSw : Sg130_0 w := hSw; rw [HSg130_0.out] at hSw; (try dsimp only at hSw); first | (go_simp; done) | (go_simp; with_reducible rfl)
    try simp only [Act.put, List.setIfInBounds_toArray, List.set_cons_zero, List.set_cons_succ]
    refine heldp_take (v := ?_) 11 0 rfl (by kernel_rfl) (.inl ⟨by rfl, ?_⟩) hHeld ?_
    rotate_left
    · intro w hSw; replace hSw : Sg130_0 w := hSw; rw [HSg130_0.out] at hSw; (try dsimp only at hSw); first | (go_simp; done) | (go_simp; with_reducible rfl)
    try simp only [Act.put, List.setIfInBounds_toArray, List.set_cons_zero, List.set_cons_succ]
    refine heldp_take (v := ?_) 12 0 rfl (by kernel_rfl) (.inl ⟨by rfl, ?_⟩) hHeld ?_
    rotate_left
    · intro w hSw; replace hSw : Sg130_0 w := hSw; rw [HSg130_0.out] at hSw; (try dsimp only at hSw); first | (go_simp; done) | (go_simp; with_reducible rfl)
    try simp only [Act.put, List.setIfInBounds_toArray, List.set_cons_zero, List.set_cons_succ]
    refine heldp_take (v := ?_) 13 0 rfl (by kernel_rfl) (.inl ⟨by rfl, ?_⟩) hHeld ?_
    rotate_left
    · intro w hSw; replace hSw : Sg130_0 w := hSw; rw [HSg130_0.out] at hSw; (try dsimp only at hSw); first | (go_simp; done) | (go_simp; with_reducible rfl)
    try simp only [Act.put, List.setIfInBounds_toArray, List.set_cons_zero, List.set_cons_succ]
    refine heldp_two 14 18 (by kernel_rfl) ?_ ?_
    · refine heldp_op 14 0 rfl (by kernel_rfl) (fun K hK => ?_)
      go_simp
      go_at_call 30
      refine (Hadm.out wc HF.out).mono ?_
      rintro e wc ⟨sv', tv', ov', rfl, hAR⟩
      obtain ⟨uo, uc, hu, _, _⟩ := hAR.seen.cap
      rw [Hun.out] at hu
      subst hu
      obtain ⟨tl, tc, hu, _, _⟩ := hAR.late.cap
      rw [Htn.out] at hu
      subst hu
      obtain ⟨oo, oc, hu, _, _⟩ := hAR.out.cap
      rw [Hom.out] at hu
      subst hu
      have HPA := Lib.hid hAR.p.n
      first | (have TU := Lib.hid (tua_b hAR HR.out.seen.rd HGT.out.1 HGT.out.2); replace TB := Lib.hid (hAR.fr.heap TB.out (fun f => f))) | (have AR := Lib.hid hAR; have HWF := Lib.hid HF.out)
      replace HF := Lib.hid (HF.out.trans' hAR.fr)
      clear hAR
      refine hK.out _ _ ?_ (fun hHeld' => ?_)
      · show Sg130_0 _; rw [HSg130_0.out]; exact ⟨HF.out.cell c1 (fun f => f), HF.out.cell c2 (fun f => f), HF.out.cell c3 (fun f => f), HF.out.cell c4 (fun f => f), HF.out.cell c5 (fun f => f), HF.out.cell c6 (fun f => f), HF.out.cell e0 (fun f => f)⟩
      clear hK K hHeld
      have hHeld := hHeld'
      clear hHeld'
      try simp only [Act.put, List.setIfInBounds_toArray, List.set_cons_zero, List.set_cons_succ]
      refine heldp_take (v := ?_) 15 0 rfl (by kernel_rfl) (.inl ⟨by rfl, ?_⟩) hHeld ?_
      rotate_left
      · intro w hSw; replace hSw : Sg130_0 w := hSw; rw [HSg130_0.out] at hSw; (try dsimp only at hSw); first | (go_simp; done) | (go_simp; with_reducible rfl)
      try simp only [Act.put, List.setIfInBounds_toArray, List.set_cons_zero, List.set_cons_succ]
      refine heldp_take (v := ?_) 16 0 rfl (by kernel_rfl) (.inl ⟨by rfl, ?_⟩) hHeld ?_
      rotate_left
      · intro w hSw; replace hSw : Sg130_0 w := hSw; rw [HSg130_0.out] at hSw; (try dsimp only at hSw); first | (go_simp; done) | (go_simp; with_reducible rfl)
      try simp only [Act.put, List.setIfInBounds_toArray, List.set_cons_zero, List.set_cons_succ]
      refine heldp_free (v := ?_) 17 0 rfl (by kernel_rfl) (.inl ⟨by rfl, ?_⟩) hHeld ?_
      rotate_left
      · intro w hSw; clear hSw; first | (go_simp; done) | (go_simp; with_reducible rfl)
      try simp only [Act.put, List.setIfInBounds_toArray, List.set_cons_zero, List.set_cons_succ]
      refine heldp_call 18 0 rfl (by kernel_rfl) (fun K hK => ?_)
      go_simp
      have hfa : Fr no wc (wc.alloc (.cells #[.int .i64 0, .int .i64 0, .slice none 0 0, .slice none 0 0] 43)) := (Fr.refl no wc).alloc _
      have hba := World.alloc_heap_new wc (.cells #[.int .i64 0, .int .i64 0, .slice none 0 0, .slice none 0 0] 43)
      obtain ⟨gt, hgt⟩ : ∃ x, wc.heap.size = x := ⟨_, rfl⟩
      have hgw : w.heap.size ≤ gt := by rw [← hgt]; exact HF.out.size
      try have TU := Lib.hid ((tua_a (gt := gt) AR.out HWF.out.size (Nat.le_of_eq hgt)).fr (hfa.mono (fun _ _ f => f.elim)))
      try clear AR HWF
      obtain ⟨wc, hwc⟩ : ∃ x, wc.alloc (.cells #[.int .i64 0, .int .i64 0, .slice none 0 0, .slice none 0 0] 43) = x := ⟨_, rfl⟩
      rw [hgt, hwc]
      rw [hgt, hwc] at hba
      rw [hwc] at hfa
      try rw [hwc] at TU
      have TB := Lib.hid hba
      have HGT := Lib.hid (And.intro hgw ((Array.getElem?_eq_some_iff.1 hba).1))
      replace HF := Lib.hid (HF.out.trans' hfa)
      clear hfa hba hwc hgt hgw
      refine hK.out _ _ ?_ (fun hHeld' => ?_)
      · show Sg130_0 _; rw [HSg130_0.out]; exact ⟨HF.out.cell c1 (fun f => f), HF.out.cell c2 (fun f => f), HF.out.cell c3 (fun f => f), HF.out.cell c4 (fun f => f), HF.out.cell c5 (fun f => f), HF.out.cell c6 (fun f => f), HF.out.cell e0 (fun f => f)⟩
      clear hK K hHeld
      have hHeld := hHeld'
      clear hHeld'
      try simp only [Act.put, List.setIfInBounds_toArray, List.set_cons_zero, List.set_cons_succ]
      refine heldp_call 19 1 rfl (by kernel_rfl) (fun K hK => ?_)
      rw [if_pos (by rfl)]
      obtain ⟨x1, x2, x3, x4, q1, q2, q3, q4, k1, k2, k3, k4, z1, z2, z3, z4, hb4, hf4⟩ := set4 TB.out (.int .i64 r.own) (.int .i64 R.next) (.slice uo un uc) (.slice tl tn tc)
      have T := Lib.hid hb4
      replace TU := Lib.hid (TU.out.fr hf4)
      replace HF := Lib.hid (HF.out.trans hf4 (fun i hi e => by have := HGT.out.1; omega))
      clear hb4 hf4
      go_simp
      refine hK.out _ _ ?_ (fun hHeld' => ?_)
      · show Sg130_1 _; rw [HSg130_1.out]; trivial
      clear hK K hHeld
      have hHeld := hHeld'
      clear hHeld'
      try simp only [Act.put, List.setIfInBounds_toArray, List.set_cons_zero, List.set_cons_succ]
      refine heldp_take (v := ?_) 20 1 rfl (by kernel_rfl) (.inl ⟨by rfl, ?_⟩) hHeld ?_
      rotate_left
      · intro w hSw; replace hSw : Sg130_1 w := hSw; rw [HSg130_1.out] at hSw; (try dsimp only at hSw); first | (go_simp; done) | (go_simp; with_reducible rfl)
      try simp only [Act.put, List.setIfInBounds_toArray, List.set_cons_zero, List.set_cons_succ]
      refine heldp_done (by kernel_rfl) ?_
      try clear hHeld
      clear HSg130_0
      try clear Sg130_0
      clear HSg130_1
      try clear Sg130_1
      clear q1 q2 q3 q4 k1 k2 k3 k4 z1 z2 z3 z4
      go_wp2
      go_meet
      exact ⟨gt, uo, uc, tl, tc, oo, oc, rfl, rfl, T, TU, HF, HGT.out.1, HPA⟩
    · refine heldp_op 18 0 rfl (by kernel_rfl) (fun K hK => ?_)
      go_simp
      have hfa : Fr no wc (wc.alloc (.cells #[.int .i64 0, .int .i64 0, .slice none 0 0, .slice none 0 0] 43)) := (Fr.refl no wc).alloc _
      have hba := World.alloc_heap_new wc (.cells #[.int .i64 0, .int .i64 0, .slice none 0 0, .slice none 0 0] 43)
      obtain ⟨gt, hgt⟩ : ∃ x, wc.heap.size = x := ⟨_, rfl⟩
      have hgw : w.heap.size ≤ gt := by rw [← hgt]; exact HF.out.size
      try have TU := Lib.hid ((tua_a (gt := gt) AR.out HWF.out.size (Nat.le_of_eq hgt)).fr (hfa.mono (fun _ _ f => f.elim)))
      try clear AR HWF
      obtain ⟨wc, hwc⟩ : ∃ x, wc.alloc (.cells #[.int .i64 0, .int .i64 0, .slice none 0 0, .slice none 0 0] 43) = x := ⟨_, rfl⟩
      rw [hgt, hwc]
      rw [hgt, hwc] at hba
      rw [hwc] at hfa
      try rw [hwc] at TU
      have TB := Lib.hid hba
      have HGT := Lib.hid (And.intro hgw ((Array.getElem?_eq_some_iff.1 hba).1))
      replace HF := Lib.hid (HF.out.trans' hfa)
      clear hfa hba hwc hgt hgw
      refine hK.out _ _ ?_ (fun hHeld' => ?_)
      · show Sg130_0 _; rw [HSg130_0.out]; exact ⟨HF.out.cell c1 (fun f => f), HF.out.cell c2 (fun f => f), HF.out.cell c3 (fun f => f), HF.out.cell c4 (fun f => f), HF.out.cell c5 (fun f => f), HF.out.cell c6 (fun f => f), HF.out.cell e0 (fun f => f)⟩
      clear hK K hHeld
      have hHeld := hHeld'
      clear hHeld'
      try simp only [Act.put, List.setIfInBounds_toArray, List.set_cons_zero, List.set_cons_succ]
      refine heldp_call 14 0 rfl (by kernel_rfl) (fun K hK => ?_)
      go_simp
      go_at_call 30
      refine (Hadm.out wc HF.out).mono ?_
      rintro e wc ⟨sv', tv', ov', rfl, hAR⟩
      obtain ⟨uo, uc, hu, _, _⟩ := hAR.seen.cap
      rw [Hun.out] at hu
      subst hu
      obtain ⟨tl, tc, hu, _, _⟩ := hAR.late.cap
      rw [Htn.out] at hu
      subst hu
      obtain ⟨oo, oc, hu, _, _⟩ := hAR.out.cap
      rw [Hom.out] at hu
      subst hu
      have HPA := Lib.hid hAR.p.n
      first | (have TU := Lib.hid (tua_b hAR HR.out.seen.rd HGT.out.1 HGT.out.2); replace TB := Lib.hid (hAR.fr.heap TB.out (fun f => f))) | (have AR := Lib.hid hAR; have HWF := Lib.hid HF.out)
      replace HF := Lib.hid (HF.out.trans' hAR.fr)
      clear hAR
      refine hK.out _ _ ?_ (fun hHeld' => ?_)
      · show Sg130_0 _; rw [HSg130_0.out]; exact ⟨HF.out.cell c1 (fun f => f), HF.out.cell c2 (fun f => f), HF.out.cell c3 (fun f => f), HF.out.cell c4 (fun f => f), HF.out.cell c5 (fun f => f), HF.out.cell c6 (fun f => f), HF.out.cell e0 (fun f => f)⟩
      clear hK K hHeld
      have hHeld := hHeld'
      clear hHeld'
      try simp only [Act.put, List.setIfInBounds_toArray, List.set_cons_zero, List.set_cons_succ]
      refine heldp_take (v := ?_) 15 0 rfl (by kernel_rfl) (.inl ⟨by rfl, ?_⟩) hHeld ?_
      rotate_left
      · intro w hSw; replace hSw : Sg130_0 w := hSw; rw [HSg130_0.out] at hSw; (try dsimp only at hSw); first | (go_simp; done) | (go_simp; with_reducible rfl)
      try simp only [Act.put, List.setIfInBounds_toArray, List.set_cons_zero, List.set_cons_succ]
      refine heldp_take (v := ?_) 16 0 rfl (by kernel_rfl) (.inl ⟨by rfl, ?_⟩) hHeld ?_
      rotate_left
      · intro w hSw; replace hSw : Sg130_0 w := hSw; rw [HSg130_0.out] at hSw; (try dsimp only at hSw); first | (go_simp; done) | (go_simp; with_reducible rfl)
      try simp only [Act.put, List.setIfInBounds_toArray, List.set_cons_zero, List.set_cons_succ]
      refine heldp_free (v := ?_) 17 0 rfl (by kernel_rfl) (.inl ⟨by rfl, ?_⟩) hHeld ?_
      rotate_left
      · intro w hSw; clear hSw; first | (go_simp; done) | (go_simp; with_reducible rfl)
      try simp only [Act.put, List.setIfInBounds_toArray, List.set_cons_zero, List.set_cons_succ]
      refine heldp_call 19 1 rfl (by kernel_rfl) (fun K hK => ?_)
      rw [if_pos (by rfl)]
      obtain ⟨x1, x2, x3, x4, q1, q2, q3, q4, k1, k2, k3, k4, z1, z2, z3, z4, hb4, hf4⟩ := set4 TB.out (.int .i64 r.own) (.int .i64 R.next) (.slice uo un uc) (.slice tl tn tc)
      have T := Lib.hid hb4
      replace TU := Lib.hid (TU.out.fr hf4)
      replace HF := Lib.hid (HF.out.trans hf4 (fun i hi e => by have := HGT.out.1; omega))
      clear hb4 hf4
      go_simp
      refine hK.out _ _ ?_ (fun hHeld' => ?_)
      · show Sg130_1 _; rw [HSg130_1.out]; trivial
      clear hK K hHeld
      have hHeld := hHeld'
      clear hHeld'
      try simp only [Act.put, List.setIfInBounds_toArray, List.set_cons_zero, List.set_cons_succ]
      refine heldp_take (v := ?_) 20 1 rfl (by kernel_rfl) (.inl ⟨by rfl, ?_⟩) hHeld ?_
      rotate_left
      · intro w hSw; replace hSw : Sg130_1 w := hSw; rw [HSg130_1.out] at hSw; (try dsimp only at hSw); first | (go_simp; done) | (go_simp; with_reducible rfl)
      try simp only [Act.put, List.setIfInBounds_toArray, List.set_cons_zero, List.set_cons_succ]
      refine heldp_done (by kernel_rfl) ?_
      try clear hHeld
      clear HSg130_0
      try clear Sg130_0
      clear HSg130_1
      try clear Sg130_1
      clear q1 q2 q3 q4 k1 k2 k3 k4 z1 z2 z3 z4
      go_wp2
      go_meet
      exact ⟨gt, uo, uc, tl, tc, oo, oc, rfl, rfl, T, TU, HF, HGT.out.1, HPA⟩
  case rest =>
    obtain ⟨gt, uo, uc, tl, tc, oo, oc, rfl, rfl, T, TU, F, hgt, HPA⟩ := hcut
    clear c1 c2 c3 c4 c5 c6 e0 Hadm
    generalize wc = W1 at *
    have HR1 := Lib.hid (HR.out.fr0 F.out)
    have c1 : W1.cell? ⟨p, 1, none⟩ = some (.slice (some ⟨gq, oq, none⟩) n cq) := cell_of_block HR1.out.cell rfl
    have c2 : W1.cell? ⟨p, 2, none⟩ = some (.int .i64 (r.at_ : Int)) := cell_of_block HR1.out.cell rfl
    have t0 : W1.cell? ⟨gt, 0, none⟩ = some (.int .i64 r.own) := cell_of_block T.out rfl
    have t1 : W1.cell? ⟨gt, 1, none⟩ = some (.int .i64 R.next) := cell_of_block T.out rfl
    have t2 : W1.cell? ⟨gt, 2, none⟩ = some (.slice uo un uc) := cell_of_block T.out rfl
    have t3 : W1.cell? ⟨gt, 3, none⟩ = some (.slice tl tn tc) := cell_of_block T.out rfl
    go_upto_region 2 with (fail)
    obtain ⟨Sg378_0, HSg378_0⟩ : ∃ S : World → Prop, Hid (S = (fun w' => w'.cell? ⟨p, 1, none⟩ = some (.slice (some ⟨gq, oq, none⟩) n cq) ∧ w'.cell? ⟨p, 2, none⟩ = some (.int .i64 (r.at_ : Int)) ∧ w'.cell? ⟨gt, 0, none⟩ = some (.int .i64 r.own) ∧ w'.cell? ⟨gt, 1, none⟩ = some (.int .i64 R.next) ∧ w'.cell? ⟨gt, 2, none⟩ = some (.slice uo un uc) ∧ w'.cell? ⟨gt, 3, none⟩ = some (.slice tl tn tc))) := ⟨_, Lib.hid rfl⟩
    obtain ⟨Sg378_1, HSg378_1⟩ : ∃ S : World → Prop, Hid (S = (fun _ => True)) := ⟨_, Lib.hid rfl⟩
    obtain ⟨Sg378_2, HSg378_2⟩ : ∃ S : World → Prop, Hid (S = (fun _ => True)) := ⟨_, Lib.hid rfl⟩
    refine wp_heldp [12, 14] (pickS [Sg378_0, Sg378_1, Sg378_2]) (by kernel_rfl) ?_ (fun hHeld => ?_)
    · show Sg378_0 _; rw [HSg378_0.out]; exact ⟨c1, c2, t0, t1, t2, t3⟩
    obtain ⟨wc, hwc⟩ : ∃ x, W1.drew = x := ⟨_, rfl⟩; rw [hwc] at hHeld; rw [hwc]; have HF : Hid (Fr no W1 wc) := (by rw [← hwc]; exact Lib.hid ((Fr.refl no W1).drewN 1)); clear hwc
    refine heldp_take (v := ?_) 0 0 rfl (by kernel_rfl) (.inl ⟨by rfl, ?_⟩) hHeld ?_
    rotate_left
    · intro w hSw; replace hSw : Sg378_0 w := hSw; rw [HSg378_0.out] at hSw; (try dsimp only at hSw); first | (go_simp; done) | (go_simp; with_reducible rfl)
    try simp only [Act.put, List.setIfInBounds_toArray, List.set_cons_zero, List.set_cons_succ]
    refine heldp_free (v := ?_) 1 0 rfl (by kernel_rfl) (.inl ⟨by rfl, ?_⟩) hHeld ?_
    rotate_left
    · intro w hSw; clear hSw; first | (go_simp; done) | (go_simp; with_reducible rfl)
    try simp only [Act.put, List.setIfInBounds_toArray, List.set_cons_zero, List.set_cons_succ]
    refine heldp_free (v := ?_) 2 0 rfl (by kernel_rfl) (.inl ⟨by rfl, ?_⟩) hHeld ?_
    rotate_left
    · intro w hSw; clear hSw; first | (go_simp; done) | (go_simp; with_reducible rfl)
    try simp only [Act.put, List.setIfInBounds_toArray, List.set_cons_zero, List.set_cons_succ]
    refine heldp_free (v := ?_) 3 0 rfl (by kernel_rfl) (.inl ⟨by rfl, ?_⟩) hHeld ?_
    rotate_left
    · intro w hSw; clear hSw; first | (go_simp; done) | (go_simp; with_reducible rfl)
    try simp only [Act.put, List.setIfInBounds_toArray, List.set_cons_zero, List.set_cons_succ]
    refine heldp_take (v := ?_) 4 0 rfl (by kernel_rfl) (.inl ⟨by rfl, ?_⟩) hHeld ?_
    rotate_left
    · intro w hSw; replace hSw : Sg378_0 w := hSw; rw [HSg378_0.out] at hSw; (try dsimp only at hSw); first | (go_simp; done) | (go_simp; with_reducible rfl)
    try simp only [Act.put, List.setIfInBounds_toArray, List.set_cons_zero, List.set_cons_succ]
    refine heldp_free (v := ?_) 5 0 rfl (by kernel_rfl) (.inl ⟨by rfl, ?_⟩) hHeld ?_
    rotate_left
    · intro w hSw; clear hSw; first | (go_simp; done) | (go_simp; with_reducible rfl)
    try simp only [Act.put, List.setIfInBounds_toArray, List.set_cons_zero, List.set_cons_succ]
    refine heldp_free (v := ?_) 6 0 rfl (by kernel_rfl) (.inl ⟨by rfl, ?_⟩) hHeld ?_
    rotate_left
    · intro w hSw; clear hSw; first | (go_simp; done) | (go_simp; with_reducible rfl)
    try simp only [Act.put, List.setIfInBounds_toArray, List.set_cons_zero, List.set_cons_succ]
    refine heldp_free (v := ?_) 7 0 rfl (by kernel_rfl) (.inl ⟨by rfl, ?_⟩) hHeld ?_
    rotate_left
    · intro w hSw; clear hSw; first | (go_simp; done) | (go_simp; with_reducible rfl)
    try simp only [Act.put, List.setIfInBounds_toArray, List.set_cons_zero, List.set_cons_succ]
    refine heldp_take (v := ?_) 8 0 rfl (by kernel_rfl) (.inl ⟨by rfl, ?_⟩) hHeld ?_
    rotate_left
    · intro w hSw; replace hSw : Sg378_0 w := hSw; rw [HSg378_0.out] at hSw; (try dsimp only at hSw); first | (go_simp; done) | (go_simp; with_reducible rfl)
    try simp only [Act.put, List.setIfInBounds_toArray, List.set_cons_zero, List.set_cons_succ]
    refine heldp_take (v := ?_) 9 0 rfl (by kernel_rfl) (.inl ⟨by rfl, ?_⟩) hHeld ?_
    rotate_left
    · intro w hSw; replace hSw : Sg378_0 w := hSw; rw [HSg378_0.out] at hSw; (try dsimp only at hSw); first | (go_simp; done) | (go_simp; with_reducible rfl)
    try simp only [Act.put, List.setIfInBounds_toArray, List.set_cons_zero, List.set_cons_succ]
    refine heldp_free (v := ?_) 10 0 rfl (by kernel_rfl) (.inl ⟨by rfl, ?_⟩) hHeld ?_
    rotate_left
    · intro w hSw; clear hSw; first | (go_simp; done) | (go_simp; with_reducible rfl)
    try simp only [Act.put, List.setIfInBounds_toArray, List.set_cons_zero, List.set_cons_succ]
    refine heldp_take (v := ?_) 11 0 rfl (by kernel_rfl) (.inl ⟨by rfl, ?_⟩) hHeld ?_
    rotate_left
    · intro w hSw; replace hSw : Sg378_0 w := hSw; rw [HSg378_0.out] at hSw; (try dsimp only at hSw); first | (go_simp; done) | (go_simp; with_reducible rfl)
    try simp only [Act.put, List.setIfInBounds_toArray, List.set_cons_zero, List.set_cons_succ]
    refine heldp_call 12 1 rfl (by kernel_rfl) (fun K hK => ?_)
    rw [if_pos (by rfl)]
    have HRb := Lib.hid (HR1.out.fr0 HF.out)
    obtain ⟨x1, x2, x3, x4, q1, q2, q3, q4, k1, k2, k3, k4, z1, z2, z3, z4, hb4, hf4⟩ := set7t HRb.out.cell (.int .i64 r.own) (.int .i64 R.next) (.slice uo un uc) (.slice tl tn tc)
    have P := Lib.hid hb4
    have FP := Lib.hid hf4
    clear hb4 hf4
    go_simp
    refine hK.out _ _ ?_ (fun hHeld' => ?_)
    · show Sg378_1 _; rw [HSg378_1.out]; trivial
    clear hK K hHeld
    have hHeld := hHeld'
    clear hHeld'
    try simp only [Act.put, List.setIfInBounds_toArray, List.set_cons_zero, List.set_cons_succ]
    refine heldp_take (v := ?_) 13 1 rfl (by kernel_rfl) (.inl ⟨by rfl, ?_⟩) hHeld ?_
    rotate_left
    · intro w hSw; replace hSw : Sg378_1 w := hSw; rw [HSg378_1.out] at hSw; (try dsimp only at hSw); first | (go_simp; done) | (go_simp; with_reducible rfl)
    try simp only [Act.put, List.setIfInBounds_toArray, List.set_cons_zero, List.set_cons_succ]
    refine heldp_call 14 2 rfl (by kernel_rfl) (fun K hK => ?_)
    rw [if_pos (by rfl)]
    clear q1 q2 q3 q4 k1 k2 k3 k4 z1 z2 z3 z4
    have hpq : gq ≠ p := fun e => HRb.out.ap1 (by rw [e]; rfl)
    obtain ⟨g', o', c', cs', he, _, _, hg', _, hx'⟩ := HRb.out.qsl.form (by rw [Hn.out]; omega)
    rw [Hn.out] at he
    cases he
    have hgx := FP.out.heap hg' hpq
    have ce : x4.cell? ⟨gq, oq + r.at_, none⟩ = some (.slice vo m vc) := cell_of_block hgx (hx' r.at_ _ hv)
    have fe : x4.frozen? ⟨gq, oq + r.at_, none⟩ = false := frozen_of_block hgx
    obtain ⟨w3, hw3⟩ : ∃ w3, x4.setCell ⟨gq, oq + r.at_, none⟩ (.slice none 0 0) = w3 := ⟨_, rfl⟩
    have P3 := Lib.hid ((fr_set x4 gq (oq + r.at_) (.slice none 0 0)).heap P.out hpq.symm)
    rw [hw3] at P3
    clear hg' hx' hgx
    go_simp
    refine hK.out _ _ ?_ (fun hHeld' => ?_)
    · show Sg378_2 _; rw [HSg378_2.out]; trivial
    clear hK K hHeld
    have hHeld := hHeld'
    clear hHeld'
    try simp only [Act.put, List.setIfInBounds_toArray, List.set_cons_zero, List.set_cons_succ]
    refine heldp_done (by kernel_rfl) ?_
    try clear hHeld
    clear HSg378_0
    try clear Sg378_0
    clear HSg378_1
    try clear Sg378_1
    clear HSg378_2
    try clear Sg378_2
    clear c1 c2 t0 t1 t2 t3 ce fe
    have HW3 := Lib.hid hw3
    clear hw3
    have c1 : w3.cell? ⟨p, 1, none⟩ = some (.slice (some ⟨gq, oq, none⟩) n cq) := cell_of_block P3.out rfl
    have c2 : w3.cell? ⟨p, 2, none⟩ = some (.int .i64 (r.at_ : Int)) := cell_of_block P3.out rfl
    have hmod := HM.out
    have hnn : ¬ n = 0 := by omega
    have hwr : IntKind.i64.wrap ((r.at_ : Int) + 1) = (r.at_ : Int) + 1 := IntWalk.i64_in _ (by omega)
    go_upto_region 3 with (fail)
    obtain ⟨Sg488_0, HSg488_0⟩ : ∃ S : World → Prop, Hid (S = (fun w' => w'.cell? ⟨p, 1, none⟩ = some (.slice (some ⟨gq, oq, none⟩) n cq) ∧ w'.cell? ⟨p, 2, none⟩ = some (.int .i64 (r.at_ : Int)))) := ⟨_, Lib.hid rfl⟩
    obtain ⟨Sg488_1, HSg488_1⟩ : ∃ S : World → Prop, Hid (S = (fun _ => True)) := ⟨_, Lib.hid rfl⟩
    refine wp_heldp [14] (pickS [Sg488_0, Sg488_1]) (by kernel_rfl) ?_ (fun hHeld => ?_)
    · show Sg488_0 _; rw [HSg488_0.out]; exact ⟨c1, c2⟩
    obtain ⟨wb, hwb⟩ : ∃ x, w3.drew = x := ⟨_, rfl⟩; rw [hwb] at hHeld; rw [hwb]; have HFb : Hid (Fr no w3 wb) := (by rw [← hwb]; exact Lib.hid ((Fr.refl no w3).drewN 1)); clear hwb
    refine heldp_take (v := ?_) 0 0 rfl (by kernel_rfl) (.inl ⟨by rfl, ?_⟩) hHeld ?_
    rotate_left
    · intro w hSw; replace hSw : Sg488_0 w := hSw; rw [HSg488_0.out] at hSw; (try dsimp only at hSw); first | (go_simp; done) | (go_simp; with_reducible rfl)
    try simp only [Act.put, List.setIfInBounds_toArray, List.set_cons_zero, List.set_cons_succ]
    refine heldp_take (v := ?_) 1 0 rfl (by kernel_rfl) (.inl ⟨by rfl, ?_⟩) hHeld ?_
    rotate_left
    · intro w hSw; replace hSw : Sg488_0 w := hSw; rw [HSg488_0.out] at hSw; (try dsimp only at hSw); first | (go_simp; done) | (go_simp; with_reducible rfl)
    try simp only [Act.put, List.setIfInBounds_toArray, List.set_cons_zero, List.set_cons_succ]
    refine heldp_take (v := ?_) 2 0 rfl (by kernel_rfl) (.inl ⟨by rfl, ?_⟩) hHeld ?_
    rotate_left
    · intro w hSw; replace hSw : Sg488_0 w := hSw; rw [HSg488_0.out] at hSw; (try dsimp only at hSw); first | (go_simp; done) | (go_simp; with_reducible rfl)
    try simp only [Act.put, List.setIfInBounds_toArray, List.set_cons_zero, List.set_cons_succ]
    refine heldp_take (v := ?_) 3 0 rfl (by kernel_rfl) (.inl ⟨by rfl, ?_⟩) hHeld ?_
    rotate_left
    · intro w hSw; replace hSw : Sg488_0 w := hSw; rw [HSg488_0.out] at hSw; (try dsimp only at hSw); first | (go_simp; done) | (go_simp; with_reducible rfl)
    try simp only [Act.put, List.setIfInBounds_toArray, List.set_cons_zero, List.set_cons_succ]
    refine heldp_take (v := ?_) 4 0 rfl (by kernel_rfl) (.inl ⟨by rfl, ?_⟩) hHeld ?_
    rotate_left
    · intro w hSw; replace hSw : Sg488_0 w := hSw; rw [HSg488_0.out] at hSw; (try dsimp only at hSw); first | (go_simp; done) | (go_simp; with_reducible rfl)
    try simp only [Act.put, List.setIfInBounds_toArray, List.set_cons_zero, List.set_cons_succ]
    refine heldp_take (v := ?_) 5 0 rfl (by kernel_rfl) (.inl ⟨by rfl, ?_⟩) hHeld ?_
    rotate_left
    · intro w hSw; replace hSw : Sg488_0 w := hSw; rw [HSg488_0.out] at hSw; (try dsimp only at hSw); first | (go_simp; done) | (go_simp; with_reducible rfl)
    try simp only [Act.put, List.setIfInBounds_toArray, List.set_cons_zero, List.set_cons_succ]
    refine heldp_take (v := ?_) 6 0 rfl (by kernel_rfl) (.inl ⟨by rfl, ?_⟩) hHeld ?_
    rotate_left
    · intro w hSw; replace hSw : Sg488_0 w := hSw; rw [HSg488_0.out] at hSw; (try dsimp only at hSw); first | (go_simp; done) | (go_simp; with_reducible rfl)
    try simp only [Act.put, List.setIfInBounds_toArray, List.set_cons_zero, List.set_cons_succ]
    refine heldp_take (v := ?_) 7 0 rfl (by kernel_rfl) (.inl ⟨by rfl, ?_⟩) hHeld ?_
    rotate_left
    · intro w hSw; replace hSw : Sg488_0 w := hSw; rw [HSg488_0.out] at hSw; (try dsimp only at hSw); first | (go_simp; done) | (go_simp; with_reducible rfl)
    try simp only [Act.put, List.setIfInBounds_toArray, List.set_cons_zero, List.set_cons_succ]
    refine heldp_take (v := ?_) 8 0 rfl (by kernel_rfl) (.inl ⟨by rfl, ?_⟩) hHeld ?_
    rotate_left
    · intro w hSw; replace hSw : Sg488_0 w := hSw; rw [HSg488_0.out] at hSw; (try dsimp only at hSw); first | (go_simp; done) | (go_simp; with_reducible rfl)
    try simp only [Act.put, List.setIfInBounds_toArray, List.set_cons_zero, List.set_cons_succ]
    refine heldp_take (v := ?_) 9 0 rfl (by kernel_rfl) (.inl ⟨by rfl, ?_⟩) hHeld ?_
    rotate_left
    · intro w hSw; replace hSw : Sg488_0 w := hSw; rw [HSg488_0.out] at hSw; (try dsimp only at hSw); first | (go_simp; done) | (go_simp; with_reducible rfl)
    try simp only [Act.put, List.setIfInBounds_toArray, List.set_cons_zero, List.set_cons_succ]
    refine heldp_take (v := ?_) 10 0 rfl (by kernel_rfl) (.inl ⟨by rfl, ?_⟩) hHeld ?_
    rotate_left
    · intro w hSw; replace hSw : Sg488_0 w := hSw; rw [HSg488_0.out] at hSw; (try dsimp only at hSw); first | (go_simp; done) | (go_simp; with_reducible rfl)
    try simp only [Act.put, List.setIfInBounds_toArray, List.set_cons_zero, List.set_cons_succ]
    refine heldp_take (v := ?_) 11 0 rfl (by kernel_rfl) (.inl ⟨by rfl, ?_⟩) hHeld ?_
    rotate_left
    · intro w hSw; replace hSw : Sg488_0 w := hSw; rw [HSg488_0.out] at hSw; (try dsimp only at hSw); first | (go_simp; done) | (go_simp; with_reducible rfl)
    try simp only [Act.put, List.setIfInBounds_toArray, List.set_cons_zero, List.set_cons_succ]
    refine heldp_free (v := ?_) 12 0 rfl (by kernel_rfl) (.inl ⟨by rfl, ?_⟩) hHeld ?_
    rotate_left
    · intro w hSw; clear hSw; first | (go_simp; done) | (go_simp; with_reducible rfl)
    try simp only [Act.put, List.setIfInBounds_toArray, List.set_cons_zero, List.set_cons_succ]
    refine heldp_take (v := ?_) 13 0 rfl (by kernel_rfl) (.inl ⟨by rfl, ?_⟩) hHeld ?_
    rotate_left
    · intro w hSw; replace hSw : Sg488_0 w := hSw; rw [HSg488_0.out] at hSw; (try dsimp only at hSw); first | (go_simp; done) | (go_simp; with_reducible rfl)
    try simp only [Act.put, List.setIfInBounds_toArray, List.set_cons_zero, List.set_cons_succ]
    refine heldp_call 14 1 rfl (by kernel_rfl) (fun K hK => ?_)
    rw [if_pos (by rfl)]
    have hPb := HFb.out.heap P3.out (fun f => f)
    have ca : wb.cell? ⟨p, 2, none⟩ = some (.int .i64 (r.at_ : Int)) := cell_of_block hPb rfl
    have fa : wb.frozen? ⟨p, 2, none⟩ = false := frozen_of_block hPb
    obtain ⟨w4, hw4⟩ : ∃ w4, wb.setCell ⟨p, 2, none⟩ (.int .i64 (A : Int)) = w4 := ⟨_, rfl⟩
    have P4 := Lib.hid (show w4.heap[p]? = some (.cells #[.int .i64 r.room, .slice (some ⟨gq, oq, none⟩) n cq, .int .i64 (A : Int), .int .i64 r.own, .int .i64 R.next, .slice uo un uc, .slice tl tn tc] 80 (0, 0)) from by rw [← hw4]; simpa using heap_setC (j := 2) (.int .i64 (A : Int)) hPb)
    have F4 := Lib.hid (show Fr (fun i => i = p) w3 w4 from (HFb.out.mono (fun _ _ f => f.elim)).trans' (by rw [← hw4]; exact fr_set wb p 2 _))
    clear hPb
    go_simp
    refine hK.out _ _ ?_ (fun hHeld' => ?_)
    · show Sg488_1 _; rw [HSg488_1.out]; trivial
    clear hK K hHeld
    have hHeld := hHeld'
    clear hHeld'
    try simp only [Act.put, List.setIfInBounds_toArray, List.set_cons_zero, List.set_cons_succ]
    refine heldp_done (by kernel_rfl) ?_
    try clear hHeld
    clear HSg488_0
    try clear Sg488_0
    clear HSg488_1
    try clear Sg488_1
    clear c1 c2 ca fa hmod hw4 hwr
    have hTb := TU.out.fr (HF.out.mono (fun _ _ f => f.elim))
    have hto := tua_own HR.out hTb
    have hL := RgAt.turn (r := r) (r' := ⟨r.room, r.qs.set r.at_ [], A, r.own, R.next, R.seen, alate r.own R.seen R.left []⟩) (w := wc) (w4 := w4) (gq := gq) (oq := oq) (cq := cq) (sv' := .slice uo un uc) (lv' := .slice tl tn tc) (by rw [Hn.out]; exact HRb.out) (by rw [Hn.out]; exact hat) rfl (by rw [Hn.out]; exact hto.1) (by rw [Hn.out]; exact hto.2) Hlate.out FP.out HW3.out F4.out (by rw [Hn.out]; exact P4.out)
    rw [Hn.out] at hL
    obtain ⟨hT1, hF1, hO1⟩ := hL
    have hRd : Rd w4 7 (.slice oo om oc) R.out.length (slCells R.out) := hTb.out.rd.fr hF1 (fun g hg _ e => by have := TU.out.ovo g hg; have := HR.out.lt g e; omega)
    have hFr := ((F.out.trans' HF.out).mono (fun _ _ f => f.elim)).trans' hF1
    have Hx := Lib.hid (And.intro hT1 (And.intro hRd (And.intro HPA.out (And.intro hFr hO1))))
    clear hTb hto hT1 hF1 hO1 hRd hFr HM
    go_wp2
    go_ret
    obtain ⟨y1, y2, y3, y4, y5⟩ := Hx.out
    exact ⟨_, _, _, _, rfl, y1, y2, y3, y4, y5, TU.out.svo, TU.out.tvo, TU.out.ovo⟩
end Go.Proofs.Ytlohbikkhojlaaa
