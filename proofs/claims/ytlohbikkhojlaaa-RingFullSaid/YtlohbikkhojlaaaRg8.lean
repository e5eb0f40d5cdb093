/- Package ring: Resize, walked. -/
import Derived.Test.YtlohbikkhojlaaaRg7
namespace Go.XL
open Go.RowKit Go.Shelf
theorem wpList_copyX {P : Program} (w : World) {ops : Array Oper} {rest : List Oper} {o : Oper} {a : Act} {Q : Exit → Act → World → Prop} (hgd : o.guard = none) (d s : Operand) (t t' : TypeId)
    (ho : o.op = .call { callee := .builtin .copy, args := #[d, s], argTypes := #[t, t'] }) (v u : Value) (hd : a.eval d = v) (hs : a.eval s = u) {v' : Value} {w' : World}
    (hr : (Builtin.copy_ #[t, t'] o.type #[v, u]).run P w = .ok v' w') (h : wpList P ops Q rest (a.put o.dst v') w') : wpList P ops Q (o :: rest) a w := by
  refine wpList_plain hgd fun K hK => ?_
  unfold Oper.wp execOp
  simp only [ho, resolve, invoke, builtin, Sem.run_bind, Sem.run_pure, Result.andThen_ok, List.map_toArray, List.map_cons, List.map_nil, hd, hs, hr]
  exact hK _ _ h
theorem flat_len {α : Type} {qs : List (List α)} {b : Nat} (h : ∀ l ∈ qs, l.length ≤ b) : qs.flatten.length ≤ qs.length * b := by
  induction qs with
  | nil => simp
  | cons x r ih =>
    have h1 := ih (fun l hl => h l (by simp [hl]))
    have h2 := h x (by simp)
    rw [List.flatten_cons, List.length_append, List.length_cons, Nat.succ_mul]
    omega
end Go.XL
namespace Go.Proofs.Ytlohbikkhojlaaa
open Go.RowKit Go.Shelf Go.XL
set_option linter.unusedVariables false
set_option linter.unusedSimpArgs false
attribute [local go_sem] Oper.semAt_some
set_option maxRecDepth 10000 in
set_option maxHeartbeats 4000000 in
theorem ring_resize (p : Nat) (r : Rg) (qv sv lv : Value) (vs : List Value) (N : Nat) (w : World) (h : RgT w p r qv sv lv vs) (hN : 1 ≤ N ∧ N ≤ 8) (hq1 : 1 ≤ r.qs.length) (hq8 : r.qs.length ≤ 8) (hl8 : ∀ l ∈ r.qs, l.length ≤ 1000) :
    Calls Try.prog 16 #[.pointer (some ⟨p, 0, none⟩), .int .i64 (N : Int)] w fun e w' => ∃ qv' vs', e = .returned (.int .i64 0) ∧ RgT w' p (rresize r N) qv' sv lv vs' ∧ Fr (RgOwn p qv vs) w w' ∧
      (∀ g, RgOwn p qv' vs' g → RgOwn p qv vs g ∨ w.heap.size ≤ g) := by
  obtain ⟨qo, cq, rfl, hqc, hqm⟩ := h.qsl.cap
  obtain ⟨n, hn⟩ : ∃ n, r.qs.length = n := ⟨_, rfl⟩
  have hq := h.qsl
  have hvl := h.vlen
  rw [hn] at h hqc hq1 hq8 hq hvl ⊢
  have Hn := Lib.hid hn
  obtain ⟨i0, hi, hz0, hz1, hz2⟩ := info_parts (show (Try.prog.info? 41).map (fun i => (i.zero, i.size, i.bytes)) = some (some (.slice none 0 0), 1, 24) by kernel_rfl)
  obtain ⟨w2, hmk, ho, hg⟩ := run_makeSlice_full (P := Try.prog) w w.heap.size 78 41 i0 _ 1 Try.underlying78 hi hz0 hz1 .i64 .i64 N (by omega) (by rw [hz2]; omega) (by unfold maxLen; omega) (Nat.le_refl _)
  have hs := Sl.of_ownsRow ho
  rw [show (Value.slice none 0 0).cells = #[Value.slice none 0 0] from rfl, Nat.mul_one, toList_madeCells_one] at hs
  have hf2 : Fr no w w2 := (Fr.refl no w).grown hg (fun _ h => by cases h)
  obtain ⟨g, hgw⟩ : ∃ g, w.heap.size = g := ⟨_, rfl⟩
  rw [hgw] at hs hmk
  have hlt2 := hs.lt g rfl
  have hvs1 : ∀ v ∈ vs, v.oneCell' = true := fun v hv => by
    obtain ⟨i, hi⟩ := List.getElem?_of_mem hv
    have hil : i < r.qs.length := by rw [hn, ← hvl]; exact (List.getElem?_eq_some_iff.1 hi).1
    obtain ⟨a, c, e, _, _⟩ := (h.q i v r.qs[i] hi (by simp [hil])).cap
    rw [e]; rfl
  have hqg : (Value.slice qo n cq).ownBlock ≠ some g := fun e => by have := hq.lt g e; omega
  obtain ⟨w3, hcp, hs3, hf3⟩ := copy_rows (P := Try.prog) (ST := 78) (QT := 41) (C := 0) Try.underlying78 (by rw [hi]; simp [hz1]) 3 hs (by omega) ((hq.fr hf2 (fun _ _ f => f)).rd) (by omega) hvs1 hqg
  have hf23 : Fr no w w3 := hf2.trans hf3 (fun i hi e => by omega)
  have hR3 := h.fr0 hf23
  have HR := Lib.hid h
  have HR2 := Lib.hid (h.fr0 hf2)
  have HR3 := Lib.hid hR3
  have HS3 := Lib.hid hs3
  have HF := Lib.hid hf23
  have HL8 := Lib.hid hl8
  have HCP := Lib.hid hcp
  have n1 : ¬ ((N : Int) < 1) := by omega
  have n2 : ¬ ((8 : Int) < (N : Int)) := by omega
  clear h hq ho hg hs hf2 hf3 hf23 hR3 hs3 hl8 hvs1 hqg hcp hi hz0 hz1 hz2 hn
  go_enter Try.func16, Try.ntmps16
  go_upto_region 4 with (fail)
  clear hmk
  have c1 : w2.cell? ⟨p, 1, none⟩ = some (.slice qo n cq) := cell_of_block HR2.out.cell rfl
  have hcp := HCP.out
  go_upto_region 5 with (fail)
  clear hcp c1 HCP
  have c1 : w3.cell? ⟨p, 1, none⟩ = some (.slice qo n cq) := cell_of_block HR3.out.cell rfl
  by_cases hlt : N < n
  · have hlt' : (N : Int) < (n : Int) := by omega
    obtain ⟨l0, hl0⟩ : ∃ l, r.qs[0]? = some l := ⟨r.qs[0]'(by rw [Hn.out]; omega), by simp⟩
    obtain ⟨v0, hv0⟩ : ∃ v, vs[0]? = some v := ⟨vs[0]'(by omega), by simp⟩
    obtain ⟨vo, vc, rfl, _, _⟩ := (HR.out.q 0 v0 l0 hv0 hl0).cap
    obtain ⟨m, hm⟩ : ∃ m, l0.length = m := ⟨_, rfl⟩
    have Hm := Lib.hid hm
    have hl0m := List.mem_of_getElem? hl0
    have hm1 : m ≤ 1000 := by rw [← hm]; exact HL8.out l0 hl0m
    rw [hm] at hv0
    have hfl := flat_len (qs := r.qs.drop N) (b := 1000) (fun l hl => HL8.out l (List.mem_of_mem_drop hl))
    have hfl2 : (r.qs.drop N).flatten.length ≤ 8000 := by rw [List.length_drop, Hn.out] at hfl; omega
    have e0 : w3.cell? ⟨g, 0, none⟩ = some (.slice vo m vc) := by
      obtain ⟨g', o', c', cs, he, _, _, hgh, _, hx⟩ := HS3.out.form (by omega)
      cases he
      have := hx 0 (.slice vo m vc) (by rw [List.getElem?_append_left (by rw [List.length_take]; omega), List.getElem?_take_of_lt (by omega)]; exact hv0)
      exact cell_of_block hgh this
    have hcl := clone_drafts (.slice vo m vc) m (drCells l0) w3 (by have := (HR3.out.q 0 (.slice vo l0.length vc) l0 (by rw [hm]; exact hv0) hl0).rd; rw [hm] at this; exact this) (drCells_one (fun d hd => HR3.out.drok (.inr ⟨l0, hl0m, hd⟩))) (by omega)
    have Hv0 := Lib.hid hv0
    have Hl0 := Lib.hid hl0
    have Hlm := Lib.hid hl0m
    have Hcl := Lib.hid hcl
    clear hcl hv0 hl0 hl0m hm hfl
    go_wp2_with fail
    refine Hcl.out.mono ?_
    rintro e w4 ⟨ao4, cap4, rfl, hO4⟩
    have HO4 := Lib.hid hO4
    clear hO4 Hcl e0 c1
    have hal := ring_all p (N : Int) w4
    have Hal := Lib.hid hal
    clear hal
    go_wp2_with fail
    refine Hal.out.mono ?_
    rintro e w5 ⟨rfl, hw5⟩
    have hf5 : Fr no w4 w5 := by rw [← hw5]; exact ((Fr.refl no w4).alloc _).alloc _
    have hb1 : w5.heap[w4.heap.size]? = some (.cells #[.pointer (some ⟨p, 0, none⟩)] 24 (0, 0)) := by rw [← hw5]; simp only [alloc_get, World.size_alloc]; simp
    have hb2 : w5.heap[w4.heap.size + 1]? = some (.cells #[.int .i64 (N : Int)] 3 (0, 0)) := by rw [← hw5]; simp only [alloc_get, World.size_alloc]; simp
    clear hw5 Hal
    have hO4 := HO4.out
    have hlt4 := hO4.sl.lt
    have has := append_seq (gf := 52) (lb := #[.pointer (some ⟨w4.heap.size, 0, none⟩), .pointer (some ⟨w4.heap.size + 1, 0, none⟩)]) (.slice ao4 m cap4) l0 ((r.qs.drop N).flatten) w5 (enters_of Try.func52 (by kernel_rfl) rfl)
      (rgall_iter w4.heap.size (w4.heap.size + 1) p r (.slice qo n cq) sv lv vs N (by rw [Hn.out]; omega) (by rw [Hn.out]; omega) HL8.out) (by rw [Hm.out]; exact hO4.sl.fr hf5 (fun _ _ f => f))
      (fun W hW => ⟨cell_of_block (hW.heap hb1 (fun e => by have := hlt4 _ e; omega)) rfl, cell_of_block (hW.heap hb2 (fun e => by have := hlt4 _ e; omega)) rfl, HR3.out.fr0 ((hO4.fr.trans' hf5).trans hW (fun i hi e => by have := hO4.fresh i e; omega))⟩)
      (fun W hW d hd => hW.2.2.drok (.inr (by obtain ⟨l, hl, hd⟩ := List.mem_flatten.1 hd; exact ⟨l, List.mem_of_mem_drop hl, hd⟩))) (by rw [Hm.out]; omega) (by omega)
    rw [Hm.out] at has
    obtain ⟨A, hA⟩ : ∃ A, (r.qs.drop N).flatten.length = A := ⟨_, rfl⟩
    rw [hA] at has
    have Has := Lib.hid has
    have HF5 := Lib.hid (hO4.fr.trans' hf5)
    have HA := Lib.hid hA
    clear has hf5 hb1 hb2 hlt4 hO4 hA
    generalize w4.heap.size = g4 at *
    go_wp2_with fail
    refine Has.out.mono ?_
    rintro e w6 ⟨ao6, cap6, rfl, hs6, hf6, ho6⟩
    have hg3 := HS3.out.lt g rfl
    have hF36 : Fr no w3 w6 := HF5.out.trans hf6 (fun i hi e => by have := HO4.out.fresh i e; omega)
    have hS6 := HS3.out.fr hF36 (fun _ _ f => f)
    have hown6 : ∀ k, Value.ownBlock (.slice ao6 (m + A) cap6) = some k → w3.heap.size ≤ k := fun k hk => by
      rcases ho6 with e | e
      · exact HO4.out.fresh k (by rw [← e]; exact hk)
      · have := e k hk; have := HF5.out.size; omega
    obtain ⟨g', o', c', cs, he, _, _, hgh, _, hx⟩ := hS6.form (by omega)
    cases he
    have e0 : w6.cell? ⟨g, 0, none⟩ = some (.slice vo m vc) := by
      have := hx 0 (.slice vo m vc) (by rw [List.getElem?_append_left (by rw [List.length_take]; omega), List.getElem?_take_of_lt (by omega)]; exact Hv0.out)
      exact cell_of_block hgh this
    have z0 : w6.frozen? ⟨g, 0, none⟩ = false := frozen_of_block hgh
    obtain ⟨w7, hw7⟩ : ∃ U, w6.setCell ⟨g, 0, none⟩ (.slice ao6 (m + A) cap6) = U := ⟨_, rfl⟩
    have hst : Fr (fun i => i = g) w6 w7 := by rw [← hw7]; exact fr_set w6 g 0 _
    have hS7 := hS6.set 0 (by omega) (.slice ao6 (m + A) cap6)
    rw [Nat.add_zero, hw7] at hS7
    have H7 := Lib.hid hS7
    have HA6 := Lib.hid (hs6.fr hst (fun k hk e => by have := hown6 k hk; omega))
    have HO6 := Lib.hid hown6
    have F7 := Lib.hid ((HF.out.trans' hF36).trans hst (fun i hi e => by omega))
    have HW7 := Lib.hid hw7
    clear hs6 hf6 ho6 hF36 hS6 hown6 hgh hx hst hS7 hw7 Has
    go_upto_region 7 with (fail)
    rw [HW7.out]
    clear HW7 e0 z0
    have HZ := Lib.hid (rz_less (m := m) (A := A) (B := w3.heap.size) HR.out Hn.out hlt (by omega) Hl0.out Hm.out HA.out F7.out HF.out.size hg3 H7.out HA6.out HO6.out)
    have hqs : (rresize r N).qs = (r.qs.take N).set 0 (l0 ++ (r.qs.drop N).flatten) := by unfold rresize; dsimp only; rw [Hn.out, if_pos hlt, Hl0.out]; rfl
    have HQS := Lib.hid hqs
    clear hqs H7 HA6 HO6 HO4 HF5 F7 Hv0 Hl0 Hlm HA
    have HR7 := Lib.hid (HR.out.fr0 HZ.out.f7)
    have b1 : w7.cell? ⟨p, 1, none⟩ = some (.slice qo n cq) := cell_of_block HR7.out.cell rfl
    have z1 : w7.frozen? ⟨p, 1, none⟩ = false := frozen_of_block HR7.out.cell
    obtain ⟨w8, hw8⟩ : ∃ U, w7.setCell ⟨p, 1, none⟩ (.slice (some ⟨g, 0, none⟩) N N) = U := ⟨_, rfl⟩
    have hb8 : w8.heap[p]? = some (.cells #[.int .i64 r.room, .slice (some ⟨g, 0, none⟩) N N, .int .i64 (r.at_ : Int), .int .i64 r.own, .int .i64 r.next, sv, lv] 80 (0, 0)) := by rw [← hw8]; simpa using heap_setC (j := 1) (.slice (some ⟨g, 0, none⟩) N N) HR7.out.cell
    have F8 := Lib.hid (show Fr (fun i => i = p) w7 w8 from by rw [← hw8]; exact fr_set w7 p 1 _)
    have HB8 := Lib.hid hb8
    have HW8 := Lib.hid hw8
    clear hb8 hw8
    go_upto_region 8 with (fail)
    rw [HW8.out]
    clear HW8 b1 z1
    have b2 : w8.cell? ⟨p, 2, none⟩ = some (.int .i64 (r.at_ : Int)) := cell_of_block HB8.out rfl
    have z2 : w8.frozen? ⟨p, 2, none⟩ = false := frozen_of_block HB8.out
    by_cases hat : N ≤ r.at_
    · have hat' : (N : Int) ≤ (r.at_ : Int) := by omega
      have hb9 : (w8.setCell ⟨p, 2, none⟩ (.int .i64 0)).heap[p]? = some (.cells #[.int .i64 r.room, .slice (some ⟨g, 0, none⟩) N N, .int .i64 ((0 : Nat) : Int), .int .i64 r.own, .int .i64 r.next, sv, lv] 80 (0, 0)) := by simpa using heap_setC (j := 2) (.int .i64 0) HB8.out
      have hZ := RgAt.resize (at' := 0) HR.out (Nat.le_of_eq hgw) HZ.out.f7 HZ.out.sl7 HZ.out.hN HZ.out.q7 HZ.out.hX HZ.out.h3 HZ.out.hd (F8.out.trans' (fr_set w8 p 2 (.int .i64 0))) hb9
      have hres : rresize r N = { r with qs := (rresize r N).qs, at_ := 0 } := by unfold rresize; dsimp only; rw [if_pos hat]
      rw [HQS.out] at hres
      have Hres := Lib.hid hres
      rw [hgw] at hZ
      have HZZ := Lib.hid hZ
      clear hZ hres hb9
      go_wp2
      go_ret
      rw [Hres.out]
      first | exact ⟨_, _, rfl, HZZ.out.1, HZZ.out.2.1, fun k hk => (HZZ.out.2.2 k hk).imp id (fun h => by omega)⟩ | exact ⟨rfl, _, _, HZZ.out.1, HZZ.out.2.1, fun k hk => (HZZ.out.2.2 k hk).imp id (fun h => by omega)⟩
    · have hat' : ¬ (N : Int) ≤ (r.at_ : Int) := by omega
      have hZ := RgAt.resize (at' := r.at_) HR.out (Nat.le_of_eq hgw) HZ.out.f7 HZ.out.sl7 HZ.out.hN HZ.out.q7 HZ.out.hX HZ.out.h3 HZ.out.hd F8.out HB8.out
      have hres : rresize r N = { r with qs := (rresize r N).qs, at_ := r.at_ } := by unfold rresize; dsimp only; rw [if_neg hat]
      rw [HQS.out] at hres
      have Hres := Lib.hid hres
      rw [hgw] at hZ
      have HZZ := Lib.hid hZ
      clear hZ hres
      go_wp2
      go_ret
      rw [Hres.out]
      first | exact ⟨_, _, rfl, HZZ.out.1, HZZ.out.2.1, fun k hk => (HZZ.out.2.2 k hk).imp id (fun h => by omega)⟩ | exact ⟨rfl, _, _, HZZ.out.1, HZZ.out.2.1, fun k hk => (HZZ.out.2.2 k hk).imp id (fun h => by omega)⟩
  · have hlt' : ¬ (N : Int) < (n : Int) := by omega
    have HZ := Lib.hid (rz_more HR.out Hn.out hlt HF.out HS3.out)
    have hqs : (rresize r N).qs = r.qs ++ List.replicate (N - n) [] := by unfold rresize; dsimp only; rw [Hn.out, if_neg hlt]
    have HQS := Lib.hid hqs
    clear hqs
    go_upto_region 7 with (fail)
    clear c1 HR3 HS3 HF
    generalize w3 = w7 at *
    have HR7 := Lib.hid (HR.out.fr0 HZ.out.f7)
    have b1 : w7.cell? ⟨p, 1, none⟩ = some (.slice qo n cq) := cell_of_block HR7.out.cell rfl
    have z1 : w7.frozen? ⟨p, 1, none⟩ = false := frozen_of_block HR7.out.cell
    obtain ⟨w8, hw8⟩ : ∃ U, w7.setCell ⟨p, 1, none⟩ (.slice (some ⟨g, 0, none⟩) N N) = U := ⟨_, rfl⟩
    have hb8 : w8.heap[p]? = some (.cells #[.int .i64 r.room, .slice (some ⟨g, 0, none⟩) N N, .int .i64 (r.at_ : Int), .int .i64 r.own, .int .i64 r.next, sv, lv] 80 (0, 0)) := by rw [← hw8]; simpa using heap_setC (j := 1) (.slice (some ⟨g, 0, none⟩) N N) HR7.out.cell
    have F8 := Lib.hid (show Fr (fun i => i = p) w7 w8 from by rw [← hw8]; exact fr_set w7 p 1 _)
    have HB8 := Lib.hid hb8
    have HW8 := Lib.hid hw8
    clear hb8 hw8
    go_upto_region 8 with (fail)
    rw [HW8.out]
    clear HW8 b1 z1
    have b2 : w8.cell? ⟨p, 2, none⟩ = some (.int .i64 (r.at_ : Int)) := cell_of_block HB8.out rfl
    have z2 : w8.frozen? ⟨p, 2, none⟩ = false := frozen_of_block HB8.out
    by_cases hat : N ≤ r.at_
    · have hat' : (N : Int) ≤ (r.at_ : Int) := by omega
      have hb9 : (w8.setCell ⟨p, 2, none⟩ (.int .i64 0)).heap[p]? = some (.cells #[.int .i64 r.room, .slice (some ⟨g, 0, none⟩) N N, .int .i64 ((0 : Nat) : Int), .int .i64 r.own, .int .i64 r.next, sv, lv] 80 (0, 0)) := by simpa using heap_setC (j := 2) (.int .i64 0) HB8.out
      have hZ := RgAt.resize (at' := 0) HR.out (Nat.le_of_eq hgw) HZ.out.f7 HZ.out.sl7 HZ.out.hN HZ.out.q7 HZ.out.hX HZ.out.h3 HZ.out.hd (F8.out.trans' (fr_set w8 p 2 (.int .i64 0))) hb9
      have hres : rresize r N = { r with qs := (rresize r N).qs, at_ := 0 } := by unfold rresize; dsimp only; rw [if_pos hat]
      rw [HQS.out] at hres
      have Hres := Lib.hid hres
      rw [hgw] at hZ
      have HZZ := Lib.hid hZ
      clear hZ hres hb9
      go_wp2
      go_ret
      rw [Hres.out]
      first | exact ⟨_, _, rfl, HZZ.out.1, HZZ.out.2.1, fun k hk => (HZZ.out.2.2 k hk).imp id (fun h => by omega)⟩ | exact ⟨rfl, _, _, HZZ.out.1, HZZ.out.2.1, fun k hk => (HZZ.out.2.2 k hk).imp id (fun h => by omega)⟩
    · have hat' : ¬ (N : Int) ≤ (r.at_ : Int) := by omega
      have hZ := RgAt.resize (at' := r.at_) HR.out (Nat.le_of_eq hgw) HZ.out.f7 HZ.out.sl7 HZ.out.hN HZ.out.q7 HZ.out.hX HZ.out.h3 HZ.out.hd F8.out HB8.out
      have hres : rresize r N = { r with qs := (rresize r N).qs, at_ := r.at_ } := by unfold rresize; dsimp only; rw [if_neg hat]
      rw [HQS.out] at hres
      have Hres := Lib.hid hres
      rw [hgw] at hZ
      have HZZ := Lib.hid hZ
      clear hZ hres
      go_wp2
      go_ret
      rw [Hres.out]
      first | exact ⟨_, _, rfl, HZZ.out.1, HZZ.out.2.1, fun k hk => (HZZ.out.2.2 k hk).imp id (fun h => by omega)⟩ | exact ⟨rfl, _, _, HZZ.out.1, HZZ.out.2.1, fun k hk => (HZZ.out.2.2 k hk).imp id (fun h => by omega)⟩
end Go.Proofs.Ytlohbikkhojlaaa
