/- Package ring: New, Put, At. -/
import Derived.Test.YtlohbikkhojlaaaRg0
import Derived.Test.YtlohbikkhojlaaaHeld2
import Derived.Laws.OwnMore
namespace Go.XL
open Go.RowKit Go.Shelf
set_option linter.unusedVariables false
set_option linter.unusedSimpArgs false
def rput (r : Rg) (q : Int) (d : Dr) : Rg × Int :=
  if q < 0 ∨ (r.qs.length : Int) ≤ q then (r, 1)
  else if r.room ≤ ((r.qs[q.toNat]?.getD []).length : Int) ∨ (64 ≤ r.late.length ∧ dmay r.own r.seen d = false) then (r, 6)
  else ({ r with qs := r.qs.set q.toNat ((r.qs[q.toNat]?.getD []) ++ [d]) }, 0)
theorem rd_litD (w : World) (E : TypeId) (xs : List Value) (n : Nat) (hn : xs.length = n) : Rd (w.alloc (.cells xs.toArray E)) n (.slice (some ⟨w.heap.size, 0, none⟩) 1 1) 1 xs := by
  refine ⟨by omega, _, 1, rfl, Nat.le_refl _, by simp [maxLen], by simp, fun h0 => ⟨w.heap.size, 0, rfl, fun j u hj => ?_⟩⟩
  exact cell_of_block (World.alloc_heap_new w (.cells xs.toArray E)) (by simpa using hj)
theorem own_put {p : Nat} {qv v v' : Value} {vs : List Value} {i B C : Nat} (hv : vs[i]? = some v) (hor : v'.ownBlock = v.ownBlock ∨ ∀ g, v'.ownBlock = some g → C ≤ g) (hB : B ≤ C) :
    ∀ g, RgOwn p qv (vs.set i v') g → RgOwn p qv vs g ∨ B ≤ g := by
  rintro g (e | e | ⟨u, hu, e⟩)
  · exact .inl (.inl e)
  · exact .inl (.inr (.inl e))
  · rcases List.mem_or_eq_of_mem_set hu with hu | rfl
    · exact .inl (.inr (.inr ⟨u, hu, e⟩))
    · rcases hor with e1 | e1
      · exact .inl (.inr (.inr ⟨v, List.mem_of_getElem? hv, e1 ▸ e⟩))
      · exact .inr (Nat.le_trans hB (e1 g e))
end Go.XL
namespace Go.Proofs.Ytlohbikkhojlaaa
open Go.RowKit Go.Shelf Go.XL
set_option linter.unusedVariables false
set_option linter.unusedSimpArgs false
attribute [local go_sem] Oper.semAt_some
abbrev RgT := RgAt 80 41 34
theorem ring_at (p : Nat) (r : Rg) (qv sv lv : Value) (vs : List Value) (w : World) (h : RgT w p r qv sv lv vs) :
    Calls Try.prog 11 #[.pointer (some ⟨p, 0, none⟩)] w fun e w' => e = .returned (.int .i64 (r.at_ : Int)) ∧ w = w' := by
  have c2 : w.cell? ⟨p, 2, none⟩ = some (.int .i64 (r.at_ : Int)) := cell_of_block h.cell rfl
  clear h
  go_enter Try.func11, Try.ntmps11
  go_wp2
  go_ret
  exact ⟨rfl, rfl⟩
set_option maxRecDepth 10000 in
theorem ring_new (own : Int) (N : Nat) (room : Int) (w : World) (h1 : 0 ≤ own ∧ own < 8) (h2 : 1 ≤ N ∧ N ≤ 8) (h3 : 1 ≤ room ∧ room ≤ 64) :
    Calls Try.prog 8 #[.int .i64 own, .int .i64 (N : Int), .int .i64 room] w fun e w' => ∃ p qv, e = .returned (.tuple #[.pointer (some ⟨p, 0, none⟩), .int .i64 0]) ∧
      RgT w' p ⟨room, List.replicate N [], 0, own, 0, [], []⟩ qv (.slice none 0 0) (.slice none 0 0) (List.replicate N (.slice none 0 0)) ∧ Fr no w w' ∧ (∀ g, RgOwn p qv (List.replicate N (.slice none 0 0)) g → w.heap.size ≤ g) := by
  obtain ⟨i0, hi, hz0, hz1, hz2⟩ := info_parts (show (Try.prog.info? 41).map (fun i => (i.zero, i.size, i.bytes)) = some (some (.slice none 0 0), 1, 24) by kernel_rfl)
  obtain ⟨w2, hmk, ho, hg⟩ := run_makeSlice_full (P := Try.prog) w w.heap.size 78 41 i0 _ 1 Try.underlying78 hi hz0 hz1 .i64 .i64 N (by omega) (by rw [hz2]; omega) (by unfold maxLen; omega) (Nat.le_refl _)
  have hs := Sl.of_ownsRow ho
  rw [show (Value.slice none 0 0).cells = #[Value.slice none 0 0] from rfl, Nat.mul_one, toList_madeCells_one] at hs
  have hf2 : Fr no w w2 := (Fr.refl no w).grown hg (fun _ h => by cases h)
  have hlt := hs.lt w.heap.size rfl
  have HS := Lib.hid hs
  have HF2 := Lib.hid hf2
  have n1 : (1 : Int) ≤ (N : Int) := by omega
  have n2 : (N : Int) ≤ 8 := by omega
  clear ho hg hs hf2 hi hz0 hz1 hz2
  go_enter Try.func8, Try.ntmps8
  go_wp2
  go_ret2
  refine ⟨_, _, rfl, ⟨World.alloc_heap_new w2 _, ?_, ?_, ?_, ?_, ?_, ?_, ?_, ?_⟩, HF2.out.alloc _, ?_⟩
  · have := HS.out.fr ((Fr.refl no w2).alloc (.cells #[.int .i64 room, .slice (some ⟨w.heap.size, 0, none⟩) N N, .int .i64 0, .int .i64 own, .int .i64 0, .slice none 0 0, .slice none 0 0] 80)) (fun _ _ f => f)
    simpa using this
  · intro i v l hv hl
    have e1 := List.eq_of_mem_replicate (List.mem_of_getElem? hv)
    have e2 := List.eq_of_mem_replicate (List.mem_of_getElem? hl)
    subst e1; subst e2
    simpa [drCells] using Sl.nil _ _ _
  · simp [Value.ownBlock]; omega
  · intro i v hv
    have e1 := List.eq_of_mem_replicate (List.mem_of_getElem? hv)
    subst e1
    simp [Value.ownBlock]
  · intro i j v u _ hv
    have e1 := List.eq_of_mem_replicate (List.mem_of_getElem? hv)
    subst e1
    simp [Value.ownBlock]
  · exact ⟨(Sl.nil _ 0 1).rd, fun h0 => by simp at h0⟩
  · exact ⟨by simpa [drCells] using (Sl.nil _ 0 6).rd, fun h0 => by simp at h0⟩
  · rintro d (hd | ⟨l, hl, hd⟩)
    · cases hd
    · have e2 := List.eq_of_mem_replicate hl
      subst e2
      cases hd
  · rintro g (rfl | e | ⟨v, hv, e⟩)
    · exact HF2.out.size
    · simp [Value.ownBlock] at e; omega
    · have e1 := List.eq_of_mem_replicate hv
      subst e1
      simp [Value.ownBlock] at e
set_option maxRecDepth 10000 in
set_option maxHeartbeats 4000000 in
theorem ring_put (p : Nat) (r : Rg) (qv sv lv : Value) (vs : List Value) (q : Int) (d : Dr) (w : World) (h : RgT w p r qv sv lv vs) (hd : RdX (RgOwn p qv vs) w 1 d.dv d.dep.length (d.dep.map (Value.int .i64))) (ho : SeenOk r.seen)
    (hql : ∀ l ∈ r.qs, l.length ≤ 1000) :
    Calls Try.prog 9 #[.pointer (some ⟨p, 0, none⟩), .int .i64 q, d.v] w fun e w' => ∃ vs', e = .returned (.int .i64 (rput r q d).2) ∧ RgT w' p (rput r q d).1 qv sv lv vs' ∧ Fr (RgOwn p qv vs) w w' ∧
      (∀ g, RgOwn p qv vs' g → RgOwn p qv vs g ∨ w.heap.size ≤ g) := by
  obtain ⟨qo, cq, rfl, hqc, hqm⟩ := h.qsl.cap
  obtain ⟨so, sc, rfl, hsc, hsm⟩ := h.seen.rd.cap
  obtain ⟨lo, lc, rfl, hlc, hlm⟩ := h.late.rd.cap
  obtain ⟨dO, dc, hdv, hdc, hdm⟩ := hd.rd.cap
  obtain ⟨dn, hdn⟩ : ∃ n, d.dep.length = n := ⟨_, rfl⟩
  obtain ⟨dt, hdt⟩ : ∃ x, d.t = x := ⟨_, rfl⟩
  obtain ⟨ds, hds⟩ : ∃ x, d.s = x := ⟨_, rfl⟩
  obtain ⟨dq, hdq⟩ : ∃ x, d.q = x := ⟨_, rfl⟩
  obtain ⟨dk, hdk⟩ : ∃ x, d.key = x := ⟨_, rfl⟩
  obtain ⟨dx, hdx⟩ : ∃ x, d.val = x := ⟨_, rfl⟩
  have ed : d.v = .agg #[.int .i64 dt, .int .i64 ds, .int .i64 dq, .slice dO dn dc, .string dk, .string dx] := by unfold Dr.v; rw [hdv, hdn, hdt, hds, hdq, hdk, hdx]
  have ec : d.cs = [.int .i64 dt, .int .i64 ds, .int .i64 dq, .slice dO dn dc, .string dk, .string dx] := by unfold Dr.cs; rw [hdv, hdn, hdt, hds, hdq, hdk, hdx]
  have HDX := Lib.hid hd
  have Ed := Lib.hid ed
  have Ec := Lib.hid ec
  rw [ed]
  clear hdt hds hdq hdk hdx hdv hd ed ec hdc hdn
  obtain ⟨n, hn⟩ : ∃ n, r.qs.length = n := ⟨_, rfl⟩
  obtain ⟨sn, hsn⟩ : ∃ n, r.seen.length = n := ⟨_, rfl⟩
  obtain ⟨ln, hln⟩ : ∃ n, r.late.length = n := ⟨_, rfl⟩
  rw [hn] at h hqc HDX ⊢
  rw [hsn] at h hsc ⊢
  rw [hln] at h hlc ⊢
  have hcd : ∀ C : Obj, Fr no w (w.alloc C) := fun C => (Fr.refl no w).alloc C
  obtain ⟨w1, hw1⟩ : ∃ U, w.alloc (.cells #[.int .i64 dt, .int .i64 ds, .int .i64 dq, .slice dO dn dc, .string dk, .string dx] 34) = U := ⟨_, rfl⟩
  obtain ⟨gb, hgb⟩ : ∃ g, w.heap.size = g := ⟨_, rfl⟩
  have hbd : w1.heap[gb]? = some (.cells #[.int .i64 dt, .int .i64 ds, .int .i64 dq, .slice dO dn dc, .string dk, .string dx] 34 (0, 0)) := by rw [← hw1, ← hgb]; exact World.alloc_heap_new _ _
  have F : Hid (Fr no w w1) := Lib.hid (by rw [← hw1]; exact hcd _)
  have HR := Lib.hid (h.fr0 F.out)
  have HNB2 : Hid (¬ RgOwn p (.slice qo n cq) vs gb) := Lib.hid (fun e => by have := h.lt gb e; omega)
  have HD := Lib.hid hbd
  have HW1 := Lib.hid hw1
  have HH := Lib.hid h
  clear hcd hbd hw1
  by_cases hq0 : q < 0
  · have R : rput r q d = (r, 1) := by unfold rput; rw [if_pos (.inl hq0)]
    rw [R]
    clear R
    go_enter Try.func9, Try.ntmps9
    go_upto_region 1 with (fail)
    rw [HW1.out]
    try rw [hgb]
    go_wp2
    go_ret
    first | exact ⟨vs, rfl, HR.out, F.out.mono (fun _ _ f => f.elim), fun g hg => .inl hg⟩ | exact ⟨rfl, vs, HR.out, F.out.mono (fun _ _ f => f.elim), fun g hg => .inl hg⟩
  by_cases hqn : (n : Int) ≤ q
  · have R : rput r q d = (r, 1) := by unfold rput; rw [if_pos (.inr (by rw [hn]; exact hqn))]
    rw [R]
    have c1 : w1.cell? ⟨p, 1, none⟩ = some (.slice qo n cq) := cell_of_block HR.out.cell rfl
    clear R
    go_enter Try.func9, Try.ntmps9
    go_upto_region 1 with (fail)
    rw [HW1.out]
    try rw [hgb]
    go_wp2
    go_ret
    first | exact ⟨vs, rfl, HR.out, F.out.mono (fun _ _ f => f.elim), fun g hg => .inl hg⟩ | exact ⟨rfl, vs, HR.out, F.out.mono (fun _ _ f => f.elim), fun g hg => .inl hg⟩
  obtain ⟨i, rfl⟩ : ∃ i : Nat, q = i := ⟨q.toNat, by omega⟩
  have hin : i < n := by omega
  obtain ⟨l, hl⟩ : ∃ l, r.qs[i]? = some l := ⟨r.qs[i]'(by omega), by simp⟩
  have hvl := h.vlen
  obtain ⟨v, hv⟩ : ∃ v, vs[i]? = some v := ⟨vs[i]'(by omega), by simp⟩
  obtain ⟨vo, vc, rfl, hvc, hvm⟩ := (h.q i v l hv hl).cap
  obtain ⟨m, hm⟩ : ∃ m, l.length = m := ⟨_, rfl⟩
  rw [hm] at hv hvc
  have Hn := Lib.hid hn
  obtain ⟨gq, oq, cq', cs, he, _, _, hg, _, hx⟩ := h.qsl.form (by omega)
  rw [hn] at he
  cases he
  have HQC : Hid (∀ W : World, RgT W p r (.slice (some ⟨gq, oq, none⟩) n cq) (.slice so sn sc) (.slice lo ln lc) vs → W.cell? ⟨gq, oq + i, none⟩ = some (.slice vo m vc)) := Lib.hid (fun W hW => by
    obtain ⟨g', o', c', cs', he, _, _, hg', _, hx'⟩ := hW.qsl.form (by omega)
    rw [Hn.out] at he
    cases he
    exact cell_of_block hg' (hx' i _ hv))
  have Hm := Lib.hid hm
  clear hg hx hvl hn hsn
  have hmay := fun W (hW : Fr no w1 W) => tMay r.own r.next (.slice so sn sc) (.slice lo ln lc) r.seen d W ((HR.out.seen.fr hW (fun _ _ f => f.elim)).rd) ((HDX.out.fr (F.out.trans' hW) (fun _ _ f => f.elim)).rd) ho
  obtain ⟨b, hb⟩ : ∃ b, dmay r.own r.seen d = b := ⟨_, rfl⟩
  unfold tkV at hmay
  rw [hb, Ed.out] at hmay
  have Hmay := Lib.hid hmay
  have Hb := Lib.hid hb
  clear hmay hb
  have HLn := Lib.hid hln
  clear hln
  have c0 : w1.cell? ⟨p, 0, none⟩ = some (.int .i64 r.room) := cell_of_block HR.out.cell rfl
  have c1 : w1.cell? ⟨p, 1, none⟩ = some (.slice (some ⟨gq, oq, none⟩) n cq) := cell_of_block HR.out.cell rfl
  have c3 : w1.cell? ⟨p, 3, none⟩ = some (.int .i64 r.own) := cell_of_block HR.out.cell rfl
  have c4 : w1.cell? ⟨p, 4, none⟩ = some (.int .i64 r.next) := cell_of_block HR.out.cell rfl
  have c5 : w1.cell? ⟨p, 5, none⟩ = some (.slice so sn sc) := cell_of_block HR.out.cell rfl
  have c6 : w1.cell? ⟨p, 6, none⟩ = some (.slice lo ln lc) := cell_of_block HR.out.cell rfl
  have e0 : w1.cell? ⟨gq, oq + i, none⟩ = some (.slice vo m vc) := HQC.out _ HR.out
  have d0 : w1.cell? ⟨gb, 0, none⟩ = some (.int .i64 dt) := cell_of_block HD.out rfl
  have d1 : w1.cell? ⟨gb, 1, none⟩ = some (.int .i64 ds) := cell_of_block HD.out rfl
  have d2 : w1.cell? ⟨gb, 2, none⟩ = some (.int .i64 dq) := cell_of_block HD.out rfl
  have d3 : w1.cell? ⟨gb, 3, none⟩ = some (.slice dO dn dc) := cell_of_block HD.out rfl
  have d4 : w1.cell? ⟨gb, 4, none⟩ = some (.string dk) := cell_of_block HD.out rfl
  have d5 : w1.cell? ⟨gb, 5, none⟩ = some (.string dx) := cell_of_block HD.out rfl
  go_enter Try.func9, Try.ntmps9
  go_upto_region 1 with (fail)
  rw [HW1.out]
  try rw [hgb]
  clear HW1
  have y1 : ¬ ((i : Int) < 0) := by omega
  have y2 : ¬ ((n : Int) ≤ (i : Int)) := by omega
  go_wp2_with fail
  by_cases hroom : r.room ≤ (m : Int)
  · have hd1 : decide (r.room ≤ (m : Int)) = true := decide_eq_true hroom
    have hlate : True := trivial
    refine wp_held (fun w' => w'.cell? ⟨p, 0, none⟩ = some (.int .i64 r.room) ∧ w'.cell? ⟨p, 1, none⟩ = some (.slice (some ⟨gq, oq, none⟩) n cq) ∧ w'.cell? ⟨gq, oq + i, none⟩ = some (.slice vo m vc)) (by kernel_rfl) ?_ (fun hHeld => ?_)
    · exact ⟨c0, c1, e0⟩
    refine held_take (v := ?_) 0 rfl (by kernel_rfl) (.inl ⟨by rfl, ?_⟩) hHeld ?_
    rotate_left
    · intro w hSw; (try dsimp only at hSw); first | (go_simp; done) | (go_simp; with_reducible rfl)
    try simp only [Act.put, List.setIfInBounds_toArray, List.set_cons_zero, List.set_cons_succ]
    refine held_take (v := ?_) 1 rfl (by kernel_rfl) (.inl ⟨by rfl, ?_⟩) hHeld ?_
    rotate_left
    · intro w hSw; (try dsimp only at hSw); first | (go_simp; done) | (go_simp; with_reducible rfl)
    try simp only [Act.put, List.setIfInBounds_toArray, List.set_cons_zero, List.set_cons_succ]
    refine held_take (v := ?_) 2 rfl (by kernel_rfl) (.inl ⟨by rfl, ?_⟩) hHeld ?_
    rotate_left
    · intro w hSw; (try dsimp only at hSw); first | (go_simp; done) | (go_simp; with_reducible rfl)
    try simp only [Act.put, List.setIfInBounds_toArray, List.set_cons_zero, List.set_cons_succ]
    refine held_take (v := ?_) 3 rfl (by kernel_rfl) (.inl ⟨by rfl, ?_⟩) hHeld ?_
    rotate_left
    · intro w hSw; (try dsimp only at hSw); first | (go_simp; done) | (go_simp; with_reducible rfl)
    try simp only [Act.put, List.setIfInBounds_toArray, List.set_cons_zero, List.set_cons_succ]
    refine held_take (v := ?_) 4 rfl (by kernel_rfl) (.inl ⟨by rfl, ?_⟩) hHeld ?_
    rotate_left
    · intro w hSw; (try dsimp only at hSw); first | (go_simp; done) | (go_simp; with_reducible rfl)
    try simp only [Act.put, List.setIfInBounds_toArray, List.set_cons_zero, List.set_cons_succ]
    refine held_take (v := ?_) 5 rfl (by kernel_rfl) (.inl ⟨by rfl, ?_⟩) hHeld ?_
    rotate_left
    · intro w hSw; (try dsimp only at hSw); first | (go_simp; done) | (go_simp; with_reducible rfl)
    try simp only [Act.put, List.setIfInBounds_toArray, List.set_cons_zero, List.set_cons_succ]
    refine held_take (v := ?_) 6 rfl (by kernel_rfl) (.inl ⟨by rfl, ?_⟩) hHeld ?_
    rotate_left
    · intro w hSw; (try dsimp only at hSw); first | (go_simp; done) | (go_simp; with_reducible rfl)
    try simp only [Act.put, List.setIfInBounds_toArray, List.set_cons_zero, List.set_cons_succ]
    refine held_take (v := ?_) 7 rfl (by kernel_rfl) (.inl ⟨by rfl, ?_⟩) hHeld ?_
    rotate_left
    · intro w hSw; (try dsimp only at hSw); first | (go_simp; done) | (go_simp; with_reducible rfl)
    try simp only [Act.put, List.setIfInBounds_toArray, List.set_cons_zero, List.set_cons_succ]
    refine held_take (v := ?_) 8 rfl (by kernel_rfl) (.inl ⟨by rfl, ?_⟩) hHeld ?_
    rotate_left
    · intro w hSw; (try dsimp only at hSw); first | (go_simp; done) | (go_simp; with_reducible rfl)
    try simp only [Act.put, List.setIfInBounds_toArray, List.set_cons_zero, List.set_cons_succ]
    refine held_take (v := ?_) 9 rfl (by kernel_rfl) (.inl ⟨by rfl, ?_⟩) hHeld ?_
    rotate_left
    · intro w hSw; (try dsimp only at hSw); first | (go_simp; done) | (go_simp; with_reducible rfl)
    try simp only [Act.put, List.setIfInBounds_toArray, List.set_cons_zero, List.set_cons_succ]
    refine held_take (v := ?_) 10 rfl (by kernel_rfl) (.inl ⟨by rfl, ?_⟩) hHeld ?_
    rotate_left
    · intro w hSw; (try dsimp only at hSw); first | (go_simp; done) | (go_simp; with_reducible rfl)
    try simp only [Act.put, List.setIfInBounds_toArray, List.set_cons_zero, List.set_cons_succ]
    refine held_take (v := ?_) 11 rfl (by kernel_rfl) (.inl ⟨by rfl, ?_⟩) hHeld ?_
    rotate_left
    · intro w hSw; (try dsimp only at hSw); first | (go_simp; done) | (go_simp; with_reducible rfl)
    try simp only [Act.put, List.setIfInBounds_toArray, List.set_cons_zero, List.set_cons_succ]
    refine held_take (v := (.bool true)) 12 rfl (by kernel_rfl) (.inl ⟨by rfl, ?_⟩) hHeld ?_
    · intro w hSw; (try dsimp only at hSw); go_simp
    try simp only [Act.put, List.setIfInBounds_toArray, List.set_cons_zero, List.set_cons_succ]
    refine held_take (v := ?_) 13 rfl (by kernel_rfl) (.inl ⟨by rfl, ?_⟩) hHeld ?_
    rotate_left
    · intro w hSw; (try dsimp only at hSw); first | (go_simp; done) | (go_simp; with_reducible rfl)
    try simp only [Act.put, List.setIfInBounds_toArray, List.set_cons_zero, List.set_cons_succ]
    refine held_take 14 rfl (by kernel_rfl) (.inr ⟨by rfl, rfl⟩) hHeld ?_
    try simp only [Act.put, List.setIfInBounds_toArray, List.set_cons_zero, List.set_cons_succ]
    refine held_take 15 rfl (by kernel_rfl) (.inr ⟨by rfl, rfl⟩) hHeld ?_
    try simp only [Act.put, List.setIfInBounds_toArray, List.set_cons_zero, List.set_cons_succ]
    refine held_take 16 rfl (by kernel_rfl) (.inr ⟨by rfl, rfl⟩) hHeld ?_
    try simp only [Act.put, List.setIfInBounds_toArray, List.set_cons_zero, List.set_cons_succ]
    refine held_take 17 rfl (by kernel_rfl) (.inr ⟨by rfl, rfl⟩) hHeld ?_
    try simp only [Act.put, List.setIfInBounds_toArray, List.set_cons_zero, List.set_cons_succ]
    refine held_take 18 rfl (by kernel_rfl) (.inr ⟨by rfl, rfl⟩) hHeld ?_
    try simp only [Act.put, List.setIfInBounds_toArray, List.set_cons_zero, List.set_cons_succ]
    refine held_take 19 rfl (by kernel_rfl) (.inr ⟨by rfl, rfl⟩) hHeld ?_
    try simp only [Act.put, List.setIfInBounds_toArray, List.set_cons_zero, List.set_cons_succ]
    refine held_take 20 rfl (by kernel_rfl) (.inr ⟨by rfl, rfl⟩) hHeld ?_
    try simp only [Act.put, List.setIfInBounds_toArray, List.set_cons_zero, List.set_cons_succ]
    refine held_take 21 rfl (by kernel_rfl) (.inr ⟨by rfl, rfl⟩) hHeld ?_
    try simp only [Act.put, List.setIfInBounds_toArray, List.set_cons_zero, List.set_cons_succ]
    refine held_take 22 rfl (by kernel_rfl) (.inr ⟨by rfl, rfl⟩) hHeld ?_
    try simp only [Act.put, List.setIfInBounds_toArray, List.set_cons_zero, List.set_cons_succ]
    refine held_take 23 rfl (by kernel_rfl) (.inr ⟨by rfl, rfl⟩) hHeld ?_
    try simp only [Act.put, List.setIfInBounds_toArray, List.set_cons_zero, List.set_cons_succ]
    refine held_take 24 rfl (by kernel_rfl) (.inr ⟨by rfl, rfl⟩) hHeld ?_
    try simp only [Act.put, List.setIfInBounds_toArray, List.set_cons_zero, List.set_cons_succ]
    refine held_take 25 rfl (by kernel_rfl) (.inr ⟨by rfl, rfl⟩) hHeld ?_
    try simp only [Act.put, List.setIfInBounds_toArray, List.set_cons_zero, List.set_cons_succ]
    refine held_take 26 rfl (by kernel_rfl) (.inr ⟨by rfl, rfl⟩) hHeld ?_
    try simp only [Act.put, List.setIfInBounds_toArray, List.set_cons_zero, List.set_cons_succ]
    refine held_take 27 rfl (by kernel_rfl) (.inr ⟨by rfl, rfl⟩) hHeld ?_
    try simp only [Act.put, List.setIfInBounds_toArray, List.set_cons_zero, List.set_cons_succ]
    refine held_take 28 rfl (by kernel_rfl) (.inr ⟨by rfl, rfl⟩) hHeld ?_
    try simp only [Act.put, List.setIfInBounds_toArray, List.set_cons_zero, List.set_cons_succ]
    refine held_take 29 rfl (by kernel_rfl) (.inr ⟨by rfl, rfl⟩) hHeld ?_
    try simp only [Act.put, List.setIfInBounds_toArray, List.set_cons_zero, List.set_cons_succ]
    refine held_take (v := ?_) 30 rfl (by kernel_rfl) (.inl ⟨by rfl, ?_⟩) hHeld ?_
    rotate_left
    · intro w hSw; (try dsimp only at hSw); first | (go_simp; done) | (go_simp; with_reducible rfl)
    try simp only [Act.put, List.setIfInBounds_toArray, List.set_cons_zero, List.set_cons_succ]
    refine held_take (v := ?_) 31 rfl (by kernel_rfl) (.inl ⟨by rfl, ?_⟩) hHeld ?_
    rotate_left
    · intro w hSw; (try dsimp only at hSw); first | (go_simp; done) | (go_simp; with_reducible rfl)
    try simp only [Act.put, List.setIfInBounds_toArray, List.set_cons_zero, List.set_cons_succ]
    refine held_done (by kernel_rfl) ?_
    try clear hHeld
    obtain ⟨u2, hu2⟩ : ∃ U, w1.drew = U := ⟨_, rfl⟩
    have hfd : Fr no w1 u2 := by rw [← hu2]; exact (Fr.refl no w1).drewN 1
    rw [hu2]
    clear c0 c1 c3 c4 c5 c6 e0 d0 d1 d2 d3 d4 d5
    clear hu2 Hmay
    replace F := Lib.hid (F.out.trans' hfd)
    replace HR := Lib.hid (HR.out.fr0 hfd)
    replace HD := Lib.hid (hfd.heap HD.out (fun f => f))
    clear hfd
    have R : rput r (i : Int) d = (r, 6) := by
      unfold rput
      rw [if_neg (by rw [Hn.out]; omega), Int.toNat_natCast, hl, Option.getD_some, Hm.out, HLn.out, Hb.out, if_pos]
      simp [hroom, hlate]
    have HRR := Lib.hid R
    clear R
    go_wp2
    go_ret
    rw [HRR.out]
    first | exact ⟨vs, rfl, HR.out, F.out.mono (fun _ _ f => f.elim), fun g hg => .inl hg⟩ | exact ⟨rfl, vs, HR.out, F.out.mono (fun _ _ f => f.elim), fun g hg => .inl hg⟩
  have hd1 : decide (r.room ≤ (m : Int)) = false := decide_eq_false hroom
  by_cases hlate : 64 ≤ ln
  · have hd2 : decide ((64 : Int) ≤ (ln : Int)) = true := decide_eq_true (by omega)
    cases b
    · skip
      refine wp_held (fun w' => w'.cell? ⟨p, 0, none⟩ = some (.int .i64 r.room) ∧ w'.cell? ⟨p, 1, none⟩ = some (.slice (some ⟨gq, oq, none⟩) n cq) ∧ w'.cell? ⟨gq, oq + i, none⟩ = some (.slice vo m vc) ∧ w'.cell? ⟨p, 3, none⟩ = some (.int .i64 r.own) ∧ w'.cell? ⟨p, 4, none⟩ = some (.int .i64 r.next) ∧ w'.cell? ⟨p, 5, none⟩ = some (.slice so sn sc) ∧ w'.cell? ⟨p, 6, none⟩ = some (.slice lo ln lc) ∧ w'.cell? ⟨gb, 0, none⟩ = some (.int .i64 dt) ∧ w'.cell? ⟨gb, 1, none⟩ = some (.int .i64 ds) ∧ w'.cell? ⟨gb, 2, none⟩ = some (.int .i64 dq) ∧ w'.cell? ⟨gb, 3, none⟩ = some (.slice dO dn dc) ∧ w'.cell? ⟨gb, 4, none⟩ = some (.string dk) ∧ w'.cell? ⟨gb, 5, none⟩ = some (.string dx)) (by kernel_rfl) ?_ (fun hHeld => ?_)
      · exact ⟨c0, c1, e0, c3, c4, c5, c6, d0, d1, d2, d3, d4, d5⟩
      refine held_take (v := ?_) 0 rfl (by kernel_rfl) (.inl ⟨by rfl, ?_⟩) hHeld ?_
      rotate_left
      · intro w hSw; (try dsimp only at hSw); first | (go_simp; done) | (go_simp; with_reducible rfl)
      try simp only [Act.put, List.setIfInBounds_toArray, List.set_cons_zero, List.set_cons_succ]
      refine held_take (v := ?_) 1 rfl (by kernel_rfl) (.inl ⟨by rfl, ?_⟩) hHeld ?_
      rotate_left
      · intro w hSw; (try dsimp only at hSw); first | (go_simp; done) | (go_simp; with_reducible rfl)
      try simp only [Act.put, List.setIfInBounds_toArray, List.set_cons_zero, List.set_cons_succ]
      refine held_take (v := ?_) 2 rfl (by kernel_rfl) (.inl ⟨by rfl, ?_⟩) hHeld ?_
      rotate_left
      · intro w hSw; (try dsimp only at hSw); first | (go_simp; done) | (go_simp; with_reducible rfl)
      try simp only [Act.put, List.setIfInBounds_toArray, List.set_cons_zero, List.set_cons_succ]
      refine held_take (v := ?_) 3 rfl (by kernel_rfl) (.inl ⟨by rfl, ?_⟩) hHeld ?_
      rotate_left
      · intro w hSw; (try dsimp only at hSw); first | (go_simp; done) | (go_simp; with_reducible rfl)
      try simp only [Act.put, List.setIfInBounds_toArray, List.set_cons_zero, List.set_cons_succ]
      refine held_take (v := ?_) 4 rfl (by kernel_rfl) (.inl ⟨by rfl, ?_⟩) hHeld ?_
      rotate_left
      · intro w hSw; (try dsimp only at hSw); first | (go_simp; done) | (go_simp; with_reducible rfl)
      try simp only [Act.put, List.setIfInBounds_toArray, List.set_cons_zero, List.set_cons_succ]
      refine held_take (v := ?_) 5 rfl (by kernel_rfl) (.inl ⟨by rfl, ?_⟩) hHeld ?_
      rotate_left
      · intro w hSw; (try dsimp only at hSw); first | (go_simp; done) | (go_simp; with_reducible rfl)
      try simp only [Act.put, List.setIfInBounds_toArray, List.set_cons_zero, List.set_cons_succ]
      refine held_take (v := ?_) 6 rfl (by kernel_rfl) (.inl ⟨by rfl, ?_⟩) hHeld ?_
      rotate_left
      · intro w hSw; (try dsimp only at hSw); first | (go_simp; done) | (go_simp; with_reducible rfl)
      try simp only [Act.put, List.setIfInBounds_toArray, List.set_cons_zero, List.set_cons_succ]
      refine held_take (v := ?_) 7 rfl (by kernel_rfl) (.inl ⟨by rfl, ?_⟩) hHeld ?_
      rotate_left
      · intro w hSw; (try dsimp only at hSw); first | (go_simp; done) | (go_simp; with_reducible rfl)
      try simp only [Act.put, List.setIfInBounds_toArray, List.set_cons_zero, List.set_cons_succ]
      refine held_take (v := ?_) 8 rfl (by kernel_rfl) (.inl ⟨by rfl, ?_⟩) hHeld ?_
      rotate_left
      · intro w hSw; (try dsimp only at hSw); first | (go_simp; done) | (go_simp; with_reducible rfl)
      try simp only [Act.put, List.setIfInBounds_toArray, List.set_cons_zero, List.set_cons_succ]
      refine held_take (v := ?_) 9 rfl (by kernel_rfl) (.inl ⟨by rfl, ?_⟩) hHeld ?_
      rotate_left
      · intro w hSw; (try dsimp only at hSw); first | (go_simp; done) | (go_simp; with_reducible rfl)
      try simp only [Act.put, List.setIfInBounds_toArray, List.set_cons_zero, List.set_cons_succ]
      refine held_take (v := ?_) 10 rfl (by kernel_rfl) (.inl ⟨by rfl, ?_⟩) hHeld ?_
      rotate_left
      · intro w hSw; (try dsimp only at hSw); first | (go_simp; done) | (go_simp; with_reducible rfl)
      try simp only [Act.put, List.setIfInBounds_toArray, List.set_cons_zero, List.set_cons_succ]
      refine held_take (v := ?_) 11 rfl (by kernel_rfl) (.inl ⟨by rfl, ?_⟩) hHeld ?_
      rotate_left
      · intro w hSw; (try dsimp only at hSw); first | (go_simp; done) | (go_simp; with_reducible rfl)
      try simp only [Act.put, List.setIfInBounds_toArray, List.set_cons_zero, List.set_cons_succ]
      refine held_take (v := (.bool false)) 12 rfl (by kernel_rfl) (.inl ⟨by rfl, ?_⟩) hHeld ?_
      · intro w hSw; (try dsimp only at hSw); go_simp
      try simp only [Act.put, List.setIfInBounds_toArray, List.set_cons_zero, List.set_cons_succ]
      refine held_take (v := ?_) 13 rfl (by kernel_rfl) (.inl ⟨by rfl, ?_⟩) hHeld ?_
      rotate_left
      · intro w hSw; (try dsimp only at hSw); first | (go_simp; done) | (go_simp; with_reducible rfl)
      try simp only [Act.put, List.setIfInBounds_toArray, List.set_cons_zero, List.set_cons_succ]
      refine held_take (v := ?_) 14 rfl (by kernel_rfl) (.inl ⟨by rfl, ?_⟩) hHeld ?_
      rotate_left
      · intro w hSw; (try dsimp only at hSw); first | (go_simp; done) | (go_simp; with_reducible rfl)
      try simp only [Act.put, List.setIfInBounds_toArray, List.set_cons_zero, List.set_cons_succ]
      refine held_take (v := ?_) 15 rfl (by kernel_rfl) (.inl ⟨by rfl, ?_⟩) hHeld ?_
      rotate_left
      · intro w hSw; (try dsimp only at hSw); first | (go_simp; done) | (go_simp; with_reducible rfl)
      try simp only [Act.put, List.setIfInBounds_toArray, List.set_cons_zero, List.set_cons_succ]
      refine held_take (v := ?_) 16 rfl (by kernel_rfl) (.inl ⟨by rfl, ?_⟩) hHeld ?_
      rotate_left
      · intro w hSw; (try dsimp only at hSw); first | (go_simp; done) | (go_simp; with_reducible rfl)
      try simp only [Act.put, List.setIfInBounds_toArray, List.set_cons_zero, List.set_cons_succ]
      refine held_take (v := ?_) 17 rfl (by kernel_rfl) (.inl ⟨by rfl, ?_⟩) hHeld ?_
      rotate_left
      · intro w hSw; (try dsimp only at hSw); first | (go_simp; done) | (go_simp; with_reducible rfl)
      try simp only [Act.put, List.setIfInBounds_toArray, List.set_cons_zero, List.set_cons_succ]
      refine held_take (v := ?_) 18 rfl (by kernel_rfl) (.inl ⟨by rfl, ?_⟩) hHeld ?_
      rotate_left
      · intro w hSw; (try dsimp only at hSw); first | (go_simp; done) | (go_simp; with_reducible rfl)
      try simp only [Act.put, List.setIfInBounds_toArray, List.set_cons_zero, List.set_cons_succ]
      refine held_take (v := ?_) 19 rfl (by kernel_rfl) (.inl ⟨by rfl, ?_⟩) hHeld ?_
      rotate_left
      · intro w hSw; (try dsimp only at hSw); first | (go_simp; done) | (go_simp; with_reducible rfl)
      try simp only [Act.put, List.setIfInBounds_toArray, List.set_cons_zero, List.set_cons_succ]
      refine held_take (v := (.bool true)) 20 rfl (by kernel_rfl) (.inl ⟨by rfl, ?_⟩) hHeld ?_
      · intro w hSw; (try dsimp only at hSw); go_simp
      try simp only [Act.put, List.setIfInBounds_toArray, List.set_cons_zero, List.set_cons_succ]
      refine held_take (v := ?_) 21 rfl (by kernel_rfl) (.inl ⟨by rfl, ?_⟩) hHeld ?_
      rotate_left
      · intro w hSw; (try dsimp only at hSw); first | (go_simp; done) | (go_simp; with_reducible rfl)
      try simp only [Act.put, List.setIfInBounds_toArray, List.set_cons_zero, List.set_cons_succ]
      refine held_take (v := ?_) 22 rfl (by kernel_rfl) (.inl ⟨by rfl, ?_⟩) hHeld ?_
      rotate_left
      · intro w hSw; (try dsimp only at hSw); first | (go_simp; done) | (go_simp; with_reducible rfl)
      try simp only [Act.put, List.setIfInBounds_toArray, List.set_cons_zero, List.set_cons_succ]
      refine held_take (v := ?_) 23 rfl (by kernel_rfl) (.inl ⟨by rfl, ?_⟩) hHeld ?_
      rotate_left
      · intro w hSw; (try dsimp only at hSw); first | (go_simp; done) | (go_simp; with_reducible rfl)
      try simp only [Act.put, List.setIfInBounds_toArray, List.set_cons_zero, List.set_cons_succ]
      refine held_take (v := ?_) 24 rfl (by kernel_rfl) (.inl ⟨by rfl, ?_⟩) hHeld ?_
      rotate_left
      · intro w hSw; (try dsimp only at hSw); first | (go_simp; done) | (go_simp; with_reducible rfl)
      try simp only [Act.put, List.setIfInBounds_toArray, List.set_cons_zero, List.set_cons_succ]
      refine held_take (v := ?_) 25 rfl (by kernel_rfl) (.inl ⟨by rfl, ?_⟩) hHeld ?_
      rotate_left
      · intro w hSw; (try dsimp only at hSw); first | (go_simp; done) | (go_simp; with_reducible rfl)
      try simp only [Act.put, List.setIfInBounds_toArray, List.set_cons_zero, List.set_cons_succ]
      refine held_take (v := ?_) 26 rfl (by kernel_rfl) (.inl ⟨by rfl, ?_⟩) hHeld ?_
      rotate_left
      · intro w hSw; (try dsimp only at hSw); first | (go_simp; done) | (go_simp; with_reducible rfl)
      try simp only [Act.put, List.setIfInBounds_toArray, List.set_cons_zero, List.set_cons_succ]
      refine held_call 27 rfl (by kernel_rfl) (fun K hK => ?_)
      go_simp
      go_at_call 29; refine (Hmay.out _ (Fr.drew (Fr.refl no w1))).mono ?_; rintro e wa ⟨rfl, hfd⟩; have HF := Lib.hid ((Fr.drew (Fr.refl no w1)).trans' hfd); clear hfd
      refine hK.out _ _ ?_ (fun hHeld' => ?_)
      · exact ⟨HF.out.cell c0 (fun f => f), HF.out.cell c1 (fun f => f), HF.out.cell e0 (fun f => f), HF.out.cell c3 (fun f => f), HF.out.cell c4 (fun f => f), HF.out.cell c5 (fun f => f), HF.out.cell c6 (fun f => f), HF.out.cell d0 (fun f => f), HF.out.cell d1 (fun f => f), HF.out.cell d2 (fun f => f), HF.out.cell d3 (fun f => f), HF.out.cell d4 (fun f => f), HF.out.cell d5 (fun f => f)⟩
      clear hK K hHeld
      have hHeld := hHeld'
      clear hHeld'
      try simp only [Act.put, List.setIfInBounds_toArray, List.set_cons_zero, List.set_cons_succ]
      refine held_take (v := ?_) 28 rfl (by kernel_rfl) (.inl ⟨by rfl, ?_⟩) hHeld ?_
      rotate_left
      · intro w hSw; (try dsimp only at hSw); first | (go_simp; done) | (go_simp; with_reducible rfl)
      try simp only [Act.put, List.setIfInBounds_toArray, List.set_cons_zero, List.set_cons_succ]
      refine held_take (v := ?_) 29 rfl (by kernel_rfl) (.inl ⟨by rfl, ?_⟩) hHeld ?_
      rotate_left
      · intro w hSw; (try dsimp only at hSw); first | (go_simp; done) | (go_simp; with_reducible rfl)
      try simp only [Act.put, List.setIfInBounds_toArray, List.set_cons_zero, List.set_cons_succ]
      refine held_take (v := ?_) 30 rfl (by kernel_rfl) (.inl ⟨by rfl, ?_⟩) hHeld ?_
      rotate_left
      · intro w hSw; (try dsimp only at hSw); first | (go_simp; done) | (go_simp; with_reducible rfl)
      try simp only [Act.put, List.setIfInBounds_toArray, List.set_cons_zero, List.set_cons_succ]
      refine held_take (v := ?_) 31 rfl (by kernel_rfl) (.inl ⟨by rfl, ?_⟩) hHeld ?_
      rotate_left
      · intro w hSw; (try dsimp only at hSw); first | (go_simp; done) | (go_simp; with_reducible rfl)
      try simp only [Act.put, List.setIfInBounds_toArray, List.set_cons_zero, List.set_cons_succ]
      refine held_done (by kernel_rfl) ?_
      try clear hHeld
      have hfd := HF.out
      clear c0 c1 c3 c4 c5 c6 e0 d0 d1 d2 d3 d4 d5
      clear HF Hmay
      replace F := Lib.hid (F.out.trans' hfd)
      replace HR := Lib.hid (HR.out.fr0 hfd)
      replace HD := Lib.hid (hfd.heap HD.out (fun f => f))
      clear hfd
      have R : rput r (i : Int) d = (r, 6) := by
        unfold rput
        rw [if_neg (by rw [Hn.out]; omega), Int.toNat_natCast, hl, Option.getD_some, Hm.out, HLn.out, Hb.out, if_pos]
        simp [hroom, hlate]
      have HRR := Lib.hid R
      clear R
      go_wp2
      go_ret
      rw [HRR.out]
      first | exact ⟨vs, rfl, HR.out, F.out.mono (fun _ _ f => f.elim), fun g hg => .inl hg⟩ | exact ⟨rfl, vs, HR.out, F.out.mono (fun _ _ f => f.elim), fun g hg => .inl hg⟩
    · skip
      refine wp_held (fun w' => w'.cell? ⟨p, 0, none⟩ = some (.int .i64 r.room) ∧ w'.cell? ⟨p, 1, none⟩ = some (.slice (some ⟨gq, oq, none⟩) n cq) ∧ w'.cell? ⟨gq, oq + i, none⟩ = some (.slice vo m vc) ∧ w'.cell? ⟨p, 3, none⟩ = some (.int .i64 r.own) ∧ w'.cell? ⟨p, 4, none⟩ = some (.int .i64 r.next) ∧ w'.cell? ⟨p, 5, none⟩ = some (.slice so sn sc) ∧ w'.cell? ⟨p, 6, none⟩ = some (.slice lo ln lc) ∧ w'.cell? ⟨gb, 0, none⟩ = some (.int .i64 dt) ∧ w'.cell? ⟨gb, 1, none⟩ = some (.int .i64 ds) ∧ w'.cell? ⟨gb, 2, none⟩ = some (.int .i64 dq) ∧ w'.cell? ⟨gb, 3, none⟩ = some (.slice dO dn dc) ∧ w'.cell? ⟨gb, 4, none⟩ = some (.string dk) ∧ w'.cell? ⟨gb, 5, none⟩ = some (.string dx)) (by kernel_rfl) ?_ (fun hHeld => ?_)
      · exact ⟨c0, c1, e0, c3, c4, c5, c6, d0, d1, d2, d3, d4, d5⟩
      refine held_take (v := ?_) 0 rfl (by kernel_rfl) (.inl ⟨by rfl, ?_⟩) hHeld ?_
      rotate_left
      · intro w hSw; (try dsimp only at hSw); first | (go_simp; done) | (go_simp; with_reducible rfl)
      try simp only [Act.put, List.setIfInBounds_toArray, List.set_cons_zero, List.set_cons_succ]
      refine held_take (v := ?_) 1 rfl (by kernel_rfl) (.inl ⟨by rfl, ?_⟩) hHeld ?_
      rotate_left
      · intro w hSw; (try dsimp only at hSw); first | (go_simp; done) | (go_simp; with_reducible rfl)
      try simp only [Act.put, List.setIfInBounds_toArray, List.set_cons_zero, List.set_cons_succ]
      refine held_take (v := ?_) 2 rfl (by kernel_rfl) (.inl ⟨by rfl, ?_⟩) hHeld ?_
      rotate_left
      · intro w hSw; (try dsimp only at hSw); first | (go_simp; done) | (go_simp; with_reducible rfl)
      try simp only [Act.put, List.setIfInBounds_toArray, List.set_cons_zero, List.set_cons_succ]
      refine held_take (v := ?_) 3 rfl (by kernel_rfl) (.inl ⟨by rfl, ?_⟩) hHeld ?_
      rotate_left
      · intro w hSw; (try dsimp only at hSw); first | (go_simp; done) | (go_simp; with_reducible rfl)
      try simp only [Act.put, List.setIfInBounds_toArray, List.set_cons_zero, List.set_cons_succ]
      refine held_take (v := ?_) 4 rfl (by kernel_rfl) (.inl ⟨by rfl, ?_⟩) hHeld ?_
      rotate_left
      · intro w hSw; (try dsimp only at hSw); first | (go_simp; done) | (go_simp; with_reducible rfl)
      try simp only [Act.put, List.setIfInBounds_toArray, List.set_cons_zero, List.set_cons_succ]
      refine held_take (v := ?_) 5 rfl (by kernel_rfl) (.inl ⟨by rfl, ?_⟩) hHeld ?_
      rotate_left
      · intro w hSw; (try dsimp only at hSw); first | (go_simp; done) | (go_simp; with_reducible rfl)
      try simp only [Act.put, List.setIfInBounds_toArray, List.set_cons_zero, List.set_cons_succ]
      refine held_take (v := ?_) 6 rfl (by kernel_rfl) (.inl ⟨by rfl, ?_⟩) hHeld ?_
      rotate_left
      · intro w hSw; (try dsimp only at hSw); first | (go_simp; done) | (go_simp; with_reducible rfl)
      try simp only [Act.put, List.setIfInBounds_toArray, List.set_cons_zero, List.set_cons_succ]
      refine held_take (v := ?_) 7 rfl (by kernel_rfl) (.inl ⟨by rfl, ?_⟩) hHeld ?_
      rotate_left
      · intro w hSw; (try dsimp only at hSw); first | (go_simp; done) | (go_simp; with_reducible rfl)
      try simp only [Act.put, List.setIfInBounds_toArray, List.set_cons_zero, List.set_cons_succ]
      refine held_take (v := ?_) 8 rfl (by kernel_rfl) (.inl ⟨by rfl, ?_⟩) hHeld ?_
      rotate_left
      · intro w hSw; (try dsimp only at hSw); first | (go_simp; done) | (go_simp; with_reducible rfl)
      try simp only [Act.put, List.setIfInBounds_toArray, List.set_cons_zero, List.set_cons_succ]
      refine held_take (v := ?_) 9 rfl (by kernel_rfl) (.inl ⟨by rfl, ?_⟩) hHeld ?_
      rotate_left
      · intro w hSw; (try dsimp only at hSw); first | (go_simp; done) | (go_simp; with_reducible rfl)
      try simp only [Act.put, List.setIfInBounds_toArray, List.set_cons_zero, List.set_cons_succ]
      refine held_take (v := ?_) 10 rfl (by kernel_rfl) (.inl ⟨by rfl, ?_⟩) hHeld ?_
      rotate_left
      · intro w hSw; (try dsimp only at hSw); first | (go_simp; done) | (go_simp; with_reducible rfl)
      try simp only [Act.put, List.setIfInBounds_toArray, List.set_cons_zero, List.set_cons_succ]
      refine held_take (v := ?_) 11 rfl (by kernel_rfl) (.inl ⟨by rfl, ?_⟩) hHeld ?_
      rotate_left
      · intro w hSw; (try dsimp only at hSw); first | (go_simp; done) | (go_simp; with_reducible rfl)
      try simp only [Act.put, List.setIfInBounds_toArray, List.set_cons_zero, List.set_cons_succ]
      refine held_take (v := (.bool false)) 12 rfl (by kernel_rfl) (.inl ⟨by rfl, ?_⟩) hHeld ?_
      · intro w hSw; (try dsimp only at hSw); go_simp
      try simp only [Act.put, List.setIfInBounds_toArray, List.set_cons_zero, List.set_cons_succ]
      refine held_take (v := ?_) 13 rfl (by kernel_rfl) (.inl ⟨by rfl, ?_⟩) hHeld ?_
      rotate_left
      · intro w hSw; (try dsimp only at hSw); first | (go_simp; done) | (go_simp; with_reducible rfl)
      try simp only [Act.put, List.setIfInBounds_toArray, List.set_cons_zero, List.set_cons_succ]
      refine held_take (v := ?_) 14 rfl (by kernel_rfl) (.inl ⟨by rfl, ?_⟩) hHeld ?_
      rotate_left
      · intro w hSw; (try dsimp only at hSw); first | (go_simp; done) | (go_simp; with_reducible rfl)
      try simp only [Act.put, List.setIfInBounds_toArray, List.set_cons_zero, List.set_cons_succ]
      refine held_take (v := ?_) 15 rfl (by kernel_rfl) (.inl ⟨by rfl, ?_⟩) hHeld ?_
      rotate_left
      · intro w hSw; (try dsimp only at hSw); first | (go_simp; done) | (go_simp; with_reducible rfl)
      try simp only [Act.put, List.setIfInBounds_toArray, List.set_cons_zero, List.set_cons_succ]
      refine held_take (v := ?_) 16 rfl (by kernel_rfl) (.inl ⟨by rfl, ?_⟩) hHeld ?_
      rotate_left
      · intro w hSw; (try dsimp only at hSw); first | (go_simp; done) | (go_simp; with_reducible rfl)
      try simp only [Act.put, List.setIfInBounds_toArray, List.set_cons_zero, List.set_cons_succ]
      refine held_take (v := ?_) 17 rfl (by kernel_rfl) (.inl ⟨by rfl, ?_⟩) hHeld ?_
      rotate_left
      · intro w hSw; (try dsimp only at hSw); first | (go_simp; done) | (go_simp; with_reducible rfl)
      try simp only [Act.put, List.setIfInBounds_toArray, List.set_cons_zero, List.set_cons_succ]
      refine held_take (v := ?_) 18 rfl (by kernel_rfl) (.inl ⟨by rfl, ?_⟩) hHeld ?_
      rotate_left
      · intro w hSw; (try dsimp only at hSw); first | (go_simp; done) | (go_simp; with_reducible rfl)
      try simp only [Act.put, List.setIfInBounds_toArray, List.set_cons_zero, List.set_cons_succ]
      refine held_take (v := ?_) 19 rfl (by kernel_rfl) (.inl ⟨by rfl, ?_⟩) hHeld ?_
      rotate_left
      · intro w hSw; (try dsimp only at hSw); first | (go_simp; done) | (go_simp; with_reducible rfl)
      try simp only [Act.put, List.setIfInBounds_toArray, List.set_cons_zero, List.set_cons_succ]
      refine held_take (v := (.bool true)) 20 rfl (by kernel_rfl) (.inl ⟨by rfl, ?_⟩) hHeld ?_
      · intro w hSw; (try dsimp only at hSw); go_simp
      try simp only [Act.put, List.setIfInBounds_toArray, List.set_cons_zero, List.set_cons_succ]
      refine held_take (v := ?_) 21 rfl (by kernel_rfl) (.inl ⟨by rfl, ?_⟩) hHeld ?_
      rotate_left
      · intro w hSw; (try dsimp only at hSw); first | (go_simp; done) | (go_simp; with_reducible rfl)
      try simp only [Act.put, List.setIfInBounds_toArray, List.set_cons_zero, List.set_cons_succ]
      refine held_take (v := ?_) 22 rfl (by kernel_rfl) (.inl ⟨by rfl, ?_⟩) hHeld ?_
      rotate_left
      · intro w hSw; (try dsimp only at hSw); first | (go_simp; done) | (go_simp; with_reducible rfl)
      try simp only [Act.put, List.setIfInBounds_toArray, List.set_cons_zero, List.set_cons_succ]
      refine held_take (v := ?_) 23 rfl (by kernel_rfl) (.inl ⟨by rfl, ?_⟩) hHeld ?_
      rotate_left
      · intro w hSw; (try dsimp only at hSw); first | (go_simp; done) | (go_simp; with_reducible rfl)
      try simp only [Act.put, List.setIfInBounds_toArray, List.set_cons_zero, List.set_cons_succ]
      refine held_take (v := ?_) 24 rfl (by kernel_rfl) (.inl ⟨by rfl, ?_⟩) hHeld ?_
      rotate_left
      · intro w hSw; (try dsimp only at hSw); first | (go_simp; done) | (go_simp; with_reducible rfl)
      try simp only [Act.put, List.setIfInBounds_toArray, List.set_cons_zero, List.set_cons_succ]
      refine held_take (v := ?_) 25 rfl (by kernel_rfl) (.inl ⟨by rfl, ?_⟩) hHeld ?_
      rotate_left
      · intro w hSw; (try dsimp only at hSw); first | (go_simp; done) | (go_simp; with_reducible rfl)
      try simp only [Act.put, List.setIfInBounds_toArray, List.set_cons_zero, List.set_cons_succ]
      refine held_take (v := ?_) 26 rfl (by kernel_rfl) (.inl ⟨by rfl, ?_⟩) hHeld ?_
      rotate_left
      · intro w hSw; (try dsimp only at hSw); first | (go_simp; done) | (go_simp; with_reducible rfl)
      try simp only [Act.put, List.setIfInBounds_toArray, List.set_cons_zero, List.set_cons_succ]
      refine held_call 27 rfl (by kernel_rfl) (fun K hK => ?_)
      go_simp
      go_at_call 29; refine (Hmay.out _ (Fr.drew (Fr.refl no w1))).mono ?_; rintro e wa ⟨rfl, hfd⟩; have HF := Lib.hid ((Fr.drew (Fr.refl no w1)).trans' hfd); clear hfd
      refine hK.out _ _ ?_ (fun hHeld' => ?_)
      · exact ⟨HF.out.cell c0 (fun f => f), HF.out.cell c1 (fun f => f), HF.out.cell e0 (fun f => f), HF.out.cell c3 (fun f => f), HF.out.cell c4 (fun f => f), HF.out.cell c5 (fun f => f), HF.out.cell c6 (fun f => f), HF.out.cell d0 (fun f => f), HF.out.cell d1 (fun f => f), HF.out.cell d2 (fun f => f), HF.out.cell d3 (fun f => f), HF.out.cell d4 (fun f => f), HF.out.cell d5 (fun f => f)⟩
      clear hK K hHeld
      have hHeld := hHeld'
      clear hHeld'
      try simp only [Act.put, List.setIfInBounds_toArray, List.set_cons_zero, List.set_cons_succ]
      refine held_take (v := ?_) 28 rfl (by kernel_rfl) (.inl ⟨by rfl, ?_⟩) hHeld ?_
      rotate_left
      · intro w hSw; (try dsimp only at hSw); first | (go_simp; done) | (go_simp; with_reducible rfl)
      try simp only [Act.put, List.setIfInBounds_toArray, List.set_cons_zero, List.set_cons_succ]
      refine held_take (v := ?_) 29 rfl (by kernel_rfl) (.inl ⟨by rfl, ?_⟩) hHeld ?_
      rotate_left
      · intro w hSw; (try dsimp only at hSw); first | (go_simp; done) | (go_simp; with_reducible rfl)
      try simp only [Act.put, List.setIfInBounds_toArray, List.set_cons_zero, List.set_cons_succ]
      refine held_take (v := ?_) 30 rfl (by kernel_rfl) (.inl ⟨by rfl, ?_⟩) hHeld ?_
      rotate_left
      · intro w hSw; (try dsimp only at hSw); first | (go_simp; done) | (go_simp; with_reducible rfl)
      try simp only [Act.put, List.setIfInBounds_toArray, List.set_cons_zero, List.set_cons_succ]
      refine held_take (v := ?_) 31 rfl (by kernel_rfl) (.inl ⟨by rfl, ?_⟩) hHeld ?_
      rotate_left
      · intro w hSw; (try dsimp only at hSw); first | (go_simp; done) | (go_simp; with_reducible rfl)
      try simp only [Act.put, List.setIfInBounds_toArray, List.set_cons_zero, List.set_cons_succ]
      refine held_done (by kernel_rfl) ?_
      try clear hHeld
      have hfd := HF.out
      clear c0 c1 c3 c4 c5 c6 e0 d0 d1 d2 d3 d4 d5
      clear HF Hmay
      replace F := Lib.hid (F.out.trans' hfd)
      replace HR := Lib.hid (HR.out.fr0 hfd)
      replace HD := Lib.hid (hfd.heap HD.out (fun f => f))
      clear hfd
      have R : rput r (i : Int) d = ({ r with qs := r.qs.set i (l ++ [d]) }, 0) := by
        unfold rput
        rw [if_neg (by rw [Hn.out]; omega), Int.toNat_natCast, hl, Option.getD_some, Hm.out, HLn.out, Hb.out, if_neg (by simp [hroom, hlate])]
      have HRR := Lib.hid R
      obtain ⟨j0, hj0, jz0, jz1, jz2⟩ := info_parts (show (Try.prog.info? 34).map (fun i => (i.zero, i.size, i.bytes)) = some (some (.agg #[.int .i64 0, .int .i64 0, .int .i64 0, .slice none 0 0, .string ByteArray.empty, .string ByteArray.empty]), 6, 80) by kernel_rfl)
      have hml : m ≤ 1000 := by rw [← Hm.out]; exact hql l (List.mem_of_getElem? hl)
      have HNB : Hid (True) := Lib.hid trivial
      have c0 : wa.cell? ⟨p, 0, none⟩ = some (.int .i64 r.room) := cell_of_block HR.out.cell rfl
      have c1 : wa.cell? ⟨p, 1, none⟩ = some (.slice (some ⟨gq, oq, none⟩) n cq) := cell_of_block HR.out.cell rfl
      have c3 : wa.cell? ⟨p, 3, none⟩ = some (.int .i64 r.own) := cell_of_block HR.out.cell rfl
      have c4 : wa.cell? ⟨p, 4, none⟩ = some (.int .i64 r.next) := cell_of_block HR.out.cell rfl
      have c5 : wa.cell? ⟨p, 5, none⟩ = some (.slice so sn sc) := cell_of_block HR.out.cell rfl
      have c6 : wa.cell? ⟨p, 6, none⟩ = some (.slice lo ln lc) := cell_of_block HR.out.cell rfl
      have e0 : wa.cell? ⟨gq, oq + i, none⟩ = some (.slice vo m vc) := HQC.out _ HR.out
      have d0 : wa.cell? ⟨gb, 0, none⟩ = some (.int .i64 dt) := cell_of_block HD.out rfl
      have d1 : wa.cell? ⟨gb, 1, none⟩ = some (.int .i64 ds) := cell_of_block HD.out rfl
      have d2 : wa.cell? ⟨gb, 2, none⟩ = some (.int .i64 dq) := cell_of_block HD.out rfl
      have d3 : wa.cell? ⟨gb, 3, none⟩ = some (.slice dO dn dc) := cell_of_block HD.out rfl
      have d4 : wa.cell? ⟨gb, 4, none⟩ = some (.string dk) := cell_of_block HD.out rfl
      have d5 : wa.cell? ⟨gb, 5, none⟩ = some (.string dx) := cell_of_block HD.out rfl
      clear R
      go_wp2_with fail
      obtain ⟨Sg643_0, HSg643_0⟩ : ∃ S : World → Prop, Hid (S = (fun w' => w'.cell? ⟨p, 1, none⟩ = some (.slice (some ⟨gq, oq, none⟩) n cq) ∧ w'.cell? ⟨gq, oq + i, none⟩ = some (.slice vo m vc) ∧ w'.cell? ⟨gb, 0, none⟩ = some (.int .i64 dt) ∧ w'.cell? ⟨gb, 1, none⟩ = some (.int .i64 ds) ∧ w'.cell? ⟨gb, 2, none⟩ = some (.int .i64 dq) ∧ w'.cell? ⟨gb, 3, none⟩ = some (.slice dO dn dc) ∧ w'.cell? ⟨gb, 4, none⟩ = some (.string dk) ∧ w'.cell? ⟨gb, 5, none⟩ = some (.string dx))) := ⟨_, Lib.hid rfl⟩
      obtain ⟨Sg643_1, HSg643_1⟩ : ∃ S : World → Prop, Hid (S = (fun _ => True)) := ⟨_, Lib.hid rfl⟩
      refine wp_heldp [16] (pickS [Sg643_0, Sg643_1]) (by kernel_rfl) ?_ (fun hHeld => ?_)
      · show Sg643_0 _; rw [HSg643_0.out]; exact ⟨c1, e0, d0, d1, d2, d3, d4, d5⟩
      obtain ⟨wc, hwc⟩ : ∃ x, wa.drew = x := ⟨_, rfl⟩; rw [hwc] at hHeld; rw [hwc]; have HF : Hid (Fr no wa wc) := (by rw [← hwc]; exact Lib.hid ((Fr.refl no wa).drewN 1)); clear hwc
      refine heldp_take (v := ?_) 0 0 rfl (by kernel_rfl) (.inl ⟨by rfl, ?_⟩) hHeld ?_
      rotate_left
      · intro w hSw; replace hSw : Sg643_0 w := hSw; rw [HSg643_0.out] at hSw; (try dsimp only at hSw); first | (go_simp; done) | (go_simp; with_reducible rfl)
      try simp only [Act.put, List.setIfInBounds_toArray, List.set_cons_zero, List.set_cons_succ]
      refine heldp_take (v := ?_) 1 0 rfl (by kernel_rfl) (.inl ⟨by rfl, ?_⟩) hHeld ?_
      rotate_left
      · intro w hSw; replace hSw : Sg643_0 w := hSw; rw [HSg643_0.out] at hSw; (try dsimp only at hSw); first | (go_simp; done) | (go_simp; with_reducible rfl)
      try simp only [Act.put, List.setIfInBounds_toArray, List.set_cons_zero, List.set_cons_succ]
      refine heldp_take (v := ?_) 2 0 rfl (by kernel_rfl) (.inl ⟨by rfl, ?_⟩) hHeld ?_
      rotate_left
      · intro w hSw; replace hSw : Sg643_0 w := hSw; rw [HSg643_0.out] at hSw; (try dsimp only at hSw); first | (go_simp; done) | (go_simp; with_reducible rfl)
      try simp only [Act.put, List.setIfInBounds_toArray, List.set_cons_zero, List.set_cons_succ]
      refine heldp_take (v := ?_) 3 0 rfl (by kernel_rfl) (.inl ⟨by rfl, ?_⟩) hHeld ?_
      rotate_left
      · intro w hSw; replace hSw : Sg643_0 w := hSw; rw [HSg643_0.out] at hSw; (try dsimp only at hSw); first | (go_simp; done) | (go_simp; with_reducible rfl)
      try simp only [Act.put, List.setIfInBounds_toArray, List.set_cons_zero, List.set_cons_succ]
      refine heldp_take (v := ?_) 4 0 rfl (by kernel_rfl) (.inl ⟨by rfl, ?_⟩) hHeld ?_
      rotate_left
      · intro w hSw; replace hSw : Sg643_0 w := hSw; rw [HSg643_0.out] at hSw; (try dsimp only at hSw); first | (go_simp; done) | (go_simp; with_reducible rfl)
      try simp only [Act.put, List.setIfInBounds_toArray, List.set_cons_zero, List.set_cons_succ]
      refine heldp_take (v := ?_) 5 0 rfl (by kernel_rfl) (.inl ⟨by rfl, ?_⟩) hHeld ?_
      rotate_left
      · intro w hSw; replace hSw : Sg643_0 w := hSw; rw [HSg643_0.out] at hSw; (try dsimp only at hSw); first | (go_simp; done) | (go_simp; with_reducible rfl)
      try simp only [Act.put, List.setIfInBounds_toArray, List.set_cons_zero, List.set_cons_succ]
      refine heldp_take (v := ?_) 6 0 rfl (by kernel_rfl) (.inl ⟨by rfl, ?_⟩) hHeld ?_
      rotate_left
      · intro w hSw; replace hSw : Sg643_0 w := hSw; rw [HSg643_0.out] at hSw; (try dsimp only at hSw); first | (go_simp; done) | (go_simp; with_reducible rfl)
      try simp only [Act.put, List.setIfInBounds_toArray, List.set_cons_zero, List.set_cons_succ]
      refine heldp_take (v := ?_) 7 0 rfl (by kernel_rfl) (.inl ⟨by rfl, ?_⟩) hHeld ?_
      rotate_left
      · intro w hSw; replace hSw : Sg643_0 w := hSw; rw [HSg643_0.out] at hSw; (try dsimp only at hSw); first | (go_simp; done) | (go_simp; with_reducible rfl)
      try simp only [Act.put, List.setIfInBounds_toArray, List.set_cons_zero, List.set_cons_succ]
      refine heldp_take (v := ?_) 8 0 rfl (by kernel_rfl) (.inl ⟨by rfl, ?_⟩) hHeld ?_
      rotate_left
      · intro w hSw; replace hSw : Sg643_0 w := hSw; rw [HSg643_0.out] at hSw; (try dsimp only at hSw); first | (go_simp; done) | (go_simp; with_reducible rfl)
      try simp only [Act.put, List.setIfInBounds_toArray, List.set_cons_zero, List.set_cons_succ]
      refine heldp_take (v := ?_) 9 0 rfl (by kernel_rfl) (.inl ⟨by rfl, ?_⟩) hHeld ?_
      rotate_left
      · intro w hSw; replace hSw : Sg643_0 w := hSw; rw [HSg643_0.out] at hSw; (try dsimp only at hSw); first | (go_simp; done) | (go_simp; with_reducible rfl)
      try simp only [Act.put, List.setIfInBounds_toArray, List.set_cons_zero, List.set_cons_succ]
      refine heldp_take (v := ?_) 10 0 rfl (by kernel_rfl) (.inl ⟨by rfl, ?_⟩) hHeld ?_
      rotate_left
      · intro w hSw; replace hSw : Sg643_0 w := hSw; rw [HSg643_0.out] at hSw; (try dsimp only at hSw); first | (go_simp; done) | (go_simp; with_reducible rfl)
      try simp only [Act.put, List.setIfInBounds_toArray, List.set_cons_zero, List.set_cons_succ]
      refine heldp_take (v := ?_) 11 0 rfl (by kernel_rfl) (.inl ⟨by rfl, ?_⟩) hHeld ?_
      rotate_left
      · intro w hSw; replace hSw : Sg643_0 w := hSw; rw [HSg643_0.out] at hSw; (try dsimp only at hSw); first | (go_simp; done) | (go_simp; with_reducible rfl)
      try simp only [Act.put, List.setIfInBounds_toArray, List.set_cons_zero, List.set_cons_succ]
      refine heldp_take (v := ?_) 12 0 rfl (by kernel_rfl) (.inl ⟨by rfl, ?_⟩) hHeld ?_
      rotate_left
      · intro w hSw; replace hSw : Sg643_0 w := hSw; rw [HSg643_0.out] at hSw; (try dsimp only at hSw); first | (go_simp; done) | (go_simp; with_reducible rfl)
      try simp only [Act.put, List.setIfInBounds_toArray, List.set_cons_zero, List.set_cons_succ]
      refine heldp_call 13 0 rfl (by kernel_rfl) (fun K hK => ?_)
      go_simp
      have hR5 := HR.out.fr0 HF.out
      have hlit := rd_lit1 wc 34 [.int .i64 dt, .int .i64 ds, .int .i64 dq, .slice dO dn dc, .string dk, .string dx]
      obtain ⟨gd, hgd⟩ : ∃ x, wc.heap.size = x := ⟨_, rfl⟩
      have hfa : Fr no wc (wc.alloc (.cells #[.int .i64 dt, .int .i64 ds, .int .i64 dq, .slice dO dn dc, .string dk, .string dx] 34)) := (Fr.refl no wc).alloc _
      obtain ⟨wb, hwb⟩ : ∃ x, wc = x := ⟨_, rfl⟩
      rw [hwb] at hR5
      have hFb : Fr no wa wb := by rw [← hwb]; exact HF.out
      obtain ⟨wc, hwc⟩ : ∃ x, wc.alloc (.cells #[.int .i64 dt, .int .i64 ds, .int .i64 dq, .slice dO dn dc, .string dk, .string dx] 34) = x := ⟨_, rfl⟩
      rw [hgd, hwc]
      rw [hgd] at hlit
      have hlit2 : Rd wc 6 (.slice (some ⟨gd, 0, none⟩) 1 1) 1 [.int .i64 dt, .int .i64 ds, .int .i64 dq, .slice dO dn dc, .string dk, .string dx] := by rw [← hwc]; exact hlit
      rw [hwc] at hfa
      replace HF := Lib.hid (HF.out.trans' hfa)
      rw [hwb] at hwc
      have D := Lib.hid hlit2
      have HRB := Lib.hid hR5
      have HWC := Lib.hid hwc
      have HFB := Lib.hid hFb
      clear hlit hlit2 hfa hwc hgd hwb hR5 hFb
      refine hK.out _ _ ?_ (fun hHeld' => ?_)
      · show Sg643_0 _; rw [HSg643_0.out]; first | exact ⟨HF.out.cell c1 (fun f => f), HF.out.cell e0 (fun f => f), HF.out.cell d0 (fun f => f), HF.out.cell d1 (fun f => f), HF.out.cell d2 (fun f => f), HF.out.cell d3 (fun f => f), HF.out.cell d4 (fun f => f), HF.out.cell d5 (fun f => f)⟩ | exact S6.out
      clear hK K hHeld
      have hHeld := hHeld'
      clear hHeld'
      try simp only [Act.put, List.setIfInBounds_toArray, List.set_cons_zero, List.set_cons_succ]
      refine heldp_call 14 0 rfl (by kernel_rfl) (fun K hK => ?_)
      rw [if_pos (by rfl)]
      have hsl : Sl wc 34 6 (.slice vo m vc) m (drCells l) := by rw [← Hm.out]; exact (HRB.out.q i (.slice vo l.length vc) l (by rw [Hm.out]; exact hv) hl).fr (by rw [← HWC.out]; exact (Fr.refl no wb).alloc _) (fun _ _ f => f)
      obtain ⟨v', w6, hrun, hs6, hf6, ho6, _⟩ := run_append_all (P := Try.prog) wc 41 41 34 j0 _ 6 80 Try.underlying41 hj0 jz0 jz1 jz2 rfl (by decide) _ _ _ hsl _ _ _ D.out (by simp [Value.oneCell']) (by unfold maxLen; omega) (by omega)
      obtain ⟨ao6, cap6, rfl, _, _⟩ := hs6.cap
      refine wp_append rfl rfl rfl hrun ?_
      have hvp := HRB.out.ap2 i _ hv
      have hng : ¬ (Value.slice vo m vc).ownBlock = some gb := fun e => by have := HR.out.lt gb (.inr (.inr ⟨_, List.mem_of_getElem? hv, e⟩)); have := HNB.out; exact HNB2.out (.inr (.inr ⟨_, List.mem_of_getElem? hv, e⟩))
      have S6 := Lib.hid (And.intro (hf6.cell (p := ⟨p, 1, none⟩) (HF.out.cell c1 (fun f => f)) hvp.1) (And.intro (hf6.cell (p := ⟨gq, oq + i, none⟩) (HF.out.cell e0 (fun f => f)) (hvp.2 gq rfl)) (And.intro (hf6.cell (p := ⟨gb, 0, none⟩) (HF.out.cell d0 (fun f => f)) hng) (And.intro (hf6.cell (p := ⟨gb, 1, none⟩) (HF.out.cell d1 (fun f => f)) hng) (And.intro (hf6.cell (p := ⟨gb, 2, none⟩) (HF.out.cell d2 (fun f => f)) hng) (And.intro (hf6.cell (p := ⟨gb, 3, none⟩) (HF.out.cell d3 (fun f => f)) hng) (And.intro (hf6.cell (p := ⟨gb, 4, none⟩) (HF.out.cell d4 (fun f => f)) hng) (hf6.cell (p := ⟨gb, 5, none⟩) (HF.out.cell d5 (fun f => f)) hng))))))))
      have L7 := Lib.hid (RgAt.put (d := d) (i := i) (v := .slice vo m vc) (l := l) (gq := gq) (oq := oq) (cq := cq) (o := .cells #[.int .i64 dt, .int .i64 ds, .int .i64 dq, .slice dO dn dc, .string dk, .string dx] 34) (by rw [Hn.out]; exact HRB.out) hv hl (by rw [Hn.out]; exact (HDX.out.fr (F.out.trans' HFB.out) (fun _ _ f => f.elim))) (by rw [Ec.out, Hm.out]; exact hs6) (by rw [HWC.out]; exact hf6) (by rw [HWC.out]; exact ho6))
      have z6 : w6.frozen? ⟨gq, oq + i, none⟩ = false := (by obtain ⟨g', o', c', cs', he, _, _, hg', _⟩ := (HRB.out.qsl.fr (by rw [← HWC.out]; exact (Fr.refl no wb).alloc _ : Fr no wb wc) (fun _ _ f => f)).form (by rw [Hn.out]; omega); rw [Hn.out] at he; cases he; exact frozen_of_block (hf6.heap hg' (hvp.2 gq rfl)))
      have HOR := Lib.hid ho6
      clear hs6 hf6 ho6 hrun hvp hng D hsl
      refine hK.out _ _ ?_ (fun hHeld' => ?_)
      · show Sg643_0 _; rw [HSg643_0.out]; first | exact ⟨HF.out.cell c1 (fun f => f), HF.out.cell e0 (fun f => f), HF.out.cell d0 (fun f => f), HF.out.cell d1 (fun f => f), HF.out.cell d2 (fun f => f), HF.out.cell d3 (fun f => f), HF.out.cell d4 (fun f => f), HF.out.cell d5 (fun f => f)⟩ | exact S6.out
      clear hK K hHeld
      have hHeld := hHeld'
      clear hHeld'
      try simp only [Act.put, List.setIfInBounds_toArray, List.set_cons_zero, List.set_cons_succ]
      refine heldp_take (v := ?_) 15 0 rfl (by kernel_rfl) (.inl ⟨by rfl, ?_⟩) hHeld ?_
      rotate_left
      · intro w hSw; replace hSw : Sg643_0 w := hSw; rw [HSg643_0.out] at hSw; (try dsimp only at hSw); first | (go_simp; done) | (go_simp; with_reducible rfl)
      try simp only [Act.put, List.setIfInBounds_toArray, List.set_cons_zero, List.set_cons_succ]
      refine heldp_call 16 1 rfl (by kernel_rfl) (fun K hK => ?_)
      rw [if_pos (by rfl)]
      obtain ⟨w7, hw7⟩ : ∃ w7, w6.setCell ⟨gq, oq + i, none⟩ (.slice ao6 (m + 1) cap6) = w7 := ⟨_, rfl⟩
      rw [hw7] at L7
      have c6' := S6.out.2.1
      go_simp
      refine hK.out _ _ ?_ (fun hHeld' => ?_)
      · show Sg643_1 _; rw [HSg643_1.out]; trivial
      clear hK K hHeld
      have hHeld := hHeld'
      clear hHeld'
      try simp only [Act.put, List.setIfInBounds_toArray, List.set_cons_zero, List.set_cons_succ]
      refine heldp_done (by kernel_rfl) ?_
      try clear hHeld
      clear HSg643_0
      try clear Sg643_0
      clear HSg643_1
      try clear Sg643_1
      have hf7 := L7.out.2
      have hR7 := L7.out.1
      rw [Hn.out] at hR7 hf7
      go_wp2
      go_ret
      rw [HRR.out]
      have hsz : w.heap.size ≤ wc.heap.size := Nat.le_trans F.out.size HF.out.size
      have hown := own_put (p := p) (qv := .slice (some ⟨gq, oq, none⟩) n cq) hv HOR.out hsz
      have hfr : Fr (RgOwn p (.slice (some ⟨gq, oq, none⟩) n cq) vs) w w7 := ((F.out.trans' HFB.out).mono (fun _ _ f => f.elim)).trans' hf7
      first | exact ⟨_, rfl, hR7, hfr, hown⟩ | exact ⟨rfl, _, hR7, hfr, hown⟩
  · have hd2 : decide ((64 : Int) ≤ (ln : Int)) = false := decide_eq_false (by omega)
    refine wp_held (fun w' => w'.cell? ⟨p, 0, none⟩ = some (.int .i64 r.room) ∧ w'.cell? ⟨p, 1, none⟩ = some (.slice (some ⟨gq, oq, none⟩) n cq) ∧ w'.cell? ⟨gq, oq + i, none⟩ = some (.slice vo m vc) ∧ w'.cell? ⟨p, 6, none⟩ = some (.slice lo ln lc)) (by kernel_rfl) ?_ (fun hHeld => ?_)
    · exact ⟨c0, c1, e0, c6⟩
    refine held_take (v := ?_) 0 rfl (by kernel_rfl) (.inl ⟨by rfl, ?_⟩) hHeld ?_
    rotate_left
    · intro w hSw; (try dsimp only at hSw); first | (go_simp; done) | (go_simp; with_reducible rfl)
    try simp only [Act.put, List.setIfInBounds_toArray, List.set_cons_zero, List.set_cons_succ]
    refine held_take (v := ?_) 1 rfl (by kernel_rfl) (.inl ⟨by rfl, ?_⟩) hHeld ?_
    rotate_left
    · intro w hSw; (try dsimp only at hSw); first | (go_simp; done) | (go_simp; with_reducible rfl)
    try simp only [Act.put, List.setIfInBounds_toArray, List.set_cons_zero, List.set_cons_succ]
    refine held_take (v := ?_) 2 rfl (by kernel_rfl) (.inl ⟨by rfl, ?_⟩) hHeld ?_
    rotate_left
    · intro w hSw; (try dsimp only at hSw); first | (go_simp; done) | (go_simp; with_reducible rfl)
    try simp only [Act.put, List.setIfInBounds_toArray, List.set_cons_zero, List.set_cons_succ]
    refine held_take (v := ?_) 3 rfl (by kernel_rfl) (.inl ⟨by rfl, ?_⟩) hHeld ?_
    rotate_left
    · intro w hSw; (try dsimp only at hSw); first | (go_simp; done) | (go_simp; with_reducible rfl)
    try simp only [Act.put, List.setIfInBounds_toArray, List.set_cons_zero, List.set_cons_succ]
    refine held_take (v := ?_) 4 rfl (by kernel_rfl) (.inl ⟨by rfl, ?_⟩) hHeld ?_
    rotate_left
    · intro w hSw; (try dsimp only at hSw); first | (go_simp; done) | (go_simp; with_reducible rfl)
    try simp only [Act.put, List.setIfInBounds_toArray, List.set_cons_zero, List.set_cons_succ]
    refine held_take (v := ?_) 5 rfl (by kernel_rfl) (.inl ⟨by rfl, ?_⟩) hHeld ?_
    rotate_left
    · intro w hSw; (try dsimp only at hSw); first | (go_simp; done) | (go_simp; with_reducible rfl)
    try simp only [Act.put, List.setIfInBounds_toArray, List.set_cons_zero, List.set_cons_succ]
    refine held_take (v := ?_) 6 rfl (by kernel_rfl) (.inl ⟨by rfl, ?_⟩) hHeld ?_
    rotate_left
    · intro w hSw; (try dsimp only at hSw); first | (go_simp; done) | (go_simp; with_reducible rfl)
    try simp only [Act.put, List.setIfInBounds_toArray, List.set_cons_zero, List.set_cons_succ]
    refine held_take (v := ?_) 7 rfl (by kernel_rfl) (.inl ⟨by rfl, ?_⟩) hHeld ?_
    rotate_left
    · intro w hSw; (try dsimp only at hSw); first | (go_simp; done) | (go_simp; with_reducible rfl)
    try simp only [Act.put, List.setIfInBounds_toArray, List.set_cons_zero, List.set_cons_succ]
    refine held_take (v := ?_) 8 rfl (by kernel_rfl) (.inl ⟨by rfl, ?_⟩) hHeld ?_
    rotate_left
    · intro w hSw; (try dsimp only at hSw); first | (go_simp; done) | (go_simp; with_reducible rfl)
    try simp only [Act.put, List.setIfInBounds_toArray, List.set_cons_zero, List.set_cons_succ]
    refine held_take (v := ?_) 9 rfl (by kernel_rfl) (.inl ⟨by rfl, ?_⟩) hHeld ?_
    rotate_left
    · intro w hSw; (try dsimp only at hSw); first | (go_simp; done) | (go_simp; with_reducible rfl)
    try simp only [Act.put, List.setIfInBounds_toArray, List.set_cons_zero, List.set_cons_succ]
    refine held_take (v := ?_) 10 rfl (by kernel_rfl) (.inl ⟨by rfl, ?_⟩) hHeld ?_
    rotate_left
    · intro w hSw; (try dsimp only at hSw); first | (go_simp; done) | (go_simp; with_reducible rfl)
    try simp only [Act.put, List.setIfInBounds_toArray, List.set_cons_zero, List.set_cons_succ]
    refine held_take (v := ?_) 11 rfl (by kernel_rfl) (.inl ⟨by rfl, ?_⟩) hHeld ?_
    rotate_left
    · intro w hSw; (try dsimp only at hSw); first | (go_simp; done) | (go_simp; with_reducible rfl)
    try simp only [Act.put, List.setIfInBounds_toArray, List.set_cons_zero, List.set_cons_succ]
    refine held_take (v := (.bool false)) 12 rfl (by kernel_rfl) (.inl ⟨by rfl, ?_⟩) hHeld ?_
    · intro w hSw; (try dsimp only at hSw); go_simp
    try simp only [Act.put, List.setIfInBounds_toArray, List.set_cons_zero, List.set_cons_succ]
    refine held_take (v := ?_) 13 rfl (by kernel_rfl) (.inl ⟨by rfl, ?_⟩) hHeld ?_
    rotate_left
    · intro w hSw; (try dsimp only at hSw); first | (go_simp; done) | (go_simp; with_reducible rfl)
    try simp only [Act.put, List.setIfInBounds_toArray, List.set_cons_zero, List.set_cons_succ]
    refine held_take (v := ?_) 14 rfl (by kernel_rfl) (.inl ⟨by rfl, ?_⟩) hHeld ?_
    rotate_left
    · intro w hSw; (try dsimp only at hSw); first | (go_simp; done) | (go_simp; with_reducible rfl)
    try simp only [Act.put, List.setIfInBounds_toArray, List.set_cons_zero, List.set_cons_succ]
    refine held_take (v := ?_) 15 rfl (by kernel_rfl) (.inl ⟨by rfl, ?_⟩) hHeld ?_
    rotate_left
    · intro w hSw; (try dsimp only at hSw); first | (go_simp; done) | (go_simp; with_reducible rfl)
    try simp only [Act.put, List.setIfInBounds_toArray, List.set_cons_zero, List.set_cons_succ]
    refine held_take (v := ?_) 16 rfl (by kernel_rfl) (.inl ⟨by rfl, ?_⟩) hHeld ?_
    rotate_left
    · intro w hSw; (try dsimp only at hSw); first | (go_simp; done) | (go_simp; with_reducible rfl)
    try simp only [Act.put, List.setIfInBounds_toArray, List.set_cons_zero, List.set_cons_succ]
    refine held_take (v := ?_) 17 rfl (by kernel_rfl) (.inl ⟨by rfl, ?_⟩) hHeld ?_
    rotate_left
    · intro w hSw; (try dsimp only at hSw); first | (go_simp; done) | (go_simp; with_reducible rfl)
    try simp only [Act.put, List.setIfInBounds_toArray, List.set_cons_zero, List.set_cons_succ]
    refine held_take (v := ?_) 18 rfl (by kernel_rfl) (.inl ⟨by rfl, ?_⟩) hHeld ?_
    rotate_left
    · intro w hSw; (try dsimp only at hSw); first | (go_simp; done) | (go_simp; with_reducible rfl)
    try simp only [Act.put, List.setIfInBounds_toArray, List.set_cons_zero, List.set_cons_succ]
    refine held_take (v := ?_) 19 rfl (by kernel_rfl) (.inl ⟨by rfl, ?_⟩) hHeld ?_
    rotate_left
    · intro w hSw; (try dsimp only at hSw); first | (go_simp; done) | (go_simp; with_reducible rfl)
    try simp only [Act.put, List.setIfInBounds_toArray, List.set_cons_zero, List.set_cons_succ]
    refine held_take (v := (.bool false)) 20 rfl (by kernel_rfl) (.inl ⟨by rfl, ?_⟩) hHeld ?_
    · intro w hSw; (try dsimp only at hSw); go_simp
    try simp only [Act.put, List.setIfInBounds_toArray, List.set_cons_zero, List.set_cons_succ]
    refine held_take (v := ?_) 21 rfl (by kernel_rfl) (.inl ⟨by rfl, ?_⟩) hHeld ?_
    rotate_left
    · intro w hSw; (try dsimp only at hSw); first | (go_simp; done) | (go_simp; with_reducible rfl)
    try simp only [Act.put, List.setIfInBounds_toArray, List.set_cons_zero, List.set_cons_succ]
    refine held_take 22 rfl (by kernel_rfl) (.inr ⟨by rfl, rfl⟩) hHeld ?_
    try simp only [Act.put, List.setIfInBounds_toArray, List.set_cons_zero, List.set_cons_succ]
    refine held_take 23 rfl (by kernel_rfl) (.inr ⟨by rfl, rfl⟩) hHeld ?_
    try simp only [Act.put, List.setIfInBounds_toArray, List.set_cons_zero, List.set_cons_succ]
    refine held_take 24 rfl (by kernel_rfl) (.inr ⟨by rfl, rfl⟩) hHeld ?_
    try simp only [Act.put, List.setIfInBounds_toArray, List.set_cons_zero, List.set_cons_succ]
    refine held_take 25 rfl (by kernel_rfl) (.inr ⟨by rfl, rfl⟩) hHeld ?_
    try simp only [Act.put, List.setIfInBounds_toArray, List.set_cons_zero, List.set_cons_succ]
    refine held_take 26 rfl (by kernel_rfl) (.inr ⟨by rfl, rfl⟩) hHeld ?_
    try simp only [Act.put, List.setIfInBounds_toArray, List.set_cons_zero, List.set_cons_succ]
    refine held_take 27 rfl (by kernel_rfl) (.inr ⟨by rfl, rfl⟩) hHeld ?_
    try simp only [Act.put, List.setIfInBounds_toArray, List.set_cons_zero, List.set_cons_succ]
    refine held_take 28 rfl (by kernel_rfl) (.inr ⟨by rfl, rfl⟩) hHeld ?_
    try simp only [Act.put, List.setIfInBounds_toArray, List.set_cons_zero, List.set_cons_succ]
    refine held_take (v := ?_) 29 rfl (by kernel_rfl) (.inl ⟨by rfl, ?_⟩) hHeld ?_
    rotate_left
    · intro w hSw; (try dsimp only at hSw); first | (go_simp; done) | (go_simp; with_reducible rfl)
    try simp only [Act.put, List.setIfInBounds_toArray, List.set_cons_zero, List.set_cons_succ]
    refine held_take (v := ?_) 30 rfl (by kernel_rfl) (.inl ⟨by rfl, ?_⟩) hHeld ?_
    rotate_left
    · intro w hSw; (try dsimp only at hSw); first | (go_simp; done) | (go_simp; with_reducible rfl)
    try simp only [Act.put, List.setIfInBounds_toArray, List.set_cons_zero, List.set_cons_succ]
    refine held_take (v := ?_) 31 rfl (by kernel_rfl) (.inl ⟨by rfl, ?_⟩) hHeld ?_
    rotate_left
    · intro w hSw; (try dsimp only at hSw); first | (go_simp; done) | (go_simp; with_reducible rfl)
    try simp only [Act.put, List.setIfInBounds_toArray, List.set_cons_zero, List.set_cons_succ]
    refine held_done (by kernel_rfl) ?_
    try clear hHeld
    obtain ⟨u2, hu2⟩ : ∃ U, w1.drew = U := ⟨_, rfl⟩
    have hfd : Fr no w1 u2 := by rw [← hu2]; exact (Fr.refl no w1).drewN 1
    rw [hu2]
    clear c0 c1 c3 c4 c5 c6 e0 d0 d1 d2 d3 d4 d5
    clear hu2 Hmay
    replace F := Lib.hid (F.out.trans' hfd)
    replace HR := Lib.hid (HR.out.fr0 hfd)
    replace HD := Lib.hid (hfd.heap HD.out (fun f => f))
    clear hfd
    have R : rput r (i : Int) d = ({ r with qs := r.qs.set i (l ++ [d]) }, 0) := by
      unfold rput
      rw [if_neg (by rw [Hn.out]; omega), Int.toNat_natCast, hl, Option.getD_some, Hm.out, HLn.out, Hb.out, if_neg (by simp [hroom, hlate])]
    have HRR := Lib.hid R
    obtain ⟨j0, hj0, jz0, jz1, jz2⟩ := info_parts (show (Try.prog.info? 34).map (fun i => (i.zero, i.size, i.bytes)) = some (some (.agg #[.int .i64 0, .int .i64 0, .int .i64 0, .slice none 0 0, .string ByteArray.empty, .string ByteArray.empty]), 6, 80) by kernel_rfl)
    have hml : m ≤ 1000 := by rw [← Hm.out]; exact hql l (List.mem_of_getElem? hl)
    have HNB : Hid (True) := Lib.hid trivial
    have c0 : u2.cell? ⟨p, 0, none⟩ = some (.int .i64 r.room) := cell_of_block HR.out.cell rfl
    have c1 : u2.cell? ⟨p, 1, none⟩ = some (.slice (some ⟨gq, oq, none⟩) n cq) := cell_of_block HR.out.cell rfl
    have c3 : u2.cell? ⟨p, 3, none⟩ = some (.int .i64 r.own) := cell_of_block HR.out.cell rfl
    have c4 : u2.cell? ⟨p, 4, none⟩ = some (.int .i64 r.next) := cell_of_block HR.out.cell rfl
    have c5 : u2.cell? ⟨p, 5, none⟩ = some (.slice so sn sc) := cell_of_block HR.out.cell rfl
    have c6 : u2.cell? ⟨p, 6, none⟩ = some (.slice lo ln lc) := cell_of_block HR.out.cell rfl
    have e0 : u2.cell? ⟨gq, oq + i, none⟩ = some (.slice vo m vc) := HQC.out _ HR.out
    have d0 : u2.cell? ⟨gb, 0, none⟩ = some (.int .i64 dt) := cell_of_block HD.out rfl
    have d1 : u2.cell? ⟨gb, 1, none⟩ = some (.int .i64 ds) := cell_of_block HD.out rfl
    have d2 : u2.cell? ⟨gb, 2, none⟩ = some (.int .i64 dq) := cell_of_block HD.out rfl
    have d3 : u2.cell? ⟨gb, 3, none⟩ = some (.slice dO dn dc) := cell_of_block HD.out rfl
    have d4 : u2.cell? ⟨gb, 4, none⟩ = some (.string dk) := cell_of_block HD.out rfl
    have d5 : u2.cell? ⟨gb, 5, none⟩ = some (.string dx) := cell_of_block HD.out rfl
    clear R
    go_wp2_with fail
    obtain ⟨Sg926_0, HSg926_0⟩ : ∃ S : World → Prop, Hid (S = (fun w' => w'.cell? ⟨p, 1, none⟩ = some (.slice (some ⟨gq, oq, none⟩) n cq) ∧ w'.cell? ⟨gq, oq + i, none⟩ = some (.slice vo m vc) ∧ w'.cell? ⟨gb, 0, none⟩ = some (.int .i64 dt) ∧ w'.cell? ⟨gb, 1, none⟩ = some (.int .i64 ds) ∧ w'.cell? ⟨gb, 2, none⟩ = some (.int .i64 dq) ∧ w'.cell? ⟨gb, 3, none⟩ = some (.slice dO dn dc) ∧ w'.cell? ⟨gb, 4, none⟩ = some (.string dk) ∧ w'.cell? ⟨gb, 5, none⟩ = some (.string dx))) := ⟨_, Lib.hid rfl⟩
    obtain ⟨Sg926_1, HSg926_1⟩ : ∃ S : World → Prop, Hid (S = (fun _ => True)) := ⟨_, Lib.hid rfl⟩
    refine wp_heldp [16] (pickS [Sg926_0, Sg926_1]) (by kernel_rfl) ?_ (fun hHeld => ?_)
    · show Sg926_0 _; rw [HSg926_0.out]; exact ⟨c1, e0, d0, d1, d2, d3, d4, d5⟩
    obtain ⟨wc, hwc⟩ : ∃ x, u2.drew = x := ⟨_, rfl⟩; rw [hwc] at hHeld; rw [hwc]; have HF : Hid (Fr no u2 wc) := (by rw [← hwc]; exact Lib.hid ((Fr.refl no u2).drewN 1)); clear hwc
    refine heldp_take (v := ?_) 0 0 rfl (by kernel_rfl) (.inl ⟨by rfl, ?_⟩) hHeld ?_
    rotate_left
    · intro w hSw; replace hSw : Sg926_0 w := hSw; rw [HSg926_0.out] at hSw; (try dsimp only at hSw); first | (go_simp; done) | (go_simp; with_reducible rfl)
    try simp only [Act.put, List.setIfInBounds_toArray, List.set_cons_zero, List.set_cons_succ]
    refine heldp_take (v := ?_) 1 0 rfl (by kernel_rfl) (.inl ⟨by rfl, ?_⟩) hHeld ?_
    rotate_left
    · intro w hSw; replace hSw : Sg926_0 w := hSw; rw [HSg926_0.out] at hSw; (try dsimp only at hSw); first | (go_simp; done) | (go_simp; with_reducible rfl)
    try simp only [Act.put, List.setIfInBounds_toArray, List.set_cons_zero, List.set_cons_succ]
    refine heldp_take (v := ?_) 2 0 rfl (by kernel_rfl) (.inl ⟨by rfl, ?_⟩) hHeld ?_
    rotate_left
    · intro w hSw; replace hSw : Sg926_0 w := hSw; rw [HSg926_0.out] at hSw; (try dsimp only at hSw); first | (go_simp; done) | (go_simp; with_reducible rfl)
    try simp only [Act.put, List.setIfInBounds_toArray, List.set_cons_zero, List.set_cons_succ]
    refine heldp_take (v := ?_) 3 0 rfl (by kernel_rfl) (.inl ⟨by rfl, ?_⟩) hHeld ?_
    rotate_left
    · intro w hSw; replace hSw : Sg926_0 w := hSw; rw [HSg926_0.out] at hSw; (try dsimp only at hSw); first | (go_simp; done) | (go_simp; with_reducible rfl)
    try simp only [Act.put, List.setIfInBounds_toArray, List.set_cons_zero, List.set_cons_succ]
    refine heldp_take (v := ?_) 4 0 rfl (by kernel_rfl) (.inl ⟨by rfl, ?_⟩) hHeld ?_
    rotate_left
    · intro w hSw; replace hSw : Sg926_0 w := hSw; rw [HSg926_0.out] at hSw; (try dsimp only at hSw); first | (go_simp; done) | (go_simp; with_reducible rfl)
    try simp only [Act.put, List.setIfInBounds_toArray, List.set_cons_zero, List.set_cons_succ]
    refine heldp_take (v := ?_) 5 0 rfl (by kernel_rfl) (.inl ⟨by rfl, ?_⟩) hHeld ?_
    rotate_left
    · intro w hSw; replace hSw : Sg926_0 w := hSw; rw [HSg926_0.out] at hSw; (try dsimp only at hSw); first | (go_simp; done) | (go_simp; with_reducible rfl)
    try simp only [Act.put, List.setIfInBounds_toArray, List.set_cons_zero, List.set_cons_succ]
    refine heldp_take (v := ?_) 6 0 rfl (by kernel_rfl) (.inl ⟨by rfl, ?_⟩) hHeld ?_
    rotate_left
    · intro w hSw; replace hSw : Sg926_0 w := hSw; rw [HSg926_0.out] at hSw; (try dsimp only at hSw); first | (go_simp; done) | (go_simp; with_reducible rfl)
    try simp only [Act.put, List.setIfInBounds_toArray, List.set_cons_zero, List.set_cons_succ]
    refine heldp_take (v := ?_) 7 0 rfl (by kernel_rfl) (.inl ⟨by rfl, ?_⟩) hHeld ?_
    rotate_left
    · intro w hSw; replace hSw : Sg926_0 w := hSw; rw [HSg926_0.out] at hSw; (try dsimp only at hSw); first | (go_simp; done) | (go_simp; with_reducible rfl)
    try simp only [Act.put, List.setIfInBounds_toArray, List.set_cons_zero, List.set_cons_succ]
    refine heldp_take (v := ?_) 8 0 rfl (by kernel_rfl) (.inl ⟨by rfl, ?_⟩) hHeld ?_
    rotate_left
    · intro w hSw; replace hSw : Sg926_0 w := hSw; rw [HSg926_0.out] at hSw; (try dsimp only at hSw); first | (go_simp; done) | (go_simp; with_reducible rfl)
    try simp only [Act.put, List.setIfInBounds_toArray, List.set_cons_zero, List.set_cons_succ]
    refine heldp_take (v := ?_) 9 0 rfl (by kernel_rfl) (.inl ⟨by rfl, ?_⟩) hHeld ?_
    rotate_left
    · intro w hSw; replace hSw : Sg926_0 w := hSw; rw [HSg926_0.out] at hSw; (try dsimp only at hSw); first | (go_simp; done) | (go_simp; with_reducible rfl)
    try simp only [Act.put, List.setIfInBounds_toArray, List.set_cons_zero, List.set_cons_succ]
    refine heldp_take (v := ?_) 10 0 rfl (by kernel_rfl) (.inl ⟨by rfl, ?_⟩) hHeld ?_
    rotate_left
    · intro w hSw; replace hSw : Sg926_0 w := hSw; rw [HSg926_0.out] at hSw; (try dsimp only at hSw); first | (go_simp; done) | (go_simp; with_reducible rfl)
    try simp only [Act.put, List.setIfInBounds_toArray, List.set_cons_zero, List.set_cons_succ]
    refine heldp_take (v := ?_) 11 0 rfl (by kernel_rfl) (.inl ⟨by rfl, ?_⟩) hHeld ?_
    rotate_left
    · intro w hSw; replace hSw : Sg926_0 w := hSw; rw [HSg926_0.out] at hSw; (try dsimp only at hSw); first | (go_simp; done) | (go_simp; with_reducible rfl)
    try simp only [Act.put, List.setIfInBounds_toArray, List.set_cons_zero, List.set_cons_succ]
    refine heldp_take (v := ?_) 12 0 rfl (by kernel_rfl) (.inl ⟨by rfl, ?_⟩) hHeld ?_
    rotate_left
    · intro w hSw; replace hSw : Sg926_0 w := hSw; rw [HSg926_0.out] at hSw; (try dsimp only at hSw); first | (go_simp; done) | (go_simp; with_reducible rfl)
    try simp only [Act.put, List.setIfInBounds_toArray, List.set_cons_zero, List.set_cons_succ]
    refine heldp_call 13 0 rfl (by kernel_rfl) (fun K hK => ?_)
    go_simp
    have hR5 := HR.out.fr0 HF.out
    have hlit := rd_lit1 wc 34 [.int .i64 dt, .int .i64 ds, .int .i64 dq, .slice dO dn dc, .string dk, .string dx]
    obtain ⟨gd, hgd⟩ : ∃ x, wc.heap.size = x := ⟨_, rfl⟩
    have hfa : Fr no wc (wc.alloc (.cells #[.int .i64 dt, .int .i64 ds, .int .i64 dq, .slice dO dn dc, .string dk, .string dx] 34)) := (Fr.refl no wc).alloc _
    obtain ⟨wb, hwb⟩ : ∃ x, wc = x := ⟨_, rfl⟩
    rw [hwb] at hR5
    have hFb : Fr no u2 wb := by rw [← hwb]; exact HF.out
    obtain ⟨wc, hwc⟩ : ∃ x, wc.alloc (.cells #[.int .i64 dt, .int .i64 ds, .int .i64 dq, .slice dO dn dc, .string dk, .string dx] 34) = x := ⟨_, rfl⟩
    rw [hgd, hwc]
    rw [hgd] at hlit
    have hlit2 : Rd wc 6 (.slice (some ⟨gd, 0, none⟩) 1 1) 1 [.int .i64 dt, .int .i64 ds, .int .i64 dq, .slice dO dn dc, .string dk, .string dx] := by rw [← hwc]; exact hlit
    rw [hwc] at hfa
    replace HF := Lib.hid (HF.out.trans' hfa)
    rw [hwb] at hwc
    have D := Lib.hid hlit2
    have HRB := Lib.hid hR5
    have HWC := Lib.hid hwc
    have HFB := Lib.hid hFb
    clear hlit hlit2 hfa hwc hgd hwb hR5 hFb
    refine hK.out _ _ ?_ (fun hHeld' => ?_)
    · show Sg926_0 _; rw [HSg926_0.out]; first | exact ⟨HF.out.cell c1 (fun f => f), HF.out.cell e0 (fun f => f), HF.out.cell d0 (fun f => f), HF.out.cell d1 (fun f => f), HF.out.cell d2 (fun f => f), HF.out.cell d3 (fun f => f), HF.out.cell d4 (fun f => f), HF.out.cell d5 (fun f => f)⟩ | exact S6.out
    clear hK K hHeld
    have hHeld := hHeld'
    clear hHeld'
    try simp only [Act.put, List.setIfInBounds_toArray, List.set_cons_zero, List.set_cons_succ]
    refine heldp_call 14 0 rfl (by kernel_rfl) (fun K hK => ?_)
    rw [if_pos (by rfl)]
    have hsl : Sl wc 34 6 (.slice vo m vc) m (drCells l) := by rw [← Hm.out]; exact (HRB.out.q i (.slice vo l.length vc) l (by rw [Hm.out]; exact hv) hl).fr (by rw [← HWC.out]; exact (Fr.refl no wb).alloc _) (fun _ _ f => f)
    obtain ⟨v', w6, hrun, hs6, hf6, ho6, _⟩ := run_append_all (P := Try.prog) wc 41 41 34 j0 _ 6 80 Try.underlying41 hj0 jz0 jz1 jz2 rfl (by decide) _ _ _ hsl _ _ _ D.out (by simp [Value.oneCell']) (by unfold maxLen; omega) (by omega)
    obtain ⟨ao6, cap6, rfl, _, _⟩ := hs6.cap
    refine wp_append rfl rfl rfl hrun ?_
    have hvp := HRB.out.ap2 i _ hv
    have hng : ¬ (Value.slice vo m vc).ownBlock = some gb := fun e => by have := HR.out.lt gb (.inr (.inr ⟨_, List.mem_of_getElem? hv, e⟩)); have := HNB.out; exact HNB2.out (.inr (.inr ⟨_, List.mem_of_getElem? hv, e⟩))
    have S6 := Lib.hid (And.intro (hf6.cell (p := ⟨p, 1, none⟩) (HF.out.cell c1 (fun f => f)) hvp.1) (And.intro (hf6.cell (p := ⟨gq, oq + i, none⟩) (HF.out.cell e0 (fun f => f)) (hvp.2 gq rfl)) (And.intro (hf6.cell (p := ⟨gb, 0, none⟩) (HF.out.cell d0 (fun f => f)) hng) (And.intro (hf6.cell (p := ⟨gb, 1, none⟩) (HF.out.cell d1 (fun f => f)) hng) (And.intro (hf6.cell (p := ⟨gb, 2, none⟩) (HF.out.cell d2 (fun f => f)) hng) (And.intro (hf6.cell (p := ⟨gb, 3, none⟩) (HF.out.cell d3 (fun f => f)) hng) (And.intro (hf6.cell (p := ⟨gb, 4, none⟩) (HF.out.cell d4 (fun f => f)) hng) (hf6.cell (p := ⟨gb, 5, none⟩) (HF.out.cell d5 (fun f => f)) hng))))))))
    have L7 := Lib.hid (RgAt.put (d := d) (i := i) (v := .slice vo m vc) (l := l) (gq := gq) (oq := oq) (cq := cq) (o := .cells #[.int .i64 dt, .int .i64 ds, .int .i64 dq, .slice dO dn dc, .string dk, .string dx] 34) (by rw [Hn.out]; exact HRB.out) hv hl (by rw [Hn.out]; exact (HDX.out.fr (F.out.trans' HFB.out) (fun _ _ f => f.elim))) (by rw [Ec.out, Hm.out]; exact hs6) (by rw [HWC.out]; exact hf6) (by rw [HWC.out]; exact ho6))
    have z6 : w6.frozen? ⟨gq, oq + i, none⟩ = false := (by obtain ⟨g', o', c', cs', he, _, _, hg', _⟩ := (HRB.out.qsl.fr (by rw [← HWC.out]; exact (Fr.refl no wb).alloc _ : Fr no wb wc) (fun _ _ f => f)).form (by rw [Hn.out]; omega); rw [Hn.out] at he; cases he; exact frozen_of_block (hf6.heap hg' (hvp.2 gq rfl)))
    have HOR := Lib.hid ho6
    clear hs6 hf6 ho6 hrun hvp hng D hsl
    refine hK.out _ _ ?_ (fun hHeld' => ?_)
    · show Sg926_0 _; rw [HSg926_0.out]; first | exact ⟨HF.out.cell c1 (fun f => f), HF.out.cell e0 (fun f => f), HF.out.cell d0 (fun f => f), HF.out.cell d1 (fun f => f), HF.out.cell d2 (fun f => f), HF.out.cell d3 (fun f => f), HF.out.cell d4 (fun f => f), HF.out.cell d5 (fun f => f)⟩ | exact S6.out
    clear hK K hHeld
    have hHeld := hHeld'
    clear hHeld'
    try simp only [Act.put, List.setIfInBounds_toArray, List.set_cons_zero, List.set_cons_succ]
    refine heldp_take (v := ?_) 15 0 rfl (by kernel_rfl) (.inl ⟨by rfl, ?_⟩) hHeld ?_
    rotate_left
    · intro w hSw; replace hSw : Sg926_0 w := hSw; rw [HSg926_0.out] at hSw; (try dsimp only at hSw); first | (go_simp; done) | (go_simp; with_reducible rfl)
    try simp only [Act.put, List.setIfInBounds_toArray, List.set_cons_zero, List.set_cons_succ]
    refine heldp_call 16 1 rfl (by kernel_rfl) (fun K hK => ?_)
    rw [if_pos (by rfl)]
    obtain ⟨w7, hw7⟩ : ∃ w7, w6.setCell ⟨gq, oq + i, none⟩ (.slice ao6 (m + 1) cap6) = w7 := ⟨_, rfl⟩
    rw [hw7] at L7
    have c6' := S6.out.2.1
    go_simp
    refine hK.out _ _ ?_ (fun hHeld' => ?_)
    · show Sg926_1 _; rw [HSg926_1.out]; trivial
    clear hK K hHeld
    have hHeld := hHeld'
    clear hHeld'
    try simp only [Act.put, List.setIfInBounds_toArray, List.set_cons_zero, List.set_cons_succ]
    refine heldp_done (by kernel_rfl) ?_
    try clear hHeld
    clear HSg926_0
    try clear Sg926_0
    clear HSg926_1
    try clear Sg926_1
    have hf7 := L7.out.2
    have hR7 := L7.out.1
    rw [Hn.out] at hR7 hf7
    go_wp2
    go_ret
    rw [HRR.out]
    have hsz : w.heap.size ≤ wc.heap.size := Nat.le_trans F.out.size HF.out.size
    have hown := own_put (p := p) (qv := .slice (some ⟨gq, oq, none⟩) n cq) hv HOR.out hsz
    have hfr : Fr (RgOwn p (.slice (some ⟨gq, oq, none⟩) n cq) vs) w w7 := ((F.out.trans' HFB.out).mono (fun _ _ f => f.elim)).trans' hf7
    first | exact ⟨_, rfl, hR7, hfr, hown⟩ | exact ⟨rfl, _, hR7, hfr, hown⟩
end Go.Proofs.Ytlohbikkhojlaaa
