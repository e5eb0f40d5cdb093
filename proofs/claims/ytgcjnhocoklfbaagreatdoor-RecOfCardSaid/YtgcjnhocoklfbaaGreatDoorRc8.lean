/- The law's Rows, over an iterator that makes blocks of its own. -/
import Derived.Test.YtgcjnhocoklfbaaGreatDoorRc7
import Derived.Test.YtgcjnhocoklfbaaGreatDoorHeld
namespace Go.XL
open Go.RowKit Go.Shelf
theorem rc_lit1 (w : World) (E : TypeId) (s q : Int) (d : Value) (k v : ByteArray) : Rd (w.alloc (.cells #[.int .i64 s, .int .i64 q, d, .string k, .string v] E)) 5 (.slice (some ⟨w.heap.size, 0, none⟩) 1 1) 1 [.int .i64 s, .int .i64 q, d, .string k, .string v] := by
  refine ⟨by simp, _, 1, rfl, Nat.le_refl _, by simp [maxLen], by simp, fun h0 => ⟨w.heap.size, 0, rfl, fun j u hj => ?_⟩⟩
  exact cell_of_block (World.alloc_heap_new w (.cells #[.int .i64 s, .int .i64 q, d, .string k, .string v] E)) (by simpa using hj)
end Go.XL
namespace Go.Proofs.YtgcjnhocoklfbaaGreatDoor
open Go.RowKit Go.Shelf Go.XL
set_option linter.unusedVariables false
set_option linter.unusedSimpArgs false
attribute [local go_sem] Oper.semAt_some
abbrev fstQ (x : Nat × Rc) : Int := x.1
/-- what holds between two rounds of Rows: w + 0 (most), + 1 .. + 3 (the results), + 4, + 5 (a, b) -/
def RwI (w : World) (ls : List (Nat × Rc)) (most : Int) (s : List (Nat × Rc)) (W : World) : Prop :=
  ∃ (done : List (Nat × Rc)) (ao : Option Addr) (ac : Nat) (bo : Option Addr) (bc : Nat), ls = done ++ s ∧ W.heap[w.heap.size]? = some (.cells #[.int .i64 most] 3 (0, 0)) ∧
    W.heap[w.heap.size + 1]? = some (.cells #[.slice none 0 0] 22 (0, 0)) ∧ W.heap[w.heap.size + 2]? = some (.cells #[.slice none 0 0] 41 (0, 0)) ∧ W.heap[w.heap.size + 3]? = some (.cells #[.bool false] 4 (0, 0)) ∧
    W.heap[w.heap.size + 4]? = some (.cells #[.slice ao done.length ac] 22 (0, 0)) ∧ W.heap[w.heap.size + 5]? = some (.cells #[.slice bo done.length bc] 41 (0, 0)) ∧
    Sl W 3 1 (.slice ao done.length ac) done.length ((done.map fstQ).map (Value.int .i64)) ∧ Sl W 25 5 (.slice bo done.length bc) done.length (rcCells (done.map (·.2))) ∧
    (∀ g, Value.ownBlock (.slice ao done.length ac) = some g → w.heap.size + 6 ≤ g ∧ Value.ownBlock (.slice bo done.length bc) ≠ some g) ∧ (∀ g, Value.ownBlock (.slice bo done.length bc) = some g → w.heap.size + 6 ≤ g) ∧ Fr no w W

theorem rows_res (tmps : Array Value) (c1 c2 c3 : Nat) (w : World) (v1 v2 v3 : Value) (h1 : tmps[4]? = some (.pointer (some ⟨c1, 0, none⟩))) (h2 : tmps[5]? = some (.pointer (some ⟨c2, 0, none⟩))) (h3 : tmps[6]? = some (.pointer (some ⟨c3, 0, none⟩)))
    (g1 : w.cell? ⟨c1, 0, none⟩ = some v1) (g2 : w.cell? ⟨c2, 0, none⟩ = some v2) (g3 : w.cell? ⟨c3, 0, none⟩ = some v3) : (results Tryz.f24 tmps).run Tryz.prog w = .ok (.tuple #[v1, v2, v3]) w := by
  simp [results, Tryz.results24, go_sem, h1, h2, h3, g1, g2, g3]

set_option maxRecDepth 10000 in
set_option maxHeartbeats 2000000 in
theorem law_rows {gf : Nat} {lb : Array Value} {Pre : World → Prop} (ls : List (Nat × Rc)) (most : Int) (w : World) (hnn : ∀ w, (binOp .eql 43 (.func (.func gf) #[] lb) .nilFunc).run Tryz.prog w = .ok (.bool false) w)
    (eg : ∀ args w, (callFunc gf args).run Tryz.prog w = .ok (.enter gf args) w) (hiter : EachF Fence.wide 2 Tryz.prog gf lb encQ Pre ls) (hPre : ∀ W, Fr no w W → Pre W) (hlen : (ls.length : Int) ≤ most) (hm : most ≤ 1000) (hone : ∀ x ∈ ls, ∃ dO dn dc, x.2.dv = .slice dO dn dc) :
    Calls Tryz.prog 24 #[.func (.func gf) #[] lb, .int .i64 most] w fun e w' => ∃ ao ac bo bc, e = .returned (.tuple #[.slice ao ls.length ac, .slice bo ls.length bc, .bool true]) ∧ Rd w' 1 (.slice ao ls.length ac) ls.length ((ls.map fstQ).map (Value.int .i64)) ∧ Rd w' 5 (.slice bo ls.length bc) ls.length (rcCells (ls.map (·.2))) ∧ Fr no w w' ∧ ∀ g, Value.ownBlock (.slice ao ls.length ac) = some g ∨ Value.ownBlock (.slice bo ls.length bc) = some g → w.heap.size ≤ g := by
  have Hiter := Lib.hid hiter
  have HPre := Lib.hid hPre
  have Heg := Lib.hid eg
  have Hone := Lib.hid hone
  clear hiter hPre eg hone
  refine calls_of_in (n := 4) free_wide (callsIn_of_wp_marks Tryz.func24 rfl trivial (wpIn_wide.2 ?_) rfl)
  simp only [Tryz.ntmps24, List.size_toArray, List.length_cons, List.length_nil, Nat.reduceAdd, Nat.reduceSub, Array.replicate_succ, Array.replicate_zero, List.push_toArray, List.append_toArray, List.nil_append, List.cons_append]
  go_wp2
  clear hnn
  refine wp_name ?_
  intro w2 hw2
  have hf2 : Fr no w w2 := by rw [hw2]; exact ((((((Fr.refl no w).alloc _).alloc _).alloc _).alloc _).alloc _).alloc _
  have hI0 : RwI w ls most ls w2 := by
    refine ⟨[], none, 0, none, 0, rfl, ?_, ?_, ?_, ?_, ?_, ?_, by simpa using Sl.nil _ _ _, by simpa [rcCells] using Sl.nil _ _ _, by simp [Value.ownBlock], by simp [Value.ownBlock], hf2⟩ <;> rw [hw2] <;> simp only [alloc_get, World.size_alloc, Nat.add_assoc] <;> simp
  have hs2 : w.heap.size + 6 = w2.heap.size := by rw [hw2]; simp
  have HI0 := Lib.hid hI0
  clear hw2 hI0 hf2
  have hIbk : ∀ s W W', RwI w ls most s W → Bk w2.heap.size W W' → RwI w ls most s W' := by
    rintro s W W' ⟨done, ao, ac, bo, bc, a1, a2, a3, a4, a5, a6, a7, a8, a9, a10, a11, a12⟩ hb
    exact ⟨done, ao, ac, bo, bc, a1, hb.heap a2 rfl, hb.heap a3 rfl, hb.heap a4 rfl, hb.heap a5 rfl, hb.heap a6 rfl, hb.heap a7 rfl, a8.bk hb, a9.bk hb, a10, a11, hb.fr a12 (by omega)⟩
  have hIfr : ∀ s W W', RwI w ls most s W → Fr no W W' → RwI w ls most s W' := by
    rintro s W W' ⟨done, ao, ac, bo, bc, a1, a2, a3, a4, a5, a6, a7, a8, a9, a10, a11, a12⟩ hb
    exact ⟨done, ao, ac, bo, bc, a1, hb.heap a2 (fun f => f), hb.heap a3 (fun f => f), hb.heap a4 (fun f => f), hb.heap a5 (fun f => f), hb.heap a6 (fun f => f), hb.heap a7 (fun f => f), a8.fr hb (fun _ _ f => f), a9.fr hb (fun _ _ f => f), a10, a11, a12.trans' hb⟩
  refine (wpIn_wide (n := 3)).1 ?_
  refine wpIn_eachF (ls := ls) rfl (by intro h; cases h) (gf := gf) (lb := lb) rfl trivial Heg.out
    Hiter.out (fun _ => rfl) (RwI w ls most) (fun _ _ => False)
    hIbk (fun _ _ _ f _ => f) hIfr ?hPre HI0.out ?round ?done (fun _ _ _ _ f => f.elim)
  case hPre =>
    rintro s W ⟨done, ao, ac, bo, bc, a1, a2, a3, a4, a5, a6, a7, a8, a9, a10, a11, a12⟩
    exact HPre.out W a12
  case round =>
    rintro l W x s h
    obtain ⟨xi, xr⟩ := x
    obtain ⟨done, ao, ac, bo, bc, a1, a2, a3, a4, a5, a6, a7, a8, a9, a10, a11, a12⟩ := h
    obtain ⟨dO, dn, dc, hxd⟩ := Hone.out (xi, xr) (by rw [a1]; simp)
    obtain ⟨xs, xq, xd, xdep, xk, xv⟩ := xr
    dsimp only at hxd
    subst hxd
    have fa : Fr no W (W.alloc (.cells #[.int .i64 xs, .int .i64 xq, .slice dO dn dc, .string xk, .string xv] 25)) := (Fr.refl no W).alloc _
    have hbx := World.alloc_heap_new W (.cells #[.int .i64 xs, .int .i64 xq, .slice dO dn dc, .string xk, .string xv] 25)
    have hla : ∀ g, Value.ownBlock (.slice ao done.length ac) = some g → g < W.heap.size := fun g hg => a8.lt g hg
    have hlb : ∀ g, Value.ownBlock (.slice bo done.length bc) = some g → g < W.heap.size := fun g hg => a9.lt g hg
    have hl6 := (Array.getElem?_eq_some_iff.1 a7).1
    unfold encQ Rc.v
    dsimp only
    gi_wp2
    refine ⟨Kb.alloc _ _, fun l W' hb hl => ?_⟩
    have g1 := a1
    have g2 := hb.heap (fa.heap a2 (fun f => f)) rfl
    have g3 := hb.heap (fa.heap a3 (fun f => f)) rfl
    have g4 := hb.heap (fa.heap a4 (fun f => f)) rfl
    have g5 := hb.heap (fa.heap a5 (fun f => f)) rfl
    have g6 := hb.heap (fa.heap a6 (fun f => f)) rfl
    have g7 := hb.heap (fa.heap a7 (fun f => f)) rfl
    have g8 := (a8.fr fa (fun _ _ f => f)).bk hb
    have g9 := (a9.fr fa (fun _ _ f => f)).bk hb
    have g10 := a10
    have g11 := a11
    have g12 := hb.fr (a12.trans' fa) (by omega)
    have hbx' := hb.heap hbx rfl
    obtain ⟨gx, hgx⟩ : ∃ gx, W.heap.size = gx := ⟨_, rfl⟩
    rw [hgx] at hbx' hla hlb hl6
    rw [hgx]
    have HBX := Lib.hid hbx'
    have HLA := Lib.hid hla
    have HLB := Lib.hid hlb
    clear hbx hgx hbx' hb hIbk hIfr a1 a2 a3 a4 a5 a6 a7 a8 a9 a10 a11 a12 fa hla hlb
    have e0 : W'.cell? ⟨gx, 0, none⟩ = some (.int .i64 xs) := cell_of_block HBX.out rfl
    have hkm : (done.length : Int) < most := by have := congrArg List.length g1; simp at this; omega
    have hk1 : done.length ≤ 1000 := by omega
    generalize hk : done.length = k at *
    have Hk := Lib.hid hk
    clear hk
    have c0 : W'.cell? ⟨w.heap.size, 0, none⟩ = some (.int .i64 most) := cell_of_block g2 rfl
    have c4 : W'.cell? ⟨w.heap.size + 1 + 1 + 1 + 1, 0, none⟩ = some (.slice ao k ac) := cell_of_block g6 rfl
    obtain ⟨i0, hi, hz0, hz1, hz2⟩ := info_parts (show (Tryz.prog.info? 3).map (fun i => (i.zero, i.size, i.bytes)) = some (some (.int .i64 0), 1, 8) by kernel_rfl)
    have G1 := Lib.hid g1
    have G2 := Lib.hid g2
    have G3 := Lib.hid g3
    have G4 := Lib.hid g4
    have G5 := Lib.hid g5
    have G6 := Lib.hid g6
    have G7 := Lib.hid g7
    have G8 := Lib.hid g8
    have G9 := Lib.hid g9
    have G10 := Lib.hid g10
    have G11 := Lib.hid g11
    have G12 := Lib.hid g12
    clear g1 g2 g3 g4 g5 g6 g7 g8 g9 g10 g11 g12
    gi_wp2_with (gi_at_builtin; refine wpListIn_append_one W' (.int .i64 xi) 3 rfl _ _ 22 rfl 3 i0 (.int .i64 0) 8 Tryz.underlying22 hi hz0 hz1 hz2 rfl _ k _ rfl G8.out rfl rfl (by unfold maxLen; omega) (by omega) ?_)
    intro ao' ac' w' hs' hfr hor hkb
    have hn' : ∀ j, j < w.heap.size + 6 → ¬ Value.ownBlock (.slice ao k ac) = some j := fun j hj e => by have := (G10.out j e).1; omega
    have b2 := hfr.heap G2.out (hn' _ (by omega))
    have b3 := hfr.heap G3.out (hn' _ (by omega))
    have b4 := hfr.heap G4.out (hn' _ (by omega))
    have b5 := hfr.heap G5.out (hn' _ (by omega))
    have b6 := hfr.heap G6.out (hn' _ (by omega))
    have b7 := hfr.heap G7.out (hn' _ (by omega))
    have b9 := G9.out.fr hfr (fun g hg e => (G10.out g e).2 hg)
    have hlt6 := (Array.getElem?_eq_some_iff.1 G7.out).1
    have hfresh : ∀ g, Value.ownBlock (.slice ao' (k + 1) ac') = some g → w.heap.size + 6 ≤ g ∧ Value.ownBlock (.slice bo k bc) ≠ some g := fun g hg => by
      rcases hor with e | e
      · exact G10.out g (by rw [← e]; exact hg)
      · have h1 := e g hg
        exact ⟨by omega, fun h2 => by have := G9.out.lt g h2; omega⟩
    have c4' : w'.cell? ⟨w.heap.size + 1 + 1 + 1 + 1, 0, none⟩ = some (.slice ao k ac) := cell_of_block b6 rfl
    have f4' : w'.frozen? ⟨w.heap.size + 1 + 1 + 1 + 1, 0, none⟩ = false := frozen_of_block b6
    have hf1 : Fr (fun i => i = w.heap.size + 4) w' (w'.setCell ⟨w.heap.size + 4, 0, none⟩ (.slice ao' (k + 1) ac')) := (Fr.refl (fun i => i = w.heap.size + 4) w').setCell (p := ⟨w.heap.size + 4, 0, none⟩) (fun _ => rfl) _
    have c5' : (w'.setCell ⟨w.heap.size + 1 + 1 + 1 + 1, 0, none⟩ (.slice ao' (k + 1) ac')).cell? ⟨w.heap.size + 1 + 1 + 1 + 1 + 1, 0, none⟩ = some (.slice bo k bc) := cell_of_block (hf1.heap b7 (by omega)) rfl
    have hbx4 := hf1.heap (hfr.heap HBX.out (fun e => by have := HLA.out gx e; omega)) (by omega)
    have QX := Lib.hid hbx4
    clear hbx4
    have Q2 := Lib.hid (hf1.heap b2 (by omega))
    have Q3 := Lib.hid (hf1.heap b3 (by omega))
    have Q4 := Lib.hid (hf1.heap b4 (by omega))
    have Q5 := Lib.hid (hf1.heap b5 (by omega))
    have Q6 := Lib.hid (heap_setC (j := 0) (.slice ao' (k + 1) ac') b6)
    have Q7 := Lib.hid (hf1.heap b7 (by omega))
    have Q8 := Lib.hid (hs'.fr hf1 (fun g hg e => by have := (hfresh g hg).1; omega))
    have Q9 := Lib.hid (b9.fr hf1 (fun g hg e => by have := G11.out g hg; omega))
    have Q12 := Lib.hid ((G12.out.trans hfr (fun i hi e => hn' i (by omega) e)).trans hf1 (fun i hi e => by omega))
    have QK := Lib.hid (hkb.trans (Kb.setCell w' ⟨w.heap.size + 4, 0, none⟩ (.slice ao' (k + 1) ac')))
    have Hfresh := Lib.hid hfresh
    clear hs' hfr hor hkb hn' b2 b3 b4 b5 b6 b7 b9 hlt6 hfresh hf1 c4 c0
    have x0 : (w'.setCell ⟨w.heap.size + 1 + 1 + 1 + 1, 0, none⟩ (.slice ao' (k + 1) ac')).cell? ⟨gx, 0, none⟩ = some (.int .i64 xs) := cell_of_block QX.out rfl
    have x1 : (w'.setCell ⟨w.heap.size + 1 + 1 + 1 + 1, 0, none⟩ (.slice ao' (k + 1) ac')).cell? ⟨gx, 1, none⟩ = some (.int .i64 xq) := cell_of_block QX.out rfl
    have x2 : (w'.setCell ⟨w.heap.size + 1 + 1 + 1 + 1, 0, none⟩ (.slice ao' (k + 1) ac')).cell? ⟨gx, 2, none⟩ = some (.slice dO dn dc) := cell_of_block QX.out rfl
    have x3 : (w'.setCell ⟨w.heap.size + 1 + 1 + 1 + 1, 0, none⟩ (.slice ao' (k + 1) ac')).cell? ⟨gx, 3, none⟩ = some (.string xk) := cell_of_block QX.out rfl
    have x4 : (w'.setCell ⟨w.heap.size + 1 + 1 + 1 + 1, 0, none⟩ (.slice ao' (k + 1) ac')).cell? ⟨gx, 4, none⟩ = some (.string xv) := cell_of_block QX.out rfl
    have hfa4 : Fr no (w'.setCell ⟨w.heap.size + 1 + 1 + 1 + 1, 0, none⟩ (.slice ao' (k + 1) ac')) ((w'.setCell ⟨w.heap.size + 1 + 1 + 1 + 1, 0, none⟩ (.slice ao' (k + 1) ac')).alloc (.cells #[.int .i64 xs, .int .i64 xq, .slice dO dn dc, .string xk, .string xv] 25)) := (Fr.refl no (w'.setCell ⟨w.heap.size + 1 + 1 + 1 + 1, 0, none⟩ (.slice ao' (k + 1) ac'))).alloc _
    have HO9 := Lib.hid (Q9.out.fr hfa4 (fun _ _ f => f))
    have Hlit := Lib.hid (rc_lit1 (w'.setCell ⟨w.heap.size + 1 + 1 + 1 + 1, 0, none⟩ (.slice ao' (k + 1) ac')) 25 xs xq (.slice dO dn dc) xk xv)
    have HFA4 := Lib.hid hfa4
    have Hone5 : Hid (∀ u ∈ [Value.int .i64 xs, .int .i64 xq, .slice dO dn dc, .string xk, .string xv], u.oneCell' = true) := Lib.hid (fun u hu => by
      simp at hu
      rcases hu with rfl | rfl | rfl | rfl | rfl
      · rfl
      · rfl
      · rfl
      · rfl
      · rfl)
    obtain ⟨j0, hj0, jz0, jz1, jz2⟩ := info_parts (show (Tryz.prog.info? 25).map (fun i => (i.zero, i.size, i.bytes)) = some (some (.agg #[.int .i64 0, .int .i64 0, .slice none 0 0, .string ⟨#[]⟩, .string ⟨#[]⟩]), 5, 72) by kernel_rfl)
    clear hfa4 e0 hi hz0 hz1 hz2
    gi_wp2_with (gi_at_builtin; refine wpListIn_append_all ((w'.setCell ⟨w.heap.size + 1 + 1 + 1 + 1, 0, none⟩ (.slice ao' (k + 1) ac')).alloc (.cells #[.int .i64 xs, .int .i64 xq, .slice dO dn dc, .string xk, .string xv] 25)) rfl _ _ 41 rfl 25 j0 _ 5 72 Tryz.underlying41 hj0 jz0 jz1 jz2 rfl (by decide) _ _ _ rfl HO9.out _ _ _ (show Value.slice (some ⟨w'.heap.size, 0, none⟩) 1 1 = _ from by simp [World.setCell]) Hlit.out Hone5.out (by unfold maxLen; omega) (by omega) ?_)
    intro bo' bc' w5 hs5 hfr5 hor5 hkb5
    have hsz4 : (w'.setCell ⟨w.heap.size + 1 + 1 + 1 + 1, 0, none⟩ (.slice ao' (k + 1) ac')).heap.size = w'.heap.size := by simp [World.setCell]
    replace hfr5 : Fr (fun i => Value.ownBlock (.slice bo k bc) = some i) (w'.setCell ⟨w.heap.size + 1 + 1 + 1 + 1, 0, none⟩ (.slice ao' (k + 1) ac')) w5 := (HFA4.out.mono (fun _ _ f => f.elim)).trans hfr5 (fun _ _ g => g)
    replace hor5 : Value.ownBlock (.slice bo' (k + 1) bc') = Value.ownBlock (.slice bo k bc) ∨ ∀ g, Value.ownBlock (.slice bo' (k + 1) bc') = some g → (w'.setCell ⟨w.heap.size + 1 + 1 + 1 + 1, 0, none⟩ (.slice ao' (k + 1) ac')).heap.size ≤ g := hor5.imp (fun h => h) (fun h g hg => by have h2 := h g hg; rw [hsz4]; first | omega | (rw [World.size_alloc, hsz4] at h2; omega))
    replace hkb5 : Kb (w'.setCell ⟨w.heap.size + 1 + 1 + 1 + 1, 0, none⟩ (.slice ao' (k + 1) ac')) w5 := (Kb.alloc _ _).trans hkb5
    clear HO9 Hlit HFA4 Hone5 x0 x1 x2 x3 x4 hj0 jz0 jz1 jz2
    generalize (w'.setCell ⟨w.heap.size + 1 + 1 + 1 + 1, 0, none⟩ (.slice ao' (k + 1) ac')) = w4 at *
    have hn5 : ∀ j, j < w.heap.size + 6 → ¬ Value.ownBlock (.slice bo k bc) = some j := fun j hj e => by have := G11.out j e; omega
    have b2 := hfr5.heap Q2.out (hn5 _ (by omega))
    have b3 := hfr5.heap Q3.out (hn5 _ (by omega))
    have b4 := hfr5.heap Q4.out (hn5 _ (by omega))
    have b5 := hfr5.heap Q5.out (hn5 _ (by omega))
    have b6 := hfr5.heap Q6.out (hn5 _ (by omega))
    have b7 := hfr5.heap Q7.out (hn5 _ (by omega))
    have b8 := Q8.out.fr hfr5 (fun g hg e => (Hfresh.out g hg).2 e)
    have hlt7 := (Array.getElem?_eq_some_iff.1 Q7.out).1
    have hfresh5 : ∀ g, Value.ownBlock (.slice bo' (k + 1) bc') = some g → w.heap.size + 6 ≤ g := fun g hg => by
      rcases hor5 with e | e
      · exact G11.out g (by rw [← e]; exact hg)
      · have h1 := e g hg; omega
    have hap : ∀ g, Value.ownBlock (.slice ao' (k + 1) ac') = some g → Value.ownBlock (.slice bo' (k + 1) bc') ≠ some g := fun g hg e2 => by
      rcases hor5 with e | e
      · exact (Hfresh.out g hg).2 (by rw [← e]; exact e2)
      · have h1 := e g e2; have := Q8.out.lt g hg; omega
    have c5 : w5.cell? ⟨w.heap.size + 1 + 1 + 1 + 1 + 1, 0, none⟩ = some (.slice bo k bc) := cell_of_block b7 rfl
    have f5 : w5.frozen? ⟨w.heap.size + 1 + 1 + 1 + 1 + 1, 0, none⟩ = false := frozen_of_block b7
    have hf2 : Fr (fun i => i = w.heap.size + 5) w5 (w5.setCell ⟨w.heap.size + 5, 0, none⟩ (.slice bo' (k + 1) bc')) := (Fr.refl (fun i => i = w.heap.size + 5) w5).setCell (p := ⟨w.heap.size + 5, 0, none⟩) (fun _ => rfl) _
    have hfin : Hid (Kb W' (w5.setCell ⟨w.heap.size + 5, 0, none⟩ (.slice bo' (k + 1) bc')) ∧ RwI w ls most s (w5.setCell ⟨w.heap.size + 5, 0, none⟩ (.slice bo' (k + 1) bc'))) := by
      have hl : (done ++ [(xi, (⟨xs, xq, .slice dO dn dc, xdep, xk, xv⟩ : Rc))]).length = k + 1 := by simp [Hk.out]
      refine Lib.hid ⟨(QK.out.trans hkb5).trans (Kb.setCell _ _ _), done ++ [(xi, ⟨xs, xq, .slice dO dn dc, xdep, xk, xv⟩)], ao', ac', bo', bc', by rw [G1.out]; simp, ?_⟩
      rw [hl]
      refine ⟨hf2.heap b2 (by omega), hf2.heap b3 (by omega), hf2.heap b4 (by omega), hf2.heap b5 (by omega), hf2.heap b6 (by omega), heap_setC (j := 0) _ b7, ?_, ?_, fun g hg => ⟨(Hfresh.out g hg).1, hap g hg⟩, hfresh5, (Q12.out.trans hfr5 (fun i hi e => hn5 i (by omega) e)).trans hf2 (fun i hi e => by omega)⟩
      · have := b8.fr hf2 (fun g hg e => by have := (Hfresh.out g hg).1; omega)
        simpa using this
      · have := hs5.fr hf2 (fun g hg e => by have := hfresh5 g hg; omega)
        rw [List.map_append, show rcCells (done.map (·.2) ++ [(xi, (⟨xs, xq, .slice dO dn dc, xdep, xk, xv⟩ : Rc))].map (·.2)) = rcCells (done.map (·.2)) ++ [.int .i64 xs, .int .i64 xq, .slice dO dn dc, .string xk, .string xv] by simp [rcCells, Rc.cs]]
        exact this
    clear hsz4 hs5 hfr5 hor5 hkb5 hn5 b2 b3 b4 b5 b6 b7 b8 hlt7 hfresh5 hap c5' hf2
    gi_wp2
    exact hfin.out
  case done =>
    rintro D W hD ⟨done, ao, ac, bo, bc, g1, g2, g3, g4, g5, g6, g7, g8, g9, g10, g11, g12⟩ hd hkb
    rw [List.append_nil] at g1
    subst g1
    have c4 : W.cell? ⟨w.heap.size + 1 + 1 + 1 + 1, 0, none⟩ = some (.slice ao ls.length ac) := cell_of_block g6 rfl
    have c5 : W.cell? ⟨w.heap.size + 1 + 1 + 1 + 1 + 1, 0, none⟩ = some (.slice bo ls.length bc) := cell_of_block g7 rfl
    have f1 : ∀ W' : World, W'.heap[w.heap.size + 1]? = some (.cells #[.slice none 0 0] 22 (0, 0)) → W'.cell? ⟨w.heap.size + 1, 0, none⟩ = some (.slice none 0 0) ∧ W'.frozen? ⟨w.heap.size + 1, 0, none⟩ = false := fun W' h => ⟨cell_of_block h rfl, frozen_of_block h⟩
    have f2 : ∀ W' : World, W'.heap[w.heap.size + 1 + 1]? = some (.cells #[.slice none 0 0] 41 (0, 0)) → W'.cell? ⟨w.heap.size + 1 + 1, 0, none⟩ = some (.slice none 0 0) ∧ W'.frozen? ⟨w.heap.size + 1 + 1, 0, none⟩ = false := fun W' h => ⟨cell_of_block h rfl, frozen_of_block h⟩
    have f3 : ∀ W' : World, W'.heap[w.heap.size + 1 + 1 + 1]? = some (.cells #[.bool false] 4 (0, 0)) → W'.cell? ⟨w.heap.size + 1 + 1 + 1, 0, none⟩ = some (.bool false) ∧ W'.frozen? ⟨w.heap.size + 1 + 1 + 1, 0, none⟩ = false := fun W' h => ⟨cell_of_block h rfl, frozen_of_block h⟩
    have G3 := Lib.hid g3
    have G4 := Lib.hid g4
    have G5 := Lib.hid g5
    have G8 := Lib.hid g8
    have G9 := Lib.hid g9
    have G10 := Lib.hid g10
    have G11 := Lib.hid g11
    have G12 := Lib.hid g12
    have Hd := Lib.hid hd
    have d3 := f1 W g3
    obtain ⟨d3, e3⟩ := d3
    obtain ⟨d4, e4⟩ := f2 W g4
    obtain ⟨d5, e5⟩ := f3 W g5
    clear g2 g3 g4 g5 g6 g7 g8 g9 g10 g11 g12 hd hIbk hkb HI0 f1 f2 f3
    go_wp2_with fail
    refine wp_held (fun w' => w'.cell? ⟨w.heap.size + 1 + 1 + 1 + 1, 0, none⟩ = some (.slice ao ls.length ac) ∧ w'.cell? ⟨w.heap.size + 1 + 1 + 1 + 1 + 1, 0, none⟩ = some (.slice bo ls.length bc)) (by kernel_rfl) ?_ (fun hHeld => ?_)
    · exact ⟨c4, c5⟩
    refine held_take (v := ?_) 0 rfl (by kernel_rfl) (.inl ⟨by rfl, ?_⟩) hHeld ?_
    rotate_left
    · intro w hSw; (try dsimp only at hSw); first | (go_simp; done) | (go_simp; with_reducible rfl)
    try simp only [Act.put, List.setIfInBounds_toArray, List.set_cons_zero, List.set_cons_succ]
    refine held_take (v := ?_) 1 rfl (by kernel_rfl) (.inl ⟨by rfl, ?_⟩) hHeld ?_
    rotate_left
    · intro w hSw; (try dsimp only at hSw); first | (go_simp; done) | (go_simp; with_reducible rfl)
    try simp only [Act.put, List.setIfInBounds_toArray, List.set_cons_zero, List.set_cons_succ]
    refine held_call 2 rfl (by kernel_rfl) (fun K hK => ?_)
    go_simp
    skip
    refine hK.out _ _ ?_ (fun hHeld' => ?_)
    · go_keep
    clear hK K hHeld
    have hHeld := hHeld'
    clear hHeld'
    try simp only [Act.put, List.setIfInBounds_toArray, List.set_cons_zero, List.set_cons_succ]
    refine held_call 3 rfl (by kernel_rfl) (fun K hK => ?_)
    go_simp
    skip
    refine hK.out _ _ ?_ (fun hHeld' => ?_)
    · go_keep
    clear hK K hHeld
    have hHeld := hHeld'
    clear hHeld'
    try simp only [Act.put, List.setIfInBounds_toArray, List.set_cons_zero, List.set_cons_succ]
    refine held_last 4 rfl (by kernel_rfl) (by kernel_rfl) (fun K hK => ?_)
    go_simp
    skip
    refine hK.out _ _ ?_
    clear hK K
    try simp only [Act.put, List.setIfInBounds_toArray, List.set_cons_zero, List.set_cons_succ]
    refine held_done (by kernel_rfl) ?_
    try clear hHeld
    clear d3 e3 d4 e4 d5 e5 c4 c5
    have k1 : Fr (fun i => i = w.heap.size + 1) W (W.setCell ⟨w.heap.size + 1, 0, none⟩ (.slice ao ls.length ac)) := (Fr.refl (fun i => i = w.heap.size + 1) W).setCell (p := ⟨w.heap.size + 1, 0, none⟩) (fun _ => rfl) _
    have s1 := heap_setC (j := 0) (.slice ao ls.length ac) G3.out
    have s2 := k1.heap G4.out (by omega)
    have s3 := k1.heap G5.out (by omega)
    have hd1 := k1.heap Hd.out (by omega)
    have m8 := G8.out.fr k1 (fun g hg e => by have := (G10.out g hg).1; omega)
    have m9 := G9.out.fr k1 (fun g hg e => by have := G11.out g hg; omega)
    have m12 := G12.out.trans k1 (fun i hi e => by omega)
    clear k1
    generalize W.setCell ⟨w.heap.size + 1, 0, none⟩ (.slice ao ls.length ac) = W2 at *
    have k1 : Fr (fun i => i = w.heap.size + 1 + 1) W2 (W2.setCell ⟨w.heap.size + 1 + 1, 0, none⟩ (.slice bo ls.length bc)) := (Fr.refl (fun i => i = w.heap.size + 1 + 1) _).setCell (p := ⟨w.heap.size + 1 + 1, 0, none⟩) (fun _ => rfl) _
    have s1 := k1.heap s1 (by omega)
    have s2 := heap_setC (j := 0) (.slice bo ls.length bc) s2
    have s3 := k1.heap s3 (by omega)
    have hd1 := k1.heap hd1 (by omega)
    have m8 := m8.fr k1 (fun g hg e => by have := (G10.out g hg).1; omega)
    have m9 := m9.fr k1 (fun g hg e => by have := G11.out g hg; omega)
    have m12 := m12.trans k1 (fun i hi e => by omega)
    clear k1
    generalize W2.setCell ⟨w.heap.size + 1 + 1, 0, none⟩ (.slice bo ls.length bc) = W3 at *
    have k1 : Fr (fun i => i = w.heap.size + 1 + 1 + 1) W3 (W3.setCell ⟨w.heap.size + 1 + 1 + 1, 0, none⟩ (.bool true)) := (Fr.refl (fun i => i = w.heap.size + 1 + 1 + 1) _).setCell (p := ⟨w.heap.size + 1 + 1 + 1, 0, none⟩) (fun _ => rfl) _
    have s1 := k1.heap s1 (by omega)
    have s2 := k1.heap s2 (by omega)
    have s3 := heap_setC (j := 0) (.bool true) s3
    have hd1 := k1.heap hd1 (by omega)
    have m8 := m8.fr k1 (fun g hg e => by have := (G10.out g hg).1; omega)
    have m9 := m9.fr k1 (fun g hg e => by have := G11.out g hg; omega)
    have m12 := m12.trans k1 (fun i hi e => by omega)
    clear k1
    generalize W3.setCell ⟨w.heap.size + 1 + 1 + 1, 0, none⟩ (.bool true) = W4 at *
    have S1 := Lib.hid s1
    have S2 := Lib.hid s2
    have S3 := Lib.hid s3
    have HD1 := Lib.hid hd1
    have M8 := Lib.hid m8
    have M9 := Lib.hid m9
    have M12 := Lib.hid m12
    clear s1 s2 s3 hd1 m8 m9 m12
    go_wp2
    refine leaveOne D rfl HD1.out (fun Wf hbf => ?_)
    have hbf2 : Bk D W4 Wf := bk_trans (Bk.drewN _ _ 1) hbf
    exact ⟨_, rows_res _ (w.heap.size + 1) (w.heap.size + 1 + 1) (w.heap.size + 1 + 1 + 1) _ _ _ _ rfl rfl rfl (cell_of_block (hbf2.heap S1.out rfl) rfl) (cell_of_block (hbf2.heap S2.out rfl) rfl) (cell_of_block (hbf2.heap S3.out rfl) rfl), ao, ac, bo, bc, rfl, (M8.out.bk hbf2).rd, (M9.out.bk hbf2).rd, hbf2.fr M12.out (by omega), fun g hg => hg.elim (fun h => by have := (G10.out g h).1; omega) (fun h => by have := G11.out g h; omega)⟩

end Go.Proofs.YtgcjnhocoklfbaaGreatDoor
