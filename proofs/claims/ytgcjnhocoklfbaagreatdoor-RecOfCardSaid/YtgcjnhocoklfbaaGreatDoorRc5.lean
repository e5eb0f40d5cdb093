/- Package rec: Parse. -/
import Derived.Test.YtgcjnhocoklfbaaGreatDoorRc1
import Derived.Test.YtgcjnhocoklfbaaGreatDoorVecP
namespace Go.XL
open Go.RowKit Go.Shelf
set_option linter.unusedVariables false
set_option linter.unusedSimpArgs false
/-- a record as numbers and bytes -/
structure Rp where
  s : Int
  q : Int
  dep : List Int
  key : List UInt8
  val : List UInt8
def Rp.zero : Rp := ⟨0, 0, [], [], []⟩
def rwords (l : List UInt8) : Option (Rp × List UInt8) :=
  let c1 := Lib.cut l [58]
  let c2 := Lib.cut c1.2.1 [32]
  let c3 := Lib.cut c2.2.1 [93, 32]
  let c4 := Lib.cut c3.2.1 [61]
  if c1.2.2 = true ∧ c2.2.2 = true ∧ c3.2.2 = true ∧ c4.2.2 = true ∧ (vnum c1.1 2147483647).2 = 0 ∧ (vnum c2.1 2147483647).2 = 0 then
    some (⟨(vnum c1.1 2147483647).1, (vnum c2.1 2147483647).1, [], c4.1, c4.2.1⟩, c3.1 ++ [93]) else none
theorem rwords_of {l a1 b1 a2 b2 a3 b3 a4 b4 : List UInt8} {f1 f2 f3 f4 : Bool} {x e y f : Int} (h1 : Lib.cut l [58] = (a1, b1, f1)) (h2 : Lib.cut b1 [32] = (a2, b2, f2)) (h3 : Lib.cut b2 [93, 32] = (a3, b3, f3)) (h4 : Lib.cut b3 [61] = (a4, b4, f4))
    (n1 : vnum a1 2147483647 = (x, e)) (n2 : vnum a2 2147483647 = (y, f)) :
    rwords l = if f1 = true ∧ f2 = true ∧ f3 = true ∧ f4 = true ∧ e = 0 ∧ f = 0 then some (⟨x, y, [], a4, b4⟩, a3 ++ [93]) else none := by
  unfold rwords
  simp only [h1, h2, h3, h4, n1, n2]
def rparse (l : List UInt8) : Rp × Int :=
  match rwords l with
  | none => (Rp.zero, 2)
  | some (r, d) =>
    if (vparse d).2 ≠ 0 then (Rp.zero, (vparse d).2)
    else if rcheck r.s r.q (vparse d).1 r.key r.val 8 ≠ 0 then (Rp.zero, rcheck r.s r.q (vparse d).1 r.key r.val 8)
    else (⟨r.s, r.q, (vparse d).1, r.key, r.val⟩, 0)
/-- a record in memory reads as it -/
structure RcIs (w : World) (r : Rc) (p : Rp) : Prop where
  ok : RcOk w r
  s : r.s = p.s
  q : r.q = p.q
  dep : r.dep = p.dep
  key : r.key.data.toList = p.key
  val : r.val.data.toList = p.val
theorem rc_zero (w : World) : RcIs w ⟨0, 0, .slice none 0 0, [], ⟨#[]⟩, ⟨#[]⟩⟩ Rp.zero := ⟨(Sl.nil w 0 1).rd, rfl, rfl, rfl, rfl, rfl⟩
theorem cut_lenR (s p : List UInt8) : (Lib.cut s p).1.length ≤ s.length ∧ (Lib.cut s p).2.1.length ≤ s.length := by
  unfold Lib.cut
  split
  · simp; omega
  · simp
end Go.XL
namespace Go.Proofs.YtgcjnhocoklfbaaGreatDoor
open Go.RowKit Go.Shelf Go.XL
set_option linter.unusedVariables false
set_option linter.unusedSimpArgs false
attribute [local go_sem] Oper.semAt_some
theorem s_cut (s : ByteArray) (l : List UInt8) (p : List UInt8) (w : World) (hl : s.data.toList = l) (hs : l.length ≤ 1000000) (hG : Gl w) :
    Calls Tryz.prog 36 #[.string s, .string ⟨p.toArray⟩] w fun e w' => ∃ A B : ByteArray, (e = .returned (.tuple #[.string A, .string B, .bool (Lib.cut l p).2.2]) ∧ A.data.toList = (Lib.cut l p).1 ∧ B.data.toList = (Lib.cut l p).2.1) ∧ Fr no w w' := by
  obtain ⟨m, hm⟩ := hG.m
  refine (Tryz.strings_Cut s ⟨p.toArray⟩ m w (by rw [← data_len, hl]; omega) hm).mono ?_
  rintro e w' ⟨rfl, n, rfl⟩
  rw [hl]
  exact ⟨_, _, ⟨rfl, rfl, rfl⟩, (Fr.refl no w).drewN n⟩
/-- five cells written one behind the other -/
theorem store5 {w : World} {gb : Nat} {T : TypeId} {a0 a1 a2 a3 a4 : Value} (hb : w.heap[gb]? = some (.cells #[a0, a1, a2, a3, a4] T (0, 0))) (u0 u1 u2 u3 u4 : Value) :
    w.frozen? ⟨gb, 0, none⟩ = false ∧ (w.setCell ⟨gb, 0, none⟩ u0).frozen? ⟨gb, 1, none⟩ = false ∧ ((w.setCell ⟨gb, 0, none⟩ u0).setCell ⟨gb, 1, none⟩ u1).frozen? ⟨gb, 2, none⟩ = false ∧
    (((w.setCell ⟨gb, 0, none⟩ u0).setCell ⟨gb, 1, none⟩ u1).setCell ⟨gb, 2, none⟩ u2).frozen? ⟨gb, 3, none⟩ = false ∧ ((((w.setCell ⟨gb, 0, none⟩ u0).setCell ⟨gb, 1, none⟩ u1).setCell ⟨gb, 2, none⟩ u2).setCell ⟨gb, 3, none⟩ u3).frozen? ⟨gb, 4, none⟩ = false ∧
    (((((w.setCell ⟨gb, 0, none⟩ u0).setCell ⟨gb, 1, none⟩ u1).setCell ⟨gb, 2, none⟩ u2).setCell ⟨gb, 3, none⟩ u3).setCell ⟨gb, 4, none⟩ u4).heap[gb]? = some (.cells #[u0, u1, u2, u3, u4] T (0, 0)) ∧
    Fr (fun k => k = gb) w (((((w.setCell ⟨gb, 0, none⟩ u0).setCell ⟨gb, 1, none⟩ u1).setCell ⟨gb, 2, none⟩ u2).setCell ⟨gb, 3, none⟩ u3).setCell ⟨gb, 4, none⟩ u4) := by
  have h1 := heap_setC (j := 0) u0 hb
  have h2 := heap_setC (j := 1) u1 h1
  have h3 := heap_setC (j := 2) u2 h2
  have h4 := heap_setC (j := 3) u3 h3
  have h5 := heap_setC (j := 4) u4 h4
  refine ⟨frozen_of_block hb, frozen_of_block h1, frozen_of_block h2, frozen_of_block h3, frozen_of_block h4, ?_, ?_⟩
  · rw [h5]; rfl
  · exact (((((Fr.refl (fun k => k = gb) w).setCell (p := ⟨gb, 0, none⟩) (fun _ => rfl) _).setCell (p := ⟨gb, 1, none⟩) (fun _ => rfl) _).setCell (p := ⟨gb, 2, none⟩) (fun _ => rfl) _).setCell (p := ⟨gb, 3, none⟩) (fun _ => rfl) _).setCell (p := ⟨gb, 4, none⟩) (fun _ => rfl) _
theorem rparse_res (tmps : Array Value) (gb : Nat) (w : World) (u0 u1 u2 u3 u4 e : Value) (h2 : tmps[2]? = some (.pointer (some ⟨gb, 0, none⟩))) (h3 : tmps[3]? = some e)
    (hb : w.heap[gb]? = some (.cells #[u0, u1, u2, u3, u4] 25 (0, 0))) : (results Tryz.f17 tmps).run Tryz.prog w = .ok (.tuple #[.agg #[u0, u1, u2, u3, u4], e]) w := by
  have y0 : w.cell? ⟨gb, 0, none⟩ = some u0 := cell_of_block hb rfl
  have y1 : w.cell? ⟨gb, 1, none⟩ = some u1 := cell_of_block hb rfl
  have y2 : w.cell? ⟨gb, 2, none⟩ = some u2 := cell_of_block hb rfl
  have y3 : w.cell? ⟨gb, 3, none⟩ = some u3 := cell_of_block hb rfl
  have y4 : w.cell? ⟨gb, 4, none⟩ = some u4 := cell_of_block hb rfl
  simp [results, Tryz.results17, go_sem, h2, h3, y0, y1, y2, y3, y4]
set_option maxRecDepth 10000 in
set_option maxHeartbeats 8000000 in
theorem r_parse (s : ByteArray) (w : World) (hs : s.size ≤ 100000) (hG : GlU w) :
    Calls Tryz.prog 17 #[.string s] w fun e w' => ∃ r : Rc, e = .returned (.tuple #[r.v, .int .i64 (rparse s.data.toList).2]) ∧ RcIs w' r (rparse s.data.toList).1 ∧ Fr no w w' := by
  obtain ⟨w1, hw1⟩ : ∃ w1, w.alloc (.cells #[.int .i64 0, .int .i64 0, .slice none 0 0, .string ⟨#[]⟩, .string ⟨#[]⟩] 25) = w1 := ⟨_, rfl⟩
  have hf1 : Fr no w w1 := by rw [← hw1]; exact (Fr.refl no w).alloc _
  have hb1 : w1.heap[w.heap.size]? = some (.cells #[.int .i64 0, .int .i64 0, .slice none 0 0, .string ⟨#[]⟩, .string ⟨#[]⟩] 25 (0, 0)) := by rw [← hw1]; exact World.alloc_heap_new _ _
  obtain ⟨l, hl⟩ : ∃ l, s.data.toList = l := ⟨_, rfl⟩
  have hll : l.length ≤ 100000 := by rw [← hl, data_len]; exact hs
  obtain ⟨PR, hPR⟩ : ∃ PR, rparse s.data.toList = PR := ⟨_, rfl⟩
  rw [hPR]
  rw [hl] at hPR
  have k1 := cut_lenR l [58]
  obtain ⟨a1, b1, f1, hc1⟩ : ∃ a b f, Lib.cut l [58] = (a, b, f) := ⟨_, _, _, rfl⟩
  rw [hc1] at k1
  dsimp only at k1
  have k2 := cut_lenR b1 [32]
  obtain ⟨a2, b2, f2, hc2⟩ : ∃ a b f, Lib.cut b1 [32] = (a, b, f) := ⟨_, _, _, rfl⟩
  rw [hc2] at k2
  dsimp only at k2
  have k3 := cut_lenR b2 [93, 32]
  obtain ⟨a3, b3, f3, hc3⟩ : ∃ a b f, Lib.cut b2 [93, 32] = (a, b, f) := ⟨_, _, _, rfl⟩
  rw [hc3] at k3
  dsimp only at k3
  have k4 := cut_lenR b3 [61]
  obtain ⟨a4, b4, f4, hc4⟩ : ∃ a b f, Lib.cut b3 [61] = (a, b, f) := ⟨_, _, _, rfl⟩
  rw [hc4] at k4
  dsimp only at k4
  obtain ⟨x, e, hn1⟩ : ∃ x e, vnum a1 2147483647 = (x, e) := ⟨_, _, rfl⟩
  obtain ⟨y, f, hn2⟩ : ∃ x e, vnum a2 2147483647 = (x, e) := ⟨_, _, rfl⟩
  have hrw := rwords_of hc1 hc2 hc3 hc4 hn1 hn2
  have F := Lib.hid hf1
  have BX := Lib.hid hb1
  have HW1 := Lib.hid hw1
  have HG := Lib.hid hG
  have HPR := Lib.hid hPR
  have HRW := Lib.hid hrw
  have HL := Lib.hid hl
  have HC1 := Lib.hid hc1
  have HC2 := Lib.hid hc2
  have HC3 := Lib.hid hc3
  have HC4 := Lib.hid hc4
  have HN1 := Lib.hid hn1
  have HN2 := Lib.hid hn2
  clear hf1 hb1 hw1 hG hPR hrw hl hc1 hc2 hc3 hc4 hn1 hn2
  go_enter Tryz.func17, Tryz.ntmps17
  go_upto_region 1 with (fail)
  rw [HW1.out]
  clear HW1
  generalize hgb : w.heap.size = gb at *
  have HGB := Lib.hid hgb
  clear hgb
  go_wp2_with fail
  refine (s_cut s l [58] _ HL.out (by omega) (HG.out.g.fr F.out)).mono ?_
  rintro e' w2 ⟨A1, B1, ⟨rfl, hA, hB⟩, hfd⟩
  rw [HC1.out] at hA hB
  have HA1 : Hid (A1.data.toList = a1) := Lib.hid hA
  have HB1 : Hid (B1.data.toList = b1) := Lib.hid hB
  replace F := Lib.hid (F.out.trans' hfd)
  replace BX := Lib.hid (hfd.heap BX.out (fun f => f))
  rw [HC1.out]
  dsimp only
  clear hfd hA hB
  go_wp2_with fail
  refine (s_cut B1 b1 [32] _ HB1.out (by omega) (HG.out.g.fr F.out)).mono ?_
  rintro e' w3 ⟨A2, B2, ⟨rfl, hA, hB⟩, hfd⟩
  rw [HC2.out] at hA hB
  have HA2 : Hid (A2.data.toList = a2) := Lib.hid hA
  have HB2 : Hid (B2.data.toList = b2) := Lib.hid hB
  replace F := Lib.hid (F.out.trans' hfd)
  replace BX := Lib.hid (hfd.heap BX.out (fun f => f))
  rw [HC2.out]
  dsimp only
  clear hfd hA hB
  go_wp2_with fail
  refine (s_cut B2 b2 [93, 32] _ HB2.out (by omega) (HG.out.g.fr F.out)).mono ?_
  rintro e' w4 ⟨A3, B3, ⟨rfl, hA, hB⟩, hfd⟩
  rw [HC3.out] at hA hB
  have HA3 : Hid (A3.data.toList = a3) := Lib.hid hA
  have HB3 : Hid (B3.data.toList = b3) := Lib.hid hB
  replace F := Lib.hid (F.out.trans' hfd)
  replace BX := Lib.hid (hfd.heap BX.out (fun f => f))
  rw [HC3.out]
  dsimp only
  clear hfd hA hB
  go_wp2_with fail
  refine (s_cut B3 b3 [61] _ HB3.out (by omega) (HG.out.g.fr F.out)).mono ?_
  rintro e' w5 ⟨A4, B4, ⟨rfl, hA, hB⟩, hfd⟩
  rw [HC4.out] at hA hB
  have HA4 : Hid (A4.data.toList = a4) := Lib.hid hA
  have HB4 : Hid (B4.data.toList = b4) := Lib.hid hB
  replace F := Lib.hid (F.out.trans' hfd)
  replace BX := Lib.hid (hfd.heap BX.out (fun f => f))
  rw [HC4.out]
  dsimp only
  clear hfd hA hB
  have hsz : ∀ (A : ByteArray) (a : List UInt8), A.data.toList = a → a.length ≤ 100000 → A.size ≤ 100000 := fun A a h1 h2 => by rw [← data_len, h1]; exact h2
  have z1 := hsz A1 a1 HA1.out (by omega)
  have z2 := hsz A2 a2 HA2.out (by omega)
  have z3 := hsz A3 a3 HA3.out (by omega)
  have z4 := hsz A4 a4 HA4.out (by omega)
  have z5 := hsz B4 b4 HB4.out (by omega)
  clear hsz
  go_wp2_with fail
  have hc := vec_number A1 2147483647 w5 (by omega) (by decide) (by decide) (HG.out.g.fr F.out)
  rw [HA1.out, HN1.out] at hc
  dsimp only at hc
  refine hc.mono ?_
  clear hc
  rintro e' w6 ⟨rfl, hfd⟩
  replace F := Lib.hid (F.out.trans' hfd)
  replace BX := Lib.hid (hfd.heap BX.out (fun f => f))
  clear hfd
  go_wp2_with fail
  have hc := vec_number A2 2147483647 w6 (by omega) (by decide) (by decide) (HG.out.g.fr F.out)
  rw [HA2.out, HN2.out] at hc
  dsimp only at hc
  refine hc.mono ?_
  clear hc
  rintro e' w7 ⟨rfl, hfd⟩
  replace F := Lib.hid (F.out.trans' hfd)
  replace BX := Lib.hid (hfd.heap BX.out (fun f => f))
  clear hfd
  by_cases hok : f1 = true ∧ f2 = true ∧ f3 = true ∧ f4 = true ∧ e = 0 ∧ f = 0
  · have hR1 : PR = (if (vparse (a3 ++ [93])).2 ≠ 0 then (Rp.zero, (vparse (a3 ++ [93])).2)
        else if rcheck x y (vparse (a3 ++ [93])).1 a4 b4 8 ≠ 0 then (Rp.zero, rcheck x y (vparse (a3 ++ [93])).1 a4 b4 8)
        else (⟨x, y, (vparse (a3 ++ [93])).1, a4, b4⟩, 0)) := by
      rw [← HPR.out]; unfold rparse; rw [HRW.out, if_pos hok]
    obtain ⟨rfl, rfl, rfl, rfl, rfl, rfl⟩ := hok
    obtain ⟨vd, ve, hvp⟩ : ∃ a b, vparse (a3 ++ [93]) = (a, b) := ⟨_, _, rfl⟩
    rw [hvp] at hR1
    dsimp only at hR1
    have hD : (A3 ++ ⟨#[93]⟩ : ByteArray).data.toList = a3 ++ [93] := by rw [ByteArray.data_append, Array.toList_append, HA3.out]
    have hDs : (A3 ++ ⟨#[93]⟩ : ByteArray).size ≤ 1048576 := by rw [← data_len, hD]; simp; omega
    have zz : ¬ 9223372036854775807 < A3.size + 1 := by omega
    have hc := vec_parse (A3 ++ ⟨#[93]⟩) w7 hDs (HG.out.g.fr F.out)
    rw [hD, hvp] at hc
    dsimp only at hc
    have Hc := Lib.hid hc
    have HR1 := Lib.hid hR1
    clear hc hR1 hD hDs hvp HRW HPR
    have hltb : gb < w7.heap.size := (Array.getElem?_eq_some_iff.1 BX.out).1
    go_wp2_with fail
    refine Hc.out.mono ?_
    clear Hc
    rintro e' w8 ⟨v', rfl, hm⟩
    obtain ⟨Vo, Vc, rfl, _, _⟩ := hm.cap
    have hv8 := hm.rd
    have hfd := hm.fr
    replace F := Lib.hid (F.out.trans' hfd)
    replace BX := Lib.hid (hfd.heap BX.out (fun f => f))
    have V8 : Hid (IntsAt w8 (.slice Vo vd.length Vc) vd) := Lib.hid hv8
    have HSAFE : Hid (∀ g, Value.ownBlock (.slice Vo vd.length Vc) = some g → g ≠ gb) := Lib.hid (fun g hg e => by have h1 := hm.fresh g hg; omega)
    clear hm hv8 hfd hltb
    by_cases hve : ve = 0
    · subst hve
      have hR2 : PR = (if rcheck x y vd a4 b4 8 ≠ 0 then (Rp.zero, rcheck x y vd a4 b4 8) else (⟨x, y, vd, a4, b4⟩, 0)) := by rw [HR1.out, if_neg (by decide)]
      have HR2 := Lib.hid hR2
      clear hR2 HR1
      obtain ⟨w9, hw9⟩ : ∃ w9, w8.alloc (.cells #[.int .i64 x, .int .i64 y, .slice Vo vd.length Vc, .string A4, .string B4] 25) = w9 := ⟨_, rfl⟩
      have hf9 : Fr no w8 w9 := by rw [← hw9]; exact (Fr.refl no w8).alloc _
      have hb9 : w9.heap[w8.heap.size]? = some (.cells #[.int .i64 x, .int .i64 y, .slice Vo vd.length Vc, .string A4, .string B4] 25 (0, 0)) := by rw [← hw9]; exact World.alloc_heap_new _ _
      have F9 := Lib.hid (F.out.trans' hf9)
      have V9 := Lib.hid (V8.out.fr hf9 (fun _ _ _ f => f))
      have hc := r_check ⟨x, y, .slice Vo vd.length Vc, vd, A4, B4⟩ 8 w9 V9.out (by dsimp only; omega) (by dsimp only; omega) (HG.out.fr F9.out)
      unfold Rc.v Rc.check at hc
      dsimp only at hc
      rw [HA4.out, HB4.out] at hc
      obtain ⟨ec, hec⟩ : ∃ ec, rcheck x y vd a4 b4 8 = ec := ⟨_, rfl⟩
      rw [hec] at hc HR2
      have Hc := Lib.hid hc
      have HB9 := Lib.hid hb9
      have BX9 := Lib.hid (hf9.heap BX.out (fun f => f))
      have HW9 := Lib.hid hw9
      have hlt : gb < w8.heap.size := (Array.getElem?_eq_some_iff.1 BX.out).1
      clear hc hf9 hb9 hw9 hec F V8 BX
      go_upto_region 13 with (fail)
      rw [HW9.out]
      clear HW9
      generalize w8.heap.size = gc at *
      have t0 : w9.cell? ⟨gc, 0, none⟩ = some (.int .i64 x) := cell_of_block HB9.out rfl
      have t1 : w9.cell? ⟨gc, 1, none⟩ = some (.int .i64 y) := cell_of_block HB9.out rfl
      have t2 : w9.cell? ⟨gc, 2, none⟩ = some (.slice Vo vd.length Vc) := cell_of_block HB9.out rfl
      have t3 : w9.cell? ⟨gc, 3, none⟩ = some (.string A4) := cell_of_block HB9.out rfl
      have t4 : w9.cell? ⟨gc, 4, none⟩ = some (.string B4) := cell_of_block HB9.out rfl
      go_wp2_with fail
      refine Hc.out.mono ?_
      clear Hc
      rintro e' w10 ⟨rfl, hfd⟩
      have F := Lib.hid (F9.out.trans' hfd)
      have BX := Lib.hid (hfd.heap BX9.out (fun f => f))
      have HB10 := Lib.hid (hfd.heap HB9.out (fun f => f))
      have V10 := Lib.hid (V9.out.fr hfd (fun _ _ _ f => f))
      clear hfd F9 BX9 V9 HB9 t0 t1 t2 t3 t4
      by_cases hec : ec = 0
      · subst hec
        have hE : PR = (⟨x, y, vd, a4, b4⟩, 0) := by rw [HR2.out, if_neg (by decide)]
        have HE := Lib.hid hE
        clear hE HR2
        have t0 : w10.cell? ⟨gc, 0, none⟩ = some (.int .i64 x) := cell_of_block HB10.out rfl
        have t1 : w10.cell? ⟨gc, 1, none⟩ = some (.int .i64 y) := cell_of_block HB10.out rfl
        have t2 : w10.cell? ⟨gc, 2, none⟩ = some (.slice Vo vd.length Vc) := cell_of_block HB10.out rfl
        have t3 : w10.cell? ⟨gc, 3, none⟩ = some (.string A4) := cell_of_block HB10.out rfl
        have t4 : w10.cell? ⟨gc, 4, none⟩ = some (.string B4) := cell_of_block HB10.out rfl
        obtain ⟨q0, q1, q2, q3, q4, hbF, hfF⟩ := store5 BX.out (.int .i64 x) (.int .i64 y) (.slice Vo vd.length Vc) (.string A4) (.string B4)
        have HBF := Lib.hid hbF
        have HFF := Lib.hid hfF
        have r0 : w10.cell? ⟨gb, 0, none⟩ = some (.int .i64 0) := cell_of_block BX.out rfl
        have r1 : w10.cell? ⟨gb, 1, none⟩ = some (.int .i64 0) := cell_of_block BX.out rfl
        have r2 : w10.cell? ⟨gb, 2, none⟩ = some (.slice none 0 0) := cell_of_block BX.out rfl
        have r3 : w10.cell? ⟨gb, 3, none⟩ = some (.string ⟨#[]⟩) := cell_of_block BX.out rfl
        have r4 : w10.cell? ⟨gb, 4, none⟩ = some (.string ⟨#[]⟩) := cell_of_block BX.out rfl
        have hfw := F.out.trans HFF.out (fun i hi e => by have := HGB.out; omega)
        have HFW := Lib.hid hfw
        clear hbF hfF hfw
        go_wp2
        refine bodyPost_ret (rparse_res _ gb _ _ _ _ _ _ _ rfl rfl HBF.out) rfl ?_
        refine ⟨⟨x, y, .slice Vo vd.length Vc, vd, A4, B4⟩, by rw [HE.out]; rfl, ?_, HFW.out⟩
        rw [HE.out]
        refine ⟨?_, rfl, rfl, rfl, HA4.out, HB4.out⟩
        exact Rd.fr V10.out HFF.out (fun g hg hlt2 e => HSAFE.out g hg e)
      · have hne : (ec != 0) = true := by simpa using hec
        have hE : PR = (Rp.zero, ec) := by rw [HR2.out, if_pos hec]
        have HE := Lib.hid hE
        clear hE hec HR2
        obtain ⟨q0, q1, q2, q3, q4, hbF, hfF⟩ := store5 BX.out (.int .i64 0) (.int .i64 0) (.slice none 0 0) (.string ⟨#[]⟩) (.string ⟨#[]⟩)
        have HBF := Lib.hid hbF
        have HFF := Lib.hid hfF
        have r0 : w10.cell? ⟨gb, 0, none⟩ = some (.int .i64 0) := cell_of_block BX.out rfl
        have r1 : w10.cell? ⟨gb, 1, none⟩ = some (.int .i64 0) := cell_of_block BX.out rfl
        have r2 : w10.cell? ⟨gb, 2, none⟩ = some (.slice none 0 0) := cell_of_block BX.out rfl
        have r3 : w10.cell? ⟨gb, 3, none⟩ = some (.string ⟨#[]⟩) := cell_of_block BX.out rfl
        have r4 : w10.cell? ⟨gb, 4, none⟩ = some (.string ⟨#[]⟩) := cell_of_block BX.out rfl
        clear hbF hfF
        go_wp2
        refine bodyPost_ret (rparse_res _ gb _ _ _ _ _ _ _ rfl rfl HBF.out) rfl ?_
        exact ⟨⟨0, 0, .slice none 0 0, [], ⟨#[]⟩, ⟨#[]⟩⟩, by rw [HE.out]; rfl, by rw [HE.out]; exact rc_zero _, F.out.trans HFF.out (fun i hi e => by have := HGB.out; omega)⟩
    · have hne : (ve != 0) = true := by simpa using hve
      have hE : PR = (Rp.zero, ve) := by rw [HR1.out, if_pos hve]
      have HE := Lib.hid hE
      clear hE hve HR1
      obtain ⟨q0, q1, q2, q3, q4, hbF, hfF⟩ := store5 BX.out (.int .i64 0) (.int .i64 0) (.slice none 0 0) (.string ⟨#[]⟩) (.string ⟨#[]⟩)
      have HBF := Lib.hid hbF
      have HFF := Lib.hid hfF
      have r0 : w8.cell? ⟨gb, 0, none⟩ = some (.int .i64 0) := cell_of_block BX.out rfl
      have r1 : w8.cell? ⟨gb, 1, none⟩ = some (.int .i64 0) := cell_of_block BX.out rfl
      have r2 : w8.cell? ⟨gb, 2, none⟩ = some (.slice none 0 0) := cell_of_block BX.out rfl
      have r3 : w8.cell? ⟨gb, 3, none⟩ = some (.string ⟨#[]⟩) := cell_of_block BX.out rfl
      have r4 : w8.cell? ⟨gb, 4, none⟩ = some (.string ⟨#[]⟩) := cell_of_block BX.out rfl
      clear hbF hfF
      go_wp2
      refine bodyPost_ret (rparse_res _ gb _ _ _ _ _ _ _ rfl rfl HBF.out) rfl ?_
      exact ⟨⟨0, 0, .slice none 0 0, [], ⟨#[]⟩, ⟨#[]⟩⟩, by rw [HE.out]; rfl, by rw [HE.out]; exact rc_zero _, F.out.trans HFF.out (fun i hi e => by have := HGB.out; omega)⟩
  · have hE : PR = (Rp.zero, 2) := by
      rw [← HPR.out]; unfold rparse; rw [HRW.out, if_neg hok]
    have HE := Lib.hid hE
    have hd : (!f1) = true ∨ ((!f1) = false ∧ (!f2) = true) ∨ ((!f1) = false ∧ (!f2) = false ∧ (!f3) = true) ∨ ((!f1) = false ∧ (!f2) = false ∧ (!f3) = false ∧ (!f4) = true) ∨ ((!f1) = false ∧ (!f2) = false ∧ (!f3) = false ∧ (!f4) = false ∧ (e != 0) = true) ∨ ((!f1) = false ∧ (!f2) = false ∧ (!f3) = false ∧ (!f4) = false ∧ (e != 0) = false ∧ (f != 0) = true) := by
      by_cases g1 : f1 = true
      · by_cases g2 : f2 = true
        · by_cases g3 : f3 = true
          · by_cases g4 : f4 = true
            · by_cases g5 : e = 0
              · have g6 : f ≠ 0 := fun h => hok ⟨g1, g2, g3, g4, g5, h⟩
                simp [g1, g2, g3, g4, g5, g6]
              · simp [g1, g2, g3, g4, g5]
            · simp [g1, g2, g3, g4]
          · simp [g1, g2, g3]
        · simp [g1, g2]
      · simp [g1]
    clear hok hE HPR HRW
    rcases hd with h | ⟨h1, h⟩ | ⟨h1, h2, h⟩ | ⟨h1, h2, h3, h⟩ | ⟨h1, h2, h3, h4, h⟩ | ⟨h1, h2, h3, h4, h5, h⟩
    · skip
      obtain ⟨q0, q1, q2, q3, q4, hbF, hfF⟩ := store5 BX.out (.int .i64 0) (.int .i64 0) (.slice none 0 0) (.string ⟨#[]⟩) (.string ⟨#[]⟩)
      have HBF := Lib.hid hbF
      have HFF := Lib.hid hfF
      have r0 : w7.cell? ⟨gb, 0, none⟩ = some (.int .i64 0) := cell_of_block BX.out rfl
      have r1 : w7.cell? ⟨gb, 1, none⟩ = some (.int .i64 0) := cell_of_block BX.out rfl
      have r2 : w7.cell? ⟨gb, 2, none⟩ = some (.slice none 0 0) := cell_of_block BX.out rfl
      have r3 : w7.cell? ⟨gb, 3, none⟩ = some (.string ⟨#[]⟩) := cell_of_block BX.out rfl
      have r4 : w7.cell? ⟨gb, 4, none⟩ = some (.string ⟨#[]⟩) := cell_of_block BX.out rfl
      clear hbF hfF
      go_wp2
      refine bodyPost_ret (rparse_res _ gb _ _ _ _ _ _ _ rfl rfl HBF.out) rfl ?_
      exact ⟨⟨0, 0, .slice none 0 0, [], ⟨#[]⟩, ⟨#[]⟩⟩, by rw [HE.out]; rfl, by rw [HE.out]; exact rc_zero _, F.out.trans HFF.out (fun i hi e => by have := HGB.out; omega)⟩
    · skip
      obtain ⟨q0, q1, q2, q3, q4, hbF, hfF⟩ := store5 BX.out (.int .i64 0) (.int .i64 0) (.slice none 0 0) (.string ⟨#[]⟩) (.string ⟨#[]⟩)
      have HBF := Lib.hid hbF
      have HFF := Lib.hid hfF
      have r0 : w7.cell? ⟨gb, 0, none⟩ = some (.int .i64 0) := cell_of_block BX.out rfl
      have r1 : w7.cell? ⟨gb, 1, none⟩ = some (.int .i64 0) := cell_of_block BX.out rfl
      have r2 : w7.cell? ⟨gb, 2, none⟩ = some (.slice none 0 0) := cell_of_block BX.out rfl
      have r3 : w7.cell? ⟨gb, 3, none⟩ = some (.string ⟨#[]⟩) := cell_of_block BX.out rfl
      have r4 : w7.cell? ⟨gb, 4, none⟩ = some (.string ⟨#[]⟩) := cell_of_block BX.out rfl
      clear hbF hfF
      go_wp2
      refine bodyPost_ret (rparse_res _ gb _ _ _ _ _ _ _ rfl rfl HBF.out) rfl ?_
      exact ⟨⟨0, 0, .slice none 0 0, [], ⟨#[]⟩, ⟨#[]⟩⟩, by rw [HE.out]; rfl, by rw [HE.out]; exact rc_zero _, F.out.trans HFF.out (fun i hi e => by have := HGB.out; omega)⟩
    · skip
      obtain ⟨q0, q1, q2, q3, q4, hbF, hfF⟩ := store5 BX.out (.int .i64 0) (.int .i64 0) (.slice none 0 0) (.string ⟨#[]⟩) (.string ⟨#[]⟩)
      have HBF := Lib.hid hbF
      have HFF := Lib.hid hfF
      have r0 : w7.cell? ⟨gb, 0, none⟩ = some (.int .i64 0) := cell_of_block BX.out rfl
      have r1 : w7.cell? ⟨gb, 1, none⟩ = some (.int .i64 0) := cell_of_block BX.out rfl
      have r2 : w7.cell? ⟨gb, 2, none⟩ = some (.slice none 0 0) := cell_of_block BX.out rfl
      have r3 : w7.cell? ⟨gb, 3, none⟩ = some (.string ⟨#[]⟩) := cell_of_block BX.out rfl
      have r4 : w7.cell? ⟨gb, 4, none⟩ = some (.string ⟨#[]⟩) := cell_of_block BX.out rfl
      clear hbF hfF
      go_wp2
      refine bodyPost_ret (rparse_res _ gb _ _ _ _ _ _ _ rfl rfl HBF.out) rfl ?_
      exact ⟨⟨0, 0, .slice none 0 0, [], ⟨#[]⟩, ⟨#[]⟩⟩, by rw [HE.out]; rfl, by rw [HE.out]; exact rc_zero _, F.out.trans HFF.out (fun i hi e => by have := HGB.out; omega)⟩
    · skip
      obtain ⟨q0, q1, q2, q3, q4, hbF, hfF⟩ := store5 BX.out (.int .i64 0) (.int .i64 0) (.slice none 0 0) (.string ⟨#[]⟩) (.string ⟨#[]⟩)
      have HBF := Lib.hid hbF
      have HFF := Lib.hid hfF
      have r0 : w7.cell? ⟨gb, 0, none⟩ = some (.int .i64 0) := cell_of_block BX.out rfl
      have r1 : w7.cell? ⟨gb, 1, none⟩ = some (.int .i64 0) := cell_of_block BX.out rfl
      have r2 : w7.cell? ⟨gb, 2, none⟩ = some (.slice none 0 0) := cell_of_block BX.out rfl
      have r3 : w7.cell? ⟨gb, 3, none⟩ = some (.string ⟨#[]⟩) := cell_of_block BX.out rfl
      have r4 : w7.cell? ⟨gb, 4, none⟩ = some (.string ⟨#[]⟩) := cell_of_block BX.out rfl
      clear hbF hfF
      go_wp2
      refine bodyPost_ret (rparse_res _ gb _ _ _ _ _ _ _ rfl rfl HBF.out) rfl ?_
      exact ⟨⟨0, 0, .slice none 0 0, [], ⟨#[]⟩, ⟨#[]⟩⟩, by rw [HE.out]; rfl, by rw [HE.out]; exact rc_zero _, F.out.trans HFF.out (fun i hi e => by have := HGB.out; omega)⟩
    · skip
      obtain ⟨q0, q1, q2, q3, q4, hbF, hfF⟩ := store5 BX.out (.int .i64 0) (.int .i64 0) (.slice none 0 0) (.string ⟨#[]⟩) (.string ⟨#[]⟩)
      have HBF := Lib.hid hbF
      have HFF := Lib.hid hfF
      have r0 : w7.cell? ⟨gb, 0, none⟩ = some (.int .i64 0) := cell_of_block BX.out rfl
      have r1 : w7.cell? ⟨gb, 1, none⟩ = some (.int .i64 0) := cell_of_block BX.out rfl
      have r2 : w7.cell? ⟨gb, 2, none⟩ = some (.slice none 0 0) := cell_of_block BX.out rfl
      have r3 : w7.cell? ⟨gb, 3, none⟩ = some (.string ⟨#[]⟩) := cell_of_block BX.out rfl
      have r4 : w7.cell? ⟨gb, 4, none⟩ = some (.string ⟨#[]⟩) := cell_of_block BX.out rfl
      clear hbF hfF
      go_wp2
      refine bodyPost_ret (rparse_res _ gb _ _ _ _ _ _ _ rfl rfl HBF.out) rfl ?_
      exact ⟨⟨0, 0, .slice none 0 0, [], ⟨#[]⟩, ⟨#[]⟩⟩, by rw [HE.out]; rfl, by rw [HE.out]; exact rc_zero _, F.out.trans HFF.out (fun i hi e => by have := HGB.out; omega)⟩
    · skip
      obtain ⟨q0, q1, q2, q3, q4, hbF, hfF⟩ := store5 BX.out (.int .i64 0) (.int .i64 0) (.slice none 0 0) (.string ⟨#[]⟩) (.string ⟨#[]⟩)
      have HBF := Lib.hid hbF
      have HFF := Lib.hid hfF
      have r0 : w7.cell? ⟨gb, 0, none⟩ = some (.int .i64 0) := cell_of_block BX.out rfl
      have r1 : w7.cell? ⟨gb, 1, none⟩ = some (.int .i64 0) := cell_of_block BX.out rfl
      have r2 : w7.cell? ⟨gb, 2, none⟩ = some (.slice none 0 0) := cell_of_block BX.out rfl
      have r3 : w7.cell? ⟨gb, 3, none⟩ = some (.string ⟨#[]⟩) := cell_of_block BX.out rfl
      have r4 : w7.cell? ⟨gb, 4, none⟩ = some (.string ⟨#[]⟩) := cell_of_block BX.out rfl
      clear hbF hfF
      go_wp2
      refine bodyPost_ret (rparse_res _ gb _ _ _ _ _ _ _ rfl rfl HBF.out) rfl ?_
      exact ⟨⟨0, 0, .slice none 0 0, [], ⟨#[]⟩, ⟨#[]⟩⟩, by rw [HE.out]; rfl, by rw [HE.out]; exact rc_zero _, F.out.trans HFF.out (fun i hi e => by have := HGB.out; omega)⟩
end Go.Proofs.YtgcjnhocoklfbaaGreatDoor
