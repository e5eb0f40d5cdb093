/- strings.SplitSeq at a blank: what its iterator yields. -/
import Derived.Test.YtkdcldnbdhfobaaDoorVecN
import Derived.Test.YtkdcldnbdhfobaaDoorSplit
import Derived.RangeFuncCalls
namespace Go.XL
open Go.RowKit Go.Shelf
set_option linter.unusedVariables false
set_option linter.unusedSimpArgs false
/-- what the iterator's box holds, and what is still to come -/
abbrev SsSt := List UInt8 × Option (List UInt8)
def wrem (s : SsSt) : List (List UInt8) := match s.2 with | none => [] | some r => wsplit r
structure SsPre (S I : TypeId) (G : World → Prop) (gp gs gz : Nat) (s : SsSt) (W : World) : Prop where
  sp : W.heap[gp]? = some (.cells #[.string ⟨#[32]⟩] S (0, 0))
  bx : W.heap[gs]? = some (.cells #[.string ⟨s.1.toArray⟩] S (0, 0))
  z : W.heap[gz]? = some (.cells #[.int .i64 0] I (0, 0))
  gl : G W
  b1 : s.1.length ≤ 100000
  b2 : ∀ r, s.2 = some r → r.length ≤ 100000
def SsStep (S : TypeId) (gs : Nat) (s : SsSt) (W : World) (x : List UInt8) (s' : SsSt) (W1 : World) : Prop :=
  ∃ r, s.2 = some r ∧ Fr (fun k => k = gs) W W1 ∧ W1.heap[gs]? = some (.cells #[.string ⟨r.toArray⟩] S (0, 0)) ∧
    ((∃ w r', r = w ++ 32 :: r' ∧ (∀ c ∈ w, c ≠ 32) ∧ x = w ∧ s' = (r, some r')) ∨ ((∀ c ∈ r, c ≠ 32) ∧ x = r ∧ s' = (r, none)))
theorem SsStep.rem {S : TypeId} {gs : Nat} {s s' : SsSt} {W W1 : World} {x : List UInt8} (h : SsStep S gs s W x s' W1) : wrem s = x :: wrem s' := by
  obtain ⟨r, h1, _, _, h⟩ := h
  unfold wrem
  rw [h1]
  rcases h with ⟨w, r', hr, hw, hx, hs⟩ | ⟨hw, hx, hs⟩
  · rw [hr, hx, hs]
    exact wsplit_cons _ hw _
  · rw [hx, hs]
    exact wsplit_word _ hw
/-- how long the text in a box is -/
def boxLen (w : World) (g : Nat) : Nat := match w.cell? ⟨g, 0, none⟩ with | some (.string s) => s.data.toList.length | _ => 0
theorem boxLen_of {w : World} {g : Nat} {l : List UInt8} {E : TypeId} (h : w.heap[g]? = some (.cells #[.string ⟨l.toArray⟩] E (0, 0))) : boxLen w g = l.length := by
  unfold boxLen
  have e : w.cell? ⟨g, 0, none⟩ = some (.string ⟨l.toArray⟩) := cell_of_block (j := 0) h rfl
  rw [e]
end Go.XL
namespace Go.Proofs.YtkdcldnbdhfobaaDoor
open Go.RowKit Go.Shelf Go.XL
set_option linter.unusedVariables false
set_option linter.unusedSimpArgs false
attribute [local go_sem] Oper.semAt_some
theorem s_splitSeq (s p : ByteArray) (w : World) : Calls Tryd.prog 28 #[.string s, .string p] w fun e w' => e = .returned (.func (.func 46) #[] #[.pointer (some ⟨w.heap.size + 1, 0, none⟩), .pointer (some ⟨w.heap.size, 0, none⟩), .pointer (some ⟨w.heap.size + 2, 0, none⟩)]) ∧
    ((w.alloc (.cells #[.string s] 9)).alloc (.cells #[.string p] 9)).alloc (.cells #[.int .i64 0] 3) = w' := by
  go_enter Tryd.func28, Tryd.ntmps28
  go_wp2
  go_ret
  exact ⟨rfl, rfl⟩
set_option maxRecDepth 100000 in
set_option maxHeartbeats 4000000 in
theorem splitSeq_iter (gp gs gz : Nat) (l : List UInt8) (hps : gp ≠ gs) (hzs : gz ≠ gs) (hgl : ∀ W W' : World, Gl W → Fr (fun k => k = gs) W W' → Gl W') :
    IterC Fence.wide 2 Tryd.prog 46 #[.pointer (some ⟨gp, 0, none⟩), .pointer (some ⟨gs, 0, none⟩), .pointer (some ⟨gz, 0, none⟩)] (fun x : List UInt8 => #[.string ⟨x.toArray⟩])
      (SsPre 9 3 Gl gp gs gz) (SsStep 9 gs) (fun s W W' => s.2 = none ∧ W = W') (l, some l) := by
  intro lp J Jx W hJ hPre hY
  have hp := hPre _ W hJ
  have c1 : W.cell? ⟨gp, 0, none⟩ = some (.string ⟨#[32]⟩) := cell_of_block (j := 0) hp.sp rfl
  have c2 : W.cell? ⟨gs, 0, none⟩ = some (.string ⟨l.toArray⟩) := cell_of_block (j := 0) hp.bx rfl
  have c3 : W.cell? ⟨gz, 0, none⟩ = some (.int .i64 0) := cell_of_block (j := 0) hp.z rfl
  have HP := Lib.hid hp
  have HPre := Lib.hid hPre
  have HY := Lib.hid hY
  have HJ := Lib.hid hJ
  have Hgl := Lib.hid hgl
  clear hgl hp hPre hY hJ
  refine callsIn_of_wp Tryd.func46 rfl trivial ?_ rfl
  simp only [Tryd.ntmps46, List.size_toArray, List.length_cons, List.length_nil, Nat.reduceAdd, Nat.reduceSub, Array.replicate_succ, Array.replicate_zero, List.push_toArray, List.append_toArray, List.nil_append, List.cons_append]
  gi_wp2
  clear c1 c2 c3
  gi_loopw [] (fun wr => ∃ (b r : List UInt8) (W0 : World), Hid (J (b, some r) W0) ∧ Hid (Fr (fun k => k = gs) W0 wr) ∧ Hid (SsPre 9 3 Gl gp gs gz (r, some r) wr)) (fun wr => boxLen wr gs)
  case atStart => exact ⟨l, l, W, HJ, Lib.hid (Fr.refl _ _), HP⟩
  case round =>
    obtain ⟨b, r, W0, HJ0, HF0, HP0⟩ := hrel
    generalize wr = V at *
    have d1 : V.cell? ⟨gp, 0, none⟩ = some (.string ⟨#[32]⟩) := cell_of_block (j := 0) HP0.out.sp rfl
    have d2 : V.cell? ⟨gs, 0, none⟩ = some (.string ⟨r.toArray⟩) := cell_of_block (j := 0) HP0.out.bx rfl
    have d3 : V.cell? ⟨gz, 0, none⟩ = some (.int .i64 0) := cell_of_block (j := 0) HP0.out.z rfl
    obtain ⟨t, ht⟩ : ∃ t : ByteArray, ⟨r.toArray⟩ = t := ⟨_, rfl⟩
    have htl : t.data.toList = r := by rw [← ht]
    have hts : t.size ≤ 100000 := by rw [← str_len, htl]; exact HP0.out.b1
    rw [ht] at d2
    obtain ⟨mx, hmx⟩ := HP0.out.gl.m
    have hix := Tryd.strings_Index t ⟨#[32]⟩ mx V (by omega) hmx
    rw [htl, show (⟨#[32]⟩ : ByteArray).data.toList = [32] from rfl, Lib.index_one] at hix
    have Hix := Lib.hid hix
    clear hix hmx
    by_cases h : Lib.indexByte r 32 = -1
    · rw [h] at Hix
      have hstep : SsStep 9 gs (b, some r) W0 r (r, none) V := ⟨r, rfl, HF0.out, HP0.out.bx, .inr ⟨indexByte_miss 32 r h, rfl, rfl⟩⟩
      obtain ⟨fn, tmps, assign, body, hy, hR⟩ := HY.out _ _ _ _ _ HJ0.out hstep
      rw [ht] at hy
      have HR := Lib.hid hR
      clear hR hstep
      gi_wp2
      refine ⟨trivial, callsIn_wide.2 (Hix.out.mono ?_)⟩
      rintro e w' ⟨rfl, hw⟩
      replace hw := hw.symm
      subst hw
      gi_wp2
      refine HR.out.mono ?_
      rintro e W3 (⟨rfl, hJ3⟩ | ⟨rfl, hJx3⟩)
      · gi_wp2
        go_end0
        exact ⟨⟨_, rfl⟩, .inl ⟨_, _, hJ3, rfl, rfl⟩⟩
      · gi_wp2
        go_end0
        exact ⟨⟨_, rfl⟩, .inr hJx3⟩
    · obtain ⟨i, hi⟩ : ∃ i : Nat, Lib.indexByte r 32 = i := ⟨(Lib.indexByte r 32).toNat, by have := Lib.indexByte_ge r 32; omega⟩
      rw [hi] at Hix
      obtain ⟨wd, r', hr, hwl, hw⟩ := indexByte_hit 32 r i hi
      have hstep : SsStep 9 gs (b, some r) W0 wd (r, some r') V := ⟨r, rfl, HF0.out, HP0.out.bx, .inl ⟨wd, r', hr, hw, rfl, rfl⟩⟩
      obtain ⟨fn, tmps, assign, body, hy, hR⟩ := HY.out _ _ _ _ _ HJ0.out hstep
      have hsz : t.size = wd.length + 1 + r'.length := by rw [← str_len, htl, hr]; simp; omega
      have hex : t.extract 0 i = ⟨wd.toArray⟩ := by
        apply ByteArray.ext
        rw [ByteArray.data_extract]
        apply Array.ext'
        rw [Array.toList_extract, List.extract_eq_take_drop, htl, hr, ← hwl]
        simp
      have hex2 : t.extract (i + 1) t.size = ⟨r'.toArray⟩ := by
        apply ByteArray.ext
        rw [ByteArray.data_extract]
        apply Array.ext'
        rw [Array.toList_extract, List.extract_eq_take_drop, htl, hr, ← hwl, hsz]
        rw [show wd.length + 1 + r'.length - (wd.length + 1) = r'.length by omega]
        rw [List.drop_append, List.drop_eq_nil_of_le (by omega)]
        simp
      rw [hsz] at hex2
      obtain ⟨u, hu⟩ : ∃ u : ByteArray, ⟨wd.toArray⟩ = u := ⟨_, rfl⟩
      rw [hu] at hy hex
      have HR := Lib.hid hR
      have hit : (i : Int) ≤ t.size := by omega
      have hit2 : (i : Int) + 1 ≤ t.size := by omega
      clear hR hstep
      gi_wp2
      refine ⟨trivial, callsIn_wide.2 (Hix.out.mono ?_)⟩
      rintro e w' ⟨rfl, hw'⟩
      replace hw' := hw'.symm
      subst hw'
      gi_wp2
      refine HR.out.mono ?_
      rintro e W3 (⟨rfl, hJ3⟩ | ⟨rfl, hJx3⟩)
      · have hp3 := HPre.out _ W3 hJ3
        have e1 : W3.cell? ⟨gp, 0, none⟩ = some (.string ⟨#[32]⟩) := cell_of_block (j := 0) hp3.sp rfl
        have e2 : W3.cell? ⟨gs, 0, none⟩ = some (.string t) := by rw [← ht]; exact cell_of_block (j := 0) hp3.bx rfl
        have e3 : W3.frozen? ⟨gs, 0, none⟩ = false := frozen_of_block hp3.bx
        have hfs : Fr (fun k => k = gs) W3 (W3.setCell ⟨gs, 0, none⟩ (.string ⟨r'.toArray⟩)) := (Fr.refl (fun k => k = gs) W3).setCell (p := ⟨gs, 0, none⟩) (fun _ => rfl) _
        have hbx := heap_setC (j := 0) (.string ⟨r'.toArray⟩) hp3.bx
        have hrl : r.length = wd.length + 1 + r'.length := by rw [hr]; simp; omega
        have hP4 : SsPre 9 3 Gl gp gs gz (r', some r') (W3.setCell ⟨gs, 0, none⟩ (.string ⟨r'.toArray⟩)) := by
          exact ⟨hfs.heap hp3.sp hps, hbx, hfs.heap hp3.z hzs, Hgl.out _ _ hp3.gl hfs, by have := hp3.b1; dsimp only at this; dsimp only; omega, fun r2 h2 => by injection h2 with h2; subst h2; have := hp3.b1; dsimp only at this; omega⟩
        have HM : Hid (boxLen V gs = r.length) := Lib.hid (boxLen_of HP0.out.bx)
        have HM2 : Hid (boxLen (W3.setCell ⟨gs, 0, none⟩ (.string ⟨r'.toArray⟩)) gs = r'.length) := Lib.hid (boxLen_of hP4.bx)
        have HJ3 := Lib.hid hJ3
        have HF4 := Lib.hid hfs
        have HP4 := Lib.hid hP4
        clear hp3 hfs hbx hP4 hJ3 HR hy hwl hw hr
        gi_wp2
        go_roundw
        case rel => exact ⟨r, r', W3, HJ3, HF4, HP4⟩
        case measure => rw [HM.out, HM2.out]; omega
      · gi_wp2
        refine bodyPost_ret (results_none rfl _ _ _) rfl ?_
        exact ⟨⟨_, rfl⟩, .inr hJx3⟩
end Go.Proofs.YtkdcldnbdhfobaaDoor
