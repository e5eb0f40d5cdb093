/- The walk of the law MapWhole. -/
import Derived.Test.YtkdcldnbdhfobaaDoorMpB
import Derived.Test.YtkdcldnbdhfobaaDoorOpen2
namespace Go.XL
open Go.RowKit Go.Shelf
set_option linter.unusedVariables false
set_option linter.unusedSimpArgs false
/-- ones where P -/
def ind (P : Nat → Bool) (k : Nat) : List Int := (List.range k).map fun p => if P p then 1 else 0
theorem ind_len (P : Nat → Bool) (k : Nat) : (ind P k).length = k := by unfold ind; simp
theorem ind_get (P : Nat → Bool) {k p : Nat} (h : p < k) : (ind P k)[p]? = some (if P p then 1 else 0) := by
  unfold ind; rw [List.getElem?_map, List.getElem?_range h]; rfl
theorem ind_set (P : Nat → Bool) {k p : Nat} (h : p < k) : (ind P k).set p 1 = ind (fun q => P q || q == p) k := by
  apply List.ext_getElem?
  intro j
  rw [List.getElem?_set, ind_len]
  by_cases hj : j < k
  · rw [ind_get _ hj, ind_get _ hj]
    by_cases e : p = j
    · subst e; simp [h]
    · rw [if_neg e]
      have : (j == p) = false := by simpa using fun h2 => e h2.symm
      simp [this]
  · have h1 : (ind P k)[j]? = none := by rw [List.getElem?_eq_none_iff, ind_len]; omega
    have h2 : (ind (fun q => P q || q == p) k)[j]? = none := by rw [List.getElem?_eq_none_iff, ind_len]; omega
    rw [h1, h2, if_neg (by omega)]
theorem ind_congr {P Q : Nat → Bool} {k : Nat} (h : ∀ p, p < k → P p = Q p) : ind P k = ind Q k := by
  unfold ind
  exact List.map_congr_left fun p hp => by rw [h p (List.mem_range.1 hp)]
theorem ind_zero (k : Nat) : ind (fun _ => false) k = List.replicate k 0 := by
  unfold ind
  apply List.ext_getElem?
  intro j
  rw [List.getElem?_map, List.getElem?_replicate]
  by_cases h : j < k
  · rw [List.getElem?_range h, if_pos h]; rfl
  · rw [if_neg h]
    have : (List.range k)[j]? = none := by simp; omega
    rw [this]; rfl
theorem irange_asc : ∀ (n : Nat) (a b : Int), (b - a).toNat = n → (irange a b).Pairwise (fun x y => x < y)
  | 0, a, b, h => by rw [irange_nil (by omega)]; exact .nil
  | n + 1, a, b, h => by
    rw [irange_cons (show a < b by omega)]
    exact List.pairwise_cons.2 ⟨fun y hy => by have := (irange_mem.1 hy).1; omega, irange_asc n (a + 1) b (by omega)⟩
end Go.XL
namespace Go.Proofs.YtkdcldnbdhfobaaDoor
open Go.RowKit Go.Shelf Go.XL Go.ChangeShapes Go.WideShapes Go.ChangeAt
set_option linter.unusedVariables false
set_option linter.unusedSimpArgs false
attribute [local go_sem] Oper.semAt_some
set_option maxRecDepth 100000 in
set_option maxHeartbeats 4000000 in
theorem mapWhole_any (v1 : Value) (zs : List Int) (b : Int) (w : World) (hG : Gl w) (h1 : Rd w 1 v1 zs.length (zs.map (Value.int .u8))) (hz : ∀ x ∈ zs, 0 ≤ x ∧ x ≤ 255) (hb0 : 0 ≤ b) (hb1 : b ≤ 255) :
    Calls Tryd.prog 7 #[v1, .int .u8 b] w fun e w' => e = .returned (.bool true) ∧ Fr no w w' := by
  have hk := mknown w hG
  obtain ⟨o1, c1, rfl, k1, m1⟩ := h1.cap
  have H : Hid (Rd w 1 (.slice o1 zs.length c1) zs.length (zs.map (Value.int .u8))) := Lib.hid h1
  have Hz := Lib.hid hz
  have HG := Lib.hid hG
  obtain ⟨i0, hi, hz0, hz1, hz2⟩ := info_parts Tryd.info3
  obtain ⟨j0, hj0, jz0, jz1, jz2⟩ := info_parts (show (Tryd.prog.info? 48).map (fun i => (i.zero, i.size, i.bytes)) = some (some (.agg #[.int .i64 0, .int .i64 0]), 2, 16) by kernel_rfl)
  clear h1 hz hG
  generalize hn : zs.length = n at *
  have Hn := Lib.hid hn
  clear hn
  by_cases hs : n < 1 ∨ 8 < n
  · rcases hs with hs | hs
    · have hs' : (n : Int) < 1 := by omega
      go_enter Tryd.func7, Tryd.ntmps7
      go_wp2_with fail
      refine hk.mono ?_
      rintro e w1 ⟨rfl, hf1⟩
      go_wp2
      go_ret
      exact ⟨rfl, hf1⟩
    · have hs' : ¬ (n : Int) < 1 := by omega
      have hs2 : (8 : Int) < n := by omega
      go_enter Tryd.func7, Tryd.ntmps7
      go_wp2_with fail
      refine hk.mono ?_
      rintro e w1 ⟨rfl, hf1⟩
      go_wp2
      go_ret
      exact ⟨rfl, hf1⟩
  · have hs' : ¬ (n : Int) < 1 := by omega
    have hs2 : ¬ (8 : Int) < n := by omega
    have hn1 : 1 ≤ n := by omega
    have hn8 : n ≤ 8 := by omega
    go_enter Tryd.func7, Tryd.ntmps7
    go_wp2_with fail
    refine hk.mono ?_
    clear hk
    rintro e w1 ⟨rfl, hf1⟩
    have F1 := Lib.hid hf1
    have hE := ow_empty w1 48 2
    have HE := Lib.hid hE
    clear hf1 hE
    go_wp2_with fail
    go_loopw [5, 6, 7] (fun ov pv iv wr => ∃ (k : Nat) (bo : Option Addr) (bc : Nat), k ≤ n ∧ iv = .int .i64 k ∧ pv = .int .i64 (mat zs k) ∧ ov = .slice bo k bc ∧ Hid (Ow w1 wr 48 2 (.slice bo k bc) k (mpCells (mbuilt zs k)))) (fun _ _ iv _ => n - (intOf iv).toNat)
    case atStart => exact ⟨0, _, 0, Nat.zero_le _, rfl, rfl, rfl, HE⟩
    case round =>
      obtain ⟨k, bo, bc, hk, rfl, rfl, rfl, hO⟩ := hrel
      generalize wr = V at *
      by_cases hlt : k < n
      · obtain ⟨g, off, c', he, _, _, hx⟩ := H.out.form (by omega)
        cases he
        obtain ⟨y, hy⟩ : ∃ y, zs[k]? = some y := ⟨zs[k]'(by rw [Hn.out]; omega), by simp⟩
        obtain ⟨hy0, hy1⟩ := Hz.out y (List.mem_of_getElem? hy)
        have hcw : w.cell? ⟨g, off + k, none⟩ = some (.int .u8 y) := hx k _ (by simp [hy])
        have hcv : V.cell? ⟨g, off + k, none⟩ = some (.int .u8 y) := (F1.out.trans' hO.out.fr).cell hcw (fun f => f)
        obtain ⟨f, hf⟩ : ∃ f, mat zs k = f := ⟨_, rfl⟩
        have hfb := mat_bound zs k
        rw [hf] at hfb
        have Htk : Hid (mpCells (mbuilt zs (k + 1)) = mpCells (mbuilt zs k) ++ [.int .i64 f, .int .i64 (1 + y % 8)]) := Lib.hid (by rw [mbuilt_succ, mpCells_app, hy, hf]; rfl)
        have Hmt : Hid (mat zs (k + 1) = f + y / 8 % 9) := Lib.hid (by rw [mat, hf, hy]; rfl)
        have hg1 : g < w1.heap.size := by have := World.block_lt_of_cell? w _ hcw; have := F1.out.size; simp at *; omega
        have hgk : (Value.slice bo k bc).ownBlock ≠ some g := fun e => by have := hO.out.fresh _ e; omega
        have hlf : Fr no V (V.alloc (.cells #[.int .i64 f, .int .i64 (1 + y % 8)] 48)) := (Fr.refl no V).alloc _
        have HO := Lib.hid (hO.out.step hlf)
        have Hlit := Lib.hid (mp_lit1 V 48 f (1 + y % 8))
        have Hcv := Lib.hid (hlf.cell hcv (fun f => f))
        have hone : ∀ u ∈ [Value.int .i64 f, Value.int .i64 (1 + y % 8)], u.oneCell' = true := fun u hu => by
          simp at hu
          rcases hu with rfl | rfl <;> rfl
        have Hone := Lib.hid hone
        rw [hf]
        clear hx hy hcw hf hone hlf hO
        go_wp2_with (at_builtin; refine wpList_append_all (V.alloc (.cells #[.int .i64 f, .int .i64 (1 + y % 8)] 48)) rfl _ _ 23 rfl 48 j0 _ 2 16 Tryd.underlying23 hj0 jz0 jz1 jz2 rfl (by decide) _ _ _ rfl HO.out.sl _ _ _ rfl Hlit.out Hone.out (by unfold maxLen; omega) (by omega) ?_)
        intro ao2 cap2 w2 hs2 hf2 ho2 _
        have hO2 := HO.out.app hs2 hf2 (by simpa using ho2)
        rw [← Htk.out] at hO2
        have HO2 := Lib.hid hO2
        have hcv2 : w2.cell? ⟨g, off + k, none⟩ = some (.int .u8 y) := hf2.cell Hcv.out (fun e => hgk e)
        clear hs2 hf2 ho2 hO2 HO Hlit Hcv hcv
        go_wp2
        go_roundw
        case rel => exact ⟨k + 1, ao2, cap2, by omega, by go_num, by rw [Hmt.out], rfl, HO2⟩
        case measure => simp [intOf]; omega
      · have hkn : k = n := by omega
        subst hkn
        obtain ⟨m, hm⟩ : ∃ m, mbuilt zs k = m := ⟨_, rfl⟩
        have hml : m.length = k := by rw [← hm, mbuilt_len]
        have hM : MpAt V (.slice bo k bc) m := by unfold MpAt; rw [hml]; rw [← hm]; exact hO.out.rd
        have hmc : mcheck m = 0 := by rw [← hm]; exact mbuilt_check zs hn1
        have hmb : ∀ x ∈ m, x.1 ≤ 1000000 := fun x hx => by rw [← hm] at hx; have := (mbuilt_mem hx).1; omega
        have M := Lib.hid hM
        have Hmc := Lib.hid hmc
        have Hmb := Lib.hid hmb
        have F2 := Lib.hid (F1.out.trans' hO.out.fr)
        obtain ⟨N, hN⟩ := Int.eq_ofNat_of_zero_le (show 0 ≤ b % 80 by omega)
        have hN80 : N ≤ 79 := by omega
        obtain ⟨w2, hmk, ho, hg⟩ := run_makeSlice_full (P := Tryd.prog) V V.heap.size 49 3 i0 _ 1 Tryd.underlying49 hi hz0 hz1 .i64 .i64 N (by omega) (by rw [hz2]; omega) (by unfold maxLen; omega) (Nat.le_refl _)
        have hO2 : Ow V w2 3 1 (.slice (some ⟨V.heap.size, 0, none⟩) N N) N ((ind (fun _ => false) N).map (Value.int .i64)) := by
          refine ⟨?_, (Fr.refl no V).grown hg (fun _ h => by cases h), fun g hg => by cases hg; exact Nat.le_refl _⟩
          have hs := Sl.of_ownsRow ho
          rw [show (Value.int .i64 0).cells = #[Value.int .i64 0] from rfl, Nat.mul_one, toList_madeCells_one] at hs
          rw [ind_zero, List.map_replicate]
          exact hs
        have HO2 := Lib.hid hO2
        clear hO hm hM hmc hmb jz0 jz1 jz2 hj0 H ho hg hO2
        have hml8 : m.length ≤ 8 := by omega
        clear hml
        go_wp2_with fail
        clear hmk
        obtain ⟨gs, hgs⟩ : ∃ gs, V.heap.size = gs := ⟨_, rfl⟩
        have Hgs := Lib.hid hgs
        rw [hgs] at HO2
        rw [hgs]
        clear hgs
        rw [hN]
        clear hN
        go_loopw [10] (fun sv wr => ∃ (s : Nat), s ≤ 8 ∧ sv = .int .i64 s ∧ Hid (Ow V wr 3 1 (.slice (some ⟨gs, 0, none⟩) N N) N ((ind (fun p => decide ((mfind m p).2.1 < s)) N).map (Value.int .i64)))) (fun sv _ => 8 - (intOf sv).toNat)
        case atStart =>
          refine ⟨0, by omega, rfl, Lib.hid ?_⟩
          have := HO2.out
          rwa [ind_congr (Q := fun p => decide ((mfind m p).2.1 < ((0 : Nat) : Int))) (fun p hp => by have := (mfind_lt Hmc.out (Int.natCast_nonneg p)).1; symm; simp; omega)] at this
        case round =>
          obtain ⟨s, hs8, rfl, hS⟩ := hrel
          generalize wr = U at *
          by_cases hlt : s < 8
          · have hM2 := M.out.fr hS.out.fr (fun _ _ _ f => f)
            have MU := Lib.hid hM2
            clear hM2
            go_wp2_with fail
            refine (m_positions _ _ _ _ _ _ _).mono ?_
            rintro e w3 ⟨rfl, hw⟩
            have hpf := mpos_find (st := (s : Int)) (frm := 0) (en := (N : Int)) Hmc.out (by omega) (by omega)
            have hl : ((mpos m s 0 N).length : Int) ≤ 100 := by
              rw [hpf]
              have h1 := List.length_filter_le (fun p => decide ((mfind m p).2.1 = s)) (irange 0 N)
              rw [irange_len] at h1
              omega
            have hc := nums_pos MU.out hw (by omega) (by omega) (by omega) (by omega) (by omega) (by omega) (by omega) Hmb.out hl (by decide)
            have hfd : Fr no U w3 := by rw [← hw]; exact ((((Fr.refl no U).alloc _).alloc _).alloc _).alloc _
            replace hS := Lib.hid (hS.out.step hfd)
            obtain ⟨L, hL⟩ : ∃ L, mpos m s 0 N = L := ⟨_, rfl⟩
            rw [hL] at hc hpf hl
            have hmem : ∀ x ∈ L, 0 ≤ x ∧ x < N ∧ (mfind m x).2.1 = s := fun x hx => by
              rw [hpf] at hx
              obtain ⟨h1, h2⟩ := List.mem_filter.1 hx
              have := irange_mem.1 h1
              exact ⟨this.1, this.2, by simpa using h2⟩
            have hasc : L.Pairwise (fun x y => x < y) := by rw [hpf]; exact (irange_asc _ _ _ rfl).filter _
            have HL := Lib.hid hpf
            have Hmem := Lib.hid hmem
            have Hasc := Lib.hid hasc
            have hll : L.length ≤ 100 := by omega
            clear hw hfd hpf hl hL hmem hasc MU
            generalize U.heap.size = gx at *
            go_wp2_with fail
            refine hc.mono ?_
            clear hc
            rintro e w4 ⟨Lo, Lc, rfl, hm⟩
            have hgl : ∀ g, Value.ownBlock (.slice Lo L.length Lc) = some g → g ≠ gs := fun g hg e => by
              have h1 := hm.fresh g hg
              have h2 := hS.out.sl.lt gs rfl
              omega
            have Hgl := Lib.hid hgl
            have R := Lib.hid hm.rd
            replace hS := Lib.hid (hS.out.step hm.fr)
            clear hm hgl
            go_wp2_with fail
            go_loopw [13] (fun iv wr => ∃ (i : Nat), i ≤ L.length ∧ iv = .int .i64 i ∧ Hid (Rd wr 1 (.slice Lo L.length Lc) L.length (L.map (Value.int .i64))) ∧ Hid (Ow V wr 3 1 (.slice (some ⟨gs, 0, none⟩) N N) N ((ind (fun p => decide ((mfind m p).2.1 < s) || (L.take i).contains (p : Int)) N).map (Value.int .i64)))) (fun iv _ => L.length - (intOf iv).toNat)
            case atStart => exact ⟨0, Nat.zero_le _, rfl, R, Lib.hid (by simpa using hS.out)⟩
            case round =>
              obtain ⟨i, hi, rfl, R, hT⟩ := hrel
              generalize wr = T at *
              by_cases hil : i < L.length
              · obtain ⟨x, hx⟩ : ∃ x, L[i]? = some x := ⟨L[i], by simp [hil]⟩
                obtain ⟨hx0, hx1, hx2⟩ := Hmem.out x (List.mem_of_getElem? hx)
                obtain ⟨p, rfl⟩ := Int.eq_ofNat_of_zero_le hx0
                have hpN : p < N := by omega
                obtain ⟨g, off, c', he, _, _, hcs⟩ := R.out.form (by omega)
                cases he
                have hcx : T.cell? ⟨g, off + i, none⟩ = some (.int .i64 p) := hcs i _ (by simp [hx])
                obtain ⟨g2, off2, c2, he2, _, _, _, hcell, hfz⟩ := hT.out.form (by omega)
                cases he2
                have hnot : (L.take i).contains (p : Int) = false := by
                  rw [Bool.eq_false_iff]
                  intro hcon
                  have hmm := List.contains_iff_mem.1 hcon
                  obtain ⟨j, hj⟩ := List.getElem?_of_mem hmm
                  have hji : j < i := by have := (List.getElem?_eq_some_iff.1 hj).1; simp at this; omega
                  rw [List.getElem?_take_of_lt hji] at hj
                  obtain ⟨j1, j2⟩ := List.getElem?_eq_some_iff.1 hj
                  obtain ⟨i1, i2⟩ := List.getElem?_eq_some_iff.1 hx
                  have := List.pairwise_iff_getElem.1 Hasc.out j i j1 i1 hji
                  rw [j2, i2] at this
                  omega
                have hc0 : T.cell? ⟨gs, p, none⟩ = some (.int .i64 0) := by
                  have := hcell p (.int .i64 0) (by rw [List.getElem?_map, ind_get _ hpN, hnot, hx2]; simp)
                  rwa [Nat.zero_add] at this
                have hf0 : T.frozen? ⟨gs, p, none⟩ = false := hfz p
                have hset := hT.out.set p hpN (.int .i64 1)
                rw [Nat.zero_add, ← List.map_set, ind_set _ hpN] at hset
                have hR2 : Rd (T.setCell ⟨gs, p, none⟩ (.int .i64 1)) 1 (.slice (some ⟨g, off, none⟩) L.length Lc) L.length (L.map (Value.int .i64)) := R.out.fr ((Fr.refl (fun k => k = gs) T).setCell (p := ⟨gs, p, none⟩) (fun _ => rfl) _) (fun g' hg' _ e => Hgl.out g' hg' e)
                have Hset : Hid (Ow V (T.setCell ⟨gs, p, none⟩ (.int .i64 1)) 3 1 (.slice (some ⟨gs, 0, none⟩) N N) N ((ind (fun q => decide ((mfind m q).2.1 < s) || (L.take (i + 1)).contains (q : Int)) N).map (Value.int .i64))) := Lib.hid (by
                  rwa [ind_congr (fun q hq => ?_)] at hset
                  rw [List.take_add_one, hx, Bool.or_assoc]
                  congr 1
                  by_cases e : q = p
                  · subst e; simp
                  · have e2 : ¬ (q : Int) = p := by omega
                    simp [e, e2])
                have HR2 := Lib.hid hR2
                clear hcs hcell hfz hset hR2 hx hnot hT R
                go_wp2
                go_roundw
                case rel => exact ⟨i + 1, by omega, by go_num, HR2, Hset⟩
                case measure => simp [intOf]; omega
              · obtain rfl : i = L.length := by omega
                have hS2 : Hid (Ow V T 3 1 (.slice (some ⟨gs, 0, none⟩) N N) N ((ind (fun p => decide ((mfind m p).2.1 < ((s + 1 : Nat) : Int))) N).map (Value.int .i64))) := Lib.hid (by
                  have := hT.out
                  rwa [ind_congr (fun q hq => ?_)] at this
                  rw [List.take_length, HL.out, Bool.eq_iff_iff]
                  simp [irange_mem]
                  omega)
                clear hT R
                go_wp2
                go_roundw
                case rel => exact ⟨s + 1, by omega, by go_num, hS2⟩
                case measure => simp [intOf]; omega
          · obtain rfl : s = 8 := by omega
            have hall : Hid (Ow V U 3 1 (.slice (some ⟨gs, 0, none⟩) N N) N ((ind (fun p => true) N).map (Value.int .i64))) := Lib.hid (by
              have := hS.out
              rwa [ind_congr (Q := fun _ => true) (fun q hq => by have := (mfind_lt Hmc.out (Int.natCast_nonneg q)).2; simp; omega)] at this)
            clear hS
            obtain ⟨w5, hmk, ho, hg⟩ := run_makeSlice_full (P := Tryd.prog) U U.heap.size 49 3 i0 _ 1 Tryd.underlying49 hi hz0 hz1 .i64 .i64 N (by omega) (by rw [hz2]; omega) (by unfold maxLen; omega) (Nat.le_refl _)
            have hfg : Fr no U w5 := (Fr.refl no U).grown hg (fun _ h => by cases h)
            have hO5 : Ow U w5 3 1 (.slice (some ⟨U.heap.size, 0, none⟩) N N) N ((ind (fun p => decide (p < 0)) N).map (Value.int .i64)) := by
              refine ⟨?_, hfg, fun g hg => by cases hg; exact Nat.le_refl _⟩
              have hs := Sl.of_ownsRow ho
              rw [show (Value.int .i64 0).cells = #[Value.int .i64 0] from rfl, Nat.mul_one, toList_madeCells_one] at hs
              rw [ind_congr (Q := fun _ => false) (fun p _ => by simp), ind_zero, List.map_replicate]
              exact hs
            have HO5 := Lib.hid hO5
            clear ho hg hfg hO5
            go_wp2_with fail
            clear hmk
            obtain ⟨gt, hgt⟩ : ∃ gt, U.heap.size = gt := ⟨_, rfl⟩
            have hgs2 : gs < U.heap.size := hall.out.sl.lt gs rfl
            rw [hgt] at HO5
            rw [hgt]
            clear hgt
            go_loopw [15] (fun iv wr => ∃ (i : Nat), i ≤ N ∧ iv = .int .i64 i ∧ Hid (Ow U wr 3 1 (.slice (some ⟨gt, 0, none⟩) N N) N ((ind (fun p => decide (p < i)) N).map (Value.int .i64)))) (fun iv _ => N - (intOf iv).toNat)
            case atStart => exact ⟨0, Nat.zero_le _, rfl, HO5⟩
            case round =>
              obtain ⟨i, hi, rfl, hT⟩ := hrel
              generalize wr = T at *
              by_cases hil : i < N
              · obtain ⟨g2, off2, c2, he2, _, _, _, hcell, hfz⟩ := hT.out.form (by omega)
                cases he2
                have hc0 : T.cell? ⟨gt, i, none⟩ = some (.int .i64 0) := by
                  have := hcell i (.int .i64 0) (by rw [List.getElem?_map, ind_get _ hil]; simp)
                  rwa [Nat.zero_add] at this
                have hf0 : T.frozen? ⟨gt, i, none⟩ = false := hfz i
                have hset := hT.out.set i hil (.int .i64 1)
                rw [Nat.zero_add, ← List.map_set, ind_set _ hil] at hset
                have Hset : Hid (Ow U (T.setCell ⟨gt, i, none⟩ (.int .i64 1)) 3 1 (.slice (some ⟨gt, 0, none⟩) N N) N ((ind (fun q => decide (q < i + 1)) N).map (Value.int .i64))) := Lib.hid (by
                  rwa [ind_congr (fun q hq => ?_)] at hset
                  rw [Bool.eq_iff_iff]
                  simp
                  omega)
                clear hcell hfz hset hT
                go_wp2
                go_roundw
                case rel => exact ⟨i + 1, by omega, by go_num, Hset⟩
                case measure => simp [intOf]; omega
              · obtain rfl : i = N := by omega
                have hW : Hid (Ow U T 3 1 (.slice (some ⟨gt, 0, none⟩) i i) i ((ind (fun p => true) i).map (Value.int .i64))) := Lib.hid (by
                  have := hT.out
                  rwa [ind_congr (Q := fun _ => true) (fun q hq => by simp; omega)] at this)
                obtain ⟨L, hL⟩ : ∃ L, ind (fun p => true) i = L := ⟨_, rfl⟩
                have hll : i = L.length := by rw [← hL, ind_len]
                rw [hL] at hW hall
                have hA : Rd T 1 (.slice (some ⟨gs, 0, none⟩) i i) L.length (L.map (Value.int .i64)) := by have := hall.out.rd.fr hW.out.fr (fun _ _ _ f => f); rwa [← hll]
                have hB : Rd T 1 (.slice (some ⟨gt, 0, none⟩) i i) L.length (L.map (Value.int .i64)) := by have := hW.out.rd; rwa [← hll]
                have F3 := Lib.hid ((F2.out.trans' hall.out.fr).trans' hW.out.fr)
                have hc := law_ints _ _ L L _ hA hB
                rw [show decide (L = L) = true from decide_eq_true rfl] at hc
                clear hT hW hall hL hll hA hB
                go_wp2_with fail
                refine hc.mono ?_
                rintro e w6 ⟨rfl, hfd⟩
                have F4 := Lib.hid (F3.out.trans' hfd)
                clear hfd hc
                go_wp2
                go_ret
                exact ⟨rfl, F4.out⟩
set_option maxRecDepth 100000 in
theorem mapWhole_row {H : Type} {enc : TypeId × Value → H} (v0 : Value) (b : Int) {d0 : DataW H} {p0 : List MemPlace} {base : Nat} (w : World) (hG : Gl w)
    (ok0 : Value.okWide Tryd.prog w .any base 57 v0) (h0 : DataW.Trod enc Tryd.prog w 0 (fun _ => true) true 57 v0 d0 p0) (hb : (Lit.int .u8 b).wf = true) :
    Calls Tryd.prog 7 #[v0, .int .u8 b] w fun e w' => e = .returned (.bool true) ∧ Below w.heap.size w w' := by
  obtain ⟨zs, ra, wa⟩ := ints_open (k := .u8) Tryd.underlying57 Tryd.underlying5 (by kernel_rfl) ok0 h0
  refine (mapWhole_any v0 zs b w hG ra (fun x hx => bounds_u8 (wa x hx)) (bounds_u8 hb).1 (bounds_u8 hb).2).mono ?_
  rintro e w' ⟨he, hf⟩
  exact ⟨he, hf.below⟩
end Go.Proofs.YtkdcldnbdhfobaaDoor
