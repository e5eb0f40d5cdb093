/- The walk of the law MapParts. -/
import Derived.Test.YtkdcldnbdhfobaaDoorMpB
import Derived.Test.YtkdcldnbdhfobaaDoorOpen2
namespace Go.Proofs.YtkdcldnbdhfobaaDoor
open Go.RowKit Go.Shelf Go.XL Go.ChangeShapes Go.WideShapes Go.ChangeAt
set_option linter.unusedVariables false
set_option linter.unusedSimpArgs false
attribute [local go_sem] Oper.semAt_some
set_option maxRecDepth 100000 in
set_option maxHeartbeats 4000000 in
theorem mapParts_any (v1 : Value) (zs : List Int) (a b c : Int) (w : World) (hG : Gl w) (h1 : Rd w 1 v1 zs.length (zs.map (Value.int .u16))) (hz : ∀ x ∈ zs, 0 ≤ x ∧ x ≤ 65535)
    (ha0 : 0 ≤ a) (ha1 : a ≤ 255) (hb0 : 0 ≤ b) (hb1 : b ≤ 255) (hc0 : 0 ≤ c) (hc1 : c ≤ 255) :
    Calls Tryd.prog 5 #[v1, .int .u8 a, .int .u8 b, .int .u8 c] w fun e w' => e = .returned (.bool true) ∧ Fr no w w' := by
  have hk := mknown w hG
  obtain ⟨o1, c1, rfl, k1, m1⟩ := h1.cap
  have H : Hid (Rd w 1 (.slice o1 zs.length c1) zs.length (zs.map (Value.int .u16))) := Lib.hid h1
  have Hz := Lib.hid hz
  have HG := Lib.hid hG
  obtain ⟨i0, hi, hz0, hz1, hz2⟩ := info_parts Tryd.info3
  obtain ⟨j0, hj0, jz0, jz1, jz2⟩ := info_parts (show (Tryd.prog.info? 48).map (fun i => (i.zero, i.size, i.bytes)) = some (some (.agg #[.int .i64 0, .int .i64 0]), 2, 16) by kernel_rfl)
  clear h1 hz hG
  generalize hn : zs.length = n at *
  have Hn := Lib.hid hn
  clear hn
  by_cases hs : n < 1 ∨ 8 < n
  · rcases hs with hs | hs
    · have hs' : (n : Int) < 1 := by omega
      go_enter Tryd.func5, Tryd.ntmps5
      go_wp2_with fail
      refine hk.mono ?_
      rintro e w1 ⟨rfl, hf1⟩
      go_wp2
      go_ret
      exact ⟨rfl, hf1⟩
    · have hs' : ¬ (n : Int) < 1 := by omega
      have hs2 : (8 : Int) < n := by omega
      go_enter Tryd.func5, Tryd.ntmps5
      go_wp2_with fail
      refine hk.mono ?_
      rintro e w1 ⟨rfl, hf1⟩
      go_wp2
      go_ret
      exact ⟨rfl, hf1⟩
  · have hs' : ¬ (n : Int) < 1 := by omega
    have hs2 : ¬ (8 : Int) < n := by omega
    have hn1 : 1 ≤ n := by omega
    have hn8 : n ≤ 8 := by omega
    go_enter Tryd.func5, Tryd.ntmps5
    go_wp2_with fail
    refine hk.mono ?_
    clear hk
    rintro e w1 ⟨rfl, hf1⟩
    have F1 := Lib.hid hf1
    have hE := ow_empty w1 48 2
    have HE := Lib.hid hE
    clear hf1 hE
    go_wp2_with fail
    go_loopw [9, 10, 11] (fun ov pv iv wr => ∃ (k : Nat) (bo : Option Addr) (bc : Nat), k ≤ n ∧ iv = .int .i64 k ∧ pv = .int .i64 (mat zs k) ∧ ov = .slice bo k bc ∧ Hid (Ow w1 wr 48 2 (.slice bo k bc) k (mpCells (mbuilt zs k)))) (fun _ _ iv _ => n - (intOf iv).toNat)
    case atStart => exact ⟨0, _, 0, Nat.zero_le _, rfl, rfl, rfl, HE⟩
    case round =>
      obtain ⟨k, bo, bc, hk, rfl, rfl, rfl, hO⟩ := hrel
      generalize wr = V at *
      by_cases hlt : k < n
      · obtain ⟨g, off, c', he, _, _, hx⟩ := H.out.form (by omega)
        cases he
        obtain ⟨y, hy⟩ : ∃ y, zs[k]? = some y := ⟨zs[k]'(by rw [Hn.out]; omega), by simp⟩
        obtain ⟨hy0, hy1⟩ := Hz.out y (List.mem_of_getElem? hy)
        have hcw : w.cell? ⟨g, off + k, none⟩ = some (.int .u16 y) := hx k _ (by simp [hy])
        have hcv : V.cell? ⟨g, off + k, none⟩ = some (.int .u16 y) := (F1.out.trans' hO.out.fr).cell hcw (fun f => f)
        obtain ⟨f, hf⟩ : ∃ f, mat zs k = f := ⟨_, rfl⟩
        have hfb := mat_bound zs k
        rw [hf] at hfb
        have Htk : Hid (mpCells (mbuilt zs (k + 1)) = mpCells (mbuilt zs k) ++ [.int .i64 f, .int .i64 (1 + y % 8)]) := Lib.hid (by rw [mbuilt_succ, mpCells_app, hy, hf]; rfl)
        have Hmt : Hid (mat zs (k + 1) = f + y / 8 % 9) := Lib.hid (by rw [mat, hf, hy]; rfl)
        have hg1 : g < w1.heap.size := by have := World.block_lt_of_cell? w _ hcw; have := F1.out.size; simp at *; omega
        have hgk : (Value.slice bo k bc).ownBlock ≠ some g := fun e => by have := hO.out.fresh _ e; omega
        have hlf : Fr no V (V.alloc (.cells #[.int .i64 f, .int .i64 (1 + y % 8)] 48)) := (Fr.refl no V).alloc _
        have HO := Lib.hid (hO.out.step hlf)
        have Hlit := Lib.hid (mp_lit1 V 48 f (1 + y % 8))
        have Hcv := Lib.hid (hlf.cell hcv (fun f => f))
        have hone : ∀ u ∈ [Value.int .i64 f, Value.int .i64 (1 + y % 8)], u.oneCell' = true := fun u hu => by
          simp at hu
          rcases hu with rfl | rfl <;> rfl
        have Hone := Lib.hid hone
        rw [hf]
        clear hx hy hcw hf hone hlf hO
        go_wp2_with (at_builtin; refine wpList_append_all (V.alloc (.cells #[.int .i64 f, .int .i64 (1 + y % 8)] 48)) rfl _ _ 23 rfl 48 j0 _ 2 16 Tryd.underlying23 hj0 jz0 jz1 jz2 rfl (by decide) _ _ _ rfl HO.out.sl _ _ _ rfl Hlit.out Hone.out (by unfold maxLen; omega) (by omega) ?_)
        intro ao2 cap2 w2 hs2 hf2 ho2 _
        have hO2 := HO.out.app hs2 hf2 (by simpa using ho2)
        rw [← Htk.out] at hO2
        have HO2 := Lib.hid hO2
        have hcv2 : w2.cell? ⟨g, off + k, none⟩ = some (.int .u16 y) := hf2.cell Hcv.out (fun e => hgk e)
        clear hs2 hf2 ho2 hO2 HO Hlit Hcv hcv
        go_wp2
        go_roundw
        case rel => exact ⟨k + 1, ao2, cap2, by omega, by go_num, by rw [Hmt.out, quo_step wrap_u16 hy0 hy1 hfb.1 (by omega)], rfl, HO2⟩
        case measure => simp [intOf]; omega
      · have hkn : k = n := by omega
        subst hkn
        obtain ⟨m, hm⟩ : ∃ m, mbuilt zs k = m := ⟨_, rfl⟩
        have hml : m.length = k := by rw [← hm, mbuilt_len]
        have hM : MpAt V (.slice bo k bc) m := by unfold MpAt; rw [hml]; rw [← hm]; exact hO.out.rd
        have hmc : mcheck m = 0 := by rw [← hm]; exact mbuilt_check zs hn1
        have hmb : ∀ x ∈ m, x.1 ≤ 1000000 := fun x hx => by rw [← hm] at hx; have := (mbuilt_mem hx).1; omega
        have M := Lib.hid hM
        have Hmc := Lib.hid hmc
        have Hmb := Lib.hid hmb
        have F2 := Lib.hid (F1.out.trans' hO.out.fr)
        obtain ⟨kk, hkk⟩ : ∃ kk, a % 9 = kk := ⟨_, rfl⟩
        obtain ⟨fa, hfa⟩ : ∃ fa, b % 60 = fa := ⟨_, rfl⟩
        obtain ⟨fc, hfc⟩ : ∃ fc, c % 60 = fc := ⟨_, rfl⟩
        have q1 : 0 ≤ kk ∧ kk ≤ 8 := by omega
        have q2 : 0 ≤ fa ∧ fa ≤ 59 := by omega
        have q3 : 0 ≤ fc ∧ fc ≤ 59 := by omega
        obtain ⟨q1a, q1b⟩ := q1
        obtain ⟨q2a, q2b⟩ := q2
        obtain ⟨q3a, q3b⟩ := q3
        have hml8 : m.length ≤ 8 := by omega
        clear hml
        clear hO hm hM hmc hmb jz0 jz1 jz2 hj0 H
        go_wp2_with fail
        refine (m_positions _ _ _ _ _ _ _).mono ?_
        rintro e w2 ⟨rfl, hw⟩
        obtain ⟨fb, hfb⟩ : ∃ fb, fa + fc = fb := ⟨_, rfl⟩
        rw [hfb] at hw
        have hpf := mpos_find (st := kk) (frm := fa) (en := fb) Hmc.out q1a q2a
        have hl : ((mpos m kk fa fb).length : Int) ≤ 200 := by
          rw [hpf]
          have h1 := List.length_filter_le (fun p => decide ((mfind m p).2.1 = kk)) (irange fa fb)
          rw [irange_len] at h1
          omega
        have hc := nums_pos M.out hw q1a (by omega) q2a (by omega) (by omega) (by omega) (by omega) Hmb.out hl (by decide)
        have hfd : Fr no V w2 := by rw [← hw]; exact ((((Fr.refl no V).alloc _).alloc _).alloc _).alloc _
        replace M := Lib.hid (M.out.fr hfd (fun _ _ _ f => f))
        replace F2 := Lib.hid (F2.out.trans' hfd)
        obtain ⟨L, hL⟩ : ∃ L, mpos m kk fa fb = L := ⟨_, rfl⟩
        rw [hL] at hc hpf
        have HL := Lib.hid hpf
        clear hw hfd hpf hl hL
        generalize V.heap.size = gx at *
        go_wp2_with fail
        refine hc.mono ?_
        clear hc
        rintro e w3 ⟨Lo, Lc, rfl, hm⟩
        have R := Lib.hid hm.rd
        have hfd := hm.fr
        replace M := Lib.hid (M.out.fr hfd (fun _ _ _ f => f))
        replace F2 := Lib.hid (F2.out.trans' hfd)
        clear hm hfd
        go_wp2_with fail
        go_loopw [17, 18] (fun ov xv wr => ∃ (x : Int) (done : List Int) (po : Option Addr) (pc : Nat), fa ≤ x ∧ x ≤ fb ∧ xv = .int .i64 x ∧ ov = .slice po done.length pc ∧ Hid (done = (irange fa x).filter fun p => decide ((mfind m p).2.1 = kk)) ∧ Hid (Ow w3 wr 3 1 (.slice po done.length pc) done.length (done.map (Value.int .i64)))) (fun _ xv _ => (fb - intOf xv).toNat)
        case atStart => exact ⟨fa, [], none, 0, Int.le_refl _, by omega, rfl, rfl, Lib.hid (by rw [irange_nil (Int.le_refl _)]; rfl), Lib.hid (Ow.nil (Fr.refl _ _) _ _)⟩
        case round =>
          obtain ⟨x, done, po, pc, hx0, hx1, rfl, rfl, Hd, hO⟩ := hrel
          generalize wr = U at *
          have MU := Lib.hid (M.out.fr hO.out.fr (fun _ _ _ f => f))
          by_cases hxb : x < fb
          · obtain ⟨_, he0⟩ := mfind_str (p := x) Hmc.out (by omega)
            have hdl : done.length ≤ 200 := by
              rw [Hd.out]
              have h1 := List.length_filter_le (fun p => decide ((mfind m p).2.1 = kk)) (irange fa x)
              rw [irange_len] at h1
              omega
            have hsn : (irange fa (x + 1)).filter (fun p => decide ((mfind m p).2.1 = kk)) = done ++ if (mfind m x).2.1 = kk then [x] else [] := by
              rw [irange_snoc hx0, List.filter_append, ← Hd.out]
              simp [List.filter_cons]
            obtain ⟨ep, st, er, hfi⟩ : ∃ p q r, mfind m x = (p, q, r) := ⟨_, _, _, rfl⟩
            rw [hfi] at he0 hsn
            dsimp only at he0 hsn
            subst he0
            have Hfi := Lib.hid hfi
            have Hsn := Lib.hid hsn
            clear hsn hfi Hd
            go_wp2_with fail
            refine (law_ofmap _ m _ MU.out (by omega)).mono ?_
            rintro e w4 ⟨v', rfl, hm⟩
            obtain ⟨Xo, Xc, rfl, _, _⟩ := hm.cap
            have X := Lib.hid hm.rd
            replace hO := Lib.hid (hO.out.step hm.fr)
            clear hm
            go_wp2_with fail
            have hc := ref_findpos _ m x _ X.out (by omega) (by omega)
            rw [Hfi.out] at hc
            dsimp only at hc
            refine hc.mono ?_
            clear hc
            rintro e w5 ⟨rfl, hfd⟩
            replace hO := Lib.hid (hO.out.step hfd)
            clear hfd X MU
            by_cases hsk : st = kk
            · subst hsk
              go_wp2_with (at_builtin; refine wpList_append_one w5 (.int .i64 x) 3 rfl _ _ 49 rfl 3 i0 (.int .i64 0) 8 Tryd.underlying49 hi hz0 hz1 hz2 rfl _ done.length _ rfl hO.out.sl rfl rfl (by unfold maxLen; omega) (by omega) ?_)
              intro ao' cap' w' hs' hfr hor hkb
              have HO := hO.out.app1 hs' hfr hor
              have hl : (done ++ [x]).length = done.length + 1 := by simp
              have HO2 : Hid (Ow w3 w' 3 1 (.slice ao' (done ++ [x]).length cap') (done ++ [x]).length ((done ++ [x]).map (Value.int .i64))) := Lib.hid (by rw [hl]; rw [hl] at HO; exact HO)
              clear hl
              clear hs' hfr hor hkb hO HO
              go_wp2
              go_roundw
              case rel => exact ⟨x + 1, done ++ [x], ao', cap', by omega, by omega, by go_num, by simp, Lib.hid (by rw [Hsn.out]; simp), HO2⟩
              case measure => simp [intOf]; omega
            · go_wp2
              go_roundw
              case rel => exact ⟨x + 1, done, po, pc, by omega, by omega, by go_num, rfl, Lib.hid (by rw [Hsn.out, if_neg hsk, List.append_nil]), hO⟩
              case measure => simp [intOf]; omega
          · obtain rfl : x = fb := by omega
            have hLd : L = done := by rw [HL.out, Hd.out]
            subst hLd
            have R2 := Lib.hid (R.out.fr hO.out.fr (fun _ _ _ f => f))
            have O2 := Lib.hid hO.out.rd
            have F3 := Lib.hid (F2.out.trans' hO.out.fr)
            clear hO Hd HL R
            go_wp2_with fail
            have hc := law_ints _ _ L L _ R2.out O2.out
            rw [show decide (L = L) = true from decide_eq_true rfl] at hc
            refine hc.mono ?_
            rintro e w6 ⟨rfl, hfd⟩
            have F4 := Lib.hid (F3.out.trans' hfd)
            clear hfd hc
            go_wp2
            go_ret
            exact ⟨rfl, F4.out⟩
set_option maxRecDepth 100000 in
theorem mapParts_row {H : Type} {enc : TypeId × Value → H} (v0 : Value) (a b c : Int) {d0 : DataW H} {p0 : List MemPlace} {base : Nat} (w : World) (hG : Gl w)
    (ok0 : Value.okWide Tryd.prog w .any base 45 v0) (h0 : DataW.Trod enc Tryd.prog w 0 (fun _ => true) true 45 v0 d0 p0) (ha : (Lit.int .u8 a).wf = true) (hb : (Lit.int .u8 b).wf = true) (hc : (Lit.int .u8 c).wf = true) :
    Calls Tryd.prog 5 #[v0, .int .u8 a, .int .u8 b, .int .u8 c] w fun e w' => e = .returned (.bool true) ∧ Below w.heap.size w w' := by
  obtain ⟨zs, ra, wa⟩ := ints_open (k := .u16) Tryd.underlying45 Tryd.underlying46 (by kernel_rfl) ok0 h0
  refine (mapParts_any v0 zs a b c w hG ra (fun x hx => bounds_u16 (wa x hx)) (bounds_u8 ha).1 (bounds_u8 ha).2 (bounds_u8 hb).1 (bounds_u8 hb).2 (bounds_u8 hc).1 (bounds_u8 hc).2).mono ?_
  rintro e w' ⟨he, hf⟩
  exact ⟨he, hf.below⟩
end Go.Proofs.YtkdcldnbdhfobaaDoor
