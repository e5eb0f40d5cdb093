/- The walk of the law MapGrows. -/
import Derived.Test.YtkdcldnbdhfobaaDoorMpB
import Derived.Test.YtkdcldnbdhfobaaDoorOpen2
namespace Go.XL
open Go.RowKit Go.Shelf
set_option linter.unusedVariables false
set_option linter.unusedSimpArgs false
/-- the map behind k rounds -/
def mgrown (zs : List Int) (k : Nat) : Mp := (0, 3) :: (List.range k).map fun i => (mat zs (i + 1), 1 + zs[i]?.getD 0 % 8)
theorem mgrown_succ (zs : List Int) (k : Nat) : mgrown zs (k + 1) = mgrown zs k ++ [(mat zs (k + 1), 1 + zs[k]?.getD 0 % 8)] := by
  unfold mgrown; rw [List.range_succ, List.map_append]; rfl
theorem mgrown_len (zs : List Int) (k : Nat) : (mgrown zs k).length = k + 1 := by unfold mgrown; simp
theorem mgrown_mem {zs : List Int} {k : Nat} {x : Int × Int} (h : x ∈ mgrown zs k) : (0 ≤ x.1 ∧ x.1 ≤ mat zs k) ∧ 1 ≤ x.2 ∧ x.2 ≤ 8 := by
  unfold mgrown at h
  rcases List.mem_cons.1 h with rfl | h
  · have := mat_bound zs k
    exact ⟨⟨Int.le_refl _, this.1⟩, by decide, by decide⟩
  · obtain ⟨i, hi, rfl⟩ := List.mem_map.1 h
    have hi2 := List.mem_range.1 hi
    have h0 := mat_bound zs (i + 1)
    have h3 := (mat_mono zs (i + 1) (k - (i + 1))).1
    rw [show i + 1 + (k - (i + 1)) = k by omega] at h3
    have h1 := Int.emod_nonneg (zs[i]?.getD 0) (show (8 : Int) ≠ 0 by decide)
    have h2 := Int.emod_lt_of_pos (zs[i]?.getD 0) (show (0 : Int) < 8 by decide)
    dsimp only
    omega
theorem mgrown_check (zs : List Int) (k : Nat) : mcheck (mgrown zs k) = 0 := by
  refine mcheck_zero rfl (fun y hy => (mgrown_mem hy).2) ?_
  refine List.pairwise_cons.2 ⟨fun y hy => (mgrown_mem (zs := zs) (k := k) (x := y) (List.mem_cons_of_mem _ hy)).1.1, ?_⟩
  rw [List.pairwise_map]
  refine List.Pairwise.imp (R := fun a b : Nat => a < b) (fun {a b} hab => ?_) List.pairwise_lt_range
  have := (mat_mono zs (a + 1) (b - a)).1
  rw [show a + 1 + (b - a) = b + 1 by omega] at this
  exact this
theorem madd_ok {m : Mp} {f n : Int} (h : mcheck (m ++ [(f, n)]) = 0) : madd m f n = (m ++ [(f, n)], 0) := if_pos h
/-- a span laid behind leaves the positions ahead of it where they were -/
theorem mback_snoc (m : Mp) (y : Int × Int) (p : Int) : ∀ n, n < m.length → mback (m ++ [y]) p n = mback m p n
  | 0, _ => rfl
  | n + 1, h => by
    rw [mback, mback, List.getElem?_append_left h, mback_snoc m y p n (by omega)]
theorem mback_le (m : Mp) (p : Int) : ∀ n, mback m p n ≤ n
  | 0 => Nat.le_refl _
  | n + 1 => by
    rw [mback]
    split
    · have := mback_le m p n; omega
    · exact Nat.le_refl _
theorem mfind_snoc {m : Mp} {y : Int × Int} {p : Int} (h1 : mcheck m = 0) (h2 : mcheck (m ++ [y]) = 0) (hp : p < y.1) : mfind (m ++ [y]) p = mfind m p := by
  have hne := (mcheck_ok h1).1
  have hl : 0 < m.length := List.length_pos_iff.2 hne
  unfold mfind
  by_cases h0 : p < 0
  · rw [if_pos (.inl h0), if_pos (.inl h0)]
  · rw [if_neg (by omega), if_neg (by omega)]
    have e : mback (m ++ [y]) p ((m ++ [y]).length - 1) = mback m p (m.length - 1) := by
      rw [show (m ++ [y]).length - 1 = (m.length - 1) + 1 by simp; omega, mback]
      rw [show m.length - 1 + 1 = m.length by omega, List.getElem?_append_right (Nat.le_refl _), Nat.sub_self]
      simp only [List.getElem?_cons_zero, Option.getD_some]
      rw [if_pos hp, mback_snoc m y p _ (by omega)]
    have hlt : mback m p (m.length - 1) < m.length := by have := mback_le m p (m.length - 1); omega
    dsimp only
    rw [e, List.getElem?_append_left hlt]
theorem mfind_new {m : Mp} {y : Int × Int} (h2 : mcheck (m ++ [y]) = 0) (h0 : 0 ≤ y.1) : mfind (m ++ [y]) y.1 = ((m.length : Int) + 1, 0, 0) := by
  have e : mback (m ++ [y]) y.1 m.length = m.length := by
    have hl : (m ++ [y])[m.length]? = some y := by rw [List.getElem?_append_right (Nat.le_refl _), Nat.sub_self]; rfl
    exact mback_stop hl (by omega)
  have hg : (m ++ [y])[m.length]?.getD (0, 0) = y := by rw [List.getElem?_append_right (Nat.le_refl _), Nat.sub_self]; rfl
  unfold mfind
  rw [if_neg (by omega), show (m ++ [y]).length - 1 = m.length by simp]
  dsimp only
  rw [e, hg, Int.sub_self]
  simp
theorem mfind_ok {m : Mp} {p : Int} (h1 : mcheck m = 0) (h0 : 0 ≤ p) : (mfind m p).2.2 = 0 := (mfind_str h1 h0).2
end Go.XL
namespace Go.Proofs.YtkdcldnbdhfobaaDoor
open Go.RowKit Go.Shelf Go.XL Go.ChangeShapes Go.WideShapes Go.ChangeAt
set_option linter.unusedVariables false
set_option linter.unusedSimpArgs false
attribute [local go_sem] Oper.semAt_some
set_option maxRecDepth 100000 in
set_option maxHeartbeats 4000000 in
theorem mapGrows_any (v1 : Value) (zs : List Int) (w : World) (hG : Gl w) (h1 : Rd w 1 v1 zs.length (zs.map (Value.int .u8))) (hz : ∀ x ∈ zs, 0 ≤ x ∧ x ≤ 255) :
    Calls Tryd.prog 6 #[v1] w fun e w' => e = .returned (.bool true) ∧ Fr no w w' := by
  have hk := mknown w hG
  obtain ⟨o1, c1, rfl, k1, m1⟩ := h1.cap
  have H : Hid (Rd w 1 (.slice o1 zs.length c1) zs.length (zs.map (Value.int .u8))) := Lib.hid h1
  have Hz := Lib.hid hz
  have HG := Lib.hid hG
  clear h1 hz hG
  generalize hn : zs.length = n at *
  have Hn := Lib.hid hn
  clear hn
  by_cases hs : 12 < n
  · have hs' : (12 : Int) < n := by omega
    go_enter Tryd.func6, Tryd.ntmps6
    go_wp2_with fail
    refine hk.mono ?_
    rintro e w1 ⟨rfl, hf1⟩
    go_wp2
    go_ret
    exact ⟨rfl, hf1⟩
  · have hs' : ¬ (12 : Int) < n := by omega
    go_enter Tryd.func6, Tryd.ntmps6
    go_wp2_with fail
    refine hk.mono ?_
    clear hk
    rintro e w1 ⟨rfl, hf1⟩
    have F1 := Lib.hid hf1
    have HE : Hid (MpAt (w1.alloc (.cells #[.int .i64 0, .int .i64 3] 48)) (.slice (some ⟨w1.heap.size, 0, none⟩) 1 1) [(0, 3)]) := Lib.hid (mp_lit1 w1 48 0 3)
    have hfa : Fr no w1 (w1.alloc (.cells #[.int .i64 0, .int .i64 3] 48)) := (Fr.refl no w1).alloc _
    have FA := Lib.hid hfa
    clear hf1 hfa
    go_wp2_with fail
    go_loopw [3, 4, 5] (fun ov pv iv wr => ∃ (k : Nat) (bo : Option Addr) (bc : Nat), k ≤ n ∧ iv = .int .i64 k ∧ pv = .int .i64 (mat zs k) ∧ ov = .slice bo (k + 1) bc ∧ Hid (MpAt wr (.slice bo (k + 1) bc) (mgrown zs k)) ∧ Hid (Fr no w1 wr)) (fun _ _ iv _ => n - (intOf iv).toNat)
    case atStart => exact ⟨0, _, 1, Nat.zero_le _, rfl, rfl, rfl, HE, FA⟩
    case round =>
      obtain ⟨k, bo, bc, hk, rfl, rfl, rfl, M, FV⟩ := hrel
      generalize wr = V at *
      obtain ⟨m, hm⟩ : ∃ m, mgrown zs k = m := ⟨_, rfl⟩
      have hml : m.length = k + 1 := by rw [← hm, mgrown_len]
      have hmc : mcheck m = 0 := by rw [← hm]; exact mgrown_check zs k
      have hmb : ∀ x ∈ m, x.1 ≤ 1000000 := fun x hx => by rw [← hm] at hx; have := (mgrown_mem hx).1; have := mat_bound zs k; omega
      by_cases hlt : k < n
      · obtain ⟨g, off, c', he, _, _, hx⟩ := H.out.form (by omega)
        cases he
        obtain ⟨y, hy⟩ : ∃ y, zs[k]? = some y := ⟨zs[k]'(by rw [Hn.out]; omega), by simp⟩
        obtain ⟨hy0, hy1⟩ := Hz.out y (List.mem_of_getElem? hy)
        have hcw : w.cell? ⟨g, off + k, none⟩ = some (.int .u8 y) := hx k _ (by simp [hy])
        have hcv : V.cell? ⟨g, off + k, none⟩ = some (.int .u8 y) := (F1.out.trans' FV.out).cell hcw (fun f => f)
        obtain ⟨f, hf⟩ : ∃ f, mat zs k = f := ⟨_, rfl⟩
        have hfb := mat_bound zs k
        rw [hf] at hfb
        obtain ⟨hfb0, hfb1⟩ := hfb
        obtain ⟨f2, hf2⟩ : ∃ f2, f + y / 8 % 9 = f2 := ⟨_, rfl⟩
        have hf20 : 0 ≤ f2 := by omega
        have hf21 : f2 ≤ 8 * k + 8 := by omega
        have Hmt : Hid (mat zs (k + 1) = f2) := Lib.hid (by rw [mat, hf, hy, ← hf2]; rfl)
        have hgs : mgrown zs (k + 1) = m ++ [(f2, 1 + y % 8)] := by rw [mgrown_succ, hm, Hmt.out, hy]; rfl
        have hrc : mcheck (m ++ [(f2, 1 + y % 8)]) = 0 := by rw [← hgs]; exact mgrown_check zs (k + 1)
        have Had := Lib.hid (madd_ok hrc)
        have hfn := mfind_new hrc (by dsimp only; omega)
        dsimp only at hfn
        rw [hml] at hfn
        have hsn : ∀ p : Int, p < f2 → mfind (m ++ [(f2, 1 + y % 8)]) p = mfind m p := fun p hp => mfind_snoc hmc hrc hp
        obtain ⟨r, hr⟩ : ∃ r, m ++ [(f2, 1 + y % 8)] = r := ⟨_, rfl⟩
        have hrl : r.length = k + 2 := by rw [← hr]; simp [hml]
        rw [hr] at Had hfn hsn hgs
        have Hfn := Lib.hid hfn
        have Hsn := Lib.hid hsn
        have Hgs := Lib.hid hgs
        have Hmc := Lib.hid hmc
        have Hrl := Lib.hid hrl
        have Hml := Lib.hid hml
        rw [hm] at M
        rw [hf]
        clear hx hy hcw hf hfn hsn hgs hmc hrc hr hrl hml hmb hm
        have hadd := m_add (.slice bo (k + 1) bc) m f2 (1 + y % 8) V M.out (by have := Hml.out; omega)
        rw [Had.out] at hadd
        dsimp only at hadd
        rw [Hrl.out] at hadd
        have Hadd := Lib.hid hadd
        clear hadd Had
        go_wp2_with fail
        refine Hadd.out.mono ?_
        clear Hadd
        rintro e w2 ⟨v', rfl, hO⟩
        obtain ⟨ro, rc, rfl, _, _⟩ := hO.cap
        have R : Hid (MpAt w2 (.slice ro (k + 2) rc) r) := Lib.hid (by unfold MpAt; rw [Hrl.out]; exact hO.rd)
        replace M := Lib.hid (M.out.fr hO.fr (fun _ _ _ f => f))
        replace FV := Lib.hid (FV.out.trans' hO.fr)
        clear hO hcv
        have hbb : ((k : Int) + 2 != (k : Int) + 1 + 1) = false := by simp; omega
        go_wp2_with fail
        clear hf2
        go_loopw [8] (fun pv wr => ∃ p : Int, 0 ≤ p ∧ p ≤ f2 ∧ pv = .int .i64 p ∧ Hid (Fr no w2 wr)) (fun pv _ => (f2 - intOf pv).toNat)
        case atStart => exact ⟨0, by omega, by omega, rfl, Lib.hid (Fr.refl _ _)⟩
        case round =>
          obtain ⟨p, hp0, hp1, rfl, FU⟩ := hrel
          generalize wr = U at *
          by_cases hpf : p < f2
          · have M2 := Lib.hid (M.out.fr FU.out (fun _ _ _ f => f))
            have R2 := Lib.hid (R.out.fr FU.out (fun _ _ _ f => f))
            have hc1 := m_find _ m p _ M2.out (by omega) (by have := Hml.out; omega)
            have hc2 := fun (U' : World) (hu : Fr no U U') => m_find _ r p U' (R2.out.fr hu (fun _ _ _ f => f)) (by omega) (by have := Hrl.out; omega)
            rw [Hsn.out p hpf] at hc2
            have he0 := mfind_ok (p := p) Hmc.out hp0
            obtain ⟨ep, st, er, hfi⟩ : ∃ p' q r', mfind m p = (p', q, r') := ⟨_, _, _, rfl⟩
            rw [hfi] at hc1 hc2 he0
            dsimp only at hc1 hc2 he0
            subst he0
            have Hc1 := Lib.hid hc1
            have Hc2 := Lib.hid hc2
            clear hc1 hc2 hfi M2 R2
            go_wp2_with fail
            refine Hc1.out.mono ?_
            rintro e U1 ⟨rfl, hu1⟩
            have HU1 := Lib.hid hu1
            clear hu1
            go_wp2_with fail
            refine (Hc2.out U1 HU1.out).mono ?_
            rintro e U2 ⟨rfl, hu2⟩
            have HU2 := Lib.hid ((FU.out.trans' HU1.out).trans' hu2)
            clear hu2
            go_wp2
            go_roundw
            case rel => exact ⟨p + 1, by omega, by omega, by go_num, HU2⟩
            case measure => simp [intOf]; omega
          · obtain rfl : p = f2 := by omega
            have R2 := Lib.hid (R.out.fr FU.out (fun _ _ _ f => f))
            have hc2 := m_find _ r p _ R2.out (by omega) (by have := Hrl.out; omega)
            rw [Hfn.out] at hc2
            dsimp only at hc2
            have Hc2 := Lib.hid hc2
            clear hc2
            go_wp2_with fail
            refine Hc2.out.mono ?_
            rintro e U2 ⟨rfl, hu2⟩
            have R3 : Hid (MpAt U2 (.slice ro (k + 1 + 1) rc) (mgrown zs (k + 1))) := Lib.hid (by rw [Hgs.out]; exact R2.out.fr hu2 (fun _ _ _ f => f))
            have F3 := Lib.hid ((FV.out.trans' FU.out).trans' hu2)
            clear hu2 R R2 Hc2 FU
            go_wp2
            go_roundw
            case rel => exact ⟨k + 1, ro, rc, by omega, by go_num, by rw [Hmt.out], by go_num, R3, F3⟩
            case measure => simp [intOf]; omega
      · have hkn : k = n := by omega
        subst hkn
        have h64 : Mp64 m := fun x hx => by
          rw [← hm] at hx
          have := mgrown_mem hx
          have := mat_bound zs k
          omega
        have hmt := mtext_parse hmc (fun x hx => by have := hmb x hx; omega)
        have htl := mtext_len h64
        rw [hm] at M
        have ht1 := m_text _ m V M.out (by omega) h64 (HG.out.fr (F1.out.trans' FV.out))
        obtain ⟨t, ht⟩ : ∃ t : ByteArray, ⟨(mtext m).toArray⟩ = t := ⟨_, rfl⟩
        have hts : t.size ≤ 100000 := by rw [← ht]; show (mtext m).toArray.size ≤ _; simp; omega
        have htd : t.data.toList = mtext m := by rw [← ht]
        rw [ht] at ht1
        rw [← htd] at hmt
        have Ht1 := Lib.hid ht1
        have Hmt := Lib.hid hmt
        have Hml := Lib.hid hml
        clear h64 hmt htl ht1 ht htd hmc hmb hm hml
        go_wp2_with fail
        refine Ht1.out.mono ?_
        rintro e w2 ⟨rfl, hfd⟩
        have F2 := Lib.hid ((F1.out.trans' FV.out).trans' hfd)
        clear hfd Ht1
        have hc := m_parse t w2 hts (HG.out.fr F2.out)
        rw [Hmt.out] at hc
        dsimp only at hc
        rw [Hml.out] at hc
        have Hc := Lib.hid hc
        clear hc
        go_wp2_with fail
        refine Hc.out.mono ?_
        rintro e w3 ⟨v', rfl, hO⟩
        obtain ⟨ro, rc, rfl, _, _⟩ := hO.cap
        have F3 := Lib.hid (F2.out.trans' hO.fr)
        clear hO Hc
        go_wp2
        go_ret
        exact ⟨rfl, F3.out⟩
set_option maxRecDepth 100000 in
theorem mapGrows_row {H : Type} {enc : TypeId × Value → H} (v0 : Value) {d0 : DataW H} {p0 : List MemPlace} {base : Nat} (w : World) (hG : Gl w)
    (ok0 : Value.okWide Tryd.prog w .any base 57 v0) (h0 : DataW.Trod enc Tryd.prog w 0 (fun _ => true) true 57 v0 d0 p0) :
    Calls Tryd.prog 6 #[v0] w fun e w' => e = .returned (.bool true) ∧ Below w.heap.size w w' := by
  obtain ⟨zs, ra, wa⟩ := ints_open (k := .u8) Tryd.underlying57 Tryd.underlying5 (by kernel_rfl) ok0 h0
  refine (mapGrows_any v0 zs w hG ra (fun x hx => bounds_u8 (wa x hx))).mono ?_
  rintro e w' ⟨he, hf⟩
  exact ⟨he, hf.below⟩
end Go.Proofs.YtkdcldnbdhfobaaDoor
