/- The walk of DiskCuts. -/
import Derived.Test.YthlcbhpdbcnmjaaKeepR
namespace Go.XL
open Go.RowKit Go.Shelf
set_option linter.unusedVariables false
/-- the lines that go in -/
def cuL (l : List ByteArray) : List ByteArray := l.filter (fun s => !hasNl s)
theorem cuL_used (l : List ByteArray) (h : ∀ s ∈ l, s.size ≤ 200) : dUsed (cuL l) ≤ 201 * l.length := by
  induction l with
  | nil => simp [cuL, dUsed]
  | cons s r ih =>
    have h1 := ih (fun s hs => h s (by simp [hs]))
    have h2 := h s (by simp)
    unfold cuL at *
    rw [List.filter_cons]
    split
    · simp only [dUsed, List.length_cons]; omega
    · simp only [List.length_cons]; omega
theorem cuL_snoc (l : List ByteArray) (s : ByteArray) : cuL (l ++ [s]) = if hasNl s = true then cuL l else cuL l ++ [s] := by
  unfold cuL
  rw [List.filter_append]
  cases h : hasNl s <;> simp [h]
theorem cu_write {l : List ByteArray} {s : ByteArray} (h2 : s.size ≤ 200) (h3 : dUsed l ≤ 5000) : (hasNl s = true → dWriteR 100000 l s = 2 ∧ dWriteL 100000 l s = l) ∧ (hasNl s = false → dWriteR 100000 l s = 0 ∧ dWriteL 100000 l s = l ++ [s]) := by
  refine ⟨fun h => ?_, fun h => plain_write h h2 h3⟩
  have h1 : dWriteR 100000 l s = 2 := by rw [dWriteR, if_pos h]
  exact ⟨h1, by rw [dWriteL, h1, if_neg (by decide)]⟩
/-- what the first Cut tells: nothing is cut -/
theorem cu_first (l : List ByteArray) (k : Int) : dCutL l 0 k = l ∧ dCutN l 0 k = 0 := by
  unfold dCutL dCutN
  by_cases h : k < 0 ∨ (l.length : Int) < k
  · rw [if_pos h, if_neg (by decide), if_neg (by decide)]; exact ⟨rfl, rfl⟩
  · rw [if_neg h]
    by_cases h2 : 0 < l.length
    · rw [if_pos h2, if_neg (by decide), if_neg (by decide)]; exact ⟨rfl, rfl⟩
    · rw [if_neg h2, if_pos rfl, if_pos rfl]
      obtain rfl := List.eq_nil_of_length_eq_zero (by omega : l.length = 0)
      exact ⟨by simp, by simp at h; omega⟩
end Go.XL
namespace Go.Proofs.Ythlcbhpdbcnmjaa
open Go.RowKit Go.Shelf Go.XL
set_option linter.unusedVariables false
set_option linter.unusedSimpArgs false
attribute [local go_sem] Oper.semAt_some

set_option maxRecDepth 100000 in
set_option maxHeartbeats 8000000 in
theorem cuts_any (k : Int) (vl : Value) (zs : List ByteArray) (w : World) (hk0 : -9223372036854775808 ≤ k) (hk1 : k ≤ 9223372036854775807) (hl : Rd w 1 vl zs.length (zs.map Value.string)) (hz : ∀ z ∈ zs, z.size ≤ Go.maxLen) :
    Calls Try.prog 6 #[vl, .int .i64 k] w fun e w' => e = .returned (.bool true) ∧ Fr no w w' := by
  obtain ⟨ao, cap, rfl, hc1, hm1⟩ := hl.cap
  have Hl := Lib.hid hl
  have Hz := Lib.hid hz
  clear hl hz
  generalize hn : zs.length = n at *
  have Hn := Lib.hid hn
  clear hn
  by_cases h40 : (20 : Int) < n
  · go_enter Try.func6, Try.ntmps6
    go_wp2_with fail
    refine (known_any w).mono ?_
    rintro e w0 ⟨rfl, hf0⟩
    have F0 := Lib.hid hf0
    clear hf0
    go_wp2
    go_ret
    exact ⟨rfl, F0.out⟩
  have hn20 : n ≤ 20 := by omega
  go_enter Try.func6, Try.ntmps6
  go_wp2_with fail
  refine (known_any w).mono ?_
  rintro e w0 ⟨rfl, hf0⟩
  have F0 := Lib.hid hf0
  clear hf0
  go_wp2_with fail
  refine (dNewS 100000 w0 w F0.out (by decide) (by decide)).mono ?_
  rintro e w1 ⟨p, v1, rfl, hN⟩
  have N1 := Lib.hid hN
  clear hN F0
  go_wp2_with fail
  go_loopw [7, 8] (fun cv iv wr => ∃ (i : Nat) (v : Value), i ≤ n ∧ iv = .int .i64 i ∧ cv = .int .i64 ((cuL (zs.take i)).length : Nat) ∧ Hid (DkO w wr p v 100000 (cuL (zs.take i)) 0) ∧ Hid (∀ s ∈ zs.take i, s.size ≤ 200)) (fun _ iv _ => n - (intOf iv).toNat)
  case atStart => exact ⟨0, v1, Nat.zero_le _, rfl, rfl, N1, by simp [Hid]⟩
  case round =>
    obtain ⟨i, v, hi, rfl, rfl, hD, hU⟩ := hrel
    generalize wr = W at *
    by_cases hlt : i < n
    · have hx1 : i < zs.length := by rw [Hn.out]; exact hlt
      have hrd := Hl.out.fr hD.out.fr (fun _ _ _ f => f)
      obtain ⟨g0, off0, c0', he, _, _, hx⟩ := hrd.form (by omega)
      cases he
      obtain ⟨s, hzk⟩ : ∃ s, zs[i]? = some s := ⟨zs[i], by simp [hx1]⟩
      have hs1 := Hz.out s (List.mem_of_getElem? hzk)
      unfold Go.maxLen at hs1
      have hcx : W.cell? ⟨g0, off0 + i, none⟩ = some (.string s) := hx i _ (by simp [hzk])
      have htk : zs.take (i + 1) = zs.take i ++ [s] := by rw [List.take_add_one, hzk]; simp
      have Htk := Lib.hid htk
      clear hrd hx hx1 htk hzk
      by_cases hs200 : s.size ≤ 200
      · have hs200' : (s.size : Int) ≤ 200 := by omega
        have hli : (zs.take i).length ≤ 20 := by rw [List.length_take]; omega
        have hcu := cuL_used (zs.take i) hU.out
        obtain ⟨hw1, hw2⟩ := cu_write (l := cuL (zs.take i)) hs200 (by omega)
        have hU2 : Hid (∀ s ∈ zs.take (i + 1), s.size ≤ 200) := Lib.hid (fun x hx => by
          rw [Htk.out] at hx
          rcases List.mem_append.1 hx with h | h
          · exact hU.out x h
          · simp at h; subst h; exact hs200)
        have hsn := cuL_snoc (zs.take i) s
        rw [← Htk.out] at hsn
        have hlc : (cuL (zs.take i)).length ≤ 20 := Nat.le_trans (List.length_filter_le _ _) hli
        have Hw1 := Lib.hid hw1
        have Hw2 := Lib.hid hw2
        have Hsn := Lib.hid hsn
        clear hw1 hw2 hU hsn hcu
        cases hb : hasNl s
        · have hsn : cuL (zs.take (i + 1)) = cuL (zs.take i) ++ [s] := by rw [Hsn.out, hb]; rfl
          have hlc2 : (cuL (zs.take (i + 1))).length = (cuL (zs.take i)).length + 1 := by rw [hsn]; simp
          obtain ⟨e1, e2⟩ := Hw2.out hb
          rw [← hsn] at e2
          have E1 := Lib.hid e1
          have E2 := Lib.hid e2
          have HLC := Lib.hid hlc2
          clear hb hsn hlc2 e1 e2 Hw1 Hw2 Hsn
          generalize hC : (cuL (zs.take i)).length = C at *
          go_wp2_with fail
          refine (dWriteS s (by omega) hD.out.st).mono ?_
          rw [E1.out, E2.out]
          rintro e w3 ⟨rfl, v3, hS⟩
          have N3 := Lib.hid (hD.out.step hS)
          clear hS hD hC
          go_wp2
          go_roundw
          case rel => exact ⟨i + 1, v3, by omega, by go_num, by rw [HLC.out]; go_num, N3, hU2⟩
          case measure => simp [intOf]; omega
        · have hsn : cuL (zs.take (i + 1)) = cuL (zs.take i) := by rw [Hsn.out, hb]; rfl
          obtain ⟨e1, e2⟩ := Hw1.out hb
          have E1 := Lib.hid e1
          have E2 := Lib.hid e2
          have HSN := Lib.hid hsn
          clear hb hsn e1 e2 Hw1 Hw2 Hsn
          go_wp2_with fail
          refine (dWriteS s (by omega) hD.out.st).mono ?_
          rw [E1.out, E2.out]
          rintro e w3 ⟨rfl, v3, hS⟩
          have N3 : Hid (DkO w w3 p v3 100000 (cuL (zs.take (i + 1))) 0) := by rw [HSN.out]; exact Lib.hid (hD.out.step hS)
          clear hS hD
          go_wp2
          go_roundw
          case rel => exact ⟨i + 1, v3, by omega, by go_num, by rw [HSN.out], N3, hU2⟩
          case measure => simp [intOf]; omega
      · have hs200' : ¬ (s.size : Int) ≤ 200 := by omega
        have F1 := Lib.hid hD.out.fr
        clear hD hU
        go_wp2
        go_ret
        exact ⟨rfl, F1.out⟩
    · obtain rfl : i = n := by omega
      rw [List.take_of_length_le (by rw [Hn.out]; exact Nat.le_refl _)] at hD hU ⊢
      have hlc : (cuL zs).length ≤ 20 := Nat.le_trans (List.length_filter_le _ _) (by rw [Hn.out]; exact hn20)
      generalize cuL zs = L at *
      generalize hC : L.length = c at *
      have HC := Lib.hid hC
      clear hC hU
      go_wp2_with fail
      refine (dLinesW hD.out.st).mono ?_
      rintro e w3 ⟨d0, rfl, hf, hc, _⟩
      have N3 := Lib.hid (hD.out.fr0 hf)
      have C3 := Lib.hid hc
      clear hf hc hD
      go_wp2_with fail
      refine (law_linesD N3.out.st C3.out 30 c HC.out (by omega) (by decide)).mono ?_
      rintro e w4 ⟨ao4, ac4, rfl, hrd, hf, hfs⟩
      obtain ⟨_, _, hee, hac4, hac5⟩ := hrd.cap
      cases hee
      have A4 := Lib.hid (hrd.fresh N3.out.st.lt hfs)
      have N4 := Lib.hid (N3.out.fr0 hf)
      clear hf hrd hfs C3 N3
      go_wp2_with fail
      refine (dCutS k N4.out.st).mono ?_
      rw [(cu_first L k).1, (cu_first L k).2]
      obtain ⟨r1, hr1⟩ : ∃ r1, dCutR L 0 k = r1 := ⟨_, rfl⟩
      rw [hr1]
      rintro e w5 ⟨rfl, v5, hS⟩
      have N5 := Lib.hid (N4.out.step hS)
      have A5 := Lib.hid (A4.out.dstep hS)
      clear hS N4 A4
      rw [dCutR, HC.out] at hr1
      by_cases hk2 : k < 0
      · rw [if_pos (.inl hk2)] at hr1
        subst hr1
        have R2 : Hid (dCutR L c k = 1) := Lib.hid (by rw [dCutR, if_pos (.inl hk2)])
        have L2 : Hid (dCutL L c k = L) := Lib.hid (if_neg (by rw [show (if k < 0 ∨ (L.length : Int) < k then (1 : Int) else if c < L.length then 12 else 0) = 1 from R2.out]; decide))
        go_wp2_with fail
        refine (dSyncS N5.out.st).mono ?_
        rw [HC.out]
        rintro e w6 ⟨x6, rfl, hS⟩
        have N6 := Lib.hid (N5.out.step hS)
        clear hS N5 A5
        go_wp2_with fail
        refine (dCutS k N6.out.st).mono ?_
        rw [R2.out, L2.out]
        rintro e w7 ⟨rfl, v7, hS⟩
        have N7 := Lib.hid (N6.out.step hS)
        clear hS N6
        go_wp2_with fail
        refine (dLen N7.out.st).mono ?_
        rw [HC.out]
        rintro e w' ⟨rfl, rfl⟩
        have F7 := Lib.hid N7.out.fr
        clear N7
        go_wp2
        go_ret
        exact ⟨rfl, F7.out⟩
      by_cases hk3 : (c : Int) < k
      · rw [if_pos (.inr hk3)] at hr1
        subst hr1
        have R2 : Hid (dCutR L c k = 1) := Lib.hid (by rw [dCutR, HC.out, if_pos (.inr hk3)])
        have L2 : Hid (dCutL L c k = L) := Lib.hid (if_neg (by rw [show (if k < 0 ∨ (L.length : Int) < k then (1 : Int) else if c < L.length then 12 else 0) = 1 from R2.out]; decide))
        go_wp2_with fail
        refine (dSyncS N5.out.st).mono ?_
        rw [HC.out]
        rintro e w6 ⟨x6, rfl, hS⟩
        have N6 := Lib.hid (N5.out.step hS)
        clear hS N5 A5
        go_wp2_with fail
        refine (dCutS k N6.out.st).mono ?_
        rw [R2.out, L2.out]
        rintro e w7 ⟨rfl, v7, hS⟩
        have N7 := Lib.hid (N6.out.step hS)
        clear hS N6
        go_wp2_with fail
        refine (dLen N7.out.st).mono ?_
        rw [HC.out]
        rintro e w' ⟨rfl, rfl⟩
        have F7 := Lib.hid N7.out.fr
        clear N7
        go_wp2
        go_ret
        exact ⟨rfl, F7.out⟩
      rw [if_neg (by omega)] at hr1
      by_cases hc0 : 0 < c
      · rw [if_pos hc0] at hr1
        subst hr1
        have hc0' : (0 : Int) < c := by omega
        obtain ⟨m, rfl⟩ := Int.eq_ofNat_of_zero_le (by omega : 0 ≤ k)
        have hmc : m ≤ c := by omega
        have R2 : Hid (dCutR L c m = 0) := Lib.hid (by rw [dCutR, HC.out, if_neg (by omega), if_neg (by omega)])
        have L2 : Hid (dCutL L c m = L.take m) := Lib.hid ((if_pos R2.out).trans (by simp))
        have M2 : Hid (dCutN L c m = m) := Lib.hid ((if_pos R2.out).trans (by simp))
        have HLT : Hid ((L.take m).length = m) := Lib.hid (by rw [List.length_take, HC.out]; omega)
        obtain ⟨LT, hLT⟩ : ∃ LT, L.take m = LT := ⟨_, rfl⟩
        have HTT := Lib.hid hLT
        rw [hLT] at L2 HLT
        clear hLT
        obtain ⟨i0, hi0, hz0', hz1', hz2'⟩ := info_parts (show (Try.prog.info? 9).map (fun i => (i.zero, i.size, i.bytes)) = some (some (.string ByteArray.empty), 1, 16) by kernel_rfl)
        have qA := run_cutHi (P := Try.prog) 40 9 i0 Try.underlying40 hi0 ao4 c ac4 m (by omega) A5.out.rd.nilcap
        clear hi0 hz0' hz1' hz2'
        go_wp2_with fail
        refine (dSyncS N5.out.st).mono ?_
        rw [HC.out]
        rintro e w6 ⟨x6, rfl, hS⟩
        have N6 := Lib.hid (N5.out.step hS)
        have A6 := Lib.hid (A5.out.dstep hS)
        clear hS N5 A5
        go_wp2_with fail
        refine (dCutS m N6.out.st).mono ?_
        rw [R2.out, L2.out, M2.out]
        rintro e w7 ⟨rfl, v7, hS⟩
        have N7 := Lib.hid (N6.out.step hS)
        have A7 := Lib.hid (A6.out.dstep hS)
        clear hS N6 A6
        go_wp2_with fail
        refine (dLinesW N7.out.st).mono ?_
        rintro e w8 ⟨d, rfl, hf, hc, _⟩
        have N8 := Lib.hid (N7.out.fr0 hf)
        have A8 := Lib.hid (A7.out.fr0 hf)
        have C8 := Lib.hid hc
        clear hf hc N7 A7
        go_wp2_with fail
        refine (law_linesD N8.out.st C8.out 30 m HLT.out (by omega) (by decide)).mono ?_
        rintro e w9 ⟨xo, xc, rfl, hrd, hf, hfs⟩
        have X9 := Lib.hid (hrd.fresh N8.out.st.lt hfs)
        have A9 := Lib.hid (A8.out.fr0 hf)
        have N9 := Lib.hid (N8.out.fr0 hf)
        clear hf hrd hfs C8 N8 A8
        go_wp2_with fail
        refine (dCrashS 0 (by decide) N9.out.st).mono ?_
        rw [crash_zero, List.take_of_length_le (by rw [HLT.out]; exact Nat.le_refl _)]
        rintro e w10 ⟨x10, v10, rfl, hS⟩
        have N10 := Lib.hid (N9.out.step hS)
        have A10 := Lib.hid (A9.out.dstep hS)
        have X10 := Lib.hid (X9.out.dstep hS)
        clear hS N9 A9 X9
        go_wp2_with fail
        refine (dLinesW N10.out.st).mono ?_
        rintro e w11 ⟨d2, rfl, hf, hc, _⟩
        have N11 := Lib.hid (N10.out.fr0 hf)
        have A11 := Lib.hid (A10.out.fr0 hf)
        have X11 := Lib.hid (X10.out.fr0 hf)
        have C11 := Lib.hid hc
        clear hf hc N10 A10 X10
        go_wp2_with fail
        refine (law_linesD N11.out.st C11.out 30 m HLT.out (by omega) (by decide)).mono ?_
        rintro e w12 ⟨yo, yc, rfl, hrd, hf, hfs⟩
        have Y12 := Lib.hid hrd
        have A12 := Lib.hid (A11.out.fr0 hf)
        have X12 := Lib.hid (X11.out.fr0 hf)
        have F12 := Lib.hid (N11.out.fr0 hf).fr
        clear hf hrd hfs C11 N11 A11 X11
        go_wp2_with fail
        refine (law_same _ _ LT LT w12 (by rw [HLT.out]; exact X12.out.rd) (by rw [HLT.out]; have := A12.out.rd.pre m hmc; rw [← List.map_take, HTT.out] at this; exact this)).mono ?_
        rw [decide_eq_true (rfl : LT = LT)]
        rintro e w13 ⟨rfl, hf⟩
        have Y13 := Lib.hid (Y12.out.fr hf (fun _ _ _ f => f))
        have X13 := Lib.hid (X12.out.fr0 hf)
        have F13 := Lib.hid (F12.out.trans' hf)
        clear hf A12 X12 Y12 F12
        go_wp2_with fail
        refine (law_same _ _ LT LT w13 (by rw [HLT.out]; exact Y13.out) (by rw [HLT.out]; exact X13.out.rd)).mono ?_
        rw [decide_eq_true (rfl : LT = LT)]
        rintro e w14 ⟨rfl, hf⟩
        have F14 := Lib.hid (F13.out.trans' hf)
        clear hf X13 Y13 F13
        go_wp2
        go_ret
        exact ⟨rfl, F14.out⟩
      · rw [if_neg hc0] at hr1
        subst hr1
        have hc0' : ¬ (0 : Int) < c := by omega
        obtain ⟨m, rfl⟩ := Int.eq_ofNat_of_zero_le (by omega : 0 ≤ k)
        have hmc : m ≤ c := by omega
        have R2 : Hid (dCutR L c m = 0) := Lib.hid (by rw [dCutR, HC.out, if_neg (by omega), if_neg (by omega)])
        have L2 : Hid (dCutL L c m = L.take m) := Lib.hid ((if_pos R2.out).trans (by simp))
        have M2 : Hid (dCutN L c m = m) := Lib.hid ((if_pos R2.out).trans (by simp))
        have HLT : Hid ((L.take m).length = m) := Lib.hid (by rw [List.length_take, HC.out]; omega)
        obtain ⟨LT, hLT⟩ : ∃ LT, L.take m = LT := ⟨_, rfl⟩
        have HTT := Lib.hid hLT
        rw [hLT] at L2 HLT
        clear hLT
        obtain ⟨i0, hi0, hz0', hz1', hz2'⟩ := info_parts (show (Try.prog.info? 9).map (fun i => (i.zero, i.size, i.bytes)) = some (some (.string ByteArray.empty), 1, 16) by kernel_rfl)
        have qA := run_cutHi (P := Try.prog) 40 9 i0 Try.underlying40 hi0 ao4 c ac4 m (by omega) A5.out.rd.nilcap
        clear hi0 hz0' hz1' hz2'
        go_wp2_with fail
        refine (dSyncS N5.out.st).mono ?_
        rw [HC.out]
        rintro e w6 ⟨x6, rfl, hS⟩
        have N6 := Lib.hid (N5.out.step hS)
        have A6 := Lib.hid (A5.out.dstep hS)
        clear hS N5 A5
        go_wp2_with fail
        refine (dCutS m N6.out.st).mono ?_
        rw [R2.out, L2.out, M2.out]
        rintro e w7 ⟨rfl, v7, hS⟩
        have N7 := Lib.hid (N6.out.step hS)
        have A7 := Lib.hid (A6.out.dstep hS)
        clear hS N6 A6
        go_wp2_with fail
        refine (dLinesW N7.out.st).mono ?_
        rintro e w8 ⟨d, rfl, hf, hc, _⟩
        have N8 := Lib.hid (N7.out.fr0 hf)
        have A8 := Lib.hid (A7.out.fr0 hf)
        have C8 := Lib.hid hc
        clear hf hc N7 A7
        go_wp2_with fail
        refine (law_linesD N8.out.st C8.out 30 m HLT.out (by omega) (by decide)).mono ?_
        rintro e w9 ⟨xo, xc, rfl, hrd, hf, hfs⟩
        have X9 := Lib.hid (hrd.fresh N8.out.st.lt hfs)
        have A9 := Lib.hid (A8.out.fr0 hf)
        have N9 := Lib.hid (N8.out.fr0 hf)
        clear hf hrd hfs C8 N8 A8
        go_wp2_with fail
        refine (dCrashS 0 (by decide) N9.out.st).mono ?_
        rw [crash_zero, List.take_of_length_le (by rw [HLT.out]; exact Nat.le_refl _)]
        rintro e w10 ⟨x10, v10, rfl, hS⟩
        have N10 := Lib.hid (N9.out.step hS)
        have A10 := Lib.hid (A9.out.dstep hS)
        have X10 := Lib.hid (X9.out.dstep hS)
        clear hS N9 A9 X9
        go_wp2_with fail
        refine (dLinesW N10.out.st).mono ?_
        rintro e w11 ⟨d2, rfl, hf, hc, _⟩
        have N11 := Lib.hid (N10.out.fr0 hf)
        have A11 := Lib.hid (A10.out.fr0 hf)
        have X11 := Lib.hid (X10.out.fr0 hf)
        have C11 := Lib.hid hc
        clear hf hc N10 A10 X10
        go_wp2_with fail
        refine (law_linesD N11.out.st C11.out 30 m HLT.out (by omega) (by decide)).mono ?_
        rintro e w12 ⟨yo, yc, rfl, hrd, hf, hfs⟩
        have Y12 := Lib.hid hrd
        have A12 := Lib.hid (A11.out.fr0 hf)
        have X12 := Lib.hid (X11.out.fr0 hf)
        have F12 := Lib.hid (N11.out.fr0 hf).fr
        clear hf hrd hfs C11 N11 A11 X11
        go_wp2_with fail
        refine (law_same _ _ LT LT w12 (by rw [HLT.out]; exact X12.out.rd) (by rw [HLT.out]; have := A12.out.rd.pre m hmc; rw [← List.map_take, HTT.out] at this; exact this)).mono ?_
        rw [decide_eq_true (rfl : LT = LT)]
        rintro e w13 ⟨rfl, hf⟩
        have Y13 := Lib.hid (Y12.out.fr hf (fun _ _ _ f => f))
        have X13 := Lib.hid (X12.out.fr0 hf)
        have F13 := Lib.hid (F12.out.trans' hf)
        clear hf A12 X12 Y12 F12
        go_wp2_with fail
        refine (law_same _ _ LT LT w13 (by rw [HLT.out]; exact Y13.out) (by rw [HLT.out]; exact X13.out.rd)).mono ?_
        rw [decide_eq_true (rfl : LT = LT)]
        rintro e w14 ⟨rfl, hf⟩
        have F14 := Lib.hid (F13.out.trans' hf)
        clear hf X13 Y13 F13
        go_wp2
        go_ret
        exact ⟨rfl, F14.out⟩
end Go.Proofs.Ythlcbhpdbcnmjaa
