/- The walk of DiskKeeps. -/
import Derived.Test.YthlcbhpdbcnmjaaTwinR
namespace Go.XL
open Go.RowKit Go.Shelf
set_option linter.unusedVariables false
/-- a front of a slice -/
theorem Rd.pre {w : World} {ao : Option Addr} {n cap : Nat} {xs : List Value} (h : Rd w 1 (.slice ao n cap) n xs) (m : Nat) (hm : m ≤ n) : Rd w 1 (.slice ao m cap) m (xs.take m) := by
  obtain ⟨hl, ao', cap', he, hn, hmx, hz, hc⟩ := h
  cases he
  refine ⟨by rw [List.length_take]; omega, ao, cap, rfl, by omega, hmx, hz, fun h0 => ?_⟩
  obtain ⟨g, off, rfl, hx⟩ := hc (by omega)
  refine ⟨g, off, rfl, fun j u hj => hx j u ?_⟩
  rw [List.getElem?_take] at hj
  split at hj
  · exact hj
  · cases hj
theorem Rd.nilcap {w : World} {ao : Option Addr} {n cap k : Nat} {xs : List Value} (h : Rd w k (.slice ao n cap) n xs) : ao = none → cap = 0 := by
  obtain ⟨hl, ao', cap', he, hn, hmx, hz, hc⟩ := h
  cases he
  exact hz
theorem run_cutHi {P : Program} (t e : TypeId) (i : TypeInfo) (ht : P.underlying t = some (.slice e)) (hi : P.info? e = some i) (ao : Option Addr) (n cap m : Nat) (h : m ≤ cap) (h2 : ao = none → cap = 0) :
    (∀ w, (Instr.slice t (.slice ao n cap) none (some (.int .i64 m)) none).run P w = .ok (.slice ao m cap) w) := by
  intro w
  cases ao with
  | none =>
    have := h2 rfl
    obtain rfl : m = 0 := by omega
    simp [Instr.slice, run_underlying ht, Instr.sliceBounds, Instr.sliceBound, asIntOf, sizeOf, typeInfo, hi, this]
  | some a =>
    simp [Instr.slice, run_underlying ht, Instr.sliceBounds, Instr.sliceBound, asIntOf, h, sizeOf, typeInfo, hi]
    intro _
    simp [Addr.add]
theorem crashFrom_mono (l : List ByteArray) : ∀ (a b : Int), a ≤ b → crashFrom l a ≤ crashFrom l b := by
  induction l with
  | nil => intro a b _; exact Nat.le_refl _
  | cons s r ih =>
    intro a b h
    unfold crashFrom
    by_cases h1 : (s.size : Int) + 1 ≤ a
    · rw [if_pos h1, if_pos (by omega)]
      have := ih (a - (s.size + 1)) (b - (s.size + 1)) (by omega)
      omega
    · rw [if_neg h1]; omega
theorem crashN_mono (l : List ByteArray) (k : Nat) {a b : Int} (h : a ≤ b) : crashN l k a ≤ crashN l k b := by
  have := crashFrom_mono (l.drop k) a b h
  unfold crashN; omega
theorem plain_write {l : List ByteArray} {s : ByteArray} (h1 : hasNl s = false) (h2 : s.size ≤ 200) (h3 : dUsed l ≤ 5000) : dWriteR 100000 l s = 0 ∧ dWriteL 100000 l s = l ++ [s] := by
  have h : dWriteR 100000 l s = 0 := by rw [dWriteR, h1, if_neg (by decide), if_neg (by omega)]
  exact ⟨h, by rw [dWriteL, h, if_pos rfl]⟩
end Go.XL
namespace Go.Proofs.Ythlcbhpdbcnmjaa
open Go.RowKit Go.Shelf Go.XL
set_option linter.unusedVariables false
set_option linter.unusedSimpArgs false
attribute [local go_sem] Oper.semAt_some

set_option maxRecDepth 100000 in
set_option maxHeartbeats 8000000 in
theorem keeps_any (r a b : Int) (vl : Value) (zs : List ByteArray) (w : World) (hr0 : 0 ≤ r) (hr1 : r ≤ 255) (ha0 : 0 ≤ a) (ha1 : a ≤ 255) (hb0 : 0 ≤ b) (hb1 : b ≤ 255) (hl : Rd w 1 vl zs.length (zs.map Value.string)) (hz : ∀ z ∈ zs, z.size ≤ Go.maxLen) :
    Calls Try.prog 4 #[vl, .int .u8 r, .int .u8 a, .int .u8 b] w fun e w' => e = .returned (.bool true) ∧ Fr no w w' := by
  obtain ⟨ao, cap, rfl, hc1, hm1⟩ := hl.cap
  have Hl := Lib.hid hl
  have Hz := Lib.hid hz
  clear hl hz
  generalize hn : zs.length = n at *
  have Hn := Lib.hid hn
  clear hn
  by_cases h40 : (20 : Int) < n
  · go_enter Try.func4, Try.ntmps4
    go_wp2_with fail
    refine (known_any w).mono ?_
    rintro e w0 ⟨rfl, hf0⟩
    have F0 := Lib.hid hf0
    clear hf0
    go_wp2
    go_ret
    exact ⟨rfl, F0.out⟩
  have hn20 : n ≤ 20 := by omega
  obtain ⟨k, hk⟩ : ∃ k : Nat, r % ((n : Int) + 1) = k := Int.eq_ofNat_of_zero_le (Int.emod_nonneg _ (by omega))
  have hkn : k ≤ n := by have := Int.emod_lt_of_pos r (show (0 : Int) < (n : Int) + 1 by omega); omega
  have hmod : r.tmod ((n : Int) + 1) = k := by rw [Int.tmod_eq_emod_of_nonneg hr0, hk]
  clear hk
  go_enter Try.func4, Try.ntmps4
  go_wp2_with fail
  refine (known_any w).mono ?_
  rintro e w0 ⟨rfl, hf0⟩
  have F0 := Lib.hid hf0
  clear hf0
  go_wp2_with fail
  refine (dNewS 100000 w0 w F0.out (by decide) (by decide)).mono ?_
  rintro e w1 ⟨p, v1, rfl, hN⟩
  have N1 := Lib.hid hN
  clear hN F0
  go_wp2_with fail
  go_loopw [12] (fun iv wr => ∃ (i : Nat) (v : Value), i ≤ n ∧ iv = .int .i64 i ∧ Hid (DkO w wr p v 100000 (zs.take i) (if i < k then 0 else k)) ∧ Hid (dUsed (zs.take i) ≤ 101 * i)) (fun iv _ => n - (intOf iv).toNat)
  case atStart =>
    refine ⟨0, v1, Nat.zero_le _, rfl, ?_, by simp [dUsed, Hid]⟩
    rw [show (if 0 < k then 0 else k) = 0 by split <;> omega]
    exact N1
  case round =>
    obtain ⟨i, v, hi, rfl, hD, hU⟩ := hrel
    generalize wr = W at *
    by_cases hlt : i < n
    · have hx1 : i < zs.length := by rw [Hn.out]; exact hlt
      have hrd := Hl.out.fr hD.out.fr (fun _ _ _ f => f)
      obtain ⟨g0, off0, c0', he, _, _, hx⟩ := hrd.form (by omega)
      cases he
      obtain ⟨s, hzk⟩ : ∃ s, zs[i]? = some s := ⟨zs[i], by simp [hx1]⟩
      have hs1 := Hz.out s (List.mem_of_getElem? hzk)
      unfold Go.maxLen at hs1
      have hcx : W.cell? ⟨g0, off0 + i, none⟩ = some (.string s) := hx i _ (by simp [hzk])
      have htk : zs.take (i + 1) = zs.take i ++ [s] := by rw [List.take_add_one, hzk]; simp
      have Htk := Lib.hid htk
      clear hrd hx hx1 htk hzk
      by_cases hs100 : s.size ≤ 100
      · have hs100' : (s.size : Int) ≤ 100 := by omega
        obtain ⟨m, hm⟩ : ∃ m : Nat, s.size = m := ⟨_, rfl⟩
        have hm' : (s.size : Int) = m := by omega
        go_wp2
        go_loopw [13] (fun cv wq => ∃ c : Nat, c ≤ s.size ∧ cv = .int .i64 c ∧ W = wq ∧ Hid (∀ j : Nat, j < c → s.data.toList[j]? ≠ some 10)) (fun cv _ => s.size - (intOf cv).toNat)
        case atStart => exact ⟨0, Nat.zero_le _, rfl, rfl, Lib.hid (fun j h => by omega)⟩
        case round =>
          obtain ⟨c, hc, rfl, rfl, hC⟩ := hrel
          by_cases hcs : c < s.size
          · have hgc : s.data.toList[c]? = some (s[c]'hcs) := by
              rw [Array.getElem?_toList]
              exact Array.getElem?_eq_getElem hcs
            by_cases h10 : (s[c]'hcs) = 10
            · have hq : (((s[c]'hcs).toNat : Int) == 10) = true := by rw [h10]; rfl
              have F1 := Lib.hid hD.out.fr
              clear hD hU hC hgc
              go_wp2
              go_ret
              exact ⟨rfl, F1.out⟩
            · have hq : (((s[c]'hcs).toNat : Int) == 10) = false := by
                rw [beq_eq_false_iff_ne]
                intro h
                refine h10 (UInt8.toNat_inj.1 ?_)
                have h2 : (s[c]'hcs).toNat = 10 := by omega
                rw [h2]; rfl
              have hC2 : Hid (∀ j : Nat, j < c + 1 → s.data.toList[j]? ≠ some 10) := Lib.hid (fun j hj => by
                rcases Nat.lt_succ_iff_lt_or_eq.1 hj with h | rfl
                · exact hC.out j h
                · rw [hgc]; intro e; exact h10 (Option.some.inj e))
              clear hgc hC
              go_wp2
              go_roundw
              case rel => exact ⟨c + 1, by omega, by go_num, trivial, hC2⟩
              case measure => simp [intOf]; omega
          · obtain rfl : c = s.size := by omega
            have hnl : hasNl s = false := hasNl_none (fun j h => by
              by_cases hj : j < s.size
              · exact hC.out j hj h
              · rw [List.getElem?_eq_none (by rw [Array.length_toList]; exact Nat.le_of_not_lt hj)] at h; cases h)
            obtain ⟨hw1, hw2⟩ := plain_write (l := zs.take i) hnl (by omega) (by have := hU.out; omega)
            rw [← Htk.out] at hw2
            have hlk : (zs.take (i + 1)).length = i + 1 := by rw [List.length_take, Hn.out]; omega
            have hU2 : Hid (dUsed (zs.take (i + 1)) ≤ 101 * (i + 1)) := Lib.hid (by rw [Htk.out, dUsed_append]; have := hU.out; simp only [dUsed]; omega)
            have Hw1 := Lib.hid hw1
            have Hw2 := Lib.hid hw2
            have Hlk := Lib.hid hlk
            clear hw1 hw2 hlk hC hU hnl
            go_wp2_with fail
            refine (dWriteS s (by omega) hD.out.st).mono ?_
            rw [Hw1.out, Hw2.out]
            rintro e w3 ⟨rfl, v3, hS⟩
            have N3 := Lib.hid (hD.out.step hS)
            clear hS hD hcx
            by_cases hik : i + 1 = k
            · have hik' : (i : Int) + 1 = k := by omega
              rw [if_pos (by omega)] at N3
              go_wp2_with fail
              refine (dSyncS N3.out.st).mono ?_
              rw [Hlk.out, hik]
              rintro e w4 ⟨x4, rfl, hS⟩
              have N4 := Lib.hid (N3.out.step hS)
              clear hS N3
              have N5 : Hid (DkO w w4 p v3 100000 (zs.take (i + 1)) (if i + 1 < k then 0 else k)) := by rw [if_neg (by omega)]; exact hik ▸ N4
              clear N4
              go_wp2
              go_roundw
              case rel => exact ⟨i + 1, v3, by omega, by go_num, N5, hU2⟩
              case measure => simp [intOf]; omega
            · have hik' : ¬ (i : Int) + 1 = k := by omega
              have N5 : Hid (DkO w w3 p v3 100000 (zs.take (i + 1)) (if i + 1 < k then 0 else k)) := by
                have e : (if i + 1 < k then 0 else k) = if i < k then 0 else k := by
                  by_cases h : i < k
                  · rw [if_pos h, if_pos (by omega)]
                  · rw [if_neg h, if_neg (by omega)]
                rw [e]; exact N3
              clear N3
              go_wp2
              go_roundw
              case rel => exact ⟨i + 1, v3, by omega, by go_num, N5, hU2⟩
              case measure => simp [intOf]; omega
      · have hs100' : ¬ (s.size : Int) ≤ 100 := by omega
        have F1 := Lib.hid hD.out.fr
        clear hD hU
        go_wp2
        go_ret
        exact ⟨rfl, F1.out⟩
    · obtain rfl : i = n := by omega
      rw [if_neg (by omega), List.take_of_length_le (by rw [Hn.out]; exact Nat.le_refl _)] at hD
      have hm1 : crashN zs k a ≤ crashN zs k (a + b) := crashN_mono zs k (by omega)
      have hm2 : crashN zs k (a + b) ≤ i := by have := crashN_le (a + b) hD.out.st.lasts; rw [Hn.out] at this; exact this
      have hm0 : k ≤ crashN zs k a := by unfold crashN; omega
      obtain ⟨A, hA⟩ : ∃ A, crashN zs k a = A := ⟨_, rfl⟩
      obtain ⟨B, hB⟩ : ∃ B, crashN zs k (a + b) = B := ⟨_, rfl⟩
      rw [hA, hB] at hm1
      rw [hB] at hm2
      rw [hA] at hm0
      have hLA : (zs.take A).length = A := by rw [List.length_take, Hn.out]; omega
      have hLB : (zs.take B).length = B := by rw [List.length_take, Hn.out]; omega
      have HA := Lib.hid hA
      have HB := Lib.hid hB
      have HLA := Lib.hid hLA
      have HLB := Lib.hid hLB
      have RA := Lib.hid (Hl.out.pre A (by omega))
      have RB := Lib.hid (Hl.out.pre B (by omega))
      rw [← List.map_take] at RA RB
      obtain ⟨i0, hi0, hz0', hz1', hz2'⟩ := info_parts (show (Try.prog.info? 9).map (fun i => (i.zero, i.size, i.bytes)) = some (some (.string ByteArray.empty), 1, 16) by kernel_rfl)
      have qA := run_cutHi (P := Try.prog) 40 9 i0 Try.underlying40 hi0 ao i cap A (by omega) Hl.out.nilcap
      have qB := run_cutHi (P := Try.prog) 40 9 i0 Try.underlying40 hi0 ao i cap B (by omega) Hl.out.nilcap
      clear hA hB hLA hLB hU hmod hi0 hz0' hz1' hz2'
      go_wp2_with fail
      refine (dTwin hD.out.st).mono ?_
      rintro e w2 ⟨q, u, rfl, hS, hf, ho⟩
      have N2 : Hid (DkD w w2 p v 100000 zs k q u 100000 zs k) := Lib.hid (hD.out.two hS hf ho)
      clear hS hf ho hD
      go_wp2_with fail
      refine (dCrashS a (by omega) N2.out.one.st).mono ?_
      rw [HA.out]
      rintro e w3 ⟨x3, v3, rfl, hS⟩
      have N3 := Lib.hid (N2.out.step hS)
      clear hS N2
      go_wp2_with fail
      refine (dCrashS (a + b) (by omega) N3.out.two.st).mono ?_
      rw [HB.out]
      rintro e w4 ⟨x4, u4, rfl, hS⟩
      have N4 := Lib.hid (N3.out.step2 hS)
      clear hS N3
      go_wp2_with fail
      refine (dLinesW N4.out.one.st).mono ?_
      rintro e w6 ⟨c, rfl, hf, hc, _⟩
      have N6 := Lib.hid (N4.out.fr0 hf)
      have C6 := Lib.hid hc
      clear hf hc N4
      go_wp2_with fail
      refine (law_linesD N6.out.one.st C6.out 30 A HLA.out (by omega) (by decide)).mono ?_
      rintro e w7 ⟨ao7, ac7, rfl, hrd, hf, hfs⟩
      have A7 := Lib.hid hrd
      have N7 := Lib.hid (N6.out.fr0 hf)
      clear hf hrd hfs C6 N6
      go_wp2_with fail
      refine (dLinesW N7.out.two.st).mono ?_
      rintro e w8 ⟨c, rfl, hf, hc, _⟩
      have N8 := Lib.hid (N7.out.fr0 hf)
      have A8 := Lib.hid (A7.out.fr hf (fun _ _ _ f => f))
      have C8 := Lib.hid hc
      clear hf hc N7 A7
      go_wp2_with fail
      refine (law_linesD N8.out.two.st C8.out 30 B HLB.out (by omega) (by decide)).mono ?_
      rintro e w9 ⟨ao9, ac9, rfl, hrd, hf, hfs⟩
      have B9 := Lib.hid hrd
      have A9 := Lib.hid (A8.out.fr hf (fun _ _ _ f => f))
      have N9 := Lib.hid (N8.out.fr0 hf)
      clear hf hrd hfs C8 N8 A8
      have c1 : ¬ (A : Int) < k := by omega
      have c2 : ¬ (B : Int) < A := by omega
      have c3 : ¬ (i : Int) < B := by omega
      go_wp2_with fail
      refine (dWaits N9.out.one.st).mono ?_
      rw [HLA.out, Nat.sub_self]
      rintro e w10 ⟨rfl, hf⟩
      have A10 := Lib.hid (A9.out.fr hf (fun _ _ _ f => f))
      have B10 := Lib.hid (B9.out.fr hf (fun _ _ _ f => f))
      have F10 := Lib.hid (N9.out.fr0 hf).one.fr
      clear hf A9 B9 N9
      go_wp2_with fail
      refine (law_same _ _ (zs.take A) (zs.take A) w10 (by rw [HLA.out]; exact A10.out) (by rw [HLA.out]; exact RA.out.fr F10.out (fun _ _ _ f => f))).mono ?_
      rw [decide_eq_true (rfl : zs.take A = zs.take A)]
      rintro e w11 ⟨rfl, hf⟩
      have B11 := Lib.hid (B10.out.fr hf (fun _ _ _ f => f))
      have F11 := Lib.hid (F10.out.trans' hf)
      clear hf A10 B10 F10
      go_wp2_with fail
      refine (law_same _ _ (zs.take B) (zs.take B) w11 (by rw [HLB.out]; exact B11.out) (by rw [HLB.out]; exact RB.out.fr F11.out (fun _ _ _ f => f))).mono ?_
      rw [decide_eq_true (rfl : zs.take B = zs.take B)]
      rintro e w12 ⟨rfl, hf⟩
      have F12 := Lib.hid (F11.out.trans' hf)
      clear hf B11 F11
      go_wp2
      go_ret
      exact ⟨rfl, F12.out⟩
end Go.Proofs.Ythlcbhpdbcnmjaa
