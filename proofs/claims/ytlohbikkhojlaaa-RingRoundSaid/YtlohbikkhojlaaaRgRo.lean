/- RingRound, walked. -/
import Derived.Test.YtlohbikkhojlaaaRgR
import Derived.IntWalk
namespace Go.XL
open Go.RowKit Go.Shelf
set_option linter.unusedVariables false
set_option linter.unusedSimpArgs false
theorem slCells_pos : ∀ (l : List (Int × Dr)) (k : Nat) (x : Int × Dr), l[k]? = some x → (slCells l)[k * 7]? = some (.int .i64 x.1)
  | [], _, _, h => by simp at h
  | y :: r, 0, x, h => by simp at h; subst h; simp [slCells]
  | y :: r, k + 1, x, h => by
    have := slCells_pos r k x (by simpa using h)
    rw [show slCells (y :: r) = [Value.int .i64 y.1] ++ y.2.cs ++ slCells r by simp [slCells], List.getElem?_append_right (by simp [Dr.cs]; omega)]
    rw [show (k + 1) * 7 - ([Value.int .i64 y.1] ++ y.2.cs).length = k * 7 by simp [Dr.cs]; omega]
    exact this
theorem rd_cell0 {w : World} {g n cap : Nat} {xs : List Value} (h : Rd w 1 (.slice (some ⟨g, 0, none⟩) n cap) n xs) {j : Nat} {u : Value} (hj : xs[j]? = some u) (h0 : 0 < n) : w.cell? ⟨g, j, none⟩ = some u := by
  obtain ⟨g', off', cap', he, _, _, hc⟩ := Rd.form h h0
  cases he
  have := hc j u hj
  rwa [Nat.zero_add] at this
theorem row_pos {w : World} {oo : Option Addr} {oc c pos : Nat} (h : Rd w 7 (.slice oo c oc) c (slCells (numbered pos (pos + 1) (List.replicate c (kD 0 0))))) (h0 : 0 < c) :
    ∃ g off, oo = some ⟨g, off, none⟩ ∧ ∀ j, j < c → w.cell? ⟨g, off + j * 7, none⟩ = some (.int .i64 ((pos + j : Nat) : Int)) := by
  obtain ⟨g, off, cap, he, _, _, hc⟩ := Rd.form h h0
  cases he
  refine ⟨g, off, rfl, fun j hj => ?_⟩
  have e := numbered_get (List.replicate c (kD 0 0)) pos (pos + 1) j (kD 0 0) (by rw [List.getElem?_replicate]; simp [hj])
  have := hc _ _ (slCells_pos _ j _ e)
  rw [Int.natCast_add]
  exact this
end Go.XL
namespace Go.Proofs.Ytlohbikkhojlaaa
open Go.RowKit Go.Shelf Go.XL
set_option linter.unusedVariables false
set_option linter.unusedSimpArgs false
attribute [local go_sem] Oper.semAt_some
set_option maxRecDepth 100000 in
set_option maxHeartbeats 4000000 in
theorem ringRound_any (qb : Int) (h0 : 0 ≤ qb) (h1 : qb ≤ 255) (v : Value) (w : World) (zs : List Int) (h : Rd w 1 v zs.length (zs.map (Value.int .u8))) (hz : ∀ x ∈ zs, 0 ≤ x ∧ x ≤ 255) :
    Calls Try.prog 3 #[.int .u8 qb, v] w fun e w' => e = .returned (.bool true) ∧ Fr no w w' := by
  obtain ⟨vo, vc, rfl, hvc, hvm⟩ := h.cap
  have H := Lib.hid h
  have Hz := Lib.hid hz
  clear h hz
  generalize hn : zs.length = n at *
  have Hn := Lib.hid hn
  clear hn
  go_enter Try.func3, Try.ntmps3
  go_wp2_with fail
  refine (rknown10 w).mono ?_
  rintro e w1 ⟨rfl, hf1⟩
  have HF1 := Lib.hid hf1
  clear hf1
  have hq8 : 0 ≤ qb % 8 ∧ qb % 8 < 8 := by omega
  go_upto_region 4 with (fail)
  obtain ⟨k, hk⟩ : ∃ k : Nat, 1 + qb % 8 = k := ⟨(1 + qb % 8).toNat, by omega⟩
  have hk1 : 1 ≤ k ∧ k ≤ 8 := by omega
  rw [hk]
  generalize qb % 8 = qr at *
  clear hk hq8
  by_cases h30 : 30 < n
  · go_wp2
    go_ret
    exact ⟨rfl, HF1.out⟩
  have Hnew := Lib.hid (kx_new k hk1 HF1.out)
  clear HF1
  go_wp2_with fail
  refine Hnew.out.mono ?_
  clear Hnew
  rintro e w2 ⟨p, rfl, hX⟩
  obtain ⟨i0, hi, hz0, hz1, hz2⟩ := info_parts (show (Try.prog.info? 3).map (fun i => (i.zero, i.size, i.bytes)) = some (some (.int .i64 0), 1, 8) by kernel_rfl)
  obtain ⟨w3, hmk, ho, hg⟩ := run_makeSlice_full (P := Try.prog) w2 w2.heap.size 28 3 i0 _ 1 Try.underlying28 hi hz0 hz1 .i64 .i64 k (by omega) (by rw [hz2]; omega) (by unfold maxLen; omega) (Nat.le_refl _)
  have hs := Sl.of_ownsRow ho
  rw [show (Value.int .i64 0).cells = #[Value.int .i64 0] from rfl, Nat.mul_one, toList_madeCells_one] at hs
  have hf3 : Fr no w2 w3 := (Fr.refl no w2).grown hg (fun _ h => by cases h)
  obtain ⟨gn, hgn⟩ : ∃ g, w2.heap.size = g := ⟨_, rfl⟩
  rw [hgn] at hs hmk
  have hX3 := hX.zone (Z' := fun g => g = gn) (fun g hg => by omega) hf3 (fun g hg => by have := hs.lt gn rfl; omega)
  have hgw : w.heap.size ≤ gn := by have := hX.fr.size; omega
  have X : Hid (RgX w w3 p (kRg (List.replicate k 0) 0 ((0 : Nat) : Int)) (fun g => g = gn) []) := Lib.hid hX3
  have S : Hid (Sl w3 3 1 (.slice (some ⟨gn, 0, none⟩) k k) k ((List.replicate k 0).map fun c : Nat => Value.int .i64 (c : Int))) := Lib.hid (by rw [List.map_replicate]; exact hs)
  clear hX hX3 hs hf3 ho hg hi hz0 hz1 hz2 hgn
  go_wp2_with fail
  clear hmk
  go_loopw [9] (fun iv wr => ∃ (i : Nat) (cs : List Nat), i ≤ n ∧ iv = .int .i64 i ∧ Hid (cs.length = k) ∧ Hid (cs.sum = i) ∧ Hid (RgX w wr p (kRg cs 0 ((0 : Nat) : Int)) (fun g => g = gn) []) ∧ Hid (Sl wr 3 1 (.slice (some ⟨gn, 0, none⟩) k k) k (cs.map fun c : Nat => Value.int .i64 (c : Int)))) (fun iv _ => n - (intOf iv).toNat)
  case atStart => exact ⟨0, List.replicate k 0, Nat.zero_le _, rfl, Lib.hid (by simp), Lib.hid (by simp), X, S⟩
  clear X S
  case round =>
    obtain ⟨i, cs, hi, rfl, Hl, Hs, X, S⟩ := hrel
    generalize wr = W at *
    by_cases hlt : i < n
    · obtain ⟨z, hzi⟩ : ∃ z, zs[i]? = some z := ⟨zs[i]'(by rw [Hn.out]; exact hlt), by simp⟩
      obtain ⟨g, off, c', he, _, _, hcell⟩ := Rd.form (H.out.fr X.out.fr (fun _ _ _ f => f)) (by omega)
      cases he
      have hc := hcell i (.int .u8 z) (by simp [hzi])
      have hzb := Hz.out z (List.mem_of_getElem? hzi)
      clear hcell hzi
      have hzk : 0 ≤ z % k ∧ z % k < k := ⟨Int.emod_nonneg _ (by omega), Int.emod_lt_of_pos _ (by omega)⟩
      have hzt : z.tmod k = z % k := Int.tmod_eq_emod_of_nonneg hzb.1
      obtain ⟨q, hq⟩ : ∃ q : Nat, z % k = q := ⟨(z % k).toNat, by omega⟩
      rw [hq] at hzk hzt
      have hqk : q < k := by omega
      obtain ⟨c, hcq⟩ : ∃ c, cs[q]? = some c := ⟨cs[q]'(by rw [Hl.out]; exact hqk), by simp⟩
      have hcs : c ≤ i := by have := sum_le (List.mem_of_getElem? hcq); have := Hs.out; omega
      have HC := Lib.hid hcq
      have hk0 : ¬ ((k : Int) = 0) := by omega
      clear hcq hq
      go_wp2_with fail
      have hd := law_D 0 0 none 0 0 [] W
      rw [show (mkDr 0 0 (.slice none 0 0) []).v = _ from kDv 0 0 1 (by decide)] at hd
      refine hd.mono ?_
      clear hd
      rintro e WB ⟨rfl, hfd⟩
      have hc := kx_put X.out hfd HC.out (by omega) (by rw [Hs.out]; omega) (Nat.zero_le _)
      clear hfd
      go_wp2_with fail
      refine hc.mono ?_
      clear hc
      rintro e WC ⟨rfl, hX, hF⟩
      have hS := S.out.fr hF (fun g hg e => e (by cases hg; rfl))
      obtain ⟨g', o', cap', cs', he, _, _, hgh, hgx⟩ := hS.form (by omega)
      cases he
      have y0 : WC.cell? ⟨gn, q, none⟩ = some (.int .i64 (c : Int)) := by
        exact rd_cell0 hS.rd (u := .int .i64 (c : Int)) (by simp [HC.out]) (by omega)
      have yf : WC.frozen? ⟨gn, q, none⟩ = false := frozen_of_block hgh
      have hset := hS.set q hqk (.int .i64 ((c + 1 : Nat) : Int))
      rw [Nat.zero_add] at hset
      have hXw := hX.write (fr_set WC gn q (.int .i64 ((c + 1 : Nat) : Int))) (fun g e => by rw [e]; exact hgw) rfl
      have S2 : Hid (Sl (WC.setCell ⟨gn, q, none⟩ (.int .i64 ((c + 1 : Nat) : Int))) 3 1 (.slice (some ⟨gn, 0, none⟩) k k) k ((cs.set q (c + 1)).map fun c : Nat => Value.int .i64 (c : Int))) := Lib.hid (by rw [List.map_set]; exact hset)
      have X2 := Lib.hid hXw
      have hcc : ((c + 1 : Nat) : Int) = (c : Int) + 1 := by omega
      rw [hcc] at S2 X2
      clear hX hF hS hgh hgx hset hXw hcc X S
      have L2 : Hid ((cs.set q (c + 1)).length = k) := Lib.hid (by rw [List.length_set]; exact Hl.out)
      have T2 : Hid ((cs.set q (c + 1)).sum = i + 1) := Lib.hid (by have := sum_set (d := c + 1) HC.out; have := Hs.out; omega)
      go_wp2
      go_roundw
      case rel => exact ⟨i + 1, cs.set q (c + 1), by omega, by go_num, L2, T2, X2, S2⟩
      case measure => simp [intOf]; omega
    · obtain rfl : n = i := by omega
      go_wp2_with fail
      go_loopw [11, 12] (fun pv iv wr => ∃ (i pos a : Nat) (cs' : List Nat), i ≤ k ∧ pv = .int .i64 pos ∧ iv = .int .i64 i ∧ pos ≤ n ∧ (i < k → a = i) ∧ (i = k → a = 0) ∧ Hid (TI n cs i pos cs') ∧ Hid (RgX w wr p (kRg cs' a (pos : Int)) (fun g => g = gn) []) ∧ Hid (Sl wr 3 1 (.slice (some ⟨gn, 0, none⟩) k k) k (cs.map fun c : Nat => Value.int .i64 (c : Int)))) (fun _ iv _ => k - (intOf iv).toNat)
      case atStart => exact ⟨0, 0, 0, cs, Nat.zero_le _, rfl, rfl, Nat.zero_le _, fun _ => rfl, fun _ => rfl, Lib.hid (TI.start Hs.out), X, S⟩
      clear X S
      case round =>
        obtain ⟨i, pos, a, cs', hi2, rfl, rfl, hpn, ha1, ha2, HT, X, S⟩ := hrel
        generalize wr = V at *
        have hcl : cs'.length = k := by rw [HT.out.len]; exact Hl.out
        have hcsum : cs'.sum ≤ n := by have := HT.out.sum; omega
        by_cases hik : i < k
        · obtain rfl : a = i := ha1 hik
          clear ha1 ha2
          obtain ⟨c, hcq⟩ : ∃ c, cs[a]? = some c := ⟨cs[a]'(by rw [Hl.out]; exact hik), by simp⟩
          have hcq' : cs'[a]? = some c := by rw [HT.out.hi a (Nat.le_refl _)]; exact hcq
          have hcn : c + pos ≤ n := by have := sum_le (List.mem_of_getElem? hcq'); have := HT.out.sum; omega
          have HT2 := Lib.hid (HT.out.step hcq)
          have HC := Lib.hid hcq
          have HC' := Lib.hid hcq'
          have Hcl := Lib.hid hcl
          have Hcsum := Lib.hid hcsum
          clear hcq hcq' HT hcl hcsum
          go_wp2_with fail
          have hat := kx_at X.out
          refine hat.mono ?_
          clear hat
          rintro e w' ⟨rfl, rfl⟩
          go_wp2_with fail
          have ht := kx_turn X.out HC'.out (by rw [Hcl.out]; omega) (by have := Hcsum.out; omega) (by omega)
          refine ht.mono ?_
          clear ht
          rintro e V2 ⟨oo, oc, rfl, hX, hF⟩
          have hrow := hX.row (List.mem_cons_self ..)
          obtain ⟨_, _, he, hoc1, hoc2⟩ := hrow.cap
          cases he
          have hS := S.out.fr hF (fun g hg e => e (by cases hg; rfl))
          have y0 : V2.cell? ⟨gn, a, none⟩ = some (.int .i64 (c : Int)) := by
            exact rd_cell0 hS.rd (u := .int .i64 (c : Int)) (by simp [HC.out]) (by omega)
          have R := Lib.hid hrow
          replace X := Lib.hid (hX.keep (ks' := []) (fun k hk => by cases hk))
          replace S := Lib.hid hS
          clear hX hF hrow hS
          rw [Hcl.out] at X
          go_wp2_with fail
          clear y0
          go_loopw [11, 14] (fun pv jv wr => ∃ j : Nat, j ≤ c ∧ pv = .int .i64 ((pos + j : Nat) : Int) ∧ jv = .int .i64 j ∧ V2 = wr) (fun _ jv _ => c - (intOf jv).toNat)
          case atStart => exact ⟨0, Nat.zero_le _, rfl, rfl, rfl⟩
          case round =>
            obtain ⟨j, hj, rfl, rfl, rfl⟩ := hrel
            by_cases hjl : j < c
            · obtain ⟨go, offo, rfl, hcell⟩ := row_pos R.out (by omega)
              have e0 := hcell j hjl
              clear hcell
              obtain ⟨P, hP⟩ : ∃ P : Nat, pos + j = P := ⟨_, rfl⟩
              rw [hP] at e0 ⊢
              have hPb : P ≤ 1000 := by omega
              have hP2 : Hid (((P : Nat) : Int) + 1 = ((pos + (j + 1) : Nat) : Int)) := Lib.hid (by omega)
              clear hP
              go_wp2
              go_roundw
              case rel => exact ⟨j + 1, by omega, by rw [hP2.out], by go_num, trivial⟩
              case measure => simp [intOf]; omega
            · obtain rfl : c = j := by omega
              go_wp2
              go_roundw
              case rel =>
                by_cases hl : a + 1 < k
                · rw [Nat.mod_eq_of_lt hl] at X
                  exact ⟨a + 1, pos + c, a + 1, cs'.set a 0, by omega, rfl, by go_num, by omega, fun _ => rfl, fun h => by omega, HT2, X, S⟩
                · have ek : a + 1 = k := by omega
                  rw [ek, Nat.mod_self] at X
                  exact ⟨a + 1, pos + c, 0, cs'.set a 0, by omega, rfl, by go_num, by omega, fun h => by omega, fun _ => rfl, HT2, X, S⟩
              case measure => simp [intOf]; omega
        · obtain rfl : i = k := by omega
          obtain rfl : a = 0 := ha2 rfl
          have hfin : cs'.sum = 0 ∧ pos = n := TI.fin (by have := HT.out; rw [← Hl.out] at this; exact this)
          obtain ⟨hs0, rfl⟩ := hfin
          clear HT ha1 ha2
          have Hcl := Lib.hid hcl
          have Hs0 := Lib.hid hs0
          clear hcl hs0 hcsum S
          go_wp2_with fail
          have hat := kx_at X.out
          refine hat.mono ?_
          clear hat
          rintro e w' ⟨rfl, rfl⟩
          go_wp2_with fail
          have hln := kx_len X.out (by rw [Hcl.out]; omega) (by rw [Hs0.out]; omega)
          rw [Hs0.out] at hln
          refine hln.mono ?_
          clear hln
          rintro e V2 ⟨rfl, hX, _⟩
          replace X := Lib.hid hX
          clear hX
          go_wp2_with fail
          have htk := kx_token X.out
          refine htk.mono ?_
          clear htk
          rintro e V3 ⟨so, sn, sc, lo, lc, rfl, hX⟩
          replace X := Lib.hid hX
          clear hX
          have hfl := tokNext 0 pos (.slice so sn sc) (.slice lo 0 lc)
          go_wp2
          go_ret
          exact ⟨rfl, X.out.fr⟩
end Go.Proofs.Ytlohbikkhojlaaa
