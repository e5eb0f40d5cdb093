/- RingFull, walked. -/
import Derived.Test.YtlohbikkhojlaaaRgF
import Derived.IntWalk
namespace Go.Proofs.Ytlohbikkhojlaaa
open Go.RowKit Go.Shelf Go.XL
set_option linter.unusedVariables false
set_option linter.unusedSimpArgs false
attribute [local go_sem] Oper.semAt_some
set_option maxRecDepth 100000 in
set_option maxHeartbeats 8000000 in
theorem ringFull_any (rb nb : Int) (h0 : 0 ≤ rb) (h1 : rb ≤ 255) (g0 : 0 ≤ nb) (g1 : nb ≤ 255) (w : World) :
    Calls Try.prog 4 #[.int .u8 rb, .int .u8 nb] w fun e w' => e = .returned (.bool true) ∧ Fr no w w' := by
  go_enter Try.func4, Try.ntmps4
  go_wp2_with fail
  refine (rknown10 w).mono ?_
  rintro e w1 ⟨rfl, hf1⟩
  have HF1 := Lib.hid hf1
  clear hf1
  have hq8 : 0 ≤ rb % 64 ∧ rb % 64 < 64 := by omega
  go_upto_region 4 with (fail)
  obtain ⟨k, hk⟩ : ∃ k : Nat, 1 + rb % 64 = k := ⟨(1 + rb % 64).toNat, by omega⟩
  have hk1 : 1 ≤ k ∧ k ≤ 64 := by omega
  rw [hk]
  generalize rb % 64 = qr at *
  clear hk hq8
  have hnew := x_new 0 1 (k : Int) w w1 HF1.out (by decide) (by decide) (by omega)
  rw [show ((1 : Nat) : Int) = 1 from rfl] at hnew
  have Hnew := Lib.hid hnew
  clear HF1 hnew
  go_wp2_with fail
  refine Hnew.out.mono ?_
  clear Hnew
  rintro e w2 ⟨p, rfl, hX⟩
  have X : Hid (RgX w w2 p (fRg (k : Int) [] []) (fun _ => False) []) := Lib.hid hX
  clear hX
  go_wp2_with fail
  go_loopw [8] (fun iv wr => ∃ (i : Nat) (q : List Dr), i ≤ k + 2 ∧ iv = .int .i64 i ∧ Hid (q.length = if i ≤ k then i else k) ∧ Hid (∀ d ∈ q, FW d) ∧ Hid (RgX w wr p (fRg (k : Int) q []) (fun _ => False) [])) (fun iv _ => k + 2 - (intOf iv).toNat)
  case atStart => exact ⟨0, [], Nat.zero_le _, rfl, Lib.hid (by simp), Lib.hid (fun d h => by cases h), X⟩
  clear X
  case round =>
    obtain ⟨i, q, hi, rfl, Hq, HW, X⟩ := hrel
    generalize wr = W at *
    by_cases hlt : i < k + 2
    · by_cases hik : i < k
      · have hql : q.length = i := by rw [Hq.out, if_pos (by omega)]
        have Hql := Lib.hid hql
        clear hql Hq
        go_wp2_with fail
        refine (fx_D _ _).mono ?_
        rintro e W2 ⟨rfl, hfd⟩
        have HF := Lib.hid hfd
        clear hfd
        go_wp2_with fail
        refine (fx_put X.out HF.out HW.out (by rw [Hql.out]; omega) (by simp) (by rw [Hql.out]; omega)).mono ?_
        clear HF
        rintro e W3 ⟨q', rfl, hq', hw', hX⟩
        have Q2 : Hid (q'.length = if i + 1 ≤ k then i + 1 else k) := Lib.hid (by rw [if_pos (by omega), hq', Hql.out])
        have W2' := Lib.hid hw'
        have X2 := Lib.hid hX
        clear hq' hw' hX X HW Hql
        go_wp2
        go_roundw
        case rel => exact ⟨i + 1, q', by omega, by go_num, Q2, W2', X2⟩
        case measure => simp [intOf]; omega
      · have hql : q.length = k := by rw [Hq.out]; split <;> omega
        have Q2 : Hid (q.length = if i + 1 ≤ k then i + 1 else k) := Lib.hid (by rw [if_neg (by omega), hql])
        have Hql := Lib.hid hql
        clear hql Hq
        go_wp2_with fail
        refine (fx_D _ _).mono ?_
        rintro e W2 ⟨rfl, hfd⟩
        have HF := Lib.hid hfd
        clear hfd
        go_wp2_with fail
        refine (fx_full X.out HF.out (.inl (by rw [Hql.out]; omega)) (by rw [Hql.out]; omega)).mono ?_
        clear HF
        rintro e W3 ⟨rfl, hX⟩
        have X2 := Lib.hid hX
        clear hX X Hql
        go_wp2
        go_roundw
        case rel => exact ⟨i + 1, q, by omega, by go_num, Q2, HW, X2⟩
        case measure => simp [intOf]; omega
    · have hql : Hid (q.length = min k (64 - 0)) := Lib.hid (by rw [Hq.out]; split <;> omega)
      have hW0 : Hid (∀ d ∈ ([] : List Dr) ++ q, FW d) := Lib.hid (by simpa using HW.out)
      clear Hq HW
      go_wp2_with fail
      go_loopw [10] (fun lv wr => ∃ (y : Nat) (q late : List Dr), y ≤ 64 ∧ lv = .int .i64 y ∧ Hid (late.length = y) ∧ Hid (q.length = min k (64 - y)) ∧ Hid (∀ d ∈ late ++ q, FW d) ∧ Hid (RgX w wr p (fRg (k : Int) q late) (fun _ => False) [])) (fun lv _ => 64 - (intOf lv).toNat)
      case atStart => exact ⟨0, q, [], Nat.zero_le _, rfl, Lib.hid rfl, hql, hW0, X⟩
      clear X hql hW0
      case round =>
        obtain ⟨y, q, late, hy, rfl, HL, HQ, HW, X⟩ := hrel
        generalize wr = V at *
        by_cases hy64 : y < 64
        · have hqb : q.length ≤ 64 := by rw [HQ.out]; omega
          have Hqb := Lib.hid hqb
          obtain ⟨y2, hy2⟩ : ∃ y2, (late ++ q).length = y2 := ⟨_, rfl⟩
          have hy2b : y < y2 ∧ y2 ≤ 64 := by rw [← hy2, List.length_append, HL.out, HQ.out]; omega
          have HL2 := Lib.hid hy2
          clear hy2 hqb
          go_wp2_with fail
          refine (fx_turn X.out HW.out Hqb.out (by rw [HL.out]; omega)).mono ?_
          rintro e V2 ⟨oo, oc, rfl, hX⟩
          have X2 := Lib.hid hX
          clear hX X HL HQ Hqb
          generalize late ++ q = late2 at *
          go_wp2_with fail
          have hln := fx_len X2.out (by simp) (by rw [HL2.out]; omega)
          rw [HL2.out, List.length_nil, Nat.add_zero] at hln
          refine hln.mono ?_
          clear hln
          rintro e V3 ⟨rfl, hX⟩
          have X3 := Lib.hid hX
          clear hX X2
          go_wp2_with fail
          go_loopw [11] (fun iv wr => ∃ (i : Nat) (q : List Dr), i ≤ k ∧ y2 + i ≤ 64 ∧ iv = .int .i64 i ∧ Hid (q.length = i) ∧ Hid (∀ d ∈ q, FW d) ∧ Hid (RgX w wr p (fRg (k : Int) q late2) (fun _ => False) [])) (fun iv _ => k - (intOf iv).toNat)
          case atStart => exact ⟨0, [], Nat.zero_le _, by omega, rfl, Lib.hid rfl, Lib.hid (fun d h => by cases h), X3⟩
          clear X3
          case round =>
            obtain ⟨i, q2, hi2, hyi, rfl, Hq2, HW2, X⟩ := hrel
            generalize wr = U at *
            by_cases hik : i < k
            · by_cases hyl : y2 + i < 64
              · go_wp2_with fail
                refine (fx_D _ _).mono ?_
                rintro e U2 ⟨rfl, hfd⟩
                have HF := Lib.hid hfd
                clear hfd
                go_wp2_with fail
                refine (fx_put X.out HF.out HW2.out (by rw [Hq2.out]; omega) (by rw [HL2.out]; omega) (by rw [Hq2.out]; omega)).mono ?_
                clear HF
                rintro e U3 ⟨q', rfl, hq', hw', hX⟩
                have Q2 : Hid (q'.length = i + 1) := Lib.hid (by rw [hq', Hq2.out])
                have W2' := Lib.hid hw'
                have X2 := Lib.hid hX
                clear hq' hw' hX X HW2 Hq2
                go_wp2
                go_roundw
                case rel => exact ⟨i + 1, q', by omega, by omega, by go_num, Q2, W2', X2⟩
                case measure => simp [intOf]; omega
              · have Q3 : Hid (q2.length = min k (64 - y2)) := Lib.hid (by rw [Hq2.out]; omega)
                have W3 : Hid (∀ d ∈ late2 ++ q2, FW d) := Lib.hid (fun d hd => (List.mem_append.1 hd).elim (HW.out d) (HW2.out d))
                go_wp2
                go_roundw
                case rel => exact ⟨y2, q2, late2, by omega, rfl, HL2, Q3, W3, X⟩
                case measure => simp [intOf]; omega
            · have Q3 : Hid (q2.length = min k (64 - y2)) := Lib.hid (by rw [Hq2.out]; omega)
              have W3 : Hid (∀ d ∈ late2 ++ q2, FW d) := Lib.hid (fun d hd => (List.mem_append.1 hd).elim (HW.out d) (HW2.out d))
              go_wp2
              go_roundw
              case rel => exact ⟨y2, q2, late2, by omega, rfl, HL2, Q3, W3, X⟩
              case measure => simp [intOf]; omega
        · obtain rfl : y = 64 := by omega
          have hq0 : q = [] := List.eq_nil_of_length_eq_zero (by rw [HQ.out]; omega)
          subst hq0
          clear HQ
          have hWl : ∀ d ∈ late, FW d := fun d hd => HW.out d (by simp [hd])
          have HWl := Lib.hid hWl
          clear hWl
          go_wp2_with fail
          refine (fx_turn X.out HW.out (by simp) (by rw [HL.out]; omega)).mono ?_
          rintro e V2 ⟨oo, oc, rfl, hX⟩
          rw [List.append_nil] at hX
          have X2 := Lib.hid hX
          clear hX X HW
          go_wp2_with fail
          have hln := fx_len X2.out (by simp) (by rw [HL.out]; omega)
          rw [HL.out, List.length_nil, Nat.add_zero, show ((64 : Nat) : Int) = 64 from rfl] at hln
          refine hln.mono ?_
          clear hln
          rintro e V3 ⟨rfl, hX⟩
          have X3 := Lib.hid hX
          clear hX X2
          go_wp2_with fail
          refine (fx_D _ _).mono ?_
          rintro e V4 ⟨rfl, hfd⟩
          have HF := Lib.hid hfd
          clear hfd
          go_wp2_with fail
          refine (fx_full X3.out HF.out (.inr (by rw [HL.out]; omega)) (by simp)).mono ?_
          clear HF
          rintro e V5 ⟨rfl, hX⟩
          have X4 := Lib.hid hX
          clear hX X3
          obtain ⟨n2, hn2⟩ : ∃ n2, 2 + nb = n2 := ⟨_, rfl⟩
          have hn2b : 2 ≤ n2 := by omega
          go_wp2_with fail
          first | rw [hn2] | skip
          refine (fx_D1 n2 (by omega) _).mono ?_
          rintro e V6 ⟨rfl, hfd⟩
          have HF := Lib.hid hfd
          clear hfd
          go_wp2_with fail
          have ho := fx_other X4.out HF.out n2 (by omega) (by omega) HL.out
          rw [if_neg (by omega), if_neg (by omega)] at ho
          refine ho.mono ?_
          clear ho HF
          rintro e V7 ⟨rfl, hX⟩
          have X5 := Lib.hid hX
          clear hX X4
          go_wp2_with fail
          refine (fx_D1 1 (by omega) _).mono ?_
          rintro e V8 ⟨rfl, hfd⟩
          have HF := Lib.hid hfd
          clear hfd
          go_wp2_with fail
          have ho := fx_other X5.out HF.out 1 (by omega) (by omega) HL.out
          rw [if_pos rfl, if_pos rfl] at ho
          refine ho.mono ?_
          clear ho HF
          rintro e V9 ⟨rfl, hX⟩
          have X6 := Lib.hid hX
          clear hX X5
          go_wp2_with fail
          refine (fx_last X6.out HWl.out HL.out).mono ?_
          rintro e U1 ⟨g, off, oc6, rfl, hc1, hc2, hc, hX⟩
          have X7 := Lib.hid hX
          clear hX X6 HWl HL
          go_wp2_with fail
          clear hc
          have hln := x_len X7.out (show (1 : Nat) ≤ 8 by decide) (by intro l hl; simp at hl; subst hl; simp) (show (0 : Nat) ≤ 100000 by decide)
          rw [show ∀ r0 : Int, ((rlen ⟨r0, [[]], 0, 0, 65, [64, 1], []⟩ : Nat) : Int) = 0 from fun _ => rfl] at hln
          refine hln.mono ?_
          clear hln
          rintro e U2 ⟨rfl, hX, _⟩
          have X8 := Lib.hid hX
          clear hX X7
          go_wp2_with fail
          have hbg := x_begin X8.out 0 3 (by decide) (by decide) (show (1 : Nat) ≤ 1 by decide) (show (1 : Nat) ≤ 8 by decide)
          rw [if_pos rfl, if_pos rfl] at hbg
          refine hbg.mono ?_
          clear hbg
          rintro e U3 ⟨rfl, hX⟩
          have X9 := Lib.hid hX
          clear hX X8
          go_wp2_with fail
          have htk := x_token X9.out (show (0 : Nat) ≤ 1000 by decide) (show (0 : Nat) ≤ 1000 by decide)
          refine htk.mono ?_
          clear htk
          rintro e U4 ⟨so, sc, lo, lc, he, hX⟩
          replace he : e = .returned (.agg #[.int .i64 0, .int .i64 3, .slice so 0 sc, .slice lo 0 lc]) := he
          subst he
          have XA := Lib.hid hX
          clear hX X9
          have hfl := tokNext 0 3 (.slice so 0 sc) (.slice lo 0 lc)
          go_wp2
          go_ret
          exact ⟨rfl, XA.out.fr⟩
end Go.Proofs.Ytlohbikkhojlaaa
