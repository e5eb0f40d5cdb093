/- Contracts of the reference's texts of numbers and vectors: Decimal, VecText. -/
import Derived.Test.YtkdcldnbdhfobaaDoorVlast
import Derived.Laws.BytesArg
namespace Go.XL
open Go.RowKit Go.Shelf
theorem conv_one {P : Program} (src dst e e' : TypeId) (hs : P.underlying src = some (.slice e)) (he : P.underlying e = some (.int .u8)) (hd : P.underlying dst = some .string) (w : World) (x : Int) :
    (convert src dst (.slice (some ⟨w.heap.size, 0, none⟩) 1 1)).run P (w.alloc (.cells #[.int .u8 x] e')) = .ok (.string ⟨#[UInt8.ofNat x.toNat]⟩) (w.alloc (.cells #[.int .u8 x] e')) := by
  have h := run_convert_bytes_arg (P := P) (w.alloc (.cells #[.int .u8 x] e')) src e hs he w.heap.size 0 1 1 [x] rfl (fun i hi => by
    have : i = 0 := by omega
    subst this
    exact cell_of_block (World.alloc_heap_new w (.cells #[.int .u8 x] e')) rfl) dst hd
  exact h
theorem itoa_min : Lib.itoa (-9223372036854775808) = [45, 57, 50, 50, 51, 51, 55, 50, 48, 51, 54, 56, 53, 52, 55, 55, 53, 56, 48, 56] := by
  simp [Lib.itoa, Lib.decDigits]
end Go.XL
namespace Go.Proofs.YtkdcldnbdhfobaaDoor
open Go.RowKit Go.Shelf Go.XL
set_option linter.unusedVariables false
set_option linter.unusedSimpArgs false
attribute [local go_sem] Oper.semAt_some
@[local go_sem] theorem conv_one_here (w : World) (x : Int) :
    (convert 57 9 (.slice (some ⟨w.heap.size, 0, none⟩) 1 1)).run Tryd.prog (w.alloc (.cells #[.int .u8 x] 5)) = .ok (.string ⟨#[UInt8.ofNat x.toNat]⟩) (w.alloc (.cells #[.int .u8 x] 5)) :=
  conv_one _ _ _ _ Tryd.underlying57 Tryd.underlying5 Tryd.underlying9 w x
set_option maxRecDepth 100000 in
set_option maxHeartbeats 2000000 in
theorem ref_dec_nat (n : Nat) (w : World) (hn : (n : Int) ≤ 9223372036854775807) :
    Calls Tryd.prog 27 #[.int .i64 n] w fun e w' => e = .returned (.string ⟨(Lib.decDigits n).toArray⟩) ∧ Fr no w w' := by
  go_enter Tryd.func27, Tryd.ntmps27
  go_wp2
  go_loopw [0, 3] (fun nv sv wr => ∃ (m : Nat) (rest : List UInt8), nv = .int .i64 m ∧ (m : Int) ≤ 9223372036854775807 ∧ sv = .string ⟨(UInt8.ofNat (48 + m % 10) :: rest).toArray⟩ ∧ Hid (Lib.decDigits m ++ rest = Lib.decDigits n) ∧ Hid (Fr no w wr)) (fun nv _ _ => (intOf nv).toNat)
  case atStart =>
    refine ⟨n, [], rfl, hn, ?_, Lib.hid (by simp), Lib.hid ?_⟩
    · have : ((48 + (n : Int) % 10).toNat) = 48 + n % 10 := by omega
      simp
    · exact (Fr.refl no w).alloc _
  case round =>
    obtain ⟨m, rest, rfl, hm, rfl, hD, hF⟩ := hrel
    by_cases hlt : m < 10
    · go_wp2
      go_ret
      have h1 := hD.out
      rw [Lib.decDigits, dif_pos hlt] at h1
      refine ⟨?_, hF.out⟩
      rw [← h1, Nat.mod_eq_of_lt hlt]
      rfl
    · have hq : (m : Int) / 10 = ((m / 10 : Nat) : Int) := by omega
      have hql : m / 10 < m := by omega
      have hrl : rest.length ≤ 20 := by have h1 := congrArg List.length hD.out; have h2 := dd_len 19 n (by omega); simp at h1; omega
      go_upto_region 8 with (fail)
      try simp only [hq]
      obtain ⟨q, hqq⟩ : ∃ q, m / 10 = q := ⟨_, rfl⟩
      rw [hqq] at hq hql
      try simp only [hqq]
      have hq9 : (q : Int) ≤ 9223372036854775807 := by omega
      clear hn
      generalize hsb : UInt8.ofNat (48 + m % 10) = sb
      have Hsb := Lib.hid hsb
      clear hsb
      go_wp2
      go_roundw
      case rel =>
        refine ⟨q, sb :: rest, rfl, hq9, ?_, Lib.hid ?_, Lib.hid (hF.out.alloc _)⟩
        · refine congrArg Value.string (ByteArray.ext ?_)
          simp
        · have h1 := hD.out
          rw [Lib.decDigits, dif_neg hlt, List.append_assoc, hqq, Hsb.out] at h1
          exact h1
      case measure => simp [intOf]; omega
set_option maxRecDepth 100000 in
theorem ref_dec (n : Int) (w : World) (h0 : -9223372036854775808 ≤ n) (h1 : n ≤ 9223372036854775807) :
    Calls Tryd.prog 27 #[.int .i64 n] w fun e w' => e = .returned (.string ⟨(Lib.itoa n).toArray⟩) ∧ Fr no w w' := by
  by_cases hn : n < 0
  · by_cases hm : n = -9223372036854775808
    · subst hm
      rw [itoa_min]
      go_enter Tryd.func27, Tryd.ntmps27
      go_wp2
      go_ret
      exact ⟨rfl, Fr.refl _ _⟩
    · obtain ⟨m, hm2⟩ : ∃ m : Nat, n = -(m : Int) := ⟨n.natAbs, by omega⟩
      have hc := ref_dec_nat m w (by omega)
      have e1 : Lib.itoa n = 45 :: Lib.decDigits m := by
        unfold Lib.itoa
        rw [if_pos hn, hm2]
        simp
      have hl : (Lib.decDigits m).length ≤ 20 := dd_len 19 m (by omega)
      rw [e1]
      obtain ⟨l, hl2⟩ : ∃ l, Lib.decDigits m = l := ⟨_, rfl⟩
      rw [hl2] at hc hl ⊢
      have hneg : 0 - n = (m : Int) := by omega
      have Hc := Lib.hid hc
      clear hc e1 hl2 hm2
      go_enter Tryd.func27, Tryd.ntmps27
      go_wp2_with fail
      refine Hc.out.mono ?_
      rintro e w' ⟨rfl, hf⟩
      go_wp2
      go_ret
      refine ⟨?_, hf⟩
      refine congrArg Ending.returned (congrArg Value.string (ByteArray.ext ?_))
      simp
  · obtain ⟨m, rfl⟩ : ∃ m : Nat, n = m := ⟨n.toNat, by omega⟩
    have e1 : Lib.itoa m = Lib.decDigits m := by unfold Lib.itoa; rw [if_neg hn]; simp
    rw [e1]
    exact ref_dec_nat m w h1
end Go.Proofs.YtkdcldnbdhfobaaDoor
