/- Contracts of the reference's texts of numbers and vectors: Decimal, VecText. -/
import Derived.Test.YtgcjnhocoklfbaaGreatDoorVlast
import Derived.Laws.BytesArg
namespace Go.XL
open Go.RowKit Go.Shelf
theorem conv_one {P : Program} (src dst e e' : TypeId) (hs : P.underlying src = some (.slice e)) (he : P.underlying e = some (.int .u8)) (hd : P.underlying dst = some .string) (w : World) (x : Int) :
    (convert src dst (.slice (some ⟨w.heap.size, 0, none⟩) 1 1)).run P (w.alloc (.cells #[.int .u8 x] e')) = .ok (.string ⟨#[UInt8.ofNat x.toNat]⟩) (w.alloc (.cells #[.int .u8 x] e')) := by
  have h := run_convert_bytes_arg (P := P) (w.alloc (.cells #[.int .u8 x] e')) src e hs he w.heap.size 0 1 1 [x] rfl (fun i hi => by
    have : i = 0 := by omega
    subst this
    exact cell_of_block (World.alloc_heap_new w (.cells #[.int .u8 x] e')) rfl) dst hd
  exact h
theorem itoa_min : Lib.itoa (-9223372036854775808) = [45, 57, 50, 50, 51, 51, 55, 50, 48, 51, 54, 56, 53, 52, 55, 55, 53, 56, 48, 56] := by
  simp [Lib.itoa, Lib.decDigits]
end Go.XL
namespace Go.Proofs.YtgcjnhocoklfbaaGreatDoor
open Go.RowKit Go.Shelf Go.XL
set_option linter.unusedVariables false
set_option linter.unusedSimpArgs false
attribute [local go_sem] Oper.semAt_some
@[local go_sem] theorem conv_one_here (w : World) (x : Int) :
    (convert 61 9 (.slice (some ⟨w.heap.size, 0, none⟩) 1 1)).run Tryz.prog (w.alloc (.cells #[.int .u8 x] 5)) = .ok (.string ⟨#[UInt8.ofNat x.toNat]⟩) (w.alloc (.cells #[.int .u8 x] 5)) :=
  conv_one _ _ _ _ Tryz.underlying61 Tryz.underlying5 Tryz.underlying9 w x
set_option maxRecDepth 100000 in
set_option maxHeartbeats 2000000 in
theorem ref_dec_nat (n : Nat) (w : World) (hn : (n : Int) ≤ 9223372036854775807) :
    Calls Tryz.prog 34 #[.int .i64 n] w fun e w' => e = .returned (.string ⟨(Lib.decDigits n).toArray⟩) ∧ Fr no w w' := by
  go_enter Tryz.func34, Tryz.ntmps34
  go_wp2
  go_loopw [0, 3] (fun nv sv wr => ∃ (m : Nat) (rest : List UInt8), nv = .int .i64 m ∧ (m : Int) ≤ 9223372036854775807 ∧ sv = .string ⟨(UInt8.ofNat (48 + m % 10) :: rest).toArray⟩ ∧ Hid (Lib.decDigits m ++ rest = Lib.decDigits n) ∧ Hid (Fr no w wr)) (fun nv _ _ => (intOf nv).toNat)
  case atStart =>
    refine ⟨n, [], rfl, hn, ?_, Lib.hid (by simp), Lib.hid ?_⟩
    · have : ((48 + (n : Int) % 10).toNat) = 48 + n % 10 := by omega
      simp
    · exact (Fr.refl no w).alloc _
  case round =>
    obtain ⟨m, rest, rfl, hm, rfl, hD, hF⟩ := hrel
    by_cases hlt : m < 10
    · go_wp2
      go_ret
      have h1 := hD.out
      rw [Lib.decDigits, dif_pos hlt] at h1
      refine ⟨?_, hF.out⟩
      rw [← h1, Nat.mod_eq_of_lt hlt]
      rfl
    · have hq : (m : Int) / 10 = ((m / 10 : Nat) : Int) := by omega
      have hql : m / 10 < m := by omega
      have hrl : rest.length ≤ 20 := by have h1 := congrArg List.length hD.out; have h2 := dd_len 19 n (by omega); simp at h1; omega
      go_upto_region 8 with (fail)
      try simp only [hq]
      obtain ⟨q, hqq⟩ : ∃ q, m / 10 = q := ⟨_, rfl⟩
      rw [hqq] at hq hql
      try simp only [hqq]
      have hq9 : (q : Int) ≤ 9223372036854775807 := by omega
      clear hn
      generalize hsb : UInt8.ofNat (48 + m % 10) = sb
      have Hsb := Lib.hid hsb
      clear hsb
      go_wp2
      go_roundw
      case rel =>
        refine ⟨q, sb :: rest, rfl, hq9, ?_, Lib.hid ?_, Lib.hid (hF.out.alloc _)⟩
        · refine congrArg Value.string (ByteArray.ext ?_)
          simp
        · have h1 := hD.out
          rw [Lib.decDigits, dif_neg hlt, List.append_assoc, hqq, Hsb.out] at h1
          exact h1
      case measure => simp [intOf]; omega
set_option maxRecDepth 100000 in
theorem ref_dec (n : Int) (w : World) (h0 : -9223372036854775808 ≤ n) (h1 : n ≤ 9223372036854775807) :
    Calls Tryz.prog 34 #[.int .i64 n] w fun e w' => e = .returned (.string ⟨(Lib.itoa n).toArray⟩) ∧ Fr no w w' := by
  by_cases hn : n < 0
  · by_cases hm : n = -9223372036854775808
    · subst hm
      rw [itoa_min]
      go_enter Tryz.func34, Tryz.ntmps34
      go_wp2
      go_ret
      exact ⟨rfl, Fr.refl _ _⟩
    · obtain ⟨m, hm2⟩ : ∃ m : Nat, n = -(m : Int) := ⟨n.natAbs, by omega⟩
      have hc := ref_dec_nat m w (by omega)
      have e1 : Lib.itoa n = 45 :: Lib.decDigits m := by
        unfold Lib.itoa
        rw [if_pos hn, hm2]
        simp
      have hl : (Lib.decDigits m).length ≤ 20 := dd_len 19 m (by omega)
      rw [e1]
      obtain ⟨l, hl2⟩ : ∃ l, Lib.decDigits m = l := ⟨_, rfl⟩
      rw [hl2] at hc hl ⊢
      have hneg : 0 - n = (m : Int) := by omega
      have Hc := Lib.hid hc
      clear hc e1 hl2 hm2
      go_enter Tryz.func34, Tryz.ntmps34
      go_wp2_with fail
      refine Hc.out.mono ?_
      rintro e w' ⟨rfl, hf⟩
      go_wp2
      go_ret
      refine ⟨?_, hf⟩
      refine congrArg Ending.returned (congrArg Value.string (ByteArray.ext ?_))
      simp
  · obtain ⟨m, rfl⟩ : ∃ m : Nat, n = m := ⟨n.toNat, by omega⟩
    have e1 : Lib.itoa m = Lib.decDigits m := by unfold Lib.itoa; rw [if_neg hn]; simp
    rw [e1]
    exact ref_dec_nat m w h1
set_option maxRecDepth 100000 in
set_option maxHeartbeats 4000000 in
theorem ref_vtext (v : Value) (xs : List Int) (w : World) (h : IntsAt w v xs) (h64 : I64s xs) (hn : xs.length ≤ 1000) :
    Calls Tryz.prog 35 #[v] w fun e w' => e = .returned (.string ⟨(vtext xs).toArray⟩) ∧ Fr no w w' := by
  obtain ⟨ao, cap, rfl, hcap, hmx⟩ := h.cap
  have H : Hid (Rd w 1 (.slice ao xs.length cap) xs.length (xs.map (Value.int .i64))) := Lib.hid h
  have H64 := Lib.hid h64
  clear h h64
  generalize hng : xs.length = n at *
  have Hn := Lib.hid hng
  clear hng
  have hget : ∀ j, j < n → ∃ x, xs[j]? = some x ∧ -9223372036854775808 ≤ x ∧ x ≤ 9223372036854775807 ∧ ∃ g off, ao = some ⟨g, off, none⟩ ∧ w.cell? ⟨g, off + j, none⟩ = some (.int .i64 x) := fun j hj => by
    obtain ⟨g, off, c', he, _, _, hx⟩ := H.out.form (by omega)
    cases he
    obtain ⟨x, hxk⟩ : ∃ x, xs[j]? = some x := ⟨xs[j]'(by rw [Hn.out]; exact hj), by simp⟩
    have := H64.out x (List.mem_of_getElem? hxk)
    exact ⟨x, hxk, this.1, this.2, g, off, rfl, hx j _ (by simp [hxk])⟩
  have Hget := Lib.hid hget
  clear hget
  go_enter Tryz.func35, Tryz.ntmps35
  go_wp2_with fail
  go_loop [3] (fun kv => ∃ (k : Nat), k ≤ n ∧ kv = .int .i64 k ∧ Hid (∀ j : Nat, k ≤ j → vget xs j = 0)) (fun kv => (intOf kv).toNat)
  case atStart => exact ⟨n, Nat.le_refl _, rfl, Lib.hid (fun j hj => by rw [vget_nat, List.getElem?_eq_none (by rw [Hn.out]; exact hj)]; rfl)⟩
  case round =>
    obtain ⟨k, hk, rfl, HZ⟩ := hrel
    have hway : k = 0 ∨ ∃ k' x, k = k' + 1 ∧ xs[k']? = some x ∧ (∃ g off, ao = some ⟨g, off, none⟩ ∧ w.cell? ⟨g, off + k', none⟩ = some (.int .i64 x)) := by
      cases k with
      | zero => exact .inl rfl
      | succ k' =>
        obtain ⟨x, hx, _, _, hc⟩ := Hget.out k' (by omega)
        exact .inr ⟨k', x, rfl, hx, hc⟩
    rcases hway with rfl | ⟨k', x, rfl, hx, g, off, rfl, hc⟩
    rotate_left 1
    by_cases hx0 : x = 0
    · subst hx0
      have HZ2 : Hid (∀ j : Nat, k' ≤ j → vget xs j = 0) := Lib.hid (fun j hj => by
        by_cases e : j = k'
        · rw [e, vget_nat, hx]; rfl
        · exact HZ.out j (by omega))
      clear HZ hx
      go_wp2
      go_round
      case rel => exact ⟨k', by omega, by go_num, HZ2⟩
      case measure => simp [intOf]
    · have HL : Hid (vlast xs = k' + 1) := Lib.hid (vlast_uniq HZ.out (.inr (by rw [show k' + 1 - 1 = k' by omega, vget_nat, hx]; exact hx0)))
      clear HZ hx
      go_wp2
      obtain ⟨K, hK⟩ : ∃ K, k' + 1 = K := ⟨_, rfl⟩
      have hKi : (k' : Int) + 1 = (K : Int) := by omega
      rw [hK] at HL hk
      simp only [hKi]
      clear hc hx0 hK hKi
      go_loopw [4, 5] (fun sv iv wr => ∃ (i : Nat) (t : ByteArray), i ≤ K ∧ iv = .int .i64 i ∧ sv = .string t ∧ Hid (t = ⟨(vfront xs i).toArray⟩) ∧ Hid (Fr no w wr)) (fun _ iv _ => K - (intOf iv).toNat)
      case atStart => exact ⟨0, ⟨#[91]⟩, Nat.zero_le _, rfl, rfl, Lib.hid rfl, Lib.hid (Fr.refl _ _)⟩
      case round =>
        obtain ⟨i, t, hi, rfl, rfl, HT, HF⟩ := hrel
        have htl : t.size ≤ 100000 := by
          have := vfront_len H64.out i
          rw [HT.out]
          show (vfront xs i).toArray.size ≤ 100000
          simp; omega
        generalize wr = V at *
        by_cases hlt : i < K
        · obtain ⟨x, hx, hx0, hx1, g, off, he, hc⟩ := Hget.out i (by omega)
          cases he
          have hcV : V.cell? ⟨g, off + i, none⟩ = some (.int .i64 x) := HF.out.cell hc (fun f => f)
          have hd := ref_dec x V hx0 hx1
          have hil := itoa_len x hx0 hx1
          obtain ⟨d, hdd⟩ : ∃ d : ByteArray, ⟨(Lib.itoa x).toArray⟩ = d := ⟨_, rfl⟩
          rw [hdd] at hd
          have hds : d.size ≤ 22 := by rw [← hdd]; show (Lib.itoa x).toArray.size ≤ 22; simp; omega
          have hway : (i = 0 ∧ Hid (t ++ d = ⟨(vfront xs (i + 1)).toArray⟩)) ∨ (0 < i ∧ Hid (t ++ ⟨#[32]⟩ ++ d = ⟨(vfront xs (i + 1)).toArray⟩)) := by
            rcases Nat.eq_zero_or_pos i with e | e
            · refine .inl ⟨e, Lib.hid ?_⟩
              subst e
              rw [HT.out, ← hdd, vfront_one hx]
              exact ByteArray.ext (by simp)
            · refine .inr ⟨e, Lib.hid ?_⟩
              rw [HT.out, ← hdd, vfront_succ hx e]
              exact ByteArray.ext (by simp)
          have Hd := Lib.hid hd
          clear hx hc hx0 hx1 hd hil hdd HT
          rcases hway with ⟨hi0, HE⟩ | ⟨hi0, HE⟩
          · subst hi0
            rw [Nat.add_zero] at hcV
            go_wp2_with fail
            refine Hd.out.mono ?_
            rintro e W ⟨rfl, hf⟩
            have HF2 := Lib.hid (HF.out.trans' hf)
            clear hf
            go_wp2
            go_roundw
            case rel => exact ⟨1, _, by omega, by go_num, rfl, HE, HF2⟩
            case measure => simp [intOf]; omega
          · go_wp2_with fail
            refine Hd.out.mono ?_
            rintro e W ⟨rfl, hf⟩
            have HF2 := Lib.hid (HF.out.trans' hf)
            clear hf
            go_wp2
            go_roundw
            case rel => exact ⟨i + 1, _, by omega, by go_num, rfl, HE, HF2⟩
            case measure => simp [intOf]; omega
        · obtain rfl : i = K := by omega
          go_wp2
          go_ret
          refine ⟨?_, HF.out⟩
          rw [vtext_front, HL.out]
          refine congrArg Ending.returned (congrArg Value.string ?_)
          rw [HT.out]
          exact ByteArray.ext (by simp)
    · have HL : Hid (vlast xs = 0) := Lib.hid (vlast_uniq HZ.out (.inl rfl))
      clear HZ
      go_wp2
      go_loopw [4, 5] (fun sv iv wr => iv = .int .i64 0 ∧ sv = .string ⟨#[91]⟩ ∧ w = wr) (fun _ iv _ => 0)
      case atStart => exact ⟨rfl, rfl, rfl⟩
      case round =>
        obtain ⟨rfl, rfl, rfl⟩ := hrel
        go_wp2
        go_ret
        refine ⟨?_, Fr.refl _ _⟩
        rw [vtext_front, HL.out, vfront_zero]
        exact congrArg Ending.returned (congrArg Value.string (ByteArray.ext (by simp)))
end Go.Proofs.YtgcjnhocoklfbaaGreatDoor
