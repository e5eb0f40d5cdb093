/- Package rec: Check. -/
import Derived.Test.YtgcjnhocoklfbaaGreatDoorRc0
namespace Go.Proofs.YtgcjnhocoklfbaaGreatDoor
open Go.RowKit Go.Shelf Go.XL
set_option linter.unusedVariables false
set_option linter.unusedSimpArgs false
attribute [local go_sem] Oper.semAt_some
set_option maxRecDepth 10000 in
set_option maxHeartbeats 4000000 in
theorem r_check (r : Rc) (sites : Int) (w : World) (hr : RcOk w r) (hk : r.key.size ≤ 1000000) (hv : r.val.size ≤ 1000000) (hG : GlU w) :
    Calls Tryz.prog 14 #[r.v, .int .i64 sites] w fun e w' => e = .returned (.int .i64 (r.check sites)) ∧ Fr no w w' := by
  obtain ⟨s, q, dv, dep, key, val⟩ := r
  obtain ⟨dO, dc, hdv, hdc, hdm⟩ := Rd.cap hr
  dsimp only at hdv hk hv hdc
  subst hdv
  unfold Rc.v Rc.check
  dsimp only
  obtain ⟨R, hR⟩ : ∃ R, rcheck s q dep key.data.toList val.data.toList sites = R := ⟨_, rfl⟩
  rw [hR]
  have hf1 : Fr no w (w.alloc (.cells #[.int .i64 s, .int .i64 q, .slice dO dep.length dc, .string key, .string val] 25)) := (Fr.refl no w).alloc _
  have hb1 : (w.alloc (.cells #[.int .i64 s, .int .i64 q, .slice dO dep.length dc, .string key, .string val] 25)).heap[w.heap.size]? = some (.cells #[.int .i64 s, .int .i64 q, .slice dO dep.length dc, .string key, .string val] 25 (0, 0)) := World.alloc_heap_new _ _
  by_cases h1 : sites < 1
  · have hR : (1 : Int) = R := by rw [← hR]; unfold rcheck; rw [if_pos (by omega)]
    clear hr hG hf1 hb1
    generalize dep.length = dn at *
    go_enter Tryz.func14, Tryz.ntmps14
    go_wp2
    go_ret
    exact ⟨by rw [← hR]; rfl, (Fr.refl no w).alloc _⟩
  by_cases h2 : 8 < sites
  · have hR : (1 : Int) = R := by rw [← hR]; unfold rcheck; rw [if_pos (by omega)]
    clear hr hG hf1 hb1
    generalize dep.length = dn at *
    go_enter Tryz.func14, Tryz.ntmps14
    go_wp2
    go_ret
    exact ⟨by rw [← hR]; rfl, (Fr.refl no w).alloc _⟩
  by_cases h3 : s < 0
  · have hR : (1 : Int) = R := by rw [← hR]; unfold rcheck; rw [if_pos (by omega)]
    clear hr hG hf1 hb1
    generalize dep.length = dn at *
    go_enter Tryz.func14, Tryz.ntmps14
    go_wp2
    go_ret
    exact ⟨by rw [← hR]; rfl, (Fr.refl no w).alloc _⟩
  by_cases h4 : sites ≤ s
  · have hR : (1 : Int) = R := by rw [← hR]; unfold rcheck; rw [if_pos (by omega)]
    clear hr hG hf1 hb1
    generalize dep.length = dn at *
    go_enter Tryz.func14, Tryz.ntmps14
    go_wp2
    go_ret
    exact ⟨by rw [← hR]; rfl, (Fr.refl no w).alloc _⟩
  by_cases h5 : q < 1
  · have hR : (1 : Int) = R := by rw [← hR]; unfold rcheck; rw [if_pos (by omega)]
    clear hr hG hf1 hb1
    generalize dep.length = dn at *
    go_enter Tryz.func14, Tryz.ntmps14
    go_wp2
    go_ret
    exact ⟨by rw [← hR]; rfl, (Fr.refl no w).alloc _⟩
  by_cases h6 : 1048576 < q
  · have hR : (1 : Int) = R := by rw [← hR]; unfold rcheck; rw [if_pos (by omega)]
    clear hr hG hf1 hb1
    generalize dep.length = dn at *
    go_enter Tryz.func14, Tryz.ntmps14
    go_wp2
    go_ret
    exact ⟨by rw [← hR]; rfl, (Fr.refl no w).alloc _⟩
  have hR1 : (if vcheck dep sites ≠ 0 then vcheck dep sites else if q ≤ vget dep s then 13 else rccell key.data.toList val.data.toList) = R := by
    rw [← hR]; unfold rcheck; exact (if_neg (by omega)).symm
  clear hR
  have hD := hr
  obtain ⟨w1, hw1⟩ : ∃ w1, w.alloc (.cells #[.int .i64 s, .int .i64 q, .slice dO dep.length dc, .string key, .string val] 25) = w1 := ⟨_, rfl⟩
  rw [hw1] at hf1 hb1
  have D1 : IntsAt w1 (.slice dO dep.length dc) dep := Rd.fr hD hf1 (fun _ _ _ f => f)
  have Hck := Lib.hid (vec_check _ dep sites w1 D1)
  have HD1 := Lib.hid D1
  have HB1 := Lib.hid hb1
  have HF1 := Lib.hid hf1
  have HG := Lib.hid hG
  have HW1 := Lib.hid hw1
  have HR1 := Lib.hid hR1
  clear hr hD hf1 hb1 hG hw1 hR1 D1
  generalize dep.length = dn at *
  obtain ⟨ec, hec⟩ : ∃ ec, vcheck dep sites = ec := ⟨_, rfl⟩
  rw [hec] at Hck HR1
  obtain ⟨vg, hvg⟩ : ∃ vg, vget dep s = vg := ⟨_, rfl⟩
  rw [hvg] at HR1
  have Hvg := Lib.hid hvg
  clear hec hvg
  go_enter Tryz.func14, Tryz.ntmps14
  go_upto_region 1 with (fail)
  rw [HW1.out]
  clear HW1
  generalize w.heap.size = gb at *
  have b0 : w1.cell? ⟨gb, 0, none⟩ = some (.int .i64 s) := cell_of_block HB1.out rfl
  have b1 : w1.cell? ⟨gb, 1, none⟩ = some (.int .i64 q) := cell_of_block HB1.out rfl
  have b2 : w1.cell? ⟨gb, 2, none⟩ = some (.slice dO dn dc) := cell_of_block HB1.out rfl
  go_wp2_with fail
  refine Hck.out.mono ?_
  rintro e w2 ⟨rfl, hf2⟩
  have HF2 := Lib.hid hf2
  clear b0 b1 b2 Hck hf2
  by_cases he : ec = 0
  · subst he
    have hb2 := HF2.out.heap HB1.out (fun f => f)
    have b0 : w2.cell? ⟨gb, 0, none⟩ = some (.int .i64 s) := cell_of_block hb2 rfl
    have b1 : w2.cell? ⟨gb, 1, none⟩ = some (.int .i64 q) := cell_of_block hb2 rfl
    have b2 : w2.cell? ⟨gb, 2, none⟩ = some (.slice dO dn dc) := cell_of_block hb2 rfl
    have HB2 := Lib.hid hb2
    have hget : ∀ n : Nat, Calls Tryz.prog 29 #[.slice dO dn dc, .int .i64 s] (w2.drewN n) fun e w' => e = .returned (.int .i64 vg) ∧ w' = w2.drewN n := fun n => by
      refine (vec_get _ dep s _ ((HD1.out.fr HF2.out (fun _ _ _ f => f)).fr ((Fr.refl no w2).drewN n) (fun _ _ _ f => f))).mono ?_
      rintro e w' ⟨rfl, rfl⟩
      exact ⟨by rw [Hvg.out], rfl⟩
    have Hget := Lib.hid hget
    clear hb2 hget
    go_wp2_with fail
    go_quiet ((go_at_call 29; exact Calls.quiet_of_same (Hget.out _)))
    obtain ⟨w3, hw3⟩ : ∃ U, w2.drewN nq = U := ⟨_, rfl⟩
    have HF3 : Hid (Fr no w2 w3) := Lib.hid (by rw [← hw3]; exact (Fr.refl no w2).drewN nq)
    rw [hw3]
    clear hw3 b0 b1 b2 Hget
    have hb3 := HF3.out.heap HB2.out (fun f => f)
    have b3 : w3.cell? ⟨gb, 3, none⟩ = some (.string key) := cell_of_block hb3 rfl
    have HB3 := Lib.hid hb3
    have HF4 := Lib.hid ((HF1.out.trans' HF2.out).trans' HF3.out)
    clear hb3
    by_cases hqv : q ≤ vg
    · have hR : (13 : Int) = R := by rw [← HR1.out, if_neg (by simp), if_pos hqv]
      clear HR1
      go_wp2
      go_ret
      exact ⟨by rw [← hR]; rfl, HF4.out⟩
    have hR2 : rccell key.data.toList val.data.toList = R := by rw [← HR1.out, if_neg (by simp), if_neg hqv]
    have HR2 := Lib.hid hR2
    clear HR1 hR2
    by_cases hk1 : key.size < 1
    · have hk1' : (key.size : Int) < 1 := by omega
      have hR : (3 : Int) = R := by rw [← HR2.out]; unfold rccell; rw [if_pos (by rw [data_len]; omega)]
      clear HR2
      go_wp2
      go_ret
      exact ⟨by rw [← hR]; rfl, HF4.out⟩
    by_cases hk8 : 8 < key.size
    · have hk1' : ¬ (key.size : Int) < 1 := by omega
      have hk8' : (8 : Int) < key.size := by omega
      have hR : (3 : Int) = R := by rw [← HR2.out]; unfold rccell; rw [if_pos (by rw [data_len]; omega)]
      clear HR2
      go_wp2
      go_ret
      exact ⟨by rw [← hR]; rfl, HF4.out⟩
    have hk1' : ¬ (key.size : Int) < 1 := by omega
    have hk8' : ¬ (8 : Int) < key.size := by omega
    have hkk : ¬ (key.data.toList.length < 1 ∨ 8 < key.data.toList.length) := by rw [data_len]; omega
    have Hkk := Lib.hid hkk
    have Htr := Lib.hid (s_trimName key w3 (by omega) (HG.out.fr HF4.out))
    clear hkk
    go_wp2_with fail
    refine Htr.out.mono ?_
    rintro e w4 ⟨t, rfl, htn, hf4⟩
    have HF5 := Lib.hid (HF4.out.trans' hf4)
    have hb4 := hf4.heap HB3.out (fun f => f)
    have HB4 := Lib.hid hb4
    clear hf4 b3 Htr
    cases hn : nameOk key.data.toList with
    | false =>
      rw [hn] at htn
      have hte : t.toList.isEmpty = false := by cases h : t.toList with
        | nil => rw [h] at htn; cases htn
        | cons a b => rfl
      have hR : (3 : Int) = R := by rw [← HR2.out]; unfold rccell; rw [if_pos (by rw [hn]; exact .inr (.inr rfl))]
      clear HR2 hb4
      go_wp2
      go_ret
      exact ⟨by rw [← hR]; rfl, HF5.out⟩
    | true =>
      rw [hn] at htn
      have hte : t.toList.isEmpty = true := by cases h : t.toList with
        | nil => rfl
        | cons a b => rw [h] at htn; cases htn
      have hR3 : (if valOk val.data.toList = false then 2 else if 16 < val.data.toList.length then 4 else (0 : Int)) = R := by
        rw [← HR2.out]; unfold rccell; exact (if_neg (by rw [hn]; intro h; rcases h with h | h | h; exact Hkk.out (.inl h); exact Hkk.out (.inr h); cases h)).symm
      have HR3 := Lib.hid hR3
      have b4 : w4.cell? ⟨gb, 4, none⟩ = some (.string val) := cell_of_block hb4 rfl
      have hcv := Lib.run_convert_string_bytes (P := Tryz.prog) w4 9 61 5 val Tryz.underlying9 Tryz.underlying61 Tryz.underlying5
      have hbw := fr_bytesW w4 5 val
      have hbc := fun j (hj : j < val.size) => Lib.bytesWorld_cell w4 5 val j hj
      obtain ⟨w5, hw5⟩ : ∃ U, Lib.bytesWorld w4 5 val = U := ⟨_, rfl⟩
      rw [hw5] at hcv hbw hbc
      obtain ⟨cc, hcc⟩ : ∃ c, grownCap w4 val.size 0 5 = c := ⟨_, rfl⟩
      rw [hcc] at hcv
      obtain ⟨gv, hgv⟩ : ∃ g, w4.heap.size = g := ⟨_, rfl⟩
      rw [hgv] at hcv hbc
      have Hbc := Lib.hid hbc
      have HF6 := Lib.hid (HF5.out.trans' hbw)
      have hb5 := hbw.heap hb4 (fun f => f)
      have HB5 := Lib.hid hb5
      clear hR3 HR2 hbw hbc hcc hgv hw5 hb4 hb5 htn hn
      go_wp2_with fail
      clear hcv b4
      obtain ⟨N, hN⟩ : ∃ N, val.size = N := ⟨_, rfl⟩
      have HN := Lib.hid hN
      have hN9 : N ≤ 1000000 := by omega
      rw [hN]
      clear hN
      go_loop [72] (fun iv => ∃ i : Nat, i ≤ N ∧ iv = .int .i64 i ∧ Hid (∀ (j : Nat) (c : UInt8), j < i → val.data.toList[j]? = some c → 33 ≤ c.toNat ∧ c.toNat ≤ 126)) (fun iv => N - (intOf iv).toNat)
      case atStart => exact ⟨0, Nat.zero_le _, rfl, Lib.hid (fun j c h => by omega)⟩
      case round =>
        obtain ⟨i, hi, rfl, hall⟩ := hrel
        by_cases hil : i < N
        · obtain ⟨c, hc⟩ : ∃ c, val.data.toList[i]? = some c := ⟨val.data.toList[i]'(by rw [data_len, HN.out]; exact hil), by simp⟩
          have hcell : w5.cell? ⟨gv, i, none⟩ = some (.int .u8 c.toNat) := by
            have := Hbc.out i (by rw [HN.out]; exact hil)
            rwa [show val.data.toList.getD i 0 = c by simp [List.getD, hc]] at this
          have hcb : c.toNat < 256 := c.toNat_lt
          have Hc := Lib.hid hc
          clear hc
          by_cases hc1 : c.toNat < 33
          · have z1 : (c.toNat : Int) < 33 := by omega
            have hR : (2 : Int) = R := by
              rw [← HR3.out, if_pos (by
                cases hv : valOk val.data.toList with
                | false => rfl
                | true => have := valOk_at hv Hc.out; omega)]
            clear HR3
            go_wp2
            go_ret
            exact ⟨by rw [← hR]; rfl, HF6.out⟩
          by_cases hc2 : 126 < c.toNat
          · have z1 : ¬ (c.toNat : Int) < 33 := by omega
            have z2 : (126 : Int) < (c.toNat : Int) := by omega
            have hR : (2 : Int) = R := by
              rw [← HR3.out, if_pos (by
                cases hv : valOk val.data.toList with
                | false => rfl
                | true => have := valOk_at hv Hc.out; omega)]
            clear HR3
            go_wp2
            go_ret
            exact ⟨by rw [← hR]; rfl, HF6.out⟩
          have z1 : ¬ (c.toNat : Int) < 33 := by omega
          have z2 : ¬ (126 : Int) < (c.toNat : Int) := by omega
          have hall2 : Hid (∀ (j : Nat) (d : UInt8), j < i + 1 → val.data.toList[j]? = some d → 33 ≤ d.toNat ∧ d.toNat ≤ 126) := Lib.hid (fun j d hj hd => by
            by_cases e : j = i
            · subst e
              have := Hc.out
              rw [this] at hd
              cases hd
              omega
            · exact hall.out j d (by omega) hd)
          clear hall
          go_wp2
          go_round
          case rel => exact ⟨i + 1, by omega, by go_num, hall2⟩
          case measure => simp [intOf]; omega
        · obtain rfl : i = N := by omega
          have hvo : valOk val.data.toList = true := by
            cases hv : valOk val.data.toList with
            | true => rfl
            | false =>
              obtain ⟨j, c, h1, h2, _⟩ := valOk_bad hv
              have hlt := (List.getElem?_eq_some_iff.1 h1).1
              rw [data_len, HN.out] at hlt
              exact absurd (hall.out j c hlt h1) h2
          have hb6 : w5.cell? ⟨gb, 4, none⟩ = some (.string val) := cell_of_block HB5.out rfl
          have hR4 : (if 16 < i then 4 else (0 : Int)) = R := by have h := HR3.out; rw [if_neg (by rw [hvo]; decide), data_len, HN.out] at h; exact h
          have hN2 : (val.size : Int) = (i : Int) := by rw [HN.out]
          clear hall HR3
          by_cases hb16 : 16 < i
          · rw [if_pos hb16] at hR4
            have z1 : (16 : Int) < (i : Int) := by omega
            go_wp2
            go_ret
            exact ⟨by rw [← hR4]; rfl, HF6.out⟩
          · rw [if_neg hb16] at hR4
            have z1 : ¬ (16 : Int) < (i : Int) := by omega
            go_wp2
            go_ret
            exact ⟨by rw [← hR4]; rfl, HF6.out⟩
  · have hne : (ec != 0) = true := by simpa using he
    have hR : ec = R := by rw [← HR1.out, if_pos he]
    clear he HR1
    go_wp2
    go_ret
    first | exact ⟨by rw [hR], HF1.out.trans' HF2.out⟩ | exact ⟨rfl, HF1.out.trans' HF2.out⟩
end Go.Proofs.YtgcjnhocoklfbaaGreatDoor
