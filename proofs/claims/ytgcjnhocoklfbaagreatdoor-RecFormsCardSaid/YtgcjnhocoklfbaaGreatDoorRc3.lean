/- The reference's CheckCell, CheckRec. -/
import Derived.Test.YtgcjnhocoklfbaaGreatDoorRc1
import Derived.Test.YtgcjnhocoklfbaaGreatDoorRefV
import Derived.Test.YtgcjnhocoklfbaaGreatDoorSplit
namespace Go.XL
open Go.RowKit Go.Shelf
theorem nb_at {l : List UInt8} (h : nameOk l = true) {j : Nat} {c : UInt8} (hj : l[j]? = some c) : nb c.toNat = true := List.all_eq_true.1 h c (List.mem_of_getElem? hj)
theorem nb_all {l : List UInt8} (h : ∀ (j : Nat) (c : UInt8), j < l.length → l[j]? = some c → nb c.toNat = true) : nameOk l = true := by
  unfold nameOk
  rw [List.all_eq_true]
  intro c hc
  obtain ⟨j, hj⟩ := List.getElem?_of_mem hc
  exact h j c (List.getElem?_eq_some_iff.1 hj).1 hj
theorem val_all {l : List UInt8} (h : ∀ (j : Nat) (c : UInt8), j < l.length → l[j]? = some c → 33 ≤ c.toNat ∧ c.toNat ≤ 126) : valOk l = true := by
  unfold valOk
  rw [List.all_eq_true]
  intro c hc
  obtain ⟨j, hj⟩ := List.getElem?_of_mem hc
  have := h j c (List.getElem?_eq_some_iff.1 hj).1 hj
  simpa using this
end Go.XL
namespace Go.Proofs.YtgcjnhocoklfbaaGreatDoor
open Go.RowKit Go.Shelf Go.XL
set_option linter.unusedVariables false
set_option linter.unusedSimpArgs false
attribute [local go_sem] Oper.semAt_some
set_option maxRecDepth 10000 in
set_option maxHeartbeats 4000000 in
theorem ref_checkcell (key val : ByteArray) (w : World) (hk : key.size ≤ 1000000) (hv : val.size ≤ 1000000) :
    Calls Tryz.prog 27 #[.string key, .string val] w fun e w' => e = .returned (.int .i64 (rccell key.data.toList val.data.toList)) ∧ w = w' := by
  obtain ⟨R, hR⟩ : ∃ R, rccell key.data.toList val.data.toList = R := ⟨_, rfl⟩
  rw [hR]
  have HR := Lib.hid hR
  clear hR
  by_cases hk1 : key.size < 1
  · have hk1' : (key.size : Int) < 1 := by omega
    have hR : (3 : Int) = R := by rw [← HR.out]; unfold rccell; rw [if_pos (by rw [data_len]; omega)]
    clear HR
    go_enter Tryz.func27, Tryz.ntmps27
    go_wp2
    go_ret
    exact ⟨by rw [← hR]; rfl, rfl⟩
  by_cases hk8 : 8 < key.size
  · have hk1' : ¬ (key.size : Int) < 1 := by omega
    have hk8' : (8 : Int) < key.size := by omega
    have hR : (3 : Int) = R := by rw [← HR.out]; unfold rccell; rw [if_pos (by rw [data_len]; omega)]
    clear HR
    go_enter Tryz.func27, Tryz.ntmps27
    go_wp2
    go_ret
    exact ⟨by rw [← hR]; rfl, rfl⟩
  have hk1' : ¬ (key.size : Int) < 1 := by omega
  have hk8' : ¬ (8 : Int) < key.size := by omega
  have hkk : ¬ (key.data.toList.length < 1 ∨ 8 < key.data.toList.length) := by rw [data_len]; omega
  have Hkk := Lib.hid hkk
  clear hkk
  go_enter Tryz.func27, Tryz.ntmps27
  go_wp2_with fail
  go_loop [5] (fun iv => ∃ i : Nat, i ≤ key.size ∧ iv = .int .i64 i ∧ Hid (∀ (j : Nat) (c : UInt8), j < i → key.data.toList[j]? = some c → nb c.toNat = true)) (fun iv => key.size - (intOf iv).toNat)
  case atStart => exact ⟨0, Nat.zero_le _, rfl, Lib.hid (fun j c h => by omega)⟩
  case round =>
    obtain ⟨i, hi, rfl, hall⟩ := hrel
    by_cases hlt : i < key.size
    · obtain ⟨c, hc0, hc⟩ := str_at key i hlt
      have Hc := Lib.hid hc
      clear hc
      have hcb : c.toNat < 256 := c.toNat_lt
      by_cases h1 : c.toNat < 97
      · have z1 : (c.toNat : Int) < 97 := by omega
        by_cases h2 : c.toNat < 48
        · have z2 : (c.toNat : Int) < 48 := by omega
          have hcn : nb c.toNat = false := by simp [nb]; omega
          have hR : (3 : Int) = R := by rw [← HR.out]; unfold rccell; rw [if_pos (by
            refine .inr (.inr ?_)
            cases hno : nameOk key.data.toList with
            | false => rfl
            | true => have := nb_at hno Hc.out; rw [hcn] at this; cases this)]
          clear HR
          go_wp2
          go_ret
          exact ⟨by rw [← hR]; rfl, rfl⟩
        · have z2 : ¬ (c.toNat : Int) < 48 := by omega
          by_cases h3 : 57 < c.toNat
          · have z3 : (57 : Int) < (c.toNat : Int) := by omega
            have hcn : nb c.toNat = false := by simp [nb]; omega
            have hR : (3 : Int) = R := by rw [← HR.out]; unfold rccell; rw [if_pos (by
              refine .inr (.inr ?_)
              cases hno : nameOk key.data.toList with
              | false => rfl
              | true => have := nb_at hno Hc.out; rw [hcn] at this; cases this)]
            clear HR
            go_wp2
            go_ret
            exact ⟨by rw [← hR]; rfl, rfl⟩
          · have z3 : ¬ (57 : Int) < (c.toNat : Int) := by omega
            have hcn : nb c.toNat = true := by simp [nb]; omega
            have hall2 : Hid (∀ (j : Nat) (d : UInt8), j < i + 1 → key.data.toList[j]? = some d → nb d.toNat = true) := Lib.hid (fun j d hj hd => by
              by_cases e : j = i
              · subst e
                have := Hc.out
                rw [this] at hd
                cases hd
                exact hcn
              · exact hall.out j d (by omega) hd)
            clear hall Hc hcn
            go_wp2
            go_round
            case rel => exact ⟨i + 1, by omega, by go_num, hall2⟩
            case measure => simp [intOf]; omega
      · have z1 : ¬ (c.toNat : Int) < 97 := by omega
        by_cases h2 : 122 < c.toNat
        · have z2 : (122 : Int) < (c.toNat : Int) := by omega
          have z3 : ¬ (c.toNat : Int) < 48 := by omega
          have z4 : (57 : Int) < (c.toNat : Int) := by omega
          have hcn : nb c.toNat = false := by simp [nb]; omega
          have hR : (3 : Int) = R := by rw [← HR.out]; unfold rccell; rw [if_pos (by
            refine .inr (.inr ?_)
            cases hno : nameOk key.data.toList with
            | false => rfl
            | true => have := nb_at hno Hc.out; rw [hcn] at this; cases this)]
          clear HR
          go_wp2
          go_ret
          exact ⟨by rw [← hR]; rfl, rfl⟩
        · have z2 : ¬ (122 : Int) < (c.toNat : Int) := by omega
          have hcn : nb c.toNat = true := by simp [nb]; omega
          have hall2 : Hid (∀ (j : Nat) (d : UInt8), j < i + 1 → key.data.toList[j]? = some d → nb d.toNat = true) := Lib.hid (fun j d hj hd => by
            by_cases e : j = i
            · subst e
              have := Hc.out
              rw [this] at hd
              cases hd
              exact hcn
            · exact hall.out j d (by omega) hd)
          clear hall Hc hcn
          go_wp2
          go_round
          case rel => exact ⟨i + 1, by omega, by go_num, hall2⟩
          case measure => simp [intOf]; omega
    · have hno : nameOk key.data.toList = true := nb_all (fun j c hj h => hall.out j c (by rw [data_len] at hj; omega) h)
      have hR2 : (if valOk val.data.toList = false then 2 else if 16 < val.data.toList.length then 4 else (0 : Int)) = R := by
        rw [← HR.out]; unfold rccell; exact (if_neg (by rw [hno]; intro h; rcases h with h | h | h; exact Hkk.out (.inl h); exact Hkk.out (.inr h); cases h)).symm
      have HR2 := Lib.hid hR2
      clear hR2 HR hall hno Hkk
      go_wp2_with fail
      go_loop [6] (fun iv => ∃ i : Nat, i ≤ val.size ∧ iv = .int .i64 i ∧ Hid (∀ (j : Nat) (c : UInt8), j < i → val.data.toList[j]? = some c → 33 ≤ c.toNat ∧ c.toNat ≤ 126)) (fun iv => val.size - (intOf iv).toNat)
      case atStart => exact ⟨0, Nat.zero_le _, rfl, Lib.hid (fun j c h => by omega)⟩
      case round =>
        rename_i i2 hlt2 _
        obtain ⟨k, hk, rfl, hall⟩ := hrel
        by_cases hltk : k < val.size
        · obtain ⟨c, hc0, hc⟩ := str_at val k hltk
          have Hc := Lib.hid hc
          clear hc
          have hcb : c.toNat < 256 := c.toNat_lt
          by_cases hc1 : c.toNat < 33
          · have z1 : (c.toNat : Int) < 33 := by omega
            have hR : (2 : Int) = R := by
              rw [← HR2.out, if_pos (by
                cases hv : valOk val.data.toList with
                | false => rfl
                | true => have := valOk_at hv Hc.out; omega)]
            clear HR2
            go_wp2
            go_ret
            exact ⟨by rw [← hR]; rfl, rfl⟩
          by_cases hc2 : 126 < c.toNat
          · have z1 : ¬ (c.toNat : Int) < 33 := by omega
            have z2 : (126 : Int) < (c.toNat : Int) := by omega
            have hR : (2 : Int) = R := by
              rw [← HR2.out, if_pos (by
                cases hv : valOk val.data.toList with
                | false => rfl
                | true => have := valOk_at hv Hc.out; omega)]
            clear HR2
            go_wp2
            go_ret
            exact ⟨by rw [← hR]; rfl, rfl⟩
          have z1 : ¬ (c.toNat : Int) < 33 := by omega
          have z2 : ¬ (126 : Int) < (c.toNat : Int) := by omega
          have hall2 : Hid (∀ (j : Nat) (d : UInt8), j < k + 1 → val.data.toList[j]? = some d → 33 ≤ d.toNat ∧ d.toNat ≤ 126) := Lib.hid (fun j d hj hd => by
            by_cases e : j = k
            · subst e
              have := Hc.out
              rw [this] at hd
              cases hd
              omega
            · exact hall.out j d (by omega) hd)
          clear hall
          go_wp2
          go_round
          case rel => exact ⟨k + 1, by omega, by go_num, hall2⟩
          case measure => simp [intOf]; omega
        · have hvo : valOk val.data.toList = true := val_all (fun j c hj h => hall.out j c (by rw [data_len] at hj; omega) h)
          have hR4 : (if 16 < val.size then 4 else (0 : Int)) = R := by have h := HR2.out; rw [if_neg (by rw [hvo]; decide), data_len] at h; exact h
          clear hall HR2
          by_cases hb16 : 16 < val.size
          · rw [if_pos hb16] at hR4
            have z1 : (16 : Int) < (val.size : Int) := by omega
            go_wp2
            go_ret
            exact ⟨by rw [← hR4]; rfl, rfl⟩
          · rw [if_neg hb16] at hR4
            have z1 : ¬ (16 : Int) < (val.size : Int) := by omega
            go_wp2
            go_ret
            exact ⟨by rw [← hR4]; rfl, rfl⟩
set_option maxRecDepth 10000 in
set_option maxHeartbeats 4000000 in
theorem ref_checkrec (r : Rc) (sites : Int) (w : World) (hr : RcOk w r) (hk : r.key.size ≤ 1000000) (hv : r.val.size ≤ 1000000) :
    Calls Tryz.prog 13 #[r.v, .int .i64 sites] w fun e w' => e = .returned (.int .i64 (r.check sites)) ∧ Fr no w w' := by
  obtain ⟨s, q, dv, dep, key, val⟩ := r
  obtain ⟨dO, dc, hdv, hdc, hdm⟩ := Rd.cap hr
  dsimp only at hdv hk hv hdc
  subst hdv
  unfold Rc.v Rc.check
  dsimp only
  obtain ⟨R, hR⟩ : ∃ R, rcheck s q dep key.data.toList val.data.toList sites = R := ⟨_, rfl⟩
  rw [hR]
  have hf1 : Fr no w (w.alloc (.cells #[.int .i64 s, .int .i64 q, .slice dO dep.length dc, .string key, .string val] 29)) := (Fr.refl no w).alloc _
  have hb1 : (w.alloc (.cells #[.int .i64 s, .int .i64 q, .slice dO dep.length dc, .string key, .string val] 29)).heap[w.heap.size]? = some (.cells #[.int .i64 s, .int .i64 q, .slice dO dep.length dc, .string key, .string val] 29 (0, 0)) := World.alloc_heap_new _ _
  by_cases h1 : sites < 1
  · have hR : (1 : Int) = R := by rw [← hR]; unfold rcheck; rw [if_pos (by omega)]
    clear hr hf1 hb1
    generalize dep.length = dn at *
    go_enter Tryz.func13, Tryz.ntmps13
    go_wp2
    go_ret
    exact ⟨by rw [← hR]; rfl, (Fr.refl no w).alloc _⟩
  by_cases h2 : 8 < sites
  · have hR : (1 : Int) = R := by rw [← hR]; unfold rcheck; rw [if_pos (by omega)]
    clear hr hf1 hb1
    generalize dep.length = dn at *
    go_enter Tryz.func13, Tryz.ntmps13
    go_wp2
    go_ret
    exact ⟨by rw [← hR]; rfl, (Fr.refl no w).alloc _⟩
  by_cases h3 : s < 0
  · have hR : (1 : Int) = R := by rw [← hR]; unfold rcheck; rw [if_pos (by omega)]
    clear hr hf1 hb1
    generalize dep.length = dn at *
    go_enter Tryz.func13, Tryz.ntmps13
    go_wp2
    go_ret
    exact ⟨by rw [← hR]; rfl, (Fr.refl no w).alloc _⟩
  by_cases h4 : sites ≤ s
  · have hR : (1 : Int) = R := by rw [← hR]; unfold rcheck; rw [if_pos (by omega)]
    clear hr hf1 hb1
    generalize dep.length = dn at *
    go_enter Tryz.func13, Tryz.ntmps13
    go_wp2
    go_ret
    exact ⟨by rw [← hR]; rfl, (Fr.refl no w).alloc _⟩
  by_cases h5 : q < 1
  · have hR : (1 : Int) = R := by rw [← hR]; unfold rcheck; rw [if_pos (by omega)]
    clear hr hf1 hb1
    generalize dep.length = dn at *
    go_enter Tryz.func13, Tryz.ntmps13
    go_wp2
    go_ret
    exact ⟨by rw [← hR]; rfl, (Fr.refl no w).alloc _⟩
  by_cases h6 : 1048576 < q
  · have hR : (1 : Int) = R := by rw [← hR]; unfold rcheck; rw [if_pos (by omega)]
    clear hr hf1 hb1
    generalize dep.length = dn at *
    go_enter Tryz.func13, Tryz.ntmps13
    go_wp2
    go_ret
    exact ⟨by rw [← hR]; rfl, (Fr.refl no w).alloc _⟩
  have hR1 : (if vcheck dep sites ≠ 0 then vcheck dep sites else if q ≤ vget dep s then 13 else rccell key.data.toList val.data.toList) = R := by
    rw [← hR]; unfold rcheck; exact (if_neg (by omega)).symm
  clear hR
  have hD := hr
  obtain ⟨w1, hw1⟩ : ∃ w1, w.alloc (.cells #[.int .i64 s, .int .i64 q, .slice dO dep.length dc, .string key, .string val] 29) = w1 := ⟨_, rfl⟩
  rw [hw1] at hf1 hb1
  have D1 : IntsAt w1 (.slice dO dep.length dc) dep := Rd.fr hD hf1 (fun _ _ _ f => f)
  have Hck := Lib.hid (ref_check _ dep sites w1 D1)
  have HD1 := Lib.hid D1
  have HB1 := Lib.hid hb1
  have HF1 := Lib.hid hf1
  have HW1 := Lib.hid hw1
  have HR1 := Lib.hid hR1
  clear hr hD hf1 hb1 hw1 hR1 D1
  generalize dep.length = dn at *
  obtain ⟨ec, hec⟩ : ∃ ec, vcheck dep sites = ec := ⟨_, rfl⟩
  rw [hec] at Hck HR1
  obtain ⟨vg, hvg⟩ : ∃ vg, vget dep s = vg := ⟨_, rfl⟩
  rw [hvg] at HR1
  have Hvg := Lib.hid hvg
  clear hec hvg
  go_enter Tryz.func13, Tryz.ntmps13
  go_upto_region 1 with (fail)
  rw [HW1.out]
  clear HW1
  generalize w.heap.size = gb at *
  have b0 : w1.cell? ⟨gb, 0, none⟩ = some (.int .i64 s) := cell_of_block HB1.out rfl
  have b1 : w1.cell? ⟨gb, 1, none⟩ = some (.int .i64 q) := cell_of_block HB1.out rfl
  have b2 : w1.cell? ⟨gb, 2, none⟩ = some (.slice dO dn dc) := cell_of_block HB1.out rfl
  go_wp2_with fail
  refine Hck.out.mono ?_
  rintro e w2 ⟨rfl, rfl⟩
  clear Hck
  by_cases he : ec = 0
  · subst he
    have hget : ∀ n : Nat, Calls Tryz.prog 26 #[.slice dO dn dc, .int .i64 s] (w1.drewN n) fun e w' => e = .returned (.int .i64 vg) ∧ w' = w1.drewN n := fun n => by
      refine (ref_get _ dep s _ (HD1.out.fr ((Fr.refl no w1).drewN n) (fun _ _ _ f => f))).mono ?_
      rintro e w' ⟨rfl, rfl⟩
      exact ⟨by rw [Hvg.out], rfl⟩
    have Hget := Lib.hid hget
    clear hget
    go_wp2_with fail
    go_quiet ((go_at_call 26; exact Calls.quiet_of_same (Hget.out _)))
    obtain ⟨w3, hw3⟩ : ∃ U, w1.drewN nq = U := ⟨_, rfl⟩
    have HF3 : Hid (Fr no w1 w3) := Lib.hid (by rw [← hw3]; exact (Fr.refl no w1).drewN nq)
    rw [hw3]
    clear hw3 b0 b1 b2 Hget
    have hb3 := HF3.out.heap HB1.out (fun f => f)
    have b3 : w3.cell? ⟨gb, 3, none⟩ = some (.string key) := cell_of_block hb3 rfl
    have b4 : w3.cell? ⟨gb, 4, none⟩ = some (.string val) := cell_of_block hb3 rfl
    have HF4 := Lib.hid (HF1.out.trans' HF3.out)
    clear hb3
    by_cases hqv : q ≤ vg
    · have hR : (13 : Int) = R := by rw [← HR1.out, if_neg (by simp), if_pos hqv]
      clear HR1
      go_wp2
      go_ret
      exact ⟨by rw [← hR]; rfl, HF4.out⟩
    have hR2 : rccell key.data.toList val.data.toList = R := by rw [← HR1.out, if_neg (by simp), if_neg hqv]
    have Hcc := Lib.hid (ref_checkcell key val w3 hk hv)
    rw [hR2] at Hcc
    clear HR1 hR2
    go_wp2_with fail
    refine Hcc.out.mono ?_
    rintro e w4 ⟨rfl, rfl⟩
    clear Hcc
    go_wp2
    go_ret
    exact ⟨rfl, HF4.out⟩
  · have hne : (ec != 0) = true := by simpa using he
    have hR : ec = R := by rw [← HR1.out, if_pos he]
    clear he HR1
    go_wp2
    go_ret
    first | exact ⟨by rw [hR], HF1.out⟩ | exact ⟨rfl, HF1.out⟩
end Go.Proofs.YtgcjnhocoklfbaaGreatDoor
