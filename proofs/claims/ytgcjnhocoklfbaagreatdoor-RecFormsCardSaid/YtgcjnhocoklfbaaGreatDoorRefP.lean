/- Contracts of the reference's readers of texts: digits, Number, Split. -/
import Derived.Test.YtgcjnhocoklfbaaGreatDoorSplit
import Derived.Test.YtgcjnhocoklfbaaGreatDoorRefVec
import Derived.RegionTactic
import Derived.BigRegion
namespace Go.Proofs.YtgcjnhocoklfbaaGreatDoor
open Go.RowKit Go.Shelf Go.XL
set_option linter.unusedVariables false
set_option linter.unusedSimpArgs false
attribute [local go_sem] Oper.semAt_some
set_option maxRecDepth 100000 in
set_option maxHeartbeats 2000000 in
theorem ref_digits (s : ByteArray) (w : World) (hs : s.size ≤ 1099511627776) :
    Calls Tryz.prog 62 #[.string s] w fun e w' => e = .returned (.bool (digs s.data.toList)) ∧ w = w' := by
  by_cases hne : s.toList = []
  · have e0 : digs s.data.toList = false := by rw [← ByteArray.toList_eq, hne]; rfl
    rw [e0]
    go_enter Tryz.func62, Tryz.ntmps62
    go_wp2
    go_ret
    exact ⟨rfl, rfl⟩
  · have hne' : s.toList.isEmpty = false := by simpa using hne
    have hsz := str_size hne
    have hnl : s.data.toList ≠ [] := by rw [← ByteArray.toList_eq]; exact hne
    obtain ⟨c, hc0, hc⟩ := str_head s hsz
    have hlen := str_len s
    have Hlen := Lib.hid hlen
    by_cases hz : c.toNat = 48 ∧ 1 < s.size
    · obtain ⟨hz1, hz2⟩ := hz
      have e0 : digs s.data.toList = false := digs_zero (by rw [hc]; exact congrArg some (UInt8.toNat_inj.1 hz1)) (by rw [hlen]; exact hz2)
      rw [e0]
      clear hnl hc hlen
      have hz1' : (c.toNat : Int) = 48 := by omega
      go_enter Tryz.func62, Tryz.ntmps62
      go_wp2
      go_ret
      exact ⟨rfl, rfl⟩
    · have e0 : digs s.data.toList = s.data.toList.all isDig := digs_of hnl (by
        rintro ⟨h1, h2⟩
        rw [hc] at h1
        injection h1 with h1
        exact hz ⟨by rw [h1]; rfl, by rw [← hlen]; exact h2⟩)
      rw [e0]
      clear hnl hc hlen
      have hway : (¬ (c.toNat : Int) = 48) ∨ ((c.toNat : Int) = 48 ∧ ¬ 1 < s.size) := by omega
      clear hz
      generalize hl : s.data.toList = l at *
      have Hl := Lib.hid hl
      clear hl
      go_enter Tryz.func62, Tryz.ntmps62
      rcases hway with hway | ⟨hway, hway2⟩
      all_goals
        go_wp2_with fail
        go_loop [3] (fun jv => ∃ (j : Nat), j ≤ s.size ∧ jv = .int .i64 j ∧ Hid ((l.take j).all isDig = true)) (fun jv => s.size - (intOf jv).toNat)
        case atStart => exact ⟨0, Nat.zero_le _, rfl, Lib.hid (by simp)⟩
        case round =>
          obtain ⟨j, hj, rfl, HA⟩ := hrel
          by_cases hlt : j < s.size
          · obtain ⟨d, hd0, hd⟩ := str_at s j hlt
            rw [Hl.out] at hd
            by_cases hdd : 48 ≤ d.toNat ∧ d.toNat ≤ 57
            · obtain ⟨hd1, hd2⟩ := hdd
              have HA2 : Hid ((l.take (j + 1)).all isDig = true) := Lib.hid (by rw [all_take_succ hd, HA.out]; simp [isDig, hd1, hd2])
              have hd1' : (48 : Int) ≤ d.toNat := by omega
              have hd2' : (d.toNat : Int) ≤ 57 := by omega
              clear hd HA hd1 hd2
              go_wp2
              go_round
              case rel => exact ⟨j + 1, by omega, by go_num, HA2⟩
              case measure => simp [intOf]; omega
            · have hb : l.all isDig = false := all_bad hd (by unfold isDig; rw [Bool.and_eq_false_iff, decide_eq_false_iff_not, decide_eq_false_iff_not]; omega)
              have Hb := Lib.hid hb
              have hway3 : (d.toNat : Int) < 48 ∨ (48 ≤ (d.toNat : Int) ∧ 57 < (d.toNat : Int)) := by omega
              clear hd HA hdd hb
              rcases hway3 with hw3 | ⟨hw3, hw4⟩
              all_goals
                go_wp2
                go_ret
                exact ⟨by rw [Hb.out]; rfl, rfl⟩
          · have hjn : j = s.size := by omega
            have e1 : l.all isDig = true := by
              have := HA.out
              rw [List.take_of_length_le (by rw [Hlen.out]; omega)] at this
              exact this
            have E1 := Lib.hid e1
            clear e1
            go_wp2
            go_ret
            exact ⟨by rw [E1.out]; rfl, rfl⟩
set_option maxRecDepth 100000 in
set_option maxHeartbeats 2000000 in
theorem ref_number (s : ByteArray) (w : World) (hs : s.size ≤ 1099511627776) :
    Calls Tryz.prog 45 #[.string s] w fun e w' => e = .returned (.tuple #[.int .i64 (rnum s.data.toList).1, .bool (rnum s.data.toList).2]) ∧ w = w' := by
  by_cases hne : s.toList = []
  · have e0 : rnum s.data.toList = (0, false) := rnum_bad (by rw [← ByteArray.toList_eq, hne]; rfl)
    rw [e0]
    go_enter Tryz.func45, Tryz.ntmps45
    go_wp2
    go_ret2
    exact ⟨rfl, rfl⟩
  · have hne' : s.toList.isEmpty = false := by simpa using hne
    have hsz := str_size hne
    have hnl : s.data.toList ≠ [] := by rw [← ByteArray.toList_eq]; exact hne
    obtain ⟨c, hc0, hc⟩ := str_head s hsz
    have hlen := str_len s
    have Hlen := Lib.hid hlen
    by_cases hz : c.toNat = 48 ∧ 1 < s.size
    · obtain ⟨hz1, hz2⟩ := hz
      have e0 : rnum s.data.toList = (0, false) := rnum_bad (digs_zero (by rw [hc]; exact congrArg some (UInt8.toNat_inj.1 hz1)) (by rw [hlen]; exact hz2))
      rw [e0]
      clear hnl hc hlen
      have hz1' : (c.toNat : Int) = 48 := by omega
      go_enter Tryz.func45, Tryz.ntmps45
      go_wp2
      go_ret2
      exact ⟨rfl, rfl⟩
    · have e0 : digs s.data.toList = s.data.toList.all isDig := digs_of hnl (by
        rintro ⟨h1, h2⟩
        rw [hc] at h1
        injection h1 with h1
        exact hz ⟨by rw [h1]; rfl, by rw [← hlen]; exact h2⟩)
      have hway : (¬ (c.toNat : Int) = 48) ∨ ((c.toNat : Int) = 48 ∧ ¬ 1 < s.size) := by omega
      clear hz hnl hc hlen
      generalize hl : s.data.toList = l at *
      have Hl := Lib.hid hl
      have E0 := Lib.hid e0
      clear hl e0
      obtain ⟨r, hr⟩ : ∃ r, rnum l = r := ⟨_, rfl⟩
      rw [hr]
      have Hr := Lib.hid hr
      clear hr
      go_enter Tryz.func45, Tryz.ntmps45
      rcases hway with hway | ⟨hway, hway2⟩
      all_goals
        go_wp2_with fail
        go_loop [4, 5] (fun mv jv => ∃ (m j : Nat), j ≤ s.size ∧ jv = .int .i64 j ∧ mv = .int .i64 m ∧ m ≤ 2147483647 ∧ Hid ((l.take j).all isDig = true) ∧ Hid (dval (l.take j) = m)) (fun _ jv => s.size - (intOf jv).toNat)
        case atStart => exact ⟨0, 0, Nat.zero_le _, rfl, rfl, by omega, Lib.hid (by simp), Lib.hid (by simp [dval, dgo])⟩
        case round =>
          obtain ⟨m, j, hj, rfl, rfl, hm, HA, HM⟩ := hrel
          by_cases hlt : j < s.size
          · obtain ⟨d, hd0, hd⟩ := str_at s j hlt
            rw [Hl.out] at hd
            by_cases hdd : 48 ≤ d.toNat ∧ d.toNat ≤ 57
            · obtain ⟨hd1, hd2⟩ := hdd
              have HA2 : Hid ((l.take (j + 1)).all isDig = true) := Lib.hid (by rw [all_take_succ hd, HA.out]; simp [isDig, hd1, hd2])
              have hM2 : dval (l.take (j + 1)) = m * 10 + (d.toNat - 48) := by rw [dval_take_succ hd, HM.out]
              have hd1' : (48 : Int) ≤ d.toNat := by omega
              have hd2' : (d.toNat : Int) ≤ 57 := by omega
              obtain ⟨m2, hm2⟩ : ∃ m2, m * 10 + (d.toNat - 48) = m2 := ⟨_, rfl⟩
              rw [hm2] at hM2
              have hm2' : 10 * (m : Int) + ((d.toNat : Int) - 48) = m2 := by omega
              have HM2 := Lib.hid hM2
              clear hd HA hd1 hd2 hM2 HM
              by_cases hbig : 2147483647 < m2
              · have hb : r = (0, false) := by rw [← Hr.out]; exact rnum_big (j + 1) (by rw [HM2.out]; exact hbig)
                have hbig' : (2147483647 : Int) < m2 := by omega
                have Hb := Lib.hid hb
                clear hb
                go_wp2
                go_ret2
                refine ⟨?_, rfl⟩
                rw [Hb.out]
                rfl
              · have hbig' : (m2 : Int) ≤ 2147483647 := by omega
                go_wp2
                go_round
                case rel => exact ⟨m2, j + 1, by omega, by go_num, by go_num, by omega, HA2, HM2⟩
                case measure => simp [intOf]; omega
            · have hb : l.all isDig = false := all_bad hd (by unfold isDig; rw [Bool.and_eq_false_iff, decide_eq_false_iff_not, decide_eq_false_iff_not]; omega)
              have hb2 : r = (0, false) := by rw [← Hr.out]; exact rnum_bad (by rw [E0.out]; exact hb)
              have Hb := Lib.hid hb2
              have hway3 : (d.toNat : Int) < 48 ∨ (48 ≤ (d.toNat : Int) ∧ 57 < (d.toNat : Int)) := by omega
              clear hd HA hdd hb hb2
              rcases hway3 with hw3 | ⟨hw3, hw4⟩
              all_goals
                go_wp2
                go_ret2
                refine ⟨?_, rfl⟩
                rw [Hb.out]
                rfl
          · have hjn : j = s.size := by omega
            have e1 : l.all isDig = true ∧ dval l = m := by
              have h1 := HA.out
              have h2 := HM.out
              rw [List.take_of_length_le (by rw [Hlen.out]; omega)] at h1 h2
              exact ⟨h1, h2⟩
            have e2 : r = ((m : Int), true) := by rw [← Hr.out, rnum_ok (by rw [E0.out]; exact e1.1) (by rw [e1.2]; exact hm), e1.2]
            have E2 := Lib.hid e2
            clear e1 e2
            go_wp2
            go_ret2
            refine ⟨?_, rfl⟩
            rw [E2.out]
            rfl
set_option maxRecDepth 100000 in
set_option maxHeartbeats 4000000 in
theorem ref_split (s : ByteArray) (b : UInt8) (w : World) (hs : s.size ≤ 100000000) :
    Calls Tryz.prog 61 #[.string s, .int .u8 b.toNat] w fun e w' => ∃ v', e = .returned v' ∧ Ow w w' 9 1 v' (bsplit b s.data.toList).length ((bsplit b s.data.toList).map strv) := by
  have hlen := str_len s
  have Hlen := Lib.hid hlen
  have hO := ow_one w 9 (.string ⟨#[]⟩)
  have HO := Lib.hid hO
  clear hlen hO
  generalize hl : s.data.toList = l at *
  have Hl := Lib.hid hl
  clear hl
  obtain ⟨i0, hi, hz0, hz1, hz2⟩ := info_parts (show (Tryz.prog.info? 9).map (fun i => (i.zero, i.size, i.bytes)) = some (some (.string ⟨#[]⟩), 1, 16) by kernel_rfl)
  go_enter Tryz.func61, Tryz.ntmps61
  go_wp2_with fail
  go_loopw [5, 6] (fun ov jv wr => ∃ (j k : Nat) (bo : Option Addr) (bc : Nat), j ≤ s.size ∧ 0 < k ∧ k ≤ j + 1 ∧ jv = .int .i64 j ∧ ov = .slice bo k bc ∧ Hid ((bsplit b (l.take j)).length = k) ∧ Hid (Ow w wr 9 1 (.slice bo k bc) k ((bsplit b (l.take j)).map strv))) (fun _ jv _ => s.size - (intOf jv).toNat)
  case atStart => exact ⟨0, 1, _, _, Nat.zero_le _, by omega, by omega, rfl, rfl, Lib.hid rfl, HO⟩
  case round =>
    obtain ⟨j, k, bo, bc, hj, hk0, hkj, rfl, rfl, HK, HO⟩ := hrel
    by_cases hlt : j < s.size
    · obtain ⟨c, hc0, hc⟩ := str_at s j hlt
      rw [Hl.out] at hc
      have hsn := bsplit_snoc b c (l.take j)
      have htk : l.take (j + 1) = l.take j ++ [c] := by rw [List.take_add_one, hc]; rfl
      rw [← htk] at hsn
      by_cases hcb : c = b
      · subst hcb
        rw [if_pos rfl] at hsn
        have Hsn := Lib.hid hsn
        clear hc htk hsn
        go_wp2_with (at_builtin; refine wpList_append_one _ (.string ⟨#[]⟩) 9 rfl _ _ 84 rfl 9 i0 (.string ⟨#[]⟩) 16 Tryz.underlying84 hi hz0 hz1 hz2 rfl _ k _ rfl HO.out.sl rfl rfl (by unfold maxLen; omega) (by omega) ?_)
        intro ao3 cap3 w2 hs2 hfr2 hor2 hkb2
        have HW := Lib.hid (HO.out.app hs2 hfr2 hor2)
        have he : (bsplit c (l.take j)).map strv ++ [Value.string ⟨#[]⟩] = (bsplit c (l.take (j + 1))).map strv := by rw [Hsn.out, List.map_append]; rfl
        rw [he] at HW
        have HK2 : Hid ((bsplit c (l.take (j + 1))).length = k + 1) := Lib.hid (by rw [Hsn.out, List.length_append, HK.out]; rfl)
        clear hs2 hfr2 hor2 hkb2 he
        go_wp2
        go_roundw
        case rel => exact ⟨j + 1, k + 1, ao3, cap3, by omega, by omega, by omega, by go_num, rfl, HK2, HW⟩
        case measure => simp [intOf]; omega
      · rw [if_neg hcb] at hsn
        have hcb2 : ¬ (c.toNat : Int) = b.toNat := fun e => hcb (UInt8.toNat_inj.1 (by omega))
        obtain ⟨k', rfl⟩ : ∃ k', k = k' + 1 := ⟨k - 1, by omega⟩
        obtain ⟨g, off, cc, he, h_, h_2, hg0, hx, hfz⟩ := HO.out.form (by omega)
        cases he
        obtain ⟨u, hu⟩ : ∃ u, (bsplit b (l.take j))[k']? = some u := ⟨(bsplit b (l.take j))[k']'(by rw [HK.out]; omega), by simp⟩
        have hlast : (bsplit b (l.take j)).getLast?.getD [] = u := by
          rw [List.getLast?_eq_getElem?, HK.out, show k' + 1 - 1 = k' by omega, hu]; rfl
        have hcell : wr.cell? ⟨g, off + k', none⟩ = some (.string ⟨u.toArray⟩) := hx k' _ (by rw [List.getElem?_map, hu]; rfl)
        have hfr : wr.frozen? ⟨g, off + k', none⟩ = false := hfz (off + k')
        have hul : u.length ≤ 100000000 := by
          have h1 := bsplit_word b (l.take j) u (List.mem_of_getElem? hu)
          have h2 := Hlen.out
          rw [List.length_take] at h1
          omega
        have hext : s.extract j (j + 1) = ⟨#[c]⟩ := str_ext s j hlt c (by rw [Hl.out]; exact hc)
        rw [hlast] at hsn
        have Hsn := Lib.hid hsn
        have hj1 : (j : Int) + 1 ≤ s.size := by omega
        clear hsn hx hfz hu hlast hc htk
        go_wp2_with fail
        go_region
        rw [str_snoc]
        have hO2 := (HO.out.set k' (by omega) (strv (u ++ [c]))).step (Fr.drew (Fr.refl _ _))
        have he2 : ((bsplit b (l.take j)).map strv).set k' (strv (u ++ [c])) = (bsplit b (l.take (j + 1))).map strv := by
          rw [set_last _ _ (by rw [List.length_map, HK.out]), Hsn.out, List.map_append, List.map_dropLast]; rfl
        rw [he2] at hO2
        have HW := Lib.hid hO2
        have HK2 : Hid ((bsplit b (l.take (j + 1))).length = k' + 1) := Lib.hid (by
          rw [Hsn.out, List.length_append, List.length_dropLast, HK.out]; rfl)
        clear hO2 he2
        go_wp2
        go_roundw
        case rel => exact ⟨j + 1, k' + 1, _, _, by omega, by omega, by omega, by go_num, rfl, HK2, HW⟩
        case measure => simp [intOf]; omega
    · have hjn : j = s.size := by omega
      have e1 : l.take j = l := List.take_of_length_le (by rw [Hlen.out]; omega)
      have E1 := Lib.hid e1
      clear e1
      go_wp2
      go_ret
      refine ⟨_, rfl, ?_⟩
      have h1 := HO.out
      have h2 := HK.out
      rw [E1.out] at h1 h2
      rw [h2]
      exact h1
end Go.Proofs.YtgcjnhocoklfbaaGreatDoor
