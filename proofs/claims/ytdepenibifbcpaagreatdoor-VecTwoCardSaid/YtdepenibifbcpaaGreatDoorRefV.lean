/- Contracts of the reference's vectors: With, Join, Meet, CheckVec. -/
import Derived.Test.YtdepenibifbcpaaGreatDoorRefVec
import Derived.Test.YtdepenibifbcpaaGreatDoorVec2
namespace Go.Proofs.YtdepenibifbcpaaGreatDoor
open Go.RowKit Go.Shelf Go.XL
set_option linter.unusedVariables false
set_option linter.unusedSimpArgs false
attribute [local go_sem] Oper.semAt_some
set_option maxHeartbeats 4000000 in
theorem ref_with (v : Value) (xs : List Int) (i x : Int) (w : World) (h : IntsAt w v xs) (hn : xs.length ≤ 1000000) :
    Calls Tryz.prog 12 #[v, .int .i64 i, .int .i64 x] w fun e w' => ∃ v', e = .returned v' ∧ Made 3 w w' v' (vwith xs i x) := by
  obtain ⟨ao, cap, rfl, hcap, hm⟩ := h.cap
  have H : Hid (Rd w 1 (.slice ao xs.length cap) xs.length (xs.map (Value.int .i64))) := Lib.hid h
  clear h
  obtain ⟨i0, hi, hz0, hz1, hz2⟩ := info_parts Tryz.info3
  have hone : ∀ u ∈ xs.map (Value.int .i64), u.oneCell' = true := fun u hu => by obtain ⟨y, _, rfl⟩ := List.mem_map.1 hu; rfl
  have Hone := Lib.hid hone
  clear hone
  generalize hg : xs.length = L at *
  have Hg := Lib.hid hg
  clear hg
  have hE := Lib.hid (ow_empty w 3 1)
  go_enter Tryz.func12, Tryz.ntmps12
  go_wp2_with (at_builtin; refine wpList_append_all (w.alloc (.cells #[] 3)) rfl _ _ 22 rfl 3 i0 _ 1 8 Tryz.underlying22 hi hz0 hz1 hz2 rfl (by decide) _ _ _ rfl hE.out.sl _ _ _ rfl (H.out.fr hE.out.fr (fun _ _ _ f => f)) Hone.out (by unfold maxLen; omega) (by omega) ?_)
  intro ao1 cap1 w1 hs1 hf1 ho1 _
  have hO1 := hE.out.app hs1 hf1 (by simpa using ho1)
  have HO1 := Lib.hid hO1
  have hcap1 := hO1.cap
  obtain ⟨_, _, e, hcp1, hcm1⟩ := hcap1
  cases e
  clear hs1 hf1 ho1 hO1 hE H Hone
  by_cases h1 : i < 0
  · have hv : vwith xs i x = xs := by unfold vwith; rw [if_pos (by omega)]
    have Hv := Lib.hid hv
    clear hv
    go_wp2
    go_ret
    exact ⟨_, rfl, by rw [Hv.out]; unfold Made; rw [Hg.out]; exact HO1.out⟩
  · by_cases h2 : 63 < i
    · have hv : vwith xs i x = xs := by unfold vwith; rw [if_pos (by omega)]
      have Hv := Lib.hid hv
      clear hv
      go_wp2
      go_ret
      exact ⟨_, rfl, by rw [Hv.out]; unfold Made; rw [Hg.out]; exact HO1.out⟩
    · obtain ⟨k, rfl⟩ : ∃ k : Nat, i = k := ⟨i.toNat, by omega⟩
      have hv : vwith xs k x = (xs ++ List.replicate (k + 1 - xs.length) 0).set k x := by unfold vwith; rw [if_neg (by omega)]; simp
      have Hv := Lib.hid hv
      have hW : WithI w w1 (.slice ao1 L cap1) xs L k := ⟨0, Hg.out.symm, .inl rfl, by simpa using HO1.out⟩
      have HW := Lib.hid hW
      clear hv hW HO1
      have hk63 : (k : Int) ≤ 63 := by omega
      go_wp2_with fail
      go_loopw [7] (fun a wr => ∃ (n : Nat) (bo : Option Addr) (bc : Nat), a = .slice bo n bc ∧ n ≤ 1000100 ∧ WithI w wr (.slice bo n bc) xs n k) (fun a _ => k + 1 - vlen a)
      case atStart => exact ⟨L, ao1, cap1, rfl, by omega, HW.out⟩
      case round =>
        obtain ⟨n, bo, bc, rfl, hn1, hM⟩ := hrel
        obtain ⟨m, hm1, hm2, hO⟩ := hM
        have hcapn := hO.cap
        have HO := Lib.hid hO
        have Hm1 := Lib.hid hm1
        have Hm2 := Lib.hid hm2
        obtain ⟨_, _, e, hcapn, hcapm⟩ := hcapn
        cases e
        clear hO HW hm1 hm2
        by_cases hlt : (n : Int) ≤ k
        · go_wp2_with (at_builtin; refine wpList_append_one wr (.int .i64 0) 3 rfl _ _ 22 rfl 3 i0 (.int .i64 0) 8 Tryz.underlying22 hi hz0 hz1 hz2 rfl _ n _ rfl HO.out.sl rfl rfl (by unfold maxLen; omega) (by omega) ?_)
          intro ao2 cap2 w2 hs2 hfr2 hor2 hkb2
          have hW : WithI w w2 (.slice ao2 (n + 1) cap2) xs (n + 1) k := ⟨m + 1, by rw [Hm1.out]; omega, .inr (by omega), HO.out.app (by have e : List.map (Value.int .i64) (xs ++ List.replicate (m + 1) 0) = xs.map (Value.int .i64) ++ (List.replicate m (Value.int .i64 0) ++ [Value.int .i64 0]) := (by simp [List.replicate_succ']); rw [e]; simpa using hs2) hfr2 hor2⟩
          have HW := Lib.hid hW
          clear hW hs2 hfr2 hor2 hkb2
          go_wp2
          go_roundw
          case rel => exact ⟨n + 1, ao2, cap2, rfl, by omega, HW.out⟩
          case measure => simp [vlen]; omega
        · obtain ⟨g, off, c, he, _, _, hg0, hx, hfz⟩ := HO.out.form (by omega)
          cases he
          have hlen := HO.out.sl.1
          obtain ⟨y, hy⟩ : ∃ y, ((xs ++ List.replicate m 0).map (Value.int .i64))[k]? = some y := ⟨_, List.getElem?_eq_getElem (by omega)⟩
          have hc := hx k y hy
          have hf := hfz (off + k)
          clear hx hfz hy hlen
          go_wp2
          go_ret
          refine ⟨_, rfl, ?_⟩
          rw [Hv.out]
          have := HO.out.set k (by omega) (.int .i64 x)
          have e1 : m = k + 1 - xs.length := by have := Hm1.out; have := Hm2.out; have := Hg.out; omega
          have e2 : ((xs ++ List.replicate (k + 1 - xs.length) 0).set k x).length = n := by have := Hm1.out; have := Hg.out; simp; omega
          unfold Made
          rw [e2, List.map_set, ← e1]
          exact this


set_option maxRecDepth 100000 in
set_option maxHeartbeats 2000000 in
theorem ref_join (v1 v2 : Value) (a b : List Int) (w : World) (h1 : IntsAt w v1 a) (h2 : IntsAt w v2 b) (hn1 : a.length ≤ 1000000) (hn2 : b.length ≤ 1000000) :
    Calls Tryz.prog 14 #[v1, v2] w fun e w' => ∃ v', e = .returned v' ∧ Made 3 w w' v' (vboth max a b) := by
  obtain ⟨ao1, cap1, rfl, hc1, hm1⟩ := h1.cap
  obtain ⟨ao2, cap2, rfl, hc2, hm2⟩ := h2.cap
  obtain ⟨N, hN⟩ : ∃ N : Nat, max a.length b.length = N := ⟨_, rfl⟩
  have H1 := Lib.hid h1
  have H2 := Lib.hid h2
  clear h1 h2
  obtain ⟨i0, hi, hz0, hz1, hz2⟩ := info_parts Tryz.info3
  have HN := Lib.hid hN
  have hNb : N ≤ 1000000 := by omega
  generalize hga : a.length = n1 at *
  generalize hgb : b.length = n2 at *
  have Hga := Lib.hid hga
  have Hgb := Lib.hid hgb
  clear hN hga hgb
  go_enter Tryz.func14, Tryz.ntmps14
  go_wp2_with fail
  go_loopw [5, 6] (fun o jv wr => ∃ (j : Nat) (bo : Option Addr) (bc : Nat), j ≤ N ∧ jv = .int .i64 j ∧ o = .slice bo j bc ∧ Hid (Ow w wr 3 1 (.slice bo j bc) j ((List.range j).map fun i : Nat => .int .i64 (max (vget a i) (vget b i))))) (fun _ jv _ => N - (intOf jv).toNat)
  case atStart => exact ⟨0, none, 0, Nat.zero_le _, rfl, rfl, Lib.hid (Ow.nil (Fr.refl _ _) _ _)⟩
  case round =>
    obtain ⟨j, bo, bc, hj, rfl, rfl, HO⟩ := hrel
    by_cases hlt : j < N
    · have hor : j < n1 ∨ j < n2 := by have := HN.out; omega
      have g1 := ref_get (.slice ao1 n1 cap1) a j wr (H1.out.fr HO.out.fr (fun _ _ _ f => f))
      have g2 := ref_get (.slice ao2 n2 cap2) b j wr (H2.out.fr HO.out.fr (fun _ _ _ f => f))
      obtain ⟨x, hx⟩ : ∃ x, vget a j = x := ⟨_, rfl⟩
      obtain ⟨y, hy⟩ : ∃ y, vget b j = y := ⟨_, rfl⟩
      obtain ⟨m, hm⟩ : ∃ m, max x y = m := ⟨_, rfl⟩
      rw [hx] at g1
      rw [hy] at g2
      have hcs : Hid ((List.range (j + 1)).map (fun i : Nat => Value.int .i64 (max (vget a i) (vget b i))) = (List.range j).map (fun i : Nat => Value.int .i64 (max (vget a i) (vget b i))) ++ [Value.int .i64 m]) := Lib.hid (by rw [List.range_succ, List.map_append]; simp [hx, hy, hm])
      have G1 := Lib.hid g1
      have G2 := Lib.hid g2
      clear hx hy g1 g2
      have way : (x < y ∧ y = m) ∨ (¬ x < y ∧ x = m) := by omega
      clear hm
      obtain hlt1 | hlt1 : j < n1 ∨ ¬ j < n1 := by omega
      all_goals
        rcases way with ⟨hd, rfl⟩ | ⟨hd, rfl⟩
        · go_wp2_with fail
          refine G1.out.mono ?_
          rintro e w' ⟨rfl, rfl⟩
          go_wp2_with fail
          refine G2.out.mono ?_
          rintro e w' ⟨rfl, rfl⟩
          go_wp2_with fail
          refine G2.out.mono ?_
          rintro e w' ⟨rfl, rfl⟩
          go_wp2_with (at_builtin; refine wpList_append_one _ (.int .i64 _) 3 rfl _ _ 22 rfl 3 i0 (.int .i64 0) 8 Tryz.underlying22 hi hz0 hz1 hz2 rfl _ j _ rfl HO.out.sl rfl rfl (by unfold maxLen; omega) (by omega) ?_)
          intro ao3 cap3 w2 hs2 hfr2 hor2 hkb2
          have HW := Lib.hid (HO.out.app hs2 hfr2 hor2)
          rw [← hcs.out] at HW
          clear hs2 hfr2 hor2 hkb2
          go_wp2
          go_roundw
          case rel => exact ⟨j + 1, ao3, cap3, by omega, by go_num, rfl, HW⟩
          case measure => simp [intOf]; omega
        · go_wp2_with fail
          refine G1.out.mono ?_
          rintro e w' ⟨rfl, rfl⟩
          go_wp2_with fail
          refine G2.out.mono ?_
          rintro e w' ⟨rfl, rfl⟩
          go_wp2_with (at_builtin; refine wpList_append_one _ (.int .i64 _) 3 rfl _ _ 22 rfl 3 i0 (.int .i64 0) 8 Tryz.underlying22 hi hz0 hz1 hz2 rfl _ j _ rfl HO.out.sl rfl rfl (by unfold maxLen; omega) (by omega) ?_)
          intro ao3 cap3 w2 hs2 hfr2 hor2 hkb2
          have HW := Lib.hid (HO.out.app hs2 hfr2 hor2)
          rw [← hcs.out] at HW
          clear hs2 hfr2 hor2 hkb2
          go_wp2
          go_roundw
          case rel => exact ⟨j + 1, ao3, cap3, by omega, by go_num, rfl, HW⟩
          case measure => simp [intOf]; omega
    · obtain rfl : j = N := by omega
      have hj1 : n1 ≤ j := by have := HN.out; omega
      have hj2 : n2 ≤ j := by have := HN.out; omega
      go_wp2
      go_ret
      have e1 : (vboth max a b).length = j := by have := HN.out; have := Hga.out; have := Hgb.out; simp [vboth]; omega
      refine ⟨_, rfl, ?_⟩
      unfold Made
      rw [e1, vboth, Hga.out, Hgb.out, HN.out, List.map_map]
      exact HO.out

set_option maxRecDepth 100000 in
set_option maxHeartbeats 2000000 in
theorem ref_meet (v1 v2 : Value) (a b : List Int) (w : World) (h1 : IntsAt w v1 a) (h2 : IntsAt w v2 b) (hn1 : a.length ≤ 1000000) (hn2 : b.length ≤ 1000000) :
    Calls Tryz.prog 16 #[v1, v2] w fun e w' => ∃ v', e = .returned v' ∧ Made 3 w w' v' (vboth min a b) := by
  obtain ⟨ao1, cap1, rfl, hc1, hm1⟩ := h1.cap
  obtain ⟨ao2, cap2, rfl, hc2, hm2⟩ := h2.cap
  obtain ⟨N, hN⟩ : ∃ N : Nat, max a.length b.length = N := ⟨_, rfl⟩
  have H1 := Lib.hid h1
  have H2 := Lib.hid h2
  clear h1 h2
  obtain ⟨i0, hi, hz0, hz1, hz2⟩ := info_parts Tryz.info3
  have HN := Lib.hid hN
  have hNb : N ≤ 1000000 := by omega
  generalize hga : a.length = n1 at *
  generalize hgb : b.length = n2 at *
  have Hga := Lib.hid hga
  have Hgb := Lib.hid hgb
  clear hN hga hgb
  go_enter Tryz.func16, Tryz.ntmps16
  go_wp2_with fail
  go_loopw [5, 6] (fun o jv wr => ∃ (j : Nat) (bo : Option Addr) (bc : Nat), j ≤ N ∧ jv = .int .i64 j ∧ o = .slice bo j bc ∧ Hid (Ow w wr 3 1 (.slice bo j bc) j ((List.range j).map fun i : Nat => .int .i64 (min (vget a i) (vget b i))))) (fun _ jv _ => N - (intOf jv).toNat)
  case atStart => exact ⟨0, none, 0, Nat.zero_le _, rfl, rfl, Lib.hid (Ow.nil (Fr.refl _ _) _ _)⟩
  case round =>
    obtain ⟨j, bo, bc, hj, rfl, rfl, HO⟩ := hrel
    by_cases hlt : j < N
    · have hor : j < n1 ∨ j < n2 := by have := HN.out; omega
      have g1 := ref_get (.slice ao1 n1 cap1) a j wr (H1.out.fr HO.out.fr (fun _ _ _ f => f))
      have g2 := ref_get (.slice ao2 n2 cap2) b j wr (H2.out.fr HO.out.fr (fun _ _ _ f => f))
      obtain ⟨x, hx⟩ : ∃ x, vget a j = x := ⟨_, rfl⟩
      obtain ⟨y, hy⟩ : ∃ y, vget b j = y := ⟨_, rfl⟩
      obtain ⟨m, hm⟩ : ∃ m, min x y = m := ⟨_, rfl⟩
      rw [hx] at g1
      rw [hy] at g2
      have hcs : Hid ((List.range (j + 1)).map (fun i : Nat => Value.int .i64 (min (vget a i) (vget b i))) = (List.range j).map (fun i : Nat => Value.int .i64 (min (vget a i) (vget b i))) ++ [Value.int .i64 m]) := Lib.hid (by rw [List.range_succ, List.map_append]; simp [hx, hy, hm])
      have G1 := Lib.hid g1
      have G2 := Lib.hid g2
      clear hx hy g1 g2
      have way : (y < x ∧ y = m) ∨ (¬ y < x ∧ x = m) := by omega
      clear hm
      obtain hlt1 | hlt1 : j < n1 ∨ ¬ j < n1 := by omega
      all_goals
        rcases way with ⟨hd, rfl⟩ | ⟨hd, rfl⟩
        · go_wp2_with fail
          refine G1.out.mono ?_
          rintro e w' ⟨rfl, rfl⟩
          go_wp2_with fail
          refine G2.out.mono ?_
          rintro e w' ⟨rfl, rfl⟩
          go_wp2_with fail
          refine G2.out.mono ?_
          rintro e w' ⟨rfl, rfl⟩
          go_wp2_with (at_builtin; refine wpList_append_one _ (.int .i64 _) 3 rfl _ _ 22 rfl 3 i0 (.int .i64 0) 8 Tryz.underlying22 hi hz0 hz1 hz2 rfl _ j _ rfl HO.out.sl rfl rfl (by unfold maxLen; omega) (by omega) ?_)
          intro ao3 cap3 w2 hs2 hfr2 hor2 hkb2
          have HW := Lib.hid (HO.out.app hs2 hfr2 hor2)
          rw [← hcs.out] at HW
          clear hs2 hfr2 hor2 hkb2
          go_wp2
          go_roundw
          case rel => exact ⟨j + 1, ao3, cap3, by omega, by go_num, rfl, HW⟩
          case measure => simp [intOf]; omega
        · go_wp2_with fail
          refine G1.out.mono ?_
          rintro e w' ⟨rfl, rfl⟩
          go_wp2_with fail
          refine G2.out.mono ?_
          rintro e w' ⟨rfl, rfl⟩
          go_wp2_with (at_builtin; refine wpList_append_one _ (.int .i64 _) 3 rfl _ _ 22 rfl 3 i0 (.int .i64 0) 8 Tryz.underlying22 hi hz0 hz1 hz2 rfl _ j _ rfl HO.out.sl rfl rfl (by unfold maxLen; omega) (by omega) ?_)
          intro ao3 cap3 w2 hs2 hfr2 hor2 hkb2
          have HW := Lib.hid (HO.out.app hs2 hfr2 hor2)
          rw [← hcs.out] at HW
          clear hs2 hfr2 hor2 hkb2
          go_wp2
          go_roundw
          case rel => exact ⟨j + 1, ao3, cap3, by omega, by go_num, rfl, HW⟩
          case measure => simp [intOf]; omega
    · obtain rfl : j = N := by omega
      have hj1 : n1 ≤ j := by have := HN.out; omega
      have hj2 : n2 ≤ j := by have := HN.out; omega
      go_wp2
      go_ret
      have e1 : (vboth min a b).length = j := by have := HN.out; have := Hga.out; have := Hgb.out; simp [vboth]; omega
      refine ⟨_, rfl, ?_⟩
      unfold Made
      rw [e1, vboth, Hga.out, Hgb.out, HN.out, List.map_map]
      exact HO.out

theorem vbad_drop (xs : List Int) (j : Nat) (x : Int) (h : xs[j]? = some x) : vbad (xs.drop j) = if x < 0 then 1 else if 1048576 < x then 4 else vbad (xs.drop (j + 1)) := by
  obtain ⟨hk, hx⟩ := List.getElem?_eq_some_iff.1 h
  rw [List.drop_eq_getElem_cons hk, hx]; rfl
set_option maxRecDepth 100000 in
set_option maxHeartbeats 2000000 in
theorem ref_check (v : Value) (xs : List Int) (sites : Int) (w : World) (h : IntsAt w v xs) :
    Calls Tryz.prog 22 #[v, .int .i64 sites] w fun e w' => e = .returned (.int .i64 (vcheck xs sites)) ∧ w = w' := by
  obtain ⟨ao, cap, rfl, hcap, hmx⟩ := h.cap
  have H : Hid (Rd w 1 (.slice ao xs.length cap) xs.length (xs.map (Value.int .i64))) := Lib.hid h
  clear h
  by_cases h1 : sites < 1
  · have e1 : vcheck xs sites = 1 := by unfold vcheck; rw [if_pos h1]
    rw [e1]
    generalize xs.length = n at *
    go_enter Tryz.func22, Tryz.ntmps22
    go_wp2
    go_ret
    exact ⟨rfl, rfl⟩
  · by_cases h2 : 8 < sites
    · have e1 : vcheck xs sites = 1 := by unfold vcheck; rw [if_neg h1, if_pos h2]
      rw [e1]
      generalize xs.length = n at *
      go_enter Tryz.func22, Tryz.ntmps22
      go_wp2
      go_ret
      exact ⟨rfl, rfl⟩
    · by_cases h3 : sites < (xs.length : Int)
      · have e1 : vcheck xs sites = 4 := by unfold vcheck; rw [if_neg h1, if_neg h2, if_pos h3]
        rw [e1]
        generalize xs.length = n at *
        go_enter Tryz.func22, Tryz.ntmps22
        go_wp2
        go_ret
        exact ⟨rfl, rfl⟩
      · have e1 : vcheck xs sites = vbad xs := by unfold vcheck; rw [if_neg h1, if_neg h2, if_neg h3]
        rw [e1]
        clear e1
        generalize hn : xs.length = n at *
        have Hn := Lib.hid hn
        clear hn
        go_enter Tryz.func22, Tryz.ntmps22
        go_wp2_with fail
        go_loop [5] (fun jv => ∃ (j : Nat), j ≤ n ∧ jv = .int .i64 j ∧ Hid (vbad (xs.drop j) = vbad xs)) (fun jv => n - (intOf jv).toNat)
        case atStart => exact ⟨0, Nat.zero_le _, rfl, Lib.hid rfl⟩
        case round =>
          obtain ⟨j, hj, rfl, HB⟩ := hrel
          by_cases hlt : j < n
          · obtain ⟨g, off, c', he, _, _, hx⟩ := H.out.form (by omega)
            cases he
            obtain ⟨x, hxk⟩ : ∃ x, xs[j]? = some x := ⟨xs[j]'(by rw [Hn.out]; exact hlt), by simp⟩
            have hcx : w.cell? ⟨g, off + j, none⟩ = some (.int .i64 x) := hx j _ (by simp [hxk])
            have hb := vbad_drop xs j x hxk
            rw [HB.out] at hb
            clear hx hxk HB
            by_cases hx0 : x < 0
            · rw [if_pos hx0] at hb
              have Hb := Lib.hid hb
              clear hb
              go_wp2
              go_ret
              exact ⟨by rw [Hb.out]; rfl, rfl⟩
            · rw [if_neg hx0] at hb
              by_cases hx1 : 1048576 < x
              · rw [if_pos hx1] at hb
                have Hb := Lib.hid hb
                clear hb
                go_wp2
                go_ret
                exact ⟨by rw [Hb.out]; rfl, rfl⟩
              · rw [if_neg hx1] at hb
                have Hb := Lib.hid hb
                clear hb
                go_wp2
                go_round
                case rel => exact ⟨j + 1, by omega, by go_num, Lib.hid Hb.out.symm⟩
                case measure => simp [intOf]; omega
          · have hjn : j = n := by omega
            have e0 : vbad xs = 0 := by rw [← HB.out, List.drop_eq_nil_of_le (by rw [Hn.out]; omega)]; rfl
            have E0 := Lib.hid e0
            clear e0
            go_wp2
            go_ret
            exact ⟨by rw [E0.out]; rfl, rfl⟩
end Go.Proofs.YtdepenibifbcpaaGreatDoor
