/- The contract of vec.Parse. -/
import Derived.Test.YtgcjnhocoklfbaaGreatDoorVecT
namespace Go.XL
open Go.RowKit Go.Shelf
set_option linter.unusedVariables false
set_option linter.unusedSimpArgs false
/-- what is wrong with the numbers of some words -/
def wes (ws : List (List UInt8)) : Int := if ws.all (fun w => decide ((dval w : Int) ≤ 1048576)) then 0 else 4
/-- .. and these, as they are read -/
def wns (ws : List (List UInt8)) : List Int := ws.map fun w => (vnum w 1048576).1
theorem wes_cases (ws : List (List UInt8)) : wes ws = 0 ∨ wes ws = 4 := by unfold wes; split <;> simp
theorem wes_app (ws : List (List UInt8)) (w : List UInt8) (h : digs w = true) : wes (ws ++ [w]) = max (wes ws) (vnum w 1048576).2 := by
  by_cases h1 : (dval w : Int) ≤ 1048576
  · have e : vnum w 1048576 = ((dval w : Int), 0) := by unfold vnum; rw [if_pos h, if_neg (by omega)]
    rw [e]
    unfold wes
    rw [List.all_append]
    cases h2 : ws.all (fun w => decide ((dval w : Int) ≤ 1048576)) <;> simp [h1] <;> rfl
  · have e : vnum w 1048576 = (0, 4) := by unfold vnum; rw [if_pos h, if_pos (by omega)]
    rw [e]
    unfold wes
    rw [List.all_append]
    cases h2 : ws.all (fun w => decide ((dval w : Int) ≤ 1048576)) <;> simp [h1] <;> rfl
theorem wsplit_len (l : List UInt8) : ∀ w ∈ wsplit l, w.length ≤ l.length := by
  induction l with
  | nil => intro w hw; simp [wsplit] at hw; subst hw; simp
  | cons c r ih =>
    intro w hw
    rw [wsplit] at hw
    split at hw
    · rcases List.mem_cons.1 hw with rfl | hw
      · simp
      · have := ih w hw; simp; omega
    · split at hw
      · rename_i v vs e
        rcases List.mem_cons.1 hw with rfl | hw
        · have := ih v (by rw [e]; simp); simp; omega
        · have := ih w (by rw [e]; simp [hw]); simp; omega
      · simp at hw; subst hw; simp
theorem vnum_two {l : List UInt8} (h : digs l = true) : (vnum l 1048576).2 = 0 ∨ (vnum l 1048576).2 = 4 := by
  unfold vnum; rw [if_pos h]; split <;> simp
theorem vwords_bad {ws : List (List UInt8)} {w : List UInt8} (hw : w ∈ ws) (h : ¬ digs w = true) : vwords ws = ([], 2) := by
  unfold vwords
  rw [if_neg]
  intro h2
  exact h (List.all_eq_true.1 h2 w hw)
theorem vwords_ok {ws : List (List UInt8)} (h : ∀ w ∈ ws, digs w = true) : vwords ws = if ws.getLast? = some [48] then ([], 2) else if wes ws = 0 ∧ ws.length ≤ 8 then (wns ws, 0) else ([], 4) := by
  unfold vwords
  rw [if_pos (List.all_eq_true.2 h)]
  by_cases h1 : ws.getLast? = some [48]
  · rw [if_pos h1, if_pos h1]
  · rw [if_neg h1, if_neg h1]
    unfold wes
    cases h2 : ws.all (fun w => decide ((dval w : Int) ≤ 1048576))
    · simp
    · have e : wns ws = ws.map fun w => (dval w : Int) := by
        unfold wns
        refine List.map_congr_left fun w hw => ?_
        have := List.all_eq_true.1 h2 w hw
        unfold vnum
        rw [if_pos (h w hw), if_neg (by simpa using this)]
      rw [e]
      simp
end Go.XL
namespace Go.Proofs.YtgcjnhocoklfbaaGreatDoor
open Go.RowKit Go.Shelf Go.XL
set_option linter.unusedVariables false
set_option linter.unusedSimpArgs false
attribute [local go_sem] Oper.semAt_some
set_option maxRecDepth 100000 in
set_option maxHeartbeats 2000000 in
theorem vec_parse (s : ByteArray) (w : World) (hs : s.size ≤ 1048576) (hG : Gl w) :
    Calls Tryz.prog 38 #[.string s] w fun e w' => ∃ v', e = .returned (.tuple #[v', .int .i64 (vparse s.data.toList).2]) ∧ Made 3 w w' v' (vparse s.data.toList).1 := by
  have hcp := Tryz.strings_CutPrefix s ⟨#[91]⟩ w
  have e91 : (⟨#[91]⟩ : ByteArray).data.toList = [91] := rfl
  have e93 : (⟨#[93]⟩ : ByteArray).data.toList = [93] := rfl
  rw [e91, pre_one, trimPre_one] at hcp
  have hnil : Made 3 w w (.slice none 0 0) [] := Ow.nil (Fr.refl _ _) _ _
  have Hnil := Lib.hid hnil
  obtain ⟨l, hl⟩ : ∃ l, s.data.toList = l := ⟨_, rfl⟩
  have hll : l.length = s.size := by rw [← hl, Array.length_toList]; rfl
  rw [hl] at hcp ⊢
  clear hnil e91
  by_cases h1 : l.head? = some 91
  · rw [if_pos h1, decide_eq_true h1] at hcp
    have htl : l.tail.length ≤ s.size := by rw [List.length_tail]; omega
    obtain ⟨t, ht⟩ : ∃ t : ByteArray, ⟨l.tail.toArray⟩ = t := ⟨_, rfl⟩
    have htd : t.data.toList = l.tail := by rw [← ht]
    have hts : t.size = l.tail.length := by rw [← ht]; show l.tail.toArray.size = _; simp
    rw [ht] at hcp
    have hcs := Tryz.strings_CutSuffix t ⟨#[93]⟩ w (by omega)
    rw [e93, htd, suf_one, trimSuf_one] at hcs
    clear ht e93
    by_cases h2 : l.tail.getLast? = some 93
    · rw [if_pos h2, decide_eq_true h2] at hcs
      obtain ⟨x, hx⟩ : ∃ x : ByteArray, ⟨l.tail.dropLast.toArray⟩ = x := ⟨_, rfl⟩
      have hxd : x.data.toList = l.tail.dropLast := by rw [← hx]
      have hxs : x.size ≤ s.size := by rw [← hx]; show l.tail.dropLast.toArray.size ≤ _; simp; omega
      rw [hx] at hcs
      have Hcp := Lib.hid hcp
      have Hcs := Lib.hid hcs
      by_cases h3 : l.tail.dropLast = []
      · have hv : vparse l = ([], 0) := by unfold vparse; rw [if_pos ⟨h1, h2⟩, if_pos h3]
        rw [hv]
        have hxe : x.toList = [] := by rw [ByteArray.toList_eq, hxd, h3]
        clear hv hcp hcs hl hx hxd h1 h2 h3 htd hts
        go_enter Tryz.func38, Tryz.ntmps38
        go_wp2_with fail
        refine Hcp.out.mono ?_
        rintro e w' ⟨rfl, hw⟩
        replace hw := hw.symm
        subst hw
        go_wp2_with fail
        refine Hcs.out.mono ?_
        rintro e w' ⟨rfl, hw⟩
        replace hw := hw.symm
        subst hw
        go_wp2
        exact bodyPost_ret (v := .tuple #[.slice none 0 0, .int .i64 0]) (by simp [results, Tryz.results38, go_sem]) rfl ⟨_, rfl, Hnil.out⟩
      · have hv : vparse l = vwords (wsplit x.data.toList) := by unfold vparse; rw [if_pos ⟨h1, h2⟩, if_neg h3, hxd]
        rw [hv]
        have hxe : ¬ x.toList = [] := by rw [ByteArray.toList_eq, hxd]; exact h3
        have hxe2 : x.toList.isEmpty = false := by simpa using hxe
        obtain ⟨m, hm⟩ := hG.m
        have hsp := Tryz.strings_Split x ⟨#[32]⟩ m w (by omega) hm (by decide)
        have hPl := Lib.splitB_all ⟨#[32]⟩ (by decide) 0 _ x rfl
        have hPd : (Lib.splitB ⟨#[32]⟩ 0 (Lib.countB x ⟨#[32]⟩) x).map (·.data.toList) = wsplit x.data.toList := by
          rw [Lib.splitB_data]
          exact split_wsplit _ x.data.toList rfl
        obtain ⟨P, hP⟩ : ∃ P, Lib.splitB ⟨#[32]⟩ 0 (Lib.countB x ⟨#[32]⟩) x = P := ⟨_, rfl⟩
        rw [hP] at hsp hPl hPd
        obtain ⟨N, hN⟩ : ∃ N, P.length = N := ⟨_, rfl⟩
        rw [← hPl, hN] at hsp
        have hN0 : 0 < N := by omega
        have hPs : ∀ p ∈ P, p.size ≤ 1048576 := fun p hp => by
          have h4 := wsplit_len x.data.toList p.data.toList (by rw [← hPd]; exact List.mem_map.2 ⟨p, hp, rfl⟩)
          rw [Array.length_toList, Array.length_toList] at h4
          have e1 : p.data.size = p.size := rfl
          have e2 : x.data.size = x.size := rfl
          omega
        have hNs : N ≤ 1048577 := by
          have := Lib.countB_le ⟨#[32]⟩ (by decide) x.size x (Nat.le_refl _)
          omega
        have hnum := fun (p : ByteArray) (hp : p ∈ P) (w' : World) (hf : Fr no w w') => vec_number p 1048576 w' (by have := hPs p hp; omega) (by decide) (by decide) (hG.fr hf)
        obtain ⟨w1, hw1⟩ : ∃ w1, w.alloc (.cells (P.map Value.string).toArray 9) = w1 := ⟨_, rfl⟩
        have hf1 : Fr no w w1 := by rw [← hw1]; exact (Fr.refl _ _).alloc _
        have hb1 : w1.heap[w.heap.size]? = some (.cells (P.map Value.string).toArray 9 (0, 0)) := by rw [← hw1]; exact World.alloc_heap_new _ _
        rw [hw1] at hsp
        obtain ⟨i0, hi0, hz0, hz1, hz2⟩ := info_parts Tryz.info3
        have Hsp := Lib.hid hsp
        have HPd := Lib.hid hPd
        have HN := Lib.hid hN
        have Hnum := Lib.hid hnum
        have HF1 := Lib.hid hf1
        have HB1 := Lib.hid hb1
        clear hv hcp hcs hl hx hxd h1 h2 h3 htd hts hsp hPl hPd hP hN hPs hnum hf1 hb1 hw1 hm hG
        go_enter Tryz.func38, Tryz.ntmps38
        go_wp2_with fail
        refine Hcp.out.mono ?_
        rintro e w' ⟨rfl, hw⟩
        replace hw := hw.symm
        subst hw
        go_wp2_with fail
        refine Hcs.out.mono ?_
        rintro e w' ⟨rfl, hw⟩
        replace hw := hw.symm
        subst hw
        go_wp2_with fail
        refine Hsp.out.mono ?_
        rintro e w' ⟨rfl, hw⟩
        replace hw := hw.symm
        subst hw
        have hO0 : Ow w1 w1 3 1 (.slice none 0 0) 0 [] := Ow.nil (Fr.refl _ _) _ _
        have HO0 := Lib.hid hO0
        clear hO0 Hcp Hcs Hsp
        go_wp2_with fail
        go_loopw [7, 8, 36] (fun ov ev iv wr => ∃ (k : Nat) (bo : Option Addr) (bc : Nat) (E : Int), k ≤ N ∧ iv = .int .i64 k ∧ ov = .slice bo k bc ∧ ev = .int .i64 E ∧ (E = 0 ∨ E = 4) ∧ Hid (∀ w ∈ (P.take k).map (·.data.toList), digs w = true) ∧ Hid (wes ((P.take k).map (·.data.toList)) = E) ∧ Hid (Ow w1 wr 3 1 (.slice bo k bc) k ((wns ((P.take k).map (·.data.toList))).map (Value.int .i64)))) (fun _ _ iv _ => N - (intOf iv).toNat)
        case atStart => exact ⟨0, none, 0, 0, Nat.zero_le _, rfl, rfl, rfl, .inl rfl, Lib.hid (by simp), Lib.hid (by simp [wes]), HO0⟩
        case round =>
          obtain ⟨k, bo, bc, E, hk, rfl, rfl, rfl, hE, hD, hW, hO⟩ := hrel
          have hF := Lib.hid hO.out.fr
          generalize wr = V at *
          clear HO0
          by_cases hlt : k < N
          · obtain ⟨p, hp⟩ : ∃ p, P[k]? = some p := ⟨P[k]'(by rw [HN.out]; exact hlt), by simp⟩
            have hpm := List.mem_of_getElem? hp
            have hc1 : w1.cell? ⟨w.heap.size, k, none⟩ = some (.string p) := cell_of_block HB1.out (by simp [hp])
            have hcv := hF.out.cell hc1 (fun f => f)
            have hnm := Hnum.out p hpm V (HF1.out.trans' hF.out)
            have htk : (P.take (k + 1)).map (·.data.toList) = (P.take k).map (·.data.toList) ++ [p.data.toList] := by rw [List.take_add_one, hp]; simp
            have hpw : p.data.toList ∈ wsplit x.data.toList := by rw [← HPd.out]; exact List.mem_map.2 ⟨p, hpm, rfl⟩
            by_cases hd : digs p.data.toList = true
            · have h4 := wes_app ((P.take k).map (·.data.toList)) p.data.toList hd
              rw [hW.out, ← htk] at h4
              have hD2 : Hid (∀ w ∈ (P.take (k + 1)).map (·.data.toList), digs w = true) := Lib.hid (fun v hv => by
                rw [htk] at hv
                rcases List.mem_append.1 hv with hv | hv
                · exact hD.out v hv
                · simp at hv; subst hv; exact hd)
              have hns : wns ((P.take (k + 1)).map (·.data.toList)) = wns ((P.take k).map (·.data.toList)) ++ [(vnum p.data.toList 1048576).1] := by rw [htk]; simp [wns]
              obtain ⟨E2, hE2⟩ : ∃ E2, (vnum p.data.toList 1048576).2 = E2 := ⟨_, rfl⟩
              obtain ⟨D, hDn⟩ : ∃ D, (vnum p.data.toList 1048576).1 = D := ⟨_, rfl⟩
              have hE22 := vnum_two hd
              rw [hE2] at h4 hnm hE22
              rw [hDn] at hnm hns
              have Hnm := Lib.hid hnm
              have H4 := Lib.hid h4
              have Hns := Lib.hid hns
              have hmx : max E E2 = 0 ∨ max E E2 = 4 := by omega
              clear hp hpm hc1 hnm htk hpw hd h4 hns hE2 hDn hD hW
              go_wp2_with fail
              refine Hnm.out.mono ?_
              rintro e w3 ⟨rfl, hf3⟩
              have HO3 := Lib.hid (hO.out.step hf3)
              clear hO hF hf3 hcv Hnm
              rcases hE with rfl | rfl <;> rcases hE22 with rfl | rfl
              · skip
                have H5 : Hid (wes ((P.take (k + 1)).map (·.data.toList)) = 0) := Lib.hid (by rw [H4.out]; rfl)
                go_wp2_with (at_builtin; refine wpList_append_one w3 (.int .i64 D) 3 rfl _ _ 23 rfl 3 i0 (.int .i64 0) 8 Tryz.underlying23 hi0 hz0 hz1 hz2 rfl _ k _ rfl HO3.out.sl rfl rfl (by unfold maxLen; omega) (by omega) ?_)
                intro ao4 cap4 w4 hs4 hf4 ho4 hkb4
                have HO4 : Hid (Ow w1 w4 3 1 (.slice ao4 (k + 1) cap4) (k + 1) ((wns ((P.take (k + 1)).map (·.data.toList))).map (Value.int .i64))) := Lib.hid (by rw [Hns.out, List.map_append]; exact HO3.out.app (by rw [List.map_take]; exact hs4) hf4 ho4)
                clear hs4 hf4 ho4 hkb4 HO3
                go_wp2
                go_roundw
                case rel => exact ⟨k + 1, ao4, cap4, 0, by omega, by go_num, rfl, rfl, by omega, hD2, H5, HO4⟩
                case measure => simp [intOf]; omega
              · skip
                have H5 : Hid (wes ((P.take (k + 1)).map (·.data.toList)) = 4) := Lib.hid (by rw [H4.out]; rfl)
                go_wp2_with (at_builtin; refine wpList_append_one w3 (.int .i64 D) 3 rfl _ _ 23 rfl 3 i0 (.int .i64 0) 8 Tryz.underlying23 hi0 hz0 hz1 hz2 rfl _ k _ rfl HO3.out.sl rfl rfl (by unfold maxLen; omega) (by omega) ?_)
                intro ao4 cap4 w4 hs4 hf4 ho4 hkb4
                have HO4 : Hid (Ow w1 w4 3 1 (.slice ao4 (k + 1) cap4) (k + 1) ((wns ((P.take (k + 1)).map (·.data.toList))).map (Value.int .i64))) := Lib.hid (by rw [Hns.out, List.map_append]; exact HO3.out.app (by rw [List.map_take]; exact hs4) hf4 ho4)
                clear hs4 hf4 ho4 hkb4 HO3
                go_wp2
                go_roundw
                case rel => exact ⟨k + 1, ao4, cap4, 4, by omega, by go_num, rfl, rfl, by omega, hD2, H5, HO4⟩
                case measure => simp [intOf]; omega
              · skip
                have H5 : Hid (wes ((P.take (k + 1)).map (·.data.toList)) = 4) := Lib.hid (by rw [H4.out]; rfl)
                go_wp2_with (at_builtin; refine wpList_append_one w3 (.int .i64 D) 3 rfl _ _ 23 rfl 3 i0 (.int .i64 0) 8 Tryz.underlying23 hi0 hz0 hz1 hz2 rfl _ k _ rfl HO3.out.sl rfl rfl (by unfold maxLen; omega) (by omega) ?_)
                intro ao4 cap4 w4 hs4 hf4 ho4 hkb4
                have HO4 : Hid (Ow w1 w4 3 1 (.slice ao4 (k + 1) cap4) (k + 1) ((wns ((P.take (k + 1)).map (·.data.toList))).map (Value.int .i64))) := Lib.hid (by rw [Hns.out, List.map_append]; exact HO3.out.app (by rw [List.map_take]; exact hs4) hf4 ho4)
                clear hs4 hf4 ho4 hkb4 HO3
                go_wp2
                go_roundw
                case rel => exact ⟨k + 1, ao4, cap4, 4, by omega, by go_num, rfl, rfl, by omega, hD2, H5, HO4⟩
                case measure => simp [intOf]; omega
              · skip
                have H5 : Hid (wes ((P.take (k + 1)).map (·.data.toList)) = 4) := Lib.hid (by rw [H4.out]; rfl)
                go_wp2_with (at_builtin; refine wpList_append_one w3 (.int .i64 D) 3 rfl _ _ 23 rfl 3 i0 (.int .i64 0) 8 Tryz.underlying23 hi0 hz0 hz1 hz2 rfl _ k _ rfl HO3.out.sl rfl rfl (by unfold maxLen; omega) (by omega) ?_)
                intro ao4 cap4 w4 hs4 hf4 ho4 hkb4
                have HO4 : Hid (Ow w1 w4 3 1 (.slice ao4 (k + 1) cap4) (k + 1) ((wns ((P.take (k + 1)).map (·.data.toList))).map (Value.int .i64))) := Lib.hid (by rw [Hns.out, List.map_append]; exact HO3.out.app (by rw [List.map_take]; exact hs4) hf4 ho4)
                clear hs4 hf4 ho4 hkb4 HO3
                go_wp2
                go_roundw
                case rel => exact ⟨k + 1, ao4, cap4, 4, by omega, by go_num, rfl, rfl, by omega, hD2, H5, HO4⟩
                case measure => simp [intOf]; omega
            · have hv2 : vnum p.data.toList 1048576 = (0, 2) := by unfold vnum; rw [if_neg hd]
              have Hv3 := Lib.hid (vwords_bad hpw hd)
              rw [hv2] at hnm
              have Hnm := Lib.hid hnm
              have HFV := Lib.hid (HF1.out.trans' hF.out)
              clear hp hpm hc1 hnm htk hpw hd hv2 hD hW hO hF
              go_wp2_with fail
              refine Hnm.out.mono ?_
              rintro e w3 ⟨rfl, hf3⟩
              have HF3 := Lib.hid (HFV.out.trans' hf3)
              clear hf3 hcv Hnm
              go_wp2
              exact bodyPost_ret (v := .tuple #[.slice none 0 0, .int .i64 2]) (by simp [results, Tryz.results38, go_sem]) rfl ⟨_, by rw [Hv3.out], by rw [Hv3.out]; exact Ow.nil HF3.out _ _⟩
          · have hkN : k = N := by omega
            subst hkN
            rw [List.take_of_length_le (by rw [HN.out]; exact Nat.le_refl _), HPd.out] at hD hW hO
            obtain ⟨j, rfl⟩ : ∃ j, k = j + 1 := ⟨k - 1, by omega⟩
            obtain ⟨p, hp⟩ : ∃ p, P[j]? = some p := ⟨P[j]'(by rw [HN.out]; omega), by simp⟩
            have hc1 : w1.cell? ⟨w.heap.size, j, none⟩ = some (.string p) := cell_of_block HB1.out (by simp [hp])
            have hcv := hF.out.cell hc1 (fun f => f)
            have hlast : (wsplit x.data.toList).getLast? = some p.data.toList := by
              rw [← HPd.out, List.getLast?_map, List.getLast?_eq_getElem?, HN.out, Nat.add_sub_cancel, hp]; rfl
            have hlen : (wsplit x.data.toList).length = j + 1 := by rw [← HPd.out, List.length_map, HN.out]
            have hvw := vwords_ok hD.out
            rw [hlast, hW.out, hlen] at hvw
            have Hvw := Lib.hid hvw
            have hwl : (wns (wsplit x.data.toList)).length = j + 1 := by unfold wns; rw [List.length_map, hlen]
            have Hwl := Lib.hid hwl
            have HFV := Lib.hid (HF1.out.trans' hF.out)
            clear hp hc1 hlast hlen hvw hD hW hwl
            by_cases hq0 : p.data.toList = [48]
            · have hq : (p.toList == [48]) = true := by rw [ByteArray.toList_eq, hq0]; rfl
              have Hr : Hid (vwords (wsplit x.data.toList) = ([], 2)) := Lib.hid (by rw [Hvw.out, if_pos (by rw [hq0])])
              clear hq0 Hvw
              rcases hE with rfl | rfl
              all_goals
                go_wp2
                exact bodyPost_ret (v := .tuple #[.slice none 0 0, .int .i64 2]) (by simp [results, Tryz.results38, go_sem]) rfl ⟨_, by rw [Hr.out], by rw [Hr.out]; exact Ow.nil HFV.out _ _⟩
            · have hq : (p.toList == [48]) = false := by rw [ByteArray.toList_eq]; simpa using hq0
              have Hvw2 : Hid (vwords (wsplit x.data.toList) = if E = 0 ∧ j + 1 ≤ 8 then (wns (wsplit x.data.toList), 0) else ([], 4)) := Lib.hid (by rw [Hvw.out, if_neg (by simpa using hq0)])
              clear hq0 Hvw
              rcases hE with rfl | rfl
              · by_cases h8 : j + 1 ≤ 8
                · have Hr : Hid (vwords (wsplit x.data.toList) = (wns (wsplit x.data.toList), 0)) := Lib.hid (by rw [Hvw2.out, if_pos ⟨rfl, h8⟩])
                  have HO := Lib.hid (hO.out.base HF1.out)
                  clear Hvw2 hO
                  go_wp2
                  exact bodyPost_ret (v := .tuple #[.slice bo (j + 1) bc, .int .i64 0]) (by simp [results, Tryz.results38, go_sem]) rfl ⟨_, by rw [Hr.out], by rw [Hr.out]; unfold Made; rw [Hwl.out]; exact HO.out⟩
                · have Hr : Hid (vwords (wsplit x.data.toList) = ([], 4)) := Lib.hid (by rw [Hvw2.out, if_neg (fun h => h8 h.2)])
                  clear Hvw2
                  go_wp2
                  exact bodyPost_ret (v := .tuple #[.slice none 0 0, .int .i64 4]) (by simp [results, Tryz.results38, go_sem]) rfl ⟨_, by rw [Hr.out], by rw [Hr.out]; exact Ow.nil HFV.out _ _⟩
              · have Hr : Hid (vwords (wsplit x.data.toList) = ([], 4)) := Lib.hid (by rw [Hvw2.out, if_neg (fun h => by cases h.1)])
                clear Hvw2
                go_wp2
                exact bodyPost_ret (v := .tuple #[.slice none 0 0, .int .i64 4]) (by simp [results, Tryz.results38, go_sem]) rfl ⟨_, by rw [Hr.out], by rw [Hr.out]; exact Ow.nil HFV.out _ _⟩
    · rw [if_neg h2, decide_eq_false h2] at hcs
      have hv : vparse l = ([], 2) := by unfold vparse; rw [if_neg (fun h => h2 h.2)]
      rw [hv]
      have Hcp := Lib.hid hcp
      generalize (⟨l.tail.toArray⟩ : ByteArray) = t2 at hcs
      have Hcs := Lib.hid hcs
      clear hv hcp hcs hl h1 h2 htd hts
      go_enter Tryz.func38, Tryz.ntmps38
      go_wp2_with fail
      refine Hcp.out.mono ?_
      rintro e w' ⟨rfl, hw⟩
      replace hw := hw.symm
      subst hw
      go_wp2_with fail
      refine Hcs.out.mono ?_
      rintro e w' ⟨rfl, hw⟩
      replace hw := hw.symm
      subst hw
      go_wp2
      exact bodyPost_ret (v := .tuple #[.slice none 0 0, .int .i64 2]) (by simp [results, Tryz.results38, go_sem]) rfl ⟨_, rfl, Hnil.out⟩
  · rw [if_neg h1, decide_eq_false h1] at hcp
    have hv : vparse l = ([], 2) := by unfold vparse; rw [if_neg (fun h => h1 h.1)]
    rw [hv]
    obtain ⟨t, ht⟩ : ∃ t : ByteArray, ⟨l.toArray⟩ = t := ⟨_, rfl⟩
    have hts : t.size = l.length := by rw [← ht]; show l.toArray.size = _; simp
    rw [ht] at hcp
    have hcs := Tryz.strings_CutSuffix t ⟨#[93]⟩ w (by omega)
    generalize (⟨(Lib.trimSuffix t.data.toList (⟨#[93]⟩ : ByteArray).data.toList).toArray⟩ : ByteArray) = t2 at hcs
    generalize Lib.hasSuffix t.data.toList (⟨#[93]⟩ : ByteArray).data.toList = b2 at hcs
    have Hcp := Lib.hid hcp
    have Hcs := Lib.hid hcs
    clear hv hcp hcs hl h1 ht hts e93
    go_enter Tryz.func38, Tryz.ntmps38
    go_wp2_with fail
    refine Hcp.out.mono ?_
    rintro e w' ⟨rfl, hw⟩
    replace hw := hw.symm
    subst hw
    go_wp2_with fail
    refine Hcs.out.mono ?_
    rintro e w' ⟨rfl, hw⟩
    replace hw := hw.symm
    subst hw
    go_wp2
    exact bodyPost_ret (v := .tuple #[.slice none 0 0, .int .i64 2]) (by simp [results, Tryz.results38, go_sem]) rfl ⟨_, rfl, Hnil.out⟩
end Go.Proofs.YtgcjnhocoklfbaaGreatDoor
