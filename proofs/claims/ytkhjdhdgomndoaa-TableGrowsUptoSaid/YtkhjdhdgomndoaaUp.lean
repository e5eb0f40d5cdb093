/- Contracts of the laws' up and Few. -/
import Derived.Test.YtkhjdhdgomndoaaKnownT
import Derived.Test.YtkhjdhdgomndoaaBuild
namespace Go.Proofs.Ytkhjdhdgomndoaa
open Go.RowKit Go.Shelf Go.XL
set_option linter.unusedVariables false
set_option linter.unusedSimpArgs false
attribute [local go_sem] Oper.semAt_some

theorem TBuild.tab' {w0 w : World} {E : TypeId} {v : Value} {n : Nat} {vs : List Value} {t : List (List Int)} (h : TBuild w0 w E v n vs t) : Tab w v t :=
  ⟨vs, by rw [h.len]; exact h.own.rd, fun i u xs h1 h2 => (h.rows i u xs h1 h2).rd⟩

set_option maxRecDepth 10000 in
set_option maxHeartbeats 2000000 in
theorem up_any (v : Value) (vs : List Value) (zss : List (List Int)) (n : Nat) (w : World) (hv : Rd w 1 v n vs) (hvl : zss.length = n) (hr : ∀ (i : Nat) u zs, vs[i]? = some u → zss[i]? = some zs → Rd w 1 u zs.length (zs.map (Value.int .u16)))
    (hz : ∀ zs ∈ zss, ∀ y ∈ zs, 0 ≤ y ∧ y ≤ 65535) (hn : n ≤ 1000000) (hl : ∀ zs ∈ zss, zs.length ≤ 1048576) :
    Calls Try.prog 8 #[v] w fun e w' => ∃ ao cap, e = .returned (.slice ao n cap) ∧ Tab w' (.slice ao n cap) zss ∧ Fr no w w' := by
  obtain ⟨ao, cap, rfl, hcap, hmx⟩ := hv.cap
  have hvs := hv.1
  rw [Nat.mul_one] at hvs
  have Hv := Lib.hid hv
  have Hr := Lib.hid hr
  have Hz := Lib.hid hz
  have Hl := Lib.hid hl
  have Hvl := Lib.hid hvl
  have Hvs := Lib.hid hvs
  clear hv hr hz hl hvl hvs
  obtain ⟨i0, hi, hz0, hz1, hz2⟩ := info_parts Try.info3
  obtain ⟨i1, hi1, hz01, hz11, hz21⟩ := info_parts Try.info34
  go_enter Try.func8, Try.ntmps8
  go_wp2_with fail
  go_loopw [3, 4] (fun tv iv wr => ∃ (i : Nat) (bo : Option Addr) (bc : Nat) (us : List Value), i ≤ n ∧ iv = .int .i64 i ∧ tv = .slice bo i bc ∧ Hid (TBuild w wr 34 (.slice bo i bc) i us (zss.take i))) (fun _ iv _ => n - (intOf iv).toNat)
  case atStart => exact ⟨0, none, 0, [], Nat.zero_le _, rfl, rfl, Lib.hid (TBuild.nil (Fr.refl _ _) _)⟩
  case round =>
    obtain ⟨i, bo, bc, us, hi', rfl, rfl, hB⟩ := hrel
    by_cases hik : i < n
    · obtain ⟨zs, hzs⟩ : ∃ zs, zss[i]? = some zs := ⟨zss[i]'(by rw [Hvl.out]; exact hik), by simp [show i < zss.length by rw [Hvl.out]; exact hik]⟩
      obtain ⟨u, hu⟩ : ∃ u, vs[i]? = some u := ⟨vs[i]'(by rw [Hvs.out]; exact hik), by simp [show i < vs.length by rw [Hvs.out]; exact hik]⟩
      have hrow := Hr.out i u zs hu hzs
      have hzb := Hz.out zs (List.mem_of_getElem? hzs)
      have hlb := Hl.out zs (List.mem_of_getElem? hzs)
      obtain ⟨uo, ucap, rfl, hucap, humx⟩ := hrow.cap
      obtain ⟨g, off, c, he, _, _, hx⟩ := Hv.out.form (by omega)
      cases he
      have hci := hx i _ hu
      have Hci := Lib.hid hci
      have Hrow := Lib.hid hrow
      have Hzb := Lib.hid hzb
      have Hzs := Lib.hid hzs
      clear hx hci hrow hzb hzs hu
      generalize hm : zs.length = m at *
      have Hm := Lib.hid hm
      clear hm
      go_wp2_with fail
      obtain ⟨wi, hwi⟩ : ∃ wi : World, wi = wr := ⟨_, rfl⟩
      have hO0 : Hid (Ow wi wr 3 1 (.slice none 0 0) (zs.take 0).length ((zs.take 0).map (Value.int .i64))) := Lib.hid (by rw [hwi]; exact Ow.nil (Fr.refl _ _) _ _)
      rw [← hwi] at hB
      clear hwi
      go_loopw [5, 6] (fun vv jv wr => ∃ (j : Nat) (co : Option Addr) (cc : Nat), j ≤ m ∧ jv = .int .i64 j ∧ vv = .slice co j cc ∧ Hid (Ow wi wr 3 1 (.slice co j cc) (zs.take j).length ((zs.take j).map (Value.int .i64)))) (fun _ jv _ => m - (intOf jv).toNat)
      case atStart => exact ⟨0, none, 0, Nat.zero_le _, rfl, rfl, hO0⟩
      case round =>
        obtain ⟨j, co, cc, hj, rfl, rfl, hO⟩ := hrel
        clear hO0
        have hfw : Fr no w wr := hB.out.own.fr.trans' hO.out.fr
        have hci : wr.cell? ⟨g, off + i, none⟩ = some (.slice uo m ucap) := hfw.cell Hci.out (fun f => f)
        by_cases hjk : j < m
        · have hform := (Hrow.out.fr hfw (fun _ _ _ f => f)).form (by omega)
          obtain ⟨g2, off2, c2, he2, _, _, hx2⟩ := hform
          cases he2
          obtain ⟨x, hxj⟩ : ∃ x, zs[j]? = some x := ⟨zs[j]'(by rw [Hm.out]; exact hjk), by simp [show j < zs.length by rw [Hm.out]; exact hjk]⟩
          have hcx : wr.cell? ⟨g2, off2 + j, none⟩ = some (.int .u16 x) := hx2 j _ (by rw [List.getElem?_map, hxj]; rfl)
          obtain ⟨hx0, hx1⟩ := Hzb.out x (List.mem_of_getElem? hxj)
          have e1 : zs.take (j + 1) = zs.take j ++ [x] := by rw [List.take_add_one, hxj]; rfl
          have hsl := hO.out.sl
          have hjl : (zs.take j).length = j := by rw [List.length_take, Hm.out]; omega
          rw [hjl] at hsl
          have Hsl := Lib.hid hsl
          have E1 := Lib.hid e1
          have Hjl := Lib.hid hjl
          clear hfw hsl e1 hjl hx2 hxj
          go_wp2_with (at_builtin; refine wpList_append_one wr (.int .i64 x) 3 rfl _ _ 34 rfl 3 i0 (.int .i64 0) 8 Try.underlying34 hi hz0 hz1 hz2 rfl _ j _ rfl Hsl.out rfl rfl (by unfold maxLen; omega) (by omega) ?_)
          intro ao' cap' w' hs' hfr hor hkb
          have h2 := hO.out.app1 (x := x) (by rw [Hjl.out, List.map_take]; exact hs') hfr hor
          rw [← E1.out] at h2
          have H2 := Lib.hid h2
          clear hs' hfr hor hkb h2
          go_wp2
          go_roundw
          case rel => exact ⟨j + 1, ao', cap', by omega, by go_num, rfl, H2⟩
          case measure => simp [intOf]; omega
        · obtain rfl : j = m := by omega
          have htk : zs.take j = zs := List.take_of_length_le (by rw [Hm.out]; exact Nat.le_refl _)
          have hO' := hO.out
          rw [htk, Hm.out] at hO'
          have HO := Lib.hid hO'
          have hB1 := hB.out.step hO'.fr
          have HB1 := Lib.hid hB1
          have hnx : RdX (fun g => Value.ownBlock (.slice bo i bc) = some g) wr 1 (.slice co j cc) zs.length (zs.map (Value.int .i64)) := by
            rw [Hm.out]
            exact hO'.rdx (fun g hg => hB.out.own.sl.lt g hg)
          have Hnx := Lib.hid hnx
          clear htk hO' hB1 hnx hO hfw
          go_wp2_with (at_builtin; refine wpList_append_one wr (.slice co j cc) 34 rfl _ _ 25 rfl 34 i1 (.slice none 0 0) 24 Try.underlying25 hi1 hz01 hz11 hz21 rfl _ i _ rfl HB1.out.own.sl rfl rfl (by unfold maxLen; omega) (by omega) ?_)
          intro ao' cap' w' hs' hfr hor hkb
          have h2 := HB1.out.app Hnx.out hs' hfr hor
          have e1 : zss.take (i + 1) = zss.take i ++ [zs] := by rw [List.take_add_one, Hzs.out]; rfl
          rw [← e1] at h2
          have H2 := Lib.hid h2
          clear hs' hfr hor hkb h2 e1
          go_wp2
          go_roundw
          case rel => exact ⟨i + 1, ao', cap', _, by omega, by go_num, rfl, H2⟩
          case measure => simp [intOf]; omega
    · obtain rfl : i = n := by omega
      go_wp2
      go_ret
      have hT := TBuild.tab' hB.out
      rw [List.take_of_length_le (by rw [Hvl.out]; exact Nat.le_refl _)] at hT
      exact ⟨bo, bc, rfl, hT, hB.out.own.fr⟩


theorem few_any (ao : Option Addr) (cap n : Nat) (t : List (List Int)) (w : World) (h : Tab w (.slice ao n cap) t) (hn : t.length = n) : Calls Try.prog 9 #[.slice ao n cap] w fun e w' => ∃ b : Bool, e = .returned (.bool b) ∧ w = w' := by
  obtain ⟨vs, h⟩ := h
  have H := Lib.hid h
  have Hn := Lib.hid hn
  have hcp := h.rd.cap
  rw [hn] at hcp
  obtain ⟨_, _, e, hc1, hc2⟩ := hcp
  cases e
  clear h hn
  go_enter Try.func9, Try.ntmps9
  by_cases h20 : 20 < n
  · go_wp2
    go_ret
    first | exact ⟨_, rfl, rfl⟩ | exact ⟨.inl rfl, rfl⟩ | exact ⟨.inr rfl, rfl⟩
  · go_wp2_with fail
    go_loop [3] (fun jv => ∃ (j : Nat), j ≤ n ∧ jv = .int .i64 j) (fun jv => n - (intOf jv).toNat)
    case atStart => exact ⟨0, Nat.zero_le _, rfl⟩
    case round =>
      obtain ⟨j, hj, rfl⟩ := hrel
      by_cases hlt : j < n
      · obtain ⟨r, xs, a1, a2, a3⟩ := H.out.get (i := j) (by rw [Hn.out]; exact hlt)
        have hf := H.out.rd.form (by rw [Hn.out]; omega)
        rw [Hn.out] at hf
        obtain ⟨g, off, c', he, _, _, hx⟩ := hf
        cases he
        have hc := hx j _ a1
        obtain ⟨ro, rc, rfl, _, _⟩ := a3.cap
        clear hx a1 a2 a3
        generalize xs.length = m at *
        by_cases hm : 70 < m
        · go_wp2
          go_ret
          first | exact ⟨_, rfl, rfl⟩ | exact ⟨.inl rfl, rfl⟩ | exact ⟨.inr rfl, rfl⟩
        · go_wp2
          go_round
          case rel => exact ⟨j + 1, by omega, by go_num⟩
          case measure => simp [intOf]; omega
      · obtain rfl : j = n := by omega
        go_wp2
        go_ret
        first | exact ⟨_, rfl, rfl⟩ | exact ⟨.inl rfl, rfl⟩ | exact ⟨.inr rfl, rfl⟩
end Go.Proofs.Ytkhjdhdgomndoaa
