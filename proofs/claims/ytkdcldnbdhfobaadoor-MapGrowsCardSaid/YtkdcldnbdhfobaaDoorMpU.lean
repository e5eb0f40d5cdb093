/- The reference's maps: ParseMap. -/
import Derived.Test.YtkdcldnbdhfobaaDoorMpQ
import Derived.Test.YtkdcldnbdhfobaaDoorMpR
import Derived.Test.YtkdcldnbdhfobaaDoorMp2
namespace Go.XL
open Go.RowKit Go.Shelf
set_option linter.unusedVariables false
theorem ext_front (s : ByteArray) (a b : List UInt8) (c : UInt8) (h : s.data.toList = a ++ c :: b) : (s.extract 0 a.length).data.toList = a ∧ (s.extract (a.length + 1) s.size).data.toList = b := by
  rw [ByteArray.data_extract, Array.toList_extract, List.extract_eq_take_drop, ByteArray.data_extract, Array.toList_extract, List.extract_eq_take_drop, ← str_len, h]
  constructor
  · simp
  · simp only [List.length_append, List.length_cons, List.drop_append]
    rw [List.drop_eq_nil_of_le (by omega), show a.length + 1 - a.length = 1 by omega]
    simp only [List.nil_append, List.drop_succ_cons, List.drop_zero]
    exact List.take_of_length_le (by omega)
end Go.XL
namespace Go.Proofs.YtkdcldnbdhfobaaDoor
open Go.RowKit Go.Shelf Go.XL
set_option linter.unusedVariables false
set_option linter.unusedSimpArgs false
attribute [local go_sem] Oper.semAt_some
set_option maxRecDepth 100000 in
set_option maxHeartbeats 4000000 in
theorem ref_parsemap (s : ByteArray) (w : World) (hs : s.size ≤ 100000) :
    Calls Tryd.prog 20 #[.string s] w fun e w' => ∃ v', e = .returned (.tuple #[v', .int .i64 (mparse s.data.toList).2]) ∧ Ow w w' 60 2 v' (mparse s.data.toList).1.length (mpCells (mparse s.data.toList).1) := by
  have hlen := str_len s
  by_cases hne : s.toList = []
  · have hm : mparse s.data.toList = ([], 1) := by rw [← ByteArray.toList_eq, hne]; rfl
    rw [hm]
    have hq : (s.toList == []) = true := by rw [hne]; rfl
    clear hm
    go_enter Tryd.func20, Tryd.ntmps20
    go_wp2
    go_ret2
    exact ⟨_, rfl, Ow.nil (Fr.refl _ _) _ _⟩
  · have hq : (s.toList == []) = false := by rw [beq_eq_false_iff_ne]; exact hne
    have hwds := mwords_split (l := s.data.toList) (by rw [← ByteArray.toList_eq]; exact hne)
    obtain ⟨r, hr⟩ : ∃ r, mparse s.data.toList = r := ⟨_, rfl⟩
    rw [hr]
    have hsp := ref_split s 32 w (by omega)
    have hlens := bsplit_len 32 s.data.toList
    have hwl := bsplit_word 32 s.data.toList
    rw [hlen] at hlens hwl
    have hbad : ∀ (i : Nat) x, (bsplit 32 s.data.toList)[i]? = some x → mpw x = none → r = ([], 2) := fun i x hx hn => by
      obtain ⟨hi, hx2⟩ := List.getElem?_eq_some_iff.1 hx
      rw [← hr]
      refine mparse_bad (a := (bsplit 32 s.data.toList).take i) (b := (bsplit 32 s.data.toList).drop (i + 1)) ?_ hn
      rw [hwds, ← hx2, ← List.drop_eq_getElem_cons hi, List.take_append_drop]
    have hgood : ∀ m, mpall (bsplit 32 s.data.toList) = some m → r = if mcheck m = 0 then (m, 0) else ([], 1) := fun m hm => by
      rw [← hr]
      exact mparse_ok (by rw [hwds]; exact hm)
    have Hbad := Lib.hid hbad
    have Hgood := Lib.hid hgood
    clear hbad hgood hr hwds
    generalize bsplit 32 s.data.toList = ws at *
    have Hwl := Lib.hid hwl
    have Hsp := Lib.hid hsp
    clear hwl hsp hne hlen
    obtain ⟨j0, hj0, jz0, jz1, jz2⟩ := info_parts (show (Tryd.prog.info? 60).map (fun i => (i.zero, i.size, i.bytes)) = some (some (.agg #[.int .i64 0, .int .i64 0]), 2, 16) by kernel_rfl)
    go_enter Tryd.func20, Tryd.ntmps20
    go_wp2_with fail
    refine Hsp.out.mono ?_
    rintro e w1 ⟨v', rfl, hO⟩
    obtain ⟨N, hN⟩ : ∃ N, ws.length = N := ⟨_, rfl⟩
    rw [hN] at hO hlens
    have hkk : N ≤ 100001 := by omega
    obtain ⟨lo, lc, rfl, hlc, hlm⟩ := hO.cap
    have F := Lib.hid hO.fr
    have hcell : ∀ j, j < N → ∃ u, ws[j]? = some u ∧ u.length ≤ 100000 ∧ ∃ g off, lo = some ⟨g, off, none⟩ ∧ ∀ W, Fr no w1 W → W.cell? ⟨g, off + j, none⟩ = some (.string ⟨u.toArray⟩) := fun j hj => by
      obtain ⟨g, off, cc, he, h_, h_2, hg0, hx, hfz⟩ := hO.form (by omega)
      cases he
      obtain ⟨u, hu⟩ : ∃ u, ws[j]? = some u := ⟨ws[j]'(by omega), by simp⟩
      have := Hwl.out u (List.mem_of_getElem? hu)
      refine ⟨u, hu, by omega, g, off, rfl, fun W hW => hW.cell (hx j _ (by rw [List.getElem?_map, hu]; rfl)) (fun f => f)⟩
    have Hcell := Lib.hid hcell
    have HN := Lib.hid hN
    clear hcell hO hN Hwl Hsp hlens hq
    go_wp2_with fail
    go_loopw [5, 6] (fun ov iv wr => ∃ (k : Nat) (bo : Option Addr) (bc : Nat) (mm : Mp), k ≤ N ∧ iv = .int .i64 k ∧ ov = .slice bo k bc ∧ Hid (mpall (ws.take k) = some mm) ∧ Hid (Ow w1 wr 60 2 (.slice bo k bc) k (mpCells mm))) (fun _ iv _ => N - (intOf iv).toNat)
    case atStart => exact ⟨0, none, 0, [], Nat.zero_le _, rfl, rfl, Lib.hid rfl, Lib.hid (Ow.nil (Fr.refl _ _) _ _)⟩
    case round =>
      obtain ⟨k, bo, bc, mm, hk, rfl, rfl, HM, HO⟩ := hrel
      generalize wr = V at *
      by_cases hlt : k < N
      · obtain ⟨u, hu, hul, g, off, he, hcl⟩ := Hcell.out k hlt
        cases he
        have hcl := hcl V HO.out.fr
        obtain ⟨t, ht⟩ : ∃ t : ByteArray, ⟨u.toArray⟩ = t := ⟨_, rfl⟩
        have htd : t.data.toList = u := by rw [← ht]
        have hts : t.size ≤ 1099511627776 := by rw [← str_len, htd]; omega
        rw [ht] at hcl
        have hfi := ref_find t 47 0 V hts (by omega)
        rw [htd] at hfi
        have F2 := Lib.hid (F.out.trans' HO.out.fr)
        rcases byte_split 47 u with h1 | ⟨a, b, hab, h1⟩
        · have E := Lib.hid (Hbad.out k u hu (mpw_none h1))
          rw [ffrom_none h1] at hfi
          have Hfi := Lib.hid hfi
          clear hfi hu ht htd HM HO
          go_wp2_with fail
          refine Hfi.out.mono ?_
          rintro e w' ⟨rfl, rfl⟩
          go_wp2
          go_ret2
          rw [E.out]
          exact ⟨_, rfl, Ow.nil F2.out _ _⟩
        · subst hab
          rw [ffrom_split h1] at hfi
          obtain ⟨p, hp⟩ : ∃ p, a.length = p := ⟨_, rfl⟩
          obtain ⟨ea, eb⟩ := ext_front t a b 47 htd
          rw [hp] at hfi ea eb
          have htl : p + 1 ≤ t.size := by rw [← str_len, htd, ← hp]; simp
          obtain ⟨A, hA⟩ : ∃ A, t.extract 0 p = A := ⟨_, rfl⟩
          obtain ⟨B, hB⟩ : ∃ B, t.extract (p + 1) t.size = B := ⟨_, rfl⟩
          rw [hA] at ea
          rw [hB] at eb
          have hal : a.length ≤ 100000 := by simp at hul; omega
          have hbl : b.length ≤ 100000 := by simp at hul; omega
          have hna := ref_number A V (by rw [← str_len, ea]; omega)
          have hnb := ref_number B V (by rw [← str_len, eb]; omega)
          rw [ea] at hna
          rw [eb] at hnb
          have Hfi := Lib.hid hfi
          have Hbd := Lib.hid (fun h => Hbad.out k (a ++ 47 :: b) hu (mpw_bad h1 h))
          have Hok := Lib.hid (fun ha hb => mpall_snoc HM.out (mpw_ok (a := a) (b := b) h1 ha hb))
          have htk : ws.take (k + 1) = ws.take k ++ [a ++ 47 :: b] := by rw [List.take_add_one, hu]; rfl
          rw [← htk] at Hok
          clear hfi ht htd hu hul h1 HM htk ea eb hal hbl hp
          obtain ⟨ra, hra⟩ : ∃ r, rnum a = r := ⟨_, rfl⟩
          obtain ⟨rb, hrb⟩ : ∃ r, rnum b = r := ⟨_, rfl⟩
          rw [hra] at hna Hbd Hok
          rw [hrb] at hnb Hbd Hok
          clear hra hrb
          obtain ⟨na, oka⟩ := ra
          obtain ⟨nb, okb⟩ := rb
          dsimp only at hna hnb Hbd Hok
          have Hna := Lib.hid hna
          have Hnb := Lib.hid hnb
          clear hna hnb
          go_wp2_with fail
          refine Hfi.out.mono ?_
          rintro e w' ⟨rfl, rfl⟩
          go_wp2_with fail
          refine Hna.out.mono ?_
          rintro e w' ⟨rfl, rfl⟩
          go_wp2_with fail
          refine Hnb.out.mono ?_
          rintro e w' ⟨rfl, rfl⟩
          clear Hfi Hna Hnb hA hB hcl
          cases oka
          · have E := Lib.hid (Hbd.out (.inl rfl))
            clear Hbd Hok HO
            go_wp2
            go_ret2
            rw [E.out]
            exact ⟨_, rfl, Ow.nil F2.out _ _⟩
          · cases okb
            · have E := Lib.hid (Hbd.out (.inr rfl))
              clear Hbd Hok HO
              go_wp2
              go_ret2
              rw [E.out]
              exact ⟨_, rfl, Ow.nil F2.out _ _⟩
            · have HM2 := Lib.hid (Hok.out rfl rfl)
              have HO2 := Lib.hid (HO.out.step ((Fr.refl no V).alloc (.cells #[.int .i64 na, .int .i64 nb] 60)))
              have Hlit := Lib.hid (mp_lit1 V 60 na nb)
              have hone : ∀ u ∈ [Value.int .i64 na, Value.int .i64 nb], u.oneCell' = true := fun u hu => by
                simp at hu
                rcases hu with rfl | rfl <;> rfl
              have Hone := Lib.hid hone
              clear Hbd Hok HO hone F2
              go_wp2_with (at_builtin; refine wpList_append_all (V.alloc (.cells #[.int .i64 na, .int .i64 nb] 60)) rfl _ _ 25 rfl 60 j0 _ 2 16 Tryd.underlying25 hj0 jz0 jz1 jz2 rfl (by decide) _ _ _ rfl HO2.out.sl _ _ _ rfl Hlit.out Hone.out (by unfold maxLen; omega) (by omega) ?_)
              intro ao2 cap2 w2 hs2 hf2 ho2 _
              have hO3 := HO2.out.app hs2 hf2 (by simpa using ho2)
              have HO3 : Hid (Ow w1 w2 60 2 (.slice ao2 (k + 1) cap2) (k + 1) (mpCells (mm ++ [(na, nb)]))) := Lib.hid (by rw [mpCells_app]; exact hO3)
              clear hs2 hf2 ho2 HO2 Hlit hO3
              go_wp2
              go_roundw
              case rel => exact ⟨k + 1, ao2, cap2, mm ++ [(na, nb)], by omega, by go_num, rfl, HM2, HO3⟩
              case measure => simp [intOf]; omega
      · obtain rfl : k = N := by omega
        have hM := HM.out
        rw [List.take_of_length_le (by rw [HN.out]; exact Nat.le_refl _)] at hM
        have hr := Hgood.out mm hM
        have hml : mm.length = k := by
          have := congrArg List.length (mpall_map hM).1
          rw [List.length_map, HN.out] at this
          exact this
        have hck := ref_checkmap (.slice bo k bc) mm V (by unfold MpAt; rw [hml]; exact HO.out.rd)
        have Hck := Lib.hid hck
        have HO2 := Lib.hid (HO.out.base F.out)
        have Hml := Lib.hid hml
        have hrr : (r = (mm, 0) ∧ mcheck mm = 0) ∨ (r = ([], 1) ∧ mcheck mm = 1) := by
          rcases mcheck_two mm with hz | hz
          · exact .inl ⟨by rw [hr, if_pos hz], hz⟩
          · exact .inr ⟨by rw [hr, if_neg (by omega)], hz⟩
        have Hrr := Lib.hid hrr
        clear hck hM hr hml HM HO hrr
        go_wp2_with fail
        refine Hck.out.mono ?_
        rintro e w3 ⟨rfl, hf3⟩
        have HO3 := Lib.hid (HO2.out.step hf3)
        clear Hck HO2 hf3
        rcases Hrr.out with ⟨rfl, hz⟩ | ⟨rfl, hz⟩
        · rw [hz]
          clear Hrr hz
          go_wp2
          go_ret2
          exact ⟨_, rfl, by rw [Hml.out]; exact HO3.out⟩
        · rw [hz]
          clear Hrr hz
          go_wp2
          go_ret2
          exact ⟨_, rfl, Ow.nil HO3.out.fr _ _⟩
end Go.Proofs.YtkdcldnbdhfobaaDoor
