/- Contract of the reference's ParseVec. -/
import Derived.Test.YtgcjnhocoklfbaaGreatDoorRefP
import Derived.Test.YtgcjnhocoklfbaaGreatDoorVecP
namespace Go.XL
open Go.RowKit Go.Shelf
set_option linter.unusedVariables false
set_option linter.unusedSimpArgs false
theorem parse_form {l : List UInt8} {n : Nat} {c d : UInt8} (hl : l.length = n + 2) (h0 : l[0]? = some c) (h1 : l[n + 1]? = some d) :
    vparse l = if c = 91 ∧ d = 93 then (if n = 0 then ([], 0) else vwords (bsplit 32 ((l.drop 1).take n))) else ([], 2) := by
  cases l with
  | nil => cases hl
  | cons x t =>
    simp at h0 hl h1
    subst h0
    have e1 : t.getLast? = some d := by rw [List.getLast?_eq_getElem?, hl, show n + 1 - 1 = n by omega]; exact h1
    have e2 : t.dropLast = t.take n := by rw [List.dropLast_eq_take, hl]; rfl
    have e3 : t.take n = [] ↔ n = 0 := by
      constructor
      · intro h
        have := congrArg List.length h
        rw [List.length_take, List.length_nil] at this
        omega
      · intro h; rw [h]; rfl
    unfold vparse
    simp only [List.head?_cons, List.tail_cons, e1, e2, Option.some.injEq, List.drop_succ_cons, List.drop_zero, bsplit_32, e3]
theorem parse_short {l : List UInt8} (hl : l.length < 2) : vparse l = ([], 2) := by
  unfold vparse
  rw [if_neg]
  rintro ⟨h1, h2⟩
  cases l with
  | nil => cases h1
  | cons x t =>
    cases t with
    | nil => cases h2
    | cons y t => simp at hl; omega
theorem str_inner (s : ByteArray) (n : Nat) : (s.extract 1 (n + 1)).data.toList = (s.data.toList.drop 1).take n := by
  rw [ByteArray.data_extract, Array.toList_extract, List.extract_eq_take_drop, show n + 1 - 1 = n by omega]
theorem vwords_zero {ws : List (List UInt8)} (h : ∀ w ∈ ws, digs w = true) (h2 : ws.getLast? = some [48]) : vwords ws = ([], 2) := by
  unfold vwords
  rw [if_pos (List.all_eq_true.2 h), if_pos h2]
theorem vwords_long {ws : List (List UInt8)} (h : ∀ w ∈ ws, digs w = true) (h2 : ws.getLast? ≠ some [48]) (h3 : 8 < ws.length ∨ ∃ w ∈ ws, 1048576 < dval w) : vwords ws = ([], 4) := by
  unfold vwords
  rw [if_pos (List.all_eq_true.2 h), if_neg h2, if_neg]
  rw [Bool.and_eq_true, decide_eq_true_eq, List.all_eq_true]
  rintro ⟨h4, h5⟩
  rcases h3 with h3 | ⟨w, hw, h3⟩
  · omega
  · have := h4 w hw
    simp only [decide_eq_true_eq] at this
    omega
theorem vwords_fine {ws : List (List UInt8)} (h : ∀ w ∈ ws, digs w = true) (h2 : ws.getLast? ≠ some [48]) (h3 : ws.length ≤ 8) (h4 : ∀ w ∈ ws, dval w ≤ 1048576) : vwords ws = (ws.map fun w => (dval w : Int), 0) := by
  unfold vwords
  rw [if_pos (List.all_eq_true.2 h), if_neg h2, if_pos]
  rw [Bool.and_eq_true, decide_eq_true_eq, List.all_eq_true]
  exact ⟨fun w hw => decide_eq_true (by have := h4 w hw; omega), h3⟩
theorem rnum_digs {l : List UInt8} (h : digs l = true) : (dval l ≤ 1048576 → rnum l = ((dval l : Int), true)) ∧ (1048576 < dval l → (rnum l = (0, false) ∨ (rnum l = ((dval l : Int), true)))) := by
  unfold rnum
  rw [h]
  constructor
  · intro h1; rw [if_pos ⟨rfl, by omega⟩]
  · intro h1
    by_cases h2 : dval l ≤ 2147483647
    · right; rw [if_pos ⟨rfl, h2⟩]
    · left; rw [if_neg (fun h3 => h2 h3.2)]
end Go.XL
namespace Go.Proofs.YtgcjnhocoklfbaaGreatDoor
open Go.RowKit Go.Shelf Go.XL
set_option linter.unusedVariables false
set_option linter.unusedSimpArgs false
attribute [local go_sem] Oper.semAt_some
set_option maxRecDepth 100000 in
set_option maxHeartbeats 8000000 in
theorem ref_parse (s : ByteArray) (w : World) (hs : s.size ≤ 100000) :
    Calls Tryz.prog 46 #[.string s] w fun e w' => ∃ v', e = .returned (.tuple #[v', .int .i64 (vparse s.data.toList).2]) ∧ Made 3 w w' v' (vparse s.data.toList).1 := by
  have hnil : Made 3 w w (.slice none 0 0) [] := Ow.nil (Fr.refl _ _) _ _
  have Hnil := Lib.hid hnil
  clear hnil
  have hlen := str_len s
  by_cases h2 : s.size < 2
  · rw [parse_short (by rw [hlen]; exact h2)]
    go_enter Tryz.func46, Tryz.ntmps46
    go_wp2
    go_ret2
    exact ⟨_, rfl, Hnil.out⟩
  · obtain ⟨n, hn⟩ : ∃ n, s.size = n + 2 := ⟨s.size - 2, by omega⟩
    obtain ⟨c, hc0, hc⟩ := str_at s 0 (by omega)
    obtain ⟨d, hd0, hd⟩ := str_at s (n + 1) (by omega)
    have hf := parse_form (by rw [hlen, hn]) hc hd
    have hg2 : decide ((n : Int) + 2 < 2) = false := decide_eq_false (by omega)
    rw [hf]
    obtain ⟨r, hr⟩ : ∃ r, s.extract 1 (n + 1) = r := ⟨_, rfl⟩
    have hri := str_inner s n
    rw [hr] at hri
    have hrs : r.size = n := by rw [← str_len, hri, List.length_take, List.length_drop, hlen]; omega
    by_cases hcc : c = 91
    · by_cases hdd : d = 93
      · rw [if_pos ⟨hcc, hdd⟩]
        subst hcc hdd
        by_cases hn0 : n = 0
        · rw [if_pos hn0]
          have hsl : (s.toList == [91, 93]) = true := by
            subst hn0
            rw [ByteArray.toList_eq]
            have h1 : s.data.toList = [91, 93] := by
              have h3 : s.data.toList.length = 2 := by rw [hlen, hn]
              match e : s.data.toList, h3 with
              | [x, y], _ =>
                rw [e] at hc hd
                simp at hc hd
                rw [hc, hd]
            rw [h1]; rfl
          clear hf hri hc hd
          subst hn0
          simp only [Nat.zero_add] at hd0
          go_enter Tryz.func46, Tryz.ntmps46
          go_wp2
          go_ret2
          exact ⟨_, rfl, Hnil.out⟩
        · rw [if_neg hn0, ← hri]
          have hsl : (s.toList == [91, 93]) = false := by
            rw [ByteArray.toList_eq, beq_eq_false_iff_ne]
            intro e
            rw [e] at hlen
            simp at hlen
            omega
          have hsp := ref_split r 32 w (by omega)
          have hlens := bsplit_len 32 r.data.toList
          have hwl := bsplit_word 32 r.data.toList
          have hwne := bsplit_ne 32 r.data.toList
          rw [str_len] at hlens hwl
          generalize bsplit 32 r.data.toList = ws at *
          have Hwl := Lib.hid hwl
          have Hwne := Lib.hid hwne
          have Hsp := Lib.hid hsp
          clear hf hri hc hd hsp hwl hwne
          go_enter Tryz.func46, Tryz.ntmps46
          go_wp2_with fail
          refine Hsp.out.mono ?_
          rintro e w1 ⟨v', rfl, hO⟩
          obtain ⟨k', hk'⟩ : ∃ k', ws.length = k' + 1 := by
            cases ws with
            | nil => exact absurd rfl Hwne.out
            | cons a b => exact ⟨b.length, rfl⟩
          rw [hk'] at hO
          have hkk : k' ≤ 100000 := by omega
          obtain ⟨lo, lc, rfl, hlc, hlm⟩ := hO.cap
          have F := Lib.hid hO.fr
          have hcell : ∀ j, j < k' + 1 → ∃ u, ws[j]? = some u ∧ u.length ≤ 100000 ∧ ∃ g off, lo = some ⟨g, off, none⟩ ∧ ∀ W, Fr no w1 W → W.cell? ⟨g, off + j, none⟩ = some (.string ⟨u.toArray⟩) := fun j hj => by
            obtain ⟨g, off, cc, he, h_, h_2, hg0, hx, hfz⟩ := hO.form (by omega)
            cases he
            obtain ⟨u, hu⟩ : ∃ u, ws[j]? = some u := ⟨ws[j]'(by omega), by simp⟩
            have := Hwl.out u (List.mem_of_getElem? hu)
            refine ⟨u, hu, by omega, g, off, rfl, fun W hW => hW.cell (hx j _ (by rw [List.getElem?_map, hu]; rfl)) (fun f => f)⟩
          have Hcell := Lib.hid hcell
          have Hk := Lib.hid hk'
          clear hcell hO hk' Hwl Hsp hlens hc0 hd0 hsl hr hrs
          go_wp2_with fail
          go_loop [5] (fun jv => ∃ (j : Nat), j ≤ k' + 1 ∧ jv = .int .i64 j ∧ Hid (∀ (i : Nat) (u : List UInt8), i < j → ws[i]? = some u → digs u = true)) (fun jv => k' + 1 - (intOf jv).toNat)
          case atStart => exact ⟨0, Nat.zero_le _, rfl, Lib.hid (fun i u h => by omega)⟩
          case round =>
            obtain ⟨j, hj, rfl, HD⟩ := hrel
            by_cases hlt : j < k' + 1
            · obtain ⟨u, hu, hul, g, off, he, hcl⟩ := Hcell.out j hlt
              cases he
              have hcl := hcl w1 (Fr.refl _ _)
              obtain ⟨t, ht⟩ : ∃ t : ByteArray, ⟨u.toArray⟩ = t := ⟨_, rfl⟩
              have htd : t.data.toList = u := by rw [← ht]
              have hts : t.size ≤ 1099511627776 := by rw [← str_len, htd]; omega
              rw [ht] at hcl
              have hdg := ref_digits t w1 hts
              rw [htd] at hdg
              by_cases hq : digs u = true
              · rw [hq] at hdg
                have HD2 : Hid (∀ (i : Nat) (u : List UInt8), i < j + 1 → ws[i]? = some u → digs u = true) := Lib.hid (fun i x hi hx => by
                  by_cases e : i = j
                  · rw [e, hu] at hx
                    injection hx with hx
                    rw [← hx]; exact hq
                  · exact HD.out i x (by omega) hx)
                clear hu HD hq ht htd
                go_wp2_with fail
                refine hdg.mono ?_
                clear hdg
                rintro e w' ⟨rfl, rfl⟩
                go_wp2
                go_round
                case rel => exact ⟨j + 1, by omega, by go_num, HD2⟩
                case measure => simp [intOf]; omega
              · have hv := vwords_bad (List.mem_of_getElem? hu) hq
                have Hv := Lib.hid hv
                rw [Bool.not_eq_true] at hq
                rw [hq] at hdg
                clear hu HD hq ht htd hv
                go_wp2_with fail
                refine hdg.mono ?_
                clear hdg
                rintro e w' ⟨rfl, rfl⟩
                go_wp2
                go_ret2
                exact ⟨_, by rw [Hv.out]; rfl, by rw [Hv.out]; exact Ow.nil F.out _ _⟩
            · have hjk : j = k' + 1 := by omega
              subst hjk
              have hall : ∀ u ∈ ws, digs u = true := fun u hu => by
                obtain ⟨i, hi⟩ := List.mem_iff_getElem?.1 hu
                exact HD.out i u (by have := (List.getElem?_eq_some_iff.1 hi).1; rw [Hk.out] at this; exact this) hi
              have Hall := Lib.hid hall
              clear hall HD
              obtain ⟨u, hu, hul, g, off, he, hcl⟩ := Hcell.out k' (by omega)
              cases he
              have hcl := hcl w1 (Fr.refl _ _)
              obtain ⟨t, ht⟩ : ∃ t : ByteArray, ⟨u.toArray⟩ = t := ⟨_, rfl⟩
              have htd : t.toList = u := by rw [← ht, ByteArray.toList_eq]
              rw [ht] at hcl
              have hla : ws.getLast? = some u := by rw [List.getLast?_eq_getElem?, Hk.out, show k' + 1 - 1 = k' by omega, hu]
              by_cases hz : u = [48]
              · have htt : (t.toList == [48]) = true := by rw [htd, hz]; rfl
                have hv := vwords_zero Hall.out (by rw [hla, hz])
                have Hv := Lib.hid hv
                clear hu hla hz htd ht hv
                go_wp2
                go_ret2
                exact ⟨_, by rw [Hv.out]; rfl, by rw [Hv.out]; exact Ow.nil F.out _ _⟩
              · have htt : (t.toList == [48]) = false := by rw [htd, beq_eq_false_iff_ne]; exact hz
                have hlz : ws.getLast? ≠ some [48] := by rw [hla]; intro h; injection h with h; exact hz h
                have Hlz := Lib.hid hlz
                clear hu hla hz htd ht hlz
                by_cases h8 : 8 < k' + 1
                · have hv := vwords_long Hall.out Hlz.out (.inl (by rw [Hk.out]; exact h8))
                  have Hv := Lib.hid hv
                  clear hv
                  go_wp2
                  go_ret2
                  exact ⟨_, by rw [Hv.out]; rfl, by rw [Hv.out]; exact Ow.nil F.out _ _⟩
                · obtain ⟨i0, hi, hz0, hz1, hz2⟩ := info_parts Tryz.info3
                  go_wp2_with fail
                  clear hcl htt
                  go_loopw [6, 7] (fun ov jv wr => ∃ (j : Nat) (bo : Option Addr) (bc : Nat), j ≤ k' + 1 ∧ jv = .int .i64 j ∧ ov = .slice bo j bc ∧ Hid (∀ (i : Nat) (u : List UInt8), i < j → ws[i]? = some u → dval u ≤ 1048576) ∧ Hid (Ow w1 wr 3 1 (.slice bo j bc) j ((ws.take j).map fun u => .int .i64 (dval u : Int)))) (fun _ jv _ => k' + 1 - (intOf jv).toNat)
                  case atStart => exact ⟨0, none, 0, Nat.zero_le _, rfl, rfl, Lib.hid (fun i u h => by omega), Lib.hid (Ow.nil (Fr.refl _ _) _ _)⟩
                  case round =>
                    obtain ⟨j, bo, bc, hj, rfl, rfl, HD, HO⟩ := hrel
                    by_cases hlt : j < k' + 1
                    · obtain ⟨u2, hu, hul2, g2, off2, he, hcl⟩ := Hcell.out j hlt
                      cases he
                      have hcl := hcl wr HO.out.fr
                      obtain ⟨t2, ht⟩ : ∃ t : ByteArray, ⟨u2.toArray⟩ = t := ⟨_, rfl⟩
                      have htd : t2.data.toList = u2 := by rw [← ht]
                      have hts : t2.size ≤ 1099511627776 := by rw [← str_len, htd]; omega
                      rw [ht] at hcl
                      have hnu := ref_number t2 wr hts
                      rw [htd] at hnu
                      have hdu := Hall.out u2 (List.mem_of_getElem? hu)
                      obtain ⟨q, hq⟩ : ∃ q, dval u2 = q := ⟨_, rfl⟩
                      have hrn := rnum_digs hdu
                      rw [hq] at hrn
                      by_cases hqb : q ≤ 1048576
                      · rw [hrn.1 hqb] at hnu
                        have HD2 : Hid (∀ (i : Nat) (u : List UInt8), i < j + 1 → ws[i]? = some u → dval u ≤ 1048576) := Lib.hid (fun i x hi hx => by
                          by_cases e : i = j
                          · rw [e, hu] at hx
                            injection hx with hx
                            rw [← hx, hq]; exact hqb
                          · exact HD.out i x (by omega) hx)
                        have hcs : (ws.take (j + 1)).map (fun u => Value.int .i64 (dval u : Int)) = (ws.take j).map (fun u => Value.int .i64 (dval u : Int)) ++ [.int .i64 (q : Int)] := by
                          rw [List.take_add_one, hu, List.map_append]; simp [hq]
                        have Hcs := Lib.hid hcs
                        have Hnu := Lib.hid hnu
                        clear hu HD hq ht htd hcs hnu hrn hdu
                        go_wp2_with fail
                        refine Hnu.out.mono ?_
                        rintro e w' ⟨rfl, rfl⟩
                        go_wp2_with (at_builtin; refine wpList_append_one _ (.int .i64 _) 3 rfl _ _ 22 rfl 3 i0 (.int .i64 0) 8 Tryz.underlying22 hi hz0 hz1 hz2 rfl _ j _ rfl HO.out.sl rfl rfl (by unfold maxLen; omega) (by omega) ?_)
                        intro ao3 cap3 w2 hs2 hfr2 hor2 hkb2
                        have HW := Lib.hid (HO.out.app hs2 hfr2 hor2)
                        rw [← List.map_take, ← Hcs.out] at HW
                        clear hs2 hfr2 hor2 hkb2
                        go_wp2
                        go_roundw
                        case rel => exact ⟨j + 1, ao3, cap3, by omega, by go_num, rfl, HD2, HW⟩
                        case measure => simp [intOf]; omega
                      · have hv := vwords_long Hall.out Hlz.out (.inr ⟨u2, List.mem_of_getElem? hu, by rw [hq]; omega⟩)
                        have Hv := Lib.hid hv
                        have hqb2 : (1048576 : Int) < q := by omega
                        rcases hrn.2 (by omega) with hrn | hrn
                        all_goals
                          rw [hrn] at hnu
                          have Hnu := Lib.hid hnu
                          clear hu HD hq ht htd hnu hrn hdu hv
                          go_wp2_with fail
                          refine Hnu.out.mono ?_
                          rintro e w' ⟨rfl, rfl⟩
                          go_wp2
                          go_ret2
                          exact ⟨_, by rw [Hv.out]; rfl, by rw [Hv.out]; exact Ow.nil (F.out.trans' HO.out.fr) _ _⟩
                    · have hjk : j = k' + 1 := by omega
                      subst hjk
                      have hv := vwords_fine Hall.out Hlz.out (by rw [Hk.out]; omega) (fun u hu => by
                        obtain ⟨i, hi⟩ := List.mem_iff_getElem?.1 hu
                        exact HD.out i u (by have := (List.getElem?_eq_some_iff.1 hi).1; rw [Hk.out] at this; exact this) hi)
                      have Hv := Lib.hid hv
                      clear hv
                      go_wp2
                      go_ret2
                      refine ⟨_, by rw [Hv.out]; rfl, ?_⟩
                      rw [Hv.out]
                      have h1 := HO.out.base F.out
                      rw [List.take_of_length_le (by rw [Hk.out]; exact Nat.le_refl _)] at h1
                      unfold Made
                      rw [List.length_map, Hk.out, List.map_map]
                      exact h1
      · rw [if_neg (fun h => hdd h.2)]
        subst hcc
        have hdd2 : ((d.toNat : Int) != 93) = true := by
          rw [bne_iff_ne]
          exact fun e => hdd (UInt8.toNat_inj.1 (by show d.toNat = 93; omega))
        clear hf hri hc hd
        go_enter Tryz.func46, Tryz.ntmps46
        go_wp2
        go_ret2
        exact ⟨_, rfl, Hnil.out⟩
    · rw [if_neg (fun h => hcc h.1)]
      have hcc2 : ((c.toNat : Int) != 91) = true := by
        rw [bne_iff_ne]
        exact fun e => hcc (UInt8.toNat_inj.1 (by show c.toNat = 91; omega))
      clear hf hri hc hd
      go_enter Tryz.func46, Tryz.ntmps46
      go_wp2
      go_ret2
      exact ⟨_, rfl, Hnil.out⟩
end Go.Proofs.YtgcjnhocoklfbaaGreatDoor
