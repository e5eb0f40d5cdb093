/- The walk of the law TableAll. -/
import Derived.Test.YtkhjdhdgomndoaaKnownT
import Derived.Test.YtkhjdhdgomndoaaBuild
import Derived.OpenShut
namespace Go.XL
open Go.RowKit Go.Shelf
set_option linter.unusedVariables false
set_option linter.unusedSimpArgs false
/-- a square of numbers, row by row -/
def sqRow (zs : List Int) (k i : Nat) : List Int := (List.range k).map fun j : Nat => zs[i * k + j]?.getD 0
def sqTab (zs : List Int) (k n : Nat) : List (List Int) := (List.range n).map fun i : Nat => sqRow zs k i
theorem sqRow_len (zs : List Int) (k i : Nat) : (sqRow zs k i).length = k := by simp [sqRow]
theorem sqTab_len (zs : List Int) (k n : Nat) : (sqTab zs k n).length = n := by simp [sqTab]
theorem sqTab_succ (zs : List Int) (k n : Nat) : sqTab zs k (n + 1) = sqTab zs k n ++ [sqRow zs k n] := by simp [sqTab, List.range_succ]
theorem sqRow_get (zs : List Int) (k i j : Nat) (h : j < k) : vget (sqRow zs k i) j = zs[i * k + j]?.getD 0 := by rw [vget_nat]; simp [sqRow, h]
theorem vget_both (g : Int → Int → Int) (a b : List Int) (j : Nat) (h : j < max a.length b.length) : vget (vboth g a b) j = g (vget a j) (vget b j) := by
  rw [vget_nat]; simp [vboth, h]
def colMin (j : Nat) (m : Int) (t : List (List Int)) : Int := t.foldl (fun m x => min m (vget x j)) m
theorem colMin_snoc (j : Nat) (m : Int) (t : List (List Int)) (x : List Int) : colMin j m (t ++ [x]) = min (colMin j m t) (vget x j) := by simp [colMin]
theorem tall_get (L : Nat) (rest : List (List Int)) (cur : List Int) (k0 : Nat) (hk : k0 ≠ 0) (hc : cur.length = L) (hr : ∀ x ∈ rest, x.length = L) :
    (tall cur k0 rest).length = L ∧ ∀ j : Nat, j < L → vget (tall cur k0 rest) j = colMin j (vget cur j) rest := by
  induction rest generalizing cur k0 with
  | nil => exact ⟨hc, fun j _ => rfl⟩
  | cons x r ih =>
    have hx := hr x (by simp)
    have hl : (vboth min cur x).length = L := by rw [vboth_len]; omega
    have := ih (vboth min cur x) (k0 + 1) (by omega) hl (fun y hy => hr y (by simp [hy]))
    simp only [tall]; rw [if_neg hk]
    refine ⟨this.1, fun j hj => ?_⟩
    rw [this.2 j hj, vget_both _ _ _ _ (by omega)]
    simp [colMin]
theorem tall_sq (zs : List Int) (k : Nat) (h : 0 < k) : (tall [] 0 (sqTab zs k k)).length = k ∧ ∀ j : Nat, j < k → vget (tall [] 0 (sqTab zs k k)) j = colMin j (zs[j]?.getD 0) (sqTab zs k k) := by
  obtain ⟨m, rfl⟩ : ∃ m, k = m + 1 := ⟨k - 1, by omega⟩
  have e : sqTab zs (m + 1) (m + 1) = sqRow zs (m + 1) 0 :: (sqTab zs (m + 1) (m + 1)).tail := by
    simp [sqTab, List.range_succ_eq_map]
  have hr : ∀ x ∈ (sqTab zs (m + 1) (m + 1)).tail, x.length = m + 1 := fun x hx => by
    have := List.mem_of_mem_tail hx
    simp only [sqTab, List.mem_map] at this
    obtain ⟨i, _, rfl⟩ := this
    exact sqRow_len _ _ _
  have ht := tall_get (m + 1) _ (vboth min (sqRow zs (m + 1) 0) (sqRow zs (m + 1) 0)) 1 (by decide) (by rw [vboth_len, sqRow_len]; simp) hr
  rw [e]
  simp only [tall]
  rw [if_pos trivial]
  refine ⟨ht.1, fun j hj => ?_⟩
  rw [ht.2 j hj, vget_both _ _ _ _ (by rw [sqRow_len]; omega), sqRow_get _ _ _ _ hj]
  simp [colMin, sqRow_get _ _ _ _ hj]
theorem vbad_good (xs : List Int) (h : ∀ x ∈ xs, 0 ≤ x ∧ x ≤ 1048576) : vbad xs = 0 := by
  induction xs with
  | nil => rfl
  | cons x r ih =>
    have := h x (by simp)
    unfold vbad
    rw [if_neg (by omega), if_neg (by omega)]
    exact ih (fun y hy => h y (by simp [hy]))
theorem tbad_good (t : List (List Int)) (sites : Int) (h : ∀ x ∈ t, vcheck x sites = 0) : tbad t sites = 0 := by
  induction t with
  | nil => rfl
  | cons x r ih =>
    unfold tbad
    rw [if_pos (h x (by simp))]
    exact ih (fun y hy => h y (by simp [hy]))
theorem sq_check (zs : List Int) (k : Nat) (h : 0 < k) (h8 : k ≤ 8) (hz : ∀ x ∈ zs, 0 ≤ x ∧ x ≤ 65535) : tcheck (sqTab zs k k) k = 0 := by
  unfold tcheck
  rw [if_neg (by omega), if_neg (by omega), if_pos (by rw [sqTab_len])]
  refine tbad_good _ _ (fun x hx => ?_)
  simp only [sqTab, List.mem_map] at hx
  obtain ⟨i, _, rfl⟩ := hx
  unfold vcheck
  rw [if_neg (by omega), if_neg (by omega), if_neg (by rw [sqRow_len]; omega)]
  refine vbad_good _ (fun y hy => ?_)
  simp only [sqRow, List.mem_map] at hy
  obtain ⟨j, _, rfl⟩ := hy
  cases e : zs[i * k + j]? with
  | none => simp
  | some y => have := hz y (List.mem_of_getElem? e); simp; omega
end Go.XL
namespace Go.Proofs.Ytkhjdhdgomndoaa
open Go.RowKit Go.Shelf Go.XL
set_option linter.unusedVariables false
set_option linter.unusedSimpArgs false
attribute [local go_sem] Oper.semAt_some

theorem TBuild.tab {w0 w : World} {E : TypeId} {v : Value} {n : Nat} {vs : List Value} {t : List (List Int)} (h : TBuild w0 w E v n vs t) : Tab w v t :=
  ⟨vs, by rw [h.len]; exact h.own.rd, fun i u xs h1 h2 => (h.rows i u xs h1 h2).rd⟩

set_option maxRecDepth 100000 in
set_option maxHeartbeats 4000000 in
theorem all_any (v : Value) (zs : List Int) (n : Nat) (b : Int) (w : World) (hv : Rd w 1 v n (zs.map (Value.int .u16))) (hz : ∀ x ∈ zs, 0 ≤ x ∧ x ≤ 65535) (hb0 : 0 ≤ b) (hb1 : b ≤ 255) :
    Calls Try.prog 5 #[v, .int .u8 b] w fun e w' => e = .returned (.bool true) ∧ Fr no w w' := by
  obtain ⟨ao, cap, rfl, hcap, hmx⟩ := hv.cap
  have hl : zs.length = n := by simpa using hv.1
  have Hv := Lib.hid hv
  have Hz := Lib.hid hz
  have Hl := Lib.hid hl
  clear hv hz hl
  obtain ⟨k, hk, hk1, hk8⟩ : ∃ k : Nat, 1 + b % 8 = (k : Int) ∧ 1 ≤ k ∧ k ≤ 8 := ⟨(1 + b % 8).toNat, by omega, by omega, by omega⟩
  obtain ⟨K2, hK2⟩ : ∃ K2 : Nat, K2 = k * k := ⟨_, rfl⟩
  have hK2i : (k : Int) * k = K2 := by rw [hK2]; simp
  have hK64 : K2 ≤ 64 := by rw [hK2]; exact Nat.mul_le_mul hk8 hk8
  have HK2 := Lib.hid hK2
  clear hK2
  go_enter Try.func5, Try.ntmps5
  go_wp2_with fail
  refine (known_any w).mono ?_
  rintro e w1 ⟨rfl, hf1⟩
  have F1 := Lib.hid hf1
  clear hf1
  by_cases hnk : n < K2
  · go_wp2
    go_ret
    exact ⟨rfl, F1.out⟩
  · have hcell : ∀ (wr : World), Fr no w wr → ∀ q : Nat, q < K2 → ∃ g off, ao = some ⟨g, off, none⟩ ∧ wr.cell? ⟨g, off + q, none⟩ = some (.int .u16 (zs[q]?.getD 0)) ∧ 0 ≤ zs[q]?.getD 0 ∧ zs[q]?.getD 0 ≤ 65535 := by
      intro wr hf q hq
      obtain ⟨g, off, c, he, _, _, hx⟩ := (Hv.out.fr hf (fun _ _ _ f => f)).form (by omega)
      cases he
      have hqz : q < zs.length := by rw [Hl.out]; omega
      have e : zs[q]? = some zs[q] := by simp [hqz]
      refine ⟨g, off, rfl, ?_, ?_⟩
      · rw [hx q _ (by rw [List.getElem?_map, e]; rfl), e]; rfl
      · rw [e]; exact Hz.out _ (by simp)
    have Hcell := Lib.hid hcell
    clear hcell
    go_wp2_with fail
    obtain ⟨i0, hi, hz0, hz1, hz2⟩ := info_parts Try.info3
    obtain ⟨i1, hi1, hz01, hz11, hz21⟩ := info_parts Try.info34
    go_loopw [6, 7] (fun tv iv wr => ∃ (i : Nat) (bo : Option Addr) (bc : Nat) (vs : List Value), i ≤ k ∧ iv = .int .i64 i ∧ tv = .slice bo i bc ∧ Hid (TBuild w1 wr 34 (.slice bo i bc) i vs (sqTab zs k i))) (fun _ iv _ => k - (intOf iv).toNat)
    case atStart => exact ⟨0, none, 0, [], Nat.zero_le _, rfl, rfl, Lib.hid (TBuild.nil (Fr.refl _ _) _)⟩
    case round =>
      obtain ⟨i, bo, bc, vs, hi', rfl, rfl, hB⟩ := hrel
      by_cases hik : i < k
      · obtain ⟨p, hp⟩ : ∃ p : Nat, p = i * k := ⟨_, rfl⟩
        have hpi : (i : Int) * k = p := by rw [hp]; simp
        have hpk : p + k ≤ K2 := by rw [hp, HK2.out, ← Nat.succ_mul]; exact Nat.mul_le_mul_right k hik
        have Hp := Lib.hid hp
        clear hp
        go_wp2_with fail
        obtain ⟨wi, hwi⟩ : ∃ wi : World, wi = wr := ⟨_, rfl⟩
        have hO0 : Hid (Ow wi wr 3 1 (.slice none 0 0) ((sqRow zs k i).take 0).length (((sqRow zs k i).take 0).map (Value.int .i64))) := Lib.hid (by rw [hwi]; exact Ow.nil (Fr.refl _ _) _ _)
        rw [← hwi] at hB
        clear hwi
        go_loopw [8, 9] (fun vv jv wr => ∃ (j : Nat) (co : Option Addr) (cc : Nat), j ≤ k ∧ jv = .int .i64 j ∧ vv = .slice co j cc ∧ Hid (Ow wi wr 3 1 (.slice co j cc) ((sqRow zs k i).take j).length (((sqRow zs k i).take j).map (Value.int .i64)))) (fun _ jv _ => k - (intOf jv).toNat)
        case atStart => exact ⟨0, none, 0, Nat.zero_le _, rfl, rfl, hO0⟩
        case round =>
          obtain ⟨j, co, cc, hj, rfl, rfl, hO⟩ := hrel
          clear hO0
          by_cases hjk : j < k
          · obtain ⟨q, hq⟩ : ∃ q : Nat, q = p + j := ⟨_, rfl⟩
            have hqi : (p : Int) + j = q := by rw [hq]; simp
            have hfw : Fr no w wr := (F1.out.trans' hB.out.own.fr).trans' hO.out.fr
            obtain ⟨g, off, rfl, hc, hx0, hx1⟩ := Hcell.out wr hfw q (by omega)
            have e1 : (sqRow zs k i).take (j + 1) = (sqRow zs k i).take j ++ [zs[q]?.getD 0] := by
              rw [List.take_add_one]
              have : (sqRow zs k i)[j]? = some (zs[q]?.getD 0) := by rw [hq, Hp.out]; simp [sqRow, hjk]
              rw [this]; rfl
            have hql : q < n := by omega
            have hsl := hO.out.sl
            have hjl : ((sqRow zs k i).take j).length = j := by rw [List.length_take, sqRow_len]; omega
            rw [hjl] at hsl
            have Hsl := Lib.hid hsl
            have E1 := Lib.hid e1
            have Hjl := Lib.hid hjl
            clear hfw hsl e1 hjl hq
            generalize zs[q]?.getD 0 = x at *
            go_wp2_with (at_builtin; refine wpList_append_one wr (.int .i64 x) 3 rfl _ _ 34 rfl 3 i0 (.int .i64 0) 8 Try.underlying34 hi hz0 hz1 hz2 rfl _ j _ rfl Hsl.out rfl rfl (by unfold maxLen; omega) (by omega) ?_)
            intro ao' cap' w' hs' hfr hor hkb
            have h2 := hO.out.app1 (x := x) (by rw [Hjl.out, List.map_take]; exact hs') hfr hor
            rw [← E1.out] at h2
            have H2 := Lib.hid h2
            clear hs' hfr hor hkb h2
            go_wp2
            go_roundw
            case rel => exact ⟨j + 1, ao', cap', by omega, by go_num, rfl, H2⟩
            case measure => simp [intOf]; omega
          · obtain rfl : j = k := by omega
            have htk : (sqRow zs j i).take j = sqRow zs j i := List.take_of_length_le (by rw [sqRow_len]; exact Nat.le_refl _)
            have hO' := hO.out
            rw [htk, sqRow_len] at hO'
            have HO := Lib.hid hO'
            have hB1 := hB.out.step hO'.fr
            have HB1 := Lib.hid hB1
            have hnx : RdX (fun g => Value.ownBlock (.slice bo i bc) = some g) wr 1 (.slice co j cc) (sqRow zs j i).length ((sqRow zs j i).map (Value.int .i64)) := by
              rw [sqRow_len]
              exact hO'.rdx (fun g hg => hB.out.own.sl.lt g hg)
            have Hnx := Lib.hid hnx
            clear htk hO' hB1 hnx hO
            go_wp2_with (at_builtin; refine wpList_append_one wr (.slice co j cc) 34 rfl _ _ 25 rfl 34 i1 (.slice none 0 0) 24 Try.underlying25 hi1 hz01 hz11 hz21 rfl _ i _ rfl HB1.out.own.sl rfl rfl (by unfold maxLen; omega) (by omega) ?_)
            intro ao' cap' w' hs' hfr hor hkb
            have h2 := HB1.out.app Hnx.out hs' hfr hor
            rw [← sqTab_succ] at h2
            have H2 := Lib.hid h2
            clear hs' hfr hor hkb h2
            go_wp2
            go_roundw
            case rel => exact ⟨i + 1, ao', cap', _, by omega, by go_num, rfl, H2⟩
            case measure => simp [intOf]; omega
      · obtain rfl : i = k := by omega
        have hT := TBuild.tab hB.out
        have HT := Lib.hid hT
        have F2 := Lib.hid (F1.out.trans' hB.out.own.fr)
        obtain ⟨hal, hag⟩ := tall_sq zs i (by omega)
        have Hag := Lib.hid hag
        have Hal := Lib.hid hal
        clear hT hB hag hal hi hz0 hz1 hz2 hi1 hz01 hz11 hz21
        go_wp2_with fail
        refine (tab_all _ _ wr HT.out ⟨by rw [sqTab_len]; omega, fun xs hx => ?_⟩).mono ?_
        · simp only [sqTab, List.mem_map] at hx
          obtain ⟨m, _, rfl⟩ := hx
          rw [sqRow_len]; omega
        rw [Hal.out]
        rintro e w3 ⟨ao3, cap3, rfl, hI3, hf3⟩
        have HI3 := Lib.hid hI3
        have HT := Lib.hid (HT.out.fr hf3)
        have F3 := Lib.hid (F2.out.trans' hf3)
        clear hI3 hf3 F2
        go_wp2_with fail
        go_loop [11] (fun jv => ∃ j : Nat, j ≤ i ∧ jv = .int .i64 j) (fun jv => i - (intOf jv).toNat)
        case atStart => exact ⟨0, Nat.zero_le _, rfl⟩
        case round =>
          obtain ⟨j, hj, rfl⟩ := hrel
          by_cases hji : j < i
          · obtain ⟨g, off, rfl, hc, hx0, hx1⟩ := Hcell.out w3 F3.out j (by have := HK2.out; have := Nat.mul_le_mul_right i hk1; omega)
            have hjn : j < n := by have := HK2.out; have := Nat.mul_le_mul_right i hk1; omega
            have hgj := Hag.out j hji
            have Hgj := Lib.hid hgj
            have hm0 : Hid (zs[j]?.getD 0 = colMin j (zs[j]?.getD 0) ((sqTab zs i i).take 0)) := Lib.hid rfl
            clear hgj
            generalize hx : zs[j]?.getD 0 = x at *
            clear hx
            go_wp2_with fail
            go_loop [12, 13] (fun mv tv => ∃ (m : Int) (t : Nat), t ≤ i ∧ tv = .int .i64 t ∧ mv = .int .i64 m ∧ 0 ≤ m ∧ m ≤ 65535 ∧ Hid (m = colMin j x ((sqTab zs i i).take t))) (fun _ tv => i - (intOf tv).toNat)
            case atStart => exact ⟨x, 0, Nat.zero_le _, rfl, rfl, hx0, hx1, hm0⟩
            case round =>
              obtain ⟨m, t, ht, rfl, rfl, hm1, hm2, hm⟩ := hrel
              clear hc hm0
              by_cases hti : t < i
              · obtain ⟨p, hp⟩ : ∃ p : Nat, p = t * i := ⟨_, rfl⟩
                have hpi : (t : Int) * i = p := by rw [hp]; simp
                have hpk : p + i ≤ K2 := by rw [hp, HK2.out, ← Nat.succ_mul]; exact Nat.mul_le_mul_right i hti
                obtain ⟨q, hq⟩ : ∃ q : Nat, q = p + j := ⟨_, rfl⟩
                have hqi : (p : Int) + j = q := by rw [hq]; simp
                obtain ⟨g', off', he, hc, hy0, hy1⟩ := Hcell.out w3 F3.out q (by omega)
                cases he
                have hqn : q < n := by omega
                have e1 : colMin j x ((sqTab zs i i).take (t + 1)) = min (colMin j x ((sqTab zs i i).take t)) (zs[q]?.getD 0) := by
                  rw [List.take_add_one]
                  have : (sqTab zs i i)[t]? = some (sqRow zs i t) := by simp [sqTab, hti]
                  rw [this, Option.toList_some, colMin_snoc, sqRow_get _ _ _ _ hji, hq, hp]
                have E1 := Lib.hid e1
                clear e1 hp hq
                generalize zs[q]?.getD 0 = y at *
                go_wp2
                all_goals
                  go_round
                  case rel => exact ⟨_, t + 1, by omega, by go_num, rfl, by omega, by omega, Lib.hid (by rw [E1.out, ← hm.out]; omega)⟩
                  case measure => simp [intOf]; omega
              · obtain rfl : t = i := by omega
                have e1 : vget (tall [] 0 (sqTab zs t t)) j = m := by rw [Hgj.out, hm.out, List.take_of_length_le (by rw [sqTab_len]; exact Nat.le_refl _)]
                have hg := vec_get _ _ (j : Int) w3 (by have := HI3.out; exact this)
                rw [e1] at hg
                clear e1
                go_wp2_with fail
                refine hg.mono ?_
                rintro e w' ⟨rfl, rfl⟩
                clear hg
                go_wp2
                go_round
                case rel => exact ⟨j + 1, by omega, by go_num⟩
                case measure => simp [intOf]; omega
          · obtain rfl : j = i := by omega
            have hg := vec_get _ _ (j : Int) w3 (by have := HI3.out; exact this)
            have e0 : vget (tall [] 0 (sqTab zs j j)) j = 0 := by unfold vget; rw [if_neg (by rw [Hal.out]; omega)]
            rw [e0] at hg
            have hck := tab_check _ _ (j : Int) w3 HT.out
            rw [sq_check zs j (by omega) (by omega) Hz.out] at hck
            clear e0
            go_wp2_with fail
            refine hg.mono ?_
            rintro e w' ⟨rfl, rfl⟩
            clear hg
            go_wp2_with fail
            refine hck.mono ?_
            rintro e w4 ⟨rfl, hf4⟩
            have F4 := Lib.hid (F3.out.trans' hf4)
            clear hf4 hck
            go_wp2
            go_ret
            exact ⟨rfl, F4.out⟩
end Go.Proofs.Ytkhjdhdgomndoaa
