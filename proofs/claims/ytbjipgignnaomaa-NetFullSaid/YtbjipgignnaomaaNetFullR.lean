/- The walk of the law NetFull. -/
import Derived.Test.YtbjipgignnaomaaNetK
import Derived.Test.YtbjipgignnaomaaNetU
import Derived.OpenShut
import Derived.IntWalk
namespace Go.XL
open Go.RowKit Go.Shelf
set_option linter.unusedVariables false
set_option linter.unusedSimpArgs false
/-- one way with t of the same -/
def fL (x : Int) (t : Nat) : Int → Int → List Int := fun a b => if a = 2 ∧ b = 1 then List.replicate t x else []
theorem fL_21 (x : Int) (t : Nat) : fL x t 2 1 = List.replicate t x := rfl
theorem fL_upd (x : Int) (t s : Nat) : upd2 (fL x t) 2 1 (List.replicate s x) = fL x s := by
  funext a b
  unfold upd2 fL
  split <;> simp_all
theorem fL_sendR (x : Int) (t : Nat) : sendR 3 (fL x t) kC0 2 1 = if 64 ≤ t then 6 else 0 := by
  unfold sendR
  rw [if_neg (by decide), if_neg (by decide), fL_21, List.length_replicate]
theorem fL_sendL (x : Int) (t : Nat) (h : t ≤ 64) : sendL 3 (fL x t) kC0 2 1 x = fL x (min (t + 1) 64) := by
  unfold sendL
  rw [fL_sendR]
  by_cases h64 : 64 ≤ t
  · rw [if_pos h64, if_neg (by decide), show min (t + 1) 64 = t by omega]
  · rw [if_neg h64, if_pos rfl, fL_21, show List.replicate t x ++ [x] = List.replicate (t + 1) x by rw [List.replicate_succ'], fL_upd, show min (t + 1) 64 = t + 1 by omega]
theorem fL_take (x : Int) (t pp : Nat) (h : pp < t) : upd2 (fL x t) 2 1 ((fL x t 2 1).eraseIdx pp) = fL x (t - 1) := by
  have e : (List.replicate t x).eraseIdx pp = List.replicate (t - 1) x := by
    apply List.eq_replicate_iff.2
    refine ⟨by rw [List.length_eraseIdx_of_lt (by simpa using h)]; simp, fun b hb => ?_⟩
    exact List.eq_of_mem_replicate (List.mem_of_mem_eraseIdx hb)
  rw [fL_21, e, fL_upd]
theorem fL_rows (x : Int) (t : Nat) : lenRows (fL x t) 3 3 = t := by
  simp [lenRows, lenRow, fL]
theorem fL_len (x : Int) (t : Nat) (h : t ≤ 1000) : ∀ a b, (fL x t a b).length ≤ 1000 := fun a b => by
  unfold fL
  split
  · simpa using h
  · simp
end Go.XL
namespace Go.Proofs.Ytbjipgignnaomaa
open Go.RowKit Go.Shelf Go.XL
set_option linter.unusedVariables false
set_option linter.unusedSimpArgs false
attribute [local go_sem] Oper.semAt_some

/-- the net has t of x -/
def FI (w : World) (p b1 b2 : Nat) (x : Int) (t c : Nat) (W : World) : Prop :=
  (∃ V, NtU W p b1 b2 3 c (fL x t) kC0 V ∧ ∀ g, NetOwn p b1 b2 V g → w.heap.size ≤ g) ∧ Fr no w W
theorem FI.fr {w : World} {p b1 b2 : Nat} {x : Int} {t c : Nat} {W W' : World} (h : FI w p b1 b2 x t c W) (hf : Fr no W W') : FI w p b1 b2 x t c W' := by
  obtain ⟨⟨V, hN, hO⟩, hF⟩ := h
  exact ⟨⟨V, hN.fr0 hf, hO⟩, hF.trans' hf⟩
theorem FI.step {w : World} {p b1 b2 : Nat} {x : Int} {t' c' : Nat} {W W' : World} {V V' : Int → Int → Value} (hF : Fr no w W) (hO : ∀ g, NetOwn p b1 b2 V g → w.heap.size ≤ g) (hN : NtU W' p b1 b2 3 c' (fL x t') kC0 V') (hf : Fr (NetOwn p b1 b2 V) W W') (ho : ∀ g, NetOwn p b1 b2 V' g → NetOwn p b1 b2 V g ∨ W.heap.size ≤ g) : FI w p b1 b2 x t' c' W' :=
  ⟨⟨V', hN, fun g hg => (ho g hg).elim (fun h => hO g h) (fun h => Nat.le_trans hF.size h)⟩, hF.trans hf (fun i hi e => by have := hO i e; omega)⟩

theorem fi_send {w : World} {p b1 b2 : Nat} {x : Int} {t c : Nat} {W : World} (h : FI w p b1 b2 x t c W) (ht : t ≤ 64) (hc : c < 1000000) :
    Calls Try.prog 15 #[.pointer (some ⟨p, 0, none⟩), .int .i64 2, .int .i64 1, .int .u8 x] W fun e W' => e = .returned (.int .i64 (if 64 ≤ t then 6 else 0)) ∧ FI w p b1 b2 x (min (t + 1) 64) (c + 1) W' := by
  obtain ⟨⟨V, hN, hO⟩, hF⟩ := h
  have hs := sendU 2 1 x hN (by omega) (by omega) hc
  rw [fL_sendR, fL_sendL x t ht] at hs
  refine hs.mono ?_
  rintro e W' ⟨rfl, V', hN', hf, ho⟩
  exact ⟨rfl, FI.step hF hO hN' hf ho⟩
theorem fi_copy {w : World} {p b1 b2 : Nat} {x k : Int} {t c : Nat} {W : World} (h : FI w p b1 b2 x t c W) (ht : t ≤ 64) (h1 : 1 ≤ t) (hc : c < 1000000) :
    Calls Try.prog 16 #[.pointer (some ⟨p, 0, none⟩), .int .i64 2, .int .i64 1, .int .i64 k] W fun e W' => e = .returned (.int .i64 (if 64 ≤ t then 6 else 0)) ∧ FI w p b1 b2 x (min (t + 1) 64) (c + 1) W' := by
  obtain ⟨⟨V, hN, hO⟩, hF⟩ := h
  obtain ⟨pp, hpp⟩ : ∃ pp : Nat, (max k 0) % (t : Int) = pp := ⟨((max k 0) % (t : Int)).toNat, by have := Int.emod_nonneg (max k 0) (show (t : Int) ≠ 0 by omega); omega⟩
  have hl : pp < t := by have := Int.emod_lt_of_pos (max k 0) (show (0 : Int) < t by omega); omega
  have hs := copyYesU 2 1 k pp x hN hc (by decide) rfl (by rw [fL_21, List.length_replicate]; exact hpp) (by rw [fL_21]; simp [hl]) (by rw [fL_21, List.length_replicate]; omega)
  rw [fL_sendR, fL_sendL x t ht] at hs
  refine hs.mono ?_
  rintro e W' ⟨rfl, V', hN', hf, ho⟩
  exact ⟨rfl, FI.step hF hO hN' hf ho⟩
theorem fi_copy0 {w : World} {p b1 b2 : Nat} {x k : Int} {c : Nat} {W : World} (h : FI w p b1 b2 x 0 c W) :
    Calls Try.prog 16 #[.pointer (some ⟨p, 0, none⟩), .int .i64 2, .int .i64 1, .int .i64 k] W fun e W' => e = .returned (.int .i64 3) ∧ FI w p b1 b2 x 0 c W' := by
  obtain ⟨⟨V, hN, hO⟩, hF⟩ := h
  refine (copyNoU 2 1 k 3 hN (by omega) (by omega) (.inr (.inr ⟨by decide, rfl, rfl, rfl⟩))).mono ?_
  rintro e W' ⟨rfl, hf⟩
  exact ⟨rfl, FI.fr ⟨⟨V, hN, hO⟩, hF⟩ hf⟩
theorem fi_take {w : World} {p b1 b2 : Nat} {x k : Int} {t c : Nat} {W : World} (h : FI w p b1 b2 x t c W) (ht : t ≤ 64) (hc : c < 1000000) :
    Calls Try.prog 17 #[.pointer (some ⟨p, 0, none⟩), .int .i64 2, .int .i64 1, .int .i64 k] W fun e W' => e = .returned (.tuple #[.int .u8 (if t = 0 then 0 else x), .bool (decide (t ≠ 0))]) ∧ FI w p b1 b2 x (t - 1) (c + 1) W' := by
  obtain ⟨⟨V, hN, hO⟩, hF⟩ := h
  by_cases h0 : t = 0
  · subst h0
    refine (takeNoU 2 1 k hN (by omega) (by omega) (.inl rfl)).mono ?_
    rintro e W' ⟨rfl, hf⟩
    exact ⟨rfl, FI.fr ⟨⟨V, hN.mono (by omega), hO⟩, hF⟩ hf⟩
  · obtain ⟨pp, hpp⟩ : ∃ pp : Nat, (max k 0) % (t : Int) = pp := ⟨((max k 0) % (t : Int)).toNat, by have := Int.emod_nonneg (max k 0) (show (t : Int) ≠ 0 by omega); omega⟩
    have hl : pp < t := by have := Int.emod_lt_of_pos (max k 0) (show (0 : Int) < t by omega); omega
    have hs := takeYesU 2 1 k pp x hN (by omega) (by omega) hc rfl (by rw [fL_21, List.length_replicate]; exact hpp) (by rw [fL_21]; simp [hl]) (by rw [fL_21, List.length_replicate]; omega)
    rw [fL_take x t pp hl] at hs
    refine hs.mono ?_
    rintro e W' ⟨rfl, V', hN', hf, ho⟩
    rw [if_neg h0, decide_eq_true h0]
    exact ⟨rfl, FI.step hF hO hN' hf ho⟩
theorem fi_len {w : World} {p b1 b2 : Nat} {x : Int} {t c : Nat} {W : World} (h : FI w p b1 b2 x t c W) (ht : t ≤ 64) :
    Calls Try.prog 18 #[.pointer (some ⟨p, 0, none⟩)] W fun e W' => e = .returned (.int .i64 t) ∧ FI w p b1 b2 x t c W' := by
  obtain ⟨⟨V, hN, hO⟩, hF⟩ := h
  have hl := lenU (n := 3) hN (fL_len x t (by omega))
  rw [fL_rows] at hl
  refine hl.mono ?_
  rintro e W' ⟨rfl, hf⟩
  exact ⟨rfl, FI.fr ⟨⟨V, hN, hO⟩, hF⟩ hf⟩

set_option maxRecDepth 100000 in
set_option maxHeartbeats 8000000 in
theorem full_any (x y : Int) (w : World) (hx0 : 0 ≤ x) (hx1 : x ≤ 255) (hy0 : 0 ≤ y) (hy1 : y ≤ 255) :
    Calls Try.prog 4 #[.int .u8 x, .int .u8 y] w fun e w' => e = .returned (.bool true) ∧ Fr no w w' := by
  obtain ⟨r, hr, hr3⟩ : ∃ r : Nat, x % 3 = (r : Int) ∧ r < 3 := ⟨(x % 3).toNat, by omega, by omega⟩
  have hrt : x.tmod 3 = r := by rw [Int.tmod_eq_emod_of_nonneg hx0]; exact hr
  obtain ⟨m, hm, hm70⟩ : ∃ m : Nat, y % 70 = (m : Int) ∧ m < 70 := ⟨(y % 70).toNat, by omega, by omega⟩
  have hmt : y.tmod 70 = m := by rw [Int.tmod_eq_emod_of_nonneg hy0]; exact hm
  go_enter Try.func4, Try.ntmps4
  go_wp2_with fail
  refine (known_any w).mono ?_
  rintro e w1 ⟨rfl, hf1⟩
  have F1 := Lib.hid hf1
  clear hf1
  go_wp2_with fail
  refine (netNewU 3 w1 (by decide) (by decide)).mono ?_
  rintro e w2 ⟨p, b1, b2, rfl, hN2, hf2, hown⟩
  have hI : FI w p b1 b2 x 0 0 w2 := by
    have e1 : fL x 0 = fun _ _ => [] := by funext a b; simp [fL]
    refine ⟨⟨_, by rw [e1]; exact hN2, fun g hg => Nat.le_trans F1.out.size (hown g hg)⟩, F1.out.trans' hf2⟩
  have HI := Lib.hid hI
  clear hN2 hf2 hown hI F1
  go_wp2_with fail
  refine (fi_send HI.out (by decide) (by decide)).mono ?_
  rintro e w3 ⟨rfl, hI3⟩
  have HI3 : Hid (FI w p b1 b2 x 1 1 w3) := Lib.hid hI3
  clear hI3 HI
  rw [show (if 64 ≤ (0 : Nat) then (6 : Int) else 0) = 0 by decide]
  go_wp2_with fail
  go_loopw [7, 8] (fun kv iv wr => ∃ (i t : Nat), i ≤ 80 ∧ t ≤ 64 ∧ 1 ≤ t ∧ (t < 64 → t = i + 1) ∧ (t = 64 → 63 ≤ i) ∧ iv = .int .i64 i ∧ kv = .int .i64 t ∧ Hid (FI w p b1 b2 x t (i + 1) wr)) (fun _ iv _ => 80 - (intOf iv).toNat)
  case atStart => exact ⟨0, 1, by omega, by omega, by omega, by omega, by omega, rfl, rfl, HI3⟩
  case round =>
    obtain ⟨i, t, hi, ht, ht1, hti, hti2, rfl, rfl, hI⟩ := hrel
    clear HI3
    by_cases hi80 : i < 80
    · obtain ⟨q, hq, hq3⟩ : ∃ q : Nat, (i : Int) % 3 = (q : Int) ∧ q < 3 := ⟨i % 3, by omega, by omega⟩
      have hqt : (i : Int).tmod 3 = q := by rw [Int.tmod_eq_emod_of_nonneg (by omega)]; exact hq
      obtain ⟨t', ht'⟩ : ∃ t' : Nat, min (t + 1) 64 = t' := ⟨_, rfl⟩
      have hmin : min ((t : Int) + 1) 64 = t' := by omega
      have Hc := Lib.hid (fi_copy (k := (i : Int)) hI.out ht ht1 (by omega))
      have Hs := Lib.hid (fi_send hI.out ht (by omega))
      rw [ht'] at Hc Hs
      clear hI
      by_cases h64 : 64 ≤ t
      · rw [if_pos h64] at Hc Hs
        obtain rfl : t' = 64 := by omega
        clear hmin ht'
        by_cases hqr : q = r
        · have b1' : ((q : Int) == (r : Int)) = true := by simp [hqr]
          subst hqr
          go_wp2_with fail
          refine Hc.out.mono ?_
          rintro e w4 ⟨rfl, hI4⟩
          have HI4 := Lib.hid hI4
          clear hI4 Hc Hs
          go_wp2
          go_roundw
          case rel => exact ⟨i + 1, 64, by omega, by omega, by omega, by omega, by omega, by go_num, rfl, HI4⟩
          case measure => simp [intOf]; omega
        · have b1' : ((q : Int) == (r : Int)) = false := by simp; omega
          go_wp2_with fail
          refine Hs.out.mono ?_
          rintro e w4 ⟨rfl, hI4⟩
          have HI4 := Lib.hid hI4
          clear hI4 Hc Hs
          go_wp2
          go_roundw
          case rel => exact ⟨i + 1, 64, by omega, by omega, by omega, by omega, by omega, by go_num, rfl, HI4⟩
          case measure => simp [intOf]; omega
      · rw [if_neg h64] at Hc Hs
        obtain rfl : t' = t + 1 := by omega
        clear hmin ht'
        by_cases hqr : q = r
        · have b1' : ((q : Int) == (r : Int)) = true := by simp [hqr]
          subst hqr
          go_wp2_with fail
          refine Hc.out.mono ?_
          rintro e w4 ⟨rfl, hI4⟩
          have HI4 := Lib.hid hI4
          clear hI4 Hc Hs
          go_wp2
          go_roundw
          case rel => exact ⟨i + 1, t + 1, by omega, by omega, by omega, by omega, by omega, by go_num, by go_num, HI4⟩
          case measure => simp [intOf]; omega
        · have b1' : ((q : Int) == (r : Int)) = false := by simp; omega
          go_wp2_with fail
          refine Hs.out.mono ?_
          rintro e w4 ⟨rfl, hI4⟩
          have HI4 := Lib.hid hI4
          clear hI4 Hc Hs
          go_wp2
          go_roundw
          case rel => exact ⟨i + 1, t + 1, by omega, by omega, by omega, by omega, by omega, by go_num, by go_num, HI4⟩
          case measure => simp [intOf]; omega
    · obtain rfl : i = 80 := by omega
      obtain rfl : t = 64 := by omega
      clear hti hti2 ht ht1
      rw [show ((80 : Nat) : Int) = 80 from rfl, show ((64 : Nat) : Int) = 64 from rfl]
      go_wp2_with fail
      go_loopw [11] (fun jv wx => ∃ (j : Nat), j ≤ m ∧ jv = .int .i64 j ∧ Hid (FI w p b1 b2 x (64 - j) (81 + j) wx)) (fun jv _ => m - (intOf jv).toNat)
      case atStart => exact ⟨0, Nat.zero_le _, rfl, hI⟩
      case round =>
        obtain ⟨j, hj, rfl, hJ⟩ := hrel
        clear hI
        by_cases hjm : j < m
        · have Ht := Lib.hid (fi_take (k := (j : Int)) hJ.out (by omega) (by omega))
          clear hJ
          by_cases h64 : j < 64
          · rw [if_neg (by omega), decide_eq_true (by omega : 64 - j ≠ 0), show 64 - j - 1 = 64 - (j + 1) by omega] at Ht
            go_wp2_with fail
            refine Ht.out.mono ?_
            rintro e w4 ⟨rfl, hI4⟩
            have HI4 := Lib.hid hI4
            clear hI4 Ht
            go_wp2
            go_roundw
            case rel => exact ⟨j + 1, by omega, by go_num, HI4⟩
            case measure => simp [intOf]; omega
          · rw [if_pos (by omega), show decide (64 - j ≠ 0) = false from decide_eq_false (by omega), show 64 - j - 1 = 64 - (j + 1) by omega] at Ht
            go_wp2_with fail
            refine Ht.out.mono ?_
            rintro e w4 ⟨rfl, hI4⟩
            have HI4 := Lib.hid hI4
            clear hI4 Ht
            go_wp2
            go_roundw
            case rel => exact ⟨j + 1, by omega, by go_num, HI4⟩
            case measure => simp [intOf]; omega
        · obtain rfl : j = m := by omega
          by_cases h64 : 64 ≤ j
          · have h0 : 64 - j = 0 := by omega
            rw [h0] at hJ
            have Hc := Lib.hid (fi_copy0 (k := 0) hJ.out)
            clear hJ h0
            go_wp2_with fail
            refine Hc.out.mono ?_
            rintro e w4 ⟨rfl, hI4⟩
            have HI4 := Lib.hid hI4
            clear hI4 Hc
            go_wp2_with fail
            refine (fi_len HI4.out (by decide)).mono ?_
            rintro e w5 ⟨rfl, hI5⟩
            have HF := Lib.hid hI5.2
            clear hI5 HI4
            go_wp2
            go_ret
            exact ⟨rfl, HF.out⟩
          · obtain ⟨s, hs⟩ : ∃ s : Nat, 64 - j = s := ⟨_, rfl⟩
            rw [hs] at hJ
            have Hc := Lib.hid (fi_copy (k := 0) hJ.out (by omega) (by omega) (by omega))
            clear hJ
            by_cases hj0 : j = 0
            · subst hj0
              obtain rfl : s = 64 := by omega
              clear hs
              rw [if_pos (by decide), show min (64 + 1) 64 = 64 by decide] at Hc
              go_wp2_with fail
              refine Hc.out.mono ?_
              rintro e w4 ⟨rfl, hI4⟩
              have HI4 := Lib.hid hI4
              clear hI4 Hc
              go_wp2_with fail
              refine (fi_len HI4.out (by decide)).mono ?_
              rintro e w5 ⟨rfl, hI5⟩
              have HF := Lib.hid hI5.2
              clear hI5 HI4
              go_wp2
              go_ret
              exact ⟨rfl, HF.out⟩
            · have hs64 : s < 64 := by omega
              rw [if_neg (by omega), show min (s + 1) 64 = s + 1 by omega] at Hc
              have hj0' : ((j : Int) == 0) = false := by simp; omega
              have hcast : ((s + 1 : Nat) : Int) = 65 - (j : Int) := by omega
              have Hcast := Lib.hid hcast
              clear hcast hs
              go_wp2_with fail
              refine Hc.out.mono ?_
              rintro e w4 ⟨rfl, hI4⟩
              have HI4 := Lib.hid hI4
              clear hI4 Hc
              go_wp2_with fail
              refine (fi_len HI4.out (by omega)).mono ?_
              rintro e w5 ⟨rfl, hI5⟩
              have HF := Lib.hid hI5.2
              clear hI5 HI4
              rw [Hcast.out]
              clear Hcast
              go_wp2
              go_ret
              exact ⟨rfl, HF.out⟩
end Go.Proofs.Ytbjipgignnaomaa
