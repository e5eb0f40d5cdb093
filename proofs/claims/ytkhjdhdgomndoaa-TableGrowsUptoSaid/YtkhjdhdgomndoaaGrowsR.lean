/- The walk of the law TableGrows. -/
import Derived.Test.YtkhjdhdgomndoaaUp
import Derived.Test.YtkhjdhdgomndoaaHeld
import Derived.Test.YtkhjdhdgomndoaaTabQ
import Derived.OpenShut
namespace Go.Proofs.Ytkhjdhdgomndoaa
open Go.RowKit Go.Shelf Go.XL
set_option linter.unusedVariables false
set_option linter.unusedSimpArgs false
attribute [local go_sem] Oper.semAt_some

set_option maxRecDepth 100000 in
set_option maxHeartbeats 8000000 in
theorem grows_any (v1 v2 : Value) (vs1 vs2 : List Value) (a b : List (List Int)) (s : Int) (w : World)
    (hv1 : Rd w 1 v1 a.length vs1) (hr1 : ∀ (i : Nat) u zs, vs1[i]? = some u → a[i]? = some zs → Rd w 1 u zs.length (zs.map (Value.int .u16))) (hz1 : ∀ zs ∈ a, ∀ y ∈ zs, 0 ≤ y ∧ y ≤ 65535) (hl1 : ∀ zs ∈ a, zs.length ≤ 1048576)
    (hv2 : Rd w 1 v2 b.length vs2) (hr2 : ∀ (i : Nat) u zs, vs2[i]? = some u → b[i]? = some zs → Rd w 1 u zs.length (zs.map (Value.int .u16))) (hz2 : ∀ zs ∈ b, ∀ y ∈ zs, 0 ≤ y ∧ y ≤ 65535) (hl2 : ∀ zs ∈ b, zs.length ≤ 1048576)
    (hs0 : 0 ≤ s) (hs1 : s ≤ 255) :
    Calls Try.prog 3 #[v1, v2, .int .u8 s] w fun e w' => e = .returned (.bool true) ∧ Fr no w w' := by
  obtain ⟨ao1, cap1, rfl, hc1, hm1⟩ := hv1.cap
  obtain ⟨ao2, cap2, rfl, hc2, hm2⟩ := hv2.cap
  obtain ⟨n, hn⟩ : ∃ n, a.length = n := ⟨_, rfl⟩
  obtain ⟨m, hm⟩ : ∃ m, b.length = m := ⟨_, rfl⟩
  have hup1 : n ≤ 8 → ∀ w', Fr no w w' → Calls Try.prog 8 #[.slice ao1 n cap1] w' fun e w'' => ∃ ao cap, e = .returned (.slice ao n cap) ∧ Tab w'' (.slice ao n cap) a ∧ Fr no w' w'' := fun h8 w' hf => by
    subst hn
    exact up_any _ vs1 a _ w' (hv1.fr hf (fun _ _ _ f => f)) rfl (fun i u zs e1 e2 => (hr1 i u zs e1 e2).fr hf (fun _ _ _ f => f)) hz1 (by omega) hl1
  have hup2 : m ≤ 8 → ∀ w', Fr no w w' → Calls Try.prog 8 #[.slice ao2 m cap2] w' fun e w'' => ∃ ao cap, e = .returned (.slice ao m cap) ∧ Tab w'' (.slice ao m cap) b ∧ Fr no w' w'' := fun h8 w' hf => by
    subst hm
    exact up_any _ vs2 b _ w' (hv2.fr hf (fun _ _ _ f => f)) rfl (fun i u zs e1 e2 => (hr2 i u zs e1 e2).fr hf (fun _ _ _ f => f)) hz2 (by omega) hl2
  rw [hn] at hc1
  rw [hm] at hc2
  rw [hn, hm]
  have Hup1 := Lib.hid hup1
  have Hup2 := Lib.hid hup2
  have Hn := Lib.hid hn
  have Hm := Lib.hid hm
  clear hup1 hup2 hv1 hr1 hz1 hl1 hv2 hr2 hz2 hl2 hn hm
  go_enter Try.func3, Try.ntmps3
  go_wp2_with fail
  refine (known_any w).mono ?_
  rintro e w1 ⟨rfl, hf1⟩
  have F1 := Lib.hid hf1
  clear hf1
  by_cases h1 : n < 1
  · go_wp2
    go_ret
    exact ⟨rfl, F1.out⟩
  · by_cases h8 : 8 < n
    · go_wp2
      go_ret
      exact ⟨rfl, F1.out⟩
    · by_cases hnm : n = m
      · subst hnm
        go_wp2_with fail
        refine (Hup1.out (by omega) w1 F1.out).mono ?_
        rintro e w2 ⟨xo, xc, rfl, hTx, hf2⟩
        have F2 := Lib.hid (F1.out.trans' hf2)
        have Tx := Lib.hid hTx
        clear hTx hf2 F1
        go_wp2_with fail
        refine (Hup2.out (by omega) w2 F2.out).mono ?_
        rintro e w3 ⟨yo, yc, rfl, hTy, hf3⟩
        have F3 := Lib.hid (F2.out.trans' hf3)
        have Ty := Lib.hid hTy
        have Tx := Lib.hid (Tx.out.fr hf3)
        clear hTy hf3 F2
        go_wp2_with fail
        refine (few_any xo xc n a w3 Tx.out Hn.out).mono ?_
        rintro e w' ⟨fw, rfl, rfl⟩
        cases fw
        · go_wp2
          go_ret
          exact ⟨rfl, F3.out⟩
        · go_wp2_with fail
          refine (tab_check _ a n w3 Tx.out).mono ?_
          rintro e w4 ⟨rfl, hf4⟩
          have F4 := Lib.hid (F3.out.trans' hf4)
          have Ty := Lib.hid (Ty.out.fr hf4)
          have Tx := Lib.hid (Tx.out.fr hf4)
          clear hf4 F3
          by_cases hca : tcheck a n = 0
          · have Hca := Lib.hid hca
            rw [hca]
            clear hca
            go_wp2_with fail
            refine (tab_check _ b n w4 Ty.out).mono ?_
            rintro e w5 ⟨rfl, hf5⟩
            have F5 := Lib.hid (F4.out.trans' hf5)
            have Ty := Lib.hid (Ty.out.fr hf5)
            have Tx := Lib.hid (Tx.out.fr hf5)
            clear hf5 F4
            by_cases hcb : tcheck b n = 0
            · have Hcb := Lib.hid hcb
              rw [hcb]
              clear hcb
              obtain ⟨k, hk⟩ : ∃ k : Nat, s % (n : Int) = k := ⟨(s % (n : Int)).toNat, by have := Int.emod_nonneg s (show (n : Int) ≠ 0 by omega); omega⟩
              have hkn : k < n := by have := Int.emod_lt_of_pos s (show (0 : Int) < n by omega); omega
              have hkt : s.tmod (n : Int) = k := by rw [Int.tmod_eq_emod_of_nonneg hs0]; exact hk
              obtain ⟨ta, la⟩ := tcheck_zero a n Hca.out
              obtain ⟨tb, lb⟩ := tcheck_zero b n Hcb.out
              have ra := tbad_rows a n ta
              have rb := tbad_rows b n tb
              have sa : Shorts a := ⟨by omega, fun x hx => by have := vcheck_len x n (ra x hx); omega⟩
              have sb : Shorts b := ⟨by omega, fun x hx => by have := vcheck_len x n (rb x hx); omega⟩
              have sm : Shorts (tmerge a 0 b) := by
                refine ⟨by rw [tmerge_len]; omega, fun x hx => ?_⟩
                obtain ⟨i, hi⟩ := List.getElem?_of_mem hx
                have hil := (List.getElem?_eq_some_iff.1 hi).1
                rw [tmerge_len] at hil
                rw [tmerge_zip a b (by omega) i a[i] (b[i]'(by omega)) (by simp [hil]) (by simp [show i < b.length by omega])] at hi
                cases hi
                rw [vboth_len]
                have h1 := sa.2 a[i] (List.getElem_mem _)
                have h2 := sb.2 (b[i]'(by omega)) (List.getElem_mem _)
                omega
              obtain ⟨yk, hyk⟩ : ∃ yk, b[k]? = some yk := ⟨b[k]'(by omega), by simp [show k < b.length by omega]⟩
              have Sa := Lib.hid sa
              have Sb := Lib.hid sb
              have Sm := Lib.hid sm
              have Ta := Lib.hid ta
              have Tb := Lib.hid tb
              have La := Lib.hid la
              have Lb := Lib.hid lb
              have Rb := Lib.hid rb
              have Hyk := Lib.hid hyk
              clear sa sb sm ta tb la lb ra rb hyk
              go_wp2_with fail
              have hmg := tab_merge _ _ a b w5 Tx.out Ty.out (by rw [La.out, Lb.out]) (by rw [La.out]; omega) Sa.out Sb.out
              rw [Lb.out, Tb.out] at hmg
              refine hmg.mono ?_
              rintro e w6 ⟨r6, rfl, hf6, hr6⟩
              obtain ⟨hTm, mo, mc, rfl⟩ := hr6 rfl
              have F6 := Lib.hid (F5.out.trans' hf6)
              have Ty := Lib.hid (Ty.out.fr hf6)
              have Tx := Lib.hid (Tx.out.fr hf6)
              have Tm := Lib.hid hTm
              clear hf6 hTm hr6 hmg F5
              go_wp2_with fail
              have hmg := tab_merge _ _ b a w6 Ty.out Tx.out (by rw [La.out, Lb.out]) (by rw [Lb.out]; omega) Sb.out Sa.out
              rw [La.out, Ta.out] at hmg
              refine hmg.mono ?_
              rintro e w7 ⟨r7, rfl, hf7, hr7⟩
              obtain ⟨hTn, no', nc, rfl⟩ := hr7 rfl
              have F7 := Lib.hid (F6.out.trans' hf7)
              have Ty := Lib.hid (Ty.out.fr hf7)
              have Tx := Lib.hid (Tx.out.fr hf7)
              have Tm := Lib.hid (Tm.out.fr hf7)
              have Tn := Lib.hid hTn
              clear hf7 hTn hr7 hmg F6
              go_wp2_with fail
              have hmg := tab_merge _ _ (tmerge a 0 b) a w7 Tm.out Tx.out (by rw [tmerge_len]) (by rw [tmerge_len, La.out]; omega) Sm.out Sa.out
              rw [La.out, Ta.out] at hmg
              refine hmg.mono ?_
              rintro e w8 ⟨r8, rfl, hf8, hr8⟩
              obtain ⟨hTo, oo, oc, rfl⟩ := hr8 rfl
              have F8 := Lib.hid (F7.out.trans' hf8)
              have Ty := Lib.hid (Ty.out.fr hf8)
              have Tx := Lib.hid (Tx.out.fr hf8)
              have Tm := Lib.hid (Tm.out.fr hf8)
              have Tn := Lib.hid (Tn.out.fr hf8)
              have To := Lib.hid hTo
              clear hf8 hTo hr8 hmg F7
              have hyrow : ∃ g off c yv, yo = some ⟨g, off, none⟩ ∧ w8.cell? ⟨g, off + k, none⟩ = some yv ∧ IntsAt w8 yv yk ∧ yc = c := by
                obtain ⟨us, hus⟩ := Ty.out
                obtain ⟨r, xs, e1, e2, e3⟩ := hus.get (i := k) (by rw [Lb.out]; exact hkn)
                rw [Hyk.out] at e2
                cases e2
                have hf := hus.rd.form (by rw [Lb.out]; omega)
                rw [Lb.out] at hf
                obtain ⟨g, off, c, he, _, _, hx⟩ := hf
                cases he
                exact ⟨g, off, _, r, rfl, hx k _ e1, e3, rfl⟩
              obtain ⟨g, off, c, yv, rfl, hcy, hIy, rfl⟩ := hyrow
              have HIy := Lib.hid hIy
              obtain ⟨yvo, yvc, rfl, _, _⟩ := hIy.cap
              clear hIy
              go_wp2_with fail
              have hnt := tab_note _ _ a k yk w8 Tx.out HIy.out (by rw [La.out]; exact hkn) Sa.out (by rw [La.out]; exact Rb.out yk (List.mem_of_getElem? Hyk.out)) (Sb.out.2 yk (List.mem_of_getElem? Hyk.out))
              rw [La.out] at hnt
              refine hnt.mono ?_
              rintro e w9 ⟨po, pc, rfl, hTp, hf9⟩
              have F9 := Lib.hid (F8.out.trans' hf9)
              have Ty := Lib.hid (Ty.out.fr hf9)
              have Tx := Lib.hid (Tx.out.fr hf9)
              have Tm := Lib.hid (Tm.out.fr hf9)
              have Tn := Lib.hid (Tn.out.fr hf9)
              have To := Lib.hid (To.out.fr hf9)
              have Tp := Lib.hid hTp
              clear hf9 hTp hnt F8 HIy hcy
              have hpl := grows_plain a b n La.out Lb.out
              have Hpl := Lib.hid hpl
              clear hpl
              go_wp2_with fail
              refine (tab_same _ _ _ _ w9 Tm.out Tn.out).mono ?_
              rw [Hpl.out.1]
              rintro e w' ⟨rfl, rfl⟩
              go_wp2_with fail
              refine (tab_same _ _ _ _ w9 Tm.out To.out).mono ?_
              rw [Hpl.out.2.1]
              rintro e w' ⟨rfl, rfl⟩
              go_wp2_with fail
              go_loopw [18] (fun iv wr => ∃ (i : Nat), i ≤ n ∧ iv = .int .i64 i ∧ Hid (Fr no w9 wr)) (fun iv _ => n - (intOf iv).toNat)
              case atStart => exact ⟨0, Nat.zero_le _, rfl, Lib.hid (Fr.refl _ _)⟩
              case round =>
                obtain ⟨i, hi, rfl, hF⟩ := hrel
                have hcells : ∀ (T : List (List Int)) (vo : Option Addr) (vc : Nat), T.length = n → Tab w9 (.slice vo n vc) T → i < n → ∃ g off xo' xl xc', vo = some ⟨g, off, none⟩ ∧ wr.cell? ⟨g, off + i, none⟩ = some (.slice xo' xl xc') ∧ ∃ xs, T[i]? = some xs ∧ xl = xs.length ∧ IntsAt wr (.slice xo' xl xc') xs := by
                  rintro T vo vc hT ⟨us, hus⟩ hin
                  obtain ⟨r, xs, e1, e2, e3⟩ := (hus.fr hF.out).get (i := i) (by rw [hT]; exact hin)
                  have hf := (hus.fr hF.out).rd.form (by rw [hT]; omega)
                  rw [hT] at hf
                  obtain ⟨g, off, c, he, _, _, hx⟩ := hf
                  cases he
                  obtain ⟨ro, rc, rfl, _, _⟩ := e3.cap
                  exact ⟨g, off, ro, _, rc, rfl, hx i _ e1, xs, e2, rfl, e3⟩
                by_cases hin : i < n
                · obtain ⟨gm, om, mro, mrl, mrc, rfl, cm, xm, em, rfl, im⟩ := hcells _ _ _ (by rw [tmerge_len]; exact La.out) Tm.out hin
                  obtain ⟨gx, ox, xro, xrl, xrc, rfl, cx, xx, ex, rfl, ix⟩ := hcells _ _ _ La.out Tx.out hin
                  obtain ⟨gy, oy, yro, yrl, yrc, hye, cy, xy, ey, rfl, iy⟩ := hcells _ _ _ Lb.out Ty.out hin
                  obtain ⟨gp, op, pro, prl, prc, rfl, cp, xp, ep, rfl, ip⟩ := hcells _ _ _ (by rw [tjoined_len]; exact La.out) Tp.out hin
                  cases hye
                  clear hcells
                  obtain ⟨p1, p2, p3, p4⟩ := Hpl.out.2.2 i xx xy ex ey
                  rw [em] at p1
                  cases p1
                  have hfd : Fr no wr wr.drew := (Fr.refl no wr).drewN 1
                  have hf9 : Fr no w9 wr.drew := hF.out.trans' hfd
                  have Hc1 := Lib.hid (ref_covers _ _ _ _ wr.drew (im.fr hfd (fun _ _ _ f => f)) (ix.fr hfd (fun _ _ _ f => f)))
                  have Hc2 := Lib.hid (ref_covers _ _ _ _ wr.drew (im.fr hfd (fun _ _ _ f => f)) (iy.fr hfd (fun _ _ _ f => f)))
                  rw [p2] at Hc1
                  rw [p3] at Hc2
                  have Hall := Lib.hid (tab_all _ _ wr.drew (Tm.out.fr hf9) Sm.out)
                  have Hk3 : Hid (∀ w' ao cap, Fr no wr.drew w' → IntsAt w' (.slice ao (tall [] 0 (tmerge a 0 b)).length cap) (tall [] 0 (tmerge a 0 b)) → Calls Try.prog 14 #[.slice mro (vboth max xx xy).length mrc, .slice ao (tall [] 0 (tmerge a 0 b)).length cap] w' fun e w'' => e = .returned (.bool true) ∧ w' = w'') :=
                    Lib.hid (fun w' ao cap hf hI => by have := ref_covers _ _ _ _ w' (im.fr (hfd.trans' hf) (fun _ _ _ f => f)) hI; rwa [p4] at this)
                  have Hk4 : Hid (i = k → ∀ w', Fr no wr.drew w' → Calls Try.prog 16 #[.slice pro xp.length prc, .slice mro (vboth max xx xy).length mrc] w' fun e w'' => e = .returned (.bool true) ∧ w' = w'') := Lib.hid (by
                    rintro rfl w' hf
                    rw [tjoined_get, if_pos rfl, if_pos (by rw [La.out]; exact hin), ex] at ep
                    rw [Hyk.out] at ey
                    cases ey
                    simp only [Option.getD_some, Option.some.injEq] at ep
                    subst ep
                    have := ref_same _ _ _ _ w' (ip.fr (hfd.trans' hf) (fun _ _ _ f => f)) (im.fr (hfd.trans' hf) (fun _ _ _ f => f))
                    rwa [vcov_refl] at this)
                  have Hk5 : Hid (i ≠ k → ∀ w', Fr no wr.drew w' → Calls Try.prog 16 #[.slice pro xp.length prc, .slice xro xx.length xrc] w' fun e w'' => e = .returned (.bool true) ∧ w' = w'') := Lib.hid (by
                    intro hne w' hf
                    rw [tjoined_get, if_neg (fun e => hne e.symm), ex] at ep
                    cases ep
                    have := ref_same _ _ _ _ w' (ip.fr (hfd.trans' hf) (fun _ _ _ f => f)) (ix.fr (hfd.trans' hf) (fun _ _ _ f => f))
                    rwa [vcov_refl] at this)
                  have Hfd := Lib.hid hfd
                  clear hfd hf9 p2 p3 p4 im ix iy ip em ex ey ep
                  have cm := Hfd.out.cell (p := ⟨gm, om + i, none⟩) cm (fun f => f)
                  have cx := Hfd.out.cell (p := ⟨gx, ox + i, none⟩) cx (fun f => f)
                  have cy := Hfd.out.cell (p := ⟨g, off + i, none⟩) cy (fun f => f)
                  have cp := Hfd.out.cell (p := ⟨gp, op + i, none⟩) cp (fun f => f)
                  by_cases hik : i = k
                  · subst hik
                    go_wp2_with fail
                    refine wp_held (fun w' => w'.cell? ⟨gm, om + i, none⟩ = some (.slice mro (vboth max xx xy).length mrc) ∧ w'.cell? ⟨gx, ox + i, none⟩ = some (.slice xro xx.length xrc) ∧ w'.cell? ⟨g, off + i, none⟩ = some (.slice yro xy.length yrc) ∧ w'.cell? ⟨gp, op + i, none⟩ = some (.slice pro xp.length prc)) (by kernel_rfl) ?_ (fun hHeld => ?_)
                    · exact ⟨cm, cx, cy, cp⟩
                    refine held_take (v := ?_) 0 rfl (by kernel_rfl) (.inl ⟨by rfl, ?_⟩) hHeld ?_
                    rotate_left
                    · intro w hSw; (try dsimp only at hSw); first | (go_simp; done) | (go_simp; with_reducible rfl)
                    try simp only [Act.put, List.setIfInBounds_toArray, List.set_cons_zero, List.set_cons_succ]
                    refine held_take (v := ?_) 1 rfl (by kernel_rfl) (.inl ⟨by rfl, ?_⟩) hHeld ?_
                    rotate_left
                    · intro w hSw; (try dsimp only at hSw); first | (go_simp; done) | (go_simp; with_reducible rfl)
                    try simp only [Act.put, List.setIfInBounds_toArray, List.set_cons_zero, List.set_cons_succ]
                    refine held_take (v := ?_) 2 rfl (by kernel_rfl) (.inl ⟨by rfl, ?_⟩) hHeld ?_
                    rotate_left
                    · intro w hSw; (try dsimp only at hSw); first | (go_simp; done) | (go_simp; with_reducible rfl)
                    try simp only [Act.put, List.setIfInBounds_toArray, List.set_cons_zero, List.set_cons_succ]
                    refine held_take (v := ?_) 3 rfl (by kernel_rfl) (.inl ⟨by rfl, ?_⟩) hHeld ?_
                    rotate_left
                    · intro w hSw; (try dsimp only at hSw); first | (go_simp; done) | (go_simp; with_reducible rfl)
                    try simp only [Act.put, List.setIfInBounds_toArray, List.set_cons_zero, List.set_cons_succ]
                    refine held_take (v := ?_) 4 rfl (by kernel_rfl) (.inl ⟨by rfl, ?_⟩) hHeld ?_
                    rotate_left
                    · intro w hSw; (try dsimp only at hSw); first | (go_simp; done) | (go_simp; with_reducible rfl)
                    try simp only [Act.put, List.setIfInBounds_toArray, List.set_cons_zero, List.set_cons_succ]
                    refine held_take (v := ?_) 5 rfl (by kernel_rfl) (.inl ⟨by rfl, ?_⟩) hHeld ?_
                    rotate_left
                    · intro w hSw; (try dsimp only at hSw); first | (go_simp; done) | (go_simp; with_reducible rfl)
                    try simp only [Act.put, List.setIfInBounds_toArray, List.set_cons_zero, List.set_cons_succ]
                    refine held_take (v := ?_) 6 rfl (by kernel_rfl) (.inl ⟨by rfl, ?_⟩) hHeld ?_
                    rotate_left
                    · intro w hSw; (try dsimp only at hSw); first | (go_simp; done) | (go_simp; with_reducible rfl)
                    try simp only [Act.put, List.setIfInBounds_toArray, List.set_cons_zero, List.set_cons_succ]
                    refine held_take (v := ?_) 7 rfl (by kernel_rfl) (.inl ⟨by rfl, ?_⟩) hHeld ?_
                    rotate_left
                    · intro w hSw; (try dsimp only at hSw); first | (go_simp; done) | (go_simp; with_reducible rfl)
                    try simp only [Act.put, List.setIfInBounds_toArray, List.set_cons_zero, List.set_cons_succ]
                    refine held_call 8 rfl (by kernel_rfl) (fun K hK => ?_)
                    go_simp
                    go_at_call 14; refine (Hc1.out).mono ?_; rintro e w' ⟨rfl, rfl⟩
                    refine hK.out _ _ ?_ (fun hHeld' => ?_)
                    · first | exact hHeld | exact ⟨cm', cx', cy', cp'⟩
                    clear hK K hHeld
                    have hHeld := hHeld'
                    clear hHeld'
                    try simp only [Act.put, List.setIfInBounds_toArray, List.set_cons_zero, List.set_cons_succ]
                    refine held_take (v := ?_) 9 rfl (by kernel_rfl) (.inl ⟨by rfl, ?_⟩) hHeld ?_
                    rotate_left
                    · intro w hSw; (try dsimp only at hSw); first | (go_simp; done) | (go_simp; with_reducible rfl)
                    try simp only [Act.put, List.setIfInBounds_toArray, List.set_cons_zero, List.set_cons_succ]
                    refine held_take (v := ?_) 10 rfl (by kernel_rfl) (.inl ⟨by rfl, ?_⟩) hHeld ?_
                    rotate_left
                    · intro w hSw; (try dsimp only at hSw); first | (go_simp; done) | (go_simp; with_reducible rfl)
                    try simp only [Act.put, List.setIfInBounds_toArray, List.set_cons_zero, List.set_cons_succ]
                    refine held_take (v := ?_) 11 rfl (by kernel_rfl) (.inl ⟨by rfl, ?_⟩) hHeld ?_
                    rotate_left
                    · intro w hSw; (try dsimp only at hSw); first | (go_simp; done) | (go_simp; with_reducible rfl)
                    try simp only [Act.put, List.setIfInBounds_toArray, List.set_cons_zero, List.set_cons_succ]
                    refine held_take (v := ?_) 12 rfl (by kernel_rfl) (.inl ⟨by rfl, ?_⟩) hHeld ?_
                    rotate_left
                    · intro w hSw; (try dsimp only at hSw); first | (go_simp; done) | (go_simp; with_reducible rfl)
                    try simp only [Act.put, List.setIfInBounds_toArray, List.set_cons_zero, List.set_cons_succ]
                    refine held_take (v := ?_) 13 rfl (by kernel_rfl) (.inl ⟨by rfl, ?_⟩) hHeld ?_
                    rotate_left
                    · intro w hSw; (try dsimp only at hSw); first | (go_simp; done) | (go_simp; with_reducible rfl)
                    try simp only [Act.put, List.setIfInBounds_toArray, List.set_cons_zero, List.set_cons_succ]
                    refine held_take (v := ?_) 14 rfl (by kernel_rfl) (.inl ⟨by rfl, ?_⟩) hHeld ?_
                    rotate_left
                    · intro w hSw; (try dsimp only at hSw); first | (go_simp; done) | (go_simp; with_reducible rfl)
                    try simp only [Act.put, List.setIfInBounds_toArray, List.set_cons_zero, List.set_cons_succ]
                    refine held_take (v := ?_) 15 rfl (by kernel_rfl) (.inl ⟨by rfl, ?_⟩) hHeld ?_
                    rotate_left
                    · intro w hSw; (try dsimp only at hSw); first | (go_simp; done) | (go_simp; with_reducible rfl)
                    try simp only [Act.put, List.setIfInBounds_toArray, List.set_cons_zero, List.set_cons_succ]
                    refine held_take (v := ?_) 16 rfl (by kernel_rfl) (.inl ⟨by rfl, ?_⟩) hHeld ?_
                    rotate_left
                    · intro w hSw; (try dsimp only at hSw); first | (go_simp; done) | (go_simp; with_reducible rfl)
                    try simp only [Act.put, List.setIfInBounds_toArray, List.set_cons_zero, List.set_cons_succ]
                    refine held_take (v := ?_) 17 rfl (by kernel_rfl) (.inl ⟨by rfl, ?_⟩) hHeld ?_
                    rotate_left
                    · intro w hSw; (try dsimp only at hSw); first | (go_simp; done) | (go_simp; with_reducible rfl)
                    try simp only [Act.put, List.setIfInBounds_toArray, List.set_cons_zero, List.set_cons_succ]
                    refine held_take (v := ?_) 18 rfl (by kernel_rfl) (.inl ⟨by rfl, ?_⟩) hHeld ?_
                    rotate_left
                    · intro w hSw; (try dsimp only at hSw); first | (go_simp; done) | (go_simp; with_reducible rfl)
                    try simp only [Act.put, List.setIfInBounds_toArray, List.set_cons_zero, List.set_cons_succ]
                    refine held_call 19 rfl (by kernel_rfl) (fun K hK => ?_)
                    go_simp
                    go_at_call 14; refine (Hc2.out).mono ?_; rintro e w' ⟨rfl, rfl⟩
                    refine hK.out _ _ ?_ (fun hHeld' => ?_)
                    · first | exact hHeld | exact ⟨cm', cx', cy', cp'⟩
                    clear hK K hHeld
                    have hHeld := hHeld'
                    clear hHeld'
                    try simp only [Act.put, List.setIfInBounds_toArray, List.set_cons_zero, List.set_cons_succ]
                    refine held_take (v := ?_) 20 rfl (by kernel_rfl) (.inl ⟨by rfl, ?_⟩) hHeld ?_
                    rotate_left
                    · intro w hSw; (try dsimp only at hSw); first | (go_simp; done) | (go_simp; with_reducible rfl)
                    try simp only [Act.put, List.setIfInBounds_toArray, List.set_cons_zero, List.set_cons_succ]
                    refine held_take (v := ?_) 21 rfl (by kernel_rfl) (.inl ⟨by rfl, ?_⟩) hHeld ?_
                    rotate_left
                    · intro w hSw; (try dsimp only at hSw); first | (go_simp; done) | (go_simp; with_reducible rfl)
                    try simp only [Act.put, List.setIfInBounds_toArray, List.set_cons_zero, List.set_cons_succ]
                    refine held_take (v := ?_) 22 rfl (by kernel_rfl) (.inl ⟨by rfl, ?_⟩) hHeld ?_
                    rotate_left
                    · intro w hSw; (try dsimp only at hSw); first | (go_simp; done) | (go_simp; with_reducible rfl)
                    try simp only [Act.put, List.setIfInBounds_toArray, List.set_cons_zero, List.set_cons_succ]
                    refine held_take (v := ?_) 23 rfl (by kernel_rfl) (.inl ⟨by rfl, ?_⟩) hHeld ?_
                    rotate_left
                    · intro w hSw; (try dsimp only at hSw); first | (go_simp; done) | (go_simp; with_reducible rfl)
                    try simp only [Act.put, List.setIfInBounds_toArray, List.set_cons_zero, List.set_cons_succ]
                    refine held_take (v := ?_) 24 rfl (by kernel_rfl) (.inl ⟨by rfl, ?_⟩) hHeld ?_
                    rotate_left
                    · intro w hSw; (try dsimp only at hSw); first | (go_simp; done) | (go_simp; with_reducible rfl)
                    try simp only [Act.put, List.setIfInBounds_toArray, List.set_cons_zero, List.set_cons_succ]
                    refine held_take (v := ?_) 25 rfl (by kernel_rfl) (.inl ⟨by rfl, ?_⟩) hHeld ?_
                    rotate_left
                    · intro w hSw; (try dsimp only at hSw); first | (go_simp; done) | (go_simp; with_reducible rfl)
                    try simp only [Act.put, List.setIfInBounds_toArray, List.set_cons_zero, List.set_cons_succ]
                    refine held_take (v := ?_) 26 rfl (by kernel_rfl) (.inl ⟨by rfl, ?_⟩) hHeld ?_
                    rotate_left
                    · intro w hSw; (try dsimp only at hSw); first | (go_simp; done) | (go_simp; with_reducible rfl)
                    try simp only [Act.put, List.setIfInBounds_toArray, List.set_cons_zero, List.set_cons_succ]
                    refine held_take (v := ?_) 27 rfl (by kernel_rfl) (.inl ⟨by rfl, ?_⟩) hHeld ?_
                    rotate_left
                    · intro w hSw; (try dsimp only at hSw); first | (go_simp; done) | (go_simp; with_reducible rfl)
                    try simp only [Act.put, List.setIfInBounds_toArray, List.set_cons_zero, List.set_cons_succ]
                    refine held_call 28 rfl (by kernel_rfl) (fun K hK => ?_)
                    go_simp
                    go_at_call 15; refine (Hall.out).mono ?_; rintro e wa ⟨aao, acap, rfl, aI, aF⟩; have Hc3 := Lib.hid (Hk3.out wa aao acap aF aI); have Hs4 := Lib.hid (Hk4.out trivial wa aF); have HaF := Lib.hid aF; have cm' := aF.cell (p := ⟨gm, om + i, none⟩) cm (fun f => f); have cx' := aF.cell (p := ⟨gx, ox + i, none⟩) cx (fun f => f); have cy' := aF.cell (p := ⟨g, off + i, none⟩) cy (fun f => f); have cp' := aF.cell (p := ⟨gp, op + i, none⟩) cp (fun f => f); clear aF aI
                    refine hK.out _ _ ?_ (fun hHeld' => ?_)
                    · first | exact hHeld | exact ⟨cm', cx', cy', cp'⟩
                    clear hK K hHeld
                    have hHeld := hHeld'
                    clear hHeld'
                    try simp only [Act.put, List.setIfInBounds_toArray, List.set_cons_zero, List.set_cons_succ]
                    refine held_call 29 rfl (by kernel_rfl) (fun K hK => ?_)
                    go_simp
                    go_at_call 14; refine (Hc3.out).mono ?_; rintro e w' ⟨rfl, rfl⟩
                    refine hK.out _ _ ?_ (fun hHeld' => ?_)
                    · first | exact hHeld | exact ⟨cm', cx', cy', cp'⟩
                    clear hK K hHeld
                    have hHeld := hHeld'
                    clear hHeld'
                    try simp only [Act.put, List.setIfInBounds_toArray, List.set_cons_zero, List.set_cons_succ]
                    refine held_take (v := ?_) 30 rfl (by kernel_rfl) (.inl ⟨by rfl, ?_⟩) hHeld ?_
                    rotate_left
                    · intro w hSw; (try dsimp only at hSw); first | (go_simp; done) | (go_simp; with_reducible rfl)
                    try simp only [Act.put, List.setIfInBounds_toArray, List.set_cons_zero, List.set_cons_succ]
                    refine held_take (v := ?_) 31 rfl (by kernel_rfl) (.inl ⟨by rfl, ?_⟩) hHeld ?_
                    rotate_left
                    · intro w hSw; (try dsimp only at hSw); first | (go_simp; done) | (go_simp; with_reducible rfl)
                    try simp only [Act.put, List.setIfInBounds_toArray, List.set_cons_zero, List.set_cons_succ]
                    refine held_take (v := ?_) 32 rfl (by kernel_rfl) (.inl ⟨by rfl, ?_⟩) hHeld ?_
                    rotate_left
                    · intro w hSw; (try dsimp only at hSw); first | (go_simp; done) | (go_simp; with_reducible rfl)
                    try simp only [Act.put, List.setIfInBounds_toArray, List.set_cons_zero, List.set_cons_succ]
                    refine held_take (v := ?_) 33 rfl (by kernel_rfl) (.inl ⟨by rfl, ?_⟩) hHeld ?_
                    rotate_left
                    · intro w hSw; (try dsimp only at hSw); first | (go_simp; done) | (go_simp; with_reducible rfl)
                    try simp only [Act.put, List.setIfInBounds_toArray, List.set_cons_zero, List.set_cons_succ]
                    refine held_take (v := ?_) 34 rfl (by kernel_rfl) (.inl ⟨by rfl, ?_⟩) hHeld ?_
                    rotate_left
                    · intro w hSw; (try dsimp only at hSw); first | (go_simp; done) | (go_simp; with_reducible rfl)
                    try simp only [Act.put, List.setIfInBounds_toArray, List.set_cons_zero, List.set_cons_succ]
                    refine held_take (v := ?_) 35 rfl (by kernel_rfl) (.inl ⟨by rfl, ?_⟩) hHeld ?_
                    rotate_left
                    · intro w hSw; (try dsimp only at hSw); first | (go_simp; done) | (go_simp; with_reducible rfl)
                    try simp only [Act.put, List.setIfInBounds_toArray, List.set_cons_zero, List.set_cons_succ]
                    refine held_take (v := ?_) 36 rfl (by kernel_rfl) (.inl ⟨by rfl, ?_⟩) hHeld ?_
                    rotate_left
                    · intro w hSw; (try dsimp only at hSw); first | (go_simp; done) | (go_simp; with_reducible rfl)
                    try simp only [Act.put, List.setIfInBounds_toArray, List.set_cons_zero, List.set_cons_succ]
                    refine held_take (v := ?_) 37 rfl (by kernel_rfl) (.inl ⟨by rfl, ?_⟩) hHeld ?_
                    rotate_left
                    · intro w hSw; (try dsimp only at hSw); first | (go_simp; done) | (go_simp; with_reducible rfl)
                    try simp only [Act.put, List.setIfInBounds_toArray, List.set_cons_zero, List.set_cons_succ]
                    refine held_take (v := ?_) 38 rfl (by kernel_rfl) (.inl ⟨by rfl, ?_⟩) hHeld ?_
                    rotate_left
                    · intro w hSw; (try dsimp only at hSw); first | (go_simp; done) | (go_simp; with_reducible rfl)
                    try simp only [Act.put, List.setIfInBounds_toArray, List.set_cons_zero, List.set_cons_succ]
                    refine held_take (v := ?_) 39 rfl (by kernel_rfl) (.inl ⟨by rfl, ?_⟩) hHeld ?_
                    rotate_left
                    · intro w hSw; (try dsimp only at hSw); first | (go_simp; done) | (go_simp; with_reducible rfl)
                    try simp only [Act.put, List.setIfInBounds_toArray, List.set_cons_zero, List.set_cons_succ]
                    refine held_take (v := ?_) 40 rfl (by kernel_rfl) (.inl ⟨by rfl, ?_⟩) hHeld ?_
                    rotate_left
                    · intro w hSw; (try dsimp only at hSw); first | (go_simp; done) | (go_simp; with_reducible rfl)
                    try simp only [Act.put, List.setIfInBounds_toArray, List.set_cons_zero, List.set_cons_succ]
                    refine held_take (v := ?_) 41 rfl (by kernel_rfl) (.inl ⟨by rfl, ?_⟩) hHeld ?_
                    rotate_left
                    · intro w hSw; (try dsimp only at hSw); first | (go_simp; done) | (go_simp; with_reducible rfl)
                    try simp only [Act.put, List.setIfInBounds_toArray, List.set_cons_zero, List.set_cons_succ]
                    refine held_take (v := ?_) 42 rfl (by kernel_rfl) (.inl ⟨by rfl, ?_⟩) hHeld ?_
                    rotate_left
                    · intro w hSw; (try dsimp only at hSw); first | (go_simp; done) | (go_simp; with_reducible rfl)
                    try simp only [Act.put, List.setIfInBounds_toArray, List.set_cons_zero, List.set_cons_succ]
                    refine held_take (v := ?_) 43 rfl (by kernel_rfl) (.inl ⟨by rfl, ?_⟩) hHeld ?_
                    rotate_left
                    · intro w hSw; (try dsimp only at hSw); first | (go_simp; done) | (go_simp; with_reducible rfl)
                    try simp only [Act.put, List.setIfInBounds_toArray, List.set_cons_zero, List.set_cons_succ]
                    refine held_take (v := ?_) 44 rfl (by kernel_rfl) (.inl ⟨by rfl, ?_⟩) hHeld ?_
                    rotate_left
                    · intro w hSw; (try dsimp only at hSw); first | (go_simp; done) | (go_simp; with_reducible rfl)
                    try simp only [Act.put, List.setIfInBounds_toArray, List.set_cons_zero, List.set_cons_succ]
                    refine held_call 45 rfl (by kernel_rfl) (fun K hK => ?_)
                    go_simp
                    go_at_call 16; refine (Hs4.out).mono ?_; rintro e w' ⟨rfl, rfl⟩
                    refine hK.out _ _ ?_ (fun hHeld' => ?_)
                    · first | exact hHeld | exact ⟨cm', cx', cy', cp'⟩
                    clear hK K hHeld
                    have hHeld := hHeld'
                    clear hHeld'
                    try simp only [Act.put, List.setIfInBounds_toArray, List.set_cons_zero, List.set_cons_succ]
                    refine held_take (v := ?_) 46 rfl (by kernel_rfl) (.inl ⟨by rfl, ?_⟩) hHeld ?_
                    rotate_left
                    · intro w hSw; (try dsimp only at hSw); first | (go_simp; done) | (go_simp; with_reducible rfl)
                    try simp only [Act.put, List.setIfInBounds_toArray, List.set_cons_zero, List.set_cons_succ]
                    refine held_take (v := ?_) 47 rfl (by kernel_rfl) (.inl ⟨by rfl, ?_⟩) hHeld ?_
                    rotate_left
                    · intro w hSw; (try dsimp only at hSw); first | (go_simp; done) | (go_simp; with_reducible rfl)
                    try simp only [Act.put, List.setIfInBounds_toArray, List.set_cons_zero, List.set_cons_succ]
                    refine held_take (v := ?_) 48 rfl (by kernel_rfl) (.inl ⟨by rfl, ?_⟩) hHeld ?_
                    rotate_left
                    · intro w hSw; (try dsimp only at hSw); first | (go_simp; done) | (go_simp; with_reducible rfl)
                    try simp only [Act.put, List.setIfInBounds_toArray, List.set_cons_zero, List.set_cons_succ]
                    refine held_take (v := ?_) 49 rfl (by kernel_rfl) (.inl ⟨by rfl, ?_⟩) hHeld ?_
                    rotate_left
                    · intro w hSw; (try dsimp only at hSw); first | (go_simp; done) | (go_simp; with_reducible rfl)
                    try simp only [Act.put, List.setIfInBounds_toArray, List.set_cons_zero, List.set_cons_succ]
                    refine held_take (v := ?_) 50 rfl (by kernel_rfl) (.inl ⟨by rfl, ?_⟩) hHeld ?_
                    rotate_left
                    · intro w hSw; (try dsimp only at hSw); first | (go_simp; done) | (go_simp; with_reducible rfl)
                    try simp only [Act.put, List.setIfInBounds_toArray, List.set_cons_zero, List.set_cons_succ]
                    refine held_take (v := ?_) 51 rfl (by kernel_rfl) (.inl ⟨by rfl, ?_⟩) hHeld ?_
                    rotate_left
                    · intro w hSw; (try dsimp only at hSw); first | (go_simp; done) | (go_simp; with_reducible rfl)
                    try simp only [Act.put, List.setIfInBounds_toArray, List.set_cons_zero, List.set_cons_succ]
                    refine held_take (v := ?_) 52 rfl (by kernel_rfl) (.inl ⟨by rfl, ?_⟩) hHeld ?_
                    rotate_left
                    · intro w hSw; (try dsimp only at hSw); first | (go_simp; done) | (go_simp; with_reducible rfl)
                    try simp only [Act.put, List.setIfInBounds_toArray, List.set_cons_zero, List.set_cons_succ]
                    refine held_take (v := ?_) 53 rfl (by kernel_rfl) (.inl ⟨by rfl, ?_⟩) hHeld ?_
                    rotate_left
                    · intro w hSw; (try dsimp only at hSw); first | (go_simp; done) | (go_simp; with_reducible rfl)
                    try simp only [Act.put, List.setIfInBounds_toArray, List.set_cons_zero, List.set_cons_succ]
                    refine held_take 54 rfl (by kernel_rfl) (.inr ⟨by rfl, rfl⟩) hHeld ?_
                    try simp only [Act.put, List.setIfInBounds_toArray, List.set_cons_zero, List.set_cons_succ]
                    refine held_take 55 rfl (by kernel_rfl) (.inr ⟨by rfl, rfl⟩) hHeld ?_
                    try simp only [Act.put, List.setIfInBounds_toArray, List.set_cons_zero, List.set_cons_succ]
                    refine held_take 56 rfl (by kernel_rfl) (.inr ⟨by rfl, rfl⟩) hHeld ?_
                    try simp only [Act.put, List.setIfInBounds_toArray, List.set_cons_zero, List.set_cons_succ]
                    refine held_take 57 rfl (by kernel_rfl) (.inr ⟨by rfl, rfl⟩) hHeld ?_
                    try simp only [Act.put, List.setIfInBounds_toArray, List.set_cons_zero, List.set_cons_succ]
                    refine held_take 58 rfl (by kernel_rfl) (.inr ⟨by rfl, rfl⟩) hHeld ?_
                    try simp only [Act.put, List.setIfInBounds_toArray, List.set_cons_zero, List.set_cons_succ]
                    refine held_take 59 rfl (by kernel_rfl) (.inr ⟨by rfl, rfl⟩) hHeld ?_
                    try simp only [Act.put, List.setIfInBounds_toArray, List.set_cons_zero, List.set_cons_succ]
                    refine held_take 60 rfl (by kernel_rfl) (.inr ⟨by rfl, rfl⟩) hHeld ?_
                    try simp only [Act.put, List.setIfInBounds_toArray, List.set_cons_zero, List.set_cons_succ]
                    refine held_take 61 rfl (by kernel_rfl) (.inr ⟨by rfl, rfl⟩) hHeld ?_
                    try simp only [Act.put, List.setIfInBounds_toArray, List.set_cons_zero, List.set_cons_succ]
                    refine held_take 62 rfl (by kernel_rfl) (.inr ⟨by rfl, rfl⟩) hHeld ?_
                    try simp only [Act.put, List.setIfInBounds_toArray, List.set_cons_zero, List.set_cons_succ]
                    refine held_take 63 rfl (by kernel_rfl) (.inr ⟨by rfl, rfl⟩) hHeld ?_
                    try simp only [Act.put, List.setIfInBounds_toArray, List.set_cons_zero, List.set_cons_succ]
                    refine held_take (v := ?_) 64 rfl (by kernel_rfl) (.inl ⟨by rfl, ?_⟩) hHeld ?_
                    rotate_left
                    · intro w hSw; (try dsimp only at hSw); first | (go_simp; done) | (go_simp; with_reducible rfl)
                    try simp only [Act.put, List.setIfInBounds_toArray, List.set_cons_zero, List.set_cons_succ]
                    refine held_take (v := ?_) 65 rfl (by kernel_rfl) (.inl ⟨by rfl, ?_⟩) hHeld ?_
                    rotate_left
                    · intro w hSw; (try dsimp only at hSw); first | (go_simp; done) | (go_simp; with_reducible rfl)
                    try simp only [Act.put, List.setIfInBounds_toArray, List.set_cons_zero, List.set_cons_succ]
                    refine held_done (by kernel_rfl) ?_
                    clear hHeld
                    clear Hs4 Hc3 Hc1 Hc2 cm cx cy cp cm' cx' cy' cp' Hall Hk3 Hk4 Hk5
                    go_wp2
                    go_roundw
                    case rel => exact ⟨i + 1, by omega, by go_num, Lib.hid (hF.out.trans' (Hfd.out.trans' HaF.out))⟩
                    case measure => simp [intOf]; omega
                  · have hik1 : ¬ (i : Int) = k := by omega
                    have hik4 : decide ((i : Int) = (k : Int)) = false := decide_eq_false hik1
                    have hik5 : decide (i = k) = false := decide_eq_false hik
                    go_wp2_with fail
                    refine wp_held (fun w' => w'.cell? ⟨gm, om + i, none⟩ = some (.slice mro (vboth max xx xy).length mrc) ∧ w'.cell? ⟨gx, ox + i, none⟩ = some (.slice xro xx.length xrc) ∧ w'.cell? ⟨g, off + i, none⟩ = some (.slice yro xy.length yrc) ∧ w'.cell? ⟨gp, op + i, none⟩ = some (.slice pro xp.length prc)) (by kernel_rfl) ?_ (fun hHeld => ?_)
                    · exact ⟨cm, cx, cy, cp⟩
                    refine held_take (v := ?_) 0 rfl (by kernel_rfl) (.inl ⟨by rfl, ?_⟩) hHeld ?_
                    rotate_left
                    · intro w hSw; (try dsimp only at hSw); first | (go_simp; done) | (go_simp; with_reducible rfl)
                    try simp only [Act.put, List.setIfInBounds_toArray, List.set_cons_zero, List.set_cons_succ]
                    refine held_take (v := ?_) 1 rfl (by kernel_rfl) (.inl ⟨by rfl, ?_⟩) hHeld ?_
                    rotate_left
                    · intro w hSw; (try dsimp only at hSw); first | (go_simp; done) | (go_simp; with_reducible rfl)
                    try simp only [Act.put, List.setIfInBounds_toArray, List.set_cons_zero, List.set_cons_succ]
                    refine held_take (v := ?_) 2 rfl (by kernel_rfl) (.inl ⟨by rfl, ?_⟩) hHeld ?_
                    rotate_left
                    · intro w hSw; (try dsimp only at hSw); first | (go_simp; done) | (go_simp; with_reducible rfl)
                    try simp only [Act.put, List.setIfInBounds_toArray, List.set_cons_zero, List.set_cons_succ]
                    refine held_take (v := ?_) 3 rfl (by kernel_rfl) (.inl ⟨by rfl, ?_⟩) hHeld ?_
                    rotate_left
                    · intro w hSw; (try dsimp only at hSw); first | (go_simp; done) | (go_simp; with_reducible rfl)
                    try simp only [Act.put, List.setIfInBounds_toArray, List.set_cons_zero, List.set_cons_succ]
                    refine held_take (v := ?_) 4 rfl (by kernel_rfl) (.inl ⟨by rfl, ?_⟩) hHeld ?_
                    rotate_left
                    · intro w hSw; (try dsimp only at hSw); first | (go_simp; done) | (go_simp; with_reducible rfl)
                    try simp only [Act.put, List.setIfInBounds_toArray, List.set_cons_zero, List.set_cons_succ]
                    refine held_take (v := ?_) 5 rfl (by kernel_rfl) (.inl ⟨by rfl, ?_⟩) hHeld ?_
                    rotate_left
                    · intro w hSw; (try dsimp only at hSw); first | (go_simp; done) | (go_simp; with_reducible rfl)
                    try simp only [Act.put, List.setIfInBounds_toArray, List.set_cons_zero, List.set_cons_succ]
                    refine held_take (v := ?_) 6 rfl (by kernel_rfl) (.inl ⟨by rfl, ?_⟩) hHeld ?_
                    rotate_left
                    · intro w hSw; (try dsimp only at hSw); first | (go_simp; done) | (go_simp; with_reducible rfl)
                    try simp only [Act.put, List.setIfInBounds_toArray, List.set_cons_zero, List.set_cons_succ]
                    refine held_take (v := ?_) 7 rfl (by kernel_rfl) (.inl ⟨by rfl, ?_⟩) hHeld ?_
                    rotate_left
                    · intro w hSw; (try dsimp only at hSw); first | (go_simp; done) | (go_simp; with_reducible rfl)
                    try simp only [Act.put, List.setIfInBounds_toArray, List.set_cons_zero, List.set_cons_succ]
                    refine held_call 8 rfl (by kernel_rfl) (fun K hK => ?_)
                    go_simp
                    go_at_call 14; refine (Hc1.out).mono ?_; rintro e w' ⟨rfl, rfl⟩
                    refine hK.out _ _ ?_ (fun hHeld' => ?_)
                    · first | exact hHeld | exact ⟨cm', cx', cy', cp'⟩
                    clear hK K hHeld
                    have hHeld := hHeld'
                    clear hHeld'
                    try simp only [Act.put, List.setIfInBounds_toArray, List.set_cons_zero, List.set_cons_succ]
                    refine held_take (v := ?_) 9 rfl (by kernel_rfl) (.inl ⟨by rfl, ?_⟩) hHeld ?_
                    rotate_left
                    · intro w hSw; (try dsimp only at hSw); first | (go_simp; done) | (go_simp; with_reducible rfl)
                    try simp only [Act.put, List.setIfInBounds_toArray, List.set_cons_zero, List.set_cons_succ]
                    refine held_take (v := ?_) 10 rfl (by kernel_rfl) (.inl ⟨by rfl, ?_⟩) hHeld ?_
                    rotate_left
                    · intro w hSw; (try dsimp only at hSw); first | (go_simp; done) | (go_simp; with_reducible rfl)
                    try simp only [Act.put, List.setIfInBounds_toArray, List.set_cons_zero, List.set_cons_succ]
                    refine held_take (v := ?_) 11 rfl (by kernel_rfl) (.inl ⟨by rfl, ?_⟩) hHeld ?_
                    rotate_left
                    · intro w hSw; (try dsimp only at hSw); first | (go_simp; done) | (go_simp; with_reducible rfl)
                    try simp only [Act.put, List.setIfInBounds_toArray, List.set_cons_zero, List.set_cons_succ]
                    refine held_take (v := ?_) 12 rfl (by kernel_rfl) (.inl ⟨by rfl, ?_⟩) hHeld ?_
                    rotate_left
                    · intro w hSw; (try dsimp only at hSw); first | (go_simp; done) | (go_simp; with_reducible rfl)
                    try simp only [Act.put, List.setIfInBounds_toArray, List.set_cons_zero, List.set_cons_succ]
                    refine held_take (v := ?_) 13 rfl (by kernel_rfl) (.inl ⟨by rfl, ?_⟩) hHeld ?_
                    rotate_left
                    · intro w hSw; (try dsimp only at hSw); first | (go_simp; done) | (go_simp; with_reducible rfl)
                    try simp only [Act.put, List.setIfInBounds_toArray, List.set_cons_zero, List.set_cons_succ]
                    refine held_take (v := ?_) 14 rfl (by kernel_rfl) (.inl ⟨by rfl, ?_⟩) hHeld ?_
                    rotate_left
                    · intro w hSw; (try dsimp only at hSw); first | (go_simp; done) | (go_simp; with_reducible rfl)
                    try simp only [Act.put, List.setIfInBounds_toArray, List.set_cons_zero, List.set_cons_succ]
                    refine held_take (v := ?_) 15 rfl (by kernel_rfl) (.inl ⟨by rfl, ?_⟩) hHeld ?_
                    rotate_left
                    · intro w hSw; (try dsimp only at hSw); first | (go_simp; done) | (go_simp; with_reducible rfl)
                    try simp only [Act.put, List.setIfInBounds_toArray, List.set_cons_zero, List.set_cons_succ]
                    refine held_take (v := ?_) 16 rfl (by kernel_rfl) (.inl ⟨by rfl, ?_⟩) hHeld ?_
                    rotate_left
                    · intro w hSw; (try dsimp only at hSw); first | (go_simp; done) | (go_simp; with_reducible rfl)
                    try simp only [Act.put, List.setIfInBounds_toArray, List.set_cons_zero, List.set_cons_succ]
                    refine held_take (v := ?_) 17 rfl (by kernel_rfl) (.inl ⟨by rfl, ?_⟩) hHeld ?_
                    rotate_left
                    · intro w hSw; (try dsimp only at hSw); first | (go_simp; done) | (go_simp; with_reducible rfl)
                    try simp only [Act.put, List.setIfInBounds_toArray, List.set_cons_zero, List.set_cons_succ]
                    refine held_take (v := ?_) 18 rfl (by kernel_rfl) (.inl ⟨by rfl, ?_⟩) hHeld ?_
                    rotate_left
                    · intro w hSw; (try dsimp only at hSw); first | (go_simp; done) | (go_simp; with_reducible rfl)
                    try simp only [Act.put, List.setIfInBounds_toArray, List.set_cons_zero, List.set_cons_succ]
                    refine held_call 19 rfl (by kernel_rfl) (fun K hK => ?_)
                    go_simp
                    go_at_call 14; refine (Hc2.out).mono ?_; rintro e w' ⟨rfl, rfl⟩
                    refine hK.out _ _ ?_ (fun hHeld' => ?_)
                    · first | exact hHeld | exact ⟨cm', cx', cy', cp'⟩
                    clear hK K hHeld
                    have hHeld := hHeld'
                    clear hHeld'
                    try simp only [Act.put, List.setIfInBounds_toArray, List.set_cons_zero, List.set_cons_succ]
                    refine held_take (v := ?_) 20 rfl (by kernel_rfl) (.inl ⟨by rfl, ?_⟩) hHeld ?_
                    rotate_left
                    · intro w hSw; (try dsimp only at hSw); first | (go_simp; done) | (go_simp; with_reducible rfl)
                    try simp only [Act.put, List.setIfInBounds_toArray, List.set_cons_zero, List.set_cons_succ]
                    refine held_take (v := ?_) 21 rfl (by kernel_rfl) (.inl ⟨by rfl, ?_⟩) hHeld ?_
                    rotate_left
                    · intro w hSw; (try dsimp only at hSw); first | (go_simp; done) | (go_simp; with_reducible rfl)
                    try simp only [Act.put, List.setIfInBounds_toArray, List.set_cons_zero, List.set_cons_succ]
                    refine held_take (v := ?_) 22 rfl (by kernel_rfl) (.inl ⟨by rfl, ?_⟩) hHeld ?_
                    rotate_left
                    · intro w hSw; (try dsimp only at hSw); first | (go_simp; done) | (go_simp; with_reducible rfl)
                    try simp only [Act.put, List.setIfInBounds_toArray, List.set_cons_zero, List.set_cons_succ]
                    refine held_take (v := ?_) 23 rfl (by kernel_rfl) (.inl ⟨by rfl, ?_⟩) hHeld ?_
                    rotate_left
                    · intro w hSw; (try dsimp only at hSw); first | (go_simp; done) | (go_simp; with_reducible rfl)
                    try simp only [Act.put, List.setIfInBounds_toArray, List.set_cons_zero, List.set_cons_succ]
                    refine held_take (v := ?_) 24 rfl (by kernel_rfl) (.inl ⟨by rfl, ?_⟩) hHeld ?_
                    rotate_left
                    · intro w hSw; (try dsimp only at hSw); first | (go_simp; done) | (go_simp; with_reducible rfl)
                    try simp only [Act.put, List.setIfInBounds_toArray, List.set_cons_zero, List.set_cons_succ]
                    refine held_take (v := ?_) 25 rfl (by kernel_rfl) (.inl ⟨by rfl, ?_⟩) hHeld ?_
                    rotate_left
                    · intro w hSw; (try dsimp only at hSw); first | (go_simp; done) | (go_simp; with_reducible rfl)
                    try simp only [Act.put, List.setIfInBounds_toArray, List.set_cons_zero, List.set_cons_succ]
                    refine held_take (v := ?_) 26 rfl (by kernel_rfl) (.inl ⟨by rfl, ?_⟩) hHeld ?_
                    rotate_left
                    · intro w hSw; (try dsimp only at hSw); first | (go_simp; done) | (go_simp; with_reducible rfl)
                    try simp only [Act.put, List.setIfInBounds_toArray, List.set_cons_zero, List.set_cons_succ]
                    refine held_take (v := ?_) 27 rfl (by kernel_rfl) (.inl ⟨by rfl, ?_⟩) hHeld ?_
                    rotate_left
                    · intro w hSw; (try dsimp only at hSw); first | (go_simp; done) | (go_simp; with_reducible rfl)
                    try simp only [Act.put, List.setIfInBounds_toArray, List.set_cons_zero, List.set_cons_succ]
                    refine held_call 28 rfl (by kernel_rfl) (fun K hK => ?_)
                    go_simp
                    go_at_call 15; refine (Hall.out).mono ?_; rintro e wa ⟨aao, acap, rfl, aI, aF⟩; have Hc3 := Lib.hid (Hk3.out wa aao acap aF aI); have Hs4 := Lib.hid (Hk5.out hik wa aF); have HaF := Lib.hid aF; have cm' := aF.cell (p := ⟨gm, om + i, none⟩) cm (fun f => f); have cx' := aF.cell (p := ⟨gx, ox + i, none⟩) cx (fun f => f); have cy' := aF.cell (p := ⟨g, off + i, none⟩) cy (fun f => f); have cp' := aF.cell (p := ⟨gp, op + i, none⟩) cp (fun f => f); clear aF aI
                    refine hK.out _ _ ?_ (fun hHeld' => ?_)
                    · first | exact hHeld | exact ⟨cm', cx', cy', cp'⟩
                    clear hK K hHeld
                    have hHeld := hHeld'
                    clear hHeld'
                    try simp only [Act.put, List.setIfInBounds_toArray, List.set_cons_zero, List.set_cons_succ]
                    refine held_call 29 rfl (by kernel_rfl) (fun K hK => ?_)
                    go_simp
                    go_at_call 14; refine (Hc3.out).mono ?_; rintro e w' ⟨rfl, rfl⟩
                    refine hK.out _ _ ?_ (fun hHeld' => ?_)
                    · first | exact hHeld | exact ⟨cm', cx', cy', cp'⟩
                    clear hK K hHeld
                    have hHeld := hHeld'
                    clear hHeld'
                    try simp only [Act.put, List.setIfInBounds_toArray, List.set_cons_zero, List.set_cons_succ]
                    refine held_take (v := ?_) 30 rfl (by kernel_rfl) (.inl ⟨by rfl, ?_⟩) hHeld ?_
                    rotate_left
                    · intro w hSw; (try dsimp only at hSw); first | (go_simp; done) | (go_simp; with_reducible rfl)
                    try simp only [Act.put, List.setIfInBounds_toArray, List.set_cons_zero, List.set_cons_succ]
                    refine held_take (v := ?_) 31 rfl (by kernel_rfl) (.inl ⟨by rfl, ?_⟩) hHeld ?_
                    rotate_left
                    · intro w hSw; (try dsimp only at hSw); first | (go_simp; done) | (go_simp; with_reducible rfl)
                    try simp only [Act.put, List.setIfInBounds_toArray, List.set_cons_zero, List.set_cons_succ]
                    refine held_take (v := ?_) 32 rfl (by kernel_rfl) (.inl ⟨by rfl, ?_⟩) hHeld ?_
                    rotate_left
                    · intro w hSw; (try dsimp only at hSw); first | (go_simp; done) | (go_simp; with_reducible rfl)
                    try simp only [Act.put, List.setIfInBounds_toArray, List.set_cons_zero, List.set_cons_succ]
                    refine held_take (v := ?_) 33 rfl (by kernel_rfl) (.inl ⟨by rfl, ?_⟩) hHeld ?_
                    rotate_left
                    · intro w hSw; (try dsimp only at hSw); first | (go_simp; done) | (go_simp; with_reducible rfl)
                    try simp only [Act.put, List.setIfInBounds_toArray, List.set_cons_zero, List.set_cons_succ]
                    refine held_take (v := ?_) 34 rfl (by kernel_rfl) (.inl ⟨by rfl, ?_⟩) hHeld ?_
                    rotate_left
                    · intro w hSw; (try dsimp only at hSw); first | (go_simp; done) | (go_simp; with_reducible rfl)
                    try simp only [Act.put, List.setIfInBounds_toArray, List.set_cons_zero, List.set_cons_succ]
                    refine held_take (v := (.bool false)) 35 rfl (by kernel_rfl) (.inl ⟨by rfl, ?_⟩) hHeld ?_
                    · intro w hSw; (try dsimp only at hSw); go_simp
                    try simp only [Act.put, List.setIfInBounds_toArray, List.set_cons_zero, List.set_cons_succ]
                    refine held_take (v := ?_) 36 rfl (by kernel_rfl) (.inl ⟨by rfl, ?_⟩) hHeld ?_
                    rotate_left
                    · intro w hSw; (try dsimp only at hSw); first | (go_simp; done) | (go_simp; with_reducible rfl)
                    try simp only [Act.put, List.setIfInBounds_toArray, List.set_cons_zero, List.set_cons_succ]
                    refine held_take 37 rfl (by kernel_rfl) (.inr ⟨by rfl, rfl⟩) hHeld ?_
                    try simp only [Act.put, List.setIfInBounds_toArray, List.set_cons_zero, List.set_cons_succ]
                    refine held_take 38 rfl (by kernel_rfl) (.inr ⟨by rfl, rfl⟩) hHeld ?_
                    try simp only [Act.put, List.setIfInBounds_toArray, List.set_cons_zero, List.set_cons_succ]
                    refine held_take 39 rfl (by kernel_rfl) (.inr ⟨by rfl, rfl⟩) hHeld ?_
                    try simp only [Act.put, List.setIfInBounds_toArray, List.set_cons_zero, List.set_cons_succ]
                    refine held_take 40 rfl (by kernel_rfl) (.inr ⟨by rfl, rfl⟩) hHeld ?_
                    try simp only [Act.put, List.setIfInBounds_toArray, List.set_cons_zero, List.set_cons_succ]
                    refine held_take 41 rfl (by kernel_rfl) (.inr ⟨by rfl, rfl⟩) hHeld ?_
                    try simp only [Act.put, List.setIfInBounds_toArray, List.set_cons_zero, List.set_cons_succ]
                    refine held_take 42 rfl (by kernel_rfl) (.inr ⟨by rfl, rfl⟩) hHeld ?_
                    try simp only [Act.put, List.setIfInBounds_toArray, List.set_cons_zero, List.set_cons_succ]
                    refine held_take 43 rfl (by kernel_rfl) (.inr ⟨by rfl, rfl⟩) hHeld ?_
                    try simp only [Act.put, List.setIfInBounds_toArray, List.set_cons_zero, List.set_cons_succ]
                    refine held_take 44 rfl (by kernel_rfl) (.inr ⟨by rfl, rfl⟩) hHeld ?_
                    try simp only [Act.put, List.setIfInBounds_toArray, List.set_cons_zero, List.set_cons_succ]
                    refine held_take 45 rfl (by kernel_rfl) (.inr ⟨by rfl, rfl⟩) hHeld ?_
                    try simp only [Act.put, List.setIfInBounds_toArray, List.set_cons_zero, List.set_cons_succ]
                    refine held_take 46 rfl (by kernel_rfl) (.inr ⟨by rfl, rfl⟩) hHeld ?_
                    try simp only [Act.put, List.setIfInBounds_toArray, List.set_cons_zero, List.set_cons_succ]
                    refine held_take (v := ?_) 47 rfl (by kernel_rfl) (.inl ⟨by rfl, ?_⟩) hHeld ?_
                    rotate_left
                    · intro w hSw; (try dsimp only at hSw); first | (go_simp; done) | (go_simp; with_reducible rfl)
                    try simp only [Act.put, List.setIfInBounds_toArray, List.set_cons_zero, List.set_cons_succ]
                    refine held_take (v := ?_) 48 rfl (by kernel_rfl) (.inl ⟨by rfl, ?_⟩) hHeld ?_
                    rotate_left
                    · intro w hSw; (try dsimp only at hSw); first | (go_simp; done) | (go_simp; with_reducible rfl)
                    try simp only [Act.put, List.setIfInBounds_toArray, List.set_cons_zero, List.set_cons_succ]
                    refine held_take (v := ?_) 49 rfl (by kernel_rfl) (.inl ⟨by rfl, ?_⟩) hHeld ?_
                    rotate_left
                    · intro w hSw; (try dsimp only at hSw); first | (go_simp; done) | (go_simp; with_reducible rfl)
                    try simp only [Act.put, List.setIfInBounds_toArray, List.set_cons_zero, List.set_cons_succ]
                    refine held_take (v := ?_) 50 rfl (by kernel_rfl) (.inl ⟨by rfl, ?_⟩) hHeld ?_
                    rotate_left
                    · intro w hSw; (try dsimp only at hSw); first | (go_simp; done) | (go_simp; with_reducible rfl)
                    try simp only [Act.put, List.setIfInBounds_toArray, List.set_cons_zero, List.set_cons_succ]
                    refine held_take (v := ?_) 51 rfl (by kernel_rfl) (.inl ⟨by rfl, ?_⟩) hHeld ?_
                    rotate_left
                    · intro w hSw; (try dsimp only at hSw); first | (go_simp; done) | (go_simp; with_reducible rfl)
                    try simp only [Act.put, List.setIfInBounds_toArray, List.set_cons_zero, List.set_cons_succ]
                    refine held_take (v := (.bool true)) 52 rfl (by kernel_rfl) (.inl ⟨by rfl, ?_⟩) hHeld ?_
                    · intro w hSw; (try dsimp only at hSw); go_simp
                    try simp only [Act.put, List.setIfInBounds_toArray, List.set_cons_zero, List.set_cons_succ]
                    refine held_take (v := ?_) 53 rfl (by kernel_rfl) (.inl ⟨by rfl, ?_⟩) hHeld ?_
                    rotate_left
                    · intro w hSw; (try dsimp only at hSw); first | (go_simp; done) | (go_simp; with_reducible rfl)
                    try simp only [Act.put, List.setIfInBounds_toArray, List.set_cons_zero, List.set_cons_succ]
                    refine held_take (v := ?_) 54 rfl (by kernel_rfl) (.inl ⟨by rfl, ?_⟩) hHeld ?_
                    rotate_left
                    · intro w hSw; (try dsimp only at hSw); first | (go_simp; done) | (go_simp; with_reducible rfl)
                    try simp only [Act.put, List.setIfInBounds_toArray, List.set_cons_zero, List.set_cons_succ]
                    refine held_take (v := ?_) 55 rfl (by kernel_rfl) (.inl ⟨by rfl, ?_⟩) hHeld ?_
                    rotate_left
                    · intro w hSw; (try dsimp only at hSw); first | (go_simp; done) | (go_simp; with_reducible rfl)
                    try simp only [Act.put, List.setIfInBounds_toArray, List.set_cons_zero, List.set_cons_succ]
                    refine held_take (v := ?_) 56 rfl (by kernel_rfl) (.inl ⟨by rfl, ?_⟩) hHeld ?_
                    rotate_left
                    · intro w hSw; (try dsimp only at hSw); first | (go_simp; done) | (go_simp; with_reducible rfl)
                    try simp only [Act.put, List.setIfInBounds_toArray, List.set_cons_zero, List.set_cons_succ]
                    refine held_take (v := ?_) 57 rfl (by kernel_rfl) (.inl ⟨by rfl, ?_⟩) hHeld ?_
                    rotate_left
                    · intro w hSw; (try dsimp only at hSw); first | (go_simp; done) | (go_simp; with_reducible rfl)
                    try simp only [Act.put, List.setIfInBounds_toArray, List.set_cons_zero, List.set_cons_succ]
                    refine held_take (v := ?_) 58 rfl (by kernel_rfl) (.inl ⟨by rfl, ?_⟩) hHeld ?_
                    rotate_left
                    · intro w hSw; (try dsimp only at hSw); first | (go_simp; done) | (go_simp; with_reducible rfl)
                    try simp only [Act.put, List.setIfInBounds_toArray, List.set_cons_zero, List.set_cons_succ]
                    refine held_take (v := ?_) 59 rfl (by kernel_rfl) (.inl ⟨by rfl, ?_⟩) hHeld ?_
                    rotate_left
                    · intro w hSw; (try dsimp only at hSw); first | (go_simp; done) | (go_simp; with_reducible rfl)
                    try simp only [Act.put, List.setIfInBounds_toArray, List.set_cons_zero, List.set_cons_succ]
                    refine held_take (v := ?_) 60 rfl (by kernel_rfl) (.inl ⟨by rfl, ?_⟩) hHeld ?_
                    rotate_left
                    · intro w hSw; (try dsimp only at hSw); first | (go_simp; done) | (go_simp; with_reducible rfl)
                    try simp only [Act.put, List.setIfInBounds_toArray, List.set_cons_zero, List.set_cons_succ]
                    refine held_take (v := ?_) 61 rfl (by kernel_rfl) (.inl ⟨by rfl, ?_⟩) hHeld ?_
                    rotate_left
                    · intro w hSw; (try dsimp only at hSw); first | (go_simp; done) | (go_simp; with_reducible rfl)
                    try simp only [Act.put, List.setIfInBounds_toArray, List.set_cons_zero, List.set_cons_succ]
                    refine held_call 62 rfl (by kernel_rfl) (fun K hK => ?_)
                    go_simp
                    go_at_call 16; refine (Hs4.out).mono ?_; rintro e w' ⟨rfl, rfl⟩
                    refine hK.out _ _ ?_ (fun hHeld' => ?_)
                    · first | exact hHeld | exact ⟨cm', cx', cy', cp'⟩
                    clear hK K hHeld
                    have hHeld := hHeld'
                    clear hHeld'
                    try simp only [Act.put, List.setIfInBounds_toArray, List.set_cons_zero, List.set_cons_succ]
                    refine held_take (v := ?_) 63 rfl (by kernel_rfl) (.inl ⟨by rfl, ?_⟩) hHeld ?_
                    rotate_left
                    · intro w hSw; (try dsimp only at hSw); first | (go_simp; done) | (go_simp; with_reducible rfl)
                    try simp only [Act.put, List.setIfInBounds_toArray, List.set_cons_zero, List.set_cons_succ]
                    refine held_take (v := ?_) 64 rfl (by kernel_rfl) (.inl ⟨by rfl, ?_⟩) hHeld ?_
                    rotate_left
                    · intro w hSw; (try dsimp only at hSw); first | (go_simp; done) | (go_simp; with_reducible rfl)
                    try simp only [Act.put, List.setIfInBounds_toArray, List.set_cons_zero, List.set_cons_succ]
                    refine held_take (v := ?_) 65 rfl (by kernel_rfl) (.inl ⟨by rfl, ?_⟩) hHeld ?_
                    rotate_left
                    · intro w hSw; (try dsimp only at hSw); first | (go_simp; done) | (go_simp; with_reducible rfl)
                    try simp only [Act.put, List.setIfInBounds_toArray, List.set_cons_zero, List.set_cons_succ]
                    refine held_done (by kernel_rfl) ?_
                    clear hHeld
                    clear Hs4 Hc3 Hc1 Hc2 cm cx cy cp cm' cx' cy' cp' Hall Hk3 Hk4 Hk5
                    go_wp2
                    go_roundw
                    case rel => exact ⟨i + 1, by omega, by go_num, Lib.hid (hF.out.trans' (Hfd.out.trans' HaF.out))⟩
                    case measure => simp [intOf]; omega
                · obtain rfl : i = n := by omega
                  go_wp2
                  go_ret
                  exact ⟨rfl, F9.out.trans' hF.out⟩
            · generalize tcheck b n = z at *
              go_wp2
              go_ret
              exact ⟨rfl, F5.out⟩
          · generalize tcheck a n = z at *
            go_wp2
            go_ret
            exact ⟨rfl, F4.out⟩
      · have hnm0 : ¬ (n : Int) = m := by omega
        have hnm' : ((n : Int) == (m : Int)) = false := by simp [hnm0]
        have hnm2 : ((n : Int) != (m : Int)) = true := by simp [hnm0]
        go_wp2
        go_ret
        exact ⟨rfl, F1.out⟩
end Go.Proofs.Ytkhjdhdgomndoaa
