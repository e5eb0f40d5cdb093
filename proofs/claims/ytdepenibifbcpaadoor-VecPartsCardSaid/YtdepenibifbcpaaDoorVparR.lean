/- The walk of the law VecParts. -/
import Derived.Test.YtdepenibifbcpaaDoorVup
import Derived.Test.YtdepenibifbcpaaDoorHeld2
namespace Go.XL
open Go.RowKit Go.Shelf
set_option linter.unusedVariables false
theorem vallF_get (xs : List Int) : ∀ k (p : Nat × Int), p ∈ vallF xs k → k ≤ p.1 ∧ xs[p.1 - k]? = some p.2 ∧ p.2 ≠ 0 := by
  induction xs with
  | nil => intro k p hp; simp [vallF] at hp
  | cons x xs ih =>
    intro k p hp
    rw [vallF] at hp
    by_cases h : x = 0
    · rw [if_pos h] at hp
      obtain ⟨h1, h2, h3⟩ := ih _ _ hp
      refine ⟨by omega, ?_, h3⟩
      rw [show p.1 - k = p.1 - (k + 1) + 1 by omega, List.getElem?_cons_succ]
      exact h2
    · rw [if_neg h] at hp
      rcases List.mem_cons.1 hp with rfl | hp
      · exact ⟨Nat.le_refl _, by simp, h⟩
      · obtain ⟨h1, h2, h3⟩ := ih _ _ hp
        refine ⟨by omega, ?_, h3⟩
        rw [show p.1 - k = p.1 - (k + 1) + 1 by omega, List.getElem?_cons_succ]
        exact h2
theorem vallF_len (xs : List Int) : ∀ k, (vallF xs k).length ≤ xs.length := by
  induction xs with
  | nil => intro k; simp [vallF]
  | cons x xs ih =>
    intro k
    rw [vallF]
    split
    · have := ih (k + 1); simp; omega
    · have := ih (k + 1); simp; omega
def dif (a b : List Int) (i : Nat) : Int := if vget b i < vget a i then vget a i - vget b i else 0
theorem parts_sum {a b : List Int} (la : a.length ≤ 8) (lb : b.length ≤ 8) : vsum (vboth max a b) = vsum b + rsum (dif a b) 8 := by
  rw [vsum_rsum _ 8 (by rw [vboth_len]; omega), vsum_rsum b 8 lb, ← rsum_add]
  refine rsum_congr fun i _ => ?_
  rw [vget_both max rfl]
  unfold dif
  split <;> omega
theorem vsum_take_bounds {l : List Int} (h : ∀ x ∈ l, 0 ≤ x ∧ x ≤ 65535) (k : Nat) : 0 ≤ vsum (l.take k) ∧ vsum (l.take k) ≤ 65535 * k := by
  rw [vsum_take]
  have := rsum_bounds (f := fun i => vget l i) (n := k) (b := 65535) (fun i _ => u16_vget h i)
  omega
end Go.XL
namespace Go.Proofs.YtdepenibifbcpaaDoor
open Go.RowKit Go.Shelf Go.XL Go.ChangeShapes Go.WideShapes Go.ChangeAt
set_option linter.unusedVariables false
set_option linter.unusedSimpArgs false
attribute [local go_sem] Oper.semAt_some
set_option maxRecDepth 100000 in
set_option maxHeartbeats 8000000 in
theorem vecParts_any (v1 v2 : Value) (a b : List Int) (w : World) (hG : Gl w) (h1 : Rd w 1 v1 a.length (a.map (Value.int .u16))) (h2 : Rd w 1 v2 b.length (b.map (Value.int .u16))) (ha : U16s a) (hb : U16s b) :
    Calls Tryd.prog 7 #[v1, v2] w fun e w' => e = .returned (.bool true) ∧ Fr no w w' := by
  have hk := vknown w hG
  obtain ⟨o1, c1, rfl, k1, m1⟩ := h1.cap
  obtain ⟨o2, c2, rfl, k2, m2⟩ := h2.cap
  by_cases hs : a.length ≤ 8 ∧ b.length ≤ 8
  · obtain ⟨la, lb⟩ := hs
    have hu1 := fun (w' : World) (hf : Fr no w w') => law_up _ a w' (h1.fr hf (fun _ _ _ f => f)) ha (by omega)
    have hu2 := fun (w' : World) (hf : Fr no w w') => law_up _ b w' (h2.fr hf (fun _ _ _ f => f)) hb (by omega)
    have hps := parts_sum la lb
    have hub := (u16_both ha hb).1
    have hva := fun j : Nat => u16_vget ha j
    have hvb := fun j : Nat => u16_vget hb j
    obtain ⟨J, hJ⟩ : ∃ J, vboth max a b = J := ⟨_, rfl⟩
    have lJ : J.length ≤ 8 := by rw [← hJ, vboth_len]; omega
    rw [hJ] at hps hub
    have hsj := u16_sum hub lJ
    have hsb := u16_sum hb lb
    have HPS := Lib.hid hps
    have HUB := Lib.hid hub
    have Hva := Lib.hid hva
    have Hvb := Lib.hid hvb
    have HJ := Lib.hid hJ
    have Hu1 := Lib.hid hu1
    have Hu2 := Lib.hid hu2
    have Hsj := Lib.hid hsj
    have Hsb := Lib.hid hsb
    have Hbp := Lib.hid (fun x hx => (hb x hx).1)
    clear hub hps hJ hva hvb hu1 hu2 h1 h2 ha hb hG hsj hsb
    go_enter Tryd.func7, Tryd.ntmps7
    go_wp2_with fail
    refine hk.mono ?_
    clear hk
    rintro e w1 ⟨rfl, hf1⟩
    have F1 := Lib.hid hf1
    clear hf1
    go_wp2_with fail
    refine (Hu1.out _ F1.out).mono ?_
    rintro e w2 ⟨v', rfl, hm⟩
    obtain ⟨xo, xc, rfl, _, _, hx, hfd⟩ := hm.see
    have X := Lib.hid hx
    have F2 := Lib.hid (F1.out.trans' hfd)
    clear hm hx hfd Hu1
    go_wp2_with fail
    refine (Hu2.out _ F2.out).mono ?_
    rintro e w3 ⟨v', rfl, hm⟩
    obtain ⟨yo, yc, rfl, _, _, hx, hfd⟩ := hm.see
    replace X := Lib.hid (X.out.fr hfd (fun _ _ _ f => f))
    have Y := Lib.hid hx
    have F3 := Lib.hid (F2.out.trans' hfd)
    clear hm hx hfd Hu2
    go_wp2_with fail
    have hc := vec_join _ _ a b w3 X.out Y.out (by omega) (by omega)
    rw [HJ.out] at hc
    refine hc.mono ?_
    clear hc
    rintro e w4 ⟨v', rfl, hm⟩
    obtain ⟨jo, jc, rfl, hjn, hjm, hx, hfd⟩ := hm.see
    replace X := Lib.hid (X.out.fr hfd (fun _ _ _ f => f))
    replace Y := Lib.hid (Y.out.fr hfd (fun _ _ _ f => f))
    have Jr := Lib.hid hx
    have F4 := Lib.hid (F3.out.trans' hfd)
    clear hm hx hfd F1 F2 F3
    go_wp2_with fail
    go_loopw [8, 9] (fun nv iv wr => ∃ (k : Nat) (D : Int), k ≤ 8 ∧ iv = .int .i64 k ∧ nv = .int .i64 D ∧ 0 ≤ D ∧ D ≤ 65535 * k ∧ Hid (rsum (dif a b) k = D) ∧ w4 = wr) (fun _ iv _ => 8 - (intOf iv).toNat)
    case atStart => exact ⟨0, 0, by omega, rfl, rfl, by omega, by omega, Lib.hid rfl, rfl⟩
    case round =>
      obtain ⟨k, D, hk8, rfl, rfl, hD0, hD1, hD, rfl⟩ := hrel
      have ga := vec_get _ a (k : Int) w4 X.out
      have gb := vec_get _ b (k : Int) w4 Y.out
      by_cases hlt : k < 8
      · obtain ⟨p, hp⟩ : ∃ p, vget a k = p := ⟨_, rfl⟩
        obtain ⟨q, hq⟩ : ∃ q, vget b k = q := ⟨_, rfl⟩
        have hpb := Hva.out k
        have hqb := Hvb.out k
        have hdf : dif a b k = if q < p then p - q else 0 := by unfold dif; rw [hp, hq]
        rw [hp] at ga hpb
        rw [hq] at gb hqb
        have Ga := Lib.hid ga
        have Gb := Lib.hid gb
        have Hdf := Lib.hid hdf
        clear ga gb hp hq hdf
        go_wp2_with fail
        refine Ga.out.mono ?_
        rintro e w' ⟨rfl, rfl⟩
        go_wp2_with fail
        refine Gb.out.mono ?_
        rintro e w' ⟨rfl, rfl⟩
        by_cases hpq : q < p
        · have H1 : Hid (rsum (dif a b) (k + 1) = D + p - q) := Lib.hid (by rw [rsum, hD.out, Hdf.out, if_pos hpq]; omega)
          clear hD Hdf
          go_wp2_with fail
          refine Ga.out.mono ?_
          rintro e w' ⟨rfl, rfl⟩
          go_wp2_with fail
          refine Gb.out.mono ?_
          rintro e w' ⟨rfl, rfl⟩
          go_wp2
          go_roundw
          case rel => exact ⟨k + 1, D + p - q, by omega, by go_num, rfl, by omega, by omega, H1, trivial⟩
          case measure => simp [intOf]; omega
        · have H1 : Hid (rsum (dif a b) (k + 1) = D) := Lib.hid (by rw [rsum, hD.out, Hdf.out, if_neg hpq]; omega)
          clear hD Hdf
          go_wp2
          go_roundw
          case rel => exact ⟨k + 1, D, by omega, by go_num, rfl, by omega, by omega, H1, trivial⟩
          case measure => simp [intOf]; omega
      · have hk8' : k = 8 := by omega
        subst hk8'
        have HD : Hid (vsum J = vsum b + D) := Lib.hid (by rw [HPS.out, hD.out])
        clear ga gb hD HPS
        go_wp2_with fail
        have hc := vec_all jo J.length jc w4
        refine hc.mono ?_
        clear hc
        rintro e w5 ⟨rfl, hw5⟩
        have hfd : Fr no w4 w5 := by rw [← hw5]; exact (Fr.refl no _).alloc _
        have BX : Hid (w5.heap[w4.heap.size]? = some (.cells #[.slice jo J.length jc] 30 (0, 0))) := Lib.hid (by rw [← hw5]; exact World.alloc_heap_new _ _)
        replace Y := Lib.hid (Y.out.fr hfd (fun _ _ _ f => f))
        replace Jr := Lib.hid (Jr.out.fr hfd (fun _ _ _ f => f))
        have F5 := Lib.hid (F4.out.trans' hfd)
        clear hfd hw5 X F4
        generalize w4.heap.size = gx at *
        obtain ⟨ls, hls⟩ : ∃ ls, vallF J 0 = ls := ⟨_, rfl⟩
        have hln := vallF_len J 0
        rw [hls] at hln
        obtain ⟨N, hN⟩ : ∃ N, ls.length = N := ⟨_, rfl⟩
        have hN8 : N ≤ 8 := by omega
        go_wp2_with fail
        have hc := law_pairs (Pre := fun W => W.cell? ⟨gx, 0, none⟩ = some (.slice jo J.length jc) ∧ IntsAt W (.slice jo J.length jc) J) (vallF J 0) 20 w5 (all_not_nil ⟨gx, 0, none⟩) (enters_of Tryd.func24 (by kernel_rfl) rfl) (all_each gx (.slice jo J.length jc) J) (fun W hf => ⟨cell_of_block (hf.heap BX.out (fun f => f)) rfl, Jr.out.fr hf (fun _ _ _ f => f)⟩) (by rw [hls]; omega) (by decide)
        rw [hls, hN] at hc
        have HLs := Lib.hid hls
        have HN := Lib.hid hN
        clear hls hN
        refine hc.mono ?_
        clear hc
        rintro e w6 ⟨ao, ac, bo, bc, rfl, hra, hrb, hfd, _⟩
        replace Y := Lib.hid (Y.out.fr hfd (fun _ _ _ f => f))
        replace Jr := Lib.hid (Jr.out.fr hfd (fun _ _ _ f => f))
        have Ra := Lib.hid hra
        have Rb := Lib.hid hrb
        have F6 := Lib.hid (F5.out.trans' hfd)
        clear hra hrb hfd F5 BX
        have Hvb2 : Hid (∀ x ∈ ls.map (·.2), 0 ≤ x ∧ x ≤ 65535) := Lib.hid (fun x hx => by
          obtain ⟨y, hy, rfl⟩ := List.mem_map.1 hx
          rw [← HLs.out] at hy
          exact HUB.out _ (vallF_mem J 0 y hy).1)
        go_wp2_with fail
        go_loopw [13, 14] (fun sv iv wr => ∃ (i : Nat) (s : Int), i ≤ N ∧ iv = .int .i64 i ∧ sv = .int .i64 s ∧ Hid (vsum ((ls.map (·.2)).take i) = s) ∧ Hid (Fr no w6 wr)) (fun _ iv _ => N - (intOf iv).toNat)
        case atStart => exact ⟨0, 0, Nat.zero_le _, rfl, rfl, Lib.hid rfl, Lib.hid (Fr.refl _ _)⟩
        case round =>
          obtain ⟨i, s, hi, rfl, rfl, hS, hF⟩ := hrel
          generalize wr = V at *
          by_cases hlt : i < N
          · obtain ⟨p, hp⟩ : ∃ p, ls[i]? = some p := ⟨ls[i]'(by rw [HN.out]; exact hlt), by simp⟩
            obtain ⟨g, off, c', he, _, _, hxa⟩ := Ra.out.form (by omega)
            cases he
            obtain ⟨g2, off2, c2', he2, _, _, hxb⟩ := Rb.out.form (by omega)
            cases he2
            have e0 : V.cell? ⟨g, off + i, none⟩ = some (.int .i64 p.1) := hF.out.cell (hxa i _ (by simp [hp, fstI])) (fun f => f)
            have e1 : V.cell? ⟨g2, off2 + i, none⟩ = some (.int .i64 p.2) := hF.out.cell (hxb i _ (by simp [hp])) (fun f => f)
            obtain ⟨_, hget, hne⟩ := vallF_get J 0 p (by rw [HLs.out]; exact List.mem_of_getElem? hp)
            rw [Nat.sub_zero] at hget
            have hgj := fun (w' : World) (hf : Fr no V w') => vec_get (.slice jo J.length jc) J (p.1 : Int) w' (Jr.out.fr (hF.out.trans' hf) (fun _ _ _ f => f))
            have hvg : vget J p.1 = p.2 := by rw [vget_nat, hget]; rfl
            rw [hvg] at hgj
            have hb2 := Hvb2.out p.2 (List.mem_map.2 ⟨p, List.mem_of_getElem? hp, rfl⟩)
            have HS2 : Hid (vsum ((ls.map (·.2)).take (i + 1)) = s + p.2) := Lib.hid (by
              rw [List.take_add_one, List.getElem?_map, hp, ← hS.out]
              simp only [Option.map_some, Option.toList_some]
              exact vsum_app _ _)
            have hsb := vsum_take_bounds Hvb2.out i
            rw [hS.out] at hsb
            obtain ⟨p1, p2⟩ := p
            dsimp only at *
            have hn1 : (p2 != p2) = false := by simp
            have hn2 : (p2 == 0) = false := by simpa using hne
            have Hgj := Lib.hid hgj
            clear hp hxa hxb hget hne hvg hS hgj
            go_upto_region 18 with (fail)
            obtain ⟨Sg233_0, HSg233_0⟩ : ∃ S : World → Prop, Hid (S = (fun w' => w'.cell? ⟨g, off + i, none⟩ = some (.int .i64 (p1 : Int)) ∧ w'.cell? ⟨g2, off2 + i, none⟩ = some (.int .i64 p2))) := ⟨_, Lib.hid rfl⟩
            refine wp_heldp [] (pickS [Sg233_0]) (by kernel_rfl) ?_ (fun hHeld => ?_)
            · show Sg233_0 _; rw [HSg233_0.out]; exact ⟨e0, e1⟩
            obtain ⟨wc, hwc⟩ : ∃ x, V.drew = x := ⟨_, rfl⟩; rw [hwc] at hHeld; rw [hwc]; have HF : Hid (Fr no V wc) := (by rw [← hwc]; exact Lib.hid ((Fr.refl no V).drewN 1)); clear hwc
            refine heldp_take (v := ?_) 0 0 rfl (by kernel_rfl) (.inl ⟨by rfl, ?_⟩) hHeld ?_
            rotate_left
            · intro w hSw; replace hSw : Sg233_0 w := hSw; rw [HSg233_0.out] at hSw; (try dsimp only at hSw); first | (go_simp; done) | (go_simp; with_reducible rfl)
            try simp only [Act.put, List.setIfInBounds_toArray, List.set_cons_zero, List.set_cons_succ]
            refine heldp_take (v := ?_) 1 0 rfl (by kernel_rfl) (.inl ⟨by rfl, ?_⟩) hHeld ?_
            rotate_left
            · intro w hSw; replace hSw : Sg233_0 w := hSw; rw [HSg233_0.out] at hSw; (try dsimp only at hSw); first | (go_simp; done) | (go_simp; with_reducible rfl)
            try simp only [Act.put, List.setIfInBounds_toArray, List.set_cons_zero, List.set_cons_succ]
            refine heldp_take (v := ?_) 2 0 rfl (by kernel_rfl) (.inl ⟨by rfl, ?_⟩) hHeld ?_
            rotate_left
            · intro w hSw; replace hSw : Sg233_0 w := hSw; rw [HSg233_0.out] at hSw; (try dsimp only at hSw); first | (go_simp; done) | (go_simp; with_reducible rfl)
            try simp only [Act.put, List.setIfInBounds_toArray, List.set_cons_zero, List.set_cons_succ]
            refine heldp_take (v := ?_) 3 0 rfl (by kernel_rfl) (.inl ⟨by rfl, ?_⟩) hHeld ?_
            rotate_left
            · intro w hSw; replace hSw : Sg233_0 w := hSw; rw [HSg233_0.out] at hSw; (try dsimp only at hSw); first | (go_simp; done) | (go_simp; with_reducible rfl)
            try simp only [Act.put, List.setIfInBounds_toArray, List.set_cons_zero, List.set_cons_succ]
            refine heldp_take (v := ?_) 4 0 rfl (by kernel_rfl) (.inl ⟨by rfl, ?_⟩) hHeld ?_
            rotate_left
            · intro w hSw; replace hSw : Sg233_0 w := hSw; rw [HSg233_0.out] at hSw; (try dsimp only at hSw); first | (go_simp; done) | (go_simp; with_reducible rfl)
            try simp only [Act.put, List.setIfInBounds_toArray, List.set_cons_zero, List.set_cons_succ]
            refine heldp_take (v := ?_) 6 0 rfl (by kernel_rfl) (.inl ⟨by rfl, ?_⟩) hHeld ?_
            rotate_left
            · intro w hSw; replace hSw : Sg233_0 w := hSw; rw [HSg233_0.out] at hSw; (try dsimp only at hSw); first | (go_simp; done) | (go_simp; with_reducible rfl)
            try simp only [Act.put, List.setIfInBounds_toArray, List.set_cons_zero, List.set_cons_succ]
            refine heldp_take (v := ?_) 7 0 rfl (by kernel_rfl) (.inl ⟨by rfl, ?_⟩) hHeld ?_
            rotate_left
            · intro w hSw; replace hSw : Sg233_0 w := hSw; rw [HSg233_0.out] at hSw; (try dsimp only at hSw); first | (go_simp; done) | (go_simp; with_reducible rfl)
            try simp only [Act.put, List.setIfInBounds_toArray, List.set_cons_zero, List.set_cons_succ]
            refine heldp_take (v := ?_) 8 0 rfl (by kernel_rfl) (.inl ⟨by rfl, ?_⟩) hHeld ?_
            rotate_left
            · intro w hSw; replace hSw : Sg233_0 w := hSw; rw [HSg233_0.out] at hSw; (try dsimp only at hSw); first | (go_simp; done) | (go_simp; with_reducible rfl)
            try simp only [Act.put, List.setIfInBounds_toArray, List.set_cons_zero, List.set_cons_succ]
            refine heldp_take (v := ?_) 9 0 rfl (by kernel_rfl) (.inl ⟨by rfl, ?_⟩) hHeld ?_
            rotate_left
            · intro w hSw; replace hSw : Sg233_0 w := hSw; rw [HSg233_0.out] at hSw; (try dsimp only at hSw); first | (go_simp; done) | (go_simp; with_reducible rfl)
            try simp only [Act.put, List.setIfInBounds_toArray, List.set_cons_zero, List.set_cons_succ]
            refine heldp_call 5 0 rfl (by kernel_rfl) (fun K hK => ?_)
            go_simp
            go_at_call 20
            refine (Hgj.out _ HF.out).mono ?_
            rintro e w' ⟨rfl, rfl⟩
            refine hK.out _ _ ?_ (fun hHeld' => ?_)
            · show Sg233_0 _; rw [HSg233_0.out]; have hq := HF.out; exact ⟨hq.cell e0 (fun f => f), hq.cell e1 (fun f => f)⟩
            clear hK K hHeld
            have hHeld := hHeld'
            clear hHeld'
            try simp only [Act.put, List.setIfInBounds_toArray, List.set_cons_zero, List.set_cons_succ]
            refine heldp_take (v := (.bool false)) 10 0 rfl (by kernel_rfl) (.inl ⟨by rfl, ?_⟩) hHeld ?_
            · intro w hSw; replace hSw : Sg233_0 w := hSw; rw [HSg233_0.out] at hSw; (try dsimp only at hSw); first | (go_simp; done) | (go_simp; with_reducible rfl)
            try simp only [Act.put, List.setIfInBounds_toArray, List.set_cons_zero, List.set_cons_succ]
            refine heldp_take (v := ?_) 11 0 rfl (by kernel_rfl) (.inl ⟨by rfl, ?_⟩) hHeld ?_
            rotate_left
            · intro w hSw; replace hSw : Sg233_0 w := hSw; rw [HSg233_0.out] at hSw; (try dsimp only at hSw); first | (go_simp; done) | (go_simp; with_reducible rfl)
            try simp only [Act.put, List.setIfInBounds_toArray, List.set_cons_zero, List.set_cons_succ]
            refine heldp_take (v := ?_) 12 0 rfl (by kernel_rfl) (.inl ⟨by rfl, ?_⟩) hHeld ?_
            rotate_left
            · intro w hSw; replace hSw : Sg233_0 w := hSw; rw [HSg233_0.out] at hSw; (try dsimp only at hSw); first | (go_simp; done) | (go_simp; with_reducible rfl)
            try simp only [Act.put, List.setIfInBounds_toArray, List.set_cons_zero, List.set_cons_succ]
            refine heldp_take (v := ?_) 13 0 rfl (by kernel_rfl) (.inl ⟨by rfl, ?_⟩) hHeld ?_
            rotate_left
            · intro w hSw; replace hSw : Sg233_0 w := hSw; rw [HSg233_0.out] at hSw; (try dsimp only at hSw); first | (go_simp; done) | (go_simp; with_reducible rfl)
            try simp only [Act.put, List.setIfInBounds_toArray, List.set_cons_zero, List.set_cons_succ]
            refine heldp_take (v := ?_) 14 0 rfl (by kernel_rfl) (.inl ⟨by rfl, ?_⟩) hHeld ?_
            rotate_left
            · intro w hSw; replace hSw : Sg233_0 w := hSw; rw [HSg233_0.out] at hSw; (try dsimp only at hSw); first | (go_simp; done) | (go_simp; with_reducible rfl)
            try simp only [Act.put, List.setIfInBounds_toArray, List.set_cons_zero, List.set_cons_succ]
            refine heldp_take (v := ?_) 15 0 rfl (by kernel_rfl) (.inl ⟨by rfl, ?_⟩) hHeld ?_
            rotate_left
            · intro w hSw; replace hSw : Sg233_0 w := hSw; rw [HSg233_0.out] at hSw; (try dsimp only at hSw); first | (go_simp; done) | (go_simp; with_reducible rfl)
            try simp only [Act.put, List.setIfInBounds_toArray, List.set_cons_zero, List.set_cons_succ]
            refine heldp_take (v := ?_) 16 0 rfl (by kernel_rfl) (.inl ⟨by rfl, ?_⟩) hHeld ?_
            rotate_left
            · intro w hSw; replace hSw : Sg233_0 w := hSw; rw [HSg233_0.out] at hSw; (try dsimp only at hSw); first | (go_simp; done) | (go_simp; with_reducible rfl)
            try simp only [Act.put, List.setIfInBounds_toArray, List.set_cons_zero, List.set_cons_succ]
            refine heldp_take (v := ?_) 17 0 rfl (by kernel_rfl) (.inl ⟨by rfl, ?_⟩) hHeld ?_
            rotate_left
            · intro w hSw; replace hSw : Sg233_0 w := hSw; rw [HSg233_0.out] at hSw; (try dsimp only at hSw); first | (go_simp; done) | (go_simp; with_reducible rfl)
            try simp only [Act.put, List.setIfInBounds_toArray, List.set_cons_zero, List.set_cons_succ]
            refine heldp_done (by kernel_rfl) ?_
            try clear hHeld
            clear HSg233_0
            try clear Sg233_0
            have e2 := HF.out.cell e1 (fun f => f)
            have HF2 := Lib.hid (hF.out.trans' HF.out)
            clear e0 e1 Hgj
            go_wp2
            go_roundw
            case rel => exact ⟨i + 1, s + p2, by omega, by go_num, rfl, HS2, HF2⟩
            case measure => simp [intOf]; omega
          · have hiN : i = N := by omega
            have hsJ : s = vsum J := by
              rw [← hS.out, List.take_of_length_le (by rw [List.length_map, HN.out]; omega), ← HLs.out]
              exact vsum_all J 0
            have hst : (s == vsum J) = true := by rw [hsJ]; simp
            obtain ⟨sj, hsj⟩ : ∃ x, vsum J = x := ⟨_, rfl⟩
            obtain ⟨sb, hsb⟩ : ∃ x, vsum b = x := ⟨_, rfl⟩
            have hsjb := Hsj.out
            have hsbb := Hsb.out
            have c1 := fun (w' : World) (hf : Fr no w6 w') => vec_sum _ J w' (Jr.out.fr hf (fun _ _ _ f => f)) (fun x hx => (HUB.out x hx).1) (by omega)
            have c2 := fun (w' : World) (hf : Fr no w6 w') => vec_sum _ b w' (Y.out.fr hf (fun _ _ _ f => f)) Hbp.out (by omega)
            rw [hsj] at c1 hst hsjb
            rw [hsb] at c2 hsbb
            have hq2 : (sj == sb + D) = true := by have := HD.out; rw [hsj, hsb] at this; rw [this]; simp
            have C1 := Lib.hid c1
            have C2 := Lib.hid c2
            clear c1 c2 hsj hsb hS hiN hsJ
            go_wp2_with fail
            refine (C1.out _ hF.out).mono ?_
            rintro e w7 ⟨rfl, hf7⟩
            have F7 := Lib.hid (hF.out.trans' hf7)
            clear hf7 hF
            go_wp2_with fail
            refine (C1.out _ F7.out).mono ?_
            rintro e w8 ⟨rfl, hf8⟩
            have F8 := Lib.hid (F7.out.trans' hf8)
            clear hf8 F7
            go_wp2_with fail
            refine (C2.out _ F8.out).mono ?_
            rintro e w9 ⟨rfl, hf9⟩
            have F9 := Lib.hid (F8.out.trans' hf9)
            clear hf9 F8
            go_wp2
            go_ret
            exact ⟨rfl, F6.out.trans' F9.out⟩
  · have hcase : 8 < a.length ∨ (a.length ≤ 8 ∧ 8 < b.length) := by omega
    clear h1 h2 ha hb hG hs
    generalize a.length = na at *
    generalize b.length = nb at *
    rcases hcase with h | ⟨h, h'⟩
    all_goals
      go_enter Tryd.func7, Tryd.ntmps7
      go_wp2_with fail
      refine hk.mono ?_
      rintro e w1 ⟨rfl, hf1⟩
      have F1 := Lib.hid hf1
      clear hf1
      go_wp2
      go_ret
      exact ⟨rfl, F1.out⟩
set_option maxRecDepth 100000 in
theorem vecParts_row {H : Type} {enc : TypeId × Value → H} (v0 v1 : Value) {d0 d1 : DataW H} {p0 p1 : List MemPlace} {base : Nat} (w : World) (hG : Gl w)
    (ok0 : Value.okWide Tryd.prog w .any base 29 v0) (h0 : DataW.Trod enc Tryd.prog w 0 (fun _ => true) true 29 v0 d0 p0)
    (ok1 : Value.okWide Tryd.prog w .any base 29 v1) (h1 : DataW.Trod enc Tryd.prog w 0 (fun _ => true) true 29 v1 d1 p1) :
    Calls Tryd.prog 7 #[v0, v1] w fun e w' => e = .returned (.bool true) ∧ Below w.heap.size w w' := by
  obtain ⟨a, ra, wa⟩ := ints_open (k := .u16) Tryd.underlying29 Tryd.underlying52 (by kernel_rfl) ok0 h0
  obtain ⟨b, rb, wb⟩ := ints_open (k := .u16) Tryd.underlying29 Tryd.underlying52 (by kernel_rfl) ok1 h1
  refine (vecParts_any v0 v1 a b w hG ra rb (fun x hx => bounds_u16 (wa x hx)) (fun x hx => bounds_u16 (wb x hx))).mono ?_
  rintro e w' ⟨he, hf⟩
  exact ⟨he, hf.below⟩
end Go.Proofs.YtdepenibifbcpaaDoor
