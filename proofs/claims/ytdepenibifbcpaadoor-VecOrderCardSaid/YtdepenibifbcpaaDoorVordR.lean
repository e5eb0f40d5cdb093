/- The walk of the law VecOrder. -/
import Derived.Test.YtdepenibifbcpaaDoorVup
namespace Go.XL
open Go.RowKit Go.Shelf
set_option linter.unusedVariables false
theorem three {q1 q2 q3 : Bool} (h : q1 = true → q2 = true → q3 = true) : (q1 = false) ∨ (q1 = true ∧ q2 = false) ∨ (q1 = true ∧ q2 = true ∧ q3 = true) := by
  cases q1 <;> cases q2 <;> simp_all
/-- what VecOrder says of lists -/
theorem order_facts {a b c : List Int} (ha : U16s a) (hb : U16s b) (hc : U16s c) (la : a.length ≤ 8) (lb : b.length ≤ 8) :
    vcov (vboth max a b) a = true ∧ vcov (vboth max a b) b = true ∧ vcov a (vboth min a b) = true ∧ vcov b (vboth min a b) = true ∧ vsum (vboth max a b) + vsum (vboth min a b) = vsum a + vsum b ∧
      (vcov c a = true → vcov c b = true → vcov c (vboth max a b) = true) ∧ (vcov a c = true → vcov b c = true → vcov (vboth min a b) c = true) ∧
      (vcov (vboth max a (vboth max b c)) (vboth max (vboth max a b) c) && vcov (vboth max (vboth max a b) c) (vboth max a (vboth max b c))) = true := by
  have M := fun a b => vget_both max rfl a b
  have N := fun a b => vget_both min rfl a b
  refine ⟨?_, ?_, ?_, ?_, ?_, ?_, ?_, ?_⟩
  · rw [vcov_all]; intro j; rw [M]; omega
  · rw [vcov_all]; intro j; rw [M]; omega
  · rw [vcov_all]; intro j; rw [N]; omega
  · rw [vcov_all]; intro j; rw [N]; omega
  · rw [vsum_rsum _ 8 (by rw [vboth_len]; omega), vsum_rsum _ 8 (by rw [vboth_len]; omega), vsum_rsum a 8 la, vsum_rsum b 8 lb, ← rsum_add, ← rsum_add]
    exact rsum_congr fun i _ => by rw [M, N]; omega
  · rw [vcov_all, vcov_all, vcov_all]; intro h1 h2 j; rw [M]; have := h1 j; have := h2 j; omega
  · rw [vcov_all, vcov_all, vcov_all]; intro h1 h2 j; rw [N]; have := h1 j; have := h2 j; omega
  · rw [Bool.and_eq_true, vcov_all, vcov_all]
    exact ⟨fun j => by rw [M, M, M, M]; omega, fun j => by rw [M, M, M, M]; omega⟩
end Go.XL
namespace Go.Proofs.YtdepenibifbcpaaDoor
open Go.RowKit Go.Shelf Go.XL Go.ChangeShapes Go.WideShapes Go.ChangeAt
set_option linter.unusedVariables false
set_option linter.unusedSimpArgs false
attribute [local go_sem] Oper.semAt_some
set_option maxRecDepth 100000 in
set_option maxHeartbeats 8000000 in
theorem vecOrder_any (v1 v2 v3 : Value) (a b c : List Int) (w : World) (hG : Gl w) (h1 : Rd w 1 v1 a.length (a.map (Value.int .u16))) (h2 : Rd w 1 v2 b.length (b.map (Value.int .u16))) (h3 : Rd w 1 v3 c.length (c.map (Value.int .u16))) (ha : U16s a) (hb : U16s b) (hc : U16s c) :
    Calls Tryd.prog 4 #[v1, v2, v3] w fun e w' => e = .returned (.bool true) ∧ Fr no w w' := by
  have hk := vknown w hG
  obtain ⟨o1, c1, rfl, k1, m1⟩ := h1.cap
  obtain ⟨o2, c2, rfl, k2, m2⟩ := h2.cap
  obtain ⟨o3, c3, rfl, k3, m3⟩ := h3.cap
  by_cases hs : a.length ≤ 8 ∧ b.length ≤ 8 ∧ c.length ≤ 8
  · obtain ⟨la, lb, lc⟩ := hs
    have hu1 := fun (w' : World) (hf : Fr no w w') => law_up _ a w' (h1.fr hf (fun _ _ _ f => f)) ha (by omega)
    have hu2 := fun (w' : World) (hf : Fr no w w') => law_up _ b w' (h2.fr hf (fun _ _ _ f => f)) hb (by omega)
    have hu3 := fun (w' : World) (hf : Fr no w w') => law_up _ c w' (h3.fr hf (fun _ _ _ f => f)) hc (by omega)
    obtain ⟨f1, f2, f3, f4, f5, f6, f7, f8⟩ := order_facts ha hb hc la lb
    have hub := u16_both ha hb
    have hsa := u16_sum ha la
    have hsb := u16_sum hb lb
    have hsj := u16_sum hub.1 (by rw [vboth_len]; omega)
    have hsm := u16_sum hub.2 (by rw [vboth_len]; omega)
    have pa : ∀ x ∈ a, 0 ≤ x := fun x hx => (ha x hx).1
    have pb : ∀ x ∈ b, 0 ≤ x := fun x hx => (hb x hx).1
    have pj : ∀ x ∈ vboth max a b, 0 ≤ x := fun x hx => (hub.1 x hx).1
    have pm : ∀ x ∈ vboth min a b, 0 ≤ x := fun x hx => (hub.2 x hx).1
    obtain ⟨J, hJ⟩ : ∃ J, vboth max a b = J := ⟨_, rfl⟩
    obtain ⟨M, hM⟩ : ∃ M, vboth min a b = M := ⟨_, rfl⟩
    have lJ : J.length ≤ 8 := by rw [← hJ, vboth_len]; omega
    have lM : M.length ≤ 8 := by rw [← hM, vboth_len]; omega
    rw [hJ] at f1 f2 f5 f6 f8 pj hsj
    rw [hM] at f3 f4 f5 f7 pm hsm
    obtain ⟨sa, hsa'⟩ : ∃ s, vsum a = s := ⟨_, rfl⟩
    obtain ⟨sb, hsb'⟩ : ∃ s, vsum b = s := ⟨_, rfl⟩
    obtain ⟨sj, hsj'⟩ : ∃ s, vsum J = s := ⟨_, rfl⟩
    obtain ⟨sm, hsm'⟩ : ∃ s, vsum M = s := ⟨_, rfl⟩
    rw [hsa'] at hsa f5
    rw [hsb'] at hsb f5
    rw [hsj'] at hsj f5
    rw [hsm'] at hsm f5
    have H := Lib.hid (And.intro f1 (And.intro f2 (And.intro f3 (And.intro f4 (And.intro f6 (And.intro f7 f8))))))
    have HP := Lib.hid (And.intro pa (And.intro pb (And.intro pj pm)))
    have HS := Lib.hid (And.intro hsa' (And.intro hsb' (And.intro hsj' hsm')))
    have HJ := Lib.hid hJ
    have HM := Lib.hid hM
    have Hu1 := Lib.hid hu1
    have Hu2 := Lib.hid hu2
    have Hu3 := Lib.hid hu3
    have hne : ((sj + sm : Int) != sa + sb) = false := by rw [f5]; simp
    have HL := Lib.hid (And.intro la (And.intro lb (And.intro lc (And.intro lJ lM))))
    clear hub pa pb pj pm hJ hM hsa' hsb' hsj' hsm' f1 f2 f3 f4 f5 f6 f7 f8 hu1 hu2 hu3 h1 h2 h3 ha hb hc hG lJ lM
    go_enter Tryd.func4, Tryd.ntmps4
    go_wp2_with fail
    refine hk.mono ?_
    clear hk
    rintro e w1 ⟨rfl, hf1⟩
    have F1 := Lib.hid hf1
    clear hf1
    go_wp2_with fail
    refine (Hu1.out _ F1.out).mono ?_
    rintro e w2 ⟨v', rfl, hm⟩
    obtain ⟨xo, xc, rfl, _, _, hx, hfd⟩ := hm.see
    have X := Lib.hid hx
    have F2 := Lib.hid (F1.out.trans' hfd)
    clear hm hx hfd Hu1
    go_wp2_with fail
    refine (Hu2.out _ F2.out).mono ?_
    rintro e w3 ⟨v', rfl, hm⟩
    obtain ⟨yo, yc, rfl, _, _, hx, hfd⟩ := hm.see
    replace X := Lib.hid (X.out.fr hfd (fun _ _ _ f => f))
    have Y := Lib.hid hx
    have F3 := Lib.hid (F2.out.trans' hfd)
    clear hm hx hfd Hu2
    go_wp2_with fail
    refine (Hu3.out _ F3.out).mono ?_
    rintro e w4 ⟨v', rfl, hm⟩
    obtain ⟨zo, zc, rfl, _, _, hx, hfd⟩ := hm.see
    replace X := Lib.hid (X.out.fr hfd (fun _ _ _ f => f))
    replace Y := Lib.hid (Y.out.fr hfd (fun _ _ _ f => f))
    have Z := Lib.hid hx
    have F4 := Lib.hid (F3.out.trans' hfd)
    clear hm hx hfd Hu3 F1 F2 F3
    go_wp2_with fail
    have hc := vec_join _ _ a b w4 X.out Y.out (by have := HL.out; omega) (by have := HL.out; omega)
    rw [HJ.out] at hc
    refine hc.mono ?_
    clear hc
    rintro e w5 ⟨v', rfl, hm⟩
    obtain ⟨jo, jc, rfl, _, _, hx, hfd⟩ := hm.see
    replace X := Lib.hid (X.out.fr hfd (fun _ _ _ f => f))
    replace Y := Lib.hid (Y.out.fr hfd (fun _ _ _ f => f))
    replace Z := Lib.hid (Z.out.fr hfd (fun _ _ _ f => f))
    have Jr := Lib.hid hx
    have F5 := Lib.hid (F4.out.trans' hfd)
    clear hm hx hfd F4
    go_wp2_with fail
    have hc := vec_meet _ _ a b w5 X.out Y.out (by have := HL.out; omega) (by have := HL.out; omega)
    rw [HM.out] at hc
    refine hc.mono ?_
    clear hc
    rintro e w6 ⟨v', rfl, hm⟩
    obtain ⟨mo, mc, rfl, _, _, hx, hfd⟩ := hm.see
    replace X := Lib.hid (X.out.fr hfd (fun _ _ _ f => f))
    replace Y := Lib.hid (Y.out.fr hfd (fun _ _ _ f => f))
    replace Z := Lib.hid (Z.out.fr hfd (fun _ _ _ f => f))
    replace Jr := Lib.hid (Jr.out.fr hfd (fun _ _ _ f => f))
    have Mr := Lib.hid hx
    have F6 := Lib.hid (F5.out.trans' hfd)
    clear hm hx hfd F5

    go_wp2_with fail
    have hc := vec_covers _ _ J a _ Jr.out X.out
    rw [H.out.1] at hc
    refine hc.mono ?_
    clear hc
    rintro e w' ⟨rfl, rfl⟩
    go_wp2_with fail
    have hc := vec_covers _ _ J b _ Jr.out Y.out
    rw [H.out.2.1] at hc
    refine hc.mono ?_
    clear hc
    rintro e w' ⟨rfl, rfl⟩
    go_wp2_with fail
    have hc := vec_covers _ _ a M _ X.out Mr.out
    rw [H.out.2.2.1] at hc
    refine hc.mono ?_
    clear hc
    rintro e w' ⟨rfl, rfl⟩
    go_wp2_with fail
    have hc := vec_covers _ _ b M _ Y.out Mr.out
    rw [H.out.2.2.2.1] at hc
    refine hc.mono ?_
    clear hc
    rintro e w' ⟨rfl, rfl⟩
    go_wp2_with fail
    have hc := vec_sum _ J _ Jr.out HP.out.2.2.1 (by have := HS.out; omega)
    rw [HS.out.2.2.1] at hc
    refine hc.mono ?_
    clear hc
    rintro e w7 ⟨rfl, hfd⟩
    replace X := Lib.hid (X.out.fr hfd (fun _ _ _ f => f))
    replace Y := Lib.hid (Y.out.fr hfd (fun _ _ _ f => f))
    replace Z := Lib.hid (Z.out.fr hfd (fun _ _ _ f => f))
    replace Jr := Lib.hid (Jr.out.fr hfd (fun _ _ _ f => f))
    replace Mr := Lib.hid (Mr.out.fr hfd (fun _ _ _ f => f))
    have F7 := Lib.hid (F6.out.trans' hfd)
    clear hfd F6
    go_wp2_with fail
    have hc := vec_sum _ M _ Mr.out HP.out.2.2.2 (by have := HS.out; omega)
    rw [HS.out.2.2.2] at hc
    refine hc.mono ?_
    clear hc
    rintro e w8 ⟨rfl, hfd⟩
    replace X := Lib.hid (X.out.fr hfd (fun _ _ _ f => f))
    replace Y := Lib.hid (Y.out.fr hfd (fun _ _ _ f => f))
    replace Z := Lib.hid (Z.out.fr hfd (fun _ _ _ f => f))
    replace Jr := Lib.hid (Jr.out.fr hfd (fun _ _ _ f => f))
    replace Mr := Lib.hid (Mr.out.fr hfd (fun _ _ _ f => f))
    have F8 := Lib.hid (F7.out.trans' hfd)
    clear hfd F7
    go_wp2_with fail
    have hc := vec_sum _ a _ X.out HP.out.1 (by have := HS.out; omega)
    rw [HS.out.1] at hc
    refine hc.mono ?_
    clear hc
    rintro e w9 ⟨rfl, hfd⟩
    replace X := Lib.hid (X.out.fr hfd (fun _ _ _ f => f))
    replace Y := Lib.hid (Y.out.fr hfd (fun _ _ _ f => f))
    replace Z := Lib.hid (Z.out.fr hfd (fun _ _ _ f => f))
    replace Jr := Lib.hid (Jr.out.fr hfd (fun _ _ _ f => f))
    replace Mr := Lib.hid (Mr.out.fr hfd (fun _ _ _ f => f))
    have F9 := Lib.hid (F8.out.trans' hfd)
    clear hfd F8
    go_wp2_with fail
    have hc := vec_sum _ b _ Y.out HP.out.2.1 (by have := HS.out; omega)
    rw [HS.out.2.1] at hc
    refine hc.mono ?_
    clear hc
    rintro e w10 ⟨rfl, hfd⟩
    replace X := Lib.hid (X.out.fr hfd (fun _ _ _ f => f))
    replace Y := Lib.hid (Y.out.fr hfd (fun _ _ _ f => f))
    replace Z := Lib.hid (Z.out.fr hfd (fun _ _ _ f => f))
    replace Jr := Lib.hid (Jr.out.fr hfd (fun _ _ _ f => f))
    replace Mr := Lib.hid (Mr.out.fr hfd (fun _ _ _ f => f))
    have F10 := Lib.hid (F9.out.trans' hfd)
    clear hfd F9
    go_upto_region 10 with (fail)
    go_cut [103] (fun v wx => v = .bool false ∧ w10 = wx)
    case first =>
      obtain ⟨q1, hq1⟩ : ∃ q, vcov c a = q := ⟨_, rfl⟩
      obtain ⟨q2, hq2⟩ : ∃ q, vcov c b = q := ⟨_, rfl⟩
      obtain ⟨q3, hq3⟩ : ∃ q, vcov c J = q := ⟨_, rfl⟩
      obtain ⟨r1, hr1⟩ : ∃ q, vcov a c = q := ⟨_, rfl⟩
      obtain ⟨r2, hr2⟩ : ∃ q, vcov b c = q := ⟨_, rfl⟩
      obtain ⟨r3, hr3⟩ : ∃ q, vcov M c = q := ⟨_, rfl⟩
      have hq := H.out.2.2.2.2.1
      have hr := H.out.2.2.2.2.2.1
      rw [hq1, hq2, hq3] at hq
      rw [hr1, hr2, hr3] at hr
      have c1 := vec_covers _ _ c a _ Z.out X.out
      have c2 := vec_covers _ _ c b _ Z.out Y.out
      have c3 := vec_covers _ _ c J _ Z.out Jr.out
      have d1 := vec_covers _ _ a c _ X.out Z.out
      have d2 := vec_covers _ _ b c _ Y.out Z.out
      have d3 := vec_covers _ _ M c _ Mr.out Z.out
      rw [hq1] at c1
      rw [hq2] at c2
      rw [hq3] at c3
      rw [hr1] at d1
      rw [hr2] at d2
      rw [hr3] at d3
      have C1 := Lib.hid c1
      have C2 := Lib.hid c2
      have C3 := Lib.hid c3
      have D1 := Lib.hid d1
      have D2 := Lib.hid d2
      have D3 := Lib.hid d3
      clear hq1 hq2 hq3 hr1 hr2 hr3 c1 c2 c3 d1 d2 d3
      have hq' := three hq
      have hr' := three hr
      clear hq hr
      rcases hq' with rfl | ⟨rfl, rfl⟩ | ⟨rfl, rfl, rfl⟩
      · skip
        go_wp2_with fail
        refine C1.out.mono ?_
        rintro e w' ⟨rfl, rfl⟩
        rcases hr' with rfl | ⟨rfl, rfl⟩ | ⟨rfl, rfl, rfl⟩
        · skip
          go_wp2_with fail
          refine D1.out.mono ?_
          rintro e w' ⟨rfl, rfl⟩
          go_wp2
          go_meet
          exact ⟨rfl, rfl⟩
        · skip
          go_wp2_with fail
          refine D1.out.mono ?_
          rintro e w' ⟨rfl, rfl⟩
          go_wp2_with fail
          refine D2.out.mono ?_
          rintro e w' ⟨rfl, rfl⟩
          go_wp2
          go_meet
          exact ⟨rfl, rfl⟩
        · skip
          go_wp2_with fail
          refine D1.out.mono ?_
          rintro e w' ⟨rfl, rfl⟩
          go_wp2_with fail
          refine D2.out.mono ?_
          rintro e w' ⟨rfl, rfl⟩
          go_wp2_with fail
          refine D3.out.mono ?_
          rintro e w' ⟨rfl, rfl⟩
          go_wp2
          go_meet
          exact ⟨rfl, rfl⟩
      · skip
        go_wp2_with fail
        refine C1.out.mono ?_
        rintro e w' ⟨rfl, rfl⟩
        go_wp2_with fail
        refine C2.out.mono ?_
        rintro e w' ⟨rfl, rfl⟩
        rcases hr' with rfl | ⟨rfl, rfl⟩ | ⟨rfl, rfl, rfl⟩
        · skip
          go_wp2_with fail
          refine D1.out.mono ?_
          rintro e w' ⟨rfl, rfl⟩
          go_wp2
          go_meet
          exact ⟨rfl, rfl⟩
        · skip
          go_wp2_with fail
          refine D1.out.mono ?_
          rintro e w' ⟨rfl, rfl⟩
          go_wp2_with fail
          refine D2.out.mono ?_
          rintro e w' ⟨rfl, rfl⟩
          go_wp2
          go_meet
          exact ⟨rfl, rfl⟩
        · skip
          go_wp2_with fail
          refine D1.out.mono ?_
          rintro e w' ⟨rfl, rfl⟩
          go_wp2_with fail
          refine D2.out.mono ?_
          rintro e w' ⟨rfl, rfl⟩
          go_wp2_with fail
          refine D3.out.mono ?_
          rintro e w' ⟨rfl, rfl⟩
          go_wp2
          go_meet
          exact ⟨rfl, rfl⟩
      · skip
        go_wp2_with fail
        refine C1.out.mono ?_
        rintro e w' ⟨rfl, rfl⟩
        go_wp2_with fail
        refine C2.out.mono ?_
        rintro e w' ⟨rfl, rfl⟩
        go_wp2_with fail
        refine C3.out.mono ?_
        rintro e w' ⟨rfl, rfl⟩
        rcases hr' with rfl | ⟨rfl, rfl⟩ | ⟨rfl, rfl, rfl⟩
        · skip
          go_wp2_with fail
          refine D1.out.mono ?_
          rintro e w' ⟨rfl, rfl⟩
          go_wp2
          go_meet
          exact ⟨rfl, rfl⟩
        · skip
          go_wp2_with fail
          refine D1.out.mono ?_
          rintro e w' ⟨rfl, rfl⟩
          go_wp2_with fail
          refine D2.out.mono ?_
          rintro e w' ⟨rfl, rfl⟩
          go_wp2
          go_meet
          exact ⟨rfl, rfl⟩
        · skip
          go_wp2_with fail
          refine D1.out.mono ?_
          rintro e w' ⟨rfl, rfl⟩
          go_wp2_with fail
          refine D2.out.mono ?_
          rintro e w' ⟨rfl, rfl⟩
          go_wp2_with fail
          refine D3.out.mono ?_
          rintro e w' ⟨rfl, rfl⟩
          go_wp2
          go_meet
          exact ⟨rfl, rfl⟩
    case rest =>
      obtain ⟨rfl, rfl⟩ := hcut
      go_wp2_with fail
      have hc := vec_join _ _ b c _ Y.out Z.out (by have := HL.out; first | omega | (simp only [vboth_len]; omega)) (by have := HL.out; first | omega | (simp only [vboth_len]; omega))
      refine hc.mono ?_
      clear hc
      rintro e w11 ⟨v', rfl, hm⟩
      obtain ⟨o1, c1, rfl, _, _, hx, hfd⟩ := hm.see
      replace X := Lib.hid (X.out.fr hfd (fun _ _ _ f => f))
      replace Y := Lib.hid (Y.out.fr hfd (fun _ _ _ f => f))
      replace Z := Lib.hid (Z.out.fr hfd (fun _ _ _ f => f))
      have R1 := Lib.hid hx
      have F11 := Lib.hid (F10.out.trans' hfd)
      clear hm hx hfd F10
      go_wp2_with fail
      have hc := vec_join _ _ a (vboth max b c) _ X.out R1.out (by have := HL.out; first | omega | (simp only [vboth_len]; omega)) (by have := HL.out; first | omega | (simp only [vboth_len]; omega))
      refine hc.mono ?_
      clear hc
      rintro e w12 ⟨v', rfl, hm⟩
      obtain ⟨o2, c2, rfl, _, _, hx, hfd⟩ := hm.see
      replace X := Lib.hid (X.out.fr hfd (fun _ _ _ f => f))
      replace Y := Lib.hid (Y.out.fr hfd (fun _ _ _ f => f))
      replace Z := Lib.hid (Z.out.fr hfd (fun _ _ _ f => f))
      replace R1 := Lib.hid (R1.out.fr hfd (fun _ _ _ f => f))
      have R2 := Lib.hid hx
      have F12 := Lib.hid (F11.out.trans' hfd)
      clear hm hx hfd F11
      go_wp2_with fail
      have hc := vec_join _ _ a b _ X.out Y.out (by have := HL.out; first | omega | (simp only [vboth_len]; omega)) (by have := HL.out; first | omega | (simp only [vboth_len]; omega))
      refine hc.mono ?_
      clear hc
      rintro e w13 ⟨v', rfl, hm⟩
      obtain ⟨o3, c3, rfl, _, _, hx, hfd⟩ := hm.see
      replace X := Lib.hid (X.out.fr hfd (fun _ _ _ f => f))
      replace Y := Lib.hid (Y.out.fr hfd (fun _ _ _ f => f))
      replace Z := Lib.hid (Z.out.fr hfd (fun _ _ _ f => f))
      replace R1 := Lib.hid (R1.out.fr hfd (fun _ _ _ f => f))
      replace R2 := Lib.hid (R2.out.fr hfd (fun _ _ _ f => f))
      have R3 := Lib.hid hx
      have F13 := Lib.hid (F12.out.trans' hfd)
      clear hm hx hfd F12
      go_wp2_with fail
      have hc := vec_join _ _ (vboth max a b) c _ R3.out Z.out (by have := HL.out; first | omega | (simp only [vboth_len]; omega)) (by have := HL.out; first | omega | (simp only [vboth_len]; omega))
      refine hc.mono ?_
      clear hc
      rintro e w14 ⟨v', rfl, hm⟩
      obtain ⟨o4, c4, rfl, _, _, hx, hfd⟩ := hm.see
      replace X := Lib.hid (X.out.fr hfd (fun _ _ _ f => f))
      replace Y := Lib.hid (Y.out.fr hfd (fun _ _ _ f => f))
      replace Z := Lib.hid (Z.out.fr hfd (fun _ _ _ f => f))
      replace R1 := Lib.hid (R1.out.fr hfd (fun _ _ _ f => f))
      replace R2 := Lib.hid (R2.out.fr hfd (fun _ _ _ f => f))
      replace R3 := Lib.hid (R3.out.fr hfd (fun _ _ _ f => f))
      have R4 := Lib.hid hx
      have F14 := Lib.hid (F13.out.trans' hfd)
      clear hm hx hfd F13
      go_wp2_with fail
      have hc := vec_same _ _ (vboth max a (vboth max b c)) (vboth max (vboth max a b) c) _ R2.out R4.out
      rw [show (vcov (vboth max a (vboth max b c)) (vboth max (vboth max a b) c) && vcov (vboth max (vboth max a b) c) (vboth max a (vboth max b c))) = true by have := H.out.2.2.2.2.2.2; rw [← HJ.out] at this; exact this] at hc
      refine hc.mono ?_
      clear hc
      rintro e w' ⟨rfl, rfl⟩
      obtain ⟨q1, hq1⟩ : ∃ q, vcov a b = q := ⟨_, rfl⟩
      obtain ⟨q2, hq2⟩ : ∃ q, vcov b a = q := ⟨_, rfl⟩
      have c1 := vec_same _ _ a b _ X.out Y.out
      have c2 := vec_covers _ _ a b _ X.out Y.out
      have c3 := vec_covers _ _ b a _ Y.out X.out
      rw [hq1, hq2] at c1
      rw [hq1] at c2
      rw [hq2] at c3
      have C1 := Lib.hid c1
      have C2 := Lib.hid c2
      have C3 := Lib.hid c3
      clear hq1 hq2 c1 c2 c3
      go_wp2_with fail
      refine C1.out.mono ?_
      rintro e w' ⟨rfl, rfl⟩
      go_wp2_with fail
      refine C2.out.mono ?_
      rintro e w' ⟨rfl, rfl⟩
      cases q1
      · go_wp2
        go_ret
        exact ⟨rfl, F14.out⟩
      · go_wp2_with fail
        refine C3.out.mono ?_
        rintro e w' ⟨rfl, rfl⟩
        cases q2
        all_goals
          go_wp2
          go_ret
          exact ⟨rfl, F14.out⟩
  · have hcase : 8 < a.length ∨ (a.length ≤ 8 ∧ 8 < b.length) ∨ (a.length ≤ 8 ∧ b.length ≤ 8 ∧ 8 < c.length) := by omega
    clear h1 h2 h3 ha hb hc hG hs
    generalize a.length = na at *
    generalize b.length = nb at *
    generalize c.length = nc at *
    rcases hcase with h | ⟨h, h'⟩ | ⟨h, h', h''⟩
    all_goals
      go_enter Tryd.func4, Tryd.ntmps4
      go_wp2_with fail
      refine hk.mono ?_
      rintro e w1 ⟨rfl, hf1⟩
      have F1 := Lib.hid hf1
      clear hf1
      go_wp2
      go_ret
      exact ⟨rfl, F1.out⟩
set_option maxRecDepth 100000 in
theorem vecOrder_row {H : Type} {enc : TypeId × Value → H} (v0 v1 v2 : Value) {d0 d1 d2 : DataW H} {p0 p1 p2 : List MemPlace} {base : Nat} (w : World) (hG : Gl w)
    (ok0 : Value.okWide Tryd.prog w .any base 29 v0) (h0 : DataW.Trod enc Tryd.prog w 0 (fun _ => true) true 29 v0 d0 p0)
    (ok1 : Value.okWide Tryd.prog w .any base 29 v1) (h1 : DataW.Trod enc Tryd.prog w 0 (fun _ => true) true 29 v1 d1 p1)
    (ok2 : Value.okWide Tryd.prog w .any base 29 v2) (h2 : DataW.Trod enc Tryd.prog w 0 (fun _ => true) true 29 v2 d2 p2) :
    Calls Tryd.prog 4 #[v0, v1, v2] w fun e w' => e = .returned (.bool true) ∧ Below w.heap.size w w' := by
  obtain ⟨a, ra, wa⟩ := ints_open (k := .u16) Tryd.underlying29 Tryd.underlying52 (by kernel_rfl) ok0 h0
  obtain ⟨b, rb, wb⟩ := ints_open (k := .u16) Tryd.underlying29 Tryd.underlying52 (by kernel_rfl) ok1 h1
  obtain ⟨c, rc, wc⟩ := ints_open (k := .u16) Tryd.underlying29 Tryd.underlying52 (by kernel_rfl) ok2 h2
  refine (vecOrder_any v0 v1 v2 a b c w hG ra rb rc (fun x hx => bounds_u16 (wa x hx)) (fun x hx => bounds_u16 (wb x hx)) (fun x hx => bounds_u16 (wc x hx))).mono ?_
  rintro e w' ⟨he, hf⟩
  exact ⟨he, hf.below⟩
end Go.Proofs.YtdepenibifbcpaaDoor
