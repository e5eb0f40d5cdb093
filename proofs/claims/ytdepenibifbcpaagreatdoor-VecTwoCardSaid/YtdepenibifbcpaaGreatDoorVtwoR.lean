/- The walk of the law VecTwo. -/
import Derived.Test.YtdepenibifbcpaaGreatDoorVup
import Derived.Test.YtdepenibifbcpaaGreatDoorRefV
import Derived.Test.YtdepenibifbcpaaGreatDoorRefT
namespace Go.Proofs.YtdepenibifbcpaaGreatDoor
open Go.RowKit Go.Shelf Go.XL Go.ChangeShapes Go.WideShapes Go.ChangeAt
set_option linter.unusedVariables false
set_option linter.unusedSimpArgs false
attribute [local go_sem] Oper.semAt_some
theorem dec_self {α : Type} [DecidableEq α] (a : α) : decide (a = a) = true := decide_eq_true rfl
theorem law_few (ao : Option Addr) (n cap : Nat) (w : World) (hn : n ≤ cap) (hc : cap ≤ 9223372036854775807) : Calls Tryz.prog 7 #[.slice ao n cap] w fun e w' => e = .returned (.bool (decide (n ≤ 70))) ∧ w = w' := by
  by_cases h : n ≤ 70
  · rw [decide_eq_true h]
    have hd : decide ((n : Int) ≤ 70) = true := decide_eq_true (by omega)
    go_enter Tryz.func7, Tryz.ntmps7
    go_wp2
    go_ret
    exact ⟨rfl, rfl⟩
  · rw [decide_eq_false h]
    have hd : decide ((n : Int) ≤ 70) = false := decide_eq_false (by omega)
    go_enter Tryz.func7, Tryz.ntmps7
    go_wp2
    go_ret
    exact ⟨rfl, rfl⟩

set_option maxRecDepth 100000 in
set_option maxHeartbeats 8000000 in
theorem vecTwo_any (v1 v2 : Value) (a b : List Int) (i n : Int) (w : World) (hG : Gl w) (h1 : IntsAt w v1 a) (h2 : IntsAt w v2 b) (ha : I64s a) (hb : I64s b) :
    Calls Tryz.prog 3 #[v1, v2, .int .i64 i, .int .i64 n] w fun e w' => e = .returned (.bool true) ∧ Fr no w w' := by
  have hk := vknown w hG
  obtain ⟨o1, c1, rfl, k1, m1⟩ := h1.cap
  obtain ⟨o2, c2, rfl, k2, m2⟩ := h2.cap
  have hfa := fun (w' : World) (_ : Fr no w w') => law_few o1 a.length c1 w' k1 m1
  have hfb := fun (w' : World) (_ : Fr no w w') => law_few o2 b.length c2 w' k2 m2
  by_cases hs : a.length ≤ 70
  · by_cases ht : b.length ≤ 70
    · rw [decide_eq_true hs] at hfa
      rw [decide_eq_true ht] at hfb
      have lw : (vwith a i n).length ≤ 1000 := by
        unfold vwith
        split
        · omega
        · simp; omega
      have lj : ∀ g, (vboth g a b).length ≤ 1000 := fun g => by rw [vboth_len]; omega
      have Ha := Lib.hid ha
      have Hb := Lib.hid hb
      have HG := Lib.hid hG
      have Hs := Lib.hid hs
      have Ht := Lib.hid ht
      have X : Hid (IntsAt w (.slice o1 a.length c1) a) := Lib.hid h1
      have Y : Hid (IntsAt w (.slice o2 b.length c2) b) := Lib.hid h2
      have F : Hid (Fr no w w) := Lib.hid (Fr.refl _ _)
      have Lw := Lib.hid lw
      have Lj := Lib.hid lj
      clear h1 h2 hG ha hb lw lj
      go_enter Tryz.func3, Tryz.ntmps3
      go_wp2_with fail
      have hc := hk
      refine hc.mono ?_
      clear hc
      rintro e w' ⟨rfl, hfd⟩
      replace X := Lib.hid (X.out.fr hfd (fun _ _ _ f => f))
      replace Y := Lib.hid (Y.out.fr hfd (fun _ _ _ f => f))
      replace F := Lib.hid (F.out.trans' hfd)
      clear hfd
      go_wp2_with fail
      have hc := (hfa _ F.out)
      refine hc.mono ?_
      clear hc
      rintro e w' ⟨rfl, rfl⟩
      go_wp2_with fail
      have hc := (hfb _ F.out)
      refine hc.mono ?_
      clear hc
      rintro e w' ⟨rfl, rfl⟩
      go_wp2_with fail
      have hc := (vec_get _ a i _ X.out)
      refine hc.mono ?_
      clear hc
      rintro e w' ⟨rfl, rfl⟩
      go_wp2_with fail
      have hc := (ref_get _ a i _ X.out)
      refine hc.mono ?_
      clear hc
      rintro e w' ⟨rfl, rfl⟩
      go_wp2_with fail
      have hc := (vec_with _ a i n _ X.out (by have := Hs.out; omega))
      refine hc.mono ?_
      clear hc
      rintro e w' ⟨v', rfl, hm⟩
      obtain ⟨Po, Pc, rfl, _, _, hx, hfd⟩ := hm.see
      replace X := Lib.hid (X.out.fr hfd (fun _ _ _ f => f))
      replace Y := Lib.hid (Y.out.fr hfd (fun _ _ _ f => f))
      replace F := Lib.hid (F.out.trans' hfd)
      have P := Lib.hid hx
      clear hm hx hfd
      go_wp2_with fail
      have hc := (ref_with _ a i n _ X.out (by have := Hs.out; omega))
      refine hc.mono ?_
      clear hc
      rintro e w' ⟨v', rfl, hm⟩
      obtain ⟨Qo, Qc, rfl, _, _, hx, hfd⟩ := hm.see
      replace X := Lib.hid (X.out.fr hfd (fun _ _ _ f => f))
      replace Y := Lib.hid (Y.out.fr hfd (fun _ _ _ f => f))
      replace P := Lib.hid (P.out.fr hfd (fun _ _ _ f => f))
      replace F := Lib.hid (F.out.trans' hfd)
      have Q := Lib.hid hx
      clear hm hx hfd
      go_wp2_with fail
      have hc := (law_ints _ _ _ _ _ P.out Q.out)
      rw [dec_self] at hc
      refine hc.mono ?_
      clear hc
      rintro e w' ⟨rfl, hfd⟩
      replace X := Lib.hid (X.out.fr hfd (fun _ _ _ f => f))
      replace Y := Lib.hid (Y.out.fr hfd (fun _ _ _ f => f))
      replace P := Lib.hid (P.out.fr hfd (fun _ _ _ f => f))
      replace Q := Lib.hid (Q.out.fr hfd (fun _ _ _ f => f))
      replace F := Lib.hid (F.out.trans' hfd)
      clear hfd
      clear P Q
      go_wp2_with fail
      have hc := (vec_join _ _ a b _ X.out Y.out (by have := Hs.out; omega) (by have := Ht.out; omega))
      refine hc.mono ?_
      clear hc
      rintro e w' ⟨v', rfl, hm⟩
      obtain ⟨Po, Pc, rfl, _, _, hx, hfd⟩ := hm.see
      replace X := Lib.hid (X.out.fr hfd (fun _ _ _ f => f))
      replace Y := Lib.hid (Y.out.fr hfd (fun _ _ _ f => f))
      replace F := Lib.hid (F.out.trans' hfd)
      have P := Lib.hid hx
      clear hm hx hfd
      go_wp2_with fail
      have hc := (ref_join _ _ a b _ X.out Y.out (by have := Hs.out; omega) (by have := Ht.out; omega))
      refine hc.mono ?_
      clear hc
      rintro e w' ⟨v', rfl, hm⟩
      obtain ⟨Qo, Qc, rfl, _, _, hx, hfd⟩ := hm.see
      replace X := Lib.hid (X.out.fr hfd (fun _ _ _ f => f))
      replace Y := Lib.hid (Y.out.fr hfd (fun _ _ _ f => f))
      replace P := Lib.hid (P.out.fr hfd (fun _ _ _ f => f))
      replace F := Lib.hid (F.out.trans' hfd)
      have Q := Lib.hid hx
      clear hm hx hfd
      go_wp2_with fail
      have hc := (law_ints _ _ _ _ _ P.out Q.out)
      rw [dec_self] at hc
      refine hc.mono ?_
      clear hc
      rintro e w' ⟨rfl, hfd⟩
      replace X := Lib.hid (X.out.fr hfd (fun _ _ _ f => f))
      replace Y := Lib.hid (Y.out.fr hfd (fun _ _ _ f => f))
      replace P := Lib.hid (P.out.fr hfd (fun _ _ _ f => f))
      replace Q := Lib.hid (Q.out.fr hfd (fun _ _ _ f => f))
      replace F := Lib.hid (F.out.trans' hfd)
      clear hfd
      clear P Q
      go_wp2_with fail
      have hc := (vec_meet _ _ a b _ X.out Y.out (by have := Hs.out; omega) (by have := Ht.out; omega))
      refine hc.mono ?_
      clear hc
      rintro e w' ⟨v', rfl, hm⟩
      obtain ⟨Po, Pc, rfl, _, _, hx, hfd⟩ := hm.see
      replace X := Lib.hid (X.out.fr hfd (fun _ _ _ f => f))
      replace Y := Lib.hid (Y.out.fr hfd (fun _ _ _ f => f))
      replace F := Lib.hid (F.out.trans' hfd)
      have P := Lib.hid hx
      clear hm hx hfd
      go_wp2_with fail
      have hc := (ref_meet _ _ a b _ X.out Y.out (by have := Hs.out; omega) (by have := Ht.out; omega))
      refine hc.mono ?_
      clear hc
      rintro e w' ⟨v', rfl, hm⟩
      obtain ⟨Qo, Qc, rfl, _, _, hx, hfd⟩ := hm.see
      replace X := Lib.hid (X.out.fr hfd (fun _ _ _ f => f))
      replace Y := Lib.hid (Y.out.fr hfd (fun _ _ _ f => f))
      replace P := Lib.hid (P.out.fr hfd (fun _ _ _ f => f))
      replace F := Lib.hid (F.out.trans' hfd)
      have Q := Lib.hid hx
      clear hm hx hfd
      go_wp2_with fail
      have hc := (law_ints _ _ _ _ _ P.out Q.out)
      rw [dec_self] at hc
      refine hc.mono ?_
      clear hc
      rintro e w' ⟨rfl, hfd⟩
      replace X := Lib.hid (X.out.fr hfd (fun _ _ _ f => f))
      replace Y := Lib.hid (Y.out.fr hfd (fun _ _ _ f => f))
      replace P := Lib.hid (P.out.fr hfd (fun _ _ _ f => f))
      replace Q := Lib.hid (Q.out.fr hfd (fun _ _ _ f => f))
      replace F := Lib.hid (F.out.trans' hfd)
      clear hfd
      clear P Q
      obtain ⟨q1, hq1⟩ : ∃ q, vcov a b = q := ⟨_, rfl⟩
      go_wp2_with fail
      have hc := (vec_covers _ _ a b _ X.out Y.out)
      rw [hq1] at hc
      refine hc.mono ?_
      clear hc
      rintro e w' ⟨rfl, rfl⟩
      go_wp2_with fail
      have hc := (ref_covers _ _ a b _ X.out Y.out)
      rw [hq1] at hc
      refine hc.mono ?_
      clear hc
      rintro e w' ⟨rfl, rfl⟩
      obtain ⟨q2, hq2⟩ : ∃ q, (vcov a b && vcov b a) = q := ⟨_, rfl⟩
      go_wp2_with fail
      have hc := (vec_same _ _ a b _ X.out Y.out)
      rw [hq2] at hc
      refine hc.mono ?_
      clear hc
      rintro e w' ⟨rfl, rfl⟩
      go_wp2_with fail
      have hc := (ref_same _ _ a b _ X.out Y.out)
      rw [hq2] at hc
      refine hc.mono ?_
      clear hc
      rintro e w' ⟨rfl, rfl⟩
      obtain ⟨q3, hq3⟩ : ∃ q, vcheck a n = q := ⟨_, rfl⟩
      go_wp2_with fail
      have hc := (vec_check _ a n _ X.out)
      rw [hq3] at hc
      refine hc.mono ?_
      clear hc
      rintro e w' ⟨rfl, hfd⟩
      replace X := Lib.hid (X.out.fr hfd (fun _ _ _ f => f))
      replace Y := Lib.hid (Y.out.fr hfd (fun _ _ _ f => f))
      replace F := Lib.hid (F.out.trans' hfd)
      clear hfd
      go_wp2_with fail
      have hc := (ref_check _ a n _ X.out)
      rw [hq3] at hc
      refine hc.mono ?_
      clear hc
      rintro e w' ⟨rfl, rfl⟩
      obtain ⟨q4, hq4⟩ : ∃ q : ByteArray, ⟨(vtext a).toArray⟩ = q := ⟨_, rfl⟩
      go_wp2_with fail
      have hc := (vec_text _ a _ X.out Ha.out (by have := Hs.out; omega) (HG.out.fr F.out))
      rw [hq4] at hc
      refine hc.mono ?_
      clear hc
      rintro e w' ⟨rfl, hfd⟩
      replace X := Lib.hid (X.out.fr hfd (fun _ _ _ f => f))
      replace Y := Lib.hid (Y.out.fr hfd (fun _ _ _ f => f))
      replace F := Lib.hid (F.out.trans' hfd)
      clear hfd
      go_wp2_with fail
      have hc := (ref_vtext _ a _ X.out Ha.out (by have := Hs.out; omega))
      rw [hq4] at hc
      refine hc.mono ?_
      clear hc
      rintro e w' ⟨rfl, hfd⟩
      replace X := Lib.hid (X.out.fr hfd (fun _ _ _ f => f))
      replace Y := Lib.hid (Y.out.fr hfd (fun _ _ _ f => f))
      replace F := Lib.hid (F.out.trans' hfd)
      clear hfd
      go_wp2
      go_ret
      exact ⟨rfl, F.out⟩
    · rw [decide_eq_true hs] at hfa
      rw [decide_eq_false ht] at hfb
      have F : Hid (Fr no w w) := Lib.hid (Fr.refl _ _)
      clear h1 h2 hG ha hb
      go_enter Tryz.func3, Tryz.ntmps3
      go_wp2_with fail
      have hc := hk
      refine hc.mono ?_
      clear hc
      rintro e w' ⟨rfl, hfd⟩
      replace F := Lib.hid (F.out.trans' hfd)
      clear hfd
      go_wp2_with fail
      have hc := (hfa _ F.out)
      refine hc.mono ?_
      clear hc
      rintro e w' ⟨rfl, rfl⟩
      go_wp2_with fail
      have hc := (hfb _ F.out)
      refine hc.mono ?_
      clear hc
      rintro e w' ⟨rfl, rfl⟩
      go_wp2
      go_ret
      exact ⟨rfl, F.out⟩
  · rw [decide_eq_false hs] at hfa
    have F : Hid (Fr no w w) := Lib.hid (Fr.refl _ _)
    clear h1 h2 hG ha hb hfb
    go_enter Tryz.func3, Tryz.ntmps3
    go_wp2_with fail
    have hc := hk
    refine hc.mono ?_
    clear hc
    rintro e w' ⟨rfl, hfd⟩
    replace F := Lib.hid (F.out.trans' hfd)
    clear hfd
    go_wp2_with fail
    have hc := (hfa _ F.out)
    refine hc.mono ?_
    clear hc
    rintro e w' ⟨rfl, rfl⟩
    go_wp2
    go_ret
    exact ⟨rfl, F.out⟩
set_option maxRecDepth 100000 in
theorem vecTwo_row {H : Type} {enc : TypeId × Value → H} (v0 v1 : Value) (i n : Int) {d0 d1 : DataW H} {p0 p1 : List MemPlace} {base : Nat} (w : World) (hG : Gl w)
    (ok0 : Value.okWide Tryz.prog w .any base 22 v0) (h0 : DataW.Trod enc Tryz.prog w 0 (fun _ => true) true 22 v0 d0 p0)
    (ok1 : Value.okWide Tryz.prog w .any base 22 v1) (h1 : DataW.Trod enc Tryz.prog w 0 (fun _ => true) true 22 v1 d1 p1) (hi : (Lit.int .i64 i).wf = true) (hn : (Lit.int .i64 n).wf = true) :
    Calls Tryz.prog 3 #[v0, v1, .int .i64 i, .int .i64 n] w fun e w' => e = .returned (.bool true) ∧ Below w.heap.size w w' := by
  obtain ⟨a, ra, wa⟩ := ints_open (k := .i64) Tryz.underlying22 Tryz.underlying3 (by kernel_rfl) ok0 h0
  obtain ⟨b, rb, wb⟩ := ints_open (k := .i64) Tryz.underlying22 Tryz.underlying3 (by kernel_rfl) ok1 h1
  refine (vecTwo_any v0 v1 a b i n w hG ra rb (fun x hx => bounds_i64 (wa x hx)) (fun x hx => bounds_i64 (wb x hx))).mono ?_
  rintro e w' ⟨he, hf⟩
  exact ⟨he, hf.below⟩
end Go.Proofs.YtdepenibifbcpaaGreatDoor
