/- The walks of the laws MapAny, MapWords. -/
import Derived.Test.YtkdcldnbdhfobaaDoorMpK
import Derived.Test.YtkdcldnbdhfobaaDoorMpO
namespace Go.XL
open Go.RowKit Go.Shelf
theorem madd_len (m : Mp) (f n : Int) : (madd m f n).1.length ≤ m.length + 1 := by
  unfold madd
  split
  · simp
  · simp
end Go.XL
namespace Go.Proofs.YtkdcldnbdhfobaaDoor
open Go.RowKit Go.Shelf Go.XL Go.ChangeShapes Go.WideShapes Go.ChangeAt
set_option linter.unusedVariables false
set_option linter.unusedSimpArgs false
attribute [local go_sem] Oper.semAt_some
set_option maxRecDepth 100000 in
set_option maxHeartbeats 4000000 in
theorem mapAny_any (v1 : Value) (m : Mp) (pos n : Int) (w : World) (hG : Gl w) (h1 : MpAt w v1 m) (h64 : Mp64 m) (hp : pos ≤ 9223372036854775807) :
    Calls Tryd.prog 3 #[v1, .int .i64 pos, .int .i64 n] w fun e w' => e = .returned (.bool true) ∧ Fr no w w' := by
  have hk := mknown w hG
  obtain ⟨o1, c1, rfl, _, _⟩ := h1.cap
  by_cases hs : m.length ≤ 20
  · obtain ⟨fk, fs, fe, hfi⟩ : ∃ a b c, mfind m pos = (a, b, c) := ⟨_, _, _, rfl⟩
    have hal := madd_len m pos n
    obtain ⟨r, re, had⟩ : ∃ a b, madd m pos n = (a, b) := ⟨_, _, rfl⟩
    rw [had] at hal
    obtain ⟨ck, hck⟩ : ∃ c, mcheck m = c := ⟨_, rfl⟩
    obtain ⟨t, ht⟩ : ∃ t : ByteArray, ⟨(mtext m).toArray⟩ = t := ⟨_, rfl⟩
    have htl := mtext_len h64
    have hts : t.size ≤ 100000 := by rw [← ht]; show (mtext m).toArray.size ≤ _; simp; omega
    have hpl := mparse_small (l := t.data.toList)
    have htz : t.data.toList.length ≤ 100000 := by rw [Array.length_toList]; exact hts
    obtain ⟨p, pe, hpa⟩ : ∃ a b, mparse t.data.toList = (a, b) := ⟨_, _, rfl⟩
    have hpl2 : p.length ≤ 920 + 1 := by
      rw [hpa] at hpl
      have : t.data.toList.length ≤ 920 := by rw [← ht]; show (mtext m).toArray.toList.length ≤ _; simp; omega
      dsimp only at hpl
      omega
    have hs' : ¬ (20 : Int) < m.length := by omega
    have Hfi := Lib.hid hfi
    have Had := Lib.hid had
    have Hck := Lib.hid hck
    have Ht := Lib.hid ht
    have Hpa := Lib.hid hpa
    have H1 := Lib.hid h1
    have H64 := Lib.hid h64
    have HG := Lib.hid hG
    dsimp only at hal
    clear hfi had hck ht htl hpl hpa h1 h64 hG htz
    go_enter Tryd.func3, Tryd.ntmps3
    go_wp2_with fail
    refine hk.mono ?_
    clear hk
    rintro e w' ⟨rfl, hf1⟩
    have F := Lib.hid hf1
    have M := Lib.hid (H1.out.fr hf1 (fun _ _ _ f => f))
    clear hf1
    go_wp2_with fail
    have hc := (law_ofmap _ m _ M.out (by omega))
    refine hc.mono ?_
    clear hc
    rintro e w' ⟨v', rfl, hm⟩
    obtain ⟨Xo, Xc, rfl, _, _⟩ := hm.cap
    have hx := hm.rd
    have hfd := hm.fr
    replace M := Lib.hid (M.out.fr hfd (fun _ _ _ f => f))
    replace F := Lib.hid (F.out.trans' hfd)
    have X := Lib.hid hx
    clear hm hx hfd
    go_wp2_with fail
    have hc := (m_find _ m pos _ M.out hp (by omega))
    rw [Hfi.out] at hc
    dsimp only at hc
    refine hc.mono ?_
    clear hc
    rintro e w' ⟨rfl, hfd⟩
    replace M := Lib.hid (M.out.fr hfd (fun _ _ _ f => f))
    replace X := Lib.hid (X.out.fr hfd (fun _ _ _ f => f))
    replace F := Lib.hid (F.out.trans' hfd)
    clear hfd
    go_wp2_with fail
    have hc := (ref_findpos _ m pos _ X.out hp (by omega))
    rw [Hfi.out] at hc
    dsimp only at hc
    refine hc.mono ?_
    clear hc
    rintro e w' ⟨rfl, hfd⟩
    replace M := Lib.hid (M.out.fr hfd (fun _ _ _ f => f))
    replace X := Lib.hid (X.out.fr hfd (fun _ _ _ f => f))
    replace F := Lib.hid (F.out.trans' hfd)
    clear hfd
    go_wp2_with fail
    have hc := (m_add _ m pos n _ M.out (by omega))
    rw [Had.out] at hc
    dsimp only at hc
    refine hc.mono ?_
    clear hc
    rintro e w' ⟨v', rfl, hm⟩
    obtain ⟨To, Tc, rfl, _, _⟩ := hm.cap
    have hx := hm.rd
    have hfd := hm.fr
    replace M := Lib.hid (M.out.fr hfd (fun _ _ _ f => f))
    replace X := Lib.hid (X.out.fr hfd (fun _ _ _ f => f))
    replace F := Lib.hid (F.out.trans' hfd)
    have T := Lib.hid hx
    clear hm hx hfd
    go_wp2_with fail
    have hc := (ref_addspan _ m pos n _ X.out (by omega))
    rw [Had.out] at hc
    dsimp only at hc
    refine hc.mono ?_
    clear hc
    rintro e w' ⟨v', rfl, hm⟩
    obtain ⟨Uo, Uc, rfl, _, _⟩ := hm.cap
    have hx := hm.rd
    have hfd := hm.fr
    replace M := Lib.hid (M.out.fr hfd (fun _ _ _ f => f))
    replace X := Lib.hid (X.out.fr hfd (fun _ _ _ f => f))
    replace T := Lib.hid (T.out.fr hfd (fun _ _ _ f => f))
    replace F := Lib.hid (F.out.trans' hfd)
    have U := Lib.hid hx
    clear hm hx hfd
    go_wp2_with fail
    have hc := (m_check _ m _ M.out)
    rw [Hck.out] at hc
    refine hc.mono ?_
    clear hc
    rintro e w' ⟨rfl, hfd⟩
    replace M := Lib.hid (M.out.fr hfd (fun _ _ _ f => f))
    replace X := Lib.hid (X.out.fr hfd (fun _ _ _ f => f))
    replace T := Lib.hid (T.out.fr hfd (fun _ _ _ f => f))
    replace U := Lib.hid (U.out.fr hfd (fun _ _ _ f => f))
    replace F := Lib.hid (F.out.trans' hfd)
    clear hfd
    go_wp2_with fail
    have hc := (ref_checkmap _ m _ X.out)
    rw [Hck.out] at hc
    refine hc.mono ?_
    clear hc
    rintro e w' ⟨rfl, hfd⟩
    replace M := Lib.hid (M.out.fr hfd (fun _ _ _ f => f))
    replace X := Lib.hid (X.out.fr hfd (fun _ _ _ f => f))
    replace T := Lib.hid (T.out.fr hfd (fun _ _ _ f => f))
    replace U := Lib.hid (U.out.fr hfd (fun _ _ _ f => f))
    replace F := Lib.hid (F.out.trans' hfd)
    clear hfd
    go_wp2_with fail
    have hc := (law_ofmap _ r _ T.out (by omega))
    refine hc.mono ?_
    clear hc
    rintro e w' ⟨v', rfl, hm⟩
    obtain ⟨Yo, Yc, rfl, _, _⟩ := hm.cap
    have hx := hm.rd
    have hfd := hm.fr
    replace M := Lib.hid (M.out.fr hfd (fun _ _ _ f => f))
    replace X := Lib.hid (X.out.fr hfd (fun _ _ _ f => f))
    replace T := Lib.hid (T.out.fr hfd (fun _ _ _ f => f))
    replace U := Lib.hid (U.out.fr hfd (fun _ _ _ f => f))
    replace F := Lib.hid (F.out.trans' hfd)
    have Y := Lib.hid hx
    clear hm hx hfd
    go_wp2_with fail
    have hc := (law_samemap _ _ r r _ Y.out U.out)
    rw [show decide (r = r) = true from decide_eq_true rfl] at hc
    refine hc.mono ?_
    clear hc
    rintro e w' ⟨rfl, hfd⟩
    replace M := Lib.hid (M.out.fr hfd (fun _ _ _ f => f))
    replace X := Lib.hid (X.out.fr hfd (fun _ _ _ f => f))
    replace T := Lib.hid (T.out.fr hfd (fun _ _ _ f => f))
    replace U := Lib.hid (U.out.fr hfd (fun _ _ _ f => f))
    replace Y := Lib.hid (Y.out.fr hfd (fun _ _ _ f => f))
    replace F := Lib.hid (F.out.trans' hfd)
    clear hfd
    go_wp2_with fail
    have hc := (m_text _ m _ M.out (by omega) H64.out (HG.out.fr F.out))
    rw [Ht.out] at hc
    refine hc.mono ?_
    clear hc
    rintro e w' ⟨rfl, hfd⟩
    replace M := Lib.hid (M.out.fr hfd (fun _ _ _ f => f))
    replace X := Lib.hid (X.out.fr hfd (fun _ _ _ f => f))
    replace T := Lib.hid (T.out.fr hfd (fun _ _ _ f => f))
    replace U := Lib.hid (U.out.fr hfd (fun _ _ _ f => f))
    replace Y := Lib.hid (Y.out.fr hfd (fun _ _ _ f => f))
    replace F := Lib.hid (F.out.trans' hfd)
    clear hfd
    go_wp2_with fail
    have hc := (ref_maptext _ m _ X.out (by omega) H64.out)
    rw [Ht.out] at hc
    refine hc.mono ?_
    clear hc
    rintro e w' ⟨rfl, hfd⟩
    replace M := Lib.hid (M.out.fr hfd (fun _ _ _ f => f))
    replace X := Lib.hid (X.out.fr hfd (fun _ _ _ f => f))
    replace T := Lib.hid (T.out.fr hfd (fun _ _ _ f => f))
    replace U := Lib.hid (U.out.fr hfd (fun _ _ _ f => f))
    replace Y := Lib.hid (Y.out.fr hfd (fun _ _ _ f => f))
    replace F := Lib.hid (F.out.trans' hfd)
    clear hfd
    go_wp2_with fail
    have hc := (m_text _ m _ M.out (by omega) H64.out (HG.out.fr F.out))
    rw [Ht.out] at hc
    refine hc.mono ?_
    clear hc
    rintro e w' ⟨rfl, hfd⟩
    replace M := Lib.hid (M.out.fr hfd (fun _ _ _ f => f))
    replace X := Lib.hid (X.out.fr hfd (fun _ _ _ f => f))
    replace F := Lib.hid (F.out.trans' hfd)
    clear hfd
    go_wp2_with fail
    have hc := (m_parse t _ hts (HG.out.fr F.out))
    rw [Hpa.out] at hc
    dsimp only at hc
    refine hc.mono ?_
    clear hc
    rintro e w' ⟨v', rfl, hm⟩
    obtain ⟨Po, Pc, rfl, _, _⟩ := hm.cap
    have hx := hm.rd
    have hfd := hm.fr
    replace M := Lib.hid (M.out.fr hfd (fun _ _ _ f => f))
    replace X := Lib.hid (X.out.fr hfd (fun _ _ _ f => f))
    replace F := Lib.hid (F.out.trans' hfd)
    have P := Lib.hid hx
    clear hm hx hfd
    go_wp2_with fail
    have hc := (ref_maptext _ m _ X.out (by omega) H64.out)
    rw [Ht.out] at hc
    refine hc.mono ?_
    clear hc
    rintro e w' ⟨rfl, hfd⟩
    replace M := Lib.hid (M.out.fr hfd (fun _ _ _ f => f))
    replace X := Lib.hid (X.out.fr hfd (fun _ _ _ f => f))
    replace P := Lib.hid (P.out.fr hfd (fun _ _ _ f => f))
    replace F := Lib.hid (F.out.trans' hfd)
    clear hfd
    go_wp2_with fail
    have hc := (ref_parsemap t w' hts)
    rw [Hpa.out] at hc
    dsimp only at hc
    refine hc.mono ?_
    clear hc
    rintro e w' ⟨v', rfl, hm⟩
    obtain ⟨Qo, Qc, rfl, _, _⟩ := hm.cap
    have hx := hm.rd
    have hfd := hm.fr
    replace M := Lib.hid (M.out.fr hfd (fun _ _ _ f => f))
    replace X := Lib.hid (X.out.fr hfd (fun _ _ _ f => f))
    replace P := Lib.hid (P.out.fr hfd (fun _ _ _ f => f))
    replace F := Lib.hid (F.out.trans' hfd)
    have Q := Lib.hid hx
    clear hm hx hfd
    go_wp2_with fail
    have hc := (law_ofmap _ p _ P.out (by omega))
    refine hc.mono ?_
    clear hc
    rintro e w' ⟨v', rfl, hm⟩
    obtain ⟨Zo, Zc, rfl, _, _⟩ := hm.cap
    have hx := hm.rd
    have hfd := hm.fr
    replace P := Lib.hid (P.out.fr hfd (fun _ _ _ f => f))
    replace Q := Lib.hid (Q.out.fr hfd (fun _ _ _ f => f))
    replace F := Lib.hid (F.out.trans' hfd)
    have Z := Lib.hid hx
    clear hm hx hfd
    go_wp2_with fail
    have hc := (law_samemap _ _ p p _ Z.out Q.out)
    rw [show decide (p = p) = true from decide_eq_true rfl] at hc
    refine hc.mono ?_
    clear hc
    rintro e w' ⟨rfl, hfd⟩
    replace P := Lib.hid (P.out.fr hfd (fun _ _ _ f => f))
    replace Q := Lib.hid (Q.out.fr hfd (fun _ _ _ f => f))
    replace Z := Lib.hid (Z.out.fr hfd (fun _ _ _ f => f))
    replace F := Lib.hid (F.out.trans' hfd)
    clear hfd
    go_wp2
    go_ret
    exact ⟨rfl, F.out⟩
  · have hs' : (20 : Int) < m.length := by omega
    clear h1
    generalize m.length = q at *
    go_enter Tryd.func3, Tryd.ntmps3
    go_wp2_with fail
    refine hk.mono ?_
    rintro e w1 ⟨rfl, hf1⟩
    go_wp2
    go_ret
    exact ⟨rfl, hf1⟩
set_option maxRecDepth 100000 in
theorem mapAny_row {H : Type} {enc : TypeId × Value → H} (v0 : Value) (b c : Int) {d0 : DataW H} {p0 : List MemPlace} {base : Nat} (w : World) (hG : Gl w)
    (ok0 : Value.okWide Tryd.prog w .any base 23 v0) (h0 : DataW.Trod enc Tryd.prog w 0 (fun _ => true) true 23 v0 d0 p0) (hb : (Lit.int .i64 b).wf = true) (hc : (Lit.int .i64 c).wf = true) :
    Calls Tryd.prog 3 #[v0, .int .i64 b, .int .i64 c] w fun e w' => e = .returned (.bool true) ∧ Below w.heap.size w w' := by
  obtain ⟨m, rm, wm⟩ := map_open ok0 h0
  refine (mapAny_any v0 m b c w hG rm wm (bounds_i64 hb).2).mono ?_
  rintro e w' ⟨he, hf⟩
  exact ⟨he, hf.below⟩
set_option maxRecDepth 100000 in
set_option maxHeartbeats 4000000 in
theorem mapWords_any (s : ByteArray) (w : World) (hG : Gl w) :
    Calls Tryd.prog 4 #[.string s] w fun e w' => e = .returned (.bool true) ∧ Fr no w w' := by
  have hk := mknown w hG
  by_cases hs : s.size ≤ 300
  · have hpl := mparse_small (l := s.data.toList)
    have hsz : s.data.toList.length = s.size := Array.length_toList
    rw [hsz] at hpl
    have hpt := mparse_text (l := s.data.toList)
    obtain ⟨p, pe, hpa⟩ : ∃ a b, mparse s.data.toList = (a, b) := ⟨_, _, rfl⟩
    rw [hpa] at hpl hpt
    dsimp only at hpl hpt
    have hs' : ¬ (300 : Int) < s.size := by omega
    have Hpa := Lib.hid hpa
    have Hpt := Lib.hid hpt
    have HG := Lib.hid hG
    clear hpa hpt hG hsz
    go_enter Tryd.func4, Tryd.ntmps4
    go_wp2_with fail
    refine hk.mono ?_
    clear hk
    rintro e w' ⟨rfl, hf1⟩
    have F := Lib.hid hf1
    clear hf1
    go_wp2_with fail
    have hc := (m_parse s _ (by omega) (HG.out.fr F.out))
    rw [Hpa.out] at hc
    dsimp only at hc
    refine hc.mono ?_
    clear hc
    rintro e w' ⟨v', rfl, hm⟩
    obtain ⟨Po, Pc, rfl, _, _⟩ := hm.cap
    have hx := hm.rd
    have hfd := hm.fr
    replace F := Lib.hid (F.out.trans' hfd)
    have P := Lib.hid hx
    clear hm hx hfd
    go_wp2_with fail
    have hc := (ref_parsemap s w' (by omega))
    rw [Hpa.out] at hc
    dsimp only at hc
    refine hc.mono ?_
    clear hc
    rintro e w' ⟨v', rfl, hm⟩
    obtain ⟨Qo, Qc, rfl, _, _⟩ := hm.cap
    have hx := hm.rd
    have hfd := hm.fr
    replace P := Lib.hid (P.out.fr hfd (fun _ _ _ f => f))
    replace F := Lib.hid (F.out.trans' hfd)
    have Q := Lib.hid hx
    clear hm hx hfd
    go_wp2_with fail
    have hc := (law_ofmap _ p _ P.out (by omega))
    refine hc.mono ?_
    clear hc
    rintro e w' ⟨v', rfl, hm⟩
    obtain ⟨Zo, Zc, rfl, _, _⟩ := hm.cap
    have hx := hm.rd
    have hfd := hm.fr
    replace P := Lib.hid (P.out.fr hfd (fun _ _ _ f => f))
    replace Q := Lib.hid (Q.out.fr hfd (fun _ _ _ f => f))
    replace F := Lib.hid (F.out.trans' hfd)
    have Z := Lib.hid hx
    clear hm hx hfd
    go_wp2_with fail
    have hc := (law_samemap _ _ p p _ Z.out Q.out)
    rw [show decide (p = p) = true from decide_eq_true rfl] at hc
    refine hc.mono ?_
    clear hc
    rintro e w' ⟨rfl, hfd⟩
    replace P := Lib.hid (P.out.fr hfd (fun _ _ _ f => f))
    replace Q := Lib.hid (Q.out.fr hfd (fun _ _ _ f => f))
    replace Z := Lib.hid (Z.out.fr hfd (fun _ _ _ f => f))
    replace F := Lib.hid (F.out.trans' hfd)
    clear hfd
    by_cases h0 : pe = 0
    · obtain ⟨e1, e2⟩ := Hpt.out h0
      have E1 := Lib.hid e1
      have E2 := Lib.hid e2
      subst h0
      clear e1 e2
      go_wp2_with fail
      have hc := (m_text _ p _ P.out (by omega) (fun x hx => by have := E2.out x hx; omega) (HG.out.fr F.out))
      rw [show (⟨(mtext p).toArray⟩ : ByteArray) = s by rw [E1.out]] at hc
      refine hc.mono ?_
      clear hc
      rintro e w' ⟨rfl, hfd⟩
      replace P := Lib.hid (P.out.fr hfd (fun _ _ _ f => f))
      replace F := Lib.hid (F.out.trans' hfd)
      clear hfd
      go_wp2
      go_ret
      exact ⟨rfl, F.out⟩
    · have hne : (pe != 0) = true := by simpa using h0
      clear h0
      go_wp2
      go_ret
      exact ⟨rfl, F.out⟩
  · have hs' : (300 : Int) < s.size := by omega
    go_enter Tryd.func4, Tryd.ntmps4
    go_wp2_with fail
    refine hk.mono ?_
    rintro e w1 ⟨rfl, hf1⟩
    go_wp2
    go_ret
    exact ⟨rfl, hf1⟩
set_option maxRecDepth 100000 in
theorem mapWords_row (s : ByteArray) (w : World) (hG : Gl w) (hs : s.size ≤ maxLen) :
    Calls Tryd.prog 4 #[.string s] w fun e w' => e = .returned (.bool true) ∧ Below w.heap.size w w' := by
  refine (mapWords_any s w hG).mono ?_
  rintro e w' ⟨he, hf⟩
  exact ⟨he, hf.below⟩
end Go.Proofs.YtkdcldnbdhfobaaDoor
