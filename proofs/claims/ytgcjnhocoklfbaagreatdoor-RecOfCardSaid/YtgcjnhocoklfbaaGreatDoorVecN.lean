/- What is asked of the library's variables; numbers in words, and words as numbers: strconv.Itoa, strconv.Atoi, vec.Number. -/
import Derived.Test.YtgcjnhocoklfbaaGreatDoorVec2
import Derived.Test.YtgcjnhocoklfbaaGreatDoorStr
import Derived.Test.YtgcjnhocoklfbaaGreatDoorShelf
import Derived.IntWalk
namespace Go.XL
open Go.RowKit Go.Shelf
set_option linter.unusedVariables false
set_option linter.unusedSimpArgs false
/-- what is asked of the library's variables -/
structure GlP (P : Program) (gm ge : Nat) (w : World) : Prop where
  m : ∃ m, w.cell? ⟨gm, 0, none⟩ = some (.int .i64 m)
  e : ∃ te pe, w.cell? ⟨ge, 0, none⟩ = some (.iface te pe)
  p : Lib.TabIs P w "internal/strconv.uint64pow10" .u64 Lib.pow10Tab
theorem tabIs_fr {P : Program} {n : String} {g : Nat} {k : IntKind} {zs : List Int} {w w' : World} (hg : P.globalNamed n = some g) (h : Lib.TabIs P w n k zs) (hb : Fr no w w') : Lib.TabIs P w' n k zs := by
  unfold Lib.TabIs World.var? at h ⊢
  rw [hg] at h ⊢
  simp only [Option.bind_some] at h ⊢
  have hlt : g < w.heap.size := by
    rcases Nat.lt_or_ge g w.heap.size with h' | h'
    · exact h'
    · rw [Array.getElem?_eq_none h'] at h; cases h
  rw [hb.block g hlt (fun f => f)]
  exact h
theorem fr_bytes (w : World) (e : TypeId) (s : ByteArray) : Fr no w (Lib.bytesWorld w e s) := by
  refine ⟨rfl, rfl, rfl, ?_, fun k hk _ => ?_⟩
  · simp [Lib.bytesWorld, World.freeze]
  · have h1 : k ≠ w.heap.size := by omega
    simp [Lib.bytesWorld, World.freeze, World.alloc, Array.getElem?_modify, h1, Ne.symm h1, Array.getElem?_push]
    rfl
/-- a number that a text is, at most so great -/
def vnum (l : List UInt8) (most : Int) : Int × Int := if digs l then (if most < (dval l : Int) then (0, 4) else ((dval l : Int), 0)) else (0, 2)
end Go.XL
namespace Go.Proofs.YtgcjnhocoklfbaaGreatDoor
open Go.RowKit Go.Shelf Go.XL
set_option linter.unusedVariables false
set_option linter.unusedSimpArgs false
attribute [local go_sem] Oper.semAt_some
abbrev Gl : World → Prop := GlP Tryz.prog 0 5
theorem Gl.fr {w w' : World} (h : Gl w) (hf : Fr no w w') : Gl w' := by
  obtain ⟨⟨m, hm⟩, ⟨te, pe, he⟩, hp⟩ := h
  exact ⟨⟨m, hf.cell hm (fun f => f)⟩, ⟨te, pe, hf.cell he (fun f => f)⟩, tabIs_fr (g := 3) (by kernel_rfl) hp hf⟩
theorem s_itoa (n : Int) (h0 : -9223372036854775808 ≤ n) (h1 : n ≤ 9223372036854775807) (w : World) (hG : Gl w) :
    Calls Tryz.prog 32 #[.int .i64 n] w fun e w' => e = .returned (.string ⟨(Lib.itoa n).toArray⟩) ∧ Fr no w w' :=
  (Tryz.strconv_Itoa n h0 h1 w hG.p).mono fun e w' ⟨he, k, os, hw⟩ => ⟨he, by rw [hw]; exact ⟨rfl, rfl, rfl, by show w.heap.size ≤ (w.heap ++ os).size; rw [Array.size_append]; omega, fun j hj _ => Array.getElem?_append_left hj⟩⟩
theorem s_atoi (s : ByteArray) (hd : s.data.toList.all isDig = true) (hne : s.data.toList ≠ []) (hs : s.size ≤ 1099511627776) (w : World) (hG : Gl w) :
    Calls Tryz.prog 54 #[.string s] w fun e w' => Fr no w w' ∧ ((dval s.data.toList < 9223372036854775808 ∧ e = .returned (.tuple #[.int .i64 (dval s.data.toList), .nilIface])) ∨ (9223372036854775808 ≤ dval s.data.toList ∧ ∃ v te pe, e = .returned (.tuple #[.int .i64 v, .iface te pe]))) := by
  rcases atoi_dig hd hne with ⟨h, hv⟩ | ⟨h, hv⟩
  · refine (Tryz.strconv_Atoi_ok s (by omega) _ h w).mono fun e w' ⟨he, hw⟩ => ⟨?_, .inl ⟨hv, he⟩⟩
    rcases hw with rfl | ⟨t, rfl⟩
    · exact Fr.refl _ _
    · exact fr_bytes _ _ _
  · obtain ⟨te, pe, hve⟩ := hG.e
    exact (Tryz.strconv_Atoi_range s (by omega) h _ w hve (.inr ⟨te, pe, rfl⟩)).mono fun e w' ⟨N, he, _, _, hb⟩ => ⟨Fr.of_below hb, .inr ⟨hv, _, _, _, he⟩⟩

set_option maxRecDepth 100000 in
set_option maxHeartbeats 1000000 in
theorem vec_number (s : ByteArray) (most : Int) (w : World) (hs : s.size ≤ 1099511627776) (hm0 : 0 ≤ most) (hm : most ≤ 4611686018427387904) (hG : Gl w) :
    Calls Tryz.prog 37 #[.string s, .int .i64 most] w fun e w' => e = .returned (.tuple #[.int .i64 (vnum s.data.toList most).1, .int .i64 (vnum s.data.toList most).2]) ∧ Fr no w w' := by
  have htr := Tryz.strings_Trim_laid s ⟨tenL.toArray⟩ w (by omega) (by decide) (ascii_of_all (by decide))
  obtain ⟨r, hr⟩ : ∃ r : ByteArray, ⟨(Lib.trimS s.data.toList tenL).toArray⟩ = r := ⟨_, rfl⟩
  have hrl : r.toList = Lib.trimS s.data.toList tenL := by rw [← hr, ByteArray.toList_eq]
  have htr2 : Calls Tryz.prog 53 #[.string s, .string ⟨#[48, 49, 50, 51, 52, 53, 54, 55, 56, 57]⟩] w fun e w' => e = .returned (.string r) ∧ Below w.heap.size w w' := by rw [← hr]; exact htr
  have hat := fun (w' : World) (hf : Fr no w w') (hd : s.data.toList.all isDig = true) (hne : s.data.toList ≠ []) => s_atoi s hd hne hs w' (hG.fr hf)
  have Hat := Lib.hid hat
  have Htr := Lib.hid htr2
  clear hat htr htr2 hG hr
  by_cases hA : s.toList = []
  · have hv : vnum s.data.toList most = (0, 2) := by rw [← ByteArray.toList_eq, hA]; rfl
    rw [hv]
    clear hv hrl
    go_enter Tryz.func37, Tryz.ntmps37
    go_wp2
    go_ret2
    exact ⟨rfl, Fr.refl _ _⟩
  · have hne : s.data.toList ≠ [] := by rw [← ByteArray.toList_eq]; exact hA
    have hA2 : s.toList.isEmpty = false := by simpa using hA
    have hsz : 0 < s.size := by
      have : s.data.toList.length ≠ 0 := fun e => hne (List.eq_nil_of_length_eq_zero e)
      rw [Array.length_toList] at this
      show 0 < s.data.size
      omega
    by_cases hB : s.data.toList.all isDig = true
    · have hr0 : r.toList = [] := by rw [hrl]; exact (trimS_digits _).2 hB
      have hc : ∃ c l, s.data.toList = c :: l := List.exists_cons_of_ne_nil hne
      obtain ⟨c, l, hcl⟩ := hc
      have hs0 : s[0]'hsz = c := by
        have : s.data.toList[0]? = some c := by rw [hcl]; rfl
        rw [Array.getElem?_toList] at this
        obtain ⟨_, h⟩ := Array.getElem?_eq_some_iff.1 this
        exact h
      by_cases hC : c = 48
      · by_cases hD : s.toList = [48]
        · have hv : vnum s.data.toList most = (0, 0) := by rw [← ByteArray.toList_eq, hD]; simp [vnum, digs, dval, dgo, isDig]; omega
          have hdv : dval s.data.toList = 0 := by rw [← ByteArray.toList_eq, hD]; rfl
          rw [hv]
          have hb0 : (((s[0]'hsz).toNat : Int) == 48) = true := by rw [hs0, hC]; rfl
          have Hdv := Lib.hid hdv
          have HB := Lib.hid hB
          have HE := Lib.hid hne
          clear hv hdv hrl hcl hs0 hC hB hne
          go_enter Tryz.func37, Tryz.ntmps37
          go_wp2_with fail
          refine Htr.out.mono ?_
          rintro e w1 ⟨rfl, hb1⟩
          have HF1 := Lib.hid (Fr.of_below hb1)
          clear hb1
          go_wp2_with fail
          refine (Hat.out _ HF1.out HB.out HE.out).mono ?_
          rintro e w2 ⟨hf2, ⟨_, he⟩ | ⟨h, _⟩⟩
          · rw [Hdv.out] at he
            subst he
            go_wp2
            go_ret2
            exact ⟨rfl, HF1.out.trans' hf2⟩
          · have := Hdv.out
            omega
        · have hv : vnum s.data.toList most = (0, 2) := by
            unfold vnum digs
            rw [if_neg]
            have h1 : l ≠ [] := fun e => hD (by rw [ByteArray.toList_eq, hcl, hC, e])
            have h2 : 0 < l.length := by
              cases l with
              | nil => exact absurd rfl h1
              | cons a b => simp
            rw [hcl, hC]
            simp [h2]
          rw [hv]
          have hb0 : (((s[0]'hsz).toNat : Int) == 48) = true := by rw [hs0, hC]; rfl
          have hq : (s.toList == [48]) = false := by simpa using hD
          clear hv hrl hcl hs0 hC hB hne Hat
          go_enter Tryz.func37, Tryz.ntmps37
          go_wp2_with fail
          refine Htr.out.mono ?_
          rintro e w1 ⟨rfl, hb1⟩
          have HF1 := Lib.hid (Fr.of_below hb1)
          clear hb1
          go_wp2
          go_ret2
          exact ⟨rfl, HF1.out⟩
      · have hdg : digs s.data.toList = true := by
          unfold digs
          rw [hB, hcl]
          simp [hC]
        have hb0 : (((s[0]'hsz).toNat : Int) == 48) = false := by
          rw [hs0, beq_eq_false_iff_ne]
          intro e
          exact hC (by rw [← UInt8.toNat_inj]; have e48 : (48 : UInt8).toNat = 48 := rfl; omega)
        obtain ⟨D, hD⟩ : ∃ D, dval s.data.toList = D := ⟨_, rfl⟩
        have hv : vnum s.data.toList most = if most < (D : Int) then (0, 4) else ((D : Int), 0) := by unfold vnum; rw [if_pos hdg, hD]
        have HD := Lib.hid hD
        have Hv := Lib.hid hv
        have HB := Lib.hid hB
        have HE := Lib.hid hne
        clear hv hrl hcl hs0 hC hB hne hdg hD
        go_enter Tryz.func37, Tryz.ntmps37
        go_wp2_with fail
        refine Htr.out.mono ?_
        rintro e w1 ⟨rfl, hb1⟩
        have HF1 := Lib.hid (Fr.of_below hb1)
        clear hb1
        go_wp2_with fail
        refine (Hat.out _ HF1.out HB.out HE.out).mono ?_
        rintro e w2 ⟨hf2, ⟨hd, he⟩ | ⟨hd, v, te, pe, he⟩⟩
        · rw [HD.out] at he hd
          subst he
          have HF2 := Lib.hid (HF1.out.trans' hf2)
          clear hf2
          by_cases hm2 : most < (D : Int)
          · go_wp2
            go_ret2
            rw [Hv.out, if_pos hm2]
            exact ⟨rfl, HF2.out⟩
          · go_wp2
            go_ret2
            rw [Hv.out, if_neg (by omega)]
            exact ⟨rfl, HF2.out⟩
        · rw [HD.out] at hd
          subst he
          have HF2 := Lib.hid (HF1.out.trans' hf2)
          clear hf2
          go_wp2
          go_ret2
          rw [Hv.out, if_pos (by omega)]
          exact ⟨rfl, HF2.out⟩
    · have hr0 : ¬ r.toList = [] := by rw [hrl]; exact fun e => hB ((trimS_digits _).1 e)
      have hv : vnum s.data.toList most = (0, 2) := by
        unfold vnum digs
        rw [if_neg (by simp only [Bool.and_eq_true]; exact fun e => hB e.1.2)]
      rw [hv]
      clear hv hrl hB hne Hat
      go_enter Tryz.func37, Tryz.ntmps37
      go_wp2_with fail
      refine Htr.out.mono ?_
      rintro e w1 ⟨rfl, hb1⟩
      have HF1 := Lib.hid (Fr.of_below hb1)
      clear hb1
      go_wp2
      go_ret2
      exact ⟨rfl, HF1.out⟩
end Go.Proofs.YtgcjnhocoklfbaaGreatDoor
