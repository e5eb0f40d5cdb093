/- The walk of the law VecPuts. -/
import Derived.Test.YtdepenibifbcpaaGreatDoorVup
import Derived.Test.YtdepenibifbcpaaGreatDoorRefVec
namespace Go.XL
open Go.RowKit Go.Shelf
set_option linter.unusedVariables false
set_option linter.unusedSimpArgs false
theorem vget_vwith (xs : List Int) (s : Nat) (q : Int) (hs : s ≤ 63) (j : Nat) : vget (vwith xs s q) j = if j = s then q else vget xs j := by
  unfold vwith
  rw [if_neg (by omega), vget_nat, vget_nat, Int.toNat_natCast]
  rw [List.getElem?_set]
  by_cases h : s = j
  · subst h
    simp
    rw [if_pos (by omega)]; rfl
  · rw [if_neg h, if_neg (fun e => h e.symm)]
    by_cases hj : j < xs.length
    · rw [List.getElem?_append_left hj]
    · rw [List.getElem?_append_right (by omega), List.getElem?_eq_none (l := xs) (by omega)]
      by_cases hk : j - xs.length < s + 1 - xs.length
      · rw [List.getElem?_replicate, if_pos hk]; rfl
      · rw [List.getElem?_replicate, if_neg hk]
theorem vwith_len (xs : List Int) (i x : Int) : (vwith xs i x).length ≤ xs.length + 64 := by
  unfold vwith
  split
  · omega
  · simp; omega
theorem vcov_refl (xs : List Int) : vcov xs xs = true := (vcov_all _ _).2 fun j => Int.le_refl _
theorem puts_back (xs : List Int) (i : Nat) (n : Int) (hi : i ≤ 63) :
    (vcov (vwith (vwith xs i n) i (vget xs i)) xs && vcov xs (vwith (vwith xs i n) i (vget xs i))) = true := by
  have h : ∀ j : Nat, vget (vwith (vwith xs i n) i (vget xs i)) j = vget xs j := fun j => by
    rw [vget_vwith _ _ _ hi]
    by_cases e : j = i
    · rw [if_pos e, e]
    · rw [if_neg e, vget_vwith _ _ _ hi, if_neg e]
  rw [Bool.and_eq_true, vcov_all, vcov_all]
  exact ⟨fun j => by rw [h]; exact Int.le_refl _, fun j => by rw [h]; exact Int.le_refl _⟩
theorem vwith_out (xs : List Int) (i x : Int) (h : i < 0 ∨ 63 < i) : vwith xs i x = xs := by unfold vwith; rw [if_pos h]
end Go.XL
namespace Go.Proofs.YtdepenibifbcpaaGreatDoor
open Go.RowKit Go.Shelf Go.XL Go.ChangeShapes Go.WideShapes Go.ChangeAt
set_option linter.unusedVariables false
set_option linter.unusedSimpArgs false
attribute [local go_sem] Oper.semAt_some
set_option maxRecDepth 100000 in
set_option maxHeartbeats 8000000 in
theorem vecPuts_any (v1 : Value) (a : List Int) (at_ n : Int) (w : World) (hG : Gl w) (h1 : Rd w 1 v1 a.length (a.map (Value.int .u16))) (ha : U16s a) (ha0 : 0 ≤ at_) (ha1 : at_ ≤ 255) (hn0 : 0 ≤ n) (hn1 : n ≤ 65535) :
    Calls Tryz.prog 5 #[v1, .int .u8 at_, .int .u16 n] w fun e w' => e = .returned (.bool true) ∧ Fr no w w' := by
  have hk := vknown w hG
  obtain ⟨o1, c1, rfl, k1, m1⟩ := h1.cap
  by_cases hs : a.length ≤ 8
  · have hu1 := fun (w' : World) (hf : Fr no w w') => law_up _ a w' (h1.fr hf (fun _ _ _ f => f)) ha (by omega)
    have Hu1 := Lib.hid hu1
    obtain ⟨i, hi⟩ : ∃ i : Nat, at_.tmod 64 = (i : Int) := ⟨(at_.tmod 64).toNat, by rw [Int.toNat_of_nonneg (Int.tmod_nonneg _ ha0)]⟩
    have hi63 : i ≤ 63 := by have := Int.tmod_lt_of_pos at_ (b := 64) (by omega); omega
    obtain ⟨b, hb⟩ : ∃ b, vwith a i n = b := ⟨_, rfl⟩
    have hbl : b.length ≤ 100 := by rw [← hb]; have := vwith_len a i n; omega
    have hg : ∀ j : Nat, vget b j = if j = i then n else vget a j := fun j => by rw [← hb, vget_vwith _ _ _ hi63]
    have hpb := puts_back a i n hi63
    rw [hb] at hpb
    have hva := vcov_refl a
    have HB := Lib.hid hb
    have Hg := Lib.hid hg
    have Hp := Lib.hid hpb
    have Ha := Lib.hid hva
    obtain ⟨g, hgi⟩ : ∃ g, vget a i = g := ⟨_, rfl⟩
    have Hgi := Lib.hid hgi
    rw [hgi] at Hp
    have hbl2 : (vwith b i g).length ≤ 1000 := by have := vwith_len b i g; omega
    clear hu1 h1 ha hG hb hg hpb hva hgi
    go_enter Tryz.func5, Tryz.ntmps5
    go_wp2_with fail
    refine hk.mono ?_
    clear hk
    rintro e w1 ⟨rfl, hf1⟩
    have F := Lib.hid hf1
    clear hf1
    go_wp2_with fail
    have hc := (Hu1.out _ F.out)
    refine hc.mono ?_
    clear hc
    rintro e w' ⟨v', rfl, hm⟩
    obtain ⟨Xo, Xc, rfl, _, _, hx, hfd⟩ := hm.see
    replace F := Lib.hid (F.out.trans' hfd)
    have X := Lib.hid hx
    clear hm hx hfd
    go_wp2_with fail
    have hc := (vec_with _ a i n _ X.out (by omega))
    rw [HB.out] at hc
    refine hc.mono ?_
    clear hc
    rintro e w' ⟨v', rfl, hm⟩
    obtain ⟨Yo, Yc, rfl, _, _, hx, hfd⟩ := hm.see
    replace X := Lib.hid (X.out.fr hfd (fun _ _ _ f => f))
    replace F := Lib.hid (F.out.trans' hfd)
    have Y := Lib.hid hx
    clear hm hx hfd
    go_wp2_with fail
    go_loop [10] (fun jv => ∃ (j : Nat), j ≤ 70 ∧ jv = .int .i64 j) (fun jv => 70 - (intOf jv).toNat)
    case atStart => exact ⟨0, Nat.zero_le _, rfl⟩
    case round =>
      obtain ⟨j, hj, rfl⟩ := hrel
      by_cases hlt : j < 70
      · by_cases hji : j = i
        · subst hji
          have hgj : vget b j = n := by rw [Hg.out, if_pos rfl]
          go_wp2_with fail
          have hc := (vec_get _ b j _ Y.out)
          rw [hgj] at hc
          refine hc.mono ?_
          clear hc
          rintro e w' ⟨rfl, rfl⟩
          go_wp2
          go_round
          case rel => exact ⟨j + 1, by omega, by go_num⟩
          case measure => simp [intOf]; omega
        · have hgj : vget b j = vget a j := by rw [Hg.out, if_neg hji]
          go_wp2_with fail
          have hc := (vec_get _ b j _ Y.out)
          rw [hgj] at hc
          refine hc.mono ?_
          clear hc
          rintro e w' ⟨rfl, rfl⟩
          go_wp2_with fail
          have hc := (vec_get _ a j _ X.out)
          refine hc.mono ?_
          clear hc
          rintro e w' ⟨rfl, rfl⟩
          go_wp2
          go_round
          case rel => exact ⟨j + 1, by omega, by go_num⟩
          case measure => simp [intOf]; omega
      · go_wp2_with fail
        have hc := (vec_get _ a i _ X.out)
        rw [Hgi.out] at hc
        refine hc.mono ?_
        clear hc
        rintro e w' ⟨rfl, rfl⟩
        go_wp2_with fail
        have hc := (vec_with _ b i g _ Y.out (by omega))
        refine hc.mono ?_
        clear hc
        rintro e w' ⟨v', rfl, hm⟩
        obtain ⟨Zo, Zc, rfl, _, _, hx, hfd⟩ := hm.see
        replace X := Lib.hid (X.out.fr hfd (fun _ _ _ f => f))
        replace Y := Lib.hid (Y.out.fr hfd (fun _ _ _ f => f))
        replace F := Lib.hid (F.out.trans' hfd)
        have Z := Lib.hid hx
        clear hm hx hfd
        go_wp2_with fail
        have hc := (vec_same _ _ (vwith b i g) a _ Z.out X.out)
        rw [Hp.out] at hc
        refine hc.mono ?_
        clear hc
        rintro e w' ⟨rfl, rfl⟩
        go_wp2_with fail
        have hc := (vec_with _ a 64 9 _ X.out (by omega))
        rw [vwith_out a 64 9 (Or.inr (by omega))] at hc
        refine hc.mono ?_
        clear hc
        rintro e w' ⟨v', rfl, hm⟩
        obtain ⟨Po, Pc, rfl, _, _, hx, hfd⟩ := hm.see
        replace X := Lib.hid (X.out.fr hfd (fun _ _ _ f => f))
        replace Y := Lib.hid (Y.out.fr hfd (fun _ _ _ f => f))
        replace Z := Lib.hid (Z.out.fr hfd (fun _ _ _ f => f))
        replace F := Lib.hid (F.out.trans' hfd)
        have P := Lib.hid hx
        clear hm hx hfd
        go_wp2_with fail
        have hc := (vec_same _ _ a a _ P.out X.out)
        rw [Ha.out] at hc
        rw [Bool.and_self] at hc
        refine hc.mono ?_
        clear hc
        rintro e w' ⟨rfl, rfl⟩
        go_wp2_with fail
        have hc := (vec_with _ a (-1) 9 _ X.out (by omega))
        rw [vwith_out a (-1) 9 (Or.inl (by omega))] at hc
        refine hc.mono ?_
        clear hc
        rintro e w' ⟨v', rfl, hm⟩
        obtain ⟨Qo, Qc, rfl, _, _, hx, hfd⟩ := hm.see
        replace X := Lib.hid (X.out.fr hfd (fun _ _ _ f => f))
        replace Y := Lib.hid (Y.out.fr hfd (fun _ _ _ f => f))
        replace Z := Lib.hid (Z.out.fr hfd (fun _ _ _ f => f))
        replace P := Lib.hid (P.out.fr hfd (fun _ _ _ f => f))
        replace F := Lib.hid (F.out.trans' hfd)
        have Q := Lib.hid hx
        clear hm hx hfd
        go_wp2_with fail
        have hc := (vec_same _ _ a a _ Q.out X.out)
        rw [Ha.out] at hc
        rw [Bool.and_self] at hc
        refine hc.mono ?_
        clear hc
        rintro e w' ⟨rfl, rfl⟩
        go_wp2_with fail
        have hc := (Hu1.out _ F.out)
        refine hc.mono ?_
        clear hc
        rintro e w' ⟨v', rfl, hm⟩
        obtain ⟨Uo, Uc, rfl, _, _, hx, hfd⟩ := hm.see
        replace X := Lib.hid (X.out.fr hfd (fun _ _ _ f => f))
        replace Y := Lib.hid (Y.out.fr hfd (fun _ _ _ f => f))
        replace Z := Lib.hid (Z.out.fr hfd (fun _ _ _ f => f))
        replace P := Lib.hid (P.out.fr hfd (fun _ _ _ f => f))
        replace Q := Lib.hid (Q.out.fr hfd (fun _ _ _ f => f))
        replace F := Lib.hid (F.out.trans' hfd)
        have U := Lib.hid hx
        clear hm hx hfd
        go_wp2_with fail
        have hc := (ref_same _ _ a a _ X.out U.out)
        rw [Ha.out] at hc
        rw [Bool.and_self] at hc
        refine hc.mono ?_
        clear hc
        rintro e w' ⟨rfl, rfl⟩
        go_wp2
        go_ret
        exact ⟨rfl, F.out⟩
  · have hs' : 8 < (a.length : Int) := by omega
    clear h1
    generalize a.length = n at *
    go_enter Tryz.func5, Tryz.ntmps5
    go_wp2_with fail
    refine hk.mono ?_
    clear hk
    rintro e w1 ⟨rfl, hf1⟩
    go_wp2
    go_ret
    exact ⟨rfl, hf1⟩
set_option maxRecDepth 100000 in
theorem vecPuts_row {H : Type} {enc : TypeId × Value → H} (v0 : Value) (b c : Int) {d0 : DataW H} {p0 : List MemPlace} {base : Nat} (w : World) (hG : Gl w)
    (ok0 : Value.okWide Tryz.prog w .any base 44 v0) (h0 : DataW.Trod enc Tryz.prog w 0 (fun _ => true) true 44 v0 d0 p0) (hb : (Lit.int .u8 b).wf = true) (hc : (Lit.int .u16 c).wf = true) :
    Calls Tryz.prog 5 #[v0, .int .u8 b, .int .u16 c] w fun e w' => e = .returned (.bool true) ∧ Below w.heap.size w w' := by
  obtain ⟨a, ra, wa⟩ := ints_open (k := .u16) Tryz.underlying44 Tryz.underlying45 (by kernel_rfl) ok0 h0
  refine (vecPuts_any v0 a b c w hG ra (fun x hx => bounds_u16 (wa x hx)) (bounds_u8 hb).1 (bounds_u8 hb).2 (bounds_u16 hc).1 (bounds_u16 hc).2).mono ?_
  rintro e w' ⟨he, hf⟩
  exact ⟨he, hf.below⟩
end Go.Proofs.YtdepenibifbcpaaGreatDoor
