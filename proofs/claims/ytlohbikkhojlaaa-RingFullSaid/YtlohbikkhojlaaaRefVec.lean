/- Contracts of the reference's vectors: Get, Covers, SameVec. -/
import Derived.Test.YtlohbikkhojlaaaVec
namespace Go.Proofs.Ytlohbikkhojlaaa
open Go.RowKit Go.Shelf Go.XL
set_option linter.unusedVariables false
set_option linter.unusedSimpArgs false
attribute [local go_sem] Oper.semAt_some

theorem ref_get (v : Value) (xs : List Int) (i : Int) (w : World) (h : IntsAt w v xs) :
    Calls Try.prog 57 #[v, .int .i64 i] w fun e w' => e = .returned (.int .i64 (vget xs i)) ∧ w = w' := by
  obtain ⟨ao, cap, rfl, hcap, hmx⟩ := h.cap
  have Hh := Lib.hid h
  clear h
  by_cases h1 : i < 0
  · have hv : vget xs i = 0 := by unfold vget; rw [if_neg (by omega)]
    rw [hv]
    go_enter Try.func57, Try.ntmps57
    go_wp2
    go_ret
    exact ⟨rfl, rfl⟩
  · by_cases h2 : (xs.length : Int) ≤ i
    · have hv : vget xs i = 0 := by unfold vget; rw [if_neg (by omega)]
      rw [hv]
      go_enter Try.func57, Try.ntmps57
      go_wp2
      go_ret
      exact ⟨rfl, rfl⟩
    · obtain ⟨k, rfl⟩ : ∃ k : Nat, i = k := ⟨i.toNat, by omega⟩
      obtain ⟨g, off, c, he, _, _, hx⟩ := Hh.out.form (by omega)
      cases he
      have hk : k < xs.length := by omega
      obtain ⟨x, hxk⟩ : ∃ x, xs[k]? = some x := ⟨xs[k], by simp [hk]⟩
      have hc : w.cell? ⟨g, off + k, none⟩ = some (.int .i64 x) := hx k _ (by simp [hxk])
      have hv : vget xs k = x := by rw [vget_nat, hxk]; rfl
      rw [hv]
      clear hx hv hxk
      generalize xs.length = n at *
      go_enter Try.func57, Try.ntmps57
      go_wp2
      go_ret
      exact ⟨rfl, rfl⟩

set_option maxHeartbeats 400000 in
theorem ref_covers (v1 v2 : Value) (a b : List Int) (w : World) (h1 : IntsAt w v1 a) (h2 : IntsAt w v2 b) :
    Calls Try.prog 58 #[v1, v2] w fun e w' => e = .returned (.bool (vcov a b)) ∧ w = w' := by
  obtain ⟨ao1, cap1, rfl, hc1, hm1⟩ := h1.cap
  obtain ⟨ao2, cap2, rfl, hc2, hm2⟩ := h2.cap
  obtain ⟨N, hN⟩ : ∃ N : Nat, max a.length b.length = N := ⟨_, rfl⟩
  have hv := vcov_iff a b
  rw [hN] at hv
  have H1 := Lib.hid h1
  have H2 := Lib.hid h2
  have Hv := Lib.hid hv
  clear h1 h2 hv
  have hNb : (N : Int) ≤ 9223372036854775807 := by omega
  generalize hga : a.length = n1 at *
  generalize hgb : b.length = n2 at *
  have Hga := Lib.hid hga
  have Hgb := Lib.hid hgb
  have HN := Lib.hid hN
  clear hga hgb hN
  go_enter Try.func58, Try.ntmps58
  go_wp2_with fail
  go_loop [5] (fun jv => ∃ (j : Nat), j ≤ N ∧ jv = .int .i64 j ∧ Hid (covTo a b j)) (fun jv => N - (intOf jv).toNat)
  case atStart => exact ⟨0, Nat.zero_le _, rfl, Lib.hid (fun j h => by omega)⟩
  case round =>
    obtain ⟨j, hj, rfl, hC⟩ := hrel
    by_cases hlt : j < N
    · have hor : j < n1 ∨ j < n2 := by have := HN.out; omega
      by_cases hl1 : j < n1
      · go_wp2_with fail
        refine (ref_get _ a j _ H1.out).mono ?_
        rintro e w' ⟨rfl, rfl⟩
        go_wp2_with fail
        refine (ref_get _ b j _ H2.out).mono ?_
        rintro e w' ⟨rfl, rfl⟩
        by_cases hcm : vget a j < vget b j
        · go_wp2
          go_ret
          have e1 : vcov a b = false := by
            rw [← Bool.not_eq_true, Hv.out]; intro h; have := h j hlt; omega
          rw [e1]
          exact ⟨rfl, rfl⟩
        · go_wp2
          go_round
          case rel => exact ⟨j + 1, by omega, by go_num, Lib.hid (fun t ht => by rcases Nat.lt_succ_iff_lt_or_eq.1 ht with h | rfl <;> first | exact hC.out t h | omega)⟩
          case measure => simp [intOf]; omega
      · have hl2 : j < n2 := by omega
        go_wp2_with fail
        refine (ref_get _ a j _ H1.out).mono ?_
        rintro e w' ⟨rfl, rfl⟩
        go_wp2_with fail
        refine (ref_get _ b j _ H2.out).mono ?_
        rintro e w' ⟨rfl, rfl⟩
        by_cases hcm : vget a j < vget b j
        · go_wp2
          go_ret
          have e1 : vcov a b = false := by
            rw [← Bool.not_eq_true, Hv.out]; intro h; have := h j hlt; omega
          rw [e1]
          exact ⟨rfl, rfl⟩
        · go_wp2
          go_round
          case rel => exact ⟨j + 1, by omega, by go_num, Lib.hid (fun t ht => by rcases Nat.lt_succ_iff_lt_or_eq.1 ht with h | rfl <;> first | exact hC.out t h | omega)⟩
          case measure => simp [intOf]; omega
    · obtain rfl : j = N := by omega
      have hl1 : ¬ j < n1 := by have := HN.out; omega
      have hl2 : ¬ j < n2 := by have := HN.out; omega
      go_wp2
      go_ret
      have e1 : vcov a b = true := Hv.out.2 hC.out
      rw [e1]
      exact ⟨rfl, rfl⟩
theorem ref_same (v1 v2 : Value) (a b : List Int) (w : World) (h1 : IntsAt w v1 a) (h2 : IntsAt w v2 b) :
    Calls Try.prog 45 #[v1, v2] w fun e w' => e = .returned (.bool (vcov a b && vcov b a)) ∧ w = w' := by
  have c1 := ref_covers v1 v2 a b w h1 h2
  have c2 := ref_covers v2 v1 b a w h2 h1
  go_enter Try.func45, Try.ntmps45
  go_wp2_with fail
  refine c1.mono ?_
  rintro e w' ⟨rfl, rfl⟩
  cases hx : vcov a b
  · go_wp2
    go_ret
    exact ⟨by simp [hx], rfl⟩
  · go_wp2_with fail
    refine c2.mono ?_
    rintro e w' ⟨rfl, rfl⟩
    go_wp2
    go_ret
    exact ⟨by simp [hx], rfl⟩
end Go.Proofs.Ytlohbikkhojlaaa
