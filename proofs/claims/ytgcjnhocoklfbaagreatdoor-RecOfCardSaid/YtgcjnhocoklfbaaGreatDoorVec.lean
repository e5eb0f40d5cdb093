/- Contracts of the package vec: Get, With, Join, Meet, Covers, Same. -/
import Derived.Test.YtgcjnhocoklfbaaGreatDoorRows
import Derived.Test.YtgcjnhocoklfbaaGreatDoorOwn
import Derived.Test.YtgcjnhocoklfbaaGreatDoorQuiet
namespace Go.XL
open Go.RowKit Go.Shelf
set_option linter.unusedVariables false
set_option linter.unusedSimpArgs false

/-- one of a vector -/
def vget (xs : List Int) (i : Int) : Int := if 0 ≤ i ∧ i < xs.length then xs[i.toNat]?.getD 0 else 0
/-- a vector with one put -/
def vwith (xs : List Int) (i n : Int) : List Int := if i < 0 ∨ 63 < i then xs else (xs ++ List.replicate (i.toNat + 1 - xs.length) 0).set i.toNat n
/-- place by place -/
def vboth (g : Int → Int → Int) (a b : List Int) : List Int := (List.range (max a.length b.length)).map fun i : Nat => g (vget a i) (vget b i)
def vcov (a b : List Int) : Bool := (List.range (max a.length b.length)).all fun i : Nat => decide (vget b i ≤ vget a i)
theorem vget_nat (xs : List Int) (k : Nat) : vget xs k = xs[k]?.getD 0 := by
  unfold vget
  by_cases h : k < xs.length
  · rw [if_pos ⟨by omega, by omega⟩]; simp
  · rw [if_neg (by omega)]; simp [List.getElem?_eq_none (by omega : xs.length ≤ k)]
/-- v is a slice of the numbers xs -/
abbrev IntsAt (w : World) (v : Value) (xs : List Int) : Prop := Rd w 1 v xs.length (xs.map (Value.int .i64))
/-- .. made since w -/
abbrev Made (E : TypeId) (w w' : World) (v : Value) (xs : List Int) : Prop := Ow w w' E 1 v xs.length (xs.map (Value.int .i64))
end Go.XL
namespace Go.Proofs.YtgcjnhocoklfbaaGreatDoor
open Go.RowKit Go.Shelf Go.XL
set_option linter.unusedVariables false
set_option linter.unusedSimpArgs false
attribute [local go_sem] Oper.semAt_some
theorem Tryz.info3 : (Tryz.prog.info? 3).map (fun i => (i.zero, i.size, i.bytes)) = some (some (.int .i64 0), 1, 8) := by kernel_rfl

set_option maxRecDepth 100000 in
set_option maxHeartbeats 400000 in
theorem vec_get (v : Value) (xs : List Int) (i : Int) (w : World) (h : IntsAt w v xs) :
    Calls Tryz.prog 29 #[v, .int .i64 i] w fun e w' => e = .returned (.int .i64 (vget xs i)) ∧ w = w' := by
  obtain ⟨ao, cap, rfl, hcap, hmx⟩ := h.cap
  have Hh := Lib.hid h
  clear h
  by_cases h1 : i < 0
  · have hv : vget xs i = 0 := by unfold vget; rw [if_neg (by omega)]
    rw [hv]
    go_enter Tryz.func29, Tryz.ntmps29
    go_wp2
    go_ret
    exact ⟨rfl, rfl⟩
  · by_cases h2 : (xs.length : Int) ≤ i
    · have hv : vget xs i = 0 := by unfold vget; rw [if_neg (by omega)]
      rw [hv]
      go_enter Tryz.func29, Tryz.ntmps29
      go_wp2
      go_ret
      exact ⟨rfl, rfl⟩
    · obtain ⟨k, rfl⟩ : ∃ k : Nat, i = k := ⟨i.toNat, by omega⟩
      obtain ⟨g, off, c, he, _, _, hx⟩ := Hh.out.form (by omega)
      cases he
      have hk : k < xs.length := by omega
      obtain ⟨x, hxk⟩ : ∃ x, xs[k]? = some x := ⟨xs[k], by simp [hk]⟩
      have hc : w.cell? ⟨g, off + k, none⟩ = some (.int .i64 x) := hx k _ (by simp [hxk])
      have hv : vget xs k = x := by rw [vget_nat, hxk]; rfl
      rw [hv]
      clear hx hv hxk
      generalize xs.length = n at *
      go_enter Tryz.func29, Tryz.ntmps29
      go_wp2
      go_ret
      exact ⟨rfl, rfl⟩

/-- With's slice: the vector, and noughts behind it -/
def WithI (w wr : World) (v : Value) (xs : List Int) (n k : Nat) : Prop := ∃ m : Nat, n = xs.length + m ∧ (m = 0 ∨ n ≤ k + 1) ∧ Ow w wr 3 1 v n ((xs ++ List.replicate m 0).map (Value.int .i64))

/-- up to i the one covers the other -/
def covTo (a b : List Int) (i : Nat) : Prop := ∀ j : Nat, j < i → vget b j ≤ vget a j
theorem vcov_iff (a b : List Int) : vcov a b = true ↔ covTo a b (max a.length b.length) := by
  unfold vcov covTo; rw [List.all_eq_true]; simp

set_option maxRecDepth 100000 in
set_option maxHeartbeats 400000 in
theorem vec_covers (v1 v2 : Value) (a b : List Int) (w : World) (h1 : IntsAt w v1 a) (h2 : IntsAt w v2 b) :
    Calls Tryz.prog 60 #[v1, v2] w fun e w' => e = .returned (.bool (vcov a b)) ∧ w = w' := by
  obtain ⟨ao1, cap1, rfl, hc1, hm1⟩ := h1.cap
  obtain ⟨ao2, cap2, rfl, hc2, hm2⟩ := h2.cap
  obtain ⟨N, hN⟩ : ∃ N : Nat, max a.length b.length = N := ⟨_, rfl⟩
  have hv := vcov_iff a b
  rw [hN] at hv
  have H1 := Lib.hid h1
  have H2 := Lib.hid h2
  have Hv := Lib.hid hv
  clear h1 h2 hv
  go_enter Tryz.func60, Tryz.ntmps60
  have hNb : (N : Int) ≤ 9223372036854775807 := by omega
  go_wp2_with fail
  all_goals first | rw [show (b.length : Int) = N by omega] | rw [show (a.length : Int) = N by omega]
  all_goals
    clear hN
    go_loop [11] (fun jv => ∃ (j : Nat), j ≤ N ∧ jv = .int .i64 j ∧ Hid (covTo a b j)) (fun jv => N - (intOf jv).toNat)
    case atStart => exact ⟨0, Nat.zero_le _, rfl, Lib.hid (fun j h => by omega)⟩
    case round =>
      obtain ⟨j, hj, rfl, hC⟩ := hrel
      by_cases hlt : j < N
      · go_wp2_with fail
        refine (vec_get _ a j _ H1.out).mono ?_
        rintro e w' ⟨rfl, rfl⟩
        go_wp2_with fail
        refine (vec_get _ b j _ H2.out).mono ?_
        rintro e w' ⟨rfl, rfl⟩
        by_cases hcm : vget a j < vget b j
        · go_wp2
          go_ret
          have e1 : vcov a b = false := by
            rw [← Bool.not_eq_true, Hv.out]; intro h; have := h j hlt; omega
          rw [e1]
          exact ⟨rfl, rfl⟩
        · go_wp2
          go_round
          case rel => exact ⟨j + 1, by omega, by go_num, Lib.hid (fun t ht => by rcases Nat.lt_succ_iff_lt_or_eq.1 ht with h | rfl <;> first | exact hC.out t h | omega)⟩
          case measure => simp [intOf]; omega
      · obtain rfl : j = N := by omega
        go_wp2
        go_ret
        have e1 : vcov a b = true := Hv.out.2 hC.out
        rw [e1]
        exact ⟨rfl, rfl⟩
theorem vec_same (v1 v2 : Value) (a b : List Int) (w : World) (h1 : IntsAt w v1 a) (h2 : IntsAt w v2 b) :
    Calls Tryz.prog 42 #[v1, v2] w fun e w' => e = .returned (.bool (vcov a b && vcov b a)) ∧ w = w' := by
  have c1 := vec_covers v1 v2 a b w h1 h2
  have c2 := vec_covers v2 v1 b a w h2 h1
  go_enter Tryz.func42, Tryz.ntmps42
  go_wp2_with fail
  refine c1.mono ?_
  rintro e w' ⟨rfl, rfl⟩
  cases hx : vcov a b
  · go_wp2
    go_ret
    exact ⟨by simp [hx], rfl⟩
  · go_wp2_with fail
    refine c2.mono ?_
    rintro e w' ⟨rfl, rfl⟩
    go_wp2
    go_ret
    exact ⟨by simp [hx], rfl⟩
end Go.Proofs.YtgcjnhocoklfbaaGreatDoor
