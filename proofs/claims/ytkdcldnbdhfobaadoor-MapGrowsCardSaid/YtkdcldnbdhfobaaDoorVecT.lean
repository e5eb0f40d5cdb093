/- Contracts of the package vec: Sum, Text, Parse. -/
import Derived.Test.YtkdcldnbdhfobaaDoorVecN
namespace Go.XL
open Go.RowKit Go.Shelf
set_option linter.unusedVariables false
set_option linter.unusedSimpArgs false
/-- how many places there are up to the last one that is not nothing -/
def vlast (xs : List Int) : Nat := (vallF xs 0).foldl (fun _ x => x.1 + 1) 0
/-- a vector in words -/
def vtext (xs : List Int) : List UInt8 := 91 :: (wjoin ((xs.take (vlast xs)).map Lib.itoa) ++ [93])
/-- numbers of 64 bits -/
def I64s (xs : List Int) : Prop := ∀ x ∈ xs, -9223372036854775808 ≤ x ∧ x ≤ 9223372036854775807
/-- what a text is as a vector -/
def vwords (ws : List (List UInt8)) : List Int × Int :=
  if ws.all digs then (if ws.getLast? = some [48] then ([], 2) else if (ws.all fun w => decide ((dval w : Int) ≤ 1048576)) && decide (ws.length ≤ 8) then (ws.map fun w => (dval w : Int), 0) else ([], 4)) else ([], 2)
def vparse (l : List UInt8) : List Int × Int :=
  if l.head? = some 91 ∧ l.tail.getLast? = some 93 then (if l.tail.dropLast = [] then ([], 0) else vwords (wsplit l.tail.dropLast)) else ([], 2)
def vsum (xs : List Int) : Int := xs.foldl (· + ·) 0
theorem vsum_go (xs : List Int) : ∀ a : Int, xs.foldl (· + ·) a = a + vsum xs := by
  induction xs with
  | nil => intro a; simp [vsum]
  | cons x xs ih =>
    intro a
    have e : vsum (x :: xs) = xs.foldl (· + ·) (0 + x) := rfl
    rw [e, List.foldl_cons, ih (a + x), ih (0 + x)]; omega
theorem vsum_cons (x : Int) (xs : List Int) : vsum (x :: xs) = x + vsum xs := by
  have e : vsum (x :: xs) = xs.foldl (· + ·) (0 + x) := rfl
  rw [e, vsum_go]; omega
theorem vsum_nonneg (xs : List Int) (h : ∀ x ∈ xs, 0 ≤ x) : 0 ≤ vsum xs := by
  induction xs with
  | nil => exact Int.le_refl _
  | cons x xs ih => rw [vsum_cons]; have := h x (by simp); have := ih (fun y hy => h y (by simp [hy])); omega
theorem vsum_all (xs : List Int) : ∀ k, vsum ((vallF xs k).map Prod.snd) = vsum xs := by
  induction xs with
  | nil => intro k; rfl
  | cons x xs ih =>
    intro k
    rw [vallF]
    by_cases h : x = 0
    · rw [if_pos h, ih, vsum_cons, h]; omega
    · rw [if_neg h, List.map_cons, vsum_cons, vsum_cons, ih]
theorem vallF_mem (xs : List Int) : ∀ k (x : Nat × Int), x ∈ vallF xs k → x.2 ∈ xs ∧ x.2 ≠ 0 ∧ k ≤ x.1 ∧ x.1 < k + xs.length := by
  induction xs with
  | nil => intro k x hx; simp [vallF] at hx
  | cons a xs ih =>
    intro k x hx
    rw [vallF] at hx
    by_cases h : a = 0
    · rw [if_pos h] at hx
      obtain ⟨h1, h2, h3, h4⟩ := ih _ _ hx
      exact ⟨by simp [h1], h2, by omega, by simp; omega⟩
    · rw [if_neg h] at hx
      rcases List.mem_cons.1 hx with rfl | hx
      · exact ⟨by simp, h, Nat.le_refl _, by simp⟩
      · obtain ⟨h1, h2, h3, h4⟩ := ih _ _ hx
        exact ⟨by simp [h1], h2, by omega, by simp; omega⟩
theorem dd_len : ∀ (k u : Nat), u < 10 ^ k → (Lib.decDigits u).length ≤ k + 1
  | 0, u, h => by rw [Lib.decDigits_one (by simp at h; omega)]; simp
  | k + 1, u, h => by
    rw [Lib.decDigits]
    by_cases h1 : u < 10
    · rw [dif_pos h1]; simp
    · rw [dif_neg h1, List.length_append]
      have := dd_len k (u / 10) (by rw [Nat.pow_succ] at h; omega)
      simp; omega
theorem itoa_len (n : Int) (h0 : -9223372036854775808 ≤ n) (h1 : n ≤ 9223372036854775807) : (Lib.itoa n).length ≤ 22 := by
  unfold Lib.itoa
  split
  · have := dd_len 20 n.natAbs (by have e : (10 : Nat) ^ 20 = 100000000000000000000 := by decide
                                   omega)
    simp; omega
  · have := dd_len 20 n.toNat (by have e : (10 : Nat) ^ 20 = 100000000000000000000 := by decide
                                  omega)
    omega
theorem wjoin_len : ∀ (ws : List (List UInt8)), (∀ w ∈ ws, w.length ≤ 22) → (wjoin ws).length ≤ 23 * ws.length
  | [], _ => by simp [wjoin]
  | [w], h => by have := h w (by simp); simp [wjoin]; omega
  | w :: w2 :: ws, h => by
    have h1 := h w (by simp)
    have h2 := wjoin_len (w2 :: ws) (fun v hv => h v (by simp only [List.mem_cons] at hv ⊢; exact .inr hv))
    rw [wjoin, List.length_append, List.length_cons, List.length_cons]
    rw [List.length_cons] at h2 ⊢
    omega
theorem run_cutTo0 {P : Program} (t e : TypeId) (i : TypeInfo) (size : Nat) (ht : P.underlying t = some (.slice e)) (hi : P.info? e = some i) (hsz : i.size = size) (ao : Option Addr) (n cap hi' : Nat) (h2 : hi' ≤ cap) (h0 : ao = none → cap = 0) :
    (∀ w, (Instr.slice t (.slice ao n cap) none (some (.int .i64 hi')) none).run P w = .ok (.slice ao hi' cap) w) := by
  subst hsz
  intro w
  cases ao with
  | none =>
    have h3 := h0 rfl
    subst h3
    have h4 : hi' = 0 := by omega
    subst h4
    simp [Instr.slice, run_underlying ht, Instr.sliceBounds, Instr.sliceBound, asIntOf, sizeOf, typeInfo, hi]
  | some a =>
    simp [Instr.slice, run_underlying ht, Instr.sliceBounds, Instr.sliceBound, asIntOf, h2, sizeOf, typeInfo, hi]
    by_cases hc : cap = 0
    · simp [hc]
    · have : a.add 0 = a := by simp [Addr.add]
      simp [this]
theorem vlast_le (xs : List Int) : vlast xs ≤ xs.length := by
  have key : ∀ (l : List (Nat × Int)) (a : Nat), a ≤ xs.length → (∀ x ∈ l, x.1 < xs.length) → l.foldl (fun _ x => x.1 + 1) a ≤ xs.length := by
    intro l
    induction l with
    | nil => exact fun a h _ => h
    | cons x l ih => intro a h h2; exact ih _ (h2 x (by simp)) (fun y hy => h2 y (by simp [hy]))
  exact key _ 0 (Nat.zero_le _) (fun x hx => by have := (vallF_mem xs 0 x hx).2.2.2; omega)
end Go.XL
namespace Go.Proofs.YtkdcldnbdhfobaaDoor
open Go.RowKit Go.Shelf Go.XL
set_option linter.unusedVariables false
set_option linter.unusedSimpArgs false
attribute [local go_sem] Oper.semAt_some
/-- the numbers in words, up to k -/
def TxO (w wr : World) (v : Value) (xs : List Int) (k : Nat) : Prop := Ow w wr 9 1 v k ((xs.take k).map fun x => Value.string ⟨(Lib.itoa x).toArray⟩)

end Go.Proofs.YtkdcldnbdhfobaaDoor
