/- Plain laws of the token: drafts at once, or one after the other. -/
import Derived.Test.YtdddgfienicaaaaTokRp
namespace Go.XL
open Go.RowKit Go.Shelf
set_option linter.unusedVariables false
set_option linter.unusedSimpArgs false
theorem vget_out' (xs : List Int) (j : Nat) (h : xs.length ≤ j) : vget xs j = 0 := by rw [vget_nat, List.getElem?_eq_none h]; rfl
theorem vcov_at (a b : List Int) : vcov a b = true ↔ ∀ j : Nat, vget b j ≤ vget a j := by
  unfold vcov
  rw [List.all_eq_true]
  constructor
  · intro h j
    by_cases hj : j < max a.length b.length
    · simpa using h j (List.mem_range.2 hj)
    · rw [vget_out' a j (by omega), vget_out' b j (by omega)]; exact Int.le_refl _
  · intro h j _; simpa using h j
theorem vget_vwith (xs : List Int) (s : Nat) (q : Int) (hs : s ≤ 63) (j : Nat) : vget (vwith xs s q) j = if j = s then q else vget xs j := by
  unfold vwith
  rw [if_neg (by omega), vget_nat, vget_nat, Int.toNat_natCast]
  rw [List.getElem?_set]
  by_cases h : s = j
  · subst h
    simp
    rw [if_pos (by omega)]; rfl
  · rw [if_neg h, if_neg (fun e => h e.symm)]
    by_cases hj : j < xs.length
    · rw [List.getElem?_append_left hj]
    · rw [List.getElem?_append_right (by omega), List.getElem?_eq_none (l := xs) (by omega)]
      by_cases hk : j - xs.length < s + 1 - xs.length
      · rw [List.getElem?_replicate, if_pos hk]; rfl
      · rw [List.getElem?_replicate, if_neg hk]
/-- no draft may come any more -/
def Shut (D : List Dr) (S : List Int) : Prop := ∀ d ∈ D, d.q = vget S d.s + 1 → vcov S d.dep = false
theorem vcov_mono {a b c : List Int} (h : ∀ j : Nat, vget a j ≤ vget b j) (h2 : vcov a c = true) : vcov b c = true := (vcov_at _ _).2 fun j => Int.le_trans ((vcov_at _ _).1 h2 j) (h j)
/-- a step stays below what is shut -/
theorem below_step {D : List Dr} {S V : List Int} {own : Int} {d : Dr} (hS : Shut D S) (hV : ∀ j : Nat, vget V j ≤ vget S j) (hd : d ∈ D) (ho : d.s ≠ own) (hs : 0 ≤ d.s ∧ d.s < 8) (hm : dmay own V d = true) :
    ∀ j : Nat, vget (vwith V d.s (dfix own V d).q) j ≤ vget S j := by
  have hfx : (dfix own V d).q = d.q := by unfold dfix; rw [if_neg ho]
  unfold dmay at hm
  rw [if_neg ho] at hm
  simp only [Bool.and_eq_true, decide_eq_true_eq] at hm
  obtain ⟨k, hk⟩ : ∃ k : Nat, d.s = k := ⟨d.s.toNat, by omega⟩
  intro j
  rw [hfx, hk, vget_vwith _ _ _ (by omega)]
  split
  · rename_i e
    subst e
    have h1 := hm.1
    rw [hk] at h1
    have h2 := hV j
    by_cases h3 : vget V j = vget S j
    · have h4 := hS d hd (by rw [hk, ← h3]; exact h1)
      rw [vcov_mono hV hm.2] at h4
      cases h4
    · omega
  · exact hV j
theorem below_run {D : List Dr} {S : List Int} {own : Int} (hS : Shut D S) : ∀ (n : Nat) (a : AS), (∀ d ∈ a.left, d ∈ D ∧ d.s ≠ own ∧ 0 ≤ d.s ∧ d.s < 8) → (∀ j : Nat, vget a.seen j ≤ vget S j) → ∀ j : Nat, vget (ago own n a).seen j ≤ vget S j
  | 0, a, _, h => h
  | n + 1, a, hl, h => by
    cases hf : afirst (dmay own a.seen) a.left 0 with
    | none => rw [ago_none hf]; exact h
    | some y =>
      obtain ⟨i, d⟩ := y
      obtain ⟨h1, _, h3⟩ := afirst_mem hf
      rw [Nat.sub_zero] at h3
      obtain ⟨g1, g2, g3⟩ := hl d (List.mem_of_getElem? h3)
      rw [ago_some hf]
      exact below_run hS n _ (fun x hx => hl x (List.mem_of_mem_eraseIdx hx)) (below_step hS h g1 g2 g3 h1)
/-- lists of distinct things -/
theorem nodup_len {α : Type} [DecidableEq α] : ∀ (a b : List α), a.Nodup → (∀ x ∈ a, x ∈ b) → a.length ≤ b.length
  | [], b, _, _ => Nat.zero_le _
  | x :: r, b, hn, hs => by
    rw [List.nodup_cons] at hn
    have hx := hs x (by simp)
    have h1 := nodup_len r (b.erase x) hn.2 (fun y hy => (List.mem_erase_of_ne (fun e => hn.1 (by rw [← e]; exact hy))).2 (hs y (by simp [hy])))
    rw [List.length_erase_of_mem hx] at h1
    have := List.length_pos_of_mem hx
    simp
    omega
/-- all that is seen, counted (sites 0 .. 7) -/
def total (v : List Int) : Int := vget v (0 : Nat) + vget v (1 : Nat) + vget v (2 : Nat) + vget v (3 : Nat) + vget v (4 : Nat) + vget v (5 : Nat) + vget v (6 : Nat) + vget v (7 : Nat)
theorem total_step (v : List Int) (s : Nat) (hs : s < 8) : total (vwith v s (vget v s + 1)) = total v + 1 := by
  have h := fun j => vget_vwith v s (vget v s + 1) (by omega) j
  unfold total
  rw [h, h, h, h, h, h, h, h]
  rcases (show s = 0 ∨ s = 1 ∨ s = 2 ∨ s = 3 ∨ s = 4 ∨ s = 5 ∨ s = 6 ∨ s = 7 by omega) with rfl | rfl | rfl | rfl | rfl | rfl | rfl | rfl <;> simp <;> omega
theorem step_is {own : Int} {a : AS} {d : Dr} (ho : d.s ≠ own) (hs : 0 ≤ d.s ∧ d.s < 8) (hm : dmay own a.seen d = true) :
    ∃ k : Nat, k < 8 ∧ d.s = k ∧ d.q = vget a.seen k + 1 ∧ vwith a.seen d.s (dfix own a.seen d).q = vwith a.seen k (vget a.seen k + 1) := by
  have hfx : (dfix own a.seen d).q = d.q := by unfold dfix; rw [if_neg ho]
  unfold dmay at hm
  rw [if_neg ho] at hm
  simp only [Bool.and_eq_true, decide_eq_true_eq] at hm
  obtain ⟨k, hk⟩ : ∃ k : Nat, d.s = k := ⟨d.s.toNat, by omega⟩
  have h1 := hm.1
  rw [hk] at h1
  exact ⟨k, by omega, hk, h1, by rw [hfx, hk, h1]⟩
/-- what a run keeps -/
theorem run_facts {own : Int} : ∀ (n : Nat) (a : AS), (∀ d ∈ a.left, d.s ≠ own ∧ 0 ≤ d.s ∧ d.s < 8) →
    (∀ j : Nat, vget a.seen j ≤ vget (ago own n a).seen j) ∧ (∀ d ∈ a.left, d ∈ (ago own n a).left ∨ d.q ≤ vget (ago own n a).seen d.s) ∧ (∀ d ∈ (ago own n a).left, d ∈ a.left) ∧
    total (ago own n a).seen + a.out.length = total a.seen + (ago own n a).out.length ∧ (ago own n a).next + a.out.length = a.next + (ago own n a).out.length
  | 0, a, _ => ⟨fun _ => Int.le_refl _, fun d h => .inl h, fun d h => h, by simp [ago], by simp [ago]⟩
  | n + 1, a, hl => by
    cases hf : afirst (dmay own a.seen) a.left 0 with
    | none => rw [ago_none hf]; exact ⟨fun _ => Int.le_refl _, fun d h => .inl h, fun d h => h, rfl, rfl⟩
    | some y =>
      obtain ⟨i, d⟩ := y
      obtain ⟨h1, _, h3⟩ := afirst_mem hf
      rw [Nat.sub_zero] at h3
      obtain ⟨g1, g2⟩ := hl d (List.mem_of_getElem? h3)
      obtain ⟨k, k1, k2, k3, k4⟩ := step_is (a := a) g1 g2 h1
      rw [ago_some hf]
      obtain ⟨r1, r2, r3, r4, r5⟩ := run_facts (own := own) n (astep own a i d) (fun x hx => hl x (List.mem_of_mem_eraseIdx hx))
      have hse : (astep own a i d).seen = vwith a.seen k (vget a.seen k + 1) := k4
      have hlen : (astep own a i d).out.length = a.out.length + 1 := by simp [astep]
      have hnx : (astep own a i d).next = a.next + 1 := rfl
      rw [hse] at r1 r4
      rw [hlen] at r4 r5
      rw [hnx] at r5
      rw [total_step _ _ k1] at r4
      refine ⟨fun j => ?_, fun x hx => ?_, fun x hx => List.mem_of_mem_eraseIdx (r3 x hx), by omega, by omega⟩
      · have h := r1 j
        rw [vget_vwith _ _ _ (by omega)] at h
        split at h
        · rename_i e; subst e; omega
        · exact h
      · obtain ⟨m, hm, hmx⟩ := List.mem_iff_getElem.1 hx
        by_cases e : m = i
        · subst e
          rw [List.getElem?_eq_getElem hm, hmx] at h3
          cases h3
          have h := r1 k
          rw [vget_vwith _ _ _ (by omega), if_pos rfl] at h
          exact .inr (by rw [k2, k3]; exact h)
        · exact r2 x (by
            refine List.mem_iff_getElem?.2 ?_
            by_cases e2 : m < i
            · exact ⟨m, by show (a.left.eraseIdx i)[m]? = _; rw [List.getElem?_eraseIdx_of_lt e2, List.getElem?_eq_getElem hm, hmx]⟩
            · exact ⟨m - 1, by show (a.left.eraseIdx i)[m - 1]? = _; rw [List.getElem?_eraseIdx_of_ge (by omega), show m - 1 + 1 = m by omega, List.getElem?_eq_getElem hm, hmx]⟩)
end Go.XL
