/- Plain laws of the token: who waits, at once or one after the other. -/
import Derived.Test.YtdddgfienicaaaaTokSp
namespace Go.XL
open Go.RowKit Go.Shelf
set_option linter.unusedVariables false
set_option linter.unusedSimpArgs false
def Dr.key2 (d : Dr) : Int × Int := (d.s, d.q)
theorem alate_facts {own : Int} {seen : List Int} : ∀ (l acc : List Dr), (∀ d ∈ l, d.s ≠ own) → (acc.map Dr.key2).Nodup →
    (∀ d ∈ l, d.q ≤ vget seen d.s ∨ ∃ x ∈ alate own seen l acc, x.s = d.s ∧ x.q = d.q) ∧ (∀ x ∈ acc, x ∈ alate own seen l acc) ∧
    (∀ x ∈ alate own seen l acc, x ∈ acc ∨ (x ∈ l ∧ vget seen x.s < x.q)) ∧ ((alate own seen l acc).map Dr.key2).Nodup
  | [], acc, _, hn => ⟨fun d h => by simp at h, fun x h => h, fun x h => .inl h, hn⟩
  | d :: r, acc, hl, hn => by
    have hdo := hl d (by simp)
    have hr := fun x hx => hl x (List.mem_cons_of_mem d hx)
    by_cases hg : dgone own seen d acc = true
    · have e : alate own seen (d :: r) acc = alate own seen r acc := by rw [alate, if_pos hg]
      rw [e]
      obtain ⟨a1, a2, a3, a4⟩ := alate_facts (own := own) (seen := seen) r acc hr hn
      refine ⟨fun x hx => ?_, a2, fun x hx => (a3 x hx).imp (fun h => h) (fun h => ⟨List.mem_cons_of_mem _ h.1, h.2⟩), a4⟩
      rcases List.mem_cons.1 hx with rfl | hx
      · unfold dgone at hg
        rw [if_neg hdo] at hg
        rcases Bool.or_eq_true_iff.1 hg with h | h
        · exact .inl (by simpa using h)
        · obtain ⟨y, hy, hk⟩ := List.any_eq_true.1 h
          simp only [Bool.and_eq_true, decide_eq_true_eq] at hk
          exact .inr ⟨y, a2 y hy, hk⟩
      · exact a1 x hx
    · have e : alate own seen (d :: r) acc = alate own seen r (acc ++ [d]) := by rw [alate, if_neg hg]
      rw [e]
      have hg2 : dgone own seen d acc = false := by simpa using hg
      unfold dgone at hg2
      rw [if_neg hdo] at hg2
      obtain ⟨g1, g2⟩ := Bool.or_eq_false_iff.1 hg2
      have g1 : ¬ d.q ≤ vget seen d.s := by simpa using g1
      have hn2 : ((acc ++ [d]).map Dr.key2).Nodup := by
        rw [List.map_append, List.nodup_append]
        refine ⟨hn, by simp, fun x hx y hy e => ?_⟩
        obtain ⟨z, hz, rfl⟩ := List.mem_map.1 hx
        simp at hy
        subst hy
        have h2 := List.any_eq_false.1 g2 z hz
        simp only [Dr.key2, Prod.mk.injEq] at e
        simp [e.1, e.2] at h2
      obtain ⟨a1, a2, a3, a4⟩ := alate_facts (own := own) (seen := seen) r (acc ++ [d]) hr hn2
      refine ⟨fun x hx => ?_, fun x hx => a2 x (by simp [hx]), fun x hx => ?_, a4⟩
      · rcases List.mem_cons.1 hx with rfl | hx
        · exact .inr ⟨x, a2 x (by simp), rfl, rfl⟩
        · exact a1 x hx
      · rcases a3 x hx with h | h
        · rcases List.mem_append.1 h with h | h
          · exact .inl h
          · simp at h
            subst h
            exact .inr ⟨by simp, by omega⟩
        · exact .inr ⟨List.mem_cons_of_mem _ h.1, h.2⟩
/-- who waits covers what was handed over -/
structure SpC (D : List Dr) (seen : List Int) (late : List Dr) : Prop where
  sub : ∀ x ∈ late, x ∈ D
  cov : ∀ d ∈ D, d.q ≤ vget seen d.s ∨ ∃ x ∈ late, x.s = d.s ∧ x.q = d.q
structure SpQ (own : Int) (D : List Dr) (seen : List Int) (late : List Dr) : Prop where
  c : SpC D seen late
  new : ∀ x ∈ late, vget seen x.s < x.q
  dist : (late.map Dr.key2).Nodup
  stay : ∀ x ∈ late, dmay own seen x = false
theorem sp_step {own : Int} {D more late : List Dr} {seen : List Int} {next : Int} {n : Nat} (h : SpC D seen late) (hd : ∀ d ∈ D ++ more, d.s ≠ own ∧ 0 ≤ d.s ∧ d.s < 8) (hn : (late ++ more).length ≤ n) :
    SpQ own (D ++ more) (ago own n ⟨next, seen, late ++ more, []⟩).seen (alate own (ago own n ⟨next, seen, late ++ more, []⟩).seen (ago own n ⟨next, seen, late ++ more, []⟩).left []) := by
  have hin : ∀ d ∈ late ++ more, d ∈ D ++ more := fun d hd => by
    rcases List.mem_append.1 hd with h' | h'
    · exact List.mem_append.2 (.inl (h.sub d h'))
    · exact List.mem_append.2 (.inr h')
  obtain ⟨r1, r2, r3, _, _⟩ := run_facts (own := own) n ⟨next, seen, late ++ more, []⟩ (fun d h' => hd d (hin d h'))
  have hend := afirst_none' (ago_ends own n ⟨next, seen, late ++ more, []⟩ hn)
  generalize ago own n ⟨next, seen, late ++ more, []⟩ = R at *
  obtain ⟨a1, _, a3, a4⟩ := alate_facts (own := own) (seen := R.seen) R.left [] (fun d h' => (hd d (hin d (r3 d h'))).1) (by simp)
  have hfrom : ∀ x ∈ late ++ more, x.q ≤ vget R.seen x.s ∨ ∃ y ∈ alate own R.seen R.left [], y.s = x.s ∧ y.q = x.q := fun x hx => by
    rcases r2 x hx with h' | h'
    · exact a1 x h'
    · exact .inl h'
  have hmem : ∀ x ∈ alate own R.seen R.left [], x ∈ R.left ∧ vget R.seen x.s < x.q := fun x hx => by
    rcases a3 x hx with h' | h'
    · simp at h'
    · exact h'
  refine ⟨⟨fun x hx => hin x (r3 x (hmem x hx).1), fun d hdm => ?_⟩, fun x hx => (hmem x hx).2, a4, fun x hx => hend x (hmem x hx).1⟩
  rcases List.mem_append.1 hdm with h' | h'
  · rcases h.cov d h' with h2 | ⟨x, hx, e1, e2⟩
    · obtain ⟨k, hk⟩ : ∃ k : Nat, d.s = k := ⟨d.s.toNat, by have := hd d hdm; omega⟩
      have := r1 k
      rw [hk] at h2 ⊢
      exact .inl (Int.le_trans h2 this)
    · rcases hfrom x (List.mem_append.2 (.inl hx)) with h3 | ⟨y, hy, f1, f2⟩
      · exact .inl (by rw [← e1, ← e2]; exact h3)
      · exact .inr ⟨y, hy, f1.trans e1, f2.trans e2⟩
  · exact hfrom d (List.mem_append.2 (.inr h'))
theorem spQ_shut {own : Int} {D late : List Dr} {S : List Int} (h : SpQ own D S late) (hd : ∀ d ∈ D, d.s ≠ own) (hsame : ∀ d ∈ D, ∀ x ∈ D, x.s = d.s → x.q = d.q → vcov d.dep x.dep = true) : Shut D S := fun d hdm hq => by
  rcases h.c.cov d hdm with h1 | ⟨x, hx, e1, e2⟩
  · omega
  · have h2 := h.stay x hx
    unfold dmay at h2
    rw [if_neg (hd x (h.c.sub x hx)), e1, e2, hq] at h2
    simp at h2
    cases hc : vcov S d.dep with
    | false => rfl
    | true =>
      have h3 := hsame d hdm x (h.c.sub x hx) e1 e2
      have h4 : vcov S x.dep = true := (vcov_at _ _).2 fun j => Int.le_trans ((vcov_at _ _).1 h3 j) ((vcov_at _ _).1 hc j)
      rw [h4] at h2
      cases h2
end Go.XL
