/- Plain laws of the token: what is admitted stands behind all that it hangs on. -/
import Derived.Test.YtdddgfienicaaaaTok3
namespace Go.XL
open Go.RowKit Go.Shelf
set_option linter.unusedVariables false
set_option linter.unusedSimpArgs false
/-- positions one by one, numbers of each site one by one, behind all that they hang on -/
def Chain : List Int → Int → List (Int × Dr) → List Int → Prop
  | v, p, [], e => v = e
  | v, p, x :: r, e => x.1 = p ∧ x.2.q = vget v x.2.s + 1 ∧ vcov v x.2.dep = true ∧ (0 ≤ x.2.q ∧ x.2.q ≤ 1048576) ∧ Chain (vwith v x.2.s x.2.q) (p + 1) r e
theorem may_fix {own : Int} {seen : List Int} {d : Dr} (h : dmay own seen d = true) : (dfix own seen d).q = vget seen d.s + 1 ∧ vcov seen d.dep = true ∧ (dfix own seen d).s = d.s ∧ (dfix own seen d).dep = d.dep := by
  unfold dmay at h
  unfold dfix
  by_cases e : d.s = own
  · rw [if_pos e] at h ⊢
    simp only [Bool.and_eq_true, decide_eq_true_eq] at h
    exact ⟨by dsimp only; rw [e], h.2, rfl, rfl⟩
  · rw [if_neg e] at h ⊢
    simp only [Bool.and_eq_true, decide_eq_true_eq] at h
    exact ⟨h.1, h.2, rfl, rfl⟩
theorem afirst_mem {p : Dr → Bool} : ∀ {l : List Dr} {k i : Nat} {d : Dr}, afirst p l k = some (i, d) → p d = true ∧ k ≤ i ∧ l[i - k]? = some d
  | [], k, i, d, h => by simp [afirst] at h
  | x :: r, k, i, d, h => by
    rw [afirst] at h
    split at h
    · rename_i hp
      cases h
      exact ⟨hp, Nat.le_refl _, by simp⟩
    · obtain ⟨h1, h2, h3⟩ := afirst_mem h
      refine ⟨h1, by omega, ?_⟩
      rw [show i - k = (i - (k + 1)) + 1 by omega]
      simpa using h3
theorem afirst_none' {p : Dr → Bool} : ∀ {l : List Dr} {k : Nat}, afirst p l k = none → ∀ x ∈ l, p x = false
  | [], k, h, x, hx => by simp at hx
  | y :: r, k, h, x, hx => by
    rw [afirst] at h
    split at h
    · cases h
    · rename_i hp
      rcases List.mem_cons.1 hx with rfl | hx
      · simpa using hp
      · exact afirst_none' h x hx
theorem afirst_of_none {p : Dr → Bool} : ∀ {l : List Dr} {k : Nat}, (∀ x ∈ l, p x = false) → afirst p l k = none
  | [], k, h => rfl
  | y :: r, k, h => by
    rw [afirst, if_neg (by rw [h y (by simp)]; decide)]
    exact afirst_of_none (fun x hx => h x (by simp [hx]))
theorem ago_chain (own : Int) : ∀ (n : Nat) (a : AS), SeenOk a.seen → (∀ d ∈ a.left, 0 ≤ d.q ∧ d.q ≤ 1048576) →
    ∃ more, (ago own n a).out = a.out ++ more ∧ Chain a.seen a.next more (ago own n a).seen ∧ (ago own n a).next = a.next + more.length ∧ (ago own n a).left.length + more.length = a.left.length
  | 0, a, _, _ => ⟨[], by simp [ago], rfl, by simp [ago], by simp [ago]⟩
  | n + 1, a, hs, hl => by
    cases hf : afirst (dmay own a.seen) a.left 0 with
    | none => rw [ago_none hf]; exact ⟨[], by simp, rfl, by simp, by simp⟩
    | some y =>
      obtain ⟨i, d⟩ := y
      obtain ⟨h1, _, h3⟩ := afirst_mem hf
      rw [Nat.sub_zero] at h3
      have hd := hl d (List.mem_of_getElem? h3)
      have hlt := (List.getElem?_eq_some_iff.1 h3).1
      have hq := dfix_q hs h1 hd
      obtain ⟨g1, g2, g3, g4⟩ := may_fix h1
      rw [ago_some hf]
      obtain ⟨more, k1, k2, k3, k4⟩ := ago_chain own n (astep own a i d) (vwith_ok hs hq) (fun x hx => hl x (List.mem_of_mem_eraseIdx hx))
      refine ⟨(a.next, dfix own a.seen d) :: more, ?_, ⟨rfl, by dsimp only; rw [g1, g3], by dsimp only; rw [g4]; exact g2, hq, by dsimp only; rw [g3]; exact k2⟩, ?_, ?_⟩
      · rw [k1]; simp [astep]
      · rw [k3]; simp [astep]; omega
      · have e5 : (astep own a i d).left.length = a.left.length - 1 := List.length_eraseIdx_of_lt hlt
        rw [e5] at k4; simp; omega
theorem ago_ends (own : Int) : ∀ (n : Nat) (a : AS), a.left.length ≤ n → afirst (dmay own (ago own n a).seen) (ago own n a).left 0 = none
  | 0, a, h => by
    have : a.left = [] := List.eq_nil_of_length_eq_zero (Nat.le_zero.1 h)
    simp [ago, this, afirst]
  | n + 1, a, h => by
    cases hf : afirst (dmay own a.seen) a.left 0 with
    | none => rw [ago_none hf]; exact hf
    | some y =>
      obtain ⟨i, d⟩ := y
      obtain ⟨_, _, h3⟩ := afirst_mem hf
      rw [Nat.sub_zero] at h3
      have hlt := (List.getElem?_eq_some_iff.1 h3).1
      rw [ago_some hf]
      exact ago_ends own n _ (by simp only [astep, List.length_eraseIdx_of_lt hlt]; omega)
theorem alate_ext (own : Int) (seen : List Int) : ∀ (l acc : List Dr), ∃ ext, alate own seen l acc = acc ++ ext ∧ alate own seen ext acc = acc ++ ext
  | [], acc => ⟨[], by simp [alate], by simp [alate]⟩
  | d :: r, acc => by
    by_cases h : dgone own seen d acc = true
    · obtain ⟨ext, h1, h2⟩ := alate_ext own seen r acc
      exact ⟨ext, by rw [alate, if_pos h, h1], h2⟩
    · obtain ⟨ext, h1, h2⟩ := alate_ext own seen r (acc ++ [d])
      exact ⟨d :: ext, by rw [alate, if_neg h, h1]; simp, by rw [alate, if_neg h, h2]; simp⟩
theorem alate_idem (own : Int) (seen : List Int) (l : List Dr) : alate own seen (alate own seen l []) [] = alate own seen l [] := by
  obtain ⟨ext, h1, h2⟩ := alate_ext own seen l []
  rw [List.nil_append] at h1 h2
  rw [h1, h2]
/-- the second time nothing is admitted, all wait on -/
theorem ago_again (own : Int) (n m : Nat) (a : AS) (h : a.left.length ≤ n) (R : AS) (hR : ago own n a = R) :
    ago own m ⟨R.next, R.seen, alate own R.seen R.left [], []⟩ = ⟨R.next, R.seen, alate own R.seen R.left [], []⟩ ∧ (∀ x ∈ alate own R.seen R.left [], dmay own R.seen x = false) := by
  subst hR
  have h1 := afirst_none' (ago_ends own n a h)
  have h2 : ∀ x ∈ alate own (ago own n a).seen (ago own n a).left [], dmay own (ago own n a).seen x = false := fun x hx => by
    rcases alate_mem _ _ x hx with hx | hx
    · exact h1 x hx
    · simp at hx
  refine ⟨ago_none (a := ⟨(ago own n a).next, (ago own n a).seen, alate own (ago own n a).seen (ago own n a).left [], []⟩) (afirst_of_none h2) m, h2⟩
end Go.XL
