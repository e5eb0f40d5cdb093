/- Plain laws: a record in words is read again as it was; what is read is told just so. -/
import Derived.Test.YtgcjnhocoklfbaaGreatDoorRcQ
import Derived.Test.YtgcjnhocoklfbaaGreatDoorVtx
import Derived.Test.YtgcjnhocoklfbaaGreatDoorRc2
import Derived.Test.YtgcjnhocoklfbaaGreatDoorRc4
namespace Go.XL
open Go.RowKit Go.Shelf
set_option linter.unusedVariables false
set_option linter.unusedSimpArgs false
theorem itoa_word {x : Int} (h0 : 0 ≤ x) (h1 : x ≤ 2147483647) : rnum (Lib.itoa x) = (x, true) ∧ ∀ c ∈ Lib.itoa x, isDig c = true := by
  have e := itoa_nat h0
  obtain ⟨d1, d2, d3, d4⟩ := decDigits_dig x.toNat
  rw [e]
  refine ⟨?_, fun c hc => List.all_eq_true.1 d1 c hc⟩
  rw [rnum_ok (digs_decDigits _) (by rw [d3]; omega), d3]
  congr 1
  omega
theorem vbad_zero {xs : List Int} (h : vbad xs = 0) : ∀ x ∈ xs, 0 ≤ x ∧ x ≤ 1048576 := by
  induction xs with
  | nil => intro x hx; cases hx
  | cons y r ih =>
    rw [vbad] at h
    split at h
    · cases h
    · split at h
      · cases h
      · intro x hx
        rcases List.mem_cons.1 hx with rfl | hx
        · omega
        · exact ih h x hx
theorem vcheck_zero {xs : List Int} {sites : Int} (h : vcheck xs sites = 0) : (xs.length : Int) ≤ sites ∧ ∀ x ∈ xs, 0 ≤ x ∧ x ≤ 1048576 := by
  unfold vcheck at h
  split at h
  · cases h
  · split at h
    · cases h
    · split at h
      · cases h
      · exact ⟨by omega, vbad_zero h⟩
theorem rccell_ok {key val : List UInt8} (h : rccell key val = 0) : nameOk key = true ∧ valOk val = true := by
  unfold rccell at h
  split at h
  · cases h
  · rename_i h1
    split at h
    · cases h
    · rename_i h2
      exact ⟨by simpa using fun e => h1 (.inr (.inr e)), by simpa using h2⟩
theorem rcheck_ok {s q : Int} {dep : List Int} {key val : List UInt8} {sites : Int} (h : rcheck s q dep key val sites = 0) :
    1 ≤ sites ∧ sites ≤ 8 ∧ 0 ≤ s ∧ s < sites ∧ 1 ≤ q ∧ q ≤ 1048576 ∧ vcheck dep sites = 0 ∧ vget dep s < q ∧ rccell key val = 0 := by
  unfold rcheck at h
  split at h
  · cases h
  · rename_i h1
    split at h
    · rename_i h2; exact absurd h h2
    · rename_i h2
      split at h
      · cases h
      · rename_i h3
        refine ⟨?_, ?_, ?_, ?_, ?_, ?_, by simpa using h2, ?_, h⟩ <;> omega
theorem wjoin_mem {c : UInt8} : ∀ ws : List (List UInt8), c ∈ wjoin ws → c = 32 ∨ ∃ w ∈ ws, c ∈ w := by
  intro ws
  induction ws with
  | nil => intro h; cases h
  | cons w ws ih =>
    intro h
    by_cases hn : ws = []
    · subst hn
      exact .inr ⟨w, by simp, by simpa [wjoin] using h⟩
    · rw [wjoin_cons w ws hn] at h
      rcases List.mem_append.1 h with h | h
      · exact .inr ⟨w, by simp, h⟩
      · rcases List.mem_cons.1 h with h | h
        · exact .inl h
        · rcases ih h with h | ⟨v, hv, hc⟩
          · exact .inl h
          · exact .inr ⟨v, by simp [hv], hc⟩
theorem dig_ne {c b : UInt8} (h : isDig c = true) (hb : b.toNat < 48 ∨ 57 < b.toNat) : c ≠ b := by
  intro e
  subst e
  have := dig_bounds h
  omega
theorem vget_takeI (xs : List Int) (s : Int) (h : 0 ≤ s) : vget (xs.take (vlast xs)) s = vget xs s := by
  obtain ⟨n, rfl⟩ : ∃ n : Nat, s = n := ⟨s.toNat, by omega⟩
  exact vget_take xs n
theorem rcheck_take {s q : Int} {dep : List Int} {key val : List UInt8} {sites : Int} (h : rcheck s q dep key val sites = 0) : rcheck s q (dep.take (vlast dep)) key val 8 = 0 := by
  obtain ⟨a1, a2, a3, a4, a5, a6, a7, a8, a9⟩ := rcheck_ok h
  obtain ⟨b1, b2⟩ := vcheck_zero a7
  unfold rcheck
  rw [if_neg (by omega), vcheck_ok (fun x hx => b2 x (List.mem_of_mem_take hx)) (by rw [List.length_take]; omega), if_neg (by simp), vget_takeI _ _ a3, if_neg (by omega)]
  exact a9
theorem rtext_form (s q : Int) (dep : List Int) (key val : List UInt8) : rtext s q dep key val = Lib.itoa s ++ 58 :: (Lib.itoa q ++ 32 :: ((91 :: wjoin ((dep.take (vlast dep)).map Lib.itoa)) ++ 93 :: 32 :: (key ++ 61 :: val))) := by
  unfold rtext vtext
  simp
theorem w3_no {dep : List Int} (h : ∀ x ∈ dep, 0 ≤ x ∧ x ≤ 1048576) : ∀ c ∈ 91 :: wjoin ((dep.take (vlast dep)).map Lib.itoa), c ≠ 93 := by
  intro c hc
  rcases List.mem_cons.1 hc with rfl | hc
  · decide
  · rcases wjoin_mem _ hc with rfl | ⟨w, hw, hcw⟩
    · decide
    · obtain ⟨x, hx, rfl⟩ := List.mem_map.1 hw
      have hb := h x (List.mem_of_mem_take hx)
      exact dig_ne ((itoa_word hb.1 (by omega)).2 c hcw) (by decide)
theorem name_no {key : List UInt8} (h : nameOk key = true) : ∀ c ∈ key, c ≠ 61 := by
  intro c hc e
  subst e
  have := List.all_eq_true.1 h _ hc
  revert this
  decide
/-- a record in words is read again as it was -/
theorem rparse_rtext {s q : Int} {dep : List Int} {key val : List UInt8} {sites : Int} (h : rcheck s q dep key val sites = 0) : rparse (rtext s q dep key val) = (⟨s, q, dep.take (vlast dep), key, val⟩, 0) := by
  obtain ⟨a1, a2, a3, a4, a5, a6, a7, a8, a9⟩ := rcheck_ok h
  obtain ⟨b1, b2⟩ := vcheck_zero a7
  obtain ⟨c1, c2⟩ := rccell_ok a9
  obtain ⟨n1, d1⟩ := itoa_word (x := s) a3 (by omega)
  obtain ⟨n2, d2⟩ := itoa_word (x := q) (by omega) (by omega)
  have hv : vparse ((91 :: wjoin ((dep.take (vlast dep)).map Lib.itoa)) ++ [93]) = (dep.take (vlast dep), 0) := parse_text b2 (by have := vlast_le dep; omega)
  rw [rtext_form, rp_ok (fun c hc => dig_ne (d1 c hc) (by decide)) (fun c hc => dig_ne (d2 c hc) (by decide)) (w3_no b2) (name_no c1) (by rw [n1]) (by rw [n2]), hv, n1, n2]
  dsimp only
  rw [rcheck_take h, if_neg (by simp), if_neg (by simp)]
/-- a nought ahead -/
theorem rparse_nought {s q : Int} {dep : List Int} {key val : List UInt8} {sites : Int} (h : rcheck s q dep key val sites = 0) : rparse (48 :: rtext s q dep key val) = rerr := by
  obtain ⟨a1, a2, a3, a4, a5, a6, a7, a8, a9⟩ := rcheck_ok h
  obtain ⟨b1, b2⟩ := vcheck_zero a7
  obtain ⟨c1, c2⟩ := rccell_ok a9
  obtain ⟨n1, d1⟩ := itoa_word (x := s) a3 (by omega)
  obtain ⟨n2, d2⟩ := itoa_word (x := q) (by omega) (by omega)
  have hne : Lib.itoa s ≠ [] := by rw [itoa_nat a3]; exact (decDigits_dig s.toNat).2.1
  rw [rtext_form, ← List.cons_append]
  refine rp_num (fun c hc => ?_) (fun c hc => dig_ne (d2 c hc) (by decide)) (w3_no b2) (name_no c1) (.inl ?_)
  · rcases List.mem_cons.1 hc with rfl | hc
    · decide
    · exact dig_ne (d1 c hc) (by decide)
  · rw [rnum_bad (digs_zero rfl (by cases hl : Lib.itoa s with
      | nil => exact absurd hl hne
      | cons a b => simp))]
theorem itoa_rnum {w : List UInt8} (h : (rnum w).2 = true) : Lib.itoa (rnum w).1 = w := by
  obtain ⟨_, _, h3, h4, h5⟩ := (vnum_rnum w).1 h
  rw [h4, itoa_nat (by omega), Int.toNat_natCast]
  exact decDigits_dval _ w rfl h3
/-- what is read is told just so -/
theorem rtext_rparse {l : List UInt8} (h : (rparse l).2 = 0) : rtext (rparse l).1.s (rparse l).1.q (rparse l).1.dep (rparse l).1.key (rparse l).1.val = l := by
  have bad : rparse l = rerr → False := fun e => by rw [e] at h; cases h
  rcases byte_split 58 l with h1 | ⟨w1, r1, rfl, h1⟩
  · exact (bad (rp_A h1)).elim
  rcases byte_split 32 r1 with h2 | ⟨w2, r2, rfl, h2⟩
  · exact (bad (rp_B h1 h2)).elim
  by_cases hc : r2.head? = some 91
  rotate_left
  · exact (bad (rp_C h1 h2 hc)).elim
  rcases byte_split 93 r2 with h3 | ⟨w3, r3, rfl, h3⟩
  · exact (bad (rp_D h1 h2 h3)).elim
  have hne : w3 ≠ [] := by intro e; subst e; simp at hc
  by_cases hd : r3.head? = some 32
  rotate_left
  · exact (bad (rp_E h1 h2 h3 hne hd)).elim
  obtain ⟨r4, rfl⟩ : ∃ r4, r3 = 32 :: r4 := by
    cases r3 with
    | nil => cases hd
    | cons a b => simp at hd; exact ⟨b, by rw [hd]⟩
  rcases byte_split 61 r4 with h4 | ⟨key, val, rfl, h4⟩
  · exact (bad (rp_F h1 h2 h3 h4)).elim
  cases n1 : (rnum w1).2 with
  | false => exact (bad (rp_num h1 h2 h3 h4 (.inl n1))).elim
  | true =>
    cases n2 : (rnum w2).2 with
    | false => exact (bad (rp_num h1 h2 h3 h4 (.inr n2))).elim
    | true =>
      have e := rp_ok (val := val) h1 h2 h3 h4 n1 n2
      by_cases hv : (vparse (w3 ++ [93])).2 = 0
      rotate_left
      · rw [if_pos hv] at e
        rw [e] at h
        exact absurd h hv
      rw [if_neg (by simpa using hv)] at e
      by_cases hr : rcheck (rnum w1).1 (rnum w2).1 (vparse (w3 ++ [93])).1 key val 8 = 0
      rotate_left
      · rw [if_pos hr] at e
        rw [e] at h
        exact absurd h hr
      rw [if_neg (by simpa using hr)] at e
      rw [e]
      dsimp only
      unfold rtext
      rw [itoa_rnum n1, itoa_rnum n2, vparse_text hv]
      simp
theorem vtext_congr {a b : List Int} (h : ∀ j : Nat, vget a j = vget b j) : vtext a = vtext b := by
  have hb := vlast_spec b
  have e : vlast a = vlast b := vlast_uniq (fun j hj => by rw [h]; exact hb.2 j hj) (by
    rcases hb.1 with h0 | ⟨x, hx, hx0, hp⟩
    · exact .inl h0
    · refine .inr ?_
      rw [h, vget_nat, hx]
      exact hx0)
  have e2 : a.take (vlast a) = b.take (vlast b) := by
    apply List.ext_getElem?
    intro j
    by_cases hj : j < vlast b
    · rw [List.getElem?_take_of_lt (by omega), List.getElem?_take_of_lt hj]
      have hla := vlast_le a
      have hlb := vlast_le b
      have := h j
      rw [vget_nat, vget_nat, List.getElem?_eq_getElem (by omega), List.getElem?_eq_getElem (by omega)] at this
      rw [List.getElem?_eq_getElem (by omega), List.getElem?_eq_getElem (by omega)]
      simpa using this
    · rw [List.getElem?_eq_none (by rw [List.length_take]; omega), List.getElem?_eq_none (by rw [List.length_take]; omega)]
  unfold vtext
  rw [e2]
theorem same_text {a b : Rc} (h : sameC a b = true) : a.text = b.text := by
  unfold sameC at h
  simp only [Bool.and_eq_true, decide_eq_true_eq, beq_iff_eq, ByteArray.toList_eq] at h
  obtain ⟨⟨⟨⟨a1, a2⟩, a3, a4⟩, a5⟩, a6⟩ := h
  rw [vcov_all] at a3 a4
  unfold Rc.text rtext
  rw [a1, a2, a5, a6, vtext_congr (a := a.dep) (b := b.dep) (fun j => by have := a3 j; have := a4 j; omega)]
theorem same_take {s q : Int} {v1 v2 : Value} {dep : List Int} {k1 k2 x1 x2 : ByteArray} (hk : k1.data.toList = k2.data.toList) (hx : x1.data.toList = x2.data.toList) : sameC ⟨s, q, v1, dep.take (vlast dep), k1, x1⟩ ⟨s, q, v2, dep, k2, x2⟩ = true := by
  have h := vcov_take dep
  rw [Bool.and_comm] at h
  unfold sameC
  dsimp only
  rw [h, ByteArray.toList_eq, ByteArray.toList_eq, ByteArray.toList_eq, ByteArray.toList_eq, hk, hx]
  simp
end Go.XL
