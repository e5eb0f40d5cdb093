/- Plain laws of a record in words: what is no record; what is. -/
import Derived.Test.YtgcjnhocoklfbaaGreatDoorRc5
import Derived.Test.YtgcjnhocoklfbaaGreatDoorCut
namespace Go.XL
open Go.RowKit Go.Shelf
set_option linter.unusedVariables false
set_option linter.unusedSimpArgs false
abbrev rerr : Rp × Int := (Rp.zero, 2)
theorem rparse_none {l : List UInt8} (h : rwords l = none) : rparse l = rerr := by unfold rparse; rw [h]
theorem rparse_dep {l : List UInt8} {r : Rp} {d : List UInt8} (h : rwords l = some (r, d)) (h2 : (vparse d).2 = 2) : rparse l = rerr := by
  unfold rparse
  rw [h]
  simp only [h2]
  rfl
theorem rp_A {l : List UInt8} (h : ∀ c ∈ l, c ≠ 58) : rparse l = rerr := by
  refine rparse_none ?_
  unfold rwords
  simp only [cut_none h]
  simp
theorem rp_B {w1 r1 : List UInt8} (h1 : ∀ c ∈ w1, c ≠ 58) (h2 : ∀ c ∈ r1, c ≠ 32) : rparse (w1 ++ 58 :: r1) = rerr := by
  refine rparse_none ?_
  unfold rwords
  simp only [cut_split h1, cut_none h2]
  simp
theorem rw_at {w1 w2 r2 : List UInt8} (h1 : ∀ c ∈ w1, c ≠ 58) (h2 : ∀ c ∈ w2, c ≠ 32) : rwords (w1 ++ 58 :: (w2 ++ 32 :: r2)) =
    if (Lib.cut r2 [93, 32]).2.2 = true ∧ (Lib.cut (Lib.cut r2 [93, 32]).2.1 [61]).2.2 = true ∧ (vnum w1 2147483647).2 = 0 ∧ (vnum w2 2147483647).2 = 0 then
      some (⟨(vnum w1 2147483647).1, (vnum w2 2147483647).1, [], (Lib.cut (Lib.cut r2 [93, 32]).2.1 [61]).1, (Lib.cut (Lib.cut r2 [93, 32]).2.1 [61]).2.1⟩, (Lib.cut r2 [93, 32]).1 ++ [93]) else none := by
  unfold rwords
  simp only [cut_split h1, cut_split h2]
  simp
/-- what stands ahead of "] " is no vector: no record -/
theorem rp_dep {w1 w2 r2 : List UInt8} (h1 : ∀ c ∈ w1, c ≠ 58) (h2 : ∀ c ∈ w2, c ≠ 32) (h : (Lib.cut r2 [93, 32]).2.2 = true → (vparse ((Lib.cut r2 [93, 32]).1 ++ [93])).2 = 2) : rparse (w1 ++ 58 :: (w2 ++ 32 :: r2)) = rerr := by
  by_cases hf : (Lib.cut r2 [93, 32]).2.2 = true ∧ (Lib.cut (Lib.cut r2 [93, 32]).2.1 [61]).2.2 = true ∧ (vnum w1 2147483647).2 = 0 ∧ (vnum w2 2147483647).2 = 0
  · have e := rw_at (r2 := r2) h1 h2
    rw [if_pos hf] at e
    exact rparse_dep e (h hf.1)
  · have e := rw_at (r2 := r2) h1 h2
    rw [if_neg hf] at e
    exact rparse_none e
theorem rp_C {w1 w2 r2 : List UInt8} (h1 : ∀ c ∈ w1, c ≠ 58) (h2 : ∀ c ∈ w2, c ≠ 32) (h : r2.head? ≠ some 91) : rparse (w1 ++ 58 :: (w2 ++ 32 :: r2)) = rerr := by
  refine rp_dep h1 h2 fun _ => ?_
  obtain ⟨i, hi, _⟩ := cut_take r2 [93, 32]
  rw [hi]
  unfold vparse
  rw [if_neg]
  rintro ⟨h3, _⟩
  cases r2 with
  | nil => simp at h3
  | cons c r =>
    cases i with
    | zero => simp at h3
    | succ i => simp at h3; exact h (by rw [h3]; rfl)
theorem rp_D {w1 w2 r2 : List UInt8} (h1 : ∀ c ∈ w1, c ≠ 58) (h2 : ∀ c ∈ w2, c ≠ 32) (h : ∀ c ∈ r2, c ≠ 93) : rparse (w1 ++ 58 :: (w2 ++ 32 :: r2)) = rerr := by
  refine rp_dep h1 h2 fun hf => ?_
  rw [cut2_none h] at hf
  cases hf
theorem wsplit_mem {x : UInt8} (hx : x ≠ 32) : ∀ l : List UInt8, x ∈ l → ∃ w ∈ wsplit l, x ∈ w := by
  intro l
  induction l with
  | nil => intro h; cases h
  | cons c r ih =>
    intro h
    rw [wsplit]
    by_cases hc : c = 32
    · rw [if_pos hc]
      rcases List.mem_cons.1 h with rfl | h
      · exact absurd hc hx
      · obtain ⟨w, hw, hxw⟩ := ih h
        exact ⟨w, List.mem_cons_of_mem _ hw, hxw⟩
    · rw [if_neg hc]
      cases hw : wsplit r with
      | nil => exact absurd hw (wsplit_ne r)
      | cons u us =>
        dsimp only
        rcases List.mem_cons.1 h with rfl | h
        · exact ⟨x :: u, by simp, by simp⟩
        · obtain ⟨w, hw2, hxw⟩ := ih h
          rw [hw] at hw2
          rcases List.mem_cons.1 hw2 with rfl | hw2
          · exact ⟨c :: w, by simp, by simp [hxw]⟩
          · exact ⟨w, by simp [hw2], hxw⟩
theorem digs_dig {w : List UInt8} (h : digs w = true) : ∀ c ∈ w, isDig c = true := by
  unfold digs at h
  simp only [Bool.and_eq_true] at h
  first | exact List.all_eq_true.1 h.2 | exact List.all_eq_true.1 h.1.2 | exact List.all_eq_true.1 h.1 | exact fun c hc => List.all_eq_true.1 h.2.1 c hc
theorem vparse_bad {d : List UInt8} (h : (93 : UInt8) ∈ d.tail) : (vparse (d ++ [93])).2 = 2 := by
  cases d with
  | nil => cases h
  | cons c r =>
    unfold vparse
    split
    · have e : ((c :: r) ++ [93]).tail.dropLast = r := by simp
      rw [e]
      have hr : (93 : UInt8) ∈ r := h
      rw [if_neg (by rintro rfl; cases hr)]
      obtain ⟨w, hw, hx⟩ := wsplit_mem (by decide) r hr
      rw [vwords_bad hw (fun hd => by
        have := digs_dig hd 93 hx
        revert this
        decide)]
    · rfl
theorem rp_E {w1 w2 w3 r3 : List UInt8} (h1 : ∀ c ∈ w1, c ≠ 58) (h2 : ∀ c ∈ w2, c ≠ 32) (h3 : ∀ c ∈ w3, c ≠ 93) (hne : w3 ≠ []) (h : r3.head? ≠ some 32) : rparse (w1 ++ 58 :: (w2 ++ 32 :: (w3 ++ 93 :: r3))) = rerr := by
  refine rp_dep h1 h2 fun hf => ?_
  obtain ⟨i, hi, hi2⟩ := cut_take (w3 ++ 93 :: r3) [93, 32]
  have hii := hi2 hf
  rcases index2_past h w3 h3 with e | e
  · rw [e] at hii; omega
  · rw [hi]
    refine vparse_bad ?_
    cases w3 with
    | nil => exact absurd rfl hne
    | cons c w =>
      have hk : w.length + 2 ≤ i := by rw [List.length_cons] at e; omega
      obtain ⟨k, rfl⟩ : ∃ k, i = w.length + 1 + 1 + k := ⟨i - (w.length + 2), by omega⟩
      have : List.take (w.length + 1 + 1 + k) (c :: w ++ 93 :: r3) = c :: (w ++ 93 :: r3.take k) := by
        rw [List.cons_append, show w.length + 1 + 1 + k = (w.length + (1 + k)) + 1 by omega, List.take_succ_cons, List.take_length_add_append, show 1 + k = k + 1 by omega, List.take_succ_cons]
      rw [this]
      simp
theorem rw_ok {w1 w2 w3 r4 : List UInt8} (h1 : ∀ c ∈ w1, c ≠ 58) (h2 : ∀ c ∈ w2, c ≠ 32) (h3 : ∀ c ∈ w3, c ≠ 93) : rwords (w1 ++ 58 :: (w2 ++ 32 :: (w3 ++ 93 :: 32 :: r4))) =
    if (Lib.cut r4 [61]).2.2 = true ∧ (vnum w1 2147483647).2 = 0 ∧ (vnum w2 2147483647).2 = 0 then
      some (⟨(vnum w1 2147483647).1, (vnum w2 2147483647).1, [], (Lib.cut r4 [61]).1, (Lib.cut r4 [61]).2.1⟩, w3 ++ [93]) else none := by
  rw [rw_at h1 h2]
  simp only [cut2 h3]
  simp
theorem rp_F {w1 w2 w3 r4 : List UInt8} (h1 : ∀ c ∈ w1, c ≠ 58) (h2 : ∀ c ∈ w2, c ≠ 32) (h3 : ∀ c ∈ w3, c ≠ 93) (h : ∀ c ∈ r4, c ≠ 61) : rparse (w1 ++ 58 :: (w2 ++ 32 :: (w3 ++ 93 :: 32 :: r4))) = rerr := by
  refine rparse_none ?_
  rw [rw_ok h1 h2 h3, cut_none h, if_neg (by simp)]
theorem rp_num {w1 w2 w3 key val : List UInt8} (h1 : ∀ c ∈ w1, c ≠ 58) (h2 : ∀ c ∈ w2, c ≠ 32) (h3 : ∀ c ∈ w3, c ≠ 93) (h4 : ∀ c ∈ key, c ≠ 61) (h : (rnum w1).2 = false ∨ (rnum w2).2 = false) :
    rparse (w1 ++ 58 :: (w2 ++ 32 :: (w3 ++ 93 :: 32 :: (key ++ 61 :: val)))) = rerr := by
  refine rparse_none ?_
  rw [rw_ok h1 h2 h3, cut_split h4, if_neg]
  rintro ⟨_, e1, e2⟩
  rcases h with h | h
  · exact (vnum_rnum w1).2 h e1
  · exact (vnum_rnum w2).2 h e2
theorem rp_ok {w1 w2 w3 key val : List UInt8} (h1 : ∀ c ∈ w1, c ≠ 58) (h2 : ∀ c ∈ w2, c ≠ 32) (h3 : ∀ c ∈ w3, c ≠ 93) (h4 : ∀ c ∈ key, c ≠ 61) (n1 : (rnum w1).2 = true) (n2 : (rnum w2).2 = true) :
    rparse (w1 ++ 58 :: (w2 ++ 32 :: (w3 ++ 93 :: 32 :: (key ++ 61 :: val)))) = if (vparse (w3 ++ [93])).2 ≠ 0 then (Rp.zero, (vparse (w3 ++ [93])).2)
    else if rcheck (rnum w1).1 (rnum w2).1 (vparse (w3 ++ [93])).1 key val 8 ≠ 0 then (Rp.zero, rcheck (rnum w1).1 (rnum w2).1 (vparse (w3 ++ [93])).1 key val 8)
    else (⟨(rnum w1).1, (rnum w2).1, (vparse (w3 ++ [93])).1, key, val⟩, 0) := by
  have a1 := (vnum_rnum w1).1 n1
  have a2 := (vnum_rnum w2).1 n2
  have e := rw_ok (r4 := key ++ 61 :: val) h1 h2 h3
  rw [cut_split h4, if_pos ⟨rfl, a1.1, a2.1⟩, a1.2.1, a2.2.1] at e
  unfold rparse
  rw [e]
end Go.XL
