/- Plain laws of strings.Cut and of where a byte is. -/
import Derived.Test.YtgcjnhocoklfbaaGreatDoorRefF
import Derived.Test.YtgcjnhocoklfbaaGreatDoorVecN
namespace Go.XL
open Go.RowKit Go.Shelf
set_option linter.unusedVariables false
set_option linter.unusedSimpArgs false
theorem byte_split (b : UInt8) : ∀ l : List UInt8, (∀ c ∈ l, c ≠ b) ∨ ∃ w r, l = w ++ b :: r ∧ ∀ c ∈ w, c ≠ b
  | [] => .inl (by simp)
  | a :: l => by
    by_cases h : a = b
    · subst h; exact .inr ⟨[], l, rfl, by simp⟩
    · rcases byte_split b l with h1 | ⟨w, r, rfl, h1⟩
      · exact .inl fun c hc => by
          rcases List.mem_cons.1 hc with rfl | hc
          · exact h
          · exact h1 c hc
      · exact .inr ⟨a :: w, r, rfl, fun c hc => by
          rcases List.mem_cons.1 hc with rfl | hc
          · exact h
          · exact h1 c hc⟩
theorem findIdx_split {b : UInt8} {r : List UInt8} : ∀ w : List UInt8, (∀ c ∈ w, c ≠ b) → (w ++ b :: r).findIdx? (fun c => c == b) = some w.length
  | [], _ => by simp [List.findIdx?_cons]
  | a :: w, h => by
    have ha : (a == b) = false := by simpa using h a (by simp)
    rw [List.cons_append, List.findIdx?_cons, ha, findIdx_split w (fun c hc => h c (by simp [hc]))]
    simp
theorem findIdx_none {b : UInt8} : ∀ w : List UInt8, (∀ c ∈ w, c ≠ b) → w.findIdx? (fun c => c == b) = none
  | [], _ => rfl
  | a :: w, h => by
    have ha : (a == b) = false := by simpa using h a (by simp)
    rw [List.findIdx?_cons, ha, findIdx_none w (fun c hc => h c (by simp [hc]))]
    simp
theorem ffrom_split {b : UInt8} {w r : List UInt8} (h : ∀ c ∈ w, c ≠ b) : ffrom b (w ++ b :: r) 0 = w.length := by
  unfold ffrom
  rw [List.drop_zero, findIdx_split w h]
  simp
theorem ffrom_none {b : UInt8} {l : List UInt8} (h : ∀ c ∈ l, c ≠ b) : ffrom b l 0 = -1 := by
  unfold ffrom
  rw [List.drop_zero, findIdx_none l h]
theorem index_split {b : UInt8} {r : List UInt8} : ∀ w : List UInt8, (∀ c ∈ w, c ≠ b) → Lib.index (w ++ b :: r) [b] = w.length
  | [], _ => by simp [Lib.index, List.isPrefixOf]
  | a :: w, h => by
    have ha : (b == a) = false := by rw [beq_eq_false_iff_ne]; exact fun e => h a (by simp) e.symm
    have ih := index_split (r := r) w (fun c hc => h c (by simp [hc]))
    rw [List.cons_append, Lib.index, ih]
    have hp : List.isPrefixOf [b] (a :: (w ++ b :: r)) = false := by simp [List.isPrefixOf, ha]
    rw [hp]
    have h2 : ((w.length : Int) == -1) = false := by rw [beq_eq_false_iff_ne]; omega
    rw [h2]
    simp
theorem index_none {b : UInt8} : ∀ w : List UInt8, (∀ c ∈ w, c ≠ b) → Lib.index w [b] = -1
  | [], _ => by simp [Lib.index]
  | a :: w, h => by
    have ha : (b == a) = false := by rw [beq_eq_false_iff_ne]; exact fun e => h a (by simp) e.symm
    have ih := index_none w (fun c hc => h c (by simp [hc]))
    rw [Lib.index, ih]
    have hp : List.isPrefixOf [b] (a :: w) = false := by simp [List.isPrefixOf, ha]
    rw [hp]
    simp
theorem cut_split {b : UInt8} {w r : List UInt8} (h : ∀ c ∈ w, c ≠ b) : Lib.cut (w ++ b :: r) [b] = (w, r, true) := by
  unfold Lib.cut
  rw [index_split w h, if_pos (by omega)]
  simp
theorem cut_none {b : UInt8} {l : List UInt8} (h : ∀ c ∈ l, c ≠ b) : Lib.cut l [b] = (l, [], false) := by
  unfold Lib.cut
  rw [index_none l h, if_neg (by omega)]
theorem vnum_rnum (l : List UInt8) : ((rnum l).2 = true → (vnum l 2147483647).2 = 0 ∧ (vnum l 2147483647).1 = (rnum l).1 ∧ digs l = true ∧ (rnum l).1 = (dval l : Int) ∧ dval l ≤ 2147483647) ∧ ((rnum l).2 = false → (vnum l 2147483647).2 ≠ 0) := by
  unfold rnum vnum
  by_cases h : digs l = true
  · by_cases h2 : dval l ≤ 2147483647
    · rw [if_pos ⟨h, h2⟩, if_pos h, if_neg (by omega)]
      exact ⟨fun _ => ⟨rfl, rfl, h, rfl, h2⟩, fun h => by cases h⟩
    · rw [if_neg (fun x => h2 x.2), if_pos h, if_pos (by omega)]
      exact ⟨fun h => (by cases h), fun _ => by decide⟩
  · rw [if_neg (fun x => h x.1), if_neg h]
    exact ⟨fun h => (by cases h), fun _ => by decide⟩
theorem ffrom_at {b : UInt8} {u w r : List UInt8} (h : ∀ c ∈ w, c ≠ b) : ffrom b (u ++ (w ++ b :: r)) u.length = (u.length + w.length : Nat) := by
  unfold ffrom
  rw [List.drop_left, findIdx_split w h]
theorem ffrom_no {b : UInt8} {u w : List UInt8} (h : ∀ c ∈ w, c ≠ b) : ffrom b (u ++ w) u.length = -1 := by
  unfold ffrom
  rw [List.drop_left, findIdx_none w h]
/-- two bytes: where they stand first -/
theorem index2 {b c : UInt8} {r : List UInt8} : ∀ w : List UInt8, (∀ x ∈ w, x ≠ b) → Lib.index (w ++ b :: c :: r) [b, c] = w.length
  | [], _ => by simp [Lib.index, List.isPrefixOf]
  | a :: w, h => by
    have ha : (b == a) = false := by rw [beq_eq_false_iff_ne]; exact fun e => h a (by simp) e.symm
    have ih := index2 (c := c) (r := r) w (fun x hx => h x (by simp [hx]))
    rw [List.cons_append, Lib.index, ih]
    have hp : List.isPrefixOf [b, c] (a :: (w ++ b :: c :: r)) = false := by simp [List.isPrefixOf, ha]
    rw [hp]
    have h2 : ((w.length : Int) == -1) = false := by rw [beq_eq_false_iff_ne]; omega
    rw [h2]
    simp
theorem cut2 {b c : UInt8} {w r : List UInt8} (h : ∀ x ∈ w, x ≠ b) : Lib.cut (w ++ b :: c :: r) [b, c] = (w, r, true) := by
  unfold Lib.cut
  rw [index2 w h, if_pos (by omega)]
  simp
theorem index2_none {b c : UInt8} : ∀ w : List UInt8, (∀ x ∈ w, x ≠ b) → Lib.index w [b, c] = -1
  | [], _ => by simp [Lib.index]
  | a :: w, h => by
    have ha : (b == a) = false := by rw [beq_eq_false_iff_ne]; exact fun e => h a (by simp) e.symm
    have ih := index2_none (c := c) w (fun x hx => h x (by simp [hx]))
    rw [Lib.index, ih]
    have hp : List.isPrefixOf [b, c] (a :: w) = false := by simp [List.isPrefixOf, ha]
    rw [hp]
    simp
theorem cut2_none {b c : UInt8} {w : List UInt8} (h : ∀ x ∈ w, x ≠ b) : Lib.cut w [b, c] = (w, [], false) := by
  unfold Lib.cut
  rw [index2_none w h, if_neg (by omega)]
/-- the first b is not followed by c: both stand behind it, or nowhere -/
theorem index2_past {b c : UInt8} {r : List UInt8} (hr : r.head? ≠ some c) : ∀ w : List UInt8, (∀ x ∈ w, x ≠ b) → Lib.index (w ++ b :: r) [b, c] = -1 ∨ (w.length : Int) + 1 ≤ Lib.index (w ++ b :: r) [b, c]
  | [], _ => by
    have hp : List.isPrefixOf [b, c] (b :: r) = false := by
      cases r with
      | nil => simp [List.isPrefixOf]
      | cons d r =>
        have : (c == d) = false := by rw [beq_eq_false_iff_ne]; exact fun e => hr (by rw [e]; rfl)
        simp [List.isPrefixOf, this]
    rw [List.nil_append, Lib.index, hp]
    have hg := Lib.index_ge r [b, c]
    by_cases h1 : Lib.index r [b, c] = -1
    · left; simp [h1]
    · right
      have h2 : (Lib.index r [b, c] == -1) = false := by rw [beq_eq_false_iff_ne]; exact h1
      simp [h2]
      omega
  | a :: w, h => by
    have ha : (b == a) = false := by rw [beq_eq_false_iff_ne]; exact fun e => h a (by simp) e.symm
    have hp : List.isPrefixOf [b, c] (a :: (w ++ b :: r)) = false := by simp [List.isPrefixOf, ha]
    rw [List.cons_append, Lib.index, hp]
    rcases index2_past hr w (fun x hx => h x (by simp [hx])) with h1 | h1
    · left; simp [h1]
    · right
      have h2 : (Lib.index (w ++ b :: r) [b, c] == -1) = false := by rw [beq_eq_false_iff_ne]; omega
      simp [h2]
      omega
theorem cut_take (s p : List UInt8) : ∃ i, (Lib.cut s p).1 = s.take i ∧ ((Lib.cut s p).2.2 = true → (i : Int) = Lib.index s p) := by
  unfold Lib.cut
  split
  · rename_i h; exact ⟨_, rfl, fun _ => by simp; omega⟩
  · exact ⟨s.length, by simp, by simp⟩
end Go.XL
