/- Plain laws of maps in words: what is read and told, and that the one is the other's way back. -/
import Derived.Test.YtkdcldnbdhfobaaDoorMp4
import Derived.Test.YtkdcldnbdhfobaaDoorMp3
import Derived.Test.YtkdcldnbdhfobaaDoorRefF
namespace Go.XL
open Go.RowKit Go.Shelf
set_option linter.unusedVariables false
set_option linter.unusedSimpArgs false
theorem byte_split (b : UInt8) : ∀ l : List UInt8, (∀ c ∈ l, c ≠ b) ∨ ∃ w r, l = w ++ b :: r ∧ ∀ c ∈ w, c ≠ b
  | [] => .inl (by simp)
  | a :: l => by
    by_cases h : a = b
    · subst h; exact .inr ⟨[], l, rfl, by simp⟩
    · rcases byte_split b l with h1 | ⟨w, r, rfl, h1⟩
      · exact .inl fun c hc => by
          rcases List.mem_cons.1 hc with rfl | hc
          · exact h
          · exact h1 c hc
      · exact .inr ⟨a :: w, r, rfl, fun c hc => by
          rcases List.mem_cons.1 hc with rfl | hc
          · exact h
          · exact h1 c hc⟩
theorem findIdx_split {b : UInt8} {r : List UInt8} : ∀ w : List UInt8, (∀ c ∈ w, c ≠ b) → (w ++ b :: r).findIdx? (fun c => c == b) = some w.length
  | [], _ => by simp [List.findIdx?_cons]
  | a :: w, h => by
    have ha : (a == b) = false := by simpa using h a (by simp)
    rw [List.cons_append, List.findIdx?_cons, ha, findIdx_split w (fun c hc => h c (by simp [hc]))]
    simp
theorem findIdx_none {b : UInt8} : ∀ w : List UInt8, (∀ c ∈ w, c ≠ b) → w.findIdx? (fun c => c == b) = none
  | [], _ => rfl
  | a :: w, h => by
    have ha : (a == b) = false := by simpa using h a (by simp)
    rw [List.findIdx?_cons, ha, findIdx_none w (fun c hc => h c (by simp [hc]))]
    simp
theorem ffrom_split {b : UInt8} {w r : List UInt8} (h : ∀ c ∈ w, c ≠ b) : ffrom b (w ++ b :: r) 0 = w.length := by
  unfold ffrom
  rw [List.drop_zero, findIdx_split w h]
  simp
theorem ffrom_none {b : UInt8} {l : List UInt8} (h : ∀ c ∈ l, c ≠ b) : ffrom b l 0 = -1 := by
  unfold ffrom
  rw [List.drop_zero, findIdx_none l h]
theorem index_split {b : UInt8} {r : List UInt8} : ∀ w : List UInt8, (∀ c ∈ w, c ≠ b) → Lib.index (w ++ b :: r) [b] = w.length
  | [], _ => by simp [Lib.index, List.isPrefixOf]
  | a :: w, h => by
    have ha : (b == a) = false := by rw [beq_eq_false_iff_ne]; exact fun e => h a (by simp) e.symm
    have ih := index_split (r := r) w (fun c hc => h c (by simp [hc]))
    rw [List.cons_append, Lib.index, ih]
    have hp : List.isPrefixOf [b] (a :: (w ++ b :: r)) = false := by simp [List.isPrefixOf, ha]
    rw [hp]
    have h2 : ((w.length : Int) == -1) = false := by rw [beq_eq_false_iff_ne]; omega
    rw [h2]
    simp
theorem index_none {b : UInt8} : ∀ w : List UInt8, (∀ c ∈ w, c ≠ b) → Lib.index w [b] = -1
  | [], _ => by simp [Lib.index]
  | a :: w, h => by
    have ha : (b == a) = false := by rw [beq_eq_false_iff_ne]; exact fun e => h a (by simp) e.symm
    have ih := index_none w (fun c hc => h c (by simp [hc]))
    rw [Lib.index, ih]
    have hp : List.isPrefixOf [b] (a :: w) = false := by simp [List.isPrefixOf, ha]
    rw [hp]
    simp
theorem cut_split {b : UInt8} {w r : List UInt8} (h : ∀ c ∈ w, c ≠ b) : Lib.cut (w ++ b :: r) [b] = (w, r, true) := by
  unfold Lib.cut
  rw [index_split w h, if_pos (by omega)]
  simp
theorem cut_none {b : UInt8} {l : List UInt8} (h : ∀ c ∈ l, c ≠ b) : Lib.cut l [b] = (l, [], false) := by
  unfold Lib.cut
  rw [index_none l h, if_neg (by omega)]
theorem vnum_rnum (l : List UInt8) : ((rnum l).2 = true → (vnum l 2147483647).2 = 0 ∧ (vnum l 2147483647).1 = (rnum l).1 ∧ digs l = true ∧ (rnum l).1 = (dval l : Int) ∧ dval l ≤ 2147483647) ∧ ((rnum l).2 = false → (vnum l 2147483647).2 ≠ 0) := by
  unfold rnum vnum
  by_cases h : digs l = true
  · by_cases h2 : dval l ≤ 2147483647
    · rw [if_pos ⟨h, h2⟩, if_pos h, if_neg (by omega)]
      exact ⟨fun _ => ⟨rfl, rfl, h, rfl, h2⟩, fun h => by cases h⟩
    · rw [if_neg (fun x => h2 x.2), if_pos h, if_pos (by omega)]
      exact ⟨fun h => (by cases h), fun _ => by decide⟩
  · rw [if_neg (fun x => h x.1), if_neg h]
    exact ⟨fun h => (by cases h), fun _ => by decide⟩
theorem mpw_none {w : List UInt8} (h : ∀ c ∈ w, c ≠ 47) : mpw w = none := by
  unfold mpw
  rw [cut_none h]
  exact if_neg (fun x => by cases x.1)
theorem mpw_bad {a b : List UInt8} (h : ∀ c ∈ a, c ≠ 47) (hb : (rnum a).2 = false ∨ (rnum b).2 = false) : mpw (a ++ 47 :: b) = none := by
  unfold mpw
  rw [cut_split h]
  refine if_neg (fun x => ?_)
  rcases hb with hb | hb
  · exact (vnum_rnum a).2 hb x.2.1
  · exact (vnum_rnum b).2 hb x.2.2
theorem mpw_ok {a b : List UInt8} (h : ∀ c ∈ a, c ≠ 47) (ha : (rnum a).2 = true) (hb : (rnum b).2 = true) : mpw (a ++ 47 :: b) = some ((rnum a).1, (rnum b).1) := by
  obtain ⟨a1, a2, _⟩ := (vnum_rnum a).1 ha
  obtain ⟨b1, b2, _⟩ := (vnum_rnum b).1 hb
  unfold mpw
  rw [cut_split h, if_pos ⟨rfl, a1, b1⟩]
  dsimp only
  rw [a2, b2]
theorem itoa_nn {x : Int} (h : 0 ≤ x) : Lib.itoa x = Lib.decDigits x.toNat := by unfold Lib.itoa; rw [if_neg (by omega)]
theorem mpw_word {w : List UInt8} {x : Int × Int} (h : mpw w = some x) : mword x = w ∧ (0 ≤ x.1 ∧ x.1 ≤ 2147483647) ∧ (0 ≤ x.2 ∧ x.2 ≤ 2147483647) := by
  rcases byte_split 47 w with h1 | ⟨a, b, rfl, h1⟩
  · rw [mpw_none h1] at h; cases h
  · cases ha : (rnum a).2
    · rw [mpw_bad h1 (.inl ha)] at h; cases h
    · cases hb : (rnum b).2
      · rw [mpw_bad h1 (.inr hb)] at h; cases h
      · rw [mpw_ok h1 ha hb] at h
        obtain ⟨_, _, a3, a4, a5⟩ := (vnum_rnum a).1 ha
        obtain ⟨_, _, b3, b4, b5⟩ := (vnum_rnum b).1 hb
        cases h
        dsimp only
        unfold mword
        dsimp only
        rw [a4, b4, itoa_nn (by omega), itoa_nn (by omega), Int.toNat_natCast, Int.toNat_natCast, decDigits_dval _ a rfl a3, decDigits_dval _ b rfl b3]
        exact ⟨rfl, ⟨by omega, by omega⟩, by omega, by omega⟩
theorem digit_ne {c : UInt8} (h : isDig c = true) : c ≠ 47 ∧ c ≠ 32 := by
  obtain ⟨h1, h2⟩ := dig_bounds h
  exact ⟨fun e => by subst e; simp at h1, fun e => by subst e; simp at h1⟩
theorem rnum_dec {n : Nat} (h : n ≤ 2147483647) : rnum (Lib.decDigits n) = ((n : Int), true) := by
  have h3 := (decDigits_dig n).2.2.1
  rw [rnum_ok (digs_decDigits n) (by omega), h3]
theorem mpw_mword {x : Int × Int} (h1 : 0 ≤ x.1 ∧ x.1 ≤ 2147483647) (h2 : 0 ≤ x.2 ∧ x.2 ≤ 2147483647) : mpw (mword x) = some x := by
  unfold mword
  rw [itoa_nn h1.1, itoa_nn h2.1]
  have ha := rnum_dec (n := x.1.toNat) (by omega)
  have hb := rnum_dec (n := x.2.toNat) (by omega)
  rw [mpw_ok (fun c hc => (digit_ne (List.all_eq_true.1 (decDigits_dig _).1 c hc)).1) (by rw [ha]) (by rw [hb]), ha, hb]
  obtain ⟨x1, x2⟩ := x
  dsimp only at *
  rw [Int.toNat_of_nonneg h1.1, Int.toNat_of_nonneg h2.1]
theorem mword_no32 {x : Int × Int} (h1 : 0 ≤ x.1) (h2 : 0 ≤ x.2) : ∀ c ∈ mword x, c ≠ 32 := by
  unfold mword
  rw [itoa_nn h1, itoa_nn h2]
  intro c hc
  rcases List.mem_append.1 hc with hc | hc
  · exact (digit_ne (List.all_eq_true.1 (decDigits_dig _).1 c hc)).2
  · rcases List.mem_cons.1 hc with rfl | hc
    · decide
    · exact (digit_ne (List.all_eq_true.1 (decDigits_dig _).1 c hc)).2
theorem mpall_map : ∀ {ws : List (List UInt8)} {m : Mp}, mpall ws = some m → m.map mword = ws ∧ ∀ x ∈ m, (0 ≤ x.1 ∧ x.1 ≤ 2147483647) ∧ (0 ≤ x.2 ∧ x.2 ≤ 2147483647)
  | [], m, h => by rw [mpall] at h; cases h; simp
  | w :: ws, m, h => by
    rw [mpall] at h
    cases hw : mpw w with
    | none => rw [hw] at h; simp at h
    | some x =>
      cases hm : mpall ws with
      | none => rw [hw, hm] at h; simp at h
      | some m' =>
        rw [hw, hm] at h
        simp at h
        subst h
        obtain ⟨i1, i2⟩ := mpall_map hm
        obtain ⟨j1, j2⟩ := mpw_word hw
        refine ⟨by rw [List.map_cons, i1, j1], fun y hy => ?_⟩
        rcases List.mem_cons.1 hy with rfl | hy
        · exact j2
        · exact i2 y hy
theorem mpall_words : ∀ {m : Mp}, (∀ x ∈ m, (0 ≤ x.1 ∧ x.1 ≤ 2147483647) ∧ (0 ≤ x.2 ∧ x.2 ≤ 2147483647)) → mpall (m.map mword) = some m
  | [], _ => rfl
  | x :: m, h => by
    rw [List.map_cons, mpall, mpw_mword (h x (by simp)).1 (h x (by simp)).2, mpall_words (fun y hy => h y (by simp [hy]))]
/-- what is read as a map is told just so -/
theorem mparse_text {l : List UInt8} (h : (mparse l).2 = 0) : mtext (mparse l).1 = l ∧ (∀ x ∈ (mparse l).1, (0 ≤ x.1 ∧ x.1 ≤ 2147483647) ∧ (0 ≤ x.2 ∧ x.2 ≤ 2147483647)) := by
  unfold mparse at h ⊢
  cases hm : mpall (mwords l) with
  | none => rw [hm] at h; cases h
  | some m =>
    rw [hm] at h
    dsimp only at h ⊢
    by_cases hc : mcheck m = 0
    · rw [if_pos hc]
      dsimp only
      obtain ⟨i1, i2⟩ := mpall_map hm
      refine ⟨?_, i2⟩
      unfold mtext
      rw [i1]
      unfold mwords at i1 ⊢
      by_cases hl : l = []
      · exfalso
        rw [if_pos hl] at i1
        have : m = [] := by simpa using i1
        subst this
        revert hc; decide
      · rw [if_neg hl]
        exact wjoin_split l
    · rw [if_neg hc] at h
      cases h
/-- a map that may be, told and read again -/
theorem mtext_parse {m : Mp} (hc : mcheck m = 0) (hb : ∀ x ∈ m, x.1 ≤ 2147483647) : mparse (mtext m) = (m, 0) := by
  obtain ⟨k1, k2, _, _⟩ := mcheck_ok hc
  have hb2 : ∀ x ∈ m, (0 ≤ x.1 ∧ x.1 ≤ 2147483647) ∧ (0 ≤ x.2 ∧ x.2 ≤ 2147483647) := fun x hx => by
    have := k2 x hx
    have := hb x hx
    omega
  have hsp : wsplit (mtext m) = m.map mword := by
    unfold mtext
    refine wsplit_join _ (by simpa using k1) (fun w hw => ?_)
    obtain ⟨x, hx, rfl⟩ := List.mem_map.1 hw
    exact mword_no32 (hb2 x hx).1.1 (hb2 x hx).2.1
  have hne : mtext m ≠ [] := fun e => by
    rw [e] at hsp
    have e2 : wsplit [] = [[]] := rfl
    rw [e2] at hsp
    cases m with
    | nil => exact k1 rfl
    | cons x r =>
      rw [List.map_cons] at hsp
      injection hsp with h1 _
      unfold mword at h1
      simp at h1
  unfold mparse mwords
  rw [if_neg hne, hsp, mpall_words hb2]
  dsimp only
  rw [if_pos hc]
/-- as the reference reads it -/
theorem mparse_nil : mparse [] = ([], 1) := rfl
theorem mwords_split {l : List UInt8} (h : l ≠ []) : mwords l = bsplit 32 l := by unfold mwords; rw [if_neg h, bsplit_32]
theorem mparse_small {l : List UInt8} : (mparse l).1.length ≤ l.length + 1 := by
  unfold mparse
  cases hm : mpall (mwords l) with
  | none => simp
  | some m =>
    dsimp only
    split
    · dsimp only
      have h1 := congrArg List.length (mpall_map hm).1
      rw [List.length_map] at h1
      rw [h1]
      unfold mwords
      split
      · simp
      · rw [← bsplit_32]; exact bsplit_len _ _
    · simp
end Go.XL
