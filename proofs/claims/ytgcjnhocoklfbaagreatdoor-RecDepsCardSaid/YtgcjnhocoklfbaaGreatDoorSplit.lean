/- Plain laws: parts of a text between bytes; decimals. -/
import Derived.Test.YtgcjnhocoklfbaaGreatDoorOwn
import Derived.Test.YtgcjnhocoklfbaaGreatDoorStr
namespace Go.XL
open Go.RowKit Go.Shelf
set_option linter.unusedVariables false
set_option linter.unusedSimpArgs false
def bsplit (b : UInt8) : List UInt8 → List (List UInt8)
  | [] => [[]]
  | c :: r => if c = b then [] :: bsplit b r else match bsplit b r with
    | w :: ws => (c :: w) :: ws
    | [] => [[c]]
theorem bsplit_32 (l : List UInt8) : bsplit 32 l = wsplit l := by
  induction l with
  | nil => rfl
  | cons c r ih => rw [bsplit, wsplit, ih]; rfl
theorem bsplit_ne (b : UInt8) (l : List UInt8) : bsplit b l ≠ [] := by
  cases l with
  | nil => simp [bsplit]
  | cons c r =>
    rw [bsplit]
    split
    · simp
    · split <;> simp
theorem bsplit_snoc (b c : UInt8) (l : List UInt8) : bsplit b (l ++ [c]) = if c = b then bsplit b l ++ [[]] else (bsplit b l).dropLast ++ [(bsplit b l).getLast?.getD [] ++ [c]] := by
  induction l with
  | nil =>
    have e : bsplit b [] = [[]] := rfl
    have e2 : bsplit b [c] = if c = b then [[], []] else [[c]] := rfl
    rw [List.nil_append, e2, e]
    split <;> simp
  | cons x r ih =>
    rw [List.cons_append, bsplit, bsplit]
    obtain ⟨w, ws, hr⟩ := List.exists_cons_of_ne_nil (bsplit_ne b r)
    rw [hr] at ih ⊢
    by_cases hx : x = b
    · rw [if_pos hx, if_pos hx, ih]
      by_cases hc : c = b
      · rw [if_pos hc, if_pos hc]; simp
      · rw [if_neg hc, if_neg hc]; simp [List.getLast?_cons]
    · rw [if_neg hx, if_neg hx, ih]
      by_cases hc : c = b
      · rw [if_pos hc, if_pos hc]; simp
      · rw [if_neg hc, if_neg hc]
        cases ws with
        | nil => simp
        | cons a rest => simp [List.getLast?_cons]
theorem bsplit_len (b : UInt8) (l : List UInt8) : (bsplit b l).length ≤ l.length + 1 := by
  induction l with
  | nil => simp [bsplit]
  | cons c r ih =>
    rw [bsplit]
    split
    · simp; omega
    · split
      · rename_i w ws e
        rw [e] at ih; simp at ih ⊢; omega
      · simp
theorem bsplit_word (b : UInt8) (l : List UInt8) : ∀ w ∈ bsplit b l, w.length ≤ l.length := by
  induction l with
  | nil => intro w hw; simp [bsplit] at hw; subst hw; simp
  | cons c r ih =>
    intro w hw
    rw [bsplit] at hw
    split at hw
    · rcases List.mem_cons.1 hw with rfl | hw
      · simp
      · have := ih w hw; simp; omega
    · split at hw
      · rename_i v vs e
        rcases List.mem_cons.1 hw with rfl | hw
        · have := ih v (by rw [e]; simp); simp; omega
        · have := ih w (by rw [e]; simp [hw]); simp; omega
      · simp at hw; subst hw; simp
theorem digs_of {l : List UInt8} (hne : l ≠ []) (hz : ¬ (l.head? = some 48 ∧ 1 < l.length)) : digs l = l.all isDig := by
  unfold digs
  have h1 : l.isEmpty = false := by cases l with | nil => exact absurd rfl hne | cons a b => rfl
  have h2 : (decide (1 < l.length) && (l.head? == some 48)) = false := by
    rw [Bool.and_eq_false_iff, decide_eq_false_iff_not, beq_eq_false_iff_ne]
    by_cases h : l.head? = some 48
    · exact .inl fun h' => hz ⟨h, h'⟩
    · exact .inr h
  rw [h1, h2]
  simp
theorem digs_zero {l : List UInt8} (h1 : l.head? = some 48) (h2 : 1 < l.length) : digs l = false := by
  unfold digs
  rw [h1, decide_eq_true h2]
  simp
/-- a decimal without leading noughts, up to 2^31 - 1 -/
def rnum (l : List UInt8) : Int × Bool := if digs l = true ∧ dval l ≤ 2147483647 then ((dval l : Int), true) else (0, false)
theorem rnum_bad {l : List UInt8} (h : digs l = false) : rnum l = (0, false) := by unfold rnum; rw [h]; simp
theorem rnum_big {l : List UInt8} (k : Nat) (h : 2147483647 < dval (l.take k)) : rnum l = (0, false) := by
  unfold rnum
  rw [if_neg]
  rintro ⟨_, h2⟩
  have e : dval l = dgo (dval (l.take k)) (l.drop k) := by
    unfold dval
    rw [← show (l.take k ++ l.drop k) = l from List.take_append_drop k l]
    unfold dgo
    rw [List.foldl_append, List.take_append_drop]
  have := dgo_ge (l.drop k) (dval (l.take k))
  omega
theorem rnum_ok {l : List UInt8} (h : digs l = true) (h2 : dval l ≤ 2147483647) : rnum l = ((dval l : Int), true) := by unfold rnum; rw [if_pos ⟨h, h2⟩]
theorem all_take_succ {l : List UInt8} {j : Nat} {c : UInt8} (h : l[j]? = some c) : (l.take (j + 1)).all isDig = ((l.take j).all isDig && isDig c) := by
  rw [List.take_add_one, h]; simp
theorem dval_take_succ {l : List UInt8} {j : Nat} {c : UInt8} (h : l[j]? = some c) : dval (l.take (j + 1)) = dval (l.take j) * 10 + (c.toNat - 48) := by
  rw [List.take_add_one, h]
  exact dgo_app 0 _ _
theorem all_bad {l : List UInt8} {j : Nat} {c : UInt8} (h : l[j]? = some c) (hc : isDig c = false) : l.all isDig = false := by
  rw [Bool.eq_false_iff]
  intro h2
  have := List.all_eq_true.1 h2 c (List.mem_of_getElem? h)
  rw [hc] at this; cases this
/-- bytes of a string, one by one -/
theorem str_at (s : ByteArray) (j : Nat) (h : j < s.size) : ∃ c : UInt8, s[j] = c ∧ s.data.toList[j]? = some c := ⟨s[j], rfl, by
  have h' : j < s.data.size := h
  rw [Array.getElem?_toList, Array.getElem?_eq_getElem h']
  rfl⟩
theorem str_head (s : ByteArray) (h : 0 < s.size) : ∃ c : UInt8, s[0] = c ∧ s.data.toList.head? = some c := by
  obtain ⟨c, h1, h2⟩ := str_at s 0 h
  exact ⟨c, h1, by rw [List.head?_eq_getElem?]; exact h2⟩
theorem str_size {s : ByteArray} (h : ¬ s.toList = []) : 0 < s.size := by
  rw [ByteArray.toList_eq] at h
  have : s.data.toList.length ≠ 0 := fun e => h (List.eq_nil_of_length_eq_zero e)
  rw [Array.length_toList] at this
  show 0 < s.data.size
  omega
theorem str_len (s : ByteArray) : s.data.toList.length = s.size := by rw [Array.length_toList]; rfl
theorem str_ext (s : ByteArray) (j : Nat) (h : j < s.size) (c : UInt8) (hc : s.data.toList[j]? = some c) : s.extract j (j + 1) = ⟨#[c]⟩ := by
  apply ByteArray.ext
  rw [ByteArray.data_extract]
  apply Array.ext'
  rw [Array.toList_extract, List.extract_eq_take_drop]
  rw [show j + 1 - j = 1 by omega]
  obtain ⟨h1, h2⟩ := List.getElem?_eq_some_iff.1 hc
  rw [List.drop_eq_getElem_cons h1, h2]
  rfl
theorem ow_one (w : World) (E : TypeId) (x : Value) : Ow w (w.alloc (.cells #[x] E)) E 1 (.slice (some ⟨w.heap.size, 0, none⟩) 1 1) 1 [x] :=
  ⟨⟨by simp, some ⟨w.heap.size, 0, none⟩, 1, rfl, Nat.le_refl _, by simp [maxLen], ⟨by simp, fun a h => by cases h; simp⟩, fun _ => ⟨w.heap.size, 0, #[x], rfl, World.alloc_heap_new _ _, by simp, fun j u h => by
    cases j with
    | zero => simpa using h
    | succ j => simp at h⟩⟩, (Fr.refl _ w).alloc _, fun g hg => by simp [Value.ownBlock] at hg; omega⟩
def strv (l : List UInt8) : Value := .string ⟨l.toArray⟩
theorem str_snoc (u : List UInt8) (c : UInt8) : Value.string (({ data := u.toArray } : ByteArray) ++ { data := #[c] }) = strv (u ++ [c]) := by
  unfold strv
  exact congrArg Value.string (ByteArray.ext (by simp))
theorem set_last {α : Type} (l : List α) (k : Nat) (h : l.length = k + 1) (x : α) : l.set k x = l.dropLast ++ [x] := by
  have hne : l ≠ [] := by intro e; subst e; simp at h
  obtain ⟨a, b, rfl⟩ : ∃ a b, l = a ++ [b] := ⟨l.dropLast, l.getLast hne, (List.dropLast_concat_getLast hne).symm⟩
  have ha : a.length = k := by simp at h; exact h
  subst ha
  simp
end Go.XL
