/- strings.TrimFunc at the bytes of a name: nothing is left just where all bytes are such (plain). -/
import Derived.Shelf.GgClosure.StringsTrimFunc
import Derived.Lib.TrimAscii
import Derived.Lib.RuneCount
namespace Go.XL
open Go.Lib
set_option linter.unusedVariables false
set_option linter.unusedSimpArgs false
/-- a byte of a name -/
def nb (r : Nat) : Bool := (decide (97 ≤ r) && decide (r ≤ 122)) || (decide (48 ≤ r) && decide (r ≤ 57))
def nameOk (l : List UInt8) : Bool := l.all fun c => nb c.toNat
theorem nb_small {r : Nat} (h : nb r = true) : r < 128 := by
  unfold nb at h
  simp at h
  omega
theorem decodeN_nb {n b0 b1 b2 b3 : Nat} (h : nb (decodeN n b0 b1 b2 b3).1 = true) : b0 < 128 := by
  have h1 := nb_small h
  unfold decodeN at h1
  repeat' split at h1
  all_goals first | assumption | omega | (simp at h1; omega)
theorem nb_decode (s : ByteArray) (pos : Nat) (h : nb (Utf8.decode s pos).1 = true) : nb (s.data.toList.getD pos 0).toNat = true ∧ (Utf8.decode s pos).2 = 1 := by
  rw [decode_N] at h ⊢
  have h0 := decodeN_nb h
  rw [decodeN_ascii _ _ _ _ _ h0] at h ⊢
  exact ⟨h, rfl⟩
theorem decode_nb (s : ByteArray) (pos : Nat) (h : nb (s.data.toList.getD pos 0).toNat = true) : Utf8.decode s pos = ((s.data.toList.getD pos 0).toNat, 1) := by
  rw [decode_N, decodeN_ascii _ _ _ _ _ (nb_small h)]
theorem idx_ok (s : ByteArray) (h : ∀ j, j < s.size → nb (s.data.toList.getD j 0).toNat = true) : ∀ (f pos : Nat), idxFuncFrom nb false s f pos = -1
  | 0, _ => rfl
  | f + 1, pos => by
    unfold idxFuncFrom
    split
    · rename_i hp
      rw [decode_nb s pos (h pos hp)]
      rw [if_neg (by rw [h pos hp]; decide)]
      exact idx_ok s h f _
    · rfl
theorem idx_bad (s : ByteArray) : ∀ (f pos : Nat), s.size ≤ pos + f → idxFuncFrom nb false s f pos = -1 → ∀ j, pos ≤ j → j < s.size → nb (s.data.toList.getD j 0).toNat = true
  | 0, pos, hf, _, j, h1, h2 => by omega
  | f + 1, pos, hf, h, j, h1, h2 => by
    unfold idxFuncFrom at h
    split at h
    · rename_i hp
      split at h
      · omega
      · rename_i hn
        have hn' : nb (Utf8.decode s pos).1 = true := by simpa using hn
        obtain ⟨k1, k2⟩ := nb_decode s pos hn'
        rw [k2] at h
        by_cases e : j = pos
        · rw [e]; exact k1
        · exact idx_bad s f (pos + 1) (by omega) h j (by omega) h2
    · omega
theorem idx_at (s : ByteArray) : ∀ (f pos : Nat), idxFuncFrom nb false s f pos ≠ -1 → ∃ i : Nat, i < s.size ∧ idxFuncFrom nb false s f pos = i ∧ nb (Utf8.decode s i).1 = false
  | 0, pos, h => absurd rfl h
  | f + 1, pos, h => by
    unfold idxFuncFrom at h ⊢
    split
    · rename_i hp
      rw [if_pos hp] at h
      split
      · rename_i hn
        exact ⟨pos, hp, rfl, hn⟩
      · rename_i hn
        rw [if_neg hn] at h
        exact idx_at s f _ h
    · rename_i hp
      rw [if_neg hp] at h
      exact absurd rfl h
theorem last_nb {l : List UInt8} (hne : l ≠ []) (h : nb (decodeLastL l).1 = true) : nb (l.getD (l.length - 1) 0).toNat = true ∧ (decodeLastL l).2 = 1 := by
  unfold decodeLastL at h ⊢
  rw [if_neg hne] at h ⊢
  split
  · rename_i ha
    rw [if_pos ha] at h
    exact ⟨h, rfl⟩
  · rename_i ha
    rw [if_neg ha] at h
    dsimp only at h
    split at h
    · rename_i he
      exfalso
      rw [decodeL_N] at h he
      have h0 := decodeN_nb h
      rw [decodeN_ascii _ _ _ _ _ h0] at he
      rw [getD_dropU, Nat.add_zero] at h0
      have : lastStart l = l.length - 1 := by dsimp only at he; omega
      rw [this] at h0
      omega
    · exfalso
      revert h
      decide
theorem getD_take (l : List UInt8) {i j : Nat} (h : j < i) : (l.take i).getD j 0 = l.getD j 0 := by
  simp only [List.getD, List.getElem?_take_of_lt h]
theorem last_bad (s : ByteArray) : ∀ (f i : Nat), i ≤ f → i ≤ s.size → lastIdxFuncFrom nb false s f i = -1 → ∀ j, j < i → nb (s.data.toList.getD j 0).toNat = true
  | 0, i, hf, hi, h, j, hj => by omega
  | f + 1, i, hf, hi, h, j, hj => by
    unfold lastIdxFuncFrom at h
    rw [if_pos (by omega)] at h
    have hl : (s.data.toList.take i).length = i := by rw [List.length_take, ← size_eq]; omega
    have hne : s.data.toList.take i ≠ [] := fun e => by rw [e] at hl; simp at hl; omega
    have hw := decodeLastL_width (s.data.toList.take i) (by rw [hl]; omega)
    rw [hl] at hw
    split at h
    · omega
    · rename_i hn
      have hn' : nb (decodeLastL (s.data.toList.take i)).1 = true := by simpa using hn
      obtain ⟨k1, k2⟩ := last_nb hne hn'
      rw [hl, getD_take _ (by omega)] at k1
      rw [k2] at h
      by_cases e : j = i - 1
      · rw [e]; exact k1
      · exact last_bad s f (i - 1) (by omega) (by omega) h j (by omega)
theorem all_getD (s : ByteArray) : (∀ j, j < s.size → nb (s.data.toList.getD j 0).toNat = true) ↔ nameOk s.data.toList = true := by
  unfold nameOk
  rw [List.all_eq_true]
  constructor
  · intro h c hc
    obtain ⟨j, hj⟩ := List.getElem?_of_mem hc
    have hlt := (List.getElem?_eq_some_iff.1 hj).1
    have := h j (by rw [size_eq]; exact hlt)
    simpa [List.getD, hj] using this
  · intro h j hj
    rw [size_eq] at hj
    have e : s.data.toList[j]? = some s.data.toList[j] := by simp
    have := h _ (List.mem_of_getElem? e)
    simpa [List.getD, e] using this
theorem trim_ok {s : ByteArray} (h : nameOk s.data.toList = true) : trimF nb s = ⟨#[]⟩ := by
  have h1 : idxFunc nb false s = -1 := idx_ok s ((all_getD s).2 h) _ _
  unfold trimF trimLeftF
  rw [if_pos h1]
  unfold trimRightF
  rw [extract_eq]
  rfl
theorem trim_bad {s : ByteArray} (h : nameOk s.data.toList = false) : (trimF nb s).data.toList ≠ [] := by
  have h1 : idxFunc nb false s ≠ -1 := fun e => by
    have := (all_getD s).1 (fun j hj => idx_bad s s.size 0 (by omega) e j (Nat.zero_le _) hj)
    rw [this] at h; cases h
  obtain ⟨i, hi, e, hn⟩ := idx_at s s.size 0 h1
  have e' : idxFunc nb false s = i := e
  unfold trimF trimLeftF
  rw [if_neg h1, e']
  simp only [Int.toNat_natCast]
  obtain ⟨t, ht⟩ : ∃ t, s.extract i s.size = t := ⟨_, rfl⟩
  rw [ht]
  have hts : t.size = s.size - i := by rw [← ht, size_eq, extract_data, List.length_take, List.length_drop, ← size_eq]; omega
  have htd : t.data.toList = s.data.toList.drop i := by
    rw [← ht, extract_data]
    rw [List.take_of_length_le (by rw [List.length_drop, ← size_eq]; omega)]
  have h2 : lastIdxFunc nb false t ≠ -1 := fun e2 => by
    have h0 := last_bad t t.size t.size (Nat.le_refl _) (Nat.le_refl _) e2 0 (by omega)
    rw [htd, getD_dropU, Nat.add_zero] at h0
    rw [decode_nb s i h0] at hn
    dsimp only at hn
    rw [h0] at hn
    cases hn
  have h3 : 0 ≤ lastIdxFunc nb false t ∧ lastIdxFunc nb false t ≤ t.size := by
    rcases lastIdxFuncFrom_range nb false t t.size t.size with h | h
    · exact absurd h h2
    · exact h
  unfold trimRightF
  have h4 : 0 < rightEndF nb t := by
    unfold rightEndF
    rw [if_pos h3.1]
    have : 1 ≤ (decodeGoB (t.extract (lastIdxFunc nb false t).toNat t.size)).2 ∨ 0 < (lastIdxFunc nb false t).toNat := by
      by_cases h5 : 0 < (lastIdxFunc nb false t).toNat
      · exact .inr h5
      · left
        rw [show (lastIdxFunc nb false t).toNat = 0 by omega]
        have hz : (t.extract 0 t.size).size = t.size := by rw [size_eq, extract_data, List.length_take, List.length_drop, ← size_eq]; omega
        unfold decodeGoB
        rw [if_neg (by omega)]
        exact decode_width_pos _ _ (by omega)
    omega
  rw [extract_data]
  intro e3
  have := congrArg List.length e3
  rw [List.length_take, List.length_drop, ← size_eq, List.length_nil] at this
  omega
end Go.XL
