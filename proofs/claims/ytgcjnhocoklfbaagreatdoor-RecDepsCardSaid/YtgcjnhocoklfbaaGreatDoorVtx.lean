/- Plain laws: a vector in words is read again; what is read is told just so. -/
import Derived.Test.YtgcjnhocoklfbaaGreatDoorVup
import Derived.Test.YtgcjnhocoklfbaaGreatDoorVlast
namespace Go.XL
open Go.RowKit Go.Shelf
set_option linter.unusedVariables false
set_option linter.unusedSimpArgs false
theorem vget_take (xs : List Int) (j : Nat) : vget (xs.take (vlast xs)) j = vget xs j := by
  by_cases h : j < vlast xs
  · rw [vget_nat, vget_nat, List.getElem?_take_of_lt h]
  · rw [(vlast_spec xs).2 j (by omega), vget_beyond]
    rw [List.length_take]; omega
theorem vcov_take (xs : List Int) : (vcov xs (xs.take (vlast xs)) && vcov (xs.take (vlast xs)) xs) = true := by
  rw [Bool.and_eq_true, vcov_all, vcov_all]
  exact ⟨fun j => by rw [vget_take]; exact Int.le_refl _, fun j => by rw [vget_take]; exact Int.le_refl _⟩
theorem wjoin_nil {ws : List (List UInt8)} (h : ∀ w ∈ ws, w ≠ []) (hne : ws ≠ []) : wjoin ws ≠ [] := by
  cases ws with
  | nil => exact absurd rfl hne
  | cons w ws =>
    cases ws with
    | nil => exact h w (by simp)
    | cons a b => rw [wjoin]; simp
theorem itoa_nat {x : Int} (h : 0 ≤ x) : Lib.itoa x = Lib.decDigits x.toNat := by unfold Lib.itoa; rw [if_neg (by omega)]
/-- a vector in words is read again as it was -/
theorem parse_text {xs : List Int} (hb : ∀ x ∈ xs, 0 ≤ x ∧ x ≤ 1048576) (hl : vlast xs ≤ 8) : vparse (vtext xs) = (xs.take (vlast xs), 0) := by
  obtain ⟨ws, hws⟩ : ∃ ws, (xs.take (vlast xs)).map Lib.itoa = ws := ⟨_, rfl⟩
  have hdg : ∀ w ∈ ws, digs w = true := fun w hw => by
    rw [← hws] at hw
    obtain ⟨x, hx, rfl⟩ := List.mem_map.1 hw
    rw [itoa_nat (hb x (List.mem_of_mem_take hx)).1]
    exact digs_decDigits _
  have e1 : (vtext xs).head? = some 91 := rfl
  have e2 : (vtext xs).tail = wjoin ws ++ [93] := by unfold vtext; rw [hws]; rfl
  unfold vparse
  rw [e2, if_pos ⟨e1, by simp⟩, List.dropLast_concat]
  by_cases h0 : vlast xs = 0
  · have : ws = [] := by rw [← hws, h0]; rfl
    rw [this, h0, if_pos (show wjoin [] = [] from rfl)]; rfl
  · have hlen : ws.length = vlast xs := by rw [← hws, List.length_map, List.length_take]; have := vlast_le xs; omega
    have hne : ws ≠ [] := fun e => h0 (by rw [← hlen, e]; rfl)
    rw [if_neg (wjoin_nil (fun w hw => by
      have := hdg w hw
      intro e
      rw [e] at this
      cases this) hne)]
    rw [wsplit_join ws hne (fun w hw => digs_no32 (hdg w hw))]
    unfold vwords
    rw [if_pos (List.all_eq_true.2 hdg)]
    obtain ⟨h1, _⟩ := vlast_spec xs
    rcases h1 with h1 | ⟨x, hx, hx0, hp⟩
    · exact absurd h1 h0
    · have hxb := hb x (List.mem_of_getElem? hx)
      have hgl : ws.getLast? = some (Lib.itoa x) := by
        rw [List.getLast?_eq_getElem?, hlen, ← hws, List.getElem?_map, List.getElem?_take_of_lt (by omega), hx]; rfl
      have hdv : ∀ y : Int, 0 ≤ y → (dval (Lib.itoa y) : Int) = y := fun y hy => by
        rw [itoa_nat hy, (decDigits_dig _).2.2.1]; omega
      rw [if_neg (by
        rw [hgl]
        intro e
        have e' : Lib.itoa x = [48] := Option.some.inj e
        have := hdv x hxb.1
        rw [e'] at this
        exact hx0 this.symm)]
      rw [if_pos (by
        rw [Bool.and_eq_true]
        refine ⟨List.all_eq_true.2 fun w hw => ?_, by simp; omega⟩
        rw [← hws] at hw
        obtain ⟨y, hy, rfl⟩ := List.mem_map.1 hw
        have hyb := hb y (List.mem_of_mem_take hy)
        rw [hdv y hyb.1]
        simp; omega)]
      congr 1
      rw [← hws, List.map_map]
      rw [show ((fun w => (dval w : Int)) ∘ Lib.itoa) = fun y => (dval (Lib.itoa y) : Int) from rfl]
      conv => rhs; rw [← List.map_id (xs.take (vlast xs))]
      exact List.map_congr_left fun y hy => hdv y (hb y (List.mem_of_mem_take hy)).1
theorem vbad_ok {xs : List Int} (hb : ∀ x ∈ xs, 0 ≤ x ∧ x ≤ 1048576) : vbad xs = 0 := by
  induction xs with
  | nil => rfl
  | cons x xs ih =>
    have := hb x (by simp)
    rw [vbad, if_neg (by omega), if_neg (by omega)]
    exact ih (fun y hy => hb y (by simp [hy]))
theorem vcheck_ok {xs : List Int} (hb : ∀ x ∈ xs, 0 ≤ x ∧ x ≤ 1048576) (hl : xs.length ≤ 8) : vcheck xs 8 = 0 := by
  unfold vcheck
  rw [if_neg (by omega), if_neg (by omega), if_neg (by omega)]
  exact vbad_ok hb
theorem vwords_small (ws : List (List UInt8)) : (∀ x ∈ (vwords ws).1, 0 ≤ x ∧ x ≤ 1048576) ∧ (vwords ws).1.length ≤ 8 := by
  unfold vwords
  split
  · split
    · simp
    · split
      · rename_i h
        rw [Bool.and_eq_true, decide_eq_true_eq, List.all_eq_true] at h
        refine ⟨fun x hx => ?_, by simp; exact h.2⟩
        obtain ⟨w, hw, rfl⟩ := List.mem_map.1 hx
        have := h.1 w hw
        simp only [decide_eq_true_eq] at this
        omega
      · simp
  · simp
theorem vparse_small (l : List UInt8) : (∀ x ∈ (vparse l).1, 0 ≤ x ∧ x ≤ 1048576) ∧ (vparse l).1.length ≤ 8 := by
  unfold vparse
  split
  · split
    · simp
    · exact vwords_small _
  · simp
theorem vwords_text {ws : List (List UInt8)} (hne : ws ≠ []) (h : (vwords ws).2 = 0) : vtext (vwords ws).1 = 91 :: (wjoin ws ++ [93]) := by
  unfold vwords at h ⊢
  split at h
  · rename_i hd
    split at h
    · cases h
    · rename_i hz
      split at h
      · rename_i hc
        rw [if_pos hd, if_neg hz, if_pos hc]
        have hdg := List.all_eq_true.1 hd
        have hl : vlast (ws.map fun w => (dval w : Int)) = ws.length := by
          apply vlast_uniq
          · intro j hj
            rw [vget_nat, List.getElem?_eq_none (by simpa using hj)]; rfl
          · right
            obtain ⟨a, b, rfl⟩ : ∃ a b, ws = a ++ [b] := ⟨ws.dropLast, ws.getLast hne, (List.dropLast_concat_getLast hne).symm⟩
            rw [vget_nat, List.length_append, show a.length + [b].length - 1 = a.length by simp, List.map_append, List.getElem?_append_right (by simp)]
            simp only [List.length_map, Nat.sub_self, List.map_cons, List.map_nil, List.getElem?_cons_zero, Option.getD_some]
            intro e
            have e2 := (dval_zero (hdg b (by simp))).1 (by omega)
            exact hz (by rw [e2]; simp)
        unfold vtext
        rw [hl, List.take_of_length_le (by simp), List.map_map]
        have hm : ws.map (Lib.itoa ∘ fun w => (dval w : Int)) = ws := by
          conv => rhs; rw [← List.map_id ws]
          refine List.map_congr_left fun w hw => ?_
          show Lib.itoa (dval w : Int) = w
          rw [itoa_nat (by omega), Int.toNat_natCast]
          exact decDigits_dval _ w rfl (hdg w hw)
        rw [hm]
      · cases h
  · cases h
theorem vparse_text {l : List UInt8} (h : (vparse l).2 = 0) : vtext (vparse l).1 = l := by
  unfold vparse at h ⊢
  split at h
  · rename_i hh
    rw [if_pos hh]
    obtain ⟨h1, h2⟩ := hh
    have hl : l = 91 :: (l.tail.dropLast ++ [93]) := by
      cases l with
      | nil => cases h1
      | cons x t =>
        simp at h1 h2
        subst h1
        have hne : t ≠ [] := by intro e; subst e; cases h2
        rw [List.getLast?_eq_some_getLast hne] at h2
        injection h2 with h2
        have := List.dropLast_concat_getLast hne
        rw [h2] at this
        simp only [List.tail_cons]
        rw [this]
    split at h
    · rename_i h3
      rw [if_pos h3, hl, h3]
      rfl
    · rename_i h3
      rw [if_neg h3]
      rw [vwords_text (wsplit_ne _) h, wjoin_split]
      exact hl.symm
  · cases h
theorem vcov_self (xs : List Int) : (vcov xs xs && vcov xs xs) = true := by
  have : vcov xs xs = true := (vcov_all _ _).2 fun j => Int.le_refl _
  rw [this]; rfl
end Go.XL
