/- The walk of the law VecWords. -/
import Derived.Test.YtdepenibifbcpaaGreatDoorVup
import Derived.Test.YtdepenibifbcpaaGreatDoorRefW
import Derived.Test.YtdepenibifbcpaaGreatDoorVlast
namespace Go.XL
open Go.RowKit Go.Shelf
set_option linter.unusedVariables false
set_option linter.unusedSimpArgs false
theorem itoa_nat {x : Int} (h : 0 ≤ x) : Lib.itoa x = Lib.decDigits x.toNat := by unfold Lib.itoa; rw [if_neg (by omega)]
theorem vwords_small (ws : List (List UInt8)) : (∀ x ∈ (vwords ws).1, 0 ≤ x ∧ x ≤ 1048576) ∧ (vwords ws).1.length ≤ 8 := by
  unfold vwords
  split
  · split
    · simp
    · split
      · rename_i h
        rw [Bool.and_eq_true, decide_eq_true_eq, List.all_eq_true] at h
        refine ⟨fun x hx => ?_, by simp; exact h.2⟩
        obtain ⟨w, hw, rfl⟩ := List.mem_map.1 hx
        have := h.1 w hw
        simp only [decide_eq_true_eq] at this
        omega
      · simp
  · simp
theorem vparse_small (l : List UInt8) : (∀ x ∈ (vparse l).1, 0 ≤ x ∧ x ≤ 1048576) ∧ (vparse l).1.length ≤ 8 := by
  unfold vparse
  split
  · split
    · simp
    · exact vwords_small _
  · simp
theorem vwords_text {ws : List (List UInt8)} (hne : ws ≠ []) (h : (vwords ws).2 = 0) : vtext (vwords ws).1 = 91 :: (wjoin ws ++ [93]) := by
  unfold vwords at h ⊢
  split at h
  · rename_i hd
    split at h
    · cases h
    · rename_i hz
      split at h
      · rename_i hc
        rw [if_pos hd, if_neg hz, if_pos hc]
        have hdg := List.all_eq_true.1 hd
        have hl : vlast (ws.map fun w => (dval w : Int)) = ws.length := by
          apply vlast_uniq
          · intro j hj
            rw [vget_nat, List.getElem?_eq_none (by simpa using hj)]; rfl
          · right
            obtain ⟨a, b, rfl⟩ : ∃ a b, ws = a ++ [b] := ⟨ws.dropLast, ws.getLast hne, (List.dropLast_concat_getLast hne).symm⟩
            rw [vget_nat, List.length_append, show a.length + [b].length - 1 = a.length by simp, List.map_append, List.getElem?_append_right (by simp)]
            simp only [List.length_map, Nat.sub_self, List.map_cons, List.map_nil, List.getElem?_cons_zero, Option.getD_some]
            intro e
            have e2 := (dval_zero (hdg b (by simp))).1 (by omega)
            exact hz (by rw [e2]; simp)
        unfold vtext
        rw [hl, List.take_of_length_le (by simp), List.map_map]
        have hm : ws.map (Lib.itoa ∘ fun w => (dval w : Int)) = ws := by
          conv => rhs; rw [← List.map_id ws]
          refine List.map_congr_left fun w hw => ?_
          show Lib.itoa (dval w : Int) = w
          rw [itoa_nat (by omega), Int.toNat_natCast]
          exact decDigits_dval _ w rfl (hdg w hw)
        rw [hm]
      · cases h
  · cases h
theorem vparse_text {l : List UInt8} (h : (vparse l).2 = 0) : vtext (vparse l).1 = l := by
  unfold vparse at h ⊢
  split at h
  · rename_i hh
    rw [if_pos hh]
    obtain ⟨h1, h2⟩ := hh
    have hl : l = 91 :: (l.tail.dropLast ++ [93]) := by
      cases l with
      | nil => cases h1
      | cons x t =>
        simp at h1 h2
        subst h1
        have hne : t ≠ [] := by intro e; subst e; cases h2
        rw [List.getLast?_eq_some_getLast hne] at h2
        injection h2 with h2
        have := List.dropLast_concat_getLast hne
        rw [h2] at this
        simp only [List.tail_cons]
        rw [this]
    split at h
    · rename_i h3
      rw [if_pos h3, hl, h3]
      rfl
    · rename_i h3
      rw [if_neg h3]
      rw [vwords_text (wsplit_ne _) h, wjoin_split]
      exact hl.symm
  · cases h
theorem vcov_self (xs : List Int) : (vcov xs xs && vcov xs xs) = true := by
  have : vcov xs xs = true := (vcov_all _ _).2 fun j => Int.le_refl _
  rw [this]; rfl
end Go.XL
namespace Go.Proofs.YtdepenibifbcpaaGreatDoor
open Go.RowKit Go.Shelf Go.XL Go.ChangeShapes Go.WideShapes Go.ChangeAt
set_option linter.unusedVariables false
set_option linter.unusedSimpArgs false
attribute [local go_sem] Oper.semAt_some
set_option maxRecDepth 100000 in
set_option maxHeartbeats 8000000 in
theorem vecWords_any (s : ByteArray) (w : World) (hG : Gl w) :
    Calls Tryz.prog 4 #[.string s] w fun e w' => e = .returned (.bool true) ∧ Fr no w w' := by
  have hk := vknown w hG
  have F : Hid (Fr no w w) := Lib.hid (Fr.refl _ _)
  have HG := Lib.hid hG
  clear hG
  by_cases hs : 300 < s.size
  · have hs2 : 300 < (s.size : Int) := by omega
    go_enter Tryz.func4, Tryz.ntmps4
    go_wp2_with fail
    have hc := hk
    refine hc.mono ?_
    clear hc
    rintro e w' ⟨rfl, hfd⟩
    replace F := Lib.hid (F.out.trans' hfd)
    clear hfd
    go_wp2
    go_ret
    exact ⟨rfl, F.out⟩
  · have hs2 : (s.size : Int) ≤ 300 := by omega
    have hv := vec_parse s
    have hr := ref_parse s
    have hsm := vparse_small s.data.toList
    have htx := @vparse_text s.data.toList
    obtain ⟨xs, f, hxf⟩ : ∃ xs f, vparse s.data.toList = (xs, f) := ⟨_, _, rfl⟩
    rw [hxf] at hv hr hsm htx
    have Hv := Lib.hid hv
    have Hr := Lib.hid hr
    have Hsm := Lib.hid hsm
    have Htx := Lib.hid htx
    clear hv hr hsm htx hxf
    go_enter Tryz.func4, Tryz.ntmps4
    go_wp2_with fail
    have hc := hk
    refine hc.mono ?_
    clear hc
    rintro e w' ⟨rfl, hfd⟩
    replace F := Lib.hid (F.out.trans' hfd)
    clear hfd
    go_wp2_with fail
    refine (Hv.out _ (by omega) (HG.out.fr F.out)).mono ?_
    rintro e w' ⟨v', rfl, hm⟩
    obtain ⟨Xo, Xc, rfl, _, _, hx, hfd⟩ := hm.see
    have X := Lib.hid hx
    replace F := Lib.hid (F.out.trans' hfd)
    clear hm hx hfd
    go_wp2_with fail
    refine (Hr.out _ (by omega)).mono ?_
    rintro e w' ⟨v', rfl, hm⟩
    obtain ⟨Yo, Yc, rfl, _, _, hx, hfd⟩ := hm.see
    replace X := Lib.hid (X.out.fr hfd (fun _ _ _ f => f))
    have Y := Lib.hid hx
    replace F := Lib.hid (F.out.trans' hfd)
    clear hm hx hfd
    by_cases hf : f = 0
    · subst hf
      go_wp2_with fail
      have hc := (ref_same _ _ xs xs _ X.out Y.out)
      rw [vcov_self] at hc
      refine hc.mono ?_
      clear hc
      rintro e w' ⟨rfl, rfl⟩
      have hstr : (⟨(vtext xs).toArray⟩ : ByteArray) = s := by
        have := Htx.out trivial
        rw [this]
      go_wp2_with fail
      have hc := (vec_text _ xs _ X.out (fun x hx => by have := Hsm.out.1 x hx; omega) (by have := Hsm.out.2; omega) (HG.out.fr F.out))
      rw [hstr] at hc
      refine hc.mono ?_
      clear hc
      rintro e w' ⟨rfl, hfd⟩
      replace X := Lib.hid (X.out.fr hfd (fun _ _ _ f => f))
      replace Y := Lib.hid (Y.out.fr hfd (fun _ _ _ f => f))
      replace F := Lib.hid (F.out.trans' hfd)
      clear hfd
      go_wp2
      go_ret
      exact ⟨rfl, F.out⟩
    · have hff : (f != 0) = true := by simpa using hf
      go_wp2_with fail
      have hc := (ref_same _ _ xs xs _ X.out Y.out)
      rw [vcov_self] at hc
      refine hc.mono ?_
      clear hc
      rintro e w' ⟨rfl, rfl⟩
      go_wp2
      go_ret
      exact ⟨rfl, F.out⟩
theorem vecWords_row (s : ByteArray) (w : World) (hG : Gl w) (hs : s.size ≤ maxLen) :
    Calls Tryz.prog 4 #[.string s] w fun e w' => e = .returned (.bool true) ∧ Below w.heap.size w w' := by
  refine (vecWords_any s w hG).mono ?_
  rintro e w' ⟨he, hf⟩
  exact ⟨he, hf.below⟩
end Go.Proofs.YtdepenibifbcpaaGreatDoor
