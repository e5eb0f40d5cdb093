/- strings.Join at blanks, of a row of strings that is owned. -/
import Derived.Test.YtkdcldnbdhfobaaDoorVecT
import Derived.Test.YtkdcldnbdhfobaaDoorSplit
namespace Go.XL
open Go.RowKit Go.Shelf
set_option linter.unusedVariables false
set_option linter.unusedSimpArgs false
theorem wjoin_len' (c : Nat) : ∀ (ws : List (List UInt8)), (∀ w ∈ ws, w.length ≤ c) → (wjoin ws).length ≤ (c + 1) * ws.length
  | [], _ => by simp [wjoin]
  | [w], h => by have := h w (by simp); simp [wjoin]; omega
  | w :: w2 :: ws, h => by
    have h1 := wjoin_len' c (w2 :: ws) (fun v hv => h v (by simp only [List.mem_cons] at hv ⊢; exact .inr hv))
    have h2 := h w (by simp)
    rw [wjoin, List.length_append, List.length_cons]
    have e : (c + 1) * (w :: w2 :: ws).length = (c + 1) * (w2 :: ws).length + (c + 1) := by rw [List.length_cons, Nat.mul_add]; omega
    omega
end Go.XL
namespace Go.Proofs.YtkdcldnbdhfobaaDoor
open Go.RowKit Go.Shelf Go.XL
set_option linter.unusedVariables false
set_option linter.unusedSimpArgs false
theorem s_join (ws : List (List UInt8)) (v : Value) (w W : World) (hO : Ow w W 9 1 v ws.length (ws.map strv)) (hl : (wjoin ws).length ≤ 100000000) (hn : ws.length ≤ 1000000) :
    Calls Tryd.prog 26 #[v, .string ⟨#[32]⟩] W fun e w' => e = .returned (.string ⟨(wjoin ws).toArray⟩) ∧ Fr no W w' := by
  obtain ⟨bo, bc, rfl, hc1, hc2⟩ := hO.cap
  by_cases h0 : ws = []
  · subst h0
    exact (Tryd.strings_Join_none bo bc ⟨#[32]⟩ W).mono fun e w' ⟨he, hw⟩ => ⟨by rw [he]; rfl, by rw [hw]; exact Fr.refl _ _⟩
  · have hp : 0 < ws.length := by
      cases ws with
      | nil => exact absurd rfl h0
      | cons a b => simp
    obtain ⟨g, off, c', he, _, _, hg0, hx, _⟩ := hO.form hp
    cases he
    have hgl : g < W.heap.size := hO.sl.lt g rfl
    have hb : (ws.map fun x => (⟨x.toArray⟩ : ByteArray)).map (·.data.toList) = ws := by
      rw [List.map_map]
      conv => rhs; rw [← List.map_id ws]
      exact List.map_congr_left fun x _ => rfl
    have hlen : (Lib.join ((ws.map fun x => (⟨x.toArray⟩ : ByteArray)).map (·.data.toList)) [32]).length ≤ 140737488355328 := by
      rw [hb, wjoin_join]; omega
    have h := Tryd.strings_Join g off bc (ws.map fun x => (⟨x.toArray⟩ : ByteArray)) ⟨#[32]⟩ W (fun j x hj => hx j _ (by
      rw [List.getElem?_map] at hj ⊢
      cases h2 : ws[j]? with
      | none => rw [h2] at hj; cases hj
      | some y => rw [h2] at hj; simp at hj ⊢; rw [← hj]; rfl)) hgl (by rw [List.length_map]; omega) (by rw [List.length_map]; omega) hlen
    rw [List.length_map, hb] at h
    refine h.mono fun e w' ⟨he, hb'⟩ => ⟨?_, Fr.of_below hb'⟩
    rw [he]
    have : (⟨#[32]⟩ : ByteArray).data.toList = [32] := rfl
    rw [this, wjoin_join]
end Go.Proofs.YtkdcldnbdhfobaaDoor
