/- Contracts of the package batch, at ints: First, Take, Clone, Twin. -/
import Derived.Test.YtnchmnkiokofhaaBatch
namespace Go.Proofs.Ytnchmnkiokofhaa
open Go.RowKit Go.Shelf Go.XL
set_option linter.unusedVariables false
set_option linter.unusedSimpArgs false
attribute [local go_sem] Oper.semAt_some

set_option maxHeartbeats 400000 in
theorem first_none (b : Nat) (w : World) (size room : Int) (G : Option Nat) (h : Bat w b size room [] G) :
    Calls Try.prog 12 #[.pointer (some ⟨b, 0, none⟩)] w fun e w' => e = .returned (.tuple #[.int .i64 0, .bool false]) ∧ w = w' := by
  obtain ⟨v, hb, hs, hG, hne⟩ := h
  obtain ⟨ao, cap, rfl, hn, hm⟩ := hs.cap
  have hc : w.cell? ⟨b, 2, none⟩ = some (.slice ao 0 cap) := cell_of_block hb rfl
  clear hb hs hG hne
  go_enter Try.func12, Try.ntmps12
  go_wp2
  refine wp_loop_rounds 1 ?_
  rw [rounds_succ]
  go_wp2
  go_ret2
  exact ⟨rfl, rfl⟩

set_option maxHeartbeats 400000 in
theorem first_some (b : Nat) (w : World) (size room : Int) (x : Int) (xs : List Int) (G : Option Nat) (h : Bat w b size room (x :: xs) G) :
    Calls Try.prog 12 #[.pointer (some ⟨b, 0, none⟩)] w fun e w' => e = .returned (.tuple #[.int .i64 x, .bool true]) ∧ w = w' := by
  obtain ⟨v, hb, hs, hG, hne⟩ := h
  obtain ⟨g, off, cap, cs, rfl, hn, hm, hg, _, hx⟩ := hs.form (by simp)
  have hc : w.cell? ⟨b, 2, none⟩ = some (.slice (some ⟨g, off, none⟩) (x :: xs).length cap) := cell_of_block hb rfl
  have hc0 : w.cell? ⟨g, off, none⟩ = some (.int .i64 x) := cell_of_block hg (hx 0 _ (by simp))
  have h1 : 0 < (x :: xs).length := by simp
  generalize (x :: xs).length = n at *
  clear hb hs hG hne hx hg
  go_enter Try.func12, Try.ntmps12
  go_wp2
  refine wp_loop_rounds 1 ?_
  rw [rounds_succ]
  go_wp2
  go_ret2
  exact ⟨rfl, rfl⟩

set_option maxHeartbeats 400000 in
theorem take_any (b : Nat) (w : World) :
    Calls Try.prog 14 #[.pointer (some ⟨b, 0, none⟩)] w fun e w' => e = .returned (.func (.func 16) #[] #[.pointer (some ⟨w.heap.size, 0, none⟩)]) ∧ w.alloc (.cells #[.pointer (some ⟨b, 0, none⟩)] 24) = w' := by
  go_enter Try.func14, Try.ntmps14
  go_wp2
  go_ret
  exact ⟨rfl, rfl⟩

set_option maxHeartbeats 400000 in
theorem clone_nil (n c : Nat) (w : World) :
    Calls Try.prog 15 #[.slice none n c] w fun e w' => e = .returned (.slice none 0 0) ∧ w = w' := by
  have h1 := @Lib.run_eql_slice_nil Try.prog
  go_enter Try.func15, Try.ntmps15
  go_wp2
  go_ret
  exact ⟨rfl, rfl⟩

set_option maxHeartbeats 400000 in
theorem clone_any (v : Value) (n : Nat) (xs : List Int) (w : World) (h : Rd w 1 v n (xs.map (Value.int .i64))) (hn : n * 8 ≤ 140737488355328) :
    Calls Try.prog 15 #[v] w fun e w' => ∃ ao' cap', e = .returned (.slice ao' n cap') ∧ Sl w' 3 1 (.slice ao' n cap') n (xs.map (Value.int .i64)) ∧ Below w.heap.size w w' ∧ (∀ g, Value.ownBlock (.slice ao' n cap') = some g → w.heap.size ≤ g) := by
  obtain ⟨ao, cap, rfl, hcap, hm⟩ := h.cap
  cases ao with
  | none =>
    have h0 : n = 0 := by
      obtain ⟨_, ao, cap', he, _, _, hz, _⟩ := h
      cases he
      have := hz rfl
      omega
    refine (clone_nil n cap w).mono ?_
    rintro e w' ⟨rfl, rfl⟩
    subst h0
    have hx : xs.map (Value.int .i64) = [] := List.eq_nil_of_length_eq_zero (by simpa using h.1)
    rw [hx]
    exact ⟨_, _, rfl, Sl.nil _ _ _, Below.refl _ _, by simp [Value.ownBlock]⟩
  | some a =>
    have h1 := @Lib.run_eql_slice_nil Try.prog
    obtain ⟨i0, hi, hz0, hz1, hz2⟩ := info_parts Try.info3
    have H := Lib.hid h
    clear h
    have hf : Fr no w (w.alloc (.cells #[] 3)) := (Fr.refl _ w).alloc _
    have hs0 : Sl (w.alloc (.cells #[] 3)) 3 1 (.slice (some ⟨w.heap.size, 0, none⟩) 0 0) 0 [] := ⟨by simp, _, 0, rfl, Nat.le_refl _, by simp [maxLen], ⟨by simp, fun a h => by cases h; simp⟩, fun h => absurd h (Nat.lt_irrefl _)⟩
    have Hs0 := Lib.hid hs0
    clear hs0
    go_enter Try.func15, Try.ntmps15
    go_wp2_with (at_builtin; refine wpList_append_all (w.alloc (.cells #[] 3)) rfl _ _ 30 rfl 3 i0 (.int .i64 0) 1 8 Try.underlying30 hi hz0 hz1 hz2 rfl (by decide) _ _ _ rfl Hs0.out _ _ _ rfl (H.out.fr hf (fun _ _ _ f => f)) (by simp [Value.oneCell']) (by unfold maxLen; omega) (by omega) ?_)
    intro ao' cap' w' hs' hfr hor hkb
    have Hs' := Lib.hid hs'
    have Hor := Lib.hid hor
    clear hs' hor h1
    go_wp2
    go_ret
    refine ⟨ao', cap', rfl, Hs'.out, (hf.trans hfr (fun k hk e => ?_)).below, fun g hg => ?_⟩
    · simp [Value.ownBlock] at e; omega
    · rcases Hor.out with e | e
      · rw [e] at hg; simp [Value.ownBlock] at hg; omega
      · have := e g hg; omega

set_option maxHeartbeats 400000 in
theorem twin_any (b : Nat) (w : World) (size room : Int) (xs : List Int) (G : Option Nat) (h : Bat w b size room xs G) (hn : xs.length ≤ 1000) :
    Calls Try.prog 11 #[.pointer (some ⟨b, 0, none⟩)] w fun e w' => ∃ b' G', e = .returned (.pointer (some ⟨b', 0, none⟩)) ∧ w.heap.size ≤ b' ∧ (∀ g, G' = some g → w.heap.size ≤ g) ∧ Bat w' b' size room xs G' ∧ Below w.heap.size w w' := by
  obtain ⟨v, hb, hs, hG, hne⟩ := h
  have hc0 : w.cell? ⟨b, 0, none⟩ = some (.int .i64 size) := cell_of_block hb rfl
  have hc1 : w.cell? ⟨b, 1, none⟩ = some (.int .i64 room) := cell_of_block hb rfl
  obtain ⟨ao, cap, rfl, hcap, hm⟩ := hs.cap
  have hc2 : w.cell? ⟨b, 2, none⟩ = some (.slice ao xs.length cap) := cell_of_block hb rfl
  have hA : ∀ o, (w.alloc o).cell? ⟨b, 2, none⟩ = some (.slice ao xs.length cap) := fun o => Fr.cell ((Fr.refl no w).alloc o) hc2 (fun f => f)
  have Hs := Lib.hid hs
  clear hb hs hG hne
  go_enter Try.func11, Try.ntmps11
  go_wp2_with fail
  refine (clone_any _ _ xs _ (Hs.out.rd.fr ((Fr.refl no w).alloc _) (fun _ _ _ f => f)) (by omega)).mono ?_
  rintro e w1 ⟨ao', cap', rfl, hs1, hb1, hfr⟩
  have h0 := hb1.block w.heap.size (by simp)
  rw [World.alloc_heap_new] at h0
  have hcn : w1.cell? ⟨w.heap.size, 2, none⟩ = some (.slice ao xs.length cap) := cell_of_block h0 rfl
  have hfn : w1.frozen? ⟨w.heap.size, 2, none⟩ = false := frozen_of_block h0
  have hsz : w.heap.size < w1.heap.size := by have := hb1.size; simp at this; omega
  have H0 := Lib.hid h0
  have Hs1 := Lib.hid hs1
  have Hfr := Lib.hid hfr
  clear h0 hs1 hfr hA hc0 hc1 hc2
  go_wp2
  go_ret
  have hne : Value.ownBlock (.slice ao' xs.length cap') ≠ some w.heap.size := fun e => by have := Hfr.out _ e; simp at this; omega
  refine ⟨w.heap.size, _, rfl, Nat.le_refl _, fun g hg => ?_, ⟨_, heap_setC _ H0.out, ?_, rfl, hne⟩, ?_⟩
  · have := Hfr.out g hg; simp at this; omega
  · exact Hs1.out.fr ((Fr.refl (fun k => k = w.heap.size) w1).setCell (p := ⟨w.heap.size, 2, none⟩) (fun _ => rfl) _) (fun g hg e => hne (by rw [← e]; exact hg))
  · exact ((Fr.refl no w).alloc _).below.trans (hb1.mono (by simp)) |>.setCell (p := ⟨w.heap.size, 2, none⟩) (Nat.le_refl _) _
end Go.Proofs.Ytnchmnkiokofhaa
