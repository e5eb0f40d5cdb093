/- Contracts of the package batch, at ints. -/
import Derived.Test.YtnchmnkiokofhaaRows
import Derived.Test.YtnchmnkiokofhaaSl
namespace Go.Proofs.Ytnchmnkiokofhaa
open Go.RowKit Go.Shelf Go.XL
set_option linter.unusedVariables false
set_option linter.unusedSimpArgs false
attribute [local go_sem] Oper.semAt_some

set_option maxHeartbeats 400000 in
theorem new_bad (size room : Int) (w : World) (h : room < 1 ∨ 64 < room ∨ size < 1 ∨ room < size) :
    Calls Try.prog 6 #[.int .i64 size, .int .i64 room] w fun e w' => e = .returned (.tuple #[.pointer none, .int .i64 1]) ∧ w = w' := by
  go_enter Try.func6, Try.ntmps6
  by_cases h1 : room < 1
  · go_wp2
    go_ret2
    exact ⟨rfl, rfl⟩
  · by_cases h2 : 64 < room
    · go_wp2
      go_ret2
      exact ⟨rfl, rfl⟩
    · by_cases h3 : size < 1
      · go_wp2
        go_ret2
        exact ⟨rfl, rfl⟩
      · have h4 : room < size := by omega
        go_wp2
        go_ret2
        exact ⟨rfl, rfl⟩

set_option maxHeartbeats 400000 in
theorem new_ok (size room : Int) (w : World) (h1 : 1 ≤ room) (h2 : room ≤ 64) (h3 : 1 ≤ size) (h4 : size ≤ room) :
    Calls Try.prog 6 #[.int .i64 size, .int .i64 room] w fun e w' => e = .returned (.tuple #[.pointer (some ⟨w.heap.size, 0, none⟩), .int .i64 0]) ∧ w.alloc (.cells #[.int .i64 size, .int .i64 room, .slice none 0 0] 42) = w' := by
  go_enter Try.func6, Try.ntmps6
  go_wp2
  go_ret2
  exact ⟨rfl, rfl⟩

/-- A batch at block b, its slice in block G (or in none). -/
def Bat (w : World) (b : Nat) (size room : Int) (xs : List Int) (G : Option Nat) : Prop :=
  ∃ v : Value, w.heap[b]? = some (.cells #[.int .i64 size, .int .i64 room, v] 42 (0, 0)) ∧ Sl w 3 1 v xs.length (xs.map (Value.int .i64)) ∧ v.ownBlock = G ∧ G ≠ some b

theorem Bat.keep {w w' : World} {b : Nat} {size room : Int} {xs : List Int} {G : Option Nat} (h : Bat w b size room xs G)
    (hk : ∀ k o, (k = b ∨ G = some k) → w.heap[k]? = some o → isBook o = false → w'.heap[k]? = some o) (hsz : w.heap.size ≤ w'.heap.size) : Bat w' b size room xs G := by
  obtain ⟨v, hb, hs, hG, hne⟩ := h
  exact ⟨v, hk b _ (.inl rfl) hb rfl, hs.keep (fun g o hg ho hbk => hk g o (.inr (by rw [← hG]; exact hg)) ho hbk) hsz, hG, hne⟩
theorem Bat.bk {B : Nat} {w w' : World} {b : Nat} {size room : Int} {xs : List Int} {G : Option Nat} (h : Bat w b size room xs G) (hf : Bk B w w') : Bat w' b size room xs G :=
  h.keep (fun _ _ _ ho hb => hf.heap ho hb) hf.size
theorem Bat.fr {F : Nat → Prop} {w w' : World} {b : Nat} {size room : Int} {xs : List Int} {G : Option Nat} (h : Bat w b size room xs G) (hf : Fr F w w') (hF : ∀ k, (k = b ∨ G = some k) → ¬ F k) : Bat w' b size room xs G :=
  h.keep (fun k _ hk ho _ => hf.heap ho (hF k hk)) hf.size
theorem Bat.lt {w : World} {b : Nat} {size room : Int} {xs : List Int} {G : Option Nat} (h : Bat w b size room xs G) : b < w.heap.size ∧ ∀ g, G = some g → g < w.heap.size := by
  obtain ⟨v, hb, hs, hG, hne⟩ := h
  exact ⟨(Array.getElem?_eq_some_iff.1 hb).1, fun g hg => hs.lt g (hG.trans hg)⟩

set_option maxHeartbeats 400000 in
theorem len_any (b : Nat) (w : World) (size room : Int) (xs : List Int) (G : Option Nat) (h : Bat w b size room xs G) :
    Calls Try.prog 8 #[.pointer (some ⟨b, 0, none⟩)] w fun e w' => e = .returned (.int .i64 xs.length) ∧ w = w' := by
  obtain ⟨v, hb, hs, hG, hne⟩ := h
  obtain ⟨ao, cap, rfl, hn, hm⟩ := hs.cap
  have hc := cell_of_block (j := 2) hb rfl
  clear hb hs hG hne
  go_enter Try.func8, Try.ntmps8
  go_wp2
  go_ret
  exact ⟨rfl, rfl⟩

set_option maxHeartbeats 400000 in
theorem full_any (b : Nat) (w : World) (size room : Int) (xs : List Int) (G : Option Nat) (h : Bat w b size room xs G) :
    Calls Try.prog 13 #[.pointer (some ⟨b, 0, none⟩)] w fun e w' => e = .returned (.bool (decide (size ≤ xs.length))) ∧ ∃ q, w' = w.drewN q := by
  obtain ⟨v, hb, hs, hG, hne⟩ := h
  obtain ⟨ao, cap, rfl, hn, hm⟩ := hs.cap
  have hc0 := cell_of_block (j := 0) hb rfl
  have hc := cell_of_block (j := 2) hb rfl
  clear hb hs hG hne
  go_enter Try.func13, Try.ntmps13
  go_wp2
  go_quiet (fail)
  go_wp2
  go_ret
  exact ⟨rfl, _, rfl⟩

set_option maxHeartbeats 400000 in
theorem add_full (b : Nat) (x : Int) (w : World) (size room : Int) (xs : List Int) (G : Option Nat) (h : Bat w b size room xs G) (hr : room ≤ xs.length) :
    Calls Try.prog 7 #[.pointer (some ⟨b, 0, none⟩), .int .i64 x] w fun e w' => e = .returned (.int .i64 6) ∧ ∃ q, w' = w.drewN q := by
  obtain ⟨v, hb, hs, hG, hne⟩ := h
  obtain ⟨ao, cap, rfl, hn, hm⟩ := hs.cap
  have hc0 := cell_of_block (j := 1) hb rfl
  have hc := cell_of_block (j := 2) hb rfl
  clear hb hs hG hne
  go_enter Try.func7, Try.ntmps7
  go_wp2
  go_quiet (fail)
  go_wp2
  go_ret
  exact ⟨rfl, _, rfl⟩

theorem Try.info3 : (Try.prog.info? 3).map (fun i => (i.zero, i.size, i.bytes)) = some (some (.int .i64 0), 1, 8) := by kernel_rfl

set_option maxHeartbeats 400000 in
theorem add_ok (b : Nat) (x : Int) (w : World) (size room : Int) (xs : List Int) (G : Option Nat) (h : Bat w b size room xs G) (hr : (xs.length : Int) < room) (h64 : room ≤ 64) :
    Calls Try.prog 7 #[.pointer (some ⟨b, 0, none⟩), .int .i64 x] w fun e w' => e = .returned (.int .i64 0) ∧ ∃ G', (G' = G ∨ ∀ g, G' = some g → w.heap.size ≤ g) ∧ Bat w' b size room (xs ++ [x]) G' ∧ Fr (fun k => k = b ∨ G = some k) w w' ∧ Kb w w' := by
  obtain ⟨v, hb, hs, hG, hne⟩ := h
  obtain ⟨ao, cap, rfl, hn, hm⟩ := hs.cap
  have hc0 := cell_of_block (j := 1) hb rfl
  have hc := cell_of_block (j := 2) hb rfl
  have Hb := Lib.hid hb
  have Hs := Lib.hid hs
  have HG := Lib.hid hG
  clear hb hs hG
  go_enter Try.func7, Try.ntmps7
  go_wp2
  go_quiet (fail)
  obtain ⟨wq, hwq⟩ : ∃ wq, wq = w.drewN nq := ⟨_, rfl⟩
  rw [← hwq]
  obtain ⟨i0, hi, hz0, hz1, hz2⟩ := info_parts Try.info3
  have hfq : Fr no w wq := by rw [hwq]; exact (Fr.refl _ w).drewN _
  have hkq : Kb w wq := by rw [hwq]; exact Kb.drewN w _
  have hcq : wq.cell? ⟨b, 2, none⟩ = some (.slice ao xs.length cap) := hfq.cell hc (fun f => f)
  have hbn : ¬ Value.ownBlock (.slice ao xs.length cap) = some b := fun e => hne (by rw [← HG.out]; exact e)
  clear hwq hc hc0
  go_wp2_with (at_builtin; go_loud (refine wpList_append_one wq (.int .i64 x) 3 rfl _ _ 30 rfl 3 i0 (.int .i64 0) 8 Try.underlying30 hi hz0 hz1 hz2 rfl _ xs.length _ rfl (Hs.out.fr hfq (fun _ _ f => f)) rfl rfl (by unfold maxLen; omega) (by omega) ?_))
  intro ao' cap' w' hs' hfr hor hkb
  have hb' := hfr.heap (hfq.heap Hb.out (fun f => f)) hbn
  have hc2 : w'.cell? ⟨b, 2, none⟩ = some (.slice ao xs.length cap) := cell_of_block hb' rfl
  have hf2 : w'.frozen? ⟨b, 2, none⟩ = false := frozen_of_block hb'
  have Hb' := Lib.hid hb'
  have Hs' := Lib.hid hs'
  have Hor := Lib.hid hor
  clear hb' hs' hcq hz0 hz1 hz2 hor
  go_wp2
  go_ret
  have hnb : Value.ownBlock (.slice ao' (xs.length + 1) cap') ≠ some b := by
    rcases Hor.out with e | e
    · rw [e]; exact hbn
    · intro h
      have := e b h
      have := hfq.size
      have := (Array.getElem?_eq_some_iff.1 Hb.out).1
      omega
  refine ⟨rfl, _, ?_, ⟨_, heap_setC _ Hb'.out, ?_, rfl, hnb⟩, ?_, ?_⟩
  · rcases Hor.out with e | e
    · exact .inl (e.trans HG.out)
    · exact .inr (fun g hg => Nat.le_trans hfq.size (e g hg))
  · simp only [List.length_append, List.map_append, List.length_cons, List.length_nil, List.map_cons, List.map_nil, Nat.zero_add]
    exact Hs'.out.fr ((Fr.refl (fun k => k = b) w').setCell (p := ⟨b, 2, none⟩) (fun _ => rfl) _) (fun g hg e => hnb (by rw [← e]; exact hg))
  · exact ((hfq.mono (fun _ _ f => f.elim)).trans' (hfr.mono (fun k _ h => .inr (by rw [← HG.out]; exact h)))).setCell (p := ⟨b, 2, none⟩) (fun _ => .inl rfl) _
  · exact (hkq.trans hkb).trans (Kb.setCell _ _ _)
end Go.Proofs.Ytnchmnkiokofhaa
