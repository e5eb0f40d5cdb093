/- Package token: rows of drafts. -/
import Derived.Test.YtlohbikkhojlaaaTok0
import Derived.Test.YtlohbikkhojlaaaDel
namespace Go.Proofs.Ytlohbikkhojlaaa
open Go.RowKit Go.Shelf Go.XL
set_option linter.unusedVariables false
set_option linter.unusedSimpArgs false
attribute [local go_sem] Oper.semAt_some
set_option maxHeartbeats 400000 in
theorem clone_drafts (v : Value) (n : Nat) (xs : List Value) (w : World) (h : Rd w 6 v n xs) (h1x : ∀ u ∈ xs, u.oneCell' = true) (hn : n * 80 ≤ 140737488355328) :
    Calls Try.prog 33 #[v] w fun e w' => ∃ ao' cap', e = .returned (.slice ao' n cap') ∧ Ow w w' 34 6 (.slice ao' n cap') n xs := by
  obtain ⟨ao, cap, rfl, hcap, hm⟩ := h.cap
  have h1 := @Lib.run_eql_slice_nil Try.prog
  cases ao with
  | none =>
    have h0 : n = 0 := by
      obtain ⟨_, ao, cap', he, _, _, hz, _⟩ := h
      cases he
      have := hz rfl
      omega
    subst h0
    obtain rfl : xs = [] := List.eq_nil_of_length_eq_zero (by simpa using h.1)
    clear h1x
    go_enter Try.func33, Try.ntmps33
    go_wp2
    go_ret
    exact ⟨none, 0, rfl, Ow.nil (Fr.refl _ _) _ _⟩
  | some a =>
    obtain ⟨i0, hi, hz0, hz1, hz2⟩ := info_parts (show (Try.prog.info? 34).map (fun i => (i.zero, i.size, i.bytes)) = some (some (.agg #[.int .i64 0, .int .i64 0, .int .i64 0, .slice none 0 0, .string ByteArray.empty, .string ByteArray.empty]), 6, 80) by kernel_rfl)
    have H := Lib.hid h
    have H1x := Lib.hid h1x
    clear h h1x
    have hf : Fr no w (w.alloc (.cells #[] 34)) := (Fr.refl _ w).alloc _
    have hs0 : Sl (w.alloc (.cells #[] 34)) 34 6 (.slice (some ⟨w.heap.size, 0, none⟩) 0 0) 0 [] := ⟨by simp, _, 0, rfl, Nat.le_refl _, by simp [maxLen], ⟨by simp, fun a h => by cases h; simp⟩, fun h => absurd h (Nat.lt_irrefl _)⟩
    have Hs0 := Lib.hid hs0
    clear hs0
    go_enter Try.func33, Try.ntmps33
    go_wp2_with (at_builtin; refine wpList_append_all (w.alloc (.cells #[] 34)) rfl _ _ 41 rfl 34 i0 (.agg #[.int .i64 0, .int .i64 0, .int .i64 0, .slice none 0 0, .string ByteArray.empty, .string ByteArray.empty]) 6 80 Try.underlying41 hi hz0 hz1 hz2 rfl (by decide) _ _ _ rfl Hs0.out _ _ _ rfl (H.out.fr hf (fun _ _ _ f => f)) H1x.out (by unfold maxLen; omega) (by omega) ?_)
    intro ao' cap' w' hs' hfr hor hkb
    have Hs' := Lib.hid hs'
    have Hor := Lib.hid hor
    clear hs' hor h1
    go_wp2
    go_ret
    refine ⟨ao', cap', rfl, by simpa using Hs'.out, hf.trans hfr (fun k hk e => ?_), fun g hg => ?_⟩
    · simp [Value.ownBlock] at e; omega
    · rcases Hor.out with e | e
      · rw [e] at hg; simp [Value.ownBlock] at hg; omega
      · have := e g hg; omega

set_option maxHeartbeats 1000000 in
theorem delete_drafts (g off n cap i j : Nat) (xs : List Value) (w : World) (h : Sl w 34 6 (.slice (some ⟨g, off, none⟩) n cap) n xs) (h1x : ∀ u ∈ xs, u.oneCell' = true) (hij : i < j) (hjn : j ≤ n) :
    Calls Try.prog 50 #[.slice (some ⟨g, off, none⟩) n cap, .int .i64 i, .int .i64 j] w fun e w' => e = .returned (.slice (some ⟨g, off, none⟩) (i + (n - j)) cap) ∧
      Sl w' 34 6 (.slice (some ⟨g, off, none⟩) (i + (n - j)) cap) (i + (n - j)) (xs.take (i * 6) ++ xs.drop (j * 6)) ∧ Fr (fun k => k = g) w w' := by
  obtain ⟨_, _, he, hnc, hcm⟩ := h.cap
  cases he
  obtain ⟨i0, hi, hz0, hz1, hz2⟩ := info_parts (show (Try.prog.info? 34).map (fun i => (i.zero, i.size, i.bytes)) = some (some (.agg #[.int .i64 0, .int .i64 0, .int .i64 0, .slice none 0 0, .string ByteArray.empty, .string ByteArray.empty]), 6, 80) by kernel_rfl)
  have c1 := run_cut (P := Try.prog) 41 34 i0 6 Try.underlying41 hi hz1 ⟨g, off, none⟩ n cap i j (by omega) (by omega)
  have c2 := run_cutTo (P := Try.prog) 41 34 i0 6 Try.underlying41 hi hz1 ⟨g, off, none⟩ n cap i (by omega)
  obtain ⟨ao2, he2, c3, c4⟩ := run_cutFrom (P := Try.prog) 41 34 i0 6 Try.underlying41 hi hz1 .i64 (some ⟨g, off, none⟩) n cap j (by omega) (j : Int) rfl
  have hao : ao2 = if cap = j then some ⟨g, off, none⟩ else some ((⟨g, off, none⟩ : Addr).add (j * 6)) := by
    simp only [cutFrom] at he2
    have := (Value.slice.inj he2).1
    rw [← this]
    split <;> rfl
  have hdw : Fr no w w.drew := (Fr.refl no w).drewN 1
  obtain ⟨w1, hrun, hs1, hf1⟩ := run_del (P := Try.prog) w.drew 41 34 i0 6 Try.underlying41 hi hz1 (by decide) g off n cap i j xs (h.fr hdw (fun _ _ f => f)) h1x (by omega) hjn (by omega) ao2 hao
  obtain ⟨w2, hrun2, hs2, hf2⟩ := run_clear (P := Try.prog) w1 41 34 (.agg #[.int .i64 0, .int .i64 0, .int .i64 0, .slice none 0 0, .string ByteArray.empty, .string ByteArray.empty]) 6 Try.underlying41 (fun w => by kernel_rfl) rfl (by decide) (by simp [Value.cells, Value.oneCell']) g off (i + (n - j)) cap (j - i) (cap - (i + (n - j))) _ hs1 (by omega) (by omega)
  have c5 := run_cut (P := Try.prog) 41 34 i0 6 Try.underlying41 hi hz1 ⟨g, off, none⟩ (i + (n - j)) cap (i + (n - j)) n (by omega) hnc
  rw [if_neg (by omega), Addr.add_lit, show n - (i + (n - j)) = j - i by omega] at c5
  have Hfin : Hid (Sl w2 34 6 (.slice (some ⟨g, off, none⟩) (i + (n - j)) cap) (i + (n - j)) (xs.take (i * 6) ++ xs.drop (j * 6)) ∧ Fr (fun k => k = g) w w2) := Lib.hid ⟨hs2, ((Fr.mono hdw (fun _ _ f => f.elim)).trans' hf1).trans' hf2⟩
  have hne : ((i : Int) == (j : Int)) = false := by simp; omega
  clear h h1x hs1 hf1 hs2 hf2 hi hz0 hz1 hz2 he2 hao hdw
  generalize hm : i + (n - j) = m at *
  have Hm := Lib.hid hm
  clear hm
  try simp only [Nat.mul_one] at hrun2 c5
  go_enter Try.func50, Try.ntmps50
  go_wp2
  refine wp_held (fun _ => True) (by kernel_rfl) ?_ (fun hHeld => ?_)
  · trivial
  refine held_take (v := ?_) 0 rfl (by kernel_rfl) (.inl ⟨by rfl, ?_⟩) hHeld ?_
  rotate_left
  · intro w hSw; (try dsimp only at hSw); first | (go_simp; done) | (go_simp; with_reducible rfl)
  try simp only [Act.put, List.setIfInBounds_toArray, List.set_cons_zero, List.set_cons_succ]
  refine held_take (v := ?_) 1 rfl (by kernel_rfl) (.inl ⟨by rfl, ?_⟩) hHeld ?_
  rotate_left
  · intro w hSw; (try dsimp only at hSw); first | (go_simp; done) | (go_simp; with_reducible rfl)
  try simp only [Act.put, List.setIfInBounds_toArray, List.set_cons_zero, List.set_cons_succ]
  refine held_take (v := ?_) 2 rfl (by kernel_rfl) (.inl ⟨by rfl, ?_⟩) hHeld ?_
  rotate_left
  · intro w hSw; (try dsimp only at hSw); first | (go_simp; done) | (go_simp; with_reducible rfl)
  try simp only [Act.put, List.setIfInBounds_toArray, List.set_cons_zero, List.set_cons_succ]
  refine held_take (v := ?_) 3 rfl (by kernel_rfl) (.inl ⟨by rfl, ?_⟩) hHeld ?_
  rotate_left
  · intro w hSw; (try dsimp only at hSw); first | (go_simp; done) | (go_simp; with_reducible rfl)
  try simp only [Act.put, List.setIfInBounds_toArray, List.set_cons_zero, List.set_cons_succ]
  refine held_take (v := ?_) 4 rfl (by kernel_rfl) (.inl ⟨by rfl, ?_⟩) hHeld ?_
  rotate_left
  · intro w hSw; (try dsimp only at hSw); first | (go_simp; done) | (go_simp; with_reducible rfl)
  try simp only [Act.put, List.setIfInBounds_toArray, List.set_cons_zero, List.set_cons_succ]
  refine held_take (v := ?_) 5 rfl (by kernel_rfl) (.inl ⟨by rfl, ?_⟩) hHeld ?_
  rotate_left
  · intro w hSw; (try dsimp only at hSw); first | (go_simp; done) | (go_simp; with_reducible rfl)
  try simp only [Act.put, List.setIfInBounds_toArray, List.set_cons_zero, List.set_cons_succ]
  refine held_call 6 rfl (by kernel_rfl) (fun K hK => ?_)
  rw [if_pos (by rfl)]
  refine wp_append rfl rfl rfl (hrun _) ?_
  refine hK.out _ _ ?_ (fun hHeld' => ?_)
  · trivial
  clear hK K hHeld
  have hHeld := hHeld'
  clear hHeld'
  try simp only [Act.put, List.setIfInBounds_toArray, List.set_cons_zero, List.set_cons_succ]
  refine held_take (v := ?_) 7 rfl (by kernel_rfl) (.inl ⟨by rfl, ?_⟩) hHeld ?_
  rotate_left
  · intro w hSw; (try dsimp only at hSw); first | (go_simp; done) | (go_simp; with_reducible rfl)
  try simp only [Act.put, List.setIfInBounds_toArray, List.set_cons_zero, List.set_cons_succ]
  refine held_done (by kernel_rfl) ?_
  try clear hHeld
  go_wp2
  go_ret
  exact ⟨rfl, Hfin.out⟩

end Go.Proofs.Ytlohbikkhojlaaa
